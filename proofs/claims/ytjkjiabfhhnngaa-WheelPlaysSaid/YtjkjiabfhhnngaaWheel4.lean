import Derived.Test.YtjkjiabfhhnngaaWheel3
import Derived.Test.YtjkjiabfhhnngaaSortK
import Derived.Test.YtjkjiabfhhnngaaSortDue
import Derived.Shelf.SlSortCmp.NoneTotal
/-! Things in order: wheel's compare, things, All. -/
namespace Sg
open Go Go.RowKit
/-- nothing but new blocks, and draws -/
def GrowsD (a b : World) : Prop := ∃ n os, b = Go.Sort.grow (a.drewN n) os
theorem GrowsD.rf (a : World) : GrowsD a a := ⟨0, #[], by rw [Go.Sort.grow_empty]; rfl⟩
theorem GrowsD.tr (a b c : World) (h : GrowsD a b) (k : GrowsD b c) : GrowsD a c := by
  obtain ⟨n, os, rfl⟩ := h
  obtain ⟨m, os', rfl⟩ := k
  exact ⟨n + m, os ++ os', by simp only [Go.Sort.grow, World.drewN, Array.append_assoc, Nat.add_assoc]⟩
theorem GrowsD.alloc (a : World) (o : Obj) : GrowsD a (a.alloc o) := ⟨0, #[o], by rw [Go.Sort.alloc_eq_grow]; rfl⟩
theorem GrowsD.drew (a : World) : GrowsD a a.drew := ⟨1, #[], by rw [Go.Sort.grow_empty]; rfl⟩
theorem GrowsD.keep {a b : World} (h : GrowsD a b) : Keep [] a b := by
  obtain ⟨n, os, rfl⟩ := h
  refine ⟨rfl, rfl, rfl, by simp [Go.Sort.grow, World.drewN], fun k hk _ => ?_⟩
  simp only [Go.Sort.grow, World.drewN]
  rw [Array.getElem?_append_left hk]
theorem wp_region_hisD {P : Program} {Q : Exit → Act → World → Prop} {id : Nat} {os : List Oper} {a : Act} {w : World} (G : World → World → Prop) (ht : ∀ a b c, G a b → G b c → G a c) (hrf : ∀ a, G a a) (loud : List Nat) (lev : Nat → Nat) (hm : P.follows .mixedOrders = true) (hok : hisOk os.toArray loud lev = true)
    (h : HisW P os.toArray G loud lev Q 0 os (fun _ => w.drew) a w.drew) : (Code.region id os.toArray true).wp P Q a w :=
  wp_region_any hm (wpAny_hlit ht hrf hok h.out)

def cmpI (x y : Int) : Int := if x < y then -1 else if y < x then 1 else 0
def cmpD (p q : Int × Nat) : Int := if cmpI p.2 q.2 ≠ 0 then cmpI p.2 q.2 else cmpI p.1 q.1
theorem cmpI_lt {x y : Int} (h : x < y) : cmpI x y = -1 := if_pos h
theorem cmpI_gt {x y : Int} (h : y < x) : cmpI x y = 1 := by unfold cmpI; rw [if_neg (by omega), if_pos h]
theorem cmpI_eq (x : Int) : cmpI x x = 0 := by unfold cmpI; rw [if_neg (by omega), if_neg (by omega)]
theorem ltOf_cmpD (p q : Int × Nat) : Go.Proofs.ltOf cmpD p q = dueLt p q := by
  rw [Bool.eq_iff_iff, dueLt_iff]
  unfold Go.Proofs.ltOf cmpD
  rw [decide_eq_true_iff]
  rcases Nat.lt_trichotomy p.2 q.2 with h | h | h
  · rw [cmpI_lt (show (p.2 : Int) < q.2 by omega), if_pos (by decide)]
    exact ⟨fun _ => .inl h, fun _ => by decide⟩
  · rw [h, cmpI_eq, if_neg (by decide)]
    rcases Int.lt_trichotomy p.1 q.1 with k | k | k
    · rw [cmpI_lt k]
      exact ⟨fun _ => .inr ⟨rfl, k⟩, fun _ => by decide⟩
    · rw [k, cmpI_eq]
      omega
    · rw [cmpI_gt k]
      omega
  · rw [cmpI_gt (show (q.2 : Int) < p.2 by omega), if_pos (by decide)]
    omega
theorem swoD : Go.Sort.SWO (Go.Proofs.ltOf cmpD) where
  irrefl p := by
    rw [ltOf_cmpD, Bool.eq_false_iff, Ne, dueLt_iff]
    omega
  trans p q r h k := by
    rw [ltOf_cmpD] at *
    exact dueLt_trans h k
  ntrans p q r h k := by
    rw [ltOf_cmpD, Bool.eq_false_iff, Ne, dueLt_iff] at *
    omega
def dueE (p : Int × Nat) : List Value := [.int .i64 p.1, .int .i64 (p.2 : Int)]
theorem dueLies : Lies dueE 2 := ⟨fun _ => rfl, fun x u hu => by
  simp [dueE] at hu
  rcases hu with rfl | rfl <;> rfl⟩
/-- there is one order -/
theorem ord_unique {l k : List (Int × Nat)} (h : l.Perm k) (hl : l.Pairwise (fun p q => dueLt p q = true)) (hk : k.Pairwise (fun p q => dueLt p q = true)) : l = k :=
  h.eq_of_pairwise (fun a b _ _ h1 h2 => by
    rw [dueLt_iff] at *
    omega) hl hk
end Sg

namespace Go.Proofs.Ytjkjiabfhhnngaa
open Go.RowKit Go.Shelf Sg
attribute [local go_sem] Oper.semAt_some
set_option linter.unusedSimpArgs false
set_option linter.unusedVariables false

set_option maxRecDepth 100000 in
set_option maxHeartbeats 1000000 in
theorem isNaN_any (x : Int) (w : World) : Calls Try.prog 177 #[.int .i64 x] w fun e w' => e = .returned (.bool false) ∧ w = w' := by
  go_enter Try.func177, Try.ntmps177
  go_wp2
  go_ret
  exact ⟨by simp, rfl⟩
set_option maxRecDepth 100000 in
set_option maxHeartbeats 1000000 in
theorem compareI_any (x y : Int) (w : World) : Calls Try.prog 164 #[.int .i64 x, .int .i64 y] w fun e w' => e = .returned (.int .i64 (cmpI x y)) ∧ w = w' := by
  have h1 := isNaN_any x w
  have h2 := isNaN_any y w
  unfold cmpI
  by_cases h : x < y
  · go_enter Try.func164, Try.ntmps164
    go_wp2_with fail
    refine h1.mono ?_
    rintro e w1 ⟨rfl, rfl⟩
    go_wp2_with fail
    refine h2.mono ?_
    rintro e w1 ⟨rfl, rfl⟩
    go_wp2
    go_ret
    exact ⟨by simp [h], rfl⟩
  · by_cases k : y < x
    · go_enter Try.func164, Try.ntmps164
      go_wp2_with fail
      refine h1.mono ?_
      rintro e w1 ⟨rfl, rfl⟩
      go_wp2_with fail
      refine h2.mono ?_
      rintro e w1 ⟨rfl, rfl⟩
      go_wp2
      go_ret
      exact ⟨by simp [h, k], rfl⟩
    · go_enter Try.func164, Try.ntmps164
      go_wp2_with fail
      refine h1.mono ?_
      rintro e w1 ⟨rfl, rfl⟩
      go_wp2_with fail
      refine h2.mono ?_
      rintro e w1 ⟨rfl, rfl⟩
      go_wp2
      go_ret
      exact ⟨by simp [h, k], rfl⟩
set_option maxRecDepth 100000 in
set_option maxHeartbeats 1000000 in
theorem or2_any (g : Nat) (x y : Int) (w : World) (c0 : w.cell? ⟨g, 0, none⟩ = some (.int .i64 x)) (c1 : w.cell? ⟨g, 1, none⟩ = some (.int .i64 y)) :
    Calls Try.prog 163 #[.slice (some ⟨g, 0, none⟩) 2 2] w fun e w' => e = .returned (.int .i64 (if x ≠ 0 then x else y)) ∧ w = w' := by
  go_enter Try.func163, Try.ntmps163
  go_wp2
  go_loopw [8] (fun i wr => ∃ j : Nat, j ≤ 2 ∧ i = .int .i64 j ∧ (0 < j → x = 0) ∧ (1 < j → y = 0) ∧ w = wr) (fun i _ => 2 - (intOf i).toNat)
  case atStart => exact ⟨0, by omega, rfl, by omega, by omega, rfl⟩
  case round =>
    obtain ⟨j, hj, rfl, h1, h2, rfl⟩ := hrel
    by_cases hj0 : j = 0
    · subst hj0
      by_cases hx : x = 0
      · subst hx
        go_wp2
        go_roundw
        case rel => exact ⟨1, by omega, by go_num, by simp, by omega, by simp⟩
        case measure => simp [intOf]
      · have t1 : (x == 0) = false := by simpa using hx
        have t2 : (x != 0) = true := by simpa using hx
        go_wp2
        go_ret
        exact ⟨by simp [hx], rfl⟩
    · obtain rfl := h1 (by omega)
      by_cases hj1 : j = 1
      · subst hj1
        by_cases hy : y = 0
        · subst hy
          go_wp2
          go_roundw
          case rel => exact ⟨2, by omega, by go_num, by simp, by simp, by simp⟩
          case measure => simp [intOf]
        · have t1 : (y == 0) = false := by simpa using hy
          have t2 : (y != 0) = true := by simpa using hy
          go_wp2
          go_ret
          exact ⟨by simp, rfl⟩
      · obtain rfl : j = 2 := by omega
        obtain rfl := h2 (by omega)
        go_wp2
        go_ret
        exact ⟨by simp, rfl⟩

set_option maxRecDepth 100000 in
set_option maxHeartbeats 1000000 in
set_option maxHeartbeats 4000000 in
theorem compareD_any (p q : Int × Nat) (W : World) : Calls Try.prog 150 #[.agg #[.int .i64 p.1, .int .i64 (p.2 : Int)], .agg #[.int .i64 q.1, .int .i64 (q.2 : Int)]] W fun e w' => e = .returned (.int .i64 (cmpD p q)) ∧ GrowsD W w' := by
  obtain ⟨n1, a1⟩ := p
  obtain ⟨n2, a2⟩ := q
  have hb1 := heap_alloc_new W (.cells #[.int .i64 n1, .int .i64 (a1 : Int)] 128)
  have hb2 := heap_alloc_new (W.alloc (.cells #[.int .i64 n1, .int .i64 (a1 : Int)] 128)) (.cells #[.int .i64 n2, .int .i64 (a2 : Int)] 128)
  have es : (W.alloc (.cells #[.int .i64 n1, .int .i64 (a1 : Int)] 128)).heap.size = W.heap.size + 1 := by simp
  rw [es] at hb2
  obtain ⟨w2, hw2⟩ : ∃ w2, (W.alloc (.cells #[.int .i64 n1, .int .i64 (a1 : Int)] 128)).alloc (.cells #[.int .i64 n2, .int .i64 (a2 : Int)] 128) = w2 := ⟨_, rfl⟩
  have hG : GrowsD W w2 := by rw [← hw2]; exact GrowsD.tr _ _ _ (GrowsD.alloc _ _) (GrowsD.alloc _ _)
  have hb1' : w2.heap[W.heap.size]? = some (.cells #[.int .i64 n1, .int .i64 (a1 : Int)] 128 (0, 0)) := by rw [← hw2]; exact ((Keep.refl [] _).alloc _).blk (by simp) hb1
  rw [hw2] at hb2
  have k0 := fun w' (h : Keep [] w2 w') => cell_of_row w' _ 0 _ _ _ (h.blk (by simp) hb1')
  have k1 := fun w' (h : Keep [] w2 w') => cell_of_row w' _ 1 _ _ _ (h.blk (by simp) hb1')
  have k2 := fun w' (h : Keep [] w2 w') => cell_of_row w' _ 0 _ _ _ (h.blk (by simp) hb2)
  have k3 := fun w' (h : Keep [] w2 w') => cell_of_row w' _ 1 _ _ _ (h.blk (by simp) hb2)
  simp at k0 k1 k2 k3
  have HW := Lib.hid hw2
  have HG := Lib.hid hG
  clear hb1 hb2 hb1' hw2 es hG
  go_enter Try.func150, Try.ntmps150
  go_wp2_with fail
  rw [HW.out]
  refine wp_region_hisD GrowsD GrowsD.tr GrowsD.rf [10] (fun j => if j = 11 then 11 else 0) (by kernel_rfl) (by kernel_rfl) ?_
  have hkd : Keep [] w2 w2.drew := (Keep.refl [] w2).drew
  obtain ⟨w3, hw3⟩ : ∃ w3, w2.drew = w3 := ⟨_, rfl⟩
  have hG3 : GrowsD w2 w3 := by rw [← hw3]; exact GrowsD.drew _
  rw [hw3] at hkd ⊢
  clear hw3
  have q0 := fun w' (h' : GrowsD w3 w') => k0 w' (hkd.trans h'.keep)
  have q1 := fun w' (h' : GrowsD w3 w') => k1 w' (hkd.trans h'.keep)
  have q2 := fun w' (h' : GrowsD w3 w') => k2 w' (hkd.trans h'.keep)
  have q3 := fun w' (h' : GrowsD w3 w') => k3 w' (hkd.trans h'.keep)
  clear k0 k1 k2 k3
  (refine his_q rfl rfl (fun K hK => ?_); apply Exists.intro; refine ⟨fun w' hC => ?_, ?_⟩; ((try simp [Sg.upd] at hC); go_simp <;> rfl); go_simp; refine hK _ _ ?_; clear hK K)
  (refine his_q rfl rfl (fun K hK => ?_); apply Exists.intro; refine ⟨fun w' hC => ?_, ?_⟩; ((try simp [Sg.upd] at hC); go_simp <;> rfl); go_simp; refine hK _ _ ?_; clear hK K)
  (refine his_q rfl rfl (fun K hK => ?_); apply Exists.intro; refine ⟨fun w' hC => ?_, ?_⟩; ((try simp [Sg.upd] at hC); go_simp <;> rfl); go_simp; refine hK _ _ ?_; clear hK K)
  (refine his_q rfl rfl (fun K hK => ?_); apply Exists.intro; refine ⟨fun w' hC => ?_, ?_⟩; ((try simp [Sg.upd] at hC); go_simp <;> rfl); go_simp; refine hK _ _ ?_; clear hK K)
  refine his_c rfl rfl (.int .i64 (cmpI (a1 : Int) (a2 : Int))) (fun K hK => ?_)
  refine ⟨fun w' hC => Yields.call 164 #[.int .i64 (a1 : Int), .int .i64 (a2 : Int)] ?_ (by kernel_rfl) ?_, ?_⟩
  · go_simp
  · exact compareI_any _ _ _
  go_simp
  refine hK _ _ ?_
  clear hK K
  (refine his_q rfl rfl (fun K hK => ?_); apply Exists.intro; refine ⟨fun w' hC => ?_, ?_⟩; ((try simp [Sg.upd] at hC); go_simp <;> rfl); go_simp; refine hK _ _ ?_; clear hK K)
  (refine his_q rfl rfl (fun K hK => ?_); apply Exists.intro; refine ⟨fun w' hC => ?_, ?_⟩; ((try simp [Sg.upd] at hC); go_simp <;> rfl); go_simp; refine hK _ _ ?_; clear hK K)
  (refine his_q rfl rfl (fun K hK => ?_); apply Exists.intro; refine ⟨fun w' hC => ?_, ?_⟩; ((try simp [Sg.upd] at hC); go_simp <;> rfl); go_simp; refine hK _ _ ?_; clear hK K)
  (refine his_q rfl rfl (fun K hK => ?_); apply Exists.intro; refine ⟨fun w' hC => ?_, ?_⟩; ((try simp [Sg.upd] at hC); go_simp <;> rfl); go_simp; refine hK _ _ ?_; clear hK K)
  refine his_c rfl rfl (.int .i64 (cmpI n1 n2)) (fun K hK => ?_)
  refine ⟨fun w' hC => Yields.call 164 #[.int .i64 n1, .int .i64 n2] ?_ (by kernel_rfl) ?_, ?_⟩
  · go_simp
  · exact compareI_any _ _ _
  go_simp
  refine hK _ _ ?_
  clear hK K
  obtain ⟨c1, hc1⟩ : ∃ c1, cmpI (a1 : Int) (a2 : Int) = c1 := ⟨_, rfl⟩
  obtain ⟨c2, hc2⟩ : ∃ c2, cmpI n1 n2 = c2 := ⟨_, rfl⟩
  obtain ⟨cr, hcr⟩ : ∃ cr, (if c1 ≠ 0 then c1 else c2) = cr := ⟨_, rfl⟩
  rw [hc1, hc2]
  (refine his_l rfl rfl (fun K hK => ?_); go_simp)
  refine hK _ _ (GrowsD.alloc _ _) ?_
  clear hK K
  have hb4 := heap_alloc_new w3 (.cells #[.int .i64 c1, .int .i64 c2] 3)
  obtain ⟨w4, hw4⟩ : ∃ w4, w3.alloc (.cells #[.int .i64 c1, .int .i64 c2] 3) = w4 := ⟨_, rfl⟩
  have hG4 : GrowsD w3 w4 := by rw [← hw4]; exact GrowsD.alloc _ _
  rw [hw4] at hb4 ⊢
  clear hw4
  have y0 := fun w' (h : GrowsD w4 w') => cell_of_row w' _ 0 _ _ _ (h.keep.blk (by simp) hb4)
  have y1 := fun w' (h : GrowsD w4 w') => cell_of_row w' _ 1 _ _ _ (h.keep.blk (by simp) hb4)
  simp at y0 y1
  refine his_c rfl rfl (.int .i64 cr) (fun K hK => ?_)
  refine ⟨fun w' hC => Yields.call 163 #[.slice (some ⟨w3.heap.size, 0, none⟩) 2 2] ?_ (by kernel_rfl) ?_, ?_⟩
  · go_simp
  · simp [Sg.upd] at hC
    rw [← hcr]
    exact or2_any _ _ _ _ (y0 w' hC) (y1 w' hC)
  go_simp
  refine hK _ _ ?_
  clear hK K
  (repeat (first | (refine his_q rfl rfl (fun K hK => ?_); apply Exists.intro; refine ⟨fun w' hC => ?_, ?_⟩; ((try simp [Sg.upd] at hC); go_simp <;> rfl); go_simp; refine hK _ _ ?_; clear hK K) | (refine his_s rfl (fun K hK => ?_); go_simp; refine hK _ _ ?_; clear hK K)))
  refine his_nil ?_
  have hr : cr = cmpD (n1, a1) (n2, a2) := by rw [← hcr, ← hc1, ← hc2]; rfl
  have HR := Lib.hid hr
  have HE := Lib.hid (GrowsD.tr _ _ _ (GrowsD.tr _ _ _ HG.out hG3) hG4)
  clear q0 q1 q2 q3 y0 y1 hc1 hc2 hr hcr
  go_wp2
  go_ret
  exact ⟨by rw [← HR.out]; rfl, HE.out⟩
theorem compareD_lays (blk off size : Nat) (w : World) : CmpLays Try.prog 150 #[] dueE 2 cmpD blk off size w :=
  fun m os dk _ x y => (compareD_any x y _).mono fun e w' ⟨h1, q, os', h2⟩ => ⟨h1, q, os', h2⟩

def dueN (m : Wm) (n : Int) : Nat := ((m.ths.find? (fun p => p.1 == n)).map (·.2)).getD 0
theorem dueN_of {m : Wm} (hw : m.Wf) {p : Int × Nat} (hp : p ∈ m.ths) : dueN m p.1 = p.2 := by
  unfold dueN
  rw [look_of hw.nd hp]
  rfl
theorem dueF_of {m : Wm} (hw : m.Wf) {p : Int × Nat} (hp : p ∈ m.ths) : dueF m.ths p.1 = some (.int .i64 (p.2 : Int)) := by
  unfold dueF
  rw [look_of hw.nd hp]
  rfl
theorem due_infoF : (Try.prog.info? 128).map (fun i => (i.zero, i.size, i.bytes)) = some (some (.agg #[.int .i64 0, .int .i64 0]), 2, 16) := by kernel_rfl

theorem nodup_sub {α : Type} [DecidableEq α] {l k : List α} (hl : l.Nodup) (hs : ∀ x ∈ l, x ∈ k) (hk : k.Nodup) : l.length ≤ k.length := by
  have e : l.length = (k.filter (fun a => decide (a ∈ l))).length := nodup_len hl (hk.filter _) fun a => by
    rw [List.mem_filter, decide_eq_true_iff]
    exact ⟨fun h => ⟨hs a h, h⟩, fun h => h.2⟩
  rw [e]
  exact List.length_filter_le _ _
/-- of the range of things: what has come lies in 'out' -/
def ThInv (w : World) (g : Nat) (m : Wm) (T : List Nat) (pre : List Int) (W : World) : Prop :=
  Keep [] w W ∧ (∀ b ∈ T, w.heap.size + 2 ≤ b) ∧ W.heap[w.heap.size]? = some (.cells #[.pointer (some ⟨g, 0, none⟩)] 118 (0, 0)) ∧
    w.heap.size + 2 ≤ W.heap.size ∧ ∃ v, W.heap[w.heap.size + 1]? = some (.cells #[v] 124 (0, 0)) ∧ RowE dueE 2 128 W (w.heap.size + 2) v (pre.map (fun n => (n, dueN m n))) ∧ ∀ b, v.ownBlock = some b → b ∉ T

set_option maxRecDepth 100000 in
set_option maxHeartbeats 1000000 in
set_option maxHeartbeats 4000000 in
theorem things_any (w : World) (D : List Nat) (g : Nat) (m : Wm) (h : WV w D g m) (L : List (Int × Nat)) (hL : L.Pairwise (fun p q => dueLt p q = true)) (hsub : ∀ p ∈ L, p ∈ m.ths) (hnd : (L.map (·.1)).Nodup) (gf : Nat) (lb : Array Value)
    (eg : ∀ args w, (callFunc gf args).run Try.prog w = .ok (.enter gf args) w) (Rd : World → Prop) (hit : Iter6 Try.prog gf lb KEnc (KPre (L.map (·.1))) (KFin (L.map (·.1))) Rd (fun _ => True) []) (hRd : ∀ W, Keep [] w W → Rd W) :
    Calls Try.prog 117 #[.pointer (some ⟨g, 0, none⟩), .func (.func gf) #[] lb] w fun e w' => ∃ v, e = .returned v ∧ RowE dueE 2 128 w' w.heap.size v L ∧ Keep [] w w' := by
  obtain ⟨hw, dm, blk, h⟩ := h
  have hfew := hw.few
  have hlen : L.length ≤ 1000000 := by
    have e : (L.map (·.1)).length = ((m.ths.map (·.1)).filter (fun a => decide (a ∈ L.map (·.1)))).length := nodup_len hnd (hw.nd.filter _) fun a => by
      rw [List.mem_filter, decide_eq_true_iff]
      constructor
      · intro ha
        obtain ⟨p, hp, rfl⟩ := List.mem_map.1 ha
        exact ⟨List.mem_map.2 ⟨p, hsub p hp, rfl⟩, ha⟩
      · exact fun ha => ha.2
    have := List.length_filter_le (fun a => decide (a ∈ L.map (·.1))) (m.ths.map (·.1))
    rw [List.length_map] at e this
    omega
  obtain ⟨w1, hw1⟩ : ∃ w1, (w.alloc (.cells #[.pointer (some ⟨g, 0, none⟩)] 118)).alloc (.cells #[.slice none 0 0] 124) = w1 := ⟨_, rfl⟩
  have hA : Keep [] w w1 := by rw [← hw1]; exact ((Keep.refl [] w).alloc _).alloc _
  have hX : w1.heap[w.heap.size]? = some (.cells #[.pointer (some ⟨g, 0, none⟩)] 118 (0, 0)) := by rw [← hw1]; exact ((Keep.refl [] _).alloc _).blk (by simp) (heap_alloc_new w _)
  have hY : w1.heap[w.heap.size + 1]? = some (.cells #[.slice none 0 0] 124 (0, 0)) := by
    rw [← hw1]
    have := heap_alloc_new (w.alloc (.cells #[.pointer (some ⟨g, 0, none⟩)] 118)) (.cells #[.slice none 0 0] 124)
    simpa using this
  have hs1 : w1.heap.size = w.heap.size + 2 := by rw [← hw1]; simp
  have H := Lib.hid h
  have HX := Lib.hid (And.intro hX hY)
  have HA := Lib.hid hA
  have HS1 := Lib.hid hs1
  have HW1 := Lib.hid hw1
  clear h hX hY hA hs1 hw1
  refine calls_of_marks Try.func117 rfl ?_
  simp only [Try.ntmps117, List.size_toArray, List.length_cons, List.length_nil, Nat.reduceAdd, Nat.reduceSub, Array.replicate_succ, Array.replicate_zero, List.push_toArray, List.append_toArray, List.nil_append, List.cons_append]
  go_wp2_with fail
  rw [HW1.out]
  refine wp_range6 (n := 3) (gf := gf) (lb := lb) rfl eg (T0 := []) (by simp) hit
    (fun T x args W W' _ h => h) (fun T x args W h => by rw [show args = #[.int .i64 x] from h]; rfl)
    (ThInv w g m) (fun _ _ _ _ => False)
    ?hRd (fun _ _ => trivial) ?hI (fun _ _ _ _ _ _ h => h) ?hG ?h0
    (fun args B0 => { tmps := #[.pointer (some ⟨g, 0, none⟩), .func (.func gf) #[] lb, .pointer (some ⟨w.heap.size, 0, none⟩), undef, .slice none 0 0, .pointer (some ⟨w.heap.size + 1, 0, none⟩), args.getD 0 undef, .func (.func gf) #[] lb, args.getD 0 undef, undef, undef, undef, undef, undef, undef, undef, undef, undef, undef, undef, undef, undef, undef], defers := [] })
    (fun x args B0 W => True) (fun _ _ _ _ _ _ _ _ => trivial)
    ?hassign ?hbody ?hdone ?hstop
  case hRd =>
    rintro T pre W ⟨hk, -⟩ hlt
    exact hRd W hk
  case hI =>
    rintro T pre W W' k' ⟨hk, hT, h1, hs, v, h3, hp, hv⟩
    have ne : ∀ b, b < w.heap.size + 2 → b ∉ T := fun b hb hm => by have := hT b hm; omega
    exact ⟨hk.trans' k' (fun b hb => .inr (by have := hT b hb; omega)), hT, k'.blk (ne _ (by omega)) h1, Nat.le_trans hs k'.size, v, k'.blk (ne _ (by omega)) h3, hp.keep k' hv, hv⟩
  case hG =>
    rintro T pre W b hb ⟨hk, hT, h1, hs, v, h3, hp, hv⟩
    refine ⟨hk, fun b' hb' => ?_, h1, hs, v, h3, hp, fun b' hb' hm => ?_⟩
    · rcases List.mem_cons.1 hb' with rfl | hm
      · omega
      · exact hT _ hm
    · rcases List.mem_cons.1 hm with rfl | hm
      · have := (hp.lt _ hb').2.1
        omega
      · exact hv b' hb' hm
  case h0 =>
    intro W k'
    refine ⟨HA.out.trans k', ?_, k'.blk (by simp) HX.out.1, by have := k'.size; have := HS1.out; omega, _, k'.blk (by simp) HX.out.2, RowE.nil, fun b hb => by simp [Value.ownBlock] at hb⟩
    intro b hb
    simp at hb
    have := HS1.out
    omega
  case hassign =>
    rintro T x args W K h hlt hK
    obtain rfl : args = #[.int .i64 x] := h
    have hK2 := hK W (Keep.refl _ _) trivial
    clear hK
    gi_wp2
    exact hK2
  case hbody =>
    rintro T pre x args B0 W hpre ⟨hk, hT, h1, hs, v, h3, hp, hvT⟩ henc _ hB0 hTs hlT hDT ⟨r, hLp⟩ hD
    obtain rfl : args = #[.int .i64 x] := henc
    obtain ⟨va, vc, rfl⟩ := hp.form
    obtain ⟨q, hq, rfl⟩ := List.mem_map.1 (hpre.2 x (by simp))
    obtain ⟨x, a⟩ := q
    have hqm := hsub _ hq
    have hwx := hw.rng _ hqm
    have hda : dueN m x = a := dueN_of hw hqm
    have hfx : dueF m.ths x = some (.int .i64 (a : Int)) := dueF_of hw hqm
    have hpl : pre.length + 1 ≤ L.length := by
      have := nodup_sub hpre.1 hpre.2 hnd
      simpa using this
    rw [List.length_map] at hp hvT h3
    have hs1 := HS1.out
    have hWs : w.heap.size + 4 ≤ W.heap.size := by have := (Array.getElem?_eq_some_iff.1 hLp).1; omega
    have hHW := H.out.keep hk (by simp)
    simp only at hwx hda hfx ⊢
    gi_wp2_with fail
    refine wpIn_region_his (Value.slice va pre.length vc).ownBlock.toList [9, 10, 11] (fun _ => 0) (by kernel_rfl) ?hQ (by kernel_rfl) (by kernel_rfl) ?_
    case hQ =>
      rintro ⟨a', w', h'⟩
      exact h'
    intro w5 hk5 hh
    clear hh
    have hoS : ∀ b ∈ (Value.slice va pre.length vc).ownBlock.toList, w.heap.size + 2 ≤ b ∧ b ∉ T ++ [w1.heap.size + 1] ∧ b < W.heap.size ∧ ∃ cs, W.heap[b]? = some (.cells cs 128 (0, 0)) := fun b hb => by
      rw [Option.mem_toList] at hb
      have h7 := hp.lt _ hb
      exact ⟨h7.1, hvT b hb, h7.2.1, h7.2.2⟩
    have n0 : w.heap.size ∉ (Value.slice va pre.length vc).ownBlock.toList := fun hm => by have := (hoS _ hm).1; omega
    have n1 : w.heap.size + 1 ∉ (Value.slice va pre.length vc).ownBlock.toList := fun hm => by have := (hoS _ hm).1; omega
    have ng : g ∉ (Value.slice va pre.length vc).ownBlock.toList := fun hm => by have := (hoS _ hm).1; have := H.out.lt _ H.out.inG; omega
    have nm : dm ∉ (Value.slice va pre.length vc).ownBlock.toList := fun hm => by have := (hoS _ hm).1; have := H.out.lt _ H.out.inM; omega
    have x9 := fun w' (h : Keep (Value.slice va pre.length vc).ownBlock.toList w5 w') => cell_of_one (h.blk n1 (hk5.blk (by simp) h3))
    have x11 := fun w' (h : Keep (Value.slice va pre.length vc).ownBlock.toList w5 w') => cell_of_one (h.blk n0 (hk5.blk (by simp) h1))
    have x14 := fun w' (h : Keep (Value.slice va pre.length vc).ownBlock.toList w5 w') => h.cell (p := ⟨g, 1, none⟩) ng (hHW.keep hk5 (by simp)).c1
    have ql := fun w' (h : Keep (Value.slice va pre.length vc).ownBlock.toList w5 w') => ((hHW.due.keep hk5 (by simp)).keep h nm).look Try.underlying3 Try.underlying214 (zero_int w') x hwx
    rw [hfx] at ql
    simp only [Option.getD_some] at ql
    have hA5 := (Keep.refl [] w5).alloc (.cells (dueE (x, a)).toArray 128)
    obtain ⟨v7, w7, hrun, hO', hk7, hloc⟩ := run_append_one (P := Try.prog) (ty := 124) dueLies Try.underlying124 due_infoF rfl (by decide) (by decide) (w.heap.size + 2) (hp.keep (hk5.trans hA5) (by simp)) w5.heap.size (x, a) (heap_alloc_new w5 _) (by rw [List.length_map]; omega) (by have := hA5.size; have := hk5.size; omega)
    obtain ⟨va', vc', e7⟩ := hO'.form
    rw [show (pre.map (fun n => (n, dueN m n)) ++ [(x, a)]).length = pre.length + 1 by simp] at e7
    subst e7
    have hk57 : Keep (Value.slice va pre.length vc).ownBlock.toList W w7 := ((hk5.trans hA5).mono (by simp)).trans hk7
    have hZ := hk57.blk n1 h3
    have gT := cell_of_one hZ
    have fT := free_of_one hZ
    have HR := Lib.hid hrun
    have HO := Lib.hid hO'
    have HL := Lib.hid hloc
    have HS := Lib.hid hoS
    clear hrun hO' hloc hoS
    (repeat (first | (refine his_q rfl rfl (fun K hK => ?_); apply Exists.intro; refine ⟨fun w' hC => ?_, ?_⟩; ((try simp [Sg.upd] at hC); go_simp <;> rfl); go_simp; refine hK _ _ ?_; clear hK K) | (refine his_s rfl (fun K hK => ?_); go_simp; refine hK _ _ ?_; clear hK K)))
    (refine his_l rfl rfl (fun K hK => ?_); go_simp)
    refine hK _ _ ((Keep.refl _ _).alloc _) ?_
    clear hK K
    refine his_l rfl rfl (fun K hK => ?_)
    refine loudly_append_run (.tmp 9) (.tmp 18) 124 rfl (v := .slice va pre.length vc) (src := .slice (some ⟨w5.heap.size, 0, none⟩) 1 1) (w' := w7) rfl rfl HR.out ?_
    refine hK _ _ hk7 ?_
    clear hK K
    (refine his_last rfl (by kernel_rfl) rfl (fun K hK => ?_); go_simp)
    refine hK _ _ ?_
    clear hK K x9 x11 x14 ql HR
    refine his_nil ?_
    have hLl := (Array.getElem?_eq_some_iff.1 hLp).1
    have hnot : ∀ b, b ∈ T ++ [w1.heap.size + 1] ∨ b < w.heap.size + 2 → b ∉ (Value.slice va pre.length vc).ownBlock.toList := fun b hb hm => by
      obtain ⟨q1, q2, -, -⟩ := HS.out b hm
      rcases hb with hb | hb
      · exact q2 hb
      · omega
    have hnD : w1.heap.size ∉ (Value.slice va pre.length vc).ownBlock.toList := fun hm => by
      obtain ⟨-, -, -, cs, h9⟩ := HS.out _ hm
      rw [hD] at h9
      cases h9
    have same : ∀ b, b < W.heap.size → b ∉ (Value.slice va pre.length vc).ownBlock.toList → b ≠ w.heap.size + 1 → (w7.setCell ⟨w.heap.size + 1, 0, none⟩ (.slice va' (pre.length + 1) vc')).heap[b]? = W.heap[b]? := fun b hb h hne => (heap_setCell_other _ _ _ _ (by simpa using hne)).trans (hk57.block b hb h)
    have nT : ∀ b ∈ T, w.heap.size + 2 ≤ b := fun b hb => hT b (List.mem_append_left _ hb)
    refine ⟨same _ hLl (hnot _ (.inl (by simp))) (by omega), same _ (by omega) hnD (by omega), fun b hb => same b (hTs b (List.mem_append_left _ hb)) (hnot b (.inl (List.mem_append_left _ hb))) (by have := nT b hb; omega), ?_⟩
    refine ⟨(hk.trans' hk57 (fun b hm => .inr (by have := (HS.out b hm).1; omega))).setCell (.inr (show w.heap.size ≤ w.heap.size + 1 by omega)) _, hT, (same _ (by omega) n0 (by omega)).trans h1, by have := hk57.size; simp; omega, _, one_setCell hZ, ?_, fun b hb hm => ?_⟩
    · have hO := HO.out.keep ((Keep.refl [w.heap.size + 1] w7).setCell (p := ⟨w.heap.size + 1, 0, none⟩) (.inl (by simp)) (.slice va' (pre.length + 1) vc')) (fun b hb hm => by
        have := (HO.out.lt b hb).1
        simp at hm
        omega)
      rw [List.map_append]
      simp only [List.map_cons, List.map_nil]
      rw [hda]
      simpa using hO
    · rcases HL.out with e | e
      · rw [e] at hb
        exact hvT b hb hm
      · rw [e] at hb
        cases hb
        have := hTs _ hm
        have := hk5.size
        simp at *
        omega
  case hdone =>
    rintro T xs W hfin ⟨hk, hT, h1, hs, v, h3, hp, hv⟩ hTs hDT hD
    obtain ⟨va, vc, rfl⟩ := hp.form
    have hperm : (xs.map (fun n => (n, dueN m n))).Perm L := by
      have h5 : (xs.map (fun n => (n, dueN m n))).Perm ((L.map (·.1)).map (fun n => (n, dueN m n))) := ((List.perm_ext_iff_of_nodup hfin.1 hnd).2 hfin.2).map _
      have h6 : (L.map (·.1)).map (fun n => (n, dueN m n)) = L := by
        rw [List.map_map]
        refine (List.map_congr_left (fun p hp => ?_)).trans (List.map_id _)
        show (p.1, dueN m p.1) = p
        rw [dueN_of hw (hsub p hp)]
      rwa [h6] at h5
    have hxl : xs.length = L.length := by
      have := hperm.length_eq
      rwa [List.length_map] at this
    have hs1 := HS1.out
    have gT := cell_of_one h3
    rw [List.length_map, hxl] at gT h3 hp hv
    clear hxl
    have hcon : Calls Try.prog 149 #[.slice va L.length vc, .func (.func 150) #[] #[]] W fun e w' => e = .returned (.tuple #[]) ∧ RowE dueE 2 128 w' (w.heap.size + 2) (.slice va L.length vc) L ∧ Keep (Value.slice va L.length vc).ownBlock.toList W w' := by
      by_cases hn : L = []
      · subst hn
        have hc : Calls Try.prog 149 #[.slice va 0 vc, .func (.func 150) #[] #[]] W fun e w' => e = .returned (.tuple #[]) ∧ w' = W := AnyF.slices_SortFunc_none sortDue va vc _ W
        refine hc.mono ?_
        rintro e w' ⟨rfl, rfl⟩
        refine ⟨rfl, ?_, Keep.refl _ _⟩
        rw [List.perm_nil.1 hperm] at hp
        exact hp
      · have hl0 : 0 < (xs.map (fun n => (n, dueN m n))).length := by
          rw [hperm.length_eq]
          exact List.length_pos_iff.2 hn
        obtain ⟨gq, rfl, hgq, -⟩ := RowE.cells dueLies hp hl0
        have hH := hp.holds dueLies (by decide)
        have hsz : (xs.map (fun n => (n, dueN m n))).toArray.size = L.length := by simpa using hperm.length_eq
        have hc : Calls Try.prog 149 #[.slice (some ⟨gq, 0, none⟩) (xs.map (fun n => (n, dueN m n))).toArray.size vc, .func (.func 150) #[] #[]] W _ :=
          AnyQ.slices_SortFunc sortDue 2 Try.isAgg128 Try.sizeOf128 dueE dueLies.len dueLies.one cmpD swoD 150 #[] gq 0 vc (xs.map (fun n => (n, dueN m n))).toArray W
            (enters_of Try.func150 (by kernel_rfl) rfl) (compareD_lays gq 0 _ W) hH (hp.lt gq rfl).2.1 (by rw [hsz]; omega)
        rw [hsz] at hc
        refine hc.mono ?_
        rintro e w' ⟨rfl, d', n, os, hpm, hsrt, rfl⟩
        have hd : d'.size = (xs.map (fun n => (n, dueN m n))).length := by rw [hpm.1]; simp
        obtain ⟨hr, hkq⟩ := RowE.sorted dueLies (by decide) (m := n) (d' := d') (os := os) hp hd
        have hdl : d'.size = L.length := by rw [hd, hperm.length_eq]
        have hp1 : d'.toList.Perm (xs.map (fun n => (n, dueN m n))) := by
          have := hpm.2.2
          rw [← hdl] at this
          have e1 : d'.extract 0 d'.size = d' := by simp
          have e2 : (xs.map (fun n => (n, dueN m n))).toArray.extract 0 d'.size = (xs.map (fun n => (n, dueN m n))).toArray := by
            rw [hd]
            simp
            exact List.take_of_length_le (by simp)
          rw [e1, e2] at this
          simpa using this
        have hpL := hp1.trans hperm
        have hpair : d'.toList.Pairwise (fun p q => dueLt p q = true) := by
          rw [List.pairwise_iff_getElem]
          intro i j hi hj hij
          have h9 := hsrt i j (Nat.zero_le _) hij (by simpa [hdl] using hj)
          rw [ltOf_cmpD] at h9
          have ei : d'[i]! = d'.toList[i] := by rw [getElem!_pos d' i (by simpa using hi)]; simp
          have ej : d'[j]! = d'.toList[j] := by rw [getElem!_pos d' j (by simpa using hj)]; simp
          rw [ei, ej] at h9
          have hne : d'.toList[i].1 ≠ d'.toList[j].1 := by
            have hnd2 : (d'.toList.map (·.1)).Nodup := (hpL.map (·.1)).nodup_iff.2 hnd
            rw [List.nodup_iff_pairwise_ne, List.pairwise_map, List.pairwise_iff_getElem] at hnd2
            exact hnd2 i j hi hj hij
          exact dueLt_tot (by simpa using h9) (fun e => hne e.symm)
        have he := ord_unique hpL hpair hL
        rw [he] at hr
        refine ⟨rfl, hr, hkq.mono (fun b hb => by
          rw [List.mem_singleton] at hb
          simp [Value.ownBlock, hb])⟩
    have HF := Lib.hid (And.intro hk (And.intro hD (And.intro h3 hv)))
    have HP := Lib.hid (And.intro (fun b hb => hp.lt b hb) hs)
    clear hk hT h1 hs h3 hp hv hTs hD hs1
    go_wp2_with fail
    refine hcon.mono ?_
    rintro e w5 ⟨rfl, hrow, hk5⟩
    have hs1 := HS1.out
    have n1 : w.heap.size + 1 ∉ (Value.slice va L.length vc).ownBlock.toList := fun hm => by
      rw [Option.mem_toList] at hm
      have := (HP.out.1 _ hm).1
      omega
    have nD : w1.heap.size ∉ (Value.slice va L.length vc).ownBlock.toList := fun hm => by
      rw [Option.mem_toList] at hm
      obtain ⟨-, -, cs, h9⟩ := HP.out.1 _ hm
      rw [HF.out.2.1] at h9
      cases h9
    have gT2 := cell_of_one (hk5.blk n1 HF.out.2.2.1)
    have hk6 : Keep [] w w5 := HF.out.1.trans' hk5 (fun b hm => by
      rw [Option.mem_toList] at hm
      exact .inr (by have := (HP.out.1 _ hm).1; omega))
    have hD5 := hk5.blk nD HF.out.2.1
    have hkk := hk6.putObj (l := w1.heap.size) (.inr (by omega)) (.deferred none)
    have hrr : RowE dueE 2 128 (w5.putObj w1.heap.size (.deferred none)) w.heap.size (.slice va L.length vc) L := (hrow.keep ((Keep.refl [w1.heap.size] _).putObj (.inl (by simp)) _) (fun b hb hm => by
      rw [List.mem_singleton] at hm
      subst hm
      exact nD (by rw [Option.mem_toList]; exact hb))).lower (by omega)
    have HX := Lib.hid (And.intro hrr (And.intro hkk hD5))
    clear hrr hkk hD5 hk6 hk5 hrow hcon gT hs1
    go_wp2
    exact leavesM_one HX.out.2.2 (results_tmp rfl _ _ _) ⟨.slice va L.length vc, rfl, HX.out.1, HX.out.2.1⟩
  case hstop =>
    rintro c T pre W _ h
    exact h.elim
end Go.Proofs.Ytjkjiabfhhnngaa
