import Derived.Test.YtjkjiabfhhnngaaProg
import Derived.Test.YtjkjiabfhhnngaaWheelM
import Derived.Test.YtjkjiabfhhnngaaNum
import Derived.Test.YtjkjiabfhhnngaaHist
import Derived.Laws.Tables
import Derived.Lib.Hide
import Derived.Deep.CutRange
import Derived.Deep.Slices
/-! A wheel in memory; New. -/
namespace Go.Proofs.Ytjkjiabfhhnngaa
open Go.RowKit Sg
open Go.Maps (int_keyed keyOf_int_mk)
set_option linter.unusedSimpArgs false
set_option linter.unusedVariables false

/-- of New: so many places are laid -/
structure NwR (w wr : World) (g dm lm n : Nat) (cs : Array Value) (blk : Nat → Nat) : Prop where
  row : wr.heap[g]? = some (.cells cs 220 (0, 0))
  size : cs.size = 387
  c0 : cs[0]? = some (.int .i64 0)
  c1 : cs[1]? = some (.map (some dm))
  cl : cs[386]? = some (.map (some lm))
  at_ : ∀ j < n, cs[2 + j]? = some (.map (some (blk j)))
  due : MapZ Try.prog 3 wr dm (fun _ => none) []
  later : MapZ Try.prog 3 wr lm (fun _ => none) []
  maps : ∀ j < n, MapZ Try.prog 3 wr (blk j) (fun _ => none) []
  up : ∀ j < n, g < blk j
  inc : ∀ i j, i < j → j < n → blk i < blk j
  keep : Keep [] w wr
  lo : w.heap.size ≤ dm ∧ dm < lm ∧ lm < g

theorem setIf_same {α : Type} (a : Array α) (j : Nat) (v : α) (h : j < a.size) : (a.setIfInBounds j v)[j]? = some v := by
  rw [Array.getElem?_setIfInBounds]; simp [h]
theorem setIf_other {α : Type} (a : Array α) (i j : Nat) (v : α) (h : i ≠ j) : (a.setIfInBounds i v)[j]? = a[j]? := by
  rw [Array.getElem?_setIfInBounds]; simp [h]

theorem NwR.step {w wr : World} {g dm lm n : Nat} {cs : Array Value} {blk : Nat → Nat} (h : NwR w wr g dm lm n cs blk) (hn : n < 384) :
    NwR w ((wr.alloc (.map #[] 0)).setCell ⟨g, 2 + n, none⟩ (.map (some wr.heap.size))) g dm lm (n + 1) (cs.setIfInBounds (2 + n) (.map (some wr.heap.size))) (fun j => if j = n then wr.heap.size else blk j) := by
  have kA := (Keep.refl [] wr).alloc (.map #[] 0)
  have kB : Keep [g] wr ((wr.alloc (.map #[] 0)).setCell ⟨g, 2 + n, none⟩ (.map (some wr.heap.size))) := (kA.mono (by simp)).setCell (.inl (by simp)) _
  have hg : g < wr.heap.size := (Array.getElem?_eq_some_iff.1 h.row).1
  have hlt : ∀ j < n, blk j < wr.heap.size := fun j hj => (h.maps j hj).lt
  have hdl := h.due.lt
  have hll := h.later.lt
  refine ⟨heap_setCell_same _ g (2 + n) _ _ _ (kA.blk (by simp) h.row), by simpa using h.size, by rw [setIf_other _ _ _ _ (by omega)]; exact h.c0, by rw [setIf_other _ _ _ _ (by omega)]; exact h.c1, by rw [setIf_other _ _ _ _ (by omega)]; exact h.cl, fun j hj => ?_, h.due.keep kB (by simp; have := h.lo; omega), h.later.keep kB (by simp; have := h.lo; omega), fun j hj => ?_, fun j hj => ?_, fun i j hij hj => ?_, ?_, h.lo⟩
  · by_cases e : j = n
    · subst e
      rw [if_pos rfl, setIf_same _ _ _ (by have := h.size; omega)]
    · rw [if_neg e, setIf_other _ _ _ _ (by omega)]
      exact h.at_ j (by omega)
  · split
    · next e =>
      subst e
      exact (MapZ.made wr Try.prog 3).keep ((Keep.refl [g] _).setCell (.inl (by simp)) _) (by simp; omega)
    · next e => exact (h.maps j (by omega)).keep kB (by simp; have := h.up j (by omega); omega)
  · split
    · omega
    · exact h.up j (by omega)
  · rw [if_neg (by omega)]
    split
    · exact hlt i (by omega)
    · exact h.inc i j hij (by omega)
  · refine (h.keep.alloc _).setCell (.inr (show w.heap.size ≤ g from ?_)) _
    have := h.lo
    omega

set_option maxRecDepth 100000 in
set_option maxHeartbeats 1000000 in
set_option maxHeartbeats 4000000 in
theorem newWheel_go (w : World) : Calls Try.prog 62 #[] w fun e w' => ∃ g dm lm cs blk, e = .returned (.pointer (some ⟨g, 0, none⟩)) ∧ NwR w w' g dm lm 384 cs blk := by
  have hmm := @run_makeMap Try.prog
  go_enter Try.func62, Try.ntmps62
  go_wp2_with fail
  obtain ⟨w1, hw1⟩ : ∃ w1, ((w.alloc (.map #[] 0)).alloc (.map #[] 0)).alloc (.cells ((Try.zeroCells220.setIfInBounds 1 (.map (some w.heap.size))).setIfInBounds 386 (.map (some (w.heap.size + 1)))) 220) = w1 := ⟨_, rfl⟩
  have hz : Try.zeroCells220.size = 387 := by kernel_rfl
  have hz0 : Try.zeroCells220[0]? = some (.int .i64 0) := by kernel_rfl
  have h0 : NwR w w1 (w.heap.size + 1 + 1) w.heap.size (w.heap.size + 1) 0 ((Try.zeroCells220.setIfInBounds 1 (.map (some w.heap.size))).setIfInBounds 386 (.map (some (w.heap.size + 1)))) (fun _ => 0) := by
    have k1 := (Keep.refl [] (w.alloc (.map #[] 0))).alloc (.map #[] 0)
    have k2 : Keep [] ((w.alloc (.map #[] 0)).alloc (.map #[] 0)) w1 := by rw [← hw1]; exact (Keep.refl [] _).alloc _
    have e1 : (w.alloc (.map #[] 0)).heap.size = w.heap.size + 1 := by simp
    have e2 : ((w.alloc (.map #[] 0)).alloc (.map #[] 0)).heap.size = w.heap.size + 1 + 1 := by simp
    have m2 := MapZ.made (w.alloc (.map #[] 0)) Try.prog 3
    rw [e1] at m2
    refine ⟨?_, by simp [hz], ?_, ?_, ?_, fun j hj => absurd hj (by omega), ?_, m2.keep k2 (by simp), fun j hj => absurd hj (by omega), fun j hj => absurd hj (by omega), fun i j _ hj => absurd hj (by omega), ?_, ⟨by omega, by omega, by omega⟩⟩
    · have := heap_alloc_new ((w.alloc (.map #[] 0)).alloc (.map #[] 0)) (.cells ((Try.zeroCells220.setIfInBounds 1 (.map (some w.heap.size))).setIfInBounds 386 (.map (some (w.heap.size + 1)))) 220)
      rw [e2, hw1] at this
      exact this
    · rw [setIf_other _ _ _ _ (by omega), setIf_other _ _ _ _ (by omega)]
      exact hz0
    · rw [setIf_other _ _ _ _ (by omega), setIf_same _ _ _ (by omega)]
    · rw [setIf_same _ _ _ (by simp [hz])]
    · exact ((MapZ.made w Try.prog 3).keep k1 (by simp)).keep k2 (by simp)
    · rw [← hw1]
      exact (((Keep.refl [] w).alloc _).alloc _).alloc _
  rw [hw1]
  obtain ⟨g, hg⟩ : ∃ g, w.heap.size + 1 + 1 = g := ⟨_, rfl⟩
  rw [hg] at h0 ⊢
  obtain ⟨c0, hc0⟩ : ∃ c0, (Try.zeroCells220.setIfInBounds 1 (.map (some w.heap.size))).setIfInBounds 386 (.map (some (w.heap.size + 1))) = c0 := ⟨_, rfl⟩
  rw [hc0] at h0 ⊢
  have H0 := Lib.hid h0
  clear h0 hw1 hc0 hz hz0
  go_loopw [8] (fun i wr => ∃ (r : Nat) (cs : Array Value) (blk : Nat → Nat), r ≤ 6 ∧ i = .int .i64 r ∧ Hid (NwR w wr g w.heap.size (w.heap.size + 1) (r * 64) cs blk)) (fun i _ => 6 - (intOf i).toNat)
  case atStart => exact ⟨0, c0, _, by omega, rfl, H0⟩
  case round =>
    clear H0
    obtain ⟨r, cs, blk, hr, rfl, H⟩ := hrel
    by_cases hlt : r < 6
    · have t1 : (r : Int) < 6 := by omega
      go_wp2_with fail
      go_loopw [11] (fun i wr => ∃ (j : Nat) (cs : Array Value) (blk : Nat → Nat), j ≤ 64 ∧ i = .int .i64 j ∧ Hid (NwR w wr g w.heap.size (w.heap.size + 1) (r * 64 + j) cs blk)) (fun i _ => 64 - (intOf i).toNat)
      case atStart => exact ⟨0, cs, blk, by omega, rfl, H⟩
      case round =>
        clear H
        obtain ⟨j, cs, blk, hj, rfl, H⟩ := hrel
        by_cases hlj : j < 64
        · have t2 : (j : Int) < 64 := by omega
          have hst := H.out.step (by omega)
          have hg1 := H.out.row
          have kA := (Keep.refl [] wr).alloc (.map #[] 0)
          have hg2 := kA.blk (by simp) hg1
          have hcell : (wr.alloc (.map #[] 0)).cell? ⟨g, 2 + (r * 64 + j), none⟩ = cs[2 + (r * 64 + j)]? := cell_of_row _ _ _ _ _ _ hg2
          rw [Array.getElem?_eq_getElem (by have := H.out.size; omega)] at hcell
          have hfr := frozen_of_row _ g (2 + (r * 64 + j)) _ _ hg2
          obtain ⟨cv, hcv⟩ : ∃ cv, cs[2 + (r * 64 + j)]'(by have := H.out.size; omega) = cv := ⟨_, rfl⟩
          rw [hcv] at hcell
          rw [← Nat.add_assoc] at hcell hfr hst
          have HST := Lib.hid hst
          clear hst hg1 kA hg2 hcv
          go_wp2
          go_roundw
          case rel => exact ⟨j + 1, _, _, by omega, by go_num, HST⟩
          case measure => simp [intOf]; omega
        · have : ¬ (j : Int) < 64 := by omega
          obtain rfl : j = 64 := by omega
          go_wp2
          go_roundw
          case rel => exact ⟨r + 1, _, _, by omega, by go_num, by rw [show (r + 1) * 64 = r * 64 + 64 by omega]; exact H⟩
          case measure => simp [intOf]; omega
    · have : ¬ (r : Int) < 6 := by omega
      obtain rfl : r = 6 := by omega
      go_wp2
      go_ret
      exact ⟨g, rfl, _, _, cs, blk, H.out⟩

def setF (S : Int → Bool) : Int → Option Value := fun a => if S a = true then some (.bool true) else none
theorem setF_some {S : Int → Bool} {a : Int} : (setF S a).isSome = true ↔ S a = true := by
  unfold setF
  split <;> simp_all
/-- a wheel in memory: its time, what is due, and of each place who lies there -/
structure WhAt (w : World) (D : List Nat) (g tm dm : Nat) (blk : Nat → Nat) (fd : Int → Option Value) (kd : List Int) (S : Nat → Int → Bool) : Prop where
  row : ∃ cs, w.heap[g]? = some (.cells cs 220 (0, 0)) ∧ cs.size = 387 ∧ cs[0]? = some (.int .i64 (tm : Int)) ∧ cs[1]? = some (.map (some dm)) ∧ ∀ k ≤ 384, cs[2 + k]? = some (.map (some (blk k)))
  due : MapZ Try.prog 3 w dm fd kd
  maps : ∀ k ≤ 384, ∃ ks, MapZ Try.prog 3 w (blk k) (setF (S k)) ks
  inj : ∀ i j, i ≤ 384 → j ≤ 384 → blk i = blk j → i = j
  ne : ∀ k ≤ 384, blk k ≠ dm
  sub : ∀ k ≤ 384, ∀ a, S k a = true → a ∈ kd
  inG : g ∈ D
  inM : dm ∈ D
  inB : ∀ k ≤ 384, blk k ∈ D
  lt : ∀ b ∈ D, b < w.heap.size

section
variable {w : World} {D : List Nat} {g tm dm : Nat} {blk : Nat → Nat} {fd : Int → Option Value} {kd : List Int} {S : Nat → Int → Bool}
theorem WhAt.c0 (h : WhAt w D g tm dm blk fd kd S) : w.cell? ⟨g, 0, none⟩ = some (.int .i64 (tm : Int)) := by
  obtain ⟨cs, h1, -, h2, -⟩ := h.row
  rw [cell_of_row _ _ _ _ _ _ h1, h2]
theorem WhAt.c1 (h : WhAt w D g tm dm blk fd kd S) : w.cell? ⟨g, 1, none⟩ = some (.map (some dm)) := by
  obtain ⟨cs, h1, -, -, h2, -⟩ := h.row
  rw [cell_of_row _ _ _ _ _ _ h1, h2]
theorem WhAt.ck (h : WhAt w D g tm dm blk fd kd S) (k : Nat) (hk : k ≤ 384) : w.cell? ⟨g, 2 + k, none⟩ = some (.map (some (blk k))) := by
  obtain ⟨cs, h1, -, -, -, h2⟩ := h.row
  rw [cell_of_row _ _ _ _ _ _ h1, h2 k hk]
theorem WhAt.free (h : WhAt w D g tm dm blk fd kd S) (j : Nat) : w.frozen? ⟨g, j, none⟩ = false := by
  obtain ⟨cs, h1, -⟩ := h.row
  exact frozen_of_row _ _ _ _ _ h1
theorem WhAt.keep {w' : World} {T : List Nat} (h : WhAt w D g tm dm blk fd kd S) (k : Keep T w w') (hT : ∀ b ∈ T, b ∉ D) : WhAt w' D g tm dm blk fd kd S := by
  have hn : ∀ b ∈ D, b ∉ T := fun b hb hm => hT b hm hb
  obtain ⟨cs, h1, h2⟩ := h.row
  refine ⟨⟨cs, k.blk (hn _ h.inG) h1, h2⟩, h.due.keep k (hn _ h.inM), fun j hj => ?_, h.inj, h.ne, h.sub, h.inG, h.inM, h.inB, fun b hb => Nat.lt_of_lt_of_le (h.lt b hb) k.size⟩
  obtain ⟨ks, hm⟩ := h.maps j hj
  exact ⟨ks, hm.keep k (hn _ (h.inB j hj))⟩
/-- a place has no more keys than things are due -/
theorem WhAt.fewer (h : WhAt w D g tm dm blk fd kd S) {k : Nat} (hk : k ≤ 384) {ks : List Int} (hm : MapZ Try.prog 3 w (blk k) (setF (S k)) ks) : ks.length ≤ kd.length := by
  have e : ks.length = (kd.filter (fun a => decide (a ∈ ks))).length := nodup_len hm.nd (h.due.nd.filter _) fun a => by
    rw [List.mem_filter]
    constructor
    · intro ha
      exact ⟨h.sub k hk a (setF_some.1 ((hm.mem a).1 ha)), by simpa using ha⟩
    · intro ha
      simpa using ha.2
  rw [e]
  exact List.length_filter_le _ _
/-- one place turns -/
theorem WhAt.turn {w' : World} (h : WhAt w D g tm dm blk fd kd S) {j : Nat} (hj : j ≤ 384) (k : Keep [blk j] w w') {S' : Nat → Int → Bool} {ks : List Int} (hm : MapZ Try.prog 3 w' (blk j) (setF (S' j)) ks)
    (hS : ∀ i, i ≤ 384 → i ≠ j → S' i = S i) (hs : ∀ a, S' j a = true → a ∈ kd) : WhAt w' D g tm dm blk fd kd S' := by
  obtain ⟨cs, h1, h2⟩ := h.row
  obtain ⟨ks0, hm0⟩ := h.maps j hj
  have hg : g ≠ blk j := fun e => by
    obtain ⟨es, c, hb⟩ := hm0.isMapBlock
    rw [← e, h1] at hb
    cases hb
  refine ⟨⟨cs, k.blk (by simpa using hg) h1, h2⟩, h.due.keep k (by simp; exact fun e => h.ne j hj e.symm), fun i hi => ?_, h.inj, h.ne, fun i hi a ha => ?_, h.inG, h.inM, h.inB, fun b hb => Nat.lt_of_lt_of_le (h.lt b hb) k.size⟩
  · by_cases e : i = j
    · subst e
      exact ⟨ks, hm⟩
    · obtain ⟨ks1, hm1⟩ := h.maps i hi
      rw [hS i hi e]
      exact ⟨ks1, hm1.keep k (by simp; exact fun e2 => e (h.inj i j hi hj e2))⟩
  · by_cases e : i = j
    · subst e
      exact hs a ha
    · rw [hS i hi e] at ha
      exact h.sub i hi a ha
/-- what is due turns -/
theorem WhAt.dueTurn {w' : World} (h : WhAt w D g tm dm blk fd kd S) (k : Keep [dm] w w') {fd' : Int → Option Value} {kd' : List Int} (hm : MapZ Try.prog 3 w' dm fd' kd')
    (hs : ∀ i ≤ 384, ∀ a, S i a = true → a ∈ kd') : WhAt w' D g tm dm blk fd' kd' S := by
  obtain ⟨cs, h1, h2⟩ := h.row
  have hg : g ≠ dm := fun e => by
    obtain ⟨es, c, hb⟩ := h.due.isMapBlock
    rw [← e, h1] at hb
    cases hb
  refine ⟨⟨cs, k.blk (by simpa using hg) h1, h2⟩, hm, fun i hi => ?_, h.inj, h.ne, hs, h.inG, h.inM, h.inB, fun b hb => Nat.lt_of_lt_of_le (h.lt b hb) k.size⟩
  obtain ⟨ks1, hm1⟩ := h.maps i hi
  exact ⟨ks1, hm1.keep k (by simp; exact h.ne i hi)⟩
/-- the time turns -/
theorem WhAt.timeTurn (h : WhAt w D g tm dm blk fd kd S) (tm' : Nat) : WhAt (w.setCell ⟨g, 0, none⟩ (.int .i64 (tm' : Int))) D g tm' dm blk fd kd S := by
  obtain ⟨cs, h1, h2, h3, h4, h5⟩ := h.row
  have k : Keep [g] w (w.setCell ⟨g, 0, none⟩ (.int .i64 (tm' : Int))) := (Keep.refl _ _).setCell (.inl (by simp)) _
  have hne : ∀ {b f ks}, MapZ Try.prog 3 w b f ks → b ∉ [g] := fun {b f ks} hm e => by
    rw [List.mem_singleton] at e
    obtain ⟨es, c, hb⟩ := hm.isMapBlock
    rw [e, h1] at hb
    cases hb
  refine ⟨⟨_, heap_setCell_same w g 0 cs _ _ h1, by simpa using h2, setIf_same _ _ _ (by omega), by rw [setIf_other _ _ _ _ (by omega)]; exact h4, fun j hj => by rw [setIf_other _ _ _ _ (by omega)]; exact h5 j hj⟩,
    h.due.keep k (hne h.due), fun i hi => ?_, h.inj, h.ne, h.sub, h.inG, h.inM, h.inB, fun b hb => Nat.lt_of_lt_of_le (h.lt b hb) k.size⟩
  obtain ⟨ks1, hm1⟩ := h.maps i hi
  exact ⟨ks1, hm1.keep k (hne hm1)⟩
end

def dueF (l : List (Int × Nat)) (a : Int) : Option Value := (l.find? (fun p => p.1 == a)).map (fun p => .int .i64 (p.2 : Int))
def inP (t : Nat) (l : List (Int × Nat)) (k : Nat) (a : Int) : Bool := l.any (fun p => p.1 == a && plc t p.2 == k)
theorem inP_iff {t k : Nat} {l : List (Int × Nat)} {a : Int} : inP t l k a = true ↔ ∃ p ∈ l, p.1 = a ∧ plc t p.2 = k := by
  unfold inP
  rw [List.any_eq_true]
  simp
/-- A wheel in memory, in the blocks D. -/
def WV (w : World) (D : List Nat) (g : Nat) (m : Wm) : Prop := m.Wf ∧ ∃ dm blk, WhAt w D g m.time dm blk (dueF m.ths) (m.ths.map (·.1)) (inP m.time m.ths)
theorem WV.keep {w w' : World} {T D : List Nat} {g : Nat} {m : Wm} (h : WV w D g m) (k : Keep T w w') (hT : ∀ b ∈ T, b ∉ D) : WV w' D g m := by
  obtain ⟨h1, dm, blk, h2⟩ := h
  exact ⟨h1, dm, blk, h2.keep k hT⟩
theorem WV.lt {w : World} {D : List Nat} {g : Nat} {m : Wm} (h : WV w D g m) : ∀ b ∈ D, b < w.heap.size := by
  obtain ⟨h1, dm, blk, h2⟩ := h
  exact h2.lt
def Wm.new : Wm := { time := 0, ths := [] }
theorem Wm.new_wf : Wm.new.Wf where
  ord := List.Pairwise.nil
  nd := List.nodup_nil
  lo := fun p hp => nomatch hp
  rng := fun p hp => nomatch hp
  t := Nat.zero_le _
  few := Nat.zero_le _

set_option maxRecDepth 100000 in
set_option maxHeartbeats 1000000 in
theorem newWheel_any (w : World) : Calls Try.prog 62 #[] w fun e w' => ∃ g D, e = .returned (.pointer (some ⟨g, 0, none⟩)) ∧ WV w' D g Wm.new ∧ (∀ b ∈ D, w.heap.size ≤ b) ∧ Keep [] w w' := by
  refine (newWheel_go w).mono ?_
  rintro e w' ⟨g, dm, lm, cs, blk, rfl, h⟩
  have hlo := h.lo
  have hlt := (Array.getElem?_eq_some_iff.1 h.row).1
  refine ⟨g, g :: dm :: (List.range 385).map (fun k => if k = 384 then lm else blk k), rfl, ⟨Wm.new_wf, dm, fun k => if k = 384 then lm else blk k, ⟨⟨cs, h.row, h.size, h.c0, h.c1, fun k hk => ?_⟩, h.due, fun k hk => ?_, fun i j hi hj e => ?_, fun k hk => ?_, fun k hk a ha => ?_, by simp, by simp, fun k hk => ?_, fun b hb => ?_⟩⟩, fun b hb => ?_, h.keep⟩
  · split
    · next e => subst e; exact h.cl
    · exact h.at_ k (by omega)
  · have e : setF (inP Wm.new.time Wm.new.ths k) = fun _ => none := by funext a; simp [setF, inP, Wm.new]
    rw [e]
    split
    · exact ⟨_, h.later⟩
    · exact ⟨_, h.maps k (by omega)⟩
  · have hup := fun k (hk : k < 384) => h.up k hk
    by_cases e1 : i = 384 <;> by_cases e2 : j = 384
    · omega
    · rw [if_pos e1, if_neg e2] at e
      have := hup j (by omega)
      omega
    · rw [if_neg e1, if_pos e2] at e
      have := hup i (by omega)
      omega
    · rw [if_neg e1, if_neg e2] at e
      rcases Nat.lt_trichotomy i j with h1 | h1 | h1
      · have := h.inc i j h1 (by omega)
        omega
      · exact h1
      · have := h.inc j i h1 (by omega)
        omega
  · split
    · omega
    · have := h.up k (by omega)
      omega
  · simp [inP, Wm.new] at ha
  · refine List.mem_cons_of_mem _ (List.mem_cons_of_mem _ (List.mem_map.2 ⟨k, List.mem_range.2 (by omega), rfl⟩))
  · rcases List.mem_cons.1 hb with rfl | hb
    · exact hlt
    · rcases List.mem_cons.1 hb with rfl | hb
      · omega
      · obtain ⟨k, hk, rfl⟩ := List.mem_map.1 hb
        have hk := List.mem_range.1 hk
        split
        · omega
        · exact (h.maps k (by omega)).lt
  · rcases List.mem_cons.1 hb with rfl | hb
    · omega
    · rcases List.mem_cons.1 hb with rfl | hb
      · omega
      · obtain ⟨k, hk, rfl⟩ := List.mem_map.1 hb
        have hk := List.mem_range.1 hk
        split
        · omega
        · have := h.up k (by omega)
          omega
end Go.Proofs.Ytjkjiabfhhnngaa
