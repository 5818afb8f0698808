import Derived.Test.YtjkjiabfhhnngaaFlashA
import Derived.Test.YtjkjiabfhhnngaaParK
import Derived.Test.YtjkjiabfhhnngaaGen
import Derived.Deep.CutRange
import Derived.Laws.ResultCell
/-! The document's device: what it is in memory; its small calls. -/
namespace Go.Proofs.Ytjkjiabfhhnngaa
open Go.RowKit Sg
set_option linter.unusedSimpArgs false
set_option linter.unusedVariables false

def s4enc (s : List UInt8) : List Value := [.string ⟨s.toArray⟩]
def w4enc (p : Nat × List UInt8) : List Value := [.int .i64 (p.1 : Int), .string ⟨p.2.toArray⟩]
/-- a slice's three numbers -/
abbrev Sl := Option Addr × Nat × Nat
def Sl.v (s : Sl) : Value := .slice s.1 s.2.1 s.2.2
def p4enc (s : Sl) : List Value := [s.v]
theorem s4lies : Lies s4enc 1 := ⟨fun _ => rfl, fun x u hu => by simp [s4enc] at hu; rcases hu with rfl; rfl⟩
theorem w4lies : Lies w4enc 2 := ⟨fun _ => rfl, fun x u hu => by simp [w4enc] at hu; rcases hu with rfl | rfl <;> rfl⟩
theorem p4lies : Lies p4enc 1 := ⟨fun _ => rfl, fun x u hu => by simp [p4enc] at hu; rcases hu with rfl; rfl⟩
abbrev SRow4 := RowE s4enc 1 9
abbrev WRow4 := RowE w4enc 2 181
abbrev PRow4 := RowE p4enc 1 29
theorem s4_info : (Try.prog.info? 9).map (fun i => (i.zero, i.size, i.bytes)) = some (some (.string ByteArray.empty), 1, 16) := by kernel_rfl
theorem w4_info : (Try.prog.info? 181).map (fun i => (i.zero, i.size, i.bytes)) = some (some (.agg #[.int .i64 0, .string ByteArray.empty]), 2, 24) := by kernel_rfl
theorem p4_info : (Try.prog.info? 29).map (fun i => (i.zero, i.size, i.bytes)) = some (some (.slice none 0 0), 1, 24) := by kernel_rfl
/-- what a sector was ever given, the newest first -/
def pastAt (m : Dev) (k : Nat) : List (List UInt8) := (m.past.getD k []).reverse ++ [List.replicate m.sz 0]
structure RDV (P : Nat → Prop) (w : World) (fv lv pv : Value) (m : Dev) : Prop where
  fast : SRow4 w 0 fv m.fast
  loose : WRow4 w 0 lv m.loose
  past : ∃ vs : List Sl, PRow4 w 0 pv vs ∧ vs.length = m.past.length ∧ ∀ k (h : k < vs.length), SRow4 w 0 vs[k].v (pastAt m k) ∧ ∀ b, vs[k].v.ownBlock = some b → P b
  fP : ∀ b, fv.ownBlock = some b → P b
  lP : ∀ b, lv.ownBlock = some b → P b
  pP : ∀ b, pv.ownBlock = some b → P b
theorem RDV.keep {P : Nat → Prop} {w w' : World} {fv lv pv : Value} {m : Dev} (h : RDV P w fv lv pv m) (k : Keep [] w w') : RDV P w' fv lv pv m := by
  obtain ⟨vs, h1, h2, h3⟩ := h.past
  exact ⟨h.fast.keep k (by simp), h.loose.keep k (by simp), ⟨vs, h1.keep k (by simp), h2, fun i hi => ⟨(h3 i hi).1.keep k (by simp), (h3 i hi).2⟩⟩, h.fP, h.lP, h.pP⟩
/-- blocks outside P may change -/
theorem RDV.keepS {P : Nat → Prop} {S : List Nat} {w w' : World} {fv lv pv : Value} {m : Dev} (h : RDV P w fv lv pv m) (k : Keep S w w') (hS : ∀ b ∈ S, ¬ P b) : RDV P w' fv lv pv m := by
  obtain ⟨vs, h1, h2, h3⟩ := h.past
  exact ⟨h.fast.keep k (fun b hb hm => hS b hm (h.fP b hb)), h.loose.keep k (fun b hb hm => hS b hm (h.lP b hb)), ⟨vs, h1.keep k (fun b hb hm => hS b hm (h.pP b hb)), h2, fun i hi => ⟨(h3 i hi).1.keep k (fun b hb hm => hS b hm ((h3 i hi).2 b hb)), (h3 i hi).2⟩⟩, h.fP, h.lP, h.pP⟩
/-- P may be said anew of the blocks that are there -/
theorem RDV.turn {P Q : Nat → Prop} {w : World} {fv lv pv : Value} {m : Dev} (h : RDV P w fv lv pv m) (hPQ : ∀ b, b < w.heap.size → P b → Q b) : RDV Q w fv lv pv m := by
  obtain ⟨vs, h1, h2, h3⟩ := h.past
  exact ⟨h.fast, h.loose, ⟨vs, h1, h2, fun i hi => ⟨(h3 i hi).1, fun b hb => hPQ b ((h3 i hi).1.lt b hb).2.1 ((h3 i hi).2 b hb)⟩⟩, fun b hb => hPQ b (h.fast.lt b hb).2.1 (h.fP b hb), fun b hb => hPQ b (h.loose.lt b hb).2.1 (h.lP b hb), fun b hb => hPQ b (h1.lt b hb).2.1 (h.pP b hb)⟩
def d4cells (m : Dev) (fv lv pv : Value) : Array Value := #[.int .i64 (m.sz : Int), fv, lv, pv, .int .i64 (m.armed : Int), .int .i64 (m.acts : Int), .bool m.down]
theorem last4_snoc (l : List (Nat × List UInt8)) (p : Nat × List UInt8) (j : Nat) : lastOf (l ++ [p]) j = if p.1 = j then some p.2 else lastOf l j := by
  unfold lastOf
  rw [List.reverse_append]
  simp only [List.reverse_cons, List.reverse_nil, List.nil_append, List.cons_append, List.find?_cons]
  by_cases h : p.1 = j
  · simp [h]
  · have h2 : (p.1 == j) = false := beq_false_of_ne h
    rw [h2, if_neg h]

set_option maxRecDepth 100000 in
set_option maxHeartbeats 1000000 in
theorem there4_any (sz N fc ar ac : Nat) (fa : Option Addr) (lv pv : Value) (dn : Bool) (hN : N ≤ 16384) (at_ : Int) (w : World) :
    Calls Try.prog 93 #[.agg #[.int .i64 (sz : Int), .slice fa N fc, lv, pv, .int .i64 (ar : Int), .int .i64 (ac : Int), .bool dn], .int .i64 at_] w fun e w' => e = .returned (.bool (decide (0 ≤ at_ ∧ at_ < (N : Int)))) ∧ Keep [] w w' := by
  have hK := (Keep.refl [] w).alloc (.cells #[.int .i64 (sz : Int), .slice fa N fc, lv, pv, .int .i64 (ar : Int), .int .i64 (ac : Int), .bool dn] 33)
  by_cases h0 : 0 ≤ at_
  · by_cases h1 : at_ < (N : Int)
    · rw [decide_eq_true ⟨h0, h1⟩]
      go_enter Try.func93, Try.ntmps93
      go_wp2
      go_ret
      exact ⟨rfl, hK⟩
    · rw [decide_eq_false (fun h => h1 h.2)]
      go_enter Try.func93, Try.ntmps93
      go_wp2
      go_ret
      exact ⟨rfl, hK⟩
  · rw [decide_eq_false (fun h => h0 h.1)]
    go_enter Try.func93, Try.ntmps93
    go_wp2
    go_ret
    exact ⟨rfl, hK⟩

set_option maxRecDepth 100000 in
set_option maxHeartbeats 1000000 in
set_option maxHeartbeats 4000000 in
theorem act4_any (m : Dev) (har : m.armed ≤ 9223372036854775807) (hac : m.acts ≤ 1000000000) (fa la pa : Option Addr) (fn fc ln lc pn pc : Nat) (w : World) :
    Calls Try.prog 89 #[.agg (d4cells m (.slice fa fn fc) (.slice la ln lc) (.slice pa pn pc))] w fun e w' => e = .returned (.agg (d4cells m.act (.slice fa fn fc) (.slice la ln lc) (.slice pa pn pc))) ∧ Keep [] w w' := by
  obtain ⟨n, sz, fast, loose, past, ar, ac, dn⟩ := m
  simp only at har hac
  have z1 : IntKind.i64.wrap ((ac : Int) + 1) = ((ac + 1 : Nat) : Int) := by rw [i64_wrap (by omega) (by omega)]; push_cast; rfl
  simp only [d4cells, Dev.act]
  by_cases h0 : 0 < ar
  · have h0i : (0 : Int) < (ar : Int) := by omega
    have z2 : IntKind.i64.wrap ((ar : Int) - 1) = ((ar - 1 : Nat) : Int) := by rw [i64_wrap (by omega) (by omega)]; omega
    obtain ⟨a1, ha1⟩ : ∃ a1, ar - 1 = a1 := ⟨_, rfl⟩
    obtain ⟨c1, hc1⟩ : ∃ c1, ac + 1 = c1 := ⟨_, rfl⟩
    rw [ha1] at z2
    rw [hc1] at z1
    have hdn : (if 0 < ar then decide (ar = 1) else dn) = ((a1 : Int) == 0) := by
      rw [if_pos h0]
      by_cases h1 : ar = 1
      · have : a1 = 0 := by omega
        subst this
        rw [decide_eq_true h1]; rfl
      · rw [decide_eq_false h1]
        exact (beq_false_of_ne (by omega)).symm
    rw [hdn, ha1, hc1]
    clear ha1 hc1 hdn
    go_enter Try.func89, Try.ntmps89
    go_wp2
    exact bodyPost_ret (results_cell_row rfl _ _ (w.heap.size + 1) 33 _ _ _ rfl (heap_alloc2_new _ _ _) Try.underlying33 rfl (by kernel_rfl)) rfl ⟨rfl, ((Keep.refl [] w).alloc _).alloc _⟩
  · have h0i : ¬ (0 : Int) < (ar : Int) := by omega
    obtain ⟨c1, hc1⟩ : ∃ c1, ac + 1 = c1 := ⟨_, rfl⟩
    have har0 : ar - 1 = ar := by omega
    rw [hc1] at z1
    rw [if_neg h0, hc1, har0]
    clear hc1 har0
    go_enter Try.func89, Try.ntmps89
    go_wp2
    exact bodyPost_ret (results_cell_row rfl _ _ (w.heap.size + 1) 33 _ _ _ rfl (heap_alloc2_new _ _ _) Try.underlying33 rfl (by kernel_rfl)) rfl ⟨rfl, ((Keep.refl [] w).alloc _).alloc _⟩

set_option maxRecDepth 100000 in
set_option maxHeartbeats 1000000 in
set_option maxHeartbeats 4000000 in
theorem refRead4_any (m : Dev) (hwf : m.Wf) (hacts : m.acts ≤ 1000000000) {P : Nat → Prop} (fv lv pv : Value) (w : World) (hv : RDV P w fv lv pv m) (at_ : Int) :
    Calls Try.prog 22 #[.agg (d4cells m fv lv pv), .int .i64 at_] w fun e w' => e = .returned (.tuple #[.string ⟨(m.read at_).1.toArray⟩, .int .i64 ((m.read at_).2 : Int)]) ∧ Keep [] w w' := by
  have hll := hwf.ll
  have hn2 := hwf.n2
  have hfl := hwf.fl
  obtain ⟨fa, fc, rfl⟩ := hv.fast.form
  obtain ⟨la, lc, rfl⟩ := hv.loose.form
  obtain ⟨vs, hpr, -, -⟩ := hv.past
  obtain ⟨pa, pc, rfl⟩ := hpr.form
  obtain ⟨N, hN⟩ : ∃ N, m.fast.length = N := ⟨_, rfl⟩
  obtain ⟨L, hL⟩ : ∃ L, m.loose.length = L := ⟨_, rfl⟩
  have hmn : m.n = N := by rw [← hfl, hN]
  have HV := Lib.hid (And.intro hv (And.intro hN (And.intro hL hmn)))
  have hLb : L ≤ 1000000000 := by omega
  have hNb : N ≤ 16384 := by omega
  have hA := (Keep.refl [] w).alloc (.cells #[.int .i64 (m.sz : Int), .slice fa N fc, .slice la L lc, .slice pa vs.length pc, .int .i64 (m.armed : Int), .int .i64 (m.acts : Int), .bool m.down] 33)
  have hB := heap_alloc_new w (.cells #[.int .i64 (m.sz : Int), .slice fa N fc, .slice la L lc, .slice pa vs.length pc, .int .i64 (m.armed : Int), .int .i64 (m.acts : Int), .bool m.down] 33)
  simp only [d4cells]
  rw [hN, hL]
  clear hv hpr hN hL hmn hfl hll hn2
  cases hd : m.down with
  | true =>
    have e : m.read at_ = ([], 4) := by unfold Dev.read Dev.ready; rw [hd]; rfl
    rw [e]
    rw [hd] at hA hB
    clear hd e
    go_enter Try.func22, Try.ntmps22
    go_wp2
    refine bodyPost_ret (results_tmp2 rfl _ _ _) rfl ?_
    exact ⟨rfl, hA⟩
  | false =>
    rw [hd] at hA hB
    have cT := fun w' => there4_any m.sz N fc m.armed m.acts fa (.slice la L lc) (.slice pa vs.length pc) false hNb at_ w'
    by_cases hr : 0 ≤ at_ ∧ at_ < (N : Int)
    · obtain ⟨k, rfl⟩ : ∃ k : Nat, at_ = (k : Int) := ⟨at_.toNat, by omega⟩
      have hkN : k < N := by omega
      have hki : (k : Int) < (N : Int) := by omega
      have e : m.read (k : Int) = ((lastOf m.loose k).getD (m.fast.getD k []), 0) := by
        have hrd : m.ready (k : Int) = 0 := by
          unfold Dev.ready
          rw [if_neg (by rw [hd]; simp), if_pos ⟨by omega, by rw [HV.out.2.2.2]; omega⟩]
        unfold Dev.read
        rw [if_neg (by rw [hrd]; simp)]
        rfl
      rw [e]
      simp only [decide_eq_true hr] at cT
      obtain ⟨fk, hfk⟩ : ∃ fk, m.fast.getD k [] = fk := ⟨_, rfl⟩
      rw [hfk]
      have HFK := Lib.hid hfk
      have HAB := Lib.hid (And.intro hA hB)
      clear e hd hfk hr hA hB
      go_enter Try.func22, Try.ntmps22
      go_wp2_with fail
      refine (cT _).mono ?_
      clear cT
      rintro e w2 ⟨rfl, k2⟩
      have hB2 := k2.blk (by simp) HAB.out.2
      have c1 := cell_of_row w2 _ 1 _ _ _ hB2
      simp at c1
      obtain ⟨gf, rfl, -, hcf⟩ := RowE.cells s4lies (HV.out.1.fast.keep (HAB.out.1.trans k2) (by simp)) (i := k) (by rw [HV.out.2.1]; exact hkN)
      have y0 := hcf 0 _ rfl
      simp only [Nat.mul_one, Nat.add_zero] at y0
      have hfe : m.fast[k]'(by rw [HV.out.2.1]; exact hkN) = fk := by
        rw [← HFK.out, List.getD_eq_getElem?_getD, List.getElem?_eq_getElem]; rfl
      rw [hfe] at y0
      have H2 := Lib.hid (And.intro k2 hB2)
      clear hcf hfe k2 hB2
      go_wp2
      clear y0 c1
      go_loopw [6, 7] (fun o i wr => ∃ j : Nat, j ≤ L ∧ i = .int .i64 (j : Int) ∧ o = .string ⟨((lastOf (m.loose.take j) k).getD fk).toArray⟩ ∧ Hid (Keep [] w2 wr)) (fun _ i _ => L - (intOf i).toNat)
      case atStart => exact ⟨0, by omega, rfl, rfl, Lib.hid (Keep.refl _ _)⟩
      case round =>
        obtain ⟨j, hj, rfl, rfl, HK⟩ := hrel
        rename World => wr
        have hBr := HK.out.blk (by simp) H2.out.2
        have c2 := cell_of_row wr _ 2 _ _ _ hBr
        simp at c2
        by_cases hjL : j < L
        · have hji : (j : Int) < (L : Int) := by omega
          have hjl : j < m.loose.length := by rw [HV.out.2.2.1]; exact hjL
          obtain ⟨gl, rfl, -, hcl⟩ := RowE.cells w4lies (HV.out.1.loose.keep ((HAB.out.1.trans H2.out.1).trans HK.out) (by simp)) hjl
          have hst := last4_snoc (m.loose.take j) m.loose[j] k
          rw [← List.take_succ_eq_append_getElem hjl] at hst
          obtain ⟨p, hp⟩ : ∃ p, m.loose[j] = p := ⟨_, rfl⟩
          rw [hp] at hcl hst
          obtain ⟨pk, pb⟩ := p
          have y0 := hcl 0 _ rfl
          have y1 := hcl 1 _ rfl
          simp only [Nat.add_zero] at y0
          have HST := Lib.hid hst
          have HBR := Lib.hid hBr
          clear hcl hp hst hjl hBr
          by_cases hpk : pk = k
          · have t1 : ((pk : Int) == (k : Int)) = true := by simp [hpk]
            have HPK := Lib.hid hpk
            clear hpk
            go_wp2
            go_roundw
            case rel => exact ⟨j + 1, by omega, by go_num, by rw [HST.out, if_pos HPK.out]; rfl, HK⟩
            case measure => simp [intOf]; omega
          · have t1 : ((pk : Int) == (k : Int)) = false := beq_false_of_ne (by omega)
            have HPK := Lib.hid hpk
            clear hpk
            go_wp2
            go_roundw
            case rel => exact ⟨j + 1, by omega, by go_num, by rw [HST.out, if_neg HPK.out], HK⟩
            case measure => simp [intOf]; omega
        · have hji : ¬ (j : Int) < (L : Int) := by omega
          have hje : m.loose.take j = m.loose := List.take_of_length_le (by rw [HV.out.2.2.1]; omega)
          rw [hje]
          clear hje hBr
          go_wp2
          refine bodyPost_ret (results_tmp2 rfl _ _ _) rfl ?_
          exact ⟨rfl, (HAB.out.1.trans H2.out.1).trans HK.out⟩
    · have e : m.read at_ = ([], 2) := by
        unfold Dev.read Dev.ready
        rw [hd, if_neg (show ¬ false = true by simp), if_neg (show ¬ (0 ≤ at_ ∧ at_ < (m.n : Int)) by rw [HV.out.2.2.2]; exact hr)]
        rfl
      rw [e]
      simp only [decide_eq_false hr] at cT
      have HAB := Lib.hid (And.intro hA hB)
      clear e hd hr hA hB
      go_enter Try.func22, Try.ntmps22
      go_wp2_with fail
      refine (cT _).mono ?_
      clear cT
      rintro e w2 ⟨rfl, k2⟩
      have HK2 := Lib.hid (HAB.out.1.trans k2)
      clear k2
      go_wp2
      refine bodyPost_ret (results_tmp2 rfl _ _ _) rfl ?_
      exact ⟨rfl, HK2.out⟩
end Go.Proofs.Ytjkjiabfhhnngaa
