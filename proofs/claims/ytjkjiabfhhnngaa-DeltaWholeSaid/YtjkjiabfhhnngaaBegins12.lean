import Derived.Test.YtjkjiabfhhnngaaDlKit
/-! The walk of the law's begins, on a beginning. -/
namespace Go.Proofs.Ytjkjiabfhhnngaa
open Go.RowKit Go.Shelf Sg
set_option linter.unusedSimpArgs false
set_option linter.unusedVariables false

set_option maxRecDepth 100000 in
theorem of12_any (x : Ch) (w : World) : Calls Try.prog 82 #[x.v] w fun e w' => e = .returned x.v ∧ Keep [] w w' := by
  obtain ⟨d, h, r, a, s⟩ := x
  simp only [Ch.v]
  go_enter Try.func82, Try.ntmps82
  go_wp2
  exact bodyPost_ret (results_cell_row rfl _ _ (w.heap.size + 1) 162 _ _ _ rfl (heap_alloc2_new _ _ _) Try.underlying162 rfl (by kernel_rfl)) rfl ⟨rfl, ((Keep.refl [] w).alloc _).alloc _⟩
abbrev ARow := RowE Ch.enc 5 156
theorem ach_info : (Try.prog.info? 156).map (fun i => (i.zero, i.size, i.bytes)) = some (some (.agg #[.bool false, .int .u64 0, .int .i64 0, .int .i64 0, .int .i64 0]), 5, 40) := by kernel_rfl

set_option maxRecDepth 100000 in
set_option maxHeartbeats 1000000 in
set_option maxHeartbeats 4000000 in
theorem begins12_any (w : World) (b1 b2 : Nat) (va vb : Value) (la lb : List Ch) (ha : CRow w b1 va la) (hb : ARow w b2 vb lb) (hp : la <+: lb) (hlen : lb.length ≤ 1000) :
    Calls Try.prog 86 #[va, vb] w fun e w' => e = .returned (.bool true) ∧ Keep [] w w' := by
  obtain ⟨aa, ac, rfl⟩ := ha.form
  obtain ⟨ba, bc, rfl⟩ := hb.form
  have hll := hp.length_le
  obtain ⟨A, hA⟩ : ∃ A, la.length = A := ⟨_, rfl⟩
  obtain ⟨B, hB⟩ : ∃ B, lb.length = B := ⟨_, rfl⟩
  have HAB := Lib.hid (And.intro ha (And.intro hb (And.intro hp (And.intro hA hB))))
  rw [hA, hB] at hll
  rw [hB] at hlen
  rw [hA, hB]
  have hll' : ¬ ((B : Int) < (A : Int)) := by omega
  clear ha hb hp hA hB
  go_enter Try.func86, Try.ntmps86
  go_wp2
  go_loopw [5] (fun i wr => ∃ j : Nat, j ≤ A ∧ i = .int .i64 j ∧ Hid (Keep [] w wr)) (fun i _ => A - (intOf i).toNat)
  case atStart => exact ⟨0, by omega, rfl, Lib.hid (Keep.refl _ _)⟩
  case round =>
    obtain ⟨j, hj, rfl, HK⟩ := hrel
    rename World => wr
    by_cases hjA : j < A
    · have hji : (j : Int) < (A : Int) := by omega
      have hjB : (j : Int) < (B : Int) := by omega
      obtain ⟨ha, hb, hp, hA, hB⟩ := HAB.out
      have hj1 : j < la.length := by omega
      have hj2 : j < lb.length := by omega
      obtain ⟨g1, rfl, -, hc1⟩ := RowE.cells clies ha hj1
      obtain ⟨g2, rfl, -, hc2⟩ := RowE.cells clies hb hj2
      have heq : la[j] = lb[j] := hp.getElem hj1
      rw [← heq] at hc2
      obtain ⟨x, hx⟩ : ∃ x, la[j] = x := ⟨_, rfl⟩
      rw [hx] at hc1 hc2
      have CO := Lib.hid (fun w => of12_any x w)
      obtain ⟨d, h, r, a, s⟩ := x
      have HC := Lib.hid (And.intro hc1 hc2)
      clear ha hb hp hA hB hj1 hj2 hc1 hc2 heq hx
      go_upto_region 6 with fail
      refine wp_region_his [] [8] (fun _ => 0) (by kernel_rfl) (by kernel_rfl) ?_
      intro w2 hk2 hh
      clear hh
      have hK2 := HK.out.trans hk2
      have p0 := fun w' (h' : Keep [] w2 w') => (hK2.trans h').cell (by simp) (HC.out.1 0 _ rfl)
      have p1 := fun w' (h' : Keep [] w2 w') => (hK2.trans h').cell (by simp) (HC.out.1 1 _ rfl)
      have p2 := fun w' (h' : Keep [] w2 w') => (hK2.trans h').cell (by simp) (HC.out.1 2 _ rfl)
      have p3 := fun w' (h' : Keep [] w2 w') => (hK2.trans h').cell (by simp) (HC.out.1 3 _ rfl)
      have p4 := fun w' (h' : Keep [] w2 w') => (hK2.trans h').cell (by simp) (HC.out.1 4 _ rfl)
      have q0 := fun w' (h' : Keep [] w2 w') => (hK2.trans h').cell (by simp) (HC.out.2 0 _ rfl)
      have q1 := fun w' (h' : Keep [] w2 w') => (hK2.trans h').cell (by simp) (HC.out.2 1 _ rfl)
      have q2 := fun w' (h' : Keep [] w2 w') => (hK2.trans h').cell (by simp) (HC.out.2 2 _ rfl)
      have q3 := fun w' (h' : Keep [] w2 w') => (hK2.trans h').cell (by simp) (HC.out.2 3 _ rfl)
      have q4 := fun w' (h' : Keep [] w2 w') => (hK2.trans h').cell (by simp) (HC.out.2 4 _ rfl)
      simp only [Nat.add_zero] at p0 q0
      have HK2 := Lib.hid hK2
      clear hK2 hk2
      (repeat (first | (refine his_q rfl rfl (fun K hK => ?_); apply Exists.intro; refine ⟨fun w' hC => ?_, ?_⟩; ((try simp [Sg.upd] at hC); go_simp <;> rfl); go_simp; refine hK _ _ ?_; clear hK K) | (refine his_s rfl (fun K hK => ?_); go_simp; refine hK _ _ ?_; clear hK K)))
      (refine his_l rfl rfl (fun K hK => ?_); go_simp)
      refine (CO.out _).mono ?_
      rintro e w3 ⟨rfl, hk3⟩
      simp only [Ch.v]
      refine hK _ _ hk3 ?_
      clear hK K
      (repeat (first | (refine his_q rfl rfl (fun K hK => ?_); apply Exists.intro; refine ⟨fun w' hC => ?_, ?_⟩; ((try simp [Sg.upd] at hC); go_simp <;> rfl); go_simp; refine hK _ _ ?_; clear hK K) | (refine his_s rfl (fun K hK => ?_); go_simp; refine hK _ _ ?_; clear hK K)))
      refine his_nil ?_
      have HK3 := Lib.hid (HK2.out.trans hk3)
      clear p0 p1 p2 p3 p4 q0 q1 q2 q3 q4 hk3 CO
      go_wp2
      go_roundw
      case rel => exact ⟨j + 1, by omega, by go_num, HK3⟩
      case measure => simp [intOf]; omega
    · have hji : ¬ (j : Int) < (A : Int) := by omega
      go_wp2
      go_ret
      exact ⟨rfl, HK.out⟩
end Go.Proofs.Ytjkjiabfhhnngaa
