import Derived.Test.YtcmkcegnfddccaaAwake11
import Derived.Outline
/-! The walk of the law RegionNil. -/
namespace Go.Proofs.Ytcmkcegnfddccaa
open Go.RowKit Go.Shelf Sg
attribute [local go_sem] Oper.semAt_some
set_option linter.unusedSimpArgs false
set_option linter.unusedVariables false

set_option maxRecDepth 100000 in
set_option maxHeartbeats 1000000 in
theorem formatNil_any (p : Pl) (w : World) : Calls Try.prog 56 #[.pointer none, p.v] w fun e w' => e = .returned (.tuple #[.pointer none, .int .i64 1]) ∧ Keep [] w w' := by
  have hA := (Keep.refl [] w).alloc (.cells #[.int .i64 p.sec, .int .i64 p.size, .int .i64 p.reg, .int .i64 p.rs, .int .i64 p.lg, .int .i64 p.dep, .int .i64 p.mem, .int .u64 (p.seed : Int)] 108)
  have HA := Lib.hid hA
  clear hA
  simp only [Pl.v]
  go_enter Try.func56, Try.ntmps56
  go_wp2
  exact bodyPost_ret (results_tmp2 rfl _ _ _) rfl ⟨rfl, HA.out⟩
set_option maxRecDepth 100000 in
set_option maxHeartbeats 1000000 in
theorem openNil_any (p : Pl) (n : Int) (w : World) : Calls Try.prog 67 #[.pointer none, p.v, .int .i64 n] w fun e w' => e = .returned (.tuple #[.pointer none, .int .i64 1]) ∧ Keep [] w w' := by
  have hA := (Keep.refl [] w).alloc (.cells #[.int .i64 p.sec, .int .i64 p.size, .int .i64 p.reg, .int .i64 p.rs, .int .i64 p.lg, .int .i64 p.dep, .int .i64 p.mem, .int .u64 (p.seed : Int)] 108)
  have HA := Lib.hid hA
  clear hA
  have hf := fun w' => formatNil_any p w'
  simp only [Pl.v] at hf ⊢
  go_enter Try.func67, Try.ntmps67
  go_wp2_with fail
  refine (hf _).mono ?_
  rintro e w2 ⟨rfl, hk⟩
  go_wp2
  exact bodyPost_ret (results_tmp2 rfl _ _ _) rfl ⟨rfl, HA.out.trans hk⟩
set_option maxRecDepth 100000 in
set_option maxHeartbeats 1000000 in
theorem appendNil_any (v : Value) (w : World) : Calls Try.prog 58 #[.pointer none, v] w fun e w' => e = .returned (.tuple #[.agg #[.int .i64 0, .int .i64 0, .int .i64 0], .int .i64 1]) ∧ Keep [] w w' := by
  have hA := (Keep.refl [] w).alloc (.cells #[.int .i64 0, .int .i64 0, .int .i64 0] 101)
  have hX := heap_alloc_new w (.cells #[.int .i64 0, .int .i64 0, .int .i64 0] 101)
  have HA := Lib.hid hA
  have HX := Lib.hid hX
  clear hA hX
  go_enter Try.func58, Try.ntmps58
  go_wp2_with (refine wpList_store_row rfl 101 (.tmp 4) (.tmp 18) rfl w.heap.size #[.int .i64 0, .int .i64 0, .int .i64 0] rfl rfl 101 _ HX.out (by kernel_rfl) (by rfl) (by kernel_rfl) ?_)
  exact bodyPost_ret (results_cell_tmp_row rfl _ _ w.heap.size 101 _ _ _ rfl (setRow_heap _ _ _ _ _ _ HX.out) Try.underlying101 rfl (by kernel_rfl)) rfl ⟨rfl, HA.out.setRow (.inr (Nat.le_refl _)) _⟩
set_option maxRecDepth 100000 in
set_option maxHeartbeats 1000000 in
theorem recordsNil_any (q : Int) (w : World) : Calls Try.prog 75 #[.pointer none, .int .i64 q] w fun e w' => e = .returned (.tuple #[.slice none 0 0, .int .i64 1]) ∧ w = w' := by
  go_enter Try.func75, Try.ntmps75
  go_wp2_with fail
  go_step3
  go_wp2
  try rw [Exit.noGoto_ret]
  exact bodyPost_ret (results_tmp2 rfl _ _ _) rfl ⟨rfl, rfl⟩
set_option maxRecDepth 100000 in
set_option maxHeartbeats 1000000 in
theorem flushNil_any (w : World) : Calls Try.prog 65 #[.pointer none] w fun e w' => e = .returned (.int .i64 1) ∧ w = w' := by
  go_enter Try.func65, Try.ntmps65
  go_wp2
  go_ret
  exact ⟨rfl, rfl⟩
set_option maxRecDepth 100000 in
set_option maxHeartbeats 1000000 in
theorem lastNil_any (w : World) : Calls Try.prog 62 #[.pointer none] w fun e w' => e = .returned (.int .i64 0) ∧ w = w' := by
  go_enter Try.func62, Try.ntmps62
  go_wp2
  go_ret
  exact ⟨rfl, rfl⟩
set_option maxRecDepth 100000 in
set_option maxHeartbeats 1000000 in
theorem oldestNil_any (w : World) : Calls Try.prog 61 #[.pointer none] w fun e w' => e = .returned (.int .i64 0) ∧ w = w' := by
  go_enter Try.func61, Try.ntmps61
  go_wp2
  go_ret
  exact ⟨rfl, rfl⟩
set_option maxRecDepth 100000 in
set_option maxHeartbeats 1000000 in
theorem whereNil_any (w : World) : Calls Try.prog 64 #[.pointer none] w fun e w' => e = .returned (.int .i64 0) ∧ w = w' := by
  go_enter Try.func64, Try.ntmps64
  go_wp2
  go_ret
  exact ⟨rfl, rfl⟩
set_option maxRecDepth 100000 in
set_option maxHeartbeats 1000000 in
theorem readNilL_any (a b s : Int) (w : World) : Calls Try.prog 60 #[.pointer none, .agg #[.int .i64 a, .int .i64 b, .int .i64 s]] w fun e w' => ∃ v, e = .returned (.tuple #[v, .int .i64 1]) ∧ Keep [] w w' := by
  have hnew := four_new w (.cells #[.pointer none] 103) (.cells #[.int .i64 a, .int .i64 b, .int .i64 s] 101) (.cells #[.slice none 0 0] 23) (.cells #[.int .i64 0] 26)
  obtain ⟨w1, hw1⟩ : ∃ w1, ((((w.alloc (.cells #[.pointer none] 103)).alloc (.cells #[.int .i64 a, .int .i64 b, .int .i64 s] 101)).alloc (.cells #[.slice none 0 0] 23)).alloc (.cells #[.int .i64 0] 26)) = w1 := ⟨_, rfl⟩
  rw [hw1] at hnew
  obtain ⟨kA, b0, b1, b2, b3, hs1⟩ := hnew
  have c0 := cell_of_one b0
  have c2 := cell_of_one b2
  have c3 := cell_of_one b3
  have f2 := free_of_one b2
  have f3 := free_of_one b3
  have HB := Lib.hid (And.intro kA (And.intro b2 b3))
  clear b0 b1 b2 b3 kA hs1
  refine calls_of_marks Try.func60 rfl ?_
  simp only [Try.ntmps60, List.size_toArray, List.length_cons, List.length_nil, Nat.reduceAdd, Nat.reduceSub, Array.replicate_succ, Array.replicate_zero, List.push_toArray, List.append_toArray, List.nil_append, List.cons_append]
  go_wp2
  refine leavesM_nil (results_read rfl _ _ rfl rfl (cell_of_one ((heap_setCell_other _ _ _ _ (by simp)).trans (one_setCell HB.out.2.1))) (cell_of_one (one_setCell ((heap_setCell_other _ _ _ _ (by simp)).trans HB.out.2.2)))) ⟨_, rfl, (HB.out.1.setCell (.inr (show w.heap.size ≤ w.heap.size + 1 + 1 by omega)) _).setCell (.inr (show w.heap.size ≤ w.heap.size + 1 + 1 + 1 by omega)) _⟩

set_option maxRecDepth 100000 in
set_option maxHeartbeats 1000000 in
set_option maxHeartbeats 4000000 in
theorem regionNilWalk (W : World) (n : Int) (hn : (Lit.int .i64 n).wf = true) :
    Calls Try.prog 13 #[.int .i64 n] W fun e W' => e = .returned (.bool true) ∧ Below W.heap.size W W' := by
  go_enter Try.func13, Try.ntmps13
  go_wp2_with fail
  refine (small_any _).mono ?_
  rintro e w1 ⟨rfl, k1⟩
  go_wp2_with fail
  refine (formatNil_any smallP _).mono ?_
  rintro e w2 ⟨rfl, k2⟩
  go_wp2_with fail
  refine (small_any _).mono ?_
  rintro e w3 ⟨rfl, k3⟩
  go_wp2_with fail
  refine (openNil_any smallP _ _).mono ?_
  rintro e w4 ⟨rfl, k4⟩
  have k04 := Lib.hid (k1.trans (k2.trans (k3.trans k4)))
  clear k1 k2 k3 k4
  go_wp2_with fail
  refine (appendNil_any _ _).mono ?_
  rintro e w5 ⟨rfl, k5⟩
  have k05 := Lib.hid ((k04.out.alloc _).trans k5)
  clear k5 k04
  go_wp2_with fail
  refine (readNilL_any _ _ _ _).mono ?_
  rintro e w6 ⟨v6, rfl, k6⟩
  have k06 := Lib.hid ((k05.out.alloc _).trans k6)
  clear k6 k05
  go_wp2_with fail
  refine (recordsNil_any _ _).mono ?_
  rintro e w7 ⟨rfl, rfl⟩
  go_wp2_with fail
  refine (flushNil_any _).mono ?_
  rintro e w7 ⟨rfl, rfl⟩
  go_wp2_with fail
  refine (lastNil_any _).mono ?_
  rintro e w7 ⟨rfl, rfl⟩
  go_wp2_with fail
  refine (oldestNil_any _).mono ?_
  rintro e w7 ⟨rfl, rfl⟩
  go_wp2_with fail
  refine (whereNil_any _).mono ?_
  rintro e w7 ⟨rfl, rfl⟩
  go_wp2_with fail
  refine (awake11_any _).mono ?_
  rintro e w7 ⟨rfl, k7⟩
  go_wp2
  go_ret
  exact ⟨rfl, (k06.out.trans k7).below (Nat.le_refl _) (by simp)⟩
end Go.Proofs.Ytcmkcegnfddccaa
