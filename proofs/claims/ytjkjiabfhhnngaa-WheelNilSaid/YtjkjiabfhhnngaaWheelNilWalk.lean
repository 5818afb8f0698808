import Derived.Test.YtjkjiabfhhnngaaWheelAw
import Derived.Test.YtjkjiabfhhnngaaFlash9
/-! The walk of the law WheelNil. -/
namespace Go.Proofs.Ytjkjiabfhhnngaa
open Go.RowKit Go.Shelf Sg
set_option linter.unusedSimpArgs false
set_option linter.unusedVariables false

set_option maxRecDepth 100000 in
set_option maxHeartbeats 1000000 in
theorem dropNil_any (n : Int) (w : World) : Calls Try.prog 70 #[.pointer none, .int .i64 n] w fun e w' => e = .returned (.tuple #[.int .i64 0, .bool false]) ∧ w = w' := by
  go_enter Try.func70, Try.ntmps70
  go_wp2
  refine bodyPost_ret (results_tmp2 rfl _ _ _) rfl ?_
  exact ⟨rfl, rfl⟩
set_option maxRecDepth 100000 in
set_option maxHeartbeats 1000000 in
theorem goNil_any (n : Int) (w : World) : Calls Try.prog 65 #[.pointer none, .int .i64 n] w fun e w' => e = .returned (.tuple #[.slice none 0 0, .int .i64 1]) ∧ w = w' := by
  go_enter Try.func65, Try.ntmps65
  go_wp2
  refine bodyPost_ret (results_tmp2 rfl _ _ _) rfl ?_
  exact ⟨rfl, rfl⟩
set_option maxRecDepth 100000 in
set_option maxHeartbeats 1000000 in
theorem putNil_any (n a : Int) (w : World) : Calls Try.prog 64 #[.pointer none, .int .i64 n, .int .i64 a] w fun e w' => e = .returned (.int .i64 1) ∧ w = w' := by
  go_enter Try.func64, Try.ntmps64
  go_wp2
  go_ret
  exact ⟨rfl, rfl⟩
set_option maxRecDepth 100000 in
set_option maxHeartbeats 1000000 in
theorem timeNil_any (w : World) : Calls Try.prog 67 #[.pointer none] w fun e w' => e = .returned (.int .i64 0) ∧ w = w' := by
  go_enter Try.func67, Try.ntmps67
  go_wp2
  go_ret
  exact ⟨rfl, rfl⟩
set_option maxRecDepth 100000 in
set_option maxHeartbeats 1000000 in
theorem lenNil_any (w : World) : Calls Try.prog 66 #[.pointer none] w fun e w' => e = .returned (.int .i64 0) ∧ w = w' := by
  go_enter Try.func66, Try.ntmps66
  go_wp2
  go_ret
  exact ⟨rfl, rfl⟩
set_option maxRecDepth 100000 in
set_option maxHeartbeats 1000000 in
theorem allNil_any (w : World) : Calls Try.prog 75 #[.pointer none] w fun e w' => e = .returned (.slice none 0 0) ∧ w = w' := by
  go_enter Try.func75, Try.ntmps75
  go_wp2
  go_ret
  exact ⟨rfl, rfl⟩
set_option maxRecDepth 100000 in
set_option maxHeartbeats 1000000 in
theorem nextNil_any (w : World) : Calls Try.prog 74 #[.pointer none] w fun e w' => e = .returned (.tuple #[.agg #[.int .i64 0, .int .i64 0], .bool false]) ∧ Keep [] w w' := by
  obtain ⟨w1, hw1⟩ : ∃ w1, w.alloc (.cells #[.pointer none] 118) = w1 := ⟨_, rfl⟩
  have hk1 : Keep [] w w1 := by rw [← hw1]; exact (Keep.refl [] w).alloc _
  obtain ⟨w2, hw2⟩ : ∃ w2, w1.alloc (.cells #[.int .i64 0, .int .i64 0] 128) = w2 := ⟨_, rfl⟩
  have hk2 : Keep [] w1 w2 := by rw [← hw2]; exact (Keep.refl [] w1).alloc _
  have e1 : w2.heap[w1.heap.size]? = some (.cells #[.int .i64 0, .int .i64 0] 128 (0, 0)) := by rw [← hw2]; exact heap_alloc_new w1 _
  obtain ⟨w3, hw3⟩ : ∃ w3, w2.alloc (.cells #[.bool false] 4) = w3 := ⟨_, rfl⟩
  have hk3 : Keep [] w2 w3 := by rw [← hw3]; exact (Keep.refl [] w2).alloc _
  have e2 : w3.heap[w2.heap.size]? = some (.cells #[.bool false] 4 (0, 0)) := by rw [← hw3]; exact heap_alloc_new w2 _
  have e1' := hk3.blk (by simp) e1
  have e0 : w1.heap[w.heap.size]? = some (.cells #[.pointer none] 118 (0, 0)) := by rw [← hw1]; exact heap_alloc_new w _
  have y0 := cell_of_one ((hk2.trans hk3).blk (by simp) e0)
  have hs2 : w2.heap.size = w1.heap.size + 1 := by rw [← hw2]; simp
  have hs1 : w1.heap.size = w.heap.size + 1 := by rw [← hw1]; simp
  rw [hs2] at e2
  rw [hs1] at e1' e2
  have z0 := cell_of_row w3 _ 0 _ _ _ e1'
  have z1 := cell_of_row w3 _ 1 _ _ _ e1'
  have f0 := frozen_of_row w3 (w.heap.size + 1) 0 _ _ e1'
  have f1 := frozen_of_row w3 (w.heap.size + 1) 1 _ _ e1'
  simp at z0 z1
  have g1 := heap_setCell_same _ (w.heap.size + 1) 1 _ _ (.int .i64 0) (heap_setCell_same w3 (w.heap.size + 1) 0 _ _ (.int .i64 0) e1')
  have g2 : ((w3.setCell ⟨w.heap.size + 1, 0, none⟩ (.int .i64 0)).setCell ⟨w.heap.size + 1, 1, none⟩ (.int .i64 0)).heap[w.heap.size + 1 + 1]? = some (.cells #[.bool false] 4 (0, 0)) := by
    rw [heap_setCell_other _ _ _ _ (by simp), heap_setCell_other _ _ _ _ (by simp)]
    exact e2
  have z2 := cell_of_one g2
  have f2 := free_of_one g2
  have g3 := one_setCell (u := Value.bool false) g2
  have g4 := (heap_setCell_other ((w3.setCell ⟨w.heap.size + 1, 0, none⟩ (.int .i64 0)).setCell ⟨w.heap.size + 1, 1, none⟩ (.int .i64 0)) ⟨w.heap.size + 1 + 1, 0, none⟩ (w.heap.size + 1) (.bool false) (by simp)).trans g1
  have hkz : Keep [] w (((w3.setCell ⟨w.heap.size + 1, 0, none⟩ (.int .i64 0)).setCell ⟨w.heap.size + 1, 1, none⟩ (.int .i64 0)).setCell ⟨w.heap.size + 1 + 1, 0, none⟩ (.bool false)) := ((((hk1.trans hk2).trans hk3).setCell (.inr (by simp)) _).setCell (.inr (by simp)) _).setCell (.inr (by simp; omega)) _
  have HG := Lib.hid (And.intro g3 (And.intro g4 hkz))
  have HW := Lib.hid (show ((w.alloc (.cells #[.pointer none] 118)).alloc (.cells #[.int .i64 0, .int .i64 0] 128)).alloc (.cells #[.bool false] 4) = w3 by rw [hw1, hw2, hw3])
  clear g1 g3 g4 hkz e0 e1 e1' e2 hk1 hk2 hk3 hs1 hs2 hw1 hw2 hw3
  refine calls_of_marks Try.func74 rfl ?_
  simp only [Try.ntmps74, List.size_toArray, List.length_cons, List.length_nil, Nat.reduceAdd, Nat.reduceSub, Array.replicate_succ, Array.replicate_zero, List.push_toArray, List.append_toArray, List.nil_append, List.cons_append]
  have hww := HW.out
  go_wp2
  exact leavesM_nil (results_next _ _ rfl rfl HG.out.2.1 HG.out.1) ⟨rfl, HG.out.2.2⟩
set_option maxRecDepth 100000 in
set_option maxHeartbeats 1000000 in
set_option maxHeartbeats 4000000 in
theorem wheelNilWalk (W : World) (n : Int) : Calls Try.prog 10 #[.int .i64 n] W fun e W' => e = .returned (.bool true) ∧ Below W.heap.size W W' := by
  go_enter Try.func10, Try.ntmps10
  go_wp2_with fail
  refine (dropNil_any n _).mono ?_
  rintro e w1 ⟨rfl, rfl⟩
  go_wp2_with fail
  refine (goNil_any n _).mono ?_
  rintro e w1 ⟨rfl, rfl⟩
  go_wp2_with fail
  refine (nextNil_any _).mono ?_
  rintro e w1 ⟨rfl, hk1⟩
  go_wp2_with fail
  obtain ⟨w2, hw2⟩ : ∃ w2, w1.alloc (.cells #[.int .i64 0, .int .i64 0] 128) = w2 := ⟨_, rfl⟩
  have hk2 : Keep [] W w2 := by rw [← hw2]; exact hk1.alloc _
  rw [hw2]
  clear hw2 hk1
  refine (putNil_any n n _).mono ?_
  rintro e w1 ⟨rfl, rfl⟩
  go_wp2_with fail
  refine (timeNil_any _).mono ?_
  rintro e w1 ⟨rfl, rfl⟩
  go_wp2_with fail
  refine (lenNil_any _).mono ?_
  rintro e w1 ⟨rfl, rfl⟩
  go_wp2_with fail
  refine (allNil_any _).mono ?_
  rintro e w1 ⟨rfl, rfl⟩
  go_wp2_with fail
  refine (awake24_any _).mono ?_
  rintro e w3 ⟨rfl, hk3⟩
  have HK := Lib.hid (hk2.trans hk3)
  clear hk2 hk3
  go_wp2
  go_ret
  exact ⟨rfl, HK.out.below (Nat.le_refl _) (by simp)⟩
end Go.Proofs.Ytjkjiabfhhnngaa
