import Derived.Test.YtpodbekiaagfcaaLeafLaw
import Derived.Test.YtpodbekiaagfcaaRange2
import Derived.Test.YtpodbekiaagfcaaScope
import Derived.Test.YtpodbekiaagfcaaHist
import Derived.Shelf.Abstract
import Derived.Shelf.RegionOpen
import Derived.OwnWalkIn
import Derived.TacticsInMore
import Derived.LoopNIn
import Derived.LoopIn
import Derived.Outline
/-! The walk of the law LeafNil. -/
namespace Go.Proofs.Ytpodbekiaagfcaa
open Go.RowKit Go.Shelf Sg
attribute [local go_sem] Oper.semAt_some
set_option linter.unusedSimpArgs false
set_option linter.unusedVariables false

set_option maxRecDepth 100000 in
set_option maxHeartbeats 1000000 in
theorem sectors_nil (w : World) : Calls Try.prog 25 #[.pointer none] w fun e w' => e = .returned (.int .i64 0) ∧ w = w' := by
  go_enter Try.func25, Try.ntmps25
  go_wp2
  go_ret
  exact ⟨rfl, rfl⟩
set_option maxRecDepth 100000 in
set_option maxHeartbeats 1000000 in
theorem put_nil (a : Int) (x : Array Value) (w : World) : Calls Try.prog 39 #[.pointer none, .int .i64 a, .agg x] w fun e w' => e = .returned (.int .i64 1) ∧ Keep [] w w' := by
  go_enter Try.func39, Try.ntmps39
  go_wp2
  go_ret
  exact ⟨rfl, (Keep.refl [] w).alloc _⟩
set_option maxRecDepth 100000 in
set_option maxHeartbeats 1000000 in
theorem get_nil (a k p : Int) (w : World) : Calls Try.prog 42 #[.pointer none, .int .i64 a, .int .i64 k, .int .i64 p] w fun e w' => e = .returned (.tuple #[.agg #[.int .i64 0, .int .i64 0, .int .i64 0, .slice none 0 0], .int .i64 1]) ∧ Keep [] w w' := by
  have hA := heap_alloc_new w (.cells #[.int .i64 0, .int .i64 0, .int .i64 0, .slice none 0 0] 74)
  have hk := (Keep.refl [] w).alloc (.cells #[.int .i64 0, .int .i64 0, .int .i64 0, .slice none 0 0] 74)
  have HA := Lib.hid hA
  go_enter Try.func42, Try.ntmps42
  go_wp2_with (refine wpList_store_row rfl 74 (.tmp 8) (.tmp 15) rfl w.heap.size #[.int .i64 0, .int .i64 0, .int .i64 0, .slice none 0 0] rfl rfl 74 _ hA (by kernel_rfl) (by rfl) (by kernel_rfl) ?_)
  refine bodyPost_ret (results_cell_tmp_row rfl _ _ w.heap.size 74 #[.int .i64 0, .int .i64 0, .int .i64 0, .slice none 0 0] _ _ rfl (setRow_heap _ _ _ _ _ _ HA.out) Try.underlying74 rfl (by kernel_rfl)) rfl ⟨rfl, hk.setRow (.inr (Nat.le_refl _)) _⟩

set_option maxRecDepth 100000 in
set_option maxHeartbeats 1000000 in
theorem leavesNil_iter (B : Nat) : Iter2 Try.prog 82 #[.pointer (some ⟨B, 0, none⟩)] (fun (_ : Unit) _ _ => False) [] (fun W => W.cell? ⟨B, 0, none⟩ = some (.pointer none)) (fun _ => True) [] := by
  intro n l J Jx hRd hJ hJx hY W h0 _
  have hcell := hRd _ _ h0
  refine callsIn_of_wp Try.func82 rfl trivial ?_
  simp only [Try.ntmps82, List.size_toArray, List.length_cons, List.length_nil, Nat.reduceAdd, Nat.reduceSub, Array.replicate_succ, Array.replicate_zero, List.push_toArray, List.append_toArray, List.nil_append, List.cons_append]
  gi_wp2_with fail
  refine ⟨trivial, wideN _, callsIn_wide.2 ((sectors_nil _).mono ?_)⟩
  rintro e w2 ⟨rfl, rfl⟩
  gi_wp2
  gi_loopw [10] (fun i wr => i = .int .i64 0 ∧ J [] wr) (fun _ _ => 0)
  case atStart => exact ⟨rfl, h0⟩
  case round =>
    obtain ⟨rfl, hJk⟩ := hrel
    gi_wp2
    go_end0
    exact ⟨⟨_, rfl⟩, .inl hJk⟩

set_option maxRecDepth 100000 in
set_option maxHeartbeats 1000000 in
theorem leaves_nil (w : World) : Calls Try.prog 62 #[.pointer none] w fun e w' => e = .returned (.func (.func 82) #[] #[.pointer (some ⟨w.heap.size, 0, none⟩)]) ∧ w.alloc (.cells #[.pointer none] 23) = w' := by
  go_enter Try.func62, Try.ntmps62
  go_wp2
  go_ret
  exact ⟨rfl, rfl⟩

set_option maxRecDepth 100000 in
set_option maxHeartbeats 1000000 in
theorem foul_nil (w : World) : Calls Try.prog 44 #[.pointer none] w fun e w' => e = .returned (.slice none 0 0) ∧ Keep [] w w' := by
  refine calls_of_marks Try.func44 rfl ?_
  simp only [Try.ntmps44, List.size_toArray, List.length_cons, List.length_nil, Nat.reduceAdd, Nat.reduceSub, Array.replicate_succ, Array.replicate_zero, List.push_toArray, List.append_toArray, List.nil_append, List.cons_append]
  go_wp2_with fail
  go_step3
  go_wp2_with fail
  go_step3
  go_wp2_with fail
  refine (leaves_nil _).mono ?_
  rintro e w3 ⟨rfl, hw3⟩
  have hk3 : Keep [] w w3 := by rw [← hw3]; exact (((Keep.refl [] w).alloc _).alloc _).alloc _
  have hs3 : w3.heap.size = w.heap.size + 3 := by rw [← hw3]; simp
  have b1 : w3.heap[w.heap.size + 1]? = some (.cells #[.slice none 0 0] 29 (0, 0)) := by
    rw [← hw3]
    have h1 := heap_alloc_new (w.alloc (.cells #[.pointer none] 23)) (.cells #[.slice none 0 0] 29)
    rw [World.size_alloc] at h1
    exact ((Keep.refl [] ((w.alloc (.cells #[.pointer none] 23)).alloc (.cells #[.slice none 0 0] 29))).alloc _).blk (by simp) h1
  have b2 : w3.heap[w.heap.size + 1 + 1]? = some (.cells #[.pointer none] 23 (0, 0)) := by
    rw [← hw3]
    have h1 := heap_alloc_new ((w.alloc (.cells #[.pointer none] 23)).alloc (.cells #[.slice none 0 0] 29)) (.cells #[.pointer none] 23)
    rw [World.size_alloc, World.size_alloc] at h1
    exact h1
  clear hw3
  go_wp2_with fail
  have HB1 := Lib.hid b1
  have HB2 := Lib.hid b2
  have HK3 := Lib.hid hk3
  clear b1 b2 hk3
  refine wp_range3 (n := 3) (gf := 82) (lb := #[.pointer (some ⟨w.heap.size + 1 + 1, 0, none⟩)]) rfl (enters_of Try.func82 (by kernel_rfl) rfl)
    (T := []) (by simp) (leavesNil_iter (w.heap.size + 1 + 1)) (fun _ _ _ _ _ h => h) (fun _ _ _ h => h.elim)
    (fun _ W => Keep [] w W ∧ W.heap[w.heap.size + 1]? = some (.cells #[.slice none 0 0] 29 (0, 0)) ∧ W.heap[w.heap.size + 1 + 1]? = some (.cells #[.pointer none] 23 (0, 0))) (fun _ _ _ => False)
    (fun _ W h _ => cell_of_one h.2.2) (fun _ _ => trivial) ?hI (fun _ _ _ _ _ h => h) ?h0
    (fun _ _ => { tmps := #[], defers := [] }) (fun _ _ _ _ => False) (fun _ _ _ _ _ _ _ h => h)
    (fun _ _ _ _ h => h.elim) (fun _ _ _ _ _ _ _ h => h.elim) ?hdone (fun _ _ _ _ h => h.elim)
  case hI =>
    rintro _ W W' k ⟨h1, h2, h3⟩
    exact ⟨h1.ext k (by simp; omega), k.blk (by simp; omega) h2, k.blk (by simp; omega) h3⟩
  case h0 =>
    intro W k
    exact ⟨HK3.out.trans k, k.blk (by simp) HB1.out, k.blk (by simp) HB2.out⟩
  case hdone =>
    rintro W ⟨h1, h2, h3⟩ hD
    have c1 := cell_of_one h2
    go_wp2
    try rw [Exit.noGoto_ret]
    refine leavesM_one hD (results_tmp rfl _ _ _) ⟨rfl, h1.putObj (.inr (by omega)) _⟩

set_option maxRecDepth 100000 in
set_option maxHeartbeats 1000000 in
set_option maxHeartbeats 4000000 in
theorem leafNilWalk (W : World) (a : Int) (ha : (Lit.int .i64 a).wf = true) :
    Calls Try.prog 10 #[.int .i64 a] W fun e W' => e = .returned (.bool true) ∧ Below W.heap.size W W' := by
  go_enter Try.func10, Try.ntmps10
  go_wp2_with fail
  refine (get_nil _ _ _ _).mono ?_
  rintro e w1 ⟨rfl, hk1⟩
  go_wp2_with fail
  refine (put_nil _ _ _).mono ?_
  rintro e w2 ⟨rfl, hk2⟩
  go_wp2_with fail
  refine (foul_nil _).mono ?_
  rintro e w3 ⟨rfl, hk3⟩
  go_wp2_with fail
  refine (awake05_any _).mono ?_
  rintro e w4 ⟨rfl, hk4⟩
  go_wp2
  go_ret
  exact ⟨rfl, (((hk1.alloc _).trans hk2).trans (hk3.trans hk4)).below (Nat.le_refl _) (by simp)⟩
end Go.Proofs.Ytpodbekiaagfcaa
