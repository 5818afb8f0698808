import Derived.Test.YtpodbekiaagfcaaFlash10
import Derived.Outline
/-! The walk of the law FlashNil. -/
namespace Go.Proofs.Ytpodbekiaagfcaa
open Go.RowKit Go.Shelf Sg
attribute [local go_sem] Oper.semAt_some
set_option linter.unusedSimpArgs false
set_option linter.unusedVariables false

set_option maxRecDepth 100000 in
set_option maxHeartbeats 1000000 in
theorem arm_nil (a : Int) (w : World) : Calls Try.prog 19 #[.pointer none, .int .i64 a] w fun e w' => e = .returned (.tuple #[]) ∧ w = w' := by
  go_enter Try.func19, Try.ntmps19
  go_wp2
  go_end0
  exact ⟨rfl, rfl⟩
set_option maxRecDepth 100000 in
set_option maxHeartbeats 1000000 in
theorem crash_nil (w : World) : Calls Try.prog 15 #[.pointer none, .slice none 0 0] w fun e w' => e = .returned (.tuple #[]) ∧ w = w' := by
  go_enter Try.func15, Try.ntmps15
  go_wp2
  refine bodyPost_ret (results_none rfl _ _ _) rfl ⟨rfl, rfl⟩
set_option maxRecDepth 100000 in
set_option maxHeartbeats 1000000 in
theorem ready_nil (a : Int) (w : World) : Calls Try.prog 47 #[.pointer none, .int .i64 a] w fun e w' => e = .returned (.int .i64 1) ∧ w = w' := by
  go_enter Try.func47, Try.ntmps47
  go_wp2
  go_ret
  exact ⟨rfl, rfl⟩
set_option maxRecDepth 100000 in
set_option maxHeartbeats 1000000 in
theorem write_nil (a : Int) (w : World) : Calls Try.prog 13 #[.pointer none, .int .i64 a, .slice none 0 0] w fun e w' => e = .returned (.int .i64 1) ∧ w = w' := by
  go_enter Try.func13, Try.ntmps13
  go_wp2_with fail
  refine (ready_nil _ _).mono ?_
  rintro e w2 ⟨rfl, rfl⟩
  go_wp2
  go_ret
  exact ⟨rfl, rfl⟩
set_option maxRecDepth 100000 in
set_option maxHeartbeats 1000000 in
theorem sync_nil (w : World) : Calls Try.prog 14 #[.pointer none] w fun e w' => e = .returned (.int .i64 1) ∧ w = w' := by
  go_enter Try.func14, Try.ntmps14
  go_wp2
  go_ret
  exact ⟨rfl, rfl⟩
set_option maxRecDepth 100000 in
set_option maxHeartbeats 1000000 in
theorem rot_nil (a b : Int) (c : Int) (w : World) : Calls Try.prog 31 #[.pointer none, .int .i64 a, .int .i64 b, .int .u8 c] w fun e w' => e = .returned (.int .i64 1) ∧ w = w' := by
  go_enter Try.func31, Try.ntmps31
  go_wp2
  go_ret
  exact ⟨rfl, rfl⟩
set_option maxRecDepth 100000 in
set_option maxHeartbeats 1000000 in
theorem down_nil (w : World) : Calls Try.prog 21 #[.pointer none] w fun e w' => e = .returned (.bool false) ∧ w = w' := by
  go_enter Try.func21, Try.ntmps21
  go_wp2
  go_ret
  exact ⟨rfl, rfl⟩
set_option maxRecDepth 100000 in
set_option maxHeartbeats 1000000 in
theorem loose_nil (w : World) : Calls Try.prog 35 #[.pointer none] w fun e w' => e = .returned (.int .i64 0) ∧ w = w' := by
  go_enter Try.func35, Try.ntmps35
  go_wp2
  go_ret
  exact ⟨rfl, rfl⟩
set_option maxRecDepth 100000 in
set_option maxHeartbeats 1000000 in
theorem acts_nil (w : World) : Calls Try.prog 17 #[.pointer none] w fun e w' => e = .returned (.int .i64 0) ∧ w = w' := by
  go_enter Try.func17, Try.ntmps17
  go_wp2
  go_ret
  exact ⟨rfl, rfl⟩
set_option maxRecDepth 100000 in
set_option maxHeartbeats 1000000 in
theorem copy_nil (w : World) : Calls Try.prog 38 #[.pointer none] w fun e w' => e = .returned (.pointer none) ∧ w = w' := by
  go_enter Try.func38, Try.ntmps38
  go_wp2
  go_ret
  exact ⟨rfl, rfl⟩
set_option maxRecDepth 100000 in
set_option maxHeartbeats 1000000 in
theorem read_nil (a : Int) (w : World) : Calls Try.prog 16 #[.pointer none, .int .i64 a] w fun e w' => e = .returned (.tuple #[.slice none 0 0, .int .i64 1]) ∧ Keep [] w w' := by
  obtain ⟨w3, hw3, hk3, hs3, b0, b1, b2⟩ := read_cells w a
  have x0 := cell_of_one b0
  have x1 := cell_of_one b1
  have f1 := free_of_one b1
  have x2 := cell_of_one b2
  have f2 := free_of_one b2
  have hkf : Keep [] w ((w3.setCell ⟨w.heap.size + 1, 0, none⟩ (.slice none 0 0)).setCell ⟨w.heap.size + 1 + 1, 0, none⟩ (.int .i64 1)) := (hk3.setCell (.inr (by simp)) _).setCell (.inr (by simp; omega)) _
  have hc1 : ((w3.setCell ⟨w.heap.size + 1, 0, none⟩ (.slice none 0 0)).setCell ⟨w.heap.size + 1 + 1, 0, none⟩ (.int .i64 1)).cell? ⟨w.heap.size + 1, 0, none⟩ = some (.slice none 0 0) := cell_of_one ((heap_setCell_other _ _ _ _ (by simp)).trans (one_setCell b1))
  have hc2 : ((w3.setCell ⟨w.heap.size + 1, 0, none⟩ (.slice none 0 0)).setCell ⟨w.heap.size + 1 + 1, 0, none⟩ (.int .i64 1)).cell? ⟨w.heap.size + 1 + 1, 0, none⟩ = some (.int .i64 1) := cell_of_one (one_setCell ((heap_setCell_other _ _ _ _ (by simp)).trans b2))
  have HKF := Lib.hid hkf
  have HC1 := Lib.hid hc1
  have HC2 := Lib.hid hc2
  clear hk3 hs3 b0 b1 b2 hkf hc1 hc2
  refine calls_of_marks Try.func16 rfl ?_
  simp only [Try.ntmps16, List.size_toArray, List.length_cons, List.length_nil, Nat.reduceAdd, Nat.reduceSub, Array.replicate_succ, Array.replicate_zero, List.push_toArray, List.append_toArray, List.nil_append, List.cons_append]
  go_wp2_with fail
  refine (ready_nil _ _).mono ?_
  rintro e w4 ⟨rfl, rfl⟩
  go_wp2
  exact leavesM_nil (results_read rfl _ _ rfl rfl HC1.out HC2.out) ⟨rfl, HKF.out⟩

set_option maxRecDepth 100000 in
set_option maxHeartbeats 1000000 in
theorem givenNil_iter (B : Nat) (a : Int) : Iter2 Try.prog 68 #[.pointer (some ⟨B, 0, none⟩), .pointer (some ⟨B + 1, 0, none⟩)] (fun (_ : Unit) _ _ => False) [] (fun W => W.cell? ⟨B, 0, none⟩ = some (.pointer none)) (fun _ => True) [] := by
  intro n l J Jx hRd hJ hJx hY W h0 _
  have hcell := hRd _ _ h0
  have hA := (Keep.refl [] W).alloc (.cells #[.func (.yield l) #[] #[]] 129)
  have hc2 := hA.cell (p := ⟨B, 0, none⟩) (by simp) hcell
  have HJ := Lib.hid (hJ _ _ _ hA h0)
  refine callsIn_of_wp_marks Try.func68 rfl trivial ?_
  simp only [Try.ntmps68, List.size_toArray, List.length_cons, List.length_nil, Nat.reduceAdd, Nat.reduceSub, Array.replicate_succ, Array.replicate_zero, List.push_toArray, List.append_toArray, List.nil_append, List.cons_append]
  gi_wp2
  refine ⟨trivial, ?_⟩
  gi_wp2
  exact leavesM_nil (results_none rfl _ _ _) ⟨⟨_, rfl⟩, .inl HJ.out⟩

set_option maxRecDepth 100000 in
set_option maxHeartbeats 1000000 in
theorem given_any (d : Option Addr) (a : Int) (w : World) : Calls Try.prog 55 #[.pointer d, .int .i64 a] w fun e w' => e = .returned (.func (.func 68) #[] #[.pointer (some ⟨w.heap.size, 0, none⟩), .pointer (some ⟨w.heap.size + 1, 0, none⟩)]) ∧ (w.alloc (.cells #[.pointer d] 23)).alloc (.cells #[.int .i64 a] 3) = w' := by
  go_enter Try.func55, Try.ntmps55
  go_wp2
  go_ret
  exact ⟨rfl, rfl⟩

set_option maxRecDepth 100000 in
set_option maxHeartbeats 1000000 in
theorem past_nil (a : Int) (w : World) : Calls Try.prog 37 #[.pointer none, .int .i64 a] w fun e w' => e = .returned (.slice none 0 0) ∧ Keep [] w w' := by
  obtain ⟨T, hT⟩ : ∃ T, w.heap.size = T := ⟨_, rfl⟩
  refine calls_of_marks Try.func37 rfl ?_
  simp only [Try.ntmps37, List.size_toArray, List.length_cons, List.length_nil, Nat.reduceAdd, Nat.reduceSub, Array.replicate_succ, Array.replicate_zero, List.push_toArray, List.append_toArray, List.nil_append, List.cons_append]
  go_wp2_with fail
  refine (given_any _ _ _).mono ?_
  rintro e w3 ⟨rfl, hw3⟩
  have hk3 : Keep [] w w3 := by rw [← hw3]; exact (((Keep.refl [] w).alloc _).alloc _).alloc _
  have hs3 : w3.heap.size = T + 3 := by rw [← hw3, ← hT]; simp
  have b0 : w3.heap[T]? = some (.cells #[.slice none 0 0] 64 (0, 0)) := by
    rw [← hw3, ← hT]
    exact (((Keep.refl [] (w.alloc (.cells #[.slice none 0 0] 64))).alloc _).alloc _).blk (by simp) (heap_alloc_new _ _)
  have b1 : w3.heap[T + 1]? = some (.cells #[.pointer none] 23 (0, 0)) := by
    rw [← hw3, ← hT]
    have h1 := heap_alloc_new (w.alloc (.cells #[.slice none 0 0] 64)) (.cells #[.pointer none] 23)
    rw [World.size_alloc] at h1
    exact ((Keep.refl [] ((w.alloc (.cells #[.slice none 0 0] 64)).alloc (.cells #[.pointer none] 23))).alloc _).blk (by simp) h1
  clear hw3
  have HB0 := Lib.hid b0
  have HB1 := Lib.hid b1
  have HK3 := Lib.hid hk3
  clear b0 b1 hk3
  go_wp2_with fail
  refine wp_range3 (n := 3) (gf := 68) (lb := #[.pointer (some ⟨T + 1, 0, none⟩), .pointer (some ⟨T + 1 + 1, 0, none⟩)]) rfl (enters_of Try.func68 (by kernel_rfl) rfl)
    (T := []) (by simp) (givenNil_iter (T + 1) a) (fun _ _ _ _ _ h => h) (fun _ _ _ h => h.elim)
    (fun _ W => Keep [] w W ∧ W.heap[T]? = some (.cells #[.slice none 0 0] 64 (0, 0)) ∧ W.heap[T + 1]? = some (.cells #[.pointer none] 23 (0, 0))) (fun _ _ _ => False)
    (fun _ W h _ => cell_of_one h.2.2) (fun _ _ => trivial) ?hI (fun _ _ _ _ _ h => h) ?h0
    (fun _ _ => { tmps := #[], defers := [] }) (fun _ _ _ _ => False) (fun _ _ _ _ _ _ _ h => h)
    (fun _ _ _ _ h => h.elim) (fun _ _ _ _ _ _ _ h => h.elim) ?hdone (fun _ _ _ _ h => h.elim)
  case hI =>
    rintro _ W W' k ⟨h1, h2, h3⟩
    exact ⟨h1.ext k (by simp; omega), k.blk (by simp; omega) h2, k.blk (by simp; omega) h3⟩
  case h0 =>
    intro W k
    exact ⟨HK3.out.trans k, k.blk (by simp) HB0.out, k.blk (by simp) HB1.out⟩
  case hdone =>
    rintro W ⟨h1, h2, h3⟩ hD
    have c1 := cell_of_one h2
    go_wp2
    refine leavesM_one hD (results_tmp rfl _ _ _) ⟨rfl, h1.putObj (.inr (by omega)) _⟩

set_option maxRecDepth 100000 in
set_option maxHeartbeats 1000000 in
set_option maxHeartbeats 4000000 in
theorem flashNilWalk (W : World) (a : Int) (ha : (Lit.int .i64 a).wf = true) :
    Calls Try.prog 8 #[.int .i64 a] W fun e W' => e = .returned (.bool true) ∧ Below W.heap.size W W' := by
  go_enter Try.func8, Try.ntmps8
  go_wp2_with fail
  refine (arm_nil _ _).mono ?_
  rintro e w1 ⟨rfl, rfl⟩
  go_wp2_with fail
  refine (crash_nil _).mono ?_
  rintro e w1 ⟨rfl, rfl⟩
  go_wp2_with fail
  refine (read_nil _ _).mono ?_
  rintro e w1 ⟨rfl, hk1⟩
  go_wp2_with fail
  refine (write_nil _ _).mono ?_
  rintro e w2 ⟨rfl, rfl⟩
  go_wp2_with fail
  refine (sync_nil _).mono ?_
  rintro e w2 ⟨rfl, rfl⟩
  go_wp2_with fail
  refine (rot_nil _ _ _ _).mono ?_
  rintro e w2 ⟨rfl, rfl⟩
  go_wp2_with fail
  refine (down_nil _).mono ?_
  rintro e w2 ⟨rfl, rfl⟩
  go_wp2_with fail
  refine (loose_nil _).mono ?_
  rintro e w2 ⟨rfl, rfl⟩
  go_wp2_with fail
  refine (acts_nil _).mono ?_
  rintro e w2 ⟨rfl, rfl⟩
  go_wp2_with fail
  refine (past_nil _ _).mono ?_
  rintro e w2 ⟨rfl, hk2⟩
  go_wp2_with fail
  refine (copy_nil _).mono ?_
  rintro e w3 ⟨rfl, rfl⟩
  go_wp2_with fail
  refine (awake04_any _).mono ?_
  rintro e w4 ⟨rfl, hk4⟩
  go_wp2
  go_ret
  exact ⟨rfl, (hk1.trans (hk2.trans hk4)).below (Nat.le_refl _) (by simp)⟩
end Go.Proofs.Ytpodbekiaagfcaa
