import Derived.Test.YtncenlnbdebamaaRecord
/-! The walk of the law RecordEnds. -/
namespace Go.Proofs.Ytncenlnbdebamaa
open Go.RowKit Sg

set_option maxRecDepth 100000 in
set_option maxHeartbeats 1000000 in
set_option maxHeartbeats 8000000 in
theorem recordEndsWalk (W : World) (a0 : Int) (w0 : (Lit.int .i64 a0).wf = true) (a1 : Int) (_ : (Lit.int .i64 a1).wf = true) (a2 : Int) (_ : (Lit.int .i64 a2).wf = true) :
    Calls Try.prog 6 #[.int .i64 a0, .int .i64 a1, .int .i64 a2] W fun e W' => e = .returned (.bool true) ∧ Below W.heap.size W W' := by
  have hi := i64_in w0
  have h1 := ended_any 0 a1
  have h2 := ended_any a0 a1
  have h3 := ended_any a0 a2
  have h4 := ended_any a0 a0
  have h5 := ended_any a0 (a0 - 1)
  rw [show decide ((0 : Int) ≠ 0 ∧ (0 : Int) ≤ a1) = false by simp] at h1
  rw [show decide (a0 ≠ 0 ∧ a0 ≤ a0 - 1) = false from decide_eq_false (by omega)] at h5
  obtain ⟨d1, hd1⟩ : ∃ d, decide (a0 ≠ 0 ∧ a0 ≤ a1) = d := ⟨_, rfl⟩
  obtain ⟨d2, hd2⟩ : ∃ d, decide (a0 ≠ 0 ∧ a0 ≤ a2) = d := ⟨_, rfl⟩
  obtain ⟨d3, hd3⟩ : ∃ d, decide (a0 ≠ 0 ∧ a0 ≤ a0) = d := ⟨_, rfl⟩
  rw [hd1] at h2
  rw [hd2] at h3
  rw [hd3] at h4
  have hx : d1 = true → a2 ≥ a1 → d2 = true := by
    intro e1 e2
    rw [← hd1, decide_eq_true_eq] at e1
    rw [← hd2, decide_eq_true_eq]
    omega
  have hy : a0 ≠ 0 → d3 = true := by
    intro e1
    rw [← hd3, decide_eq_true_eq]
    omega
  clear hd1 hd2 hd3
  obtain ⟨hi1, hi2⟩ := hi
  have zc : ((a0 == 0) = true ∧ a0 < 1) ∨ ((a0 == 0) = false ∧ a0 < 1 ∧ d3 = true) ∨ ((a0 == 0) = false ∧ ¬ a0 < 1 ∧ d3 = true) := by
    by_cases z : a0 = 0
    · exact .inl ⟨by simp [z], by omega⟩
    · by_cases z2 : a0 < 1
      · exact .inr (.inl ⟨by simpa using z, z2, hy z⟩)
      · exact .inr (.inr ⟨by simpa using z, z2, hy z⟩)
  have dc : d1 = false ∨ (d1 = true ∧ ¬ a2 ≥ a1) ∨ (d1 = true ∧ a2 ≥ a1 ∧ d2 = true) := by
    cases d1 with
    | false => exact .inl rfl
    | true =>
      by_cases z : a2 ≥ a1
      · exact .inr (.inr ⟨rfl, z, hx rfl z⟩)
      · exact .inr (.inl ⟨rfl, z⟩)
  clear hx hy
  rcases zc with ⟨z1, z2⟩ | ⟨z1, z2, rfl⟩ | ⟨z1, z2, rfl⟩
  · rcases dc with rfl | ⟨rfl, y1⟩ | ⟨rfl, y1, rfl⟩
    · go_enter Try.func6, Try.ntmps6
      go_wp2_with fail
      refine (h1 _).mono ?_
      rintro x w1 ⟨rfl, rfl⟩
      go_wp2_with fail
      refine (h2 _).mono ?_
      rintro x w1 ⟨rfl, rfl⟩
      go_wp2_with fail
      refine (awake09_any _).mono ?_
      rintro x w2 ⟨rfl, hk⟩
      go_wp2_with fail
      go_ret
      exact ⟨rfl, hk.below (Nat.le_refl _) (by simp)⟩
    · go_enter Try.func6, Try.ntmps6
      go_wp2_with fail
      refine (h1 _).mono ?_
      rintro x w1 ⟨rfl, rfl⟩
      go_wp2_with fail
      refine (h2 _).mono ?_
      rintro x w1 ⟨rfl, rfl⟩
      go_wp2_with fail
      refine (awake09_any _).mono ?_
      rintro x w2 ⟨rfl, hk⟩
      go_wp2_with fail
      go_ret
      exact ⟨rfl, hk.below (Nat.le_refl _) (by simp)⟩
    · go_enter Try.func6, Try.ntmps6
      go_wp2_with fail
      refine (h1 _).mono ?_
      rintro x w1 ⟨rfl, rfl⟩
      go_wp2_with fail
      refine (h2 _).mono ?_
      rintro x w1 ⟨rfl, rfl⟩
      go_wp2_with fail
      refine (h3 _).mono ?_
      rintro x w1 ⟨rfl, rfl⟩
      go_wp2_with fail
      refine (awake09_any _).mono ?_
      rintro x w2 ⟨rfl, hk⟩
      go_wp2_with fail
      go_ret
      exact ⟨rfl, hk.below (Nat.le_refl _) (by simp)⟩
  · rcases dc with rfl | ⟨rfl, y1⟩ | ⟨rfl, y1, rfl⟩
    · go_enter Try.func6, Try.ntmps6
      go_wp2_with fail
      refine (h1 _).mono ?_
      rintro x w1 ⟨rfl, rfl⟩
      go_wp2_with fail
      refine (h2 _).mono ?_
      rintro x w1 ⟨rfl, rfl⟩
      go_wp2_with fail
      refine (h4 _).mono ?_
      rintro x w1 ⟨rfl, rfl⟩
      go_wp2_with fail
      refine (awake09_any _).mono ?_
      rintro x w2 ⟨rfl, hk⟩
      go_wp2_with fail
      go_ret
      exact ⟨rfl, hk.below (Nat.le_refl _) (by simp)⟩
    · go_enter Try.func6, Try.ntmps6
      go_wp2_with fail
      refine (h1 _).mono ?_
      rintro x w1 ⟨rfl, rfl⟩
      go_wp2_with fail
      refine (h2 _).mono ?_
      rintro x w1 ⟨rfl, rfl⟩
      go_wp2_with fail
      refine (h4 _).mono ?_
      rintro x w1 ⟨rfl, rfl⟩
      go_wp2_with fail
      refine (awake09_any _).mono ?_
      rintro x w2 ⟨rfl, hk⟩
      go_wp2_with fail
      go_ret
      exact ⟨rfl, hk.below (Nat.le_refl _) (by simp)⟩
    · go_enter Try.func6, Try.ntmps6
      go_wp2_with fail
      refine (h1 _).mono ?_
      rintro x w1 ⟨rfl, rfl⟩
      go_wp2_with fail
      refine (h2 _).mono ?_
      rintro x w1 ⟨rfl, rfl⟩
      go_wp2_with fail
      refine (h3 _).mono ?_
      rintro x w1 ⟨rfl, rfl⟩
      go_wp2_with fail
      refine (h4 _).mono ?_
      rintro x w1 ⟨rfl, rfl⟩
      go_wp2_with fail
      refine (awake09_any _).mono ?_
      rintro x w2 ⟨rfl, hk⟩
      go_wp2_with fail
      go_ret
      exact ⟨rfl, hk.below (Nat.le_refl _) (by simp)⟩
  · rcases dc with rfl | ⟨rfl, y1⟩ | ⟨rfl, y1, rfl⟩
    · go_enter Try.func6, Try.ntmps6
      go_wp2_with fail
      refine (h1 _).mono ?_
      rintro x w1 ⟨rfl, rfl⟩
      go_wp2_with fail
      refine (h2 _).mono ?_
      rintro x w1 ⟨rfl, rfl⟩
      go_wp2_with fail
      refine (h4 _).mono ?_
      rintro x w1 ⟨rfl, rfl⟩
      go_wp2_with fail
      refine (h5 _).mono ?_
      rintro x w1 ⟨rfl, rfl⟩
      go_wp2_with fail
      refine (awake09_any _).mono ?_
      rintro x w2 ⟨rfl, hk⟩
      go_wp2_with fail
      go_ret
      exact ⟨rfl, hk.below (Nat.le_refl _) (by simp)⟩
    · go_enter Try.func6, Try.ntmps6
      go_wp2_with fail
      refine (h1 _).mono ?_
      rintro x w1 ⟨rfl, rfl⟩
      go_wp2_with fail
      refine (h2 _).mono ?_
      rintro x w1 ⟨rfl, rfl⟩
      go_wp2_with fail
      refine (h4 _).mono ?_
      rintro x w1 ⟨rfl, rfl⟩
      go_wp2_with fail
      refine (h5 _).mono ?_
      rintro x w1 ⟨rfl, rfl⟩
      go_wp2_with fail
      refine (awake09_any _).mono ?_
      rintro x w2 ⟨rfl, hk⟩
      go_wp2_with fail
      go_ret
      exact ⟨rfl, hk.below (Nat.le_refl _) (by simp)⟩
    · go_enter Try.func6, Try.ntmps6
      go_wp2_with fail
      refine (h1 _).mono ?_
      rintro x w1 ⟨rfl, rfl⟩
      go_wp2_with fail
      refine (h2 _).mono ?_
      rintro x w1 ⟨rfl, rfl⟩
      go_wp2_with fail
      refine (h3 _).mono ?_
      rintro x w1 ⟨rfl, rfl⟩
      go_wp2_with fail
      refine (h4 _).mono ?_
      rintro x w1 ⟨rfl, rfl⟩
      go_wp2_with fail
      refine (h5 _).mono ?_
      rintro x w1 ⟨rfl, rfl⟩
      go_wp2_with fail
      refine (awake09_any _).mono ?_
      rintro x w2 ⟨rfl, hk⟩
      go_wp2_with fail
      go_ret
      exact ⟨rfl, hk.below (Nat.le_refl _) (by simp)⟩
end Go.Proofs.Ytncenlnbdebamaa
