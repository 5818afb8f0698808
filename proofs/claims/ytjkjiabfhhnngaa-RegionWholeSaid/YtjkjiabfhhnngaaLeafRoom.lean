import Derived.Test.YtjkjiabfhhnngaaProg
import Derived.Test.YtjkjiabfhhnngaaBase
import Derived.Test.YtjkjiabfhhnngaaNum
/-! The walks of leaf's may and Room. -/
namespace Go.Proofs.Ytjkjiabfhhnngaa
open Go.RowKit Sg

set_option maxRecDepth 100000 in
set_option maxHeartbeats 400000 in
theorem leafMay_any (n : Int) (w : World) : Calls Try.prog 140 #[.int .i64 n] w fun e w' => e = .returned (.bool (decide (96 ≤ n ∧ n ≤ 512))) ∧ w = w' := by
  by_cases h1 : 96 ≤ n
  · go_enter Try.func140, Try.ntmps140
    go_wp2
    go_ret
    exact ⟨by simp; omega, rfl⟩
  · go_enter Try.func140, Try.ntmps140
    go_wp2
    go_ret
    exact ⟨by simp; omega, rfl⟩

set_option maxRecDepth 100000 in
set_option maxHeartbeats 400000 in
theorem room_any (n : Int) (w : World) : Calls Try.prog 106 #[.int .i64 n] w fun e w' => e = .returned (.int .i64 (if 96 ≤ n ∧ n ≤ 512 then n - 19 else 0)) ∧ w = w' := by
  by_cases h : 96 ≤ n ∧ n ≤ 512
  · go_enter Try.func106, Try.ntmps106
    go_wp2_with fail
    refine (leafMay_any n w).mono ?_
    rintro e w' ⟨rfl, rfl⟩
    rw [decide_eq_true h]
    go_wp2
    go_ret
    exact ⟨by simp, rfl⟩
  · go_enter Try.func106, Try.ntmps106
    go_wp2_with fail
    refine (leafMay_any n w).mono ?_
    rintro e w' ⟨rfl, rfl⟩
    rw [decide_eq_false h]
    go_wp2
    go_ret
    exact ⟨by simp, rfl⟩
end Go.Proofs.Ytjkjiabfhhnngaa
