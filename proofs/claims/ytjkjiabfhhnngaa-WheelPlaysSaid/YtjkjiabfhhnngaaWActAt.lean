import Derived.Test.YtjkjiabfhhnngaaWActs
import Derived.Test.YtjkjiabfhhnngaaWOnceM
import Derived.Test.YtjkjiabfhhnngaaWheelAw
/-! Act.at. -/
namespace Go.Proofs.Ytjkjiabfhhnngaa
open Go.RowKit Go.Shelf Sg
set_option linter.unusedSimpArgs false
set_option linter.unusedVariables false

def WAct.agg (a : WAct) : Value := .agg #[.int .i64 a.kind, .int .i64 a.num, .int .i64 a.n, .bool a.far]
def WAct.due (a : WAct) (t : Int) : Int := if a.far = true ∨ 1125899906842624 < a.n ∨ a.n < 0 then a.n else t + a.n
set_option maxRecDepth 100000 in
set_option maxHeartbeats 1000000 in
set_option maxHeartbeats 4000000 in
theorem actAt_any (w : World) (q : WAct) (hq : q.Ok) (t : Int) (ht : 0 ≤ t ∧ t ≤ 1125899906842624) :
    Calls Try.prog 63 #[q.agg, .int .i64 t] w fun e w' => e = .returned (.int .i64 (q.due t)) ∧ Keep [] w w' := by
  obtain ⟨k, m, n, far⟩ := q
  have hn := hq.n1
  have hn2 := hq.n2
  simp only at hn hn2
  unfold WAct.agg WAct.due
  simp only
  clear hq
  obtain ⟨w1, hw1⟩ : ∃ w1, w.alloc (.cells #[.int .i64 k, .int .i64 m, .int .i64 n, .bool far] 121) = w1 := ⟨_, rfl⟩
  have hk1 : Keep [] w w1 := by rw [← hw1]; exact (Keep.refl [] w).alloc _
  have e1 : w1.heap[w.heap.size]? = some (.cells #[.int .i64 k, .int .i64 m, .int .i64 n, .bool far] 121 (0, 0)) := by rw [← hw1]; exact heap_alloc_new w _
  have z2 := cell_of_row w1 _ 2 _ _ _ e1
  have z3 := cell_of_row w1 _ 3 _ _ _ e1
  simp at z2 z3
  have HK := Lib.hid hk1
  clear hk1 e1
  cases far with
  | true =>
    rw [if_pos (.inl rfl)]
    go_enter Try.func63, Try.ntmps63
    go_wp2
    go_ret
    exact ⟨rfl, HK.out⟩
  | false =>
    by_cases h1 : 1125899906842624 < n
    · rw [if_pos (.inr (.inl h1))]
      go_enter Try.func63, Try.ntmps63
      go_wp2
      go_ret
      exact ⟨rfl, HK.out⟩
    by_cases h2 : n < 0
    · rw [if_pos (.inr (.inr h2))]
      go_enter Try.func63, Try.ntmps63
      go_wp2
      go_ret
      exact ⟨rfl, HK.out⟩
    rw [if_neg (by simp; omega)]
    have hw : IntKind.i64.wrap (t + n) = t + n := i64_wrap (by omega) (by omega)
    go_enter Try.func63, Try.ntmps63
    go_wp2
    go_ret
    exact ⟨rfl, HK.out⟩
end Go.Proofs.Ytjkjiabfhhnngaa
