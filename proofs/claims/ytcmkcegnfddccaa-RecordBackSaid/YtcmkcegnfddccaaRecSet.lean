import Derived.Test.YtcmkcegnfddccaaRecLaw2
import Derived.Test.YtcmkcegnfddccaaRecRef
/-! Records: told; which records bytes are. -/
namespace Go.Proofs.Ytcmkcegnfddccaa
open Go.RowKit Sg
set_option linter.unusedSimpArgs false

structure Rc where
  (k v : List UInt8)
  en : Nat

/-- the records of bytes -/
def recsOf : List UInt8 → List Rc
  | [] => []
  | x :: l => if x = 0 then recsOf l else if RecOk (x :: l) then ⟨qkey (x :: l), qval (x :: l), qe (x :: l)⟩ :: recsOf ((x :: l).drop (13 + qk (x :: l) + qv (x :: l))) else []
termination_by l => l.length
decreasing_by
  · simp
  · rw [List.length_drop]; simp; omega

set_option maxRecDepth 100000 in
set_option maxHeartbeats 1000000 in
theorem told09_any (k v : Value) (kl vl : List UInt8) (e : Int) (w : World) (hk : Bytes w k kl) (hv : Bytes w v vl) :
    Calls Try.prog 17 #[.agg #[k, v, .int .i64 e], .agg #[.string ⟨kl.toArray⟩, .string ⟨vl.toArray⟩, .int .i64 e]] w fun x w' => x = .returned (.bool true) ∧ Keep [] w w' := by
  obtain ⟨ka, kc, rfl, -⟩ := hk.form
  obtain ⟨va, vc, rfl, -⟩ := hv.form
  have qk : ∀ w', Keep [] w w' → Sem.run Try.prog (convert 23 9 (.slice ka kl.length kc)) w' = .ok (.string ⟨kl.toArray⟩) w' := fun w' h => run_str (P := Try.prog) 23 9 5 Try.underlying23 Try.underlying5 Try.underlying9 (hk.keep h (by simp))
  have qv : ∀ w', Keep [] w w' → Sem.run Try.prog (convert 23 9 (.slice va vl.length vc)) w' = .ok (.string ⟨vl.toArray⟩) w' := fun w' h => run_str (P := Try.prog) 23 9 5 Try.underlying23 Try.underlying5 Try.underlying9 (hv.keep h (by simp))
  have hK := ((Keep.refl [] w).alloc (.cells #[.slice ka kl.length kc, .slice va vl.length vc, .int .i64 e] 30)).alloc (.cells #[.string ⟨kl.toArray⟩, .string ⟨vl.toArray⟩, .int .i64 e] 25)
  have q2 := qk _ hK
  have q3 := qv _ hK
  clear qk qv hk hv
  go_enter Try.func17, Try.ntmps17
  go_wp2
  go_ret
  exact ⟨rfl, hK⟩

end Go.Proofs.Ytcmkcegnfddccaa
