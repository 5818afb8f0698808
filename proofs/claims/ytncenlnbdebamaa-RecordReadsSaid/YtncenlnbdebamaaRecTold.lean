import Derived.Test.YtncenlnbdebamaaRecRefUnpack
/-! Records: told; both readers at once; which records bytes are. -/
namespace Go.Proofs.Ytncenlnbdebamaa
open Go.RowKit Sg
set_option linter.unusedSimpArgs false

structure Rc where
  (k v : List UInt8)
  en : Nat

/-- the records of bytes -/
def recsOf : List UInt8 → List Rc
  | [] => []
  | x :: l => if x = 0 then recsOf l else if RecOk (x :: l) then ⟨qkey (x :: l), qval (x :: l), qe (x :: l)⟩ :: recsOf ((x :: l).drop (13 + qk (x :: l) + qv (x :: l))) else []
termination_by l => l.length
decreasing_by
  · simp
  · rw [List.length_drop]; simp; omega

set_option maxRecDepth 100000 in
set_option maxHeartbeats 1000000 in
theorem told09_any (k v : Value) (kl vl : List UInt8) (e : Int) (w : World) (hk : Bytes w k kl) (hv : Bytes w v vl) :
    Calls Try.prog 29 #[.agg #[k, v, .int .i64 e], .agg #[.string ⟨kl.toArray⟩, .string ⟨vl.toArray⟩, .int .i64 e]] w fun x w' => x = .returned (.bool true) ∧ Keep [] w w' := by
  obtain ⟨ka, kc, rfl, -⟩ := hk.form
  obtain ⟨va, vc, rfl, -⟩ := hv.form
  have qk : ∀ w', Keep [] w w' → Sem.run Try.prog (convert 36 9 (.slice ka kl.length kc)) w' = .ok (.string ⟨kl.toArray⟩) w' := fun w' h => run_str (P := Try.prog) 36 9 5 Try.underlying36 Try.underlying5 Try.underlying9 (hk.keep h (by simp))
  have qv : ∀ w', Keep [] w w' → Sem.run Try.prog (convert 36 9 (.slice va vl.length vc)) w' = .ok (.string ⟨vl.toArray⟩) w' := fun w' h => run_str (P := Try.prog) 36 9 5 Try.underlying36 Try.underlying5 Try.underlying9 (hv.keep h (by simp))
  have hK := ((Keep.refl [] w).alloc (.cells #[.slice ka kl.length kc, .slice va vl.length vc, .int .i64 e] 40)).alloc (.cells #[.string ⟨kl.toArray⟩, .string ⟨vl.toArray⟩, .int .i64 e] 35)
  have q2 := qk _ hK
  have q3 := qv _ hK
  clear qk qv hk hv
  go_enter Try.func29, Try.ntmps29
  go_wp2
  go_ret
  exact ⟨rfl, hK⟩

/-- with which record any bytes begin, said once of both readers -/
theorem unpack_both (l : List UInt8) (hl : l.length ≤ 1000000) : ∃ (kd vd : List UInt8) (en n cd : Int),
    (∀ x w, Bytes w x l → Calls Try.prog 27 #[x] w fun e w' => ∃ k v, e = .returned (.tuple #[.agg #[k, v, .int .i64 en], .int .i64 n, .int .i64 cd]) ∧ Bytes w' k kd ∧ Bytes w' v vd ∧ Keep [] w w') ∧
    (∀ x w, Bytes w x l → Calls Try.prog 28 #[x] w fun e w' => e = .returned (.tuple #[.agg #[.string ⟨kd.toArray⟩, .string ⟨vd.toArray⟩, .int .i64 en], .int .i64 n, .int .i64 cd]) ∧ Keep [] w w') := by
  by_cases hok : RecOk l
  · obtain ⟨f1, f2, f3, f4, f5, f6, f7⟩ := rec_ok_fields l hok
    have hl0 := hok.1
    refine ⟨qkey l, qval l, qe l, 13 + qk l + qv l, 0, fun x w hx => ?_, fun x w hx => ?_⟩
    · refine (unpack_any x l w hx hl).mono ?_
      rintro e w' ⟨hk, ⟨-, k, v, rfl, h1, h2⟩ | ⟨h, -⟩⟩
      · rw [f4] at h1
        rw [f5] at h2
        rw [f1, f2, f3]
        exact ⟨k, v, rfl, h1.bytes (by omega), h2.bytes (by omega), hk⟩
      · exact absurd ((rec_ok_iff l).2 hok) h
    · have := hok.1
      refine (recRefUnpack_in x l w hx (by omega) hl).mono ?_
      rintro e w' ⟨hk, ⟨-, rfl⟩ | ⟨h, -⟩⟩
      · exact ⟨rfl, hk⟩
      · exact absurd hok h
  · refine ⟨[], [], 0, 0, 5, fun x w hx => ?_, fun x w hx => ?_⟩
    · refine (unpack_any x l w hx hl).mono ?_
      rintro e w' ⟨hk, ⟨h, -⟩ | ⟨-, rfl⟩⟩
      · exact absurd ((rec_ok_iff l).1 h) hok
      · exact ⟨_, _, rfl, Bytes.nil _, Bytes.nil _, hk⟩
    · by_cases h13 : 13 ≤ l.length
      · refine (recRefUnpack_in x l w hx h13 hl).mono ?_
        rintro e w' ⟨hk, ⟨h, -⟩ | ⟨-, rfl⟩⟩
        · exact absurd h hok
        · exact ⟨rfl, hk⟩
      · refine (recRefUnpack_short x l w hx (by omega)).mono ?_
        rintro e w' ⟨rfl, hk⟩
        exact ⟨rfl, hk⟩
end Go.Proofs.Ytncenlnbdebamaa
