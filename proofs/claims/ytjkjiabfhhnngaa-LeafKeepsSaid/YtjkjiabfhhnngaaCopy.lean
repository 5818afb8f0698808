import Derived.Test.YtjkjiabfhhnngaaOwn
import Derived.Laws.CopyRow
/-! copy onto bytes of the call's own. -/
namespace Sg
open Go Go.RowKit

theorem run_copy_bytes {P : Program} {w : World} {base : Nat} {t ty e : TypeId} (ht : P.underlying t = some (.slice e)) (hi : (P.info? e).map (·.size) = some 1) {g n cap : Nat} {xs l : List UInt8} {src : Value}
    (hO : OwnB w base e (.slice (some ⟨g, 0, none⟩) n cap) xs) (hsrc : Bytes w src l) (hl : l.length ≤ xs.length) :
    ∃ w', (Builtin.copy_ #[t, t] ty #[.slice (some ⟨g, 0, none⟩) n cap, src]).run P w = .ok (goInt l.length) w' ∧ OwnB w' base e (.slice (some ⟨g, 0, none⟩) n cap) (l ++ xs.drop l.length) ∧ Keep [g] w w' := by
  obtain ⟨h0, h1⟩ := id hO
  rcases h1 with ⟨hn, -⟩ | ⟨g', cap', cur, hv, hb, hg, hnc, hcm, hs, htk⟩
  · cases hn
  · cases hv
    obtain ⟨ao, sc, rfl, k1, k2, k3, k4⟩ := hsrc
    cases ao with
    | none =>
      have := k3 rfl
      subst this
      refine ⟨w, ?_, by simpa using hO, Keep.refl _ _⟩
      cases hq : P.info? e with
      | none => simp [hq] at hi
      | some i => simp [Builtin.copy_, run_underlying ht, Go.sizeOf, typeInfo, hq, Builtin.lenOf, Builtin.firstCells, storeCells]
    | some ad =>
      have hlen : (l.map u8v).length = l.length := by simp
      have hr := run_copy_row (P := P) w t t ty e g 0 xs.length cap ad l.length sc cur e (l.map u8v) ht hi hg (by rw [hlen]; exact (Nat.min_eq_left hl).symm)
        (fun j v hv => by
          have hj : j < l.length := by have := (List.getElem?_eq_some_iff.1 hv).1; simpa using this
          rw [k4 ad rfl j hj]
          simp [hj] at hv
          rw [← hv]; rfl) (by rw [hlen, hs]; omega) (by intro v hv; obtain ⟨x, _, rfl⟩ := List.mem_map.1 hv; rfl)
      rw [hlen] at hr
      refine ⟨_, hr, ?_, (Keep.refl _ _).setRow (.inl (by simp)) _⟩
      refine ⟨by simp, .inr ⟨g, cap, _, ?_, hb, setRow_heap _ _ _ _ _ _ hg, ?_, hcm, ?_, ?_⟩⟩
      · congr 1
        rw [List.length_append, List.length_drop]
        omega
      · rw [List.length_append, List.length_drop]; omega
      · simp
        omega
      · have hcur : cur.toList.take xs.length = xs.map u8v := by simpa using htk
        have e1 : (l ++ xs.drop l.length).length = xs.length := by rw [List.length_append, List.length_drop]; omega
        rw [e1, Nat.mul_one, List.map_append, List.map_drop, ← hcur]
        simp only [List.take_zero, List.nil_append, Nat.zero_add]
        rw [List.take_append, List.take_of_length_le (by rw [hlen]; exact hl), hlen, List.drop_take]
end Sg
