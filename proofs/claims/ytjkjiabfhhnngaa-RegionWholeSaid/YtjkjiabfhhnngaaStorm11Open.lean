import Derived.Test.YtjkjiabfhhnngaaActs
import Derived.Test.YtjkjiabfhhnngaaActs11
/-! A storm upon a region's log that came in, opened. -/
namespace Go.Proofs.Ytjkjiabfhhnngaa
open Go.ChangeShapes Go.WideShapes Go.ChangeAt Go.Deep Go.RowKit Sg
set_option linter.unusedSimpArgs false
set_option linter.unusedVariables false
section
variable {H : Type} {enc : TypeId × Value → H} {w : World}
set_option maxRecDepth 100000 in
theorem storm11_of {v : Value} {d : DataW H} {ps : List MemPlace} {r : Reach} {b : Nat} (hv : Value.okWide Try.prog w r b 85 v) (h : DataW.Trod enc Try.prog w 0 (fun _ => true) true 85 v d ps) (hw : ∀ y ∈ d.weights Try.prog 85, y ≤ reachBytes) :
    ∃ (pv fv : Value) (pl : List RAct) (fl : List Int) (dn : Int), v = .agg #[pv, .int .i64 dn, fv] ∧ RActs w pv pl ∧ Ints w fv fl ∧ dn ≤ 9223372036854775807 := by
  obtain ⟨cs, rfl, hsz⟩ := okWide_struct Try.underlying85 hv
  have hsz' : cs.size = 3 := hsz.trans (by kernel_rfl)
  obtain ⟨fuel, hd⟩ := h
  obtain ⟨m0, z0, h0, w0⟩ := field_trod Try.underlying85 hd hw 0 _ rfl
  obtain ⟨m1, z1, h1, w1⟩ := field_trod Try.underlying85 hd hw 1 _ rfl
  obtain ⟨m2, z2, h2, w2⟩ := field_trod Try.underlying85 hd hw 2 _ rfl
  obtain ⟨pv, pl, e0, hp⟩ := racts_trod h0 w0
  obtain ⟨n1, e1, -, i1⟩ := DataW.trod_int Try.underlying3 h1
  obtain ⟨fv, fl, e2, hf⟩ := ints_trod h2 w2
  have g0 : cs.toList[0]? = _ := drop_one e0
  have g1 : cs.toList[1]? = _ := drop_one e1
  have g2 : cs.toList[2]? = _ := drop_one e2
  refine ⟨pv, fv, pl, fl, n1, ?_, hp, hf, (i64_in i1).2⟩
  congr 1
  apply Array.ext_getElem?
  intro i
  rw [Array.getElem?_toList] at g0 g1 g2
  by_cases hi : i < 3
  · rcases (by omega : i = 0 ∨ i = 1 ∨ i = 2) with rfl | rfl | rfl
    · exact g0
    · exact g1
    · exact g2
  · rw [Array.getElem?_eq_none (by omega), Array.getElem?_eq_none (by simp; omega)]
end
end Go.Proofs.Ytjkjiabfhhnngaa
