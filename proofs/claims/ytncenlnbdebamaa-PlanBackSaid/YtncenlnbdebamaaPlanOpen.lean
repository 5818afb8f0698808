import Derived.Test.YtncenlnbdebamaaPlanBounds
import Derived.WideShapes
import Derived.ChangeArms
/-! A plan that came in, opened. -/
namespace Go.Proofs.Ytncenlnbdebamaa
open Go.ChangeShapes Go.WideShapes Go.RowKit Sg
variable {H : Type} {enc : TypeId × Value → H} {w : World}

theorem field_int {P : Program} {t : TypeId} {fs : Array Field} {cs : Array Value} {d : DataW H} {ps : List MemPlace} (ht : P.underlying t = some (.struct fs)) (h : DataW.Trod enc P w 0 (fun _ => true) true t (.agg cs) d ps)
    (i : Nat) (f : Field) (k : IntKind) (hf : fs[i]? = some f) (hk : P.underlying f.type = some (.int k)) (hc : P.cellsOf f.type = 1) (ho : f.offset = i) : ∃ n, cs[i]? = some (.int k n) ∧ (Lit.int k n).wf = true := by
  obtain ⟨fuel, hd⟩ := h
  obtain ⟨xs, n, -, -, -, hl, hall⟩ := DataW.trod_struct ht hd
  have h1 := hall i f hf
  have hi : i < xs.length := by rw [hl]; exact (Array.getElem?_eq_some_iff.1 hf).1
  rw [List.getElem?_eq_getElem hi, ho, hc] at h1
  obtain ⟨n', h2, -, h3⟩ := DataW.trod_int hk h1
  refine ⟨n', ?_, h3⟩
  have h4 := congrArg (fun l => l[0]?) h2
  simp [Value.cells, List.getElem?_drop] at h4
  exact h4

theorem plan_of {v : Value} {d : DataW H} {ps : List MemPlace} {r : Reach} {b : Nat} (hv : Value.okWide Try.prog w r b 24 v) (h : DataW.Trod enc Try.prog w 0 (fun _ => true) true 24 v d ps) : ∃ p : Pl, v = p.v ∧ p.In := by
  obtain ⟨cs, rfl, hsz⟩ := okWide_struct Try.underlying24 hv
  have hsz' : cs.size = 8 := hsz.trans (by kernel_rfl)
  obtain ⟨n0, e0, w0⟩ := field_int Try.underlying24 h 0 _ .i64 rfl Try.underlying3 (by kernel_rfl) rfl
  obtain ⟨n1, e1, w1⟩ := field_int Try.underlying24 h 1 _ .i64 rfl Try.underlying3 (by kernel_rfl) rfl
  obtain ⟨n2, e2, w2⟩ := field_int Try.underlying24 h 2 _ .i64 rfl Try.underlying3 (by kernel_rfl) rfl
  obtain ⟨n3, e3, w3⟩ := field_int Try.underlying24 h 3 _ .i64 rfl Try.underlying3 (by kernel_rfl) rfl
  obtain ⟨n4, e4, w4⟩ := field_int Try.underlying24 h 4 _ .i64 rfl Try.underlying3 (by kernel_rfl) rfl
  obtain ⟨n5, e5, w5⟩ := field_int Try.underlying24 h 5 _ .i64 rfl Try.underlying3 (by kernel_rfl) rfl
  obtain ⟨n6, e6, w6⟩ := field_int Try.underlying24 h 6 _ .i64 rfl Try.underlying3 (by kernel_rfl) rfl
  obtain ⟨n7, e7, w7⟩ := field_int Try.underlying24 h 7 _ .u64 rfl Try.underlying22 (by kernel_rfl) rfl
  obtain ⟨s, rfl, hs⟩ := u64_nat w7
  refine ⟨⟨n0, n1, n2, n3, n4, n5, n6, s⟩, ?_, i64_in w0, i64_in w1, i64_in w2, i64_in w3, i64_in w4, i64_in w5, i64_in w6, hs⟩
  unfold Pl.v
  congr 1
  apply Array.ext_getElem?
  intro i
  by_cases hi : i < 8
  · rcases (by omega : i = 0 ∨ i = 1 ∨ i = 2 ∨ i = 3 ∨ i = 4 ∨ i = 5 ∨ i = 6 ∨ i = 7) with rfl | rfl | rfl | rfl | rfl | rfl | rfl | rfl
    · exact e0
    · exact e1
    · exact e2
    · exact e3
    · exact e4
    · exact e5
    · exact e6
    · exact e7
  · rw [Array.getElem?_eq_none (by omega), Array.getElem?_eq_none (by simp; omega)]
end Go.Proofs.Ytncenlnbdebamaa
