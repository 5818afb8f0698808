import Derived.Test.YtpodbekiaagfcaaBase
import Derived.Test.YtpodbekiaagfcaaNum
import Derived.Test.YtpodbekiaagfcaaProg
import Derived.Test.YtpodbekiaagfcaaOpen
import Derived.WideShapes
import Derived.ChangeArms
/-! A leaf that came in, opened. -/
namespace Go.Proofs.Ytpodbekiaagfcaa
open Go.ChangeShapes Go.WideShapes Go.RowKit Sg
variable {H : Type} {enc : TypeId × Value → H} {w : World}

theorem rec_field {P : Program} {t : TypeId} {fs : Array Field} {cs : Array Value} {d : DataW H} {ps : List MemPlace} (ht : P.underlying t = some (.struct fs)) (h : DataW.Trod enc P w 0 (fun _ => true) true t (.agg cs) d ps)
    (i : Nat) (f : Field) (hf : fs[i]? = some f) (hc : P.cellsOf f.type = 1) (ho : f.offset = i) : ∃ (n : Nat) (x : DataW H × List MemPlace), DataW.trod enc P w 0 (fun _ => true) true n f.type ((cs.toList.drop i).take 1) = some x := by
  obtain ⟨fuel, hd⟩ := h
  obtain ⟨xs, n, -, -, -, hl, hall⟩ := DataW.trod_struct ht hd
  have h1 := hall i f hf
  have hi : i < xs.length := by rw [hl]; exact (Array.getElem?_eq_some_iff.1 hf).1
  rw [List.getElem?_eq_getElem hi, ho, hc] at h1
  exact ⟨n, _, h1⟩
theorem rec_get {cs : Array Value} {i : Nat} {u : Value} (h2 : (cs.toList.drop i).take 1 = [u]) : cs[i]? = some u := by
  have h4 := congrArg (fun l => l[0]?) h2
  simp [List.getElem?_drop] at h4
  exact h4

set_option maxRecDepth 100000 in
theorem leaf_of {v : Value} {d : DataW H} {ps : List MemPlace} {r : Reach} {b : Nat} (hv : Value.okWide Try.prog w r b 71 v) (h : DataW.Trod enc Try.prog w 0 (fun _ => true) true 71 v d ps) :
    ∃ (k p s : Int) (l : ByteArray), v = .agg #[.int .i64 k, .int .i64 p, .int .i64 s, .string l] ∧ s ≤ 9223372036854775807 := by
  obtain ⟨cs, rfl, hsz⟩ := okWide_struct Try.underlying71 hv
  have hsz' : cs.size = 4 := hsz.trans (by kernel_rfl)
  obtain ⟨m0, x0, h0⟩ := rec_field Try.underlying71 h 0 _ rfl (by kernel_rfl) rfl
  obtain ⟨m1, x1, h1⟩ := rec_field Try.underlying71 h 1 _ rfl (by kernel_rfl) rfl
  obtain ⟨m2, x2, h2⟩ := rec_field Try.underlying71 h 2 _ rfl (by kernel_rfl) rfl
  obtain ⟨m3, x3, h3⟩ := rec_field Try.underlying71 h 3 _ rfl (by kernel_rfl) rfl
  obtain ⟨n0, e0, -, -⟩ := DataW.trod_int Try.underlying3 h0
  obtain ⟨n1, e1, -, -⟩ := DataW.trod_int Try.underlying3 h1
  obtain ⟨n2, e2, -, hn⟩ := DataW.trod_int Try.underlying3 h2
  obtain ⟨s3, e3, -, -⟩ := DataW.trod_string Try.underlying9 h3
  have g0 := rec_get e0
  have g1 := rec_get e1
  have g2 := rec_get e2
  have g3 := rec_get e3
  have hi := i64_in hn
  refine ⟨n0, n1, n2, s3, ?_, hi.2⟩
  congr 1
  apply Array.ext_getElem?
  intro i
  by_cases hi : i < 4
  · rcases (by omega : i = 0 ∨ i = 1 ∨ i = 2 ∨ i = 3) with rfl | rfl | rfl | rfl
    · exact g0
    · exact g1
    · exact g2
    · exact g3
  · rw [Array.getElem?_eq_none (by omega), Array.getElem?_eq_none (by simp; omega)]
end Go.Proofs.Ytpodbekiaagfcaa
