import Derived.Test.YtcmkcegnfddccaaBase
import Derived.Test.YtcmkcegnfddccaaNum
import Derived.Test.YtcmkcegnfddccaaProg
import Derived.Test.YtcmkcegnfddccaaOpen
import Derived.WideShapes
import Derived.ChangeArms
/-! A record that came in, opened. -/
namespace Go.Proofs.Ytcmkcegnfddccaa
open Go.ChangeShapes Go.WideShapes Go.RowKit Sg
variable {H : Type} {enc : TypeId × Value → H} {w : World}

theorem rec_field {P : Program} {t : TypeId} {fs : Array Field} {cs : Array Value} {d : DataW H} {ps : List MemPlace} (ht : P.underlying t = some (.struct fs)) (h : DataW.Trod enc P w 0 (fun _ => true) true t (.agg cs) d ps)
    (i : Nat) (f : Field) (hf : fs[i]? = some f) (hc : P.cellsOf f.type = 1) (ho : f.offset = i) : ∃ (n : Nat) (x : DataW H × List MemPlace), DataW.trod enc P w 0 (fun _ => true) true n f.type ((cs.toList.drop i).take 1) = some x := by
  obtain ⟨fuel, hd⟩ := h
  obtain ⟨xs, n, -, -, -, hl, hall⟩ := DataW.trod_struct ht hd
  have h1 := hall i f hf
  have hi : i < xs.length := by rw [hl]; exact (Array.getElem?_eq_some_iff.1 hf).1
  rw [List.getElem?_eq_getElem hi, ho, hc] at h1
  exact ⟨n, _, h1⟩
theorem rec_get {cs : Array Value} {i : Nat} {u : Value} (h2 : (cs.toList.drop i).take 1 = [u]) : cs[i]? = some u := by
  have h4 := congrArg (fun l => l[0]?) h2
  simp [List.getElem?_drop] at h4
  exact h4

set_option maxRecDepth 100000 in
theorem rec_of {v : Value} {d : DataW H} {ps : List MemPlace} {r : Reach} {b : Nat} (hv : Value.okWide Try.prog w r b 25 v) (h : DataW.Trod enc Try.prog w 0 (fun _ => true) true 25 v d ps) :
    ∃ (k s : ByteArray) (e : Int), v = .agg #[.string k, .string s, .int .i64 e] ∧ -9223372036854775808 ≤ e ∧ e ≤ 9223372036854775807 := by
  obtain ⟨cs, rfl, hsz⟩ := okWide_struct Try.underlying25 hv
  have hsz' : cs.size = 3 := hsz.trans (by kernel_rfl)
  obtain ⟨m0, x0, h0⟩ := rec_field Try.underlying25 h 0 _ rfl (by kernel_rfl) rfl
  obtain ⟨m1, x1, h1⟩ := rec_field Try.underlying25 h 1 _ rfl (by kernel_rfl) rfl
  obtain ⟨m2, x2, h2⟩ := rec_field Try.underlying25 h 2 _ rfl (by kernel_rfl) rfl
  obtain ⟨k, e0, -, -⟩ := DataW.trod_string Try.underlying9 h0
  obtain ⟨s, e1, -, -⟩ := DataW.trod_string Try.underlying9 h1
  obtain ⟨n2, e2, -, hn⟩ := DataW.trod_int Try.underlying3 h2
  have g0 := rec_get e0
  have g1 := rec_get e1
  have g2 := rec_get e2
  have hi := i64_in hn
  refine ⟨k, s, n2, ?_, hi.1, hi.2⟩
  congr 1
  apply Array.ext_getElem?
  intro i
  by_cases hi : i < 3
  · rcases (by omega : i = 0 ∨ i = 1 ∨ i = 2) with rfl | rfl | rfl
    · exact g0
    · exact g1
    · exact g2
  · rw [Array.getElem?_eq_none (by omega), Array.getElem?_eq_none (by simp; omega)]
end Go.Proofs.Ytcmkcegnfddccaa
