import Derived.Test.YtijljdcpajjhhaaOpen
import Derived.WideShapes
import Derived.ChangeArms
/-! A field of a struct that came in, and what it weighs. -/
namespace Sg
open Go Go.RowKit Go.ChangeShapes Go.WideShapes
variable {H : Type} {enc : TypeId × Value → H} {w : World} {P : Program}

theorem drop_one {cs : List Value} {i : Nat} {u : Value} (h : (cs.drop i).take 1 = [u]) : cs[i]? = some u := by
  have h4 := congrArg (fun l => l[0]?) h
  simpa [List.getElem?_drop] using h4

theorem field_trod {t : TypeId} {fs : Array Field} {fuel : Nat} {cs : List Value} {x : DataW H × List MemPlace} (ht : P.underlying t = some (.struct fs)) (h : DataW.trod enc P w 0 (fun _ => true) true fuel t cs = some x) (hw : ∀ y ∈ x.1.weights P t, y ≤ reachBytes)
    (i : Nat) (f : Field) (hf : fs[i]? = some f) : ∃ (n : Nat) (z : DataW H × List MemPlace), DataW.trod enc P w 0 (fun _ => true) true n f.type ((cs.drop f.offset).take (P.cellsOf f.type)) = some z ∧ ∀ y ∈ z.1.weights P f.type, y ≤ reachBytes := by
  obtain ⟨xs, n, -, hx, -, hl, hall⟩ := DataW.trod_struct ht h
  have h1 := hall i f hf
  have hi : i < xs.length := by rw [hl]; exact (Array.getElem?_eq_some_iff.1 hf).1
  rw [List.getElem?_eq_getElem hi] at h1
  refine ⟨n, _, h1, fun y hy => hw y ?_⟩
  rw [hx]
  simp only [DataW.weights, ht]
  refine DataW.weights_mem_each (j := i) (t := f.type) (d := xs[i].1) ?_ ?_ y hy
  · simp [hf]
  · simp [hi]
end Sg
