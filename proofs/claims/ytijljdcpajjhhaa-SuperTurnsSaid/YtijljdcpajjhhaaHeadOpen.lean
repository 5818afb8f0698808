import Derived.Test.YtijljdcpajjhhaaSuperDef
import Derived.Test.YtijljdcpajjhhaaOpen
import Derived.WideShapes
import Derived.ChangeArms
/-! A head that came in, opened. -/
namespace Go.Proofs.Ytijljdcpajjhhaa
open Go.ChangeShapes Go.WideShapes Go.RowKit Sg
variable {H : Type} {enc : TypeId × Value → H} {w : World}

theorem cell_field {P : Program} {t : TypeId} {fs : Array Field} {cs : List Value} {x : DataW H × List MemPlace} {fuel : Nat} (ht : P.underlying t = some (.struct fs)) (h : DataW.trod enc P w 0 (fun _ => true) true fuel t cs = some x)
    (i : Nat) (f : Field) (k : IntKind) (o : Nat) (hf : fs[i]? = some f) (hk : P.underlying f.type = some (.int k)) (hc : P.cellsOf f.type = 1) (ho : f.offset = o) : ∃ n, cs[o]? = some (.int k n) ∧ (Lit.int k n).wf = true := by
  obtain ⟨xs, n, -, -, -, hl, hall⟩ := DataW.trod_struct ht h
  have h1 := hall i f hf
  have hi : i < xs.length := by rw [hl]; exact (Array.getElem?_eq_some_iff.1 hf).1
  rw [List.getElem?_eq_getElem hi, ho, hc] at h1
  obtain ⟨n', h2, -, h3⟩ := DataW.trod_int hk h1
  refine ⟨n', ?_, h3⟩
  have h4 := congrArg (fun l => l[0]?) h2
  simp [List.getElem?_drop] at h4
  exact h4
theorem row_field {P : Program} {t : TypeId} {fs : Array Field} {cs : List Value} {x : DataW H × List MemPlace} {fuel : Nat} (ht : P.underlying t = some (.struct fs)) (h : DataW.trod enc P w 0 (fun _ => true) true fuel t cs = some x)
    (i : Nat) (f : Field) (o c : Nat) (hf : fs[i]? = some f) (hc : P.cellsOf f.type = c) (ho : f.offset = o) : ∃ n y, DataW.trod enc P w 0 (fun _ => true) true n f.type ((cs.drop o).take c) = some y := by
  obtain ⟨xs, n, -, -, -, hl, hall⟩ := DataW.trod_struct ht h
  have h1 := hall i f hf
  have hi : i < xs.length := by rw [hl]; exact (Array.getElem?_eq_some_iff.1 hf).1
  rw [List.getElem?_eq_getElem hi, ho, hc] at h1
  exact ⟨n, _, h1⟩

set_option maxRecDepth 100000 in
theorem head_cells {cs : List Value} {x : DataW H × List MemPlace} {fuel : Nat} (h : DataW.trod enc Try.prog w 0 (fun _ => true) true fuel 118 cs = some x) : ∃ a : Hd, a.In ∧ ∀ j, j < 15 → cs[j]? = a.cells[j]? := by
  obtain ⟨np, y, hp⟩ := row_field Try.underlying118 h 0 _ 0 8 rfl (by kernel_rfl) rfl
  rw [List.drop_zero] at hp
  obtain ⟨n0, e0, w0⟩ := cell_field Try.underlying116 hp 0 _ .i64 0 rfl Try.underlying3 (by kernel_rfl) rfl
  rw [List.getElem?_take, if_pos (by omega)] at e0
  obtain ⟨n1, e1, w1⟩ := cell_field Try.underlying116 hp 1 _ .i64 1 rfl Try.underlying3 (by kernel_rfl) rfl
  rw [List.getElem?_take, if_pos (by omega)] at e1
  obtain ⟨n2, e2, w2⟩ := cell_field Try.underlying116 hp 2 _ .i64 2 rfl Try.underlying3 (by kernel_rfl) rfl
  rw [List.getElem?_take, if_pos (by omega)] at e2
  obtain ⟨n3, e3, w3⟩ := cell_field Try.underlying116 hp 3 _ .i64 3 rfl Try.underlying3 (by kernel_rfl) rfl
  rw [List.getElem?_take, if_pos (by omega)] at e3
  obtain ⟨n4, e4, w4⟩ := cell_field Try.underlying116 hp 4 _ .i64 4 rfl Try.underlying3 (by kernel_rfl) rfl
  rw [List.getElem?_take, if_pos (by omega)] at e4
  obtain ⟨n5, e5, w5⟩ := cell_field Try.underlying116 hp 5 _ .i64 5 rfl Try.underlying3 (by kernel_rfl) rfl
  rw [List.getElem?_take, if_pos (by omega)] at e5
  obtain ⟨n6, e6, w6⟩ := cell_field Try.underlying116 hp 6 _ .i64 6 rfl Try.underlying3 (by kernel_rfl) rfl
  rw [List.getElem?_take, if_pos (by omega)] at e6
  obtain ⟨n7, e7, w7⟩ := cell_field Try.underlying116 hp 7 _ .u64 7 rfl Try.underlying58 (by kernel_rfl) rfl
  rw [List.getElem?_take, if_pos (by omega)] at e7
  obtain ⟨n8, e8, w8⟩ := cell_field Try.underlying118 h 1 _ .i64 8 rfl Try.underlying3 (by kernel_rfl) rfl
  obtain ⟨n9, e9, w9⟩ := cell_field Try.underlying118 h 2 _ .i64 9 rfl Try.underlying3 (by kernel_rfl) rfl
  obtain ⟨n10, e10, w10⟩ := cell_field Try.underlying118 h 3 _ .i64 10 rfl Try.underlying3 (by kernel_rfl) rfl
  obtain ⟨n11, e11, w11⟩ := cell_field Try.underlying118 h 4 _ .i64 11 rfl Try.underlying3 (by kernel_rfl) rfl
  obtain ⟨n12, e12, w12⟩ := cell_field Try.underlying118 h 5 _ .i64 12 rfl Try.underlying3 (by kernel_rfl) rfl
  obtain ⟨n13, e13, w13⟩ := cell_field Try.underlying118 h 6 _ .i64 13 rfl Try.underlying3 (by kernel_rfl) rfl
  obtain ⟨n14, e14, w14⟩ := cell_field Try.underlying118 h 7 _ .i64 14 rfl Try.underlying3 (by kernel_rfl) rfl
  obtain ⟨s, rfl, hs⟩ := u64_nat w7
  refine ⟨⟨⟨n0, n1, n2, n3, n4, n5, n6, s⟩, n8, n9, n10, n11, n12, n13, n14⟩, ⟨⟨i64_in w0, i64_in w1, i64_in w2, i64_in w3, i64_in w4, i64_in w5, i64_in w6, hs⟩, i64_in w8, i64_in w9, i64_in w10, i64_in w11, i64_in w12, i64_in w13, i64_in w14⟩, fun j hj => ?_⟩
  rcases (by omega : j = 0 ∨ j = 1 ∨ j = 2 ∨ j = 3 ∨ j = 4 ∨ j = 5 ∨ j = 6 ∨ j = 7 ∨ j = 8 ∨ j = 9 ∨ j = 10 ∨ j = 11 ∨ j = 12 ∨ j = 13 ∨ j = 14) with rfl | rfl | rfl | rfl | rfl | rfl | rfl | rfl | rfl | rfl | rfl | rfl | rfl | rfl | rfl
  · exact e0
  · exact e1
  · exact e2
  · exact e3
  · exact e4
  · exact e5
  · exact e6
  · exact e7
  · exact e8
  · exact e9
  · exact e10
  · exact e11
  · exact e12
  · exact e13
  · exact e14
set_option maxRecDepth 100000 in
theorem head_of {v : Value} {d : DataW H} {ps : List MemPlace} {r : Reach} {b : Nat} (hv : Value.okWide Try.prog w r b 118 v) (h : DataW.Trod enc Try.prog w 0 (fun _ => true) true 118 v d ps) : ∃ a : Hd, v = a.v ∧ a.In := by
  obtain ⟨cs, rfl, hsz⟩ := okWide_struct Try.underlying118 hv
  have hsz' : cs.size = 15 := hsz.trans (by kernel_rfl)
  obtain ⟨fuel, h⟩ := h
  obtain ⟨a, ha, hc⟩ := head_cells h
  refine ⟨a, ?_, ha⟩
  unfold Hd.v
  congr 1
  apply Array.ext_getElem?
  intro i
  by_cases hi : i < 15
  · rw [← hc i hi, ← Array.getElem?_toList]
    rfl
  · rw [Array.getElem?_eq_none (by omega), Array.getElem?_eq_none (by simp [Hd.cells]; omega)]
end Go.Proofs.Ytijljdcpajjhhaa
