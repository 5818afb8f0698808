import Derived.Test.YtonocjjjcoaljaaLeafOpen
import Derived.OpenShut
/-! What LeafTurned is given, opened. -/
namespace Go.Proofs.Ytonocjjjcoaljaa
open Go.ChangeShapes Go.WideShapes Go.RowKit Sg
variable {H : Type} {enc : TypeId × Value → H} {w : World}

theorem fld {P : Program} {t : TypeId} {fs : Array Field} {cs : List Value} {n : Nat} {x : DataW H × List MemPlace} (ht : P.underlying t = some (.struct fs)) (h : DataW.trod enc P w 0 (fun _ => true) true n t cs = some x)
    (i : Nat) (f : Field) (hf : fs[i]? = some f) {T : TypeId} {o c : Nat} (hT : f.type = T) (ho : f.offset = o) (hc : P.cellsOf T = c) : ∃ (m : Nat) (y : DataW H × List MemPlace), DataW.trod enc P w 0 (fun _ => true) true m T ((cs.drop o).take c) = some y := by
  subst hT ho hc
  obtain ⟨xs, m, -, -, -, hl, hall⟩ := DataW.trod_struct ht h
  have h1 := hall i f hf
  have hi : i < xs.length := by rw [hl]; exact (Array.getElem?_eq_some_iff.1 hf).1
  rw [List.getElem?_eq_getElem hi] at h1
  exact ⟨m, _, h1⟩
theorem elt {P : Program} {t e : TypeId} {k : Nat} {cs : List Value} {n : Nat} {x : DataW H × List MemPlace} (ht : P.underlying t = some (.array k e)) (h : DataW.trod enc P w 0 (fun _ => true) true n t cs = some x)
    (i : Nat) (hi : i < k) (hc : P.cellsOf e = 1) : ∃ (m : Nat) (y : DataW H × List MemPlace), DataW.trod enc P w 0 (fun _ => true) true m e ((cs.drop i).take 1) = some y := by
  obtain ⟨xs, m, -, -, -, hl, hall⟩ := DataW.trod_array ht h
  have h1 := hall i hi
  rw [hc, Nat.mul_one] at h1
  rw [List.getElem?_eq_getElem (by omega)] at h1
  exact ⟨m, _, h1⟩
theorem one_at {cs : List Value} {i j k : Nat} {u : Value} (h : ((((cs.drop i).take k).drop j).take 1) = [u]) (hj : j < k) : cs[i + j]? = some u := by
  have h4 := congrArg (fun l => l[0]?) h
  simp [List.getElem?_drop, hj] at h4
  exact h4

theorem turned_of {v : Value} {d : DataW H} {ps : List MemPlace} {r : Reach} {b : Nat} (hv : Value.okWide Try.prog w r b 45 v) (h : DataW.Trod enc Try.prog w 0 (fun _ => true) true 45 v d ps) :
    ∃ (size k p s : Int) (ls : ByteArray) (at_ : Nat) (a b c d : UInt8), v = .agg #[.int .i64 size, .int .i64 k, .int .i64 p, .int .i64 s, .string ls, .int .u16 at_, .int .u8 (a.toNat : Int), .int .u8 (b.toNat : Int), .int .u8 (c.toNat : Int), .int .u8 (d.toNat : Int)] ∧ s ≤ 9223372036854775807 ∧ at_ < 65536 := by
  obtain ⟨cs, rfl, hsz⟩ := okWide_struct Try.underlying45 hv
  have hsz' : cs.size = 10 := hsz.trans (by kernel_rfl)
  obtain ⟨fuel, h⟩ := h
  have h : DataW.trod enc Try.prog w 0 (fun _ => true) true fuel 45 cs.toList = some (d, ps) := h
  obtain ⟨m0, y0, h0⟩ := fld Try.underlying45 h 0 _ rfl (T := 3) (o := 0) (c := 1) rfl rfl (by kernel_rfl)
  obtain ⟨m1, y1, h1⟩ := fld Try.underlying45 h 1 _ rfl (T := 23) (o := 1) (c := 4) rfl rfl (by kernel_rfl)
  obtain ⟨m2, y2, h2⟩ := fld Try.underlying45 h 2 _ rfl (T := 42) (o := 5) (c := 1) rfl rfl (by kernel_rfl)
  obtain ⟨m3, y3, h3⟩ := fld Try.underlying45 h 3 _ rfl (T := 43) (o := 6) (c := 4) rfl rfl (by kernel_rfl)
  obtain ⟨n0, e0, -, -⟩ := DataW.trod_int Try.underlying3 h0
  obtain ⟨n5, e5, -, w5⟩ := DataW.trod_int Try.underlying42 h2
  obtain ⟨k1, z1, g1⟩ := fld Try.underlying23 h1 0 _ rfl (T := 3) (o := 0) (c := 1) rfl rfl (by kernel_rfl)
  obtain ⟨k2, z2, g2⟩ := fld Try.underlying23 h1 1 _ rfl (T := 3) (o := 1) (c := 1) rfl rfl (by kernel_rfl)
  obtain ⟨k3, z3, g3⟩ := fld Try.underlying23 h1 2 _ rfl (T := 3) (o := 2) (c := 1) rfl rfl (by kernel_rfl)
  obtain ⟨k4, z4, g4⟩ := fld Try.underlying23 h1 3 _ rfl (T := 9) (o := 3) (c := 1) rfl rfl (by kernel_rfl)
  obtain ⟨n1, e1, -, -⟩ := DataW.trod_int Try.underlying3 g1
  obtain ⟨n2, e2, -, -⟩ := DataW.trod_int Try.underlying3 g2
  obtain ⟨n3, e3, -, w3⟩ := DataW.trod_int Try.underlying3 g3
  obtain ⟨s4, e4, -, -⟩ := DataW.trod_string Try.underlying9 g4
  obtain ⟨j6, v6, a6⟩ := elt Try.underlying43 h3 0 (by omega) (by kernel_rfl)
  obtain ⟨j7, v7, a7⟩ := elt Try.underlying43 h3 1 (by omega) (by kernel_rfl)
  obtain ⟨j8, v8, a8⟩ := elt Try.underlying43 h3 2 (by omega) (by kernel_rfl)
  obtain ⟨j9, v9, a9⟩ := elt Try.underlying43 h3 3 (by omega) (by kernel_rfl)
  obtain ⟨n6, e6, -, w6⟩ := DataW.trod_int Try.underlying5 a6
  obtain ⟨n7, e7, -, w7⟩ := DataW.trod_int Try.underlying5 a7
  obtain ⟨n8, e8, -, w8⟩ := DataW.trod_int Try.underlying5 a8
  obtain ⟨n9, e9, -, w9⟩ := DataW.trod_int Try.underlying5 a9
  have u : ∀ {n : Int}, (Lit.int .u8 n).wf = true → ∃ x : UInt8, n = (x.toNat : Int) := by
    intro n hn
    obtain ⟨m, rfl, hm⟩ := u8_nat hn
    exact ⟨UInt8.ofNat m, by rw [UInt8.toNat_ofNat']; omega⟩
  obtain ⟨x6, rfl⟩ := u w6
  obtain ⟨x7, rfl⟩ := u w7
  obtain ⟨x8, rfl⟩ := u w8
  obtain ⟨x9, rfl⟩ := u w9
  obtain ⟨at_, rfl, hat⟩ := u16_nat w5
  have hi := i64_in w3
  refine ⟨n0, n1, n2, n3, s4, at_, x6, x7, x8, x9, ?_, hi.2, hat⟩
  have c0 := rec_get e0
  have c1 := one_at e1 (by omega)
  have c2 := one_at e2 (by omega)
  have c3 := one_at e3 (by omega)
  have c4 := one_at e4 (by omega)
  have c5 := rec_get e5
  have c6 := one_at e6 (by omega)
  have c7 := one_at e7 (by omega)
  have c8 := one_at e8 (by omega)
  have c9 := one_at e9 (by omega)
  simp at c1 c2 c3 c4 c6 c7 c8 c9
  congr 1
  apply Array.ext_getElem?
  intro i
  by_cases hi : i < 10
  · rcases (by omega : i = 0 ∨ i = 1 ∨ i = 2 ∨ i = 3 ∨ i = 4 ∨ i = 5 ∨ i = 6 ∨ i = 7 ∨ i = 8 ∨ i = 9) with rfl | rfl | rfl | rfl | rfl | rfl | rfl | rfl | rfl | rfl
    · exact c0
    · exact c1
    · exact c2
    · exact c3
    · exact c4
    · exact c5
    · exact c6
    · exact c7
    · exact c8
    · exact c9
  · rw [Array.getElem?_eq_none (by omega), Array.getElem?_eq_none (by simp; omega)]
end Go.Proofs.Ytonocjjjcoaljaa
