import Derived.Test.YtjkjiabfhhnngaaFlashA
import Derived.Test.YtjkjiabfhhnngaaOpenF
import Derived.Test.YtjkjiabfhhnngaaNum
/-! Acts of flash that came in. -/
namespace Go.Proofs.Ytjkjiabfhhnngaa
open Go.ChangeShapes Go.WideShapes Go.ChangeAt Go.Deep Go.RowKit Sg
set_option linter.unusedSimpArgs false
set_option linter.unusedVariables false
section
variable {H : Type} {enc : TypeId × Value → H} {w : World}

theorem ints_trod {fuel : Nat} {cs : List Value} {x : DataW H × List MemPlace} (h : DataW.trod enc Try.prog w 0 (fun _ => true) true fuel 35 cs = some x) (hw : ∀ y ∈ x.1.weights Try.prog 35, y ≤ reachBytes) : ∃ v l, cs = [v] ∧ Ints w v l := by
  rcases open_slice Try.underlying35 h with ⟨rfl, _⟩ | ⟨a, n, c, m, n', D, Pl, rfl, _, hl, hm, hm0, hx, hel⟩
  · exact ⟨_, [], rfl, Ints.nil w⟩
  · simp at hm0
    subst hm0
    subst hx
    have hsz := hw _ (by simp only [DataW.weights, Try.underlying35]; exact List.mem_cons_self)
    rw [show Try.prog.bytesOf 3 = 8 by kernel_rfl] at hsz
    simp [reachBytes] at hsz
    simp [maxLen] at hm
    have each : ∀ i, i < n → ∃ p : Int, w.cell? (a.add i) = some (.int .i64 p) ∧ -9223372036854775808 ≤ p ∧ p ≤ 9223372036854775807 := by
      intro i hi
      obtain ⟨cs', h1, h2⟩ := hel i (by omega)
      rw [show Try.prog.cellsOf 3 = 1 by kernel_rfl, Nat.mul_one] at h1
      obtain ⟨u, rfl, hu⟩ := cells_one h1
      obtain ⟨p, e1, -, hn⟩ := DataW.trod_int Try.underlying3 h2
      injection e1 with e1
      exact ⟨p, by rw [hu, e1], i64_in hn⟩
    refine ⟨_, (List.range n).attach.map fun i => Classical.choose (each i.1 (List.mem_range.1 i.2)), rfl, some a, m, by simp, by simp; omega, ⟨by omega, by simp; omega⟩, by simp, ?_, ?_⟩
    · intro x hx
      obtain ⟨i, -, rfl⟩ := List.mem_map.1 hx
      exact (Classical.choose_spec (each i.1 (List.mem_range.1 i.2))).2
    · intro ad e i hi
      cases e
      have hi' : i < n := by simpa using hi
      simp only [List.getElem_map, List.getElem_attach, List.getElem_range]
      exact (Classical.choose_spec (each i hi')).1

/-- an act, as it came in -/
structure FAct where
  kind : Int
  at_ : Int
  len : Int
  b : UInt8
  fv : Value
  fates : List Int
def FAct.cells (a : FAct) : List Value := [.int .i64 a.kind, .int .i64 a.at_, .int .i64 a.len, .int .u8 (a.b.toNat : Int), a.fv]
structure FAct.Ok (w : World) (a : FAct) : Prop where
  at1 : -9223372036854775808 ≤ a.at_
  at2 : a.at_ ≤ 9223372036854775807
  len : a.len ≤ 9223372036854775807
  fates : Ints w a.fv a.fates
def Acts (w : World) (v : Value) (l : List FAct) : Prop :=
  ∃ ao cap, v = .slice ao l.length cap ∧ l.length ≤ cap ∧ (cap ≤ 9223372036854775807 ∧ l.length ≤ 140737488355328) ∧ (ao = none → l = []) ∧ (∀ x ∈ l, x.Ok w) ∧
    ∀ ad, ao = some ad → ∀ i (h : i < l.length) j v, l[i].cells[j]? = some v → w.cell? ((ad.add (i * 5)).add j) = some v
theorem Acts.nil (w : World) : Acts w (.slice none 0 0) [] := ⟨none, 0, rfl, by simp, ⟨by decide, by decide⟩, fun _ => rfl, by simp, fun _ h => by cases h⟩
theorem Acts.form {w : World} {v : Value} {l : List FAct} (h : Acts w v l) : ∃ ao cap, v = .slice ao l.length cap ∧ l.length ≤ cap ∧ l.length ≤ 140737488355328 ∧ cap ≤ 9223372036854775807 := by
  obtain ⟨ao, cap, rfl, h1, h2, _⟩ := h
  exact ⟨ao, cap, rfl, h1, h2.2, h2.1⟩
theorem Acts.spot {w : World} {ao : Option Addr} {n cap : Nat} {l : List FAct} (h : Acts w (.slice ao n cap) l) (hl : 0 < l.length) :
    ∃ b o, ao = some ⟨b, o, none⟩ ∧ b < w.heap.size ∧ ∀ i (h : i < l.length) j v, l[i].cells[j]? = some v → w.cell? ⟨b, o + i * 5 + j, none⟩ = some v := by
  obtain ⟨ao', cap', e, h1, h2, h3, h5, h4⟩ := h
  cases e
  cases ao with
  | none => rw [h3 rfl] at hl; simp at hl
  | some ad =>
    have h0 := h4 ad rfl 0 hl 0 _ rfl
    rw [Nat.zero_mul, show (ad.add 0).add 0 = ad by simp [Addr.add]] at h0
    have hs : ad.spot = none := by
      cases hsp : ad.spot with
      | none => rfl
      | some x =>
        unfold World.cell? at h0
        split at h0
        · simp [hsp] at h0
        · cases h0
    obtain ⟨b, o, sp⟩ := ad
    simp only at hs
    subst hs
    refine ⟨b, o, rfl, World.block_lt_of_cell? w _ h0, fun i hi j v hv => ?_⟩
    have := h4 _ rfl i hi j v hv
    rwa [Addr.add_lit, Addr.add_lit] at this

set_option maxRecDepth 100000 in
theorem act_trod {fuel : Nat} {cs : List Value} {x : DataW H × List MemPlace} (h : DataW.trod enc Try.prog w 0 (fun _ => true) true fuel 37 cs = some x) (hw : ∀ y ∈ x.1.weights Try.prog 37, y ≤ reachBytes) :
    ∃ a : FAct, a.Ok w ∧ ∀ (j : Nat) (v : Value), a.cells[j]? = some v → cs[j]? = some v := by
  obtain ⟨m0, z0, h0, -⟩ := field_trod Try.underlying37 h hw 0 _ rfl
  obtain ⟨m1, z1, h1, -⟩ := field_trod Try.underlying37 h hw 1 _ rfl
  obtain ⟨m2, z2, h2, -⟩ := field_trod Try.underlying37 h hw 2 _ rfl
  obtain ⟨m3, z3, h3, -⟩ := field_trod Try.underlying37 h hw 3 _ rfl
  obtain ⟨m4, z4, h4, w4⟩ := field_trod Try.underlying37 h hw 4 _ rfl
  obtain ⟨n0, e0, -, i0⟩ := DataW.trod_int Try.underlying3 h0
  obtain ⟨n1, e1, -, i1⟩ := DataW.trod_int Try.underlying3 h1
  obtain ⟨n2, e2, -, i2⟩ := DataW.trod_int Try.underlying3 h2
  obtain ⟨n3, e3, -, i3⟩ := DataW.trod_int Try.underlying5 h3
  obtain ⟨fv, fl, e4, hf⟩ := ints_trod h4 w4
  obtain ⟨k3, rfl, hk3⟩ := u8_nat i3
  have c0 : cs[0]? = _ := drop_one e0
  have c1 : cs[1]? = _ := drop_one e1
  have c2 : cs[2]? = _ := drop_one e2
  have c3 : cs[3]? = _ := drop_one e3
  have c4 : cs[4]? = _ := drop_one e4
  refine ⟨⟨n0, n1, n2, UInt8.ofNat k3, fv, fl⟩, ⟨(i64_in i1).1, (i64_in i1).2, (i64_in i2).2, hf⟩, fun j v hv => ?_⟩
  have e8 : ((UInt8.ofNat k3).toNat : Int) = (k3 : Int) := by rw [UInt8.toNat_ofNat']; omega
  match j, hv with
  | 0, hv => exact c0.trans hv
  | 1, hv => exact c1.trans hv
  | 2, hv => exact c2.trans hv
  | 3, hv => rw [← e8] at c3; exact c3.trans hv
  | 4, hv => exact c4.trans hv

set_option maxRecDepth 100000 in
theorem acts_trod {fuel : Nat} {cs : List Value} {x : DataW H × List MemPlace} (h : DataW.trod enc Try.prog w 0 (fun _ => true) true fuel 22 cs = some x) (hw : ∀ y ∈ x.1.weights Try.prog 22, y ≤ reachBytes) : ∃ v l, cs = [v] ∧ Acts w v l := by
  rcases open_slice Try.underlying22 h with ⟨rfl, _⟩ | ⟨a, n, c, m, n', D, Pl, rfl, _, hl, hm, hm0, hx, hel⟩
  · exact ⟨_, [], rfl, Acts.nil w⟩
  · simp at hm0
    subst hm0
    subst hx
    have hsz := hw _ (by simp only [DataW.weights, Try.underlying22]; exact List.mem_cons_self)
    rw [show Try.prog.bytesOf 37 = 56 by kernel_rfl] at hsz
    simp [reachBytes] at hsz
    simp [maxLen] at hm
    have each : ∀ i, i < n → ∃ p : FAct, p.Ok w ∧ ∀ (j : Nat) (v : Value), p.cells[j]? = some v → w.cell? ((a.add (i * 5)).add j) = some v := by
      intro i hi
      obtain ⟨cs', h1, h2⟩ := hel i (by omega)
      rw [show Try.prog.cellsOf 37 = 5 by kernel_rfl] at h1
      obtain ⟨p, hp, hc⟩ := act_trod h2 (fun y hy => hw y (by
        simp only [DataW.weights, Try.underlying22]
        exact List.mem_cons_of_mem _ (List.mem_append_left _ (weights_all_mem (List.mem_map.2 ⟨i, List.mem_range.2 hi, rfl⟩) y hy))))
      obtain ⟨-, hcl, hcc⟩ := World.cells?_some h1
      refine ⟨p, hp, fun j v hv => ?_⟩
      have hj : j < 5 := (List.getElem?_eq_some_iff.1 hv).1
      exact (hcc j hj).trans (hc j v hv)
    refine ⟨_, (List.range n).attach.map fun i => Classical.choose (each i.1 (List.mem_range.1 i.2)), rfl, some a, m, by simp, by simp; omega, ⟨by omega, by simp; omega⟩, by simp, ?_, ?_⟩
    · intro x hx
      obtain ⟨i, -, rfl⟩ := List.mem_map.1 hx
      exact (Classical.choose_spec (each i.1 (List.mem_range.1 i.2))).1
    · intro ad e i hi j v hv
      cases e
      have hi' : i < n := by simpa using hi
      simp only [List.getElem_map, List.getElem_attach, List.getElem_range] at hv
      exact (Classical.choose_spec (each i hi')).2 j v hv

theorem acts_of {v : Value} {d : DataW H} {ps : List MemPlace} (hv : ∃ a n c, v = .slice a n c) (h : DataW.Trod enc Try.prog w 0 (fun _ => true) true 22 v d ps) (hw : ∀ y ∈ d.weights Try.prog 22, y ≤ reachBytes) : ∃ l : List FAct, Acts w v l := by
  obtain ⟨a0, n, c, rfl⟩ := hv
  obtain ⟨fuel, hf⟩ := h
  obtain ⟨v', l, e, h⟩ := acts_trod hf hw
  simp [Value.cells] at e
  subst e
  exact ⟨l, h⟩

end
end Go.Proofs.Ytjkjiabfhhnngaa
