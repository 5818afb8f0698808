import Derived.Test.YtjkjiabfhhnngaaBase
import Derived.Test.YtjkjiabfhhnngaaOpenF
import Derived.Test.YtjkjiabfhhnngaaNum
import Derived.Test.YtjkjiabfhhnngaaProg
/-! Acts upon a wheel that came in. -/
namespace Go.Proofs.Ytjkjiabfhhnngaa
open Go.ChangeShapes Go.WideShapes Go.ChangeAt Go.Deep Go.RowKit Sg
set_option linter.unusedSimpArgs false
set_option linter.unusedVariables false

/-- an act, as it came in -/
structure WAct where
  kind : Int
  num : Int
  n : Int
  far : Bool
def WAct.cells (a : WAct) : List Value := [.int .i64 a.kind, .int .i64 a.num, .int .i64 a.n, .bool a.far]
structure WAct.Ok (a : WAct) : Prop where
  k1 : -9223372036854775808 ≤ a.kind
  k2 : a.kind ≤ 9223372036854775807
  s1 : -9223372036854775808 ≤ a.num
  s2 : a.num ≤ 9223372036854775807
  n1 : -9223372036854775808 ≤ a.n
  n2 : a.n ≤ 9223372036854775807
def WActs (w : World) (v : Value) (l : List WAct) : Prop :=
  ∃ ao cap, v = .slice ao l.length cap ∧ l.length ≤ cap ∧ (cap ≤ 9223372036854775807 ∧ l.length ≤ 140737488355328) ∧ (ao = none → l = []) ∧ (∀ x ∈ l, x.Ok) ∧
    ∀ ad, ao = some ad → ∀ i (h : i < l.length) j v, l[i].cells[j]? = some v → w.cell? ((ad.add (i * 4)).add j) = some v
theorem WActs.form {w : World} {v : Value} {l : List WAct} (h : WActs w v l) : ∃ ao cap, v = .slice ao l.length cap ∧ l.length ≤ cap ∧ l.length ≤ 140737488355328 ∧ cap ≤ 9223372036854775807 := by
  obtain ⟨ao, cap, rfl, h1, h2, _⟩ := h
  exact ⟨ao, cap, rfl, h1, h2.2, h2.1⟩
theorem WActs.each {w : World} {v : Value} {l : List WAct} (h : WActs w v l) {i : Nat} (hi : i < l.length) : l[i].Ok := by
  obtain ⟨ao, cap, rfl, h1, h2, h3, h4, h5⟩ := h
  exact h4 _ (List.getElem_mem hi)
theorem WActs.spot {w : World} {ao : Option Addr} {n cap : Nat} {l : List WAct} (h : WActs w (.slice ao n cap) l) {i : Nat} (hi : i < l.length) :
    ∃ b o, ao = some ⟨b, o, none⟩ ∧ ∀ w', Keep [] w w' → w'.cell? ⟨b, o + i * 4, none⟩ = some (.int .i64 l[i].kind) ∧ w'.cell? ⟨b, o + i * 4 + 1, none⟩ = some (.int .i64 l[i].num) ∧ w'.cell? ⟨b, o + i * 4 + 2, none⟩ = some (.int .i64 l[i].n) ∧ w'.cell? ⟨b, o + i * 4 + 3, none⟩ = some (.bool l[i].far) := by
  obtain ⟨ao', cap', e, h1, h2, h3, h5, h4⟩ := h
  cases e
  cases ao with
  | none => rw [h3 rfl] at hi; simp at hi
  | some ad =>
    have h0 := h4 ad rfl 0 (by omega) 0 _ rfl
    rw [Nat.zero_mul, show (ad.add 0).add 0 = ad by simp [Addr.add]] at h0
    have hs : ad.spot = none := by
      cases hsp : ad.spot with
      | none => rfl
      | some x =>
        unfold World.cell? at h0
        split at h0
        · simp [hsp] at h0
        · cases h0
    obtain ⟨b, o, sp⟩ := ad
    simp only at hs
    subst hs
    refine ⟨b, o, rfl, fun w' hk => ?_⟩
    have g := fun j v hv => hk.cell (by simp) (h4 _ rfl i hi j v hv)
    simp only [Addr.add_lit] at g
    exact ⟨g 0 _ rfl, g 1 _ rfl, g 2 _ rfl, g 3 _ rfl⟩

section
variable {H : Type} {enc : TypeId × Value → H} {w : World}
set_option maxRecDepth 100000 in
theorem wact_trod {fuel : Nat} {cs : List Value} {x : DataW H × List MemPlace} (h : DataW.trod enc Try.prog w 0 (fun _ => true) true fuel 121 cs = some x) (hw : ∀ y ∈ x.1.weights Try.prog 121, y ≤ reachBytes) :
    ∃ a : WAct, a.Ok ∧ ∀ (j : Nat) (v : Value), a.cells[j]? = some v → cs[j]? = some v := by
  obtain ⟨m0, z0, h0, -⟩ := field_trod Try.underlying121 h hw 0 _ rfl
  obtain ⟨m1, z1, h1, -⟩ := field_trod Try.underlying121 h hw 1 _ rfl
  obtain ⟨m2, z2, h2, -⟩ := field_trod Try.underlying121 h hw 2 _ rfl
  obtain ⟨m3, z3, h3, -⟩ := field_trod Try.underlying121 h hw 3 _ rfl
  obtain ⟨n0, e0, -, i0⟩ := DataW.trod_int Try.underlying3 h0
  obtain ⟨n1, e1, -, i1⟩ := DataW.trod_int Try.underlying3 h1
  obtain ⟨n2, e2, -, i2⟩ := DataW.trod_int Try.underlying3 h2
  obtain ⟨n3, e3, -⟩ := DataW.trod_bool Try.underlying4 h3
  have c0 : cs[0]? = _ := drop_one e0
  have c1 : cs[1]? = _ := drop_one e1
  have c2 : cs[2]? = _ := drop_one e2
  have c3 : cs[3]? = _ := drop_one e3
  refine ⟨⟨n0, n1, n2, n3⟩, ⟨(i64_in i0).1, (i64_in i0).2, (i64_in i1).1, (i64_in i1).2, (i64_in i2).1, (i64_in i2).2⟩, fun j v hv => ?_⟩
  match j, hv with
  | 0, hv => exact c0.trans hv
  | 1, hv => exact c1.trans hv
  | 2, hv => exact c2.trans hv
  | 3, hv => exact c3.trans hv

set_option maxRecDepth 100000 in
theorem wacts_trod {fuel : Nat} {cs : List Value} {x : DataW H × List MemPlace} (h : DataW.trod enc Try.prog w 0 (fun _ => true) true fuel 116 cs = some x) (hw : ∀ y ∈ x.1.weights Try.prog 116, y ≤ reachBytes) :
    ∃ (v : Value) (l : List WAct), cs = [v] ∧ WActs w v l := by
  rcases open_slice Try.underlying116 h with ⟨rfl, _⟩ | ⟨a, n, c, m, n', D, Pl, rfl, _, hl, hm, hm0, hx, hel⟩
  · exact ⟨_, [], rfl, none, 0, rfl, by simp, ⟨by decide, by decide⟩, fun _ => rfl, by simp, fun _ h => by cases h⟩
  · simp at hm0
    subst hm0
    subst hx
    have hsz := hw _ (by simp only [DataW.weights, Try.underlying116]; exact List.mem_cons_self)
    rw [show Try.prog.bytesOf 121 = 32 by kernel_rfl] at hsz
    simp [reachBytes] at hsz
    simp [maxLen] at hm
    have each : ∀ i, i < n → ∃ p : WAct, p.Ok ∧ ∀ (j : Nat) (v : Value), p.cells[j]? = some v → w.cell? ((a.add (i * 4)).add j) = some v := by
      intro i hi
      obtain ⟨cs', h1, h2⟩ := hel i (by omega)
      rw [show Try.prog.cellsOf 121 = 4 by kernel_rfl] at h1
      obtain ⟨p, hp, hc⟩ := wact_trod h2 (fun y hy => hw y (by
        simp only [DataW.weights, Try.underlying116]
        exact List.mem_cons_of_mem _ (List.mem_append_left _ (weights_all_mem (List.mem_map.2 ⟨i, List.mem_range.2 hi, rfl⟩) y hy))))
      obtain ⟨-, hcl, hcc⟩ := World.cells?_some h1
      refine ⟨p, hp, fun j v hv => ?_⟩
      have hj : j < 4 := (List.getElem?_eq_some_iff.1 hv).1
      exact (hcc j hj).trans (hc j v hv)
    refine ⟨_, (List.range n).attach.map fun i => Classical.choose (each i.1 (List.mem_range.1 i.2)), rfl, some a, m, by simp, by simp; omega, ⟨by omega, by simp; omega⟩, by simp, ?_, ?_⟩
    · intro x hx
      obtain ⟨i, -, rfl⟩ := List.mem_map.1 hx
      exact (Classical.choose_spec (each i.1 (List.mem_range.1 i.2))).1
    · intro ad e i hi j v hv
      cases e
      have hi' : i < n := by simpa using hi
      simp only [List.getElem_map, List.getElem_attach, List.getElem_range] at hv
      exact (Classical.choose_spec (each i hi')).2 j v hv
theorem wacts_of {v : Value} {d : DataW H} {ps : List MemPlace} (hv : ∃ a n c, v = .slice a n c) (h : DataW.Trod enc Try.prog w 0 (fun _ => true) true 116 v d ps) (hw : ∀ y ∈ d.weights Try.prog 116, y ≤ reachBytes) : ∃ l : List WAct, WActs w v l := by
  obtain ⟨a0, n, c, rfl⟩ := hv
  obtain ⟨fuel, hf⟩ := h
  obtain ⟨v', l, e, h⟩ := wacts_trod hf hw
  simp [Value.cells] at e
  subst e
  exact ⟨l, h⟩
end

end Go.Proofs.Ytjkjiabfhhnngaa
