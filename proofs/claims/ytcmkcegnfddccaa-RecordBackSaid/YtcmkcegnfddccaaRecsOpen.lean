import Derived.Test.YtcmkcegnfddccaaRecOpen
import Derived.Test.YtcmkcegnfddccaaFields
/-! Records of the document that came in. -/
namespace Go.Proofs.Ytcmkcegnfddccaa
open Go.ChangeShapes Go.WideShapes Go.ChangeAt Go.Deep Go.RowKit Sg
set_option linter.unusedSimpArgs false
set_option linter.unusedVariables false

/-- a record, as it came in -/
structure SRec where
  k : List UInt8
  v : List UInt8
  en : Int
def SRec.cells (a : SRec) : List Value := [.string ⟨a.k.toArray⟩, .string ⟨a.v.toArray⟩, .int .i64 a.en]
def SRecs (w : World) (v : Value) (l : List SRec) : Prop :=
  ∃ ao cap, v = .slice ao l.length cap ∧ l.length ≤ cap ∧ (cap ≤ 9223372036854775807 ∧ l.length ≤ 140737488355328) ∧ (ao = none → l = []) ∧ (∀ x ∈ l, -9223372036854775808 ≤ x.en ∧ x.en ≤ 9223372036854775807) ∧
    ∀ ad, ao = some ad → ∀ i (h : i < l.length) j v, l[i].cells[j]? = some v → w.cell? ((ad.add (i * 3)).add j) = some v
theorem SRecs.form {w : World} {v : Value} {l : List SRec} (h : SRecs w v l) : ∃ ao cap, v = .slice ao l.length cap ∧ l.length ≤ cap ∧ l.length ≤ 140737488355328 ∧ cap ≤ 9223372036854775807 := by
  obtain ⟨ao, cap, rfl, h1, h2, _⟩ := h
  exact ⟨ao, cap, rfl, h1, h2.2, h2.1⟩
theorem SRecs.spot {w : World} {ao : Option Addr} {n cap : Nat} {l : List SRec} (h : SRecs w (.slice ao n cap) l) {i : Nat} (hi : i < l.length) :
    ∃ b o, ao = some ⟨b, o, none⟩ ∧ ∀ w', Keep [] w w' → w'.cell? ⟨b, o + i * 3, none⟩ = some (.string ⟨l[i].k.toArray⟩) ∧ w'.cell? ⟨b, o + i * 3 + 1, none⟩ = some (.string ⟨l[i].v.toArray⟩) ∧ w'.cell? ⟨b, o + i * 3 + 2, none⟩ = some (.int .i64 l[i].en) := by
  obtain ⟨ao', cap', e, h1, h2, h3, h5, h4⟩ := h
  cases e
  cases ao with
  | none => rw [h3 rfl] at hi; simp at hi
  | some ad =>
    have h0 := h4 ad rfl 0 (by omega) 0 _ rfl
    rw [Nat.zero_mul, show (ad.add 0).add 0 = ad by simp [Addr.add]] at h0
    have hs : ad.spot = none := by
      cases hsp : ad.spot with
      | none => rfl
      | some x =>
        unfold World.cell? at h0
        split at h0
        · simp [hsp] at h0
        · cases h0
    obtain ⟨b, o, sp⟩ := ad
    simp only at hs
    subst hs
    refine ⟨b, o, rfl, fun w' hk => ?_⟩
    have g := fun j v hv => hk.cell (by simp) (h4 _ rfl i hi j v hv)
    simp only [Addr.add_lit] at g
    exact ⟨g 0 _ rfl, g 1 _ rfl, g 2 _ rfl⟩

section
variable {H : Type} {enc : TypeId × Value → H} {w : World}
set_option maxRecDepth 100000 in
theorem recs_of {v : Value} {d : DataW H} {ps : List MemPlace} (hv : ∃ a n c, v = .slice a n c) (h : DataW.Trod enc Try.prog w 0 (fun _ => true) true 22 v d ps) (hw : ∀ y ∈ d.weights Try.prog 22, y ≤ reachBytes) : ∃ l : List SRec, SRecs w v l := by
  obtain ⟨a0, n0, c0, rfl⟩ := hv
  obtain ⟨fuel, h⟩ := h
  rcases open_slice Try.underlying22 h with ⟨hcs0, _⟩ | ⟨a, n, c, m, n', D, Pl, hcs0, _, hl, hm, hm0, hx, hel⟩
  · simp [Value.cells] at hcs0
    obtain ⟨rfl, rfl, rfl⟩ := hcs0
    exact ⟨[], none, 0, rfl, by simp, ⟨by decide, by decide⟩, fun _ => rfl, by simp, fun _ h => by cases h⟩
  · simp [Value.cells] at hcs0
    obtain ⟨rfl, rfl, rfl⟩ := hcs0
    simp at hm0
    subst hm0
    have hd := congrArg (fun x => x.1) hx
    simp only at hd
    subst hd
    have hsz := hw _ (by simp only [DataW.weights, Try.underlying22]; exact List.mem_cons_self)
    rw [show Try.prog.bytesOf 25 = 40 by kernel_rfl] at hsz
    simp [reachBytes] at hsz
    simp [maxLen] at hm
    have each : ∀ i, i < n0 → ∃ p : SRec, (-9223372036854775808 ≤ p.en ∧ p.en ≤ 9223372036854775807) ∧ ∀ (j : Nat) (v : Value), p.cells[j]? = some v → w.cell? ((a.add (i * 3)).add j) = some v := by
      intro i hi
      obtain ⟨cs', h1, h2⟩ := hel i (by omega)
      rw [show Try.prog.cellsOf 25 = 3 by kernel_rfl] at h1
      have hw0 := fun y hy => hw y (by
        simp only [DataW.weights, Try.underlying22]
        exact List.mem_cons_of_mem _ (List.mem_append_left _ (weights_all_mem (List.mem_map.2 ⟨i, List.mem_range.2 hi, rfl⟩) y hy)))
      obtain ⟨m0, z0, f0, -⟩ := field_trod Try.underlying25 h2 hw0 0 _ rfl
      obtain ⟨m1, z1, f1, -⟩ := field_trod Try.underlying25 h2 hw0 1 _ rfl
      obtain ⟨m2, z2, f2, -⟩ := field_trod Try.underlying25 h2 hw0 2 _ rfl
      obtain ⟨k, e0, -, -⟩ := DataW.trod_string Try.underlying9 f0
      obtain ⟨s, e1, -, -⟩ := DataW.trod_string Try.underlying9 f1
      obtain ⟨n2, e2, -, hn⟩ := DataW.trod_int Try.underlying3 f2
      have c0 : cs'[0]? = _ := drop_one e0
      have c1 : cs'[1]? = _ := drop_one e1
      have c2 : cs'[2]? = _ := drop_one e2
      obtain ⟨-, hcl, hcc⟩ := World.cells?_some h1
      refine ⟨⟨k.data.toList, s.data.toList, n2⟩, i64_in hn, fun j v hv => ?_⟩
      have hj : j < 3 := (List.getElem?_eq_some_iff.1 hv).1
      refine (hcc j hj).trans ?_
      match j, hv with
      | 0, hv => exact c0.trans (by simpa [SRec.cells] using hv)
      | 1, hv => exact c1.trans (by simpa [SRec.cells] using hv)
      | 2, hv => exact c2.trans hv
    refine ⟨(List.range n0).attach.map fun i => Classical.choose (each i.1 (List.mem_range.1 i.2)), some a, m, by simp, by simp; omega, ⟨by omega, by simp; omega⟩, by simp, ?_, ?_⟩
    · intro x hx
      obtain ⟨i, -, rfl⟩ := List.mem_map.1 hx
      exact (Classical.choose_spec (each i.1 (List.mem_range.1 i.2))).1
    · intro ad e i hi j v hv
      cases e
      have hi' : i < n0 := by simpa using hi
      simp only [List.getElem_map, List.getElem_attach, List.getElem_range] at hv
      exact (Classical.choose_spec (each i hi')).2 j v hv
end
end Go.Proofs.Ytcmkcegnfddccaa
