import Derived.Test.YtijljdcpajjhhaaHeadOpen
import Derived.Test.YtijljdcpajjhhaaFields
/-! Saves that came in, opened. -/
namespace Go.Proofs.Ytijljdcpajjhhaa
open Go.ChangeShapes Go.WideShapes Go.ChangeAt Go.Deep Go.RowKit Sg
set_option linter.unusedSimpArgs false
set_option linter.unusedVariables false

/-- a head that is saved, and how much of that a crash lets be done -/
structure Sv where
  h : Hd
  fate : Int
def Sv.cells (s : Sv) : List Value := s.h.cells.toList ++ [.int .i64 s.fate]
structure Sv.Ok (s : Sv) : Prop where
  h : s.h.In
  f1 : -9223372036854775808 ≤ s.fate
  f2 : s.fate ≤ 9223372036854775807
def Svs (w : World) (v : Value) (l : List Sv) : Prop :=
  ∃ ao cap, v = .slice ao l.length cap ∧ l.length ≤ cap ∧ (cap ≤ 9223372036854775807 ∧ l.length ≤ 140737488355328) ∧ (ao = none → l = []) ∧ (∀ x ∈ l, x.Ok) ∧
    ∀ ad, ao = some ad → ∀ i (h : i < l.length) j v, l[i].cells[j]? = some v → w.cell? ((ad.add (i * 16)).add j) = some v
theorem Svs.form {w : World} {v : Value} {l : List Sv} (h : Svs w v l) : ∃ ao cap, v = .slice ao l.length cap ∧ l.length ≤ cap ∧ l.length ≤ 140737488355328 ∧ cap ≤ 9223372036854775807 := by
  obtain ⟨ao, cap, rfl, h1, h2, _⟩ := h
  exact ⟨ao, cap, rfl, h1, h2.2, h2.1⟩
theorem Svs.each {w : World} {v : Value} {l : List Sv} (h : Svs w v l) {i : Nat} (hi : i < l.length) : l[i].Ok := by
  obtain ⟨ao, cap, rfl, h1, h2, h3, h4, h5⟩ := h
  exact h4 _ (List.getElem_mem hi)
theorem Svs.spot {w : World} {ao : Option Addr} {n cap : Nat} {l : List Sv} (h : Svs w (.slice ao n cap) l) {i : Nat} (hi : i < l.length) :
    ∃ b o, ao = some ⟨b, o, none⟩ ∧ ∀ w', Keep [] w w' → ∀ j v, l[i].cells[j]? = some v → w'.cell? ⟨b, o + i * 16 + j, none⟩ = some v := by
  obtain ⟨ao', cap', e, h1, h2, h3, h5, h4⟩ := h
  cases e
  cases ao with
  | none => rw [h3 rfl] at hi; simp at hi
  | some ad =>
    have h0 := h4 ad rfl 0 (by omega) 0 _ rfl
    rw [Nat.zero_mul, show (ad.add 0).add 0 = ad by simp [Addr.add]] at h0
    have hs : ad.spot = none := by
      cases hsp : ad.spot with
      | none => rfl
      | some x =>
        unfold World.cell? at h0
        split at h0
        · simp [hsp] at h0
        · cases h0
    obtain ⟨b, o, sp⟩ := ad
    simp only at hs
    subst hs
    refine ⟨b, o, rfl, fun w' hk j v hv => ?_⟩
    have g := hk.cell (by simp) (h4 _ rfl i hi j v hv)
    simp only [Addr.add_lit] at g
    exact g

section
variable {H : Type} {enc : TypeId × Value → H} {w : World}
set_option maxRecDepth 100000 in
theorem save_trod {fuel : Nat} {cs : List Value} {x : DataW H × List MemPlace} (h : DataW.trod enc Try.prog w 0 (fun _ => true) true fuel 140 cs = some x) :
    ∃ a : Sv, a.Ok ∧ ∀ (j : Nat) (v : Value), a.cells[j]? = some v → cs[j]? = some v := by
  obtain ⟨np, y, hp⟩ := row_field Try.underlying140 h 0 _ 0 15 rfl (by kernel_rfl) rfl
  rw [List.drop_zero] at hp
  obtain ⟨a, ha, hc⟩ := head_cells hp
  obtain ⟨n, e1, w1⟩ := cell_field Try.underlying140 h 1 _ .i64 15 rfl Try.underlying3 (by kernel_rfl) rfl
  refine ⟨⟨a, n⟩, ⟨ha, (i64_in w1).1, (i64_in w1).2⟩, fun j v hv => ?_⟩
  have hl : a.cells.toList.length = 15 := rfl
  unfold Sv.cells at hv
  by_cases hj : j < 15
  · rw [List.getElem?_append_left (by rw [hl]; exact hj)] at hv
    have h1 := hc j hj
    rw [List.getElem?_take, if_pos hj] at h1
    rw [h1, ← Array.getElem?_toList]
    exact hv
  · rw [List.getElem?_append_right (by rw [hl]; omega), hl] at hv
    have hj2 : j = 15 := by
      have := (List.getElem?_eq_some_iff.1 hv).1
      simp at this
      omega
    subst hj2
    exact e1.trans hv

set_option maxRecDepth 100000 in
theorem saves_trod {fuel : Nat} {cs : List Value} {x : DataW H × List MemPlace} (h : DataW.trod enc Try.prog w 0 (fun _ => true) true fuel 138 cs = some x) (hw : ∀ y ∈ x.1.weights Try.prog 138, y ≤ reachBytes) :
    ∃ (v : Value) (l : List Sv), cs = [v] ∧ Svs w v l := by
  rcases open_slice Try.underlying138 h with ⟨rfl, _⟩ | ⟨a, n, c, m, n', D, Pl, rfl, _, hl, hm, hm0, hx, hel⟩
  · exact ⟨_, [], rfl, none, 0, rfl, by simp, ⟨by decide, by decide⟩, fun _ => rfl, by simp, fun _ h => by cases h⟩
  · simp at hm0
    subst hm0
    subst hx
    have hsz := hw _ (by simp only [DataW.weights, Try.underlying138]; exact List.mem_cons_self)
    rw [show Try.prog.bytesOf 140 = 128 by kernel_rfl] at hsz
    simp [reachBytes] at hsz
    simp [maxLen] at hm
    have each : ∀ i, i < n → ∃ p : Sv, p.Ok ∧ ∀ (j : Nat) (v : Value), p.cells[j]? = some v → w.cell? ((a.add (i * 16)).add j) = some v := by
      intro i hi
      obtain ⟨cs', h1, h2⟩ := hel i (by omega)
      rw [show Try.prog.cellsOf 140 = 16 by kernel_rfl] at h1
      obtain ⟨p, hp, hc⟩ := save_trod h2
      obtain ⟨-, hcl, hcc⟩ := World.cells?_some h1
      refine ⟨p, hp, fun j v hv => ?_⟩
      have hj : j < 16 := (List.getElem?_eq_some_iff.1 hv).1
      exact (hcc j hj).trans (hc j v hv)
    refine ⟨_, (List.range n).attach.map fun i => Classical.choose (each i.1 (List.mem_range.1 i.2)), rfl, some a, m, by simp, by simp; omega, ⟨by omega, by simp; omega⟩, by simp, ?_, ?_⟩
    · intro x hx
      obtain ⟨i, -, rfl⟩ := List.mem_map.1 hx
      exact (Classical.choose_spec (each i.1 (List.mem_range.1 i.2))).1
    · intro ad e i hi j v hv
      cases e
      have hi' : i < n := by simpa using hi
      simp only [List.getElem_map, List.getElem_attach, List.getElem_range] at hv
      exact (Classical.choose_spec (each i hi')).2 j v hv
theorem saves_of {v : Value} {d : DataW H} {ps : List MemPlace} (hv : ∃ a n c, v = .slice a n c) (h : DataW.Trod enc Try.prog w 0 (fun _ => true) true 138 v d ps) (hw : ∀ y ∈ d.weights Try.prog 138, y ≤ reachBytes) : ∃ l : List Sv, Svs w v l := by
  obtain ⟨a0, n, c, rfl⟩ := hv
  obtain ⟨fuel, hf⟩ := h
  obtain ⟨v', l, e, h⟩ := saves_trod hf hw
  simp [Value.cells] at e
  subst e
  exact ⟨l, h⟩
end
end Go.Proofs.Ytijljdcpajjhhaa
