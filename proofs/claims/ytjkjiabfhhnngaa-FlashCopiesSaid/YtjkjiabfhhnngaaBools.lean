import Derived.Test.YtjkjiabfhhnngaaOpenF
/-! Truths that came in. -/
namespace Sg
open Go Go.RowKit Go.ChangeShapes Go.WideShapes Go.ChangeAt Go.Deep

/-- A slice shows these truths. -/
def Bools (w : World) (v : Value) (l : List Bool) : Prop :=
  ∃ ao cap, v = .slice ao l.length cap ∧ l.length ≤ cap ∧ (cap ≤ 9223372036854775807 ∧ l.length ≤ 140737488355328) ∧ (ao = none → l = []) ∧
    ∀ ad, ao = some ad → ∀ i (h : i < l.length), w.cell? (ad.add i) = some (.bool l[i])
theorem Bools.keep {S : List Nat} {w w' : World} {v : Value} {l : List Bool} (h : Bools w v l) (k : Keep S w w') (hv : ∀ b, v.ownBlock = some b → b ∉ S) : Bools w' v l := by
  obtain ⟨ao, cap, rfl, h1, h2, h3, h4⟩ := h
  refine ⟨ao, cap, rfl, h1, h2, h3, fun ad e i hi => k.cell ?_ (h4 ad e i hi)⟩
  subst e
  have := hv ad.block rfl
  have e : (ad.add i).block = ad.block := by unfold Addr.add; split <;> rfl
  rw [e]; exact this
theorem Bools.form {w : World} {v : Value} {l : List Bool} (h : Bools w v l) : ∃ ao cap, v = .slice ao l.length cap ∧ l.length ≤ cap ∧ l.length ≤ 140737488355328 ∧ cap ≤ 9223372036854775807 := by
  obtain ⟨ao, cap, rfl, h1, h2, _⟩ := h
  exact ⟨ao, cap, rfl, h1, h2.2, h2.1⟩
theorem Bools.spot {w : World} {ao : Option Addr} {n cap : Nat} {l : List Bool} (h : Bools w (.slice ao n cap) l) (hl : 0 < l.length) :
    ∃ b o, ao = some ⟨b, o, none⟩ ∧ b < w.heap.size ∧ ∀ i (h : i < l.length), w.cell? ⟨b, o + i, none⟩ = some (.bool l[i]) := by
  obtain ⟨ao', cap', e, h1, h2, h3, h4⟩ := h
  cases e
  cases ao with
  | none => rw [h3 rfl] at hl; simp at hl
  | some ad =>
    have h0 := h4 ad rfl 0 hl
    rw [show ad.add 0 = ad by simp [Addr.add]] at h0
    have hs : ad.spot = none := by
      cases hsp : ad.spot with
      | none => rfl
      | some x =>
        unfold World.cell? at h0
        split at h0
        · simp [hsp] at h0
        · cases h0
    obtain ⟨b, o, sp⟩ := ad
    simp only at hs
    subst hs
    refine ⟨b, o, rfl, World.block_lt_of_cell? w _ h0, fun i hi => ?_⟩
    have := h4 _ rfl i hi
    rwa [Addr.add_lit] at this

variable {H : Type} {enc : TypeId × Value → H} {P : Program} {w : World}
theorem bools_of {t e : TypeId} {v : Value} {d : DataW H} {ps : List MemPlace} (ht : P.underlying t = some (.slice e)) (he : P.underlying e = some .bool) (hc : P.cellsOf e = 1) (hb : P.bytesOf e = 1)
    (hv : ∃ a n c, v = .slice a n c) (h : DataW.Trod enc P w 0 (fun _ => true) true t v d ps) (hw : ∀ x ∈ d.weights P t, x ≤ reachBytes) : ∃ l : List Bool, Bools w v l := by
  obtain ⟨a0, n, c, rfl⟩ := hv
  obtain ⟨fuel, hf⟩ := h
  rcases open_slice ht hf with ⟨hcs0, _⟩ | ⟨a, len, cap, m, n', D, Pl, hcs0, _, hl, hm, hm0, hx, hel⟩
  · simp [Value.cells] at hcs0
    obtain ⟨rfl, rfl, rfl⟩ := hcs0
    exact ⟨[], none, 0, rfl, by simp, ⟨by decide, by decide⟩, fun _ => rfl, fun _ h => by cases h⟩
  · simp [Value.cells] at hcs0
    obtain ⟨rfl, rfl, rfl⟩ := hcs0
    simp at hm0
    subst hm0
    have hd : d = .slice ((List.range n).map D) ((List.range (m - n)).map fun j => D (n + j)) := by
      have := congrArg Prod.fst hx; simpa using this
    subst hd
    have hsz := hw _ (by simp only [DataW.weights, ht]; exact List.mem_cons_self)
    rw [hb] at hsz
    simp [reachBytes] at hsz
    have each : ∀ i, i < n → ∃ p : Bool, w.cell? (a.add i) = some (.bool p) := by
      intro i hi
      obtain ⟨cs', h1, h2⟩ := hel i (by omega)
      rw [hc, Nat.mul_one] at h1
      obtain ⟨u, rfl, hu⟩ := cells_one h1
      obtain ⟨p, e1, -⟩ := DataW.trod_bool he h2
      injection e1 with e1
      exact ⟨p, by rw [hu, e1]⟩
    refine ⟨(List.range n).attach.map fun i => Classical.choose (each i.1 (List.mem_range.1 i.2)), some a, m, by simp, by simp; omega, ⟨by omega, by simp; omega⟩, by simp, ?_⟩
    intro ad e i hi
    cases e
    have hi' : i < n := by simpa using hi
    simp only [List.getElem_map, List.getElem_attach, List.getElem_range]
    exact Classical.choose_spec (each i hi')
end Sg
