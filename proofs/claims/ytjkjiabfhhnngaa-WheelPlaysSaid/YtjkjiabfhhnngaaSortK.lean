import Derived.Test.YtjkjiabfhhnngaaParK
import Derived.Shelf.SlSortCmp.WholeK
/-! Rows of elements, and the library's sort: over any program. -/
namespace Sg
open Go Go.RowKit
set_option linter.unusedSimpArgs false
set_option linter.unusedVariables false
section
variable {α : Type} [Inhabited α] {enc : α → List Value} {k : Nat} {t : TypeId} {w w' : World} {base : Nat} {l : List α}

theorem flat_at (L : Lies enc k) (hk : 0 < k) (l : List α) (j : Nat) (hj : j < l.length * k) : (l.flatMap enc)[j]? = some ((enc l.toArray[j / k]!)[j % k]!) := by
  have hi : j / k < l.length := Nat.div_lt_of_lt_mul (by rw [Nat.mul_comm]; exact hj)
  have hm := Nat.mod_lt j hk
  have e := flatK L l (j / k) (j % k) hi hm
  rw [show j / k * k + j % k = j by rw [Nat.mul_comm]; exact Nat.div_add_mod j k] at e
  rw [e, getElem!_pos l.toArray (j / k) (by simpa using hi), List.getElem_toArray, getElem!_pos (enc l[j / k]) (j % k) (by rw [L.len]; exact hm), List.getElem?_eq_getElem]
theorem RowE.holds (L : Lies enc k) (hk : 0 < k) {g n c : Nat} (h : RowE enc k t w base (.slice (some ⟨g, 0, none⟩) n c) l) : Go.Sort.HoldsK enc k w g 0 l.toArray := by
  intro j hj
  rw [Go.Sort.size_flatK] at hj
  have hj' : j < l.length * k := by simpa using hj
  have h1 := World.ownsRow.cells (g := g) h rfl j _ (flat_at L hk l j hj')
  rw [Addr.add_lit] at h1
  refine ⟨?_, ?_⟩
  · rw [h1, Go.Sort.get_flatK _ _ _ _ hj]
    rfl
  · obtain ⟨-, -, cs, hg⟩ := h.lt g rfl
    exact frozen_of_row _ _ _ _ _ hg
theorem RowE.sorted (L : Lies enc k) (hk : 0 < k) {g n c m : Nat} {d' : Array α} {os : Array Obj} (h : RowE enc k t w base (.slice (some ⟨g, 0, none⟩) n c) l) (hd : d'.size = l.length) :
    RowE enc k t (Go.Proofs.sortWorldK enc k w g 0 m d' os) base (.slice (some ⟨g, 0, none⟩) n c) d'.toList ∧ Keep [g] w (Go.Proofs.sortWorldK enc k w g 0 m d' os) := by
  have hlen : d'.toList.length = l.length := by simpa using hd
  have hg0 := (h.lt g rfl).2.1
  have hheap : (Go.Proofs.sortWorldK enc k w g 0 m d' os).heap = (w.heap.modify g (Go.Sort.onCells (Go.Sort.putCells id 0 (Go.Sort.flatK enc k d')))) ++ os := rfl
  constructor
  · refine ⟨flatK_len L _, ?_⟩
    rcases h.2 with ⟨e, -⟩ | ⟨g', cap, cur, e, hb, hg, h1, h2, h3, h4⟩
    · cases e
    · cases e
      refine .inr ⟨g, c, Go.Sort.putCells id 0 (Go.Sort.flatK enc k d') cur, by rw [hlen], hb, ?_, by omega, h2, by simp [Go.Sort.putCells, h3], ?_⟩
      · rw [hheap, Array.getElem?_append_left (by simpa using hg0), Array.getElem?_modify, if_pos rfl, hg]
        rfl
      · refine List.ext_getElem? fun j => ?_
        by_cases hj : j < d'.toList.length * k
        · have hc : j < cur.size := by
            rw [h3]
            have : d'.toList.length * k ≤ c * k := Nat.mul_le_mul_right _ (by omega)
            omega
          rw [List.getElem?_take_of_lt hj, flat_at L hk d'.toList j hj, Array.getElem?_toList]
          unfold Go.Sort.putCells
          rw [Array.getElem?_mapIdx, Array.getElem?_eq_getElem hc, Option.map_some, if_pos (by simpa using hj), Nat.sub_zero, Go.Sort.get_flatK _ _ _ _ (by simpa using hj)]
          simp
        · rw [List.getElem?_eq_none (by rw [List.length_take]; omega), List.getElem?_eq_none (by rw [flatK_len L]; omega)]
  · refine ⟨rfl, rfl, rfl, by rw [hheap]; simp, fun b hb hn => ?_⟩
    rw [hheap, Array.getElem?_append_left (by simpa using hb), Array.getElem?_modify, if_neg (fun e => hn (by rw [e]; simp))]
end
end Sg
