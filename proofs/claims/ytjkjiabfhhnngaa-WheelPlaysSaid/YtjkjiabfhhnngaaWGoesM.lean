import Derived.Test.YtjkjiabfhhnngaaWOnceM
/-! WheelGoes, as it is thought of. -/
namespace Sg
set_option linter.unusedSimpArgs false
set_option linter.unusedVariables false
open Go Go.RowKit

theorem tw_split {α : Type} (P Q : α → Bool) (h : ∀ x, P x = true → Q x = true) : ∀ l : List α, l.takeWhile P ++ (l.dropWhile P).takeWhile Q = l.takeWhile Q ∧ (l.dropWhile P).dropWhile Q = l.dropWhile Q
  | [] => by simp
  | x :: l => by
    obtain ⟨e1, e2⟩ := tw_split P Q h l
    by_cases hp : P x = true
    · have hq := h x hp
      simp [List.takeWhile_cons, List.dropWhile_cons, hp, hq, e1, e2]
    · simp [List.takeWhile_cons, List.dropWhile_cons, hp]
/-- going on by a, by b, or by both -/
theorem go_add (m : Wm) (h0 : m.time = 0) (a b : Nat) (ha : a < 4294967296) (hb : b < 4294967296) :
    ∃ x y, m.go (a : Int) = ({ time := a, ths := (m.go (a : Int)).1.ths }, x, 0) ∧ (m.go (a : Int)).1.go (b : Int) = ((m.go ((a + b : Nat) : Int)).1, y, 0) ∧ m.go ((a + b : Nat) : Int) = ((m.go ((a + b : Nat) : Int)).1, x ++ y, 0) ∧ x ++ y = m.ths.takeWhile (fun p => decide (p.2 ≤ a + b)) := by
  have g1 : m.go (a : Int) = ({ time := a, ths := m.ths.dropWhile (fun p => decide (p.2 ≤ a)) }, m.ths.takeWhile (fun p => decide (p.2 ≤ a)), 0) := by
    unfold Wm.go
    rw [h0, if_neg (by unfold top48; omega)]
    simp
  have g2 : m.go ((a + b : Nat) : Int) = ({ time := a + b, ths := m.ths.dropWhile (fun p => decide (p.2 ≤ a + b)) }, m.ths.takeWhile (fun p => decide (p.2 ≤ a + b)), 0) := by
    unfold Wm.go
    rw [h0, if_neg (by unfold top48; omega), Int.toNat_natCast, Nat.zero_add]
  obtain ⟨e1, e2⟩ := tw_split (fun p : Int × Nat => decide (p.2 ≤ a)) (fun p : Int × Nat => decide (p.2 ≤ a + b)) (fun p hp => by simp at hp ⊢; omega) m.ths
  have g3 : (m.go (a : Int)).1.go (b : Int) = ({ time := a + b, ths := m.ths.dropWhile (fun p => decide (p.2 ≤ a + b)) }, (m.ths.dropWhile (fun p => decide (p.2 ≤ a))).takeWhile (fun p => decide (p.2 ≤ a + b)), 0) := by
    rw [g1]
    unfold Wm.go
    rw [if_neg (by unfold top48; simp only; omega)]
    simp only [Int.toNat_natCast]
    rw [e2]
  refine ⟨_, _, ?_, ?_, ?_, e1⟩
  · rw [g1]
  · rw [g3, g2]
  · rw [g2, e1]
def Rising (l : List (Int × Nat)) (e : Nat) : Prop := ∀ i (hi : i < l.length), l[i].2 ≤ e ∧ ∀ (h1 : 0 < i), (l[i - 1]'(by omega)).2 ≤ l[i].2
theorem tw_ord {m : Wm} (h : m.Wf) (e : Nat) : Rising (m.ths.takeWhile (fun p => decide (p.2 ≤ e))) e := by
  intro i hi
  constructor
  · have := tw_mem _ m.ths (List.getElem_mem hi)
    simpa using this
  · intro h1
    have ho := h.ord.sublist (List.takeWhile_sublist (fun p : Int × Nat => decide (p.2 ≤ e)))
    have := (List.pairwise_iff_getElem.1 ho) (i - 1) i (by omega) hi (by omega)
    rw [dueLt_iff] at this
    omega
/-- only put to -/
structure Wg (i : Nat) (m : Wm) : Prop where
  t : m.time = 0
  l : m.ths.length ≤ i
theorem Wg.put {i : Nat} {m : Wm} (h : Wg i m) (n a : Int) : Wg (i + 1) (m.put n a).1 := by
  have h3 := h.l
  unfold Wm.put
  split
  · exact ⟨h.t, by simp only; omega⟩
  · refine ⟨h.t, ?_⟩
    show (insD (n, a.toNat) (dropD n m.ths)).length ≤ _
    rw [(insD_perm (n, a.toNat) (dropD n m.ths)).length_eq]
    have := List.length_filter_le (fun p : Int × Nat => decide (p.1 ≠ n)) m.ths
    unfold dropD
    rw [List.length_cons]
    omega
end Sg
