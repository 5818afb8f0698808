import Derived.Test.YtjkjiabfhhnngaaWheelM
import Derived.Test.YtjkjiabfhhnngaaNum
/-! WheelOnce, as it is thought of. -/
namespace Sg
set_option linter.unusedSimpArgs false
set_option linter.unusedVariables false
open Go Go.RowKit

/-- all that are put lie before tick 291 -/
structure Wo (i : Nat) (m : Wm) : Prop where
  t : m.time = 0
  r : ∀ p ∈ m.ths, 1 ≤ p.2 ∧ p.2 ≤ 290
  l : m.ths.length ≤ i
theorem Wo.put {i : Nat} {m : Wm} (h : Wo i m) (n a : Int) (h1 : 1 ≤ a) (h2 : a ≤ 290) : Wo (i + 1) (m.put n a).1 := by
  unfold Wm.put
  rw [if_neg (by rw [h.t]; unfold top48; omega)]
  refine ⟨h.t, fun p hp => ?_, ?_⟩
  · rcases mem_insD.1 hp with rfl | hp
    · simp only; omega
    · exact h.r p (mem_dropD.1 hp).1
  · have h3 := h.l
    show (insD (n, a.toNat) (dropD n m.ths)).length ≤ _
    rw [(insD_perm (n, a.toNat) (dropD n m.ths)).length_eq]
    have := List.length_filter_le (fun p : Int × Nat => decide (p.1 ≠ n)) m.ths
    unfold dropD
    rw [List.length_cons]
    omega
theorem tw_mem {α : Type} (P : α → Bool) : ∀ (l : List α) {x : α}, x ∈ l.takeWhile P → P x = true
  | [], x, h => by cases h
  | y :: l, x, h => by
    rw [List.takeWhile_cons] at h
    split at h
    · next hy =>
      rcases List.mem_cons.1 h with rfl | h
      · exact hy
      · exact tw_mem P l h
    · cases h
theorem go_once (t : Nat) (l : List (Int × Nat)) (ho : l.Pairwise (fun p q => dueLt p q = true)) (hl : ∀ p ∈ l, t < p.2) (ht : t ≤ 1000) :
    ∃ c ≤ l.length, Wm.go { time := t, ths := l } 1 = ({ time := t + 1, ths := l.drop c }, l.take c, 0) ∧ (∀ p ∈ l.take c, p.2 = t + 1) ∧ ∀ p ∈ l.drop c, t + 1 < p.2 := by
  have e : Wm.go { time := t, ths := l } 1 = ({ time := t + 1, ths := l.dropWhile (fun p => decide (p.2 ≤ t + 1)) }, l.takeWhile (fun p => decide (p.2 ≤ t + 1)), 0) := by
    unfold Wm.go
    rw [if_neg (by unfold top48; simp only; omega)]
    rfl
  have h1 := List.takeWhile_append_dropWhile (p := fun p : Int × Nat => decide (p.2 ≤ t + 1)) (l := l)
  have h2 : l.take (l.takeWhile (fun p => decide (p.2 ≤ t + 1))).length = l.takeWhile (fun p => decide (p.2 ≤ t + 1)) := by
    conv => lhs; arg 2; rw [← h1]
    rw [List.take_left]
  have h3 : l.drop (l.takeWhile (fun p => decide (p.2 ≤ t + 1))).length = l.dropWhile (fun p => decide (p.2 ≤ t + 1)) := by
    conv => lhs; arg 2; rw [← h1]
    rw [List.drop_left]
  refine ⟨(l.takeWhile (fun p => decide (p.2 ≤ t + 1))).length, ?_, by rw [e, h2, h3], ?_, ?_⟩
  · exact (List.takeWhile_sublist _).length_le
  · rw [h2]
    intro p hp
    have h4 := hl p ((List.takeWhile_sublist _).subset hp)
    have h5 := tw_mem _ l hp
    have h6 : p.2 ≤ t + 1 := by simpa using h5
    omega
  · rw [h3]
    intro p hp
    have hs := List.dropWhile_sublist (fun p : Int × Nat => decide (p.2 ≤ t + 1)) (l := l)
    cases hd : l.dropWhile (fun p => decide (p.2 ≤ t + 1)) with
    | nil => rw [hd] at hp; cases hp
    | cons q r =>
      have hq : ¬ q.2 ≤ t + 1 := by
        have := List.head?_dropWhile_not (fun p : Int × Nat => decide (p.2 ≤ t + 1)) l
        rw [hd] at this
        simpa using this
      have ho' := ho.sublist hs
      rw [hd] at hp ho'
      rcases List.mem_cons.1 hp with rfl | hp
      · omega
      · have := (List.pairwise_cons.1 ho').1 p hp
        rw [dueLt_iff] at this
        omega
theorem nd_at {L : List (Int × Nat)} (h : (L.map (·.1)).Nodup) {i j : Nat} (hi : i < L.length) (hj : j < L.length) (hne : i < j) : L[i].1 ≠ L[j].1 := by
  have := (List.pairwise_iff_getElem.1 h) i j (by simpa using hi) (by simpa using hj) hne
  simpa using this
theorem i64_wf {a : Int} (h1 : -9223372036854775808 ≤ a) (h2 : a ≤ 9223372036854775807) : (Lit.int .i64 a).wf = true := by
  have e1 : (IntKind.i64.min : Int) = -9223372036854775808 := rfl
  have e2 : (IntKind.i64.max : Int) = 9223372036854775807 := rfl
  simp only [Lit.wf, Bool.and_eq_true, decide_eq_true_eq, e1, e2]
  exact ⟨h1, h2⟩
/-- the tick of an act, as WheelOnce puts it -/
theorem tick_once (x : Int) : ∃ a : Int, 1 ≤ a ∧ a ≤ 290 ∧ IntKind.i64.wrap (IntKind.i64.wrap ((IntKind.u64.wrap x).tmod 290) + 1) = a := by
  rw [u64_wrap]
  have h0 : 0 ≤ x % 18446744073709551616 := Int.emod_nonneg _ (by decide)
  rw [Int.tmod_eq_emod_of_nonneg h0]
  generalize x % 18446744073709551616 = y at h0 ⊢
  have h1 : 0 ≤ y % 290 := Int.emod_nonneg _ (by decide)
  have h2 : y % 290 < 290 := Int.emod_lt_of_pos _ (by decide)
  rw [i64_wrap (n := y % 290) (by omega) (by omega), i64_wrap (by omega) (by omega)]
  exact ⟨_, by omega, by omega, rfl⟩
end Sg
