import Derived.Test.YtjkjiabfhhnngaaRegLaw
/-! What a sync and a crash leave of a device. -/
namespace Go.Proofs.Ytjkjiabfhhnngaa
open Go.RowKit Sg
set_option linter.unusedSimpArgs false
set_option linter.unusedVariables false

theorem fold_get : ∀ (ls : List (Nat × List UInt8)) (f : List (List UInt8)) (j : Nat), (∀ p ∈ ls, p.1 < f.length) → (ls.foldl (fun f p => f.set p.1 p.2) f).getD j [] = (lastOf ls j).getD (f.getD j [])
  | [], f, j, _ => rfl
  | p :: ls, f, j, h => by
    have h1 := h p (by simp)
    rw [List.foldl_cons, fold_get ls _ j (fun q hq => by rw [List.length_set]; exact h q (by simp [hq]))]
    have e : lastOf (p :: ls) j = if (lastOf ls j).isSome then lastOf ls j else if p.1 = j then some p.2 else none := by
      unfold lastOf
      rw [List.reverse_cons, List.find?_append]
      cases hf : ls.reverse.find? (fun p => p.1 == j) with
      | some x => simp
      | none =>
        by_cases hj : p.1 = j
        · simp [hj]
        · simp [hj, beq_false_of_ne hj]
    rw [e]
    cases hl : lastOf ls j with
    | some x => simp
    | none =>
      by_cases hj : p.1 = j
      · subst hj
        simp [List.getD_eq_getElem?_getD, h1]
      · simp [hj, List.getD_eq_getElem?_getD, List.getElem?_set_ne hj]
theorem torn_keep (sz : Nat) (fates : List Int) (k : Nat) : ∀ (ls : List (Nat × List UInt8)) (f : List (List UInt8)) (i : Nat), (∀ p ∈ ls, p.1 ≠ k) → (torn sz fates f i ls).getD k [] = f.getD k []
  | [], _, _, _ => rfl
  | p :: ls, f, i, h => (torn_keep sz fates k ls _ (i + 1) (fun q hq => h q (by simp [hq]))).trans (by
      have := h p (by simp)
      unfold tear
      rw [List.getD_eq_getElem?_getD, List.getElem?_set_ne this, ← List.getD_eq_getElem?_getD])
/-- no sector of a leaf that no write gave -/
def Clean (m : Dev) : Prop := ∀ a, a < m.n → LeafOk (m.get a) → m.get a ∈ m.pasts (a : Int)
theorem crash_get {m : Dev} {fates : List Int} {k : Nat} (h : ∀ p ∈ m.loose, p.1 ≠ k) : (m.crash fates).get k = m.fast.getD k [] := by
  unfold Dev.get
  show (lastOf [] k).getD ((torn m.sz fates m.fast 0 m.loose).getD k []) = _
  rw [torn_keep _ _ _ _ _ _ h]
  rfl
/-- a sector of a device that crashed, and is not foul, is none or was written -/
theorem crash_past {m : Dev} {fates : List Int} (h : Clean (m.crash fates)) {k : Nat} (hk : k < m.n) (ho : LeafOk ((m.crash fates).get k)) : (m.crash fates).get k ∈ m.past.getD k [] := by
  have h1 := h k hk ho
  unfold Dev.pasts at h1
  rw [if_pos ⟨by omega, by show (k : Int) < (m.n : Int); omega⟩] at h1
  rcases List.mem_append.1 h1 with h2 | h2
  · have h3 := List.mem_reverse.1 h2
    rw [Int.toNat_natCast] at h3
    exact h3
  · rw [List.mem_singleton] at h2
    rw [h2] at ho
    exact absurd ho (zeros_no _)
theorem past_write (m : Dev) (k j : Nat) (b : List UInt8) : ∀ y ∈ (m.write k b).past.getD j [], y ∈ m.past.getD j [] ∨ (k = j ∧ y = b) := by
  intro y hy
  have e : (m.write k b).past = m.past.modify k (· ++ [b]) := rfl
  rw [e, List.getD_eq_getElem?_getD, List.getElem?_modify] at hy
  rw [List.getD_eq_getElem?_getD]
  cases hp : m.past[j]? with
  | none => rw [hp] at hy; simp at hy
  | some l =>
    rw [hp] at hy
    by_cases hkj : k = j
    · subst hkj
      simp at hy
      rcases hy with hy | hy
      · exact .inl (by simpa using hy)
      · exact .inr ⟨rfl, hy⟩
    · simp [hkj] at hy
      exact .inl (by simpa using hy)
/-- a put into a device that is up -/
theorem put_up {m : Dev} (hd : m.down = false) {k : Nat} (hk : k < m.n) {b : List UInt8} (hb : b.length = m.sz) : m.put (k : Int) b = (m.write k b, if m.act.down = true then 4 else 0) := by
  have hr : m.ready (k : Int) = 0 := by unfold Dev.ready; rw [if_neg (by rw [hd]; simp), if_pos ⟨by omega, by omega⟩]
  unfold Dev.put
  rw [if_neg (by rw [hr]; simp), if_neg (by rw [hb]; simp)]
  simp
theorem synced_get {m : Dev} (hw : m.Wf) (k : Nat) : m.synced.get k = m.get k ∧ m.synced.fast.getD k [] = m.get k := by
  have e : m.synced.fast.getD k [] = m.get k := by
    show (m.loose.foldl (fun f p => f.set p.1 p.2) m.fast).getD k [] = _
    rw [fold_get _ _ _ (fun p hp => by rw [hw.fl]; exact (hw.ls p hp).1)]
    rfl
  refine ⟨?_, e⟩
  rw [← e]
  rfl
end Go.Proofs.Ytjkjiabfhhnngaa
