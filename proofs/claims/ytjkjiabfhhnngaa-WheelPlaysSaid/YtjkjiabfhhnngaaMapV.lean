import Derived.Test.YtjkjiabfhhnngaaBase
import Derived.Maps.OwnSet
import Derived.Maps.AppendAt
/-! A map keyed by numbers whose elements are slices (or whatever values): said by a function. -/
namespace Sg
open Go Go.RowKit Go.MapKept
open Go.Maps (Keyed int_keyed keyOf_int_mk)

/-- an element stands for itself -/
def tokR (v : Value) : Option (DataW Value × List MemPlace) := some (.held v, [])
theorem tokR_inv {v : Value} {d : DataW Value} {ps : List MemPlace} (h : tokR v = some (d, ps)) : d = .held v := by
  unfold tokR at h
  cases h
  rfl

/-- Block B is a map of numbers below S that holds f. -/
def MapV (P : Program) (K : TypeId) (w : World) (B S : Nat) (f : Nat → Option Value) : Prop :=
  ∃ (D : DataW Value) (n : Nat), w.ownsMap P K tokR B n D ∧ (∀ (a : Nat) z, D.atKey (.int .i64 (a : Int)) z = match f a with | some v => .held v | none => z) ∧ (∀ key, Maps.has D key = true → ∃ a : Nat, a < S ∧ key = .int .i64 (a : Int))

/-- among so many numbers there are no more that differ -/
theorem pigeon : ∀ (S : Nat) (l : List Nat), l.Pairwise (· ≠ ·) → (∀ x ∈ l, x < S) → l.length ≤ S
  | 0, l, _, h => by
    cases l with
    | nil => simp
    | cons x t => exact absurd (h x (by simp)) (by omega)
  | S + 1, l, hp, h => by
    have h1 := pigeon S (l.filter (fun x => decide (x ≠ S))) (hp.filter _) (fun x hx => by
      obtain ⟨h1, h2⟩ := List.mem_filter.1 hx
      have := h x h1
      have := of_decide_eq_true h2
      omega)
    have h2 : l.length ≤ (l.filter (fun x => decide (x ≠ S))).length + 1 := by
      clear h h1
      induction l with
      | nil => simp
      | cons x t ih =>
        obtain ⟨ha, hb⟩ := List.pairwise_cons.1 hp
        by_cases hx : x = S
        · subst hx
          have : t.filter (fun y => decide (y ≠ x)) = t := List.filter_eq_self.2 (fun y hy => decide_eq_true (fun e => ha y hy e.symm))
          rw [List.filter_cons_of_neg (by simp), this]
          simp
        · rw [List.filter_cons_of_pos (by simpa using hx)]
          have := ih hb
          simp only [List.length_cons]
          omega
    omega

section
variable {P : Program} {K : TypeId} {w : World} {B S : Nat} {f : Nat → Option Value}

theorem MapV.lt (h : MapV P K w B S f) : B < w.heap.size := by
  obtain ⟨D, n, h1, -⟩ := h
  exact h1.lt
theorem MapV.isMapBlock (h : MapV P K w B S f) : ∃ es clock, w.heap[B]? = some (.map es clock) := by
  obtain ⟨D, n, ⟨es, clock, hb, -⟩, -⟩ := h
  exact ⟨es, clock, hb⟩
theorem MapV.keep {w' : World} {T : List Nat} (h : MapV P K w B S f) (k : Keep T w w') (hB : B ∉ T) : MapV P K w' B S f := by
  obtain ⟨D, n, ⟨es, clock, hb, r⟩, h2⟩ := h
  exact ⟨D, n, ⟨es, clock, k.blk hB hb, r⟩, h2⟩
theorem MapV.made (w : World) (P : Program) (K : TypeId) (S : Nat) : MapV P K (w.alloc (.map #[] 0)) w.heap.size S (fun _ => none) :=
  ⟨_, 0, World.ownsMap_made w P K tokR, fun _ _ => rfl, fun key h => by simp [Maps.has] at h⟩

/-- it has no more entries than there are numbers -/
theorem MapV.few (hK : P.underlying K = some (.int .i64)) (h : MapV P K w B S f) : ∃ D : DataW Value, w.ownsMap P K tokR B S D ∧ (∀ (a : Nat) z, D.atKey (.int .i64 (a : Int)) z = match f a with | some v => .held v | none => z) ∧ (∀ key, Maps.has D key = true → ∃ a : Nat, a < S ∧ key = .int .i64 (a : Int)) := by
  obtain ⟨D, n, h1, h2, h3⟩ := h
  refine ⟨D, ?_, h2, h3⟩
  have ht := h1.tidy (int_keyed hK)
  obtain ⟨es, clock, hb, F, hs, hD⟩ := h1
  have hsz : es.size = ((es.toList.map (WideElems.rg P K tokR)).foldr DataW.insert []).length := by rw [length_sorted]; simp
  refine ⟨es, clock, hb, F, ?_, hD⟩
  obtain ⟨l, hl, hp⟩ := ht
  rw [hl] at hD h3
  injection hD with hD
  rw [← hD] at hsz
  have hk : ∀ p ∈ l, ∃ a : Nat, a < S ∧ p.1 = .int .i64 (a : Int) := fun p hp' => by
    refine h3 p.1 ?_
    rw [Maps.has_eq, List.any_eq_true]
    refine ⟨p, hp', ?_⟩
    have hkl : ∃ key, keyOf P K key = some p.1 := by
      rw [hD] at hp'
      have := (WideShapes.sorted_perm _).mem_iff.1 hp'
      obtain ⟨x, hx, rfl⟩ := List.mem_map.1 this
      obtain ⟨y, hy⟩ := F.reads x hx
      exact ⟨x.key, WideElems.rd_key hy ▸ by rw [WideElems.rg_of hy]⟩
    obtain ⟨key, hkey⟩ := hkl
    exact WideAt.sameKey_self ((int_keyed hK).key hkey)
  let num : Lit × DataW Value → Nat := fun p => match p.1 with | .int _ a => a.toNat | _ => 0
  have hnum : ∀ p ∈ l, num p < S ∧ p.1 = .int .i64 (num p : Int) := fun p hp' => by
    obtain ⟨a, ha, he⟩ := hk p hp'
    have : num p = a := by show (match p.1 with | .int _ a => a.toNat | _ => 0) = a; rw [he]; simp
    rw [this]
    exact ⟨ha, he⟩
  have := pigeon S (l.map num) (by
      rw [List.pairwise_map]
      refine hp.imp_of_mem (fun ha hb hne e => hne ?_)
      rw [(hnum _ ha).2, (hnum _ hb).2, e]) (by
      intro x hx
      obtain ⟨p, hp', rfl⟩ := List.mem_map.1 hx
      exact (hnum p hp').1)
  rw [List.length_map] at this
  omega

theorem wf_small {a : Nat} (h : a ≤ 1000000000) : (Lit.int .i64 (a : Int)).wf = true := by
  exact WalkArith.wf_i64 (by omega)

theorem MapV.look {t e : TypeId} (h : MapV P K w B S f) (hK : P.underlying K = some (.int .i64)) (ht : P.underlying t = some (.map K e)) {z : Value} (hz : (zeroValue e).run P w = .ok z w) (a : Nat) (ha : a ≤ 1000000000) :
    (Instr.lookup t (.map (some B)) (.int .i64 (a : Int)) false).run P w = .ok ((f a).getD z) w := by
  obtain ⟨D, n, ⟨es, clock, hb, F, -, rfl⟩, h2, -⟩ := h
  have h2 := h2 a
  rcases Maps.fit_look false (int_keyed hK) ht hz hb F (keyOf_int_mk hK (wf_small ha)) with ⟨hrun, _, hat⟩ | ⟨e0, y, _, _, hrun, hRv, hat, _⟩
  · have : f a = none := by
      cases hf : f a with
      | none => rfl
      | some v =>
        have h3 := h2 .nil
        rw [hat, hf] at h3
        cases h3
    rw [this]
    exact hrun
  · have := tokR_inv hRv
    have h3 := h2 .nil
    rw [hat, this] at h3
    cases hf : f a with
    | none => rw [hf] at h3; cases h3
    | some v =>
      rw [hf] at h3
      cases h3
      exact hrun
theorem MapV.look_ok {t e : TypeId} (h : MapV P K w B S f) (hK : P.underlying K = some (.int .i64)) (ht : P.underlying t = some (.map K e)) {z : Value} (hz : (zeroValue e).run P w = .ok z w) (a : Nat) (ha : a ≤ 1000000000) :
    (Instr.lookup t (.map (some B)) (.int .i64 (a : Int)) true).run P w = .ok (.tuple #[(f a).getD z, .bool (f a).isSome]) w := by
  obtain ⟨D, n, ⟨es, clock, hb, F, -, rfl⟩, h2, -⟩ := h
  have h2 := h2 a
  rcases Maps.fit_look true (int_keyed hK) ht hz hb F (keyOf_int_mk hK (wf_small ha)) with ⟨hrun, _, hat⟩ | ⟨e0, y, _, _, hrun, hRv, hat, _⟩
  · have : f a = none := by
      cases hf : f a with
      | none => rfl
      | some v =>
        have h3 := h2 .nil
        rw [hat, hf] at h3
        cases h3
    rw [this]
    exact hrun
  · have := tokR_inv hRv
    have h3 := h2 .nil
    rw [hat, this] at h3
    cases hf : f a with
    | none => rw [hf] at h3; cases h3
    | some v =>
      rw [hf] at h3
      cases h3
      exact hrun

def updF (f : Nat → Option Value) (a : Nat) (v : Value) : Nat → Option Value := fun i => if i = a then some v else f i
theorem MapV.store {t e : TypeId} (h : MapV P K w B S f) (hK : P.underlying K = some (.int .i64)) (ht : P.underlying t = some (.map K e)) (a : Nat) (ha : a < S) (hS : S ≤ 1000000000) (v : Value) :
    ∃ w', (Instr.mapUpdate t (.map (some B)) (.int .i64 (a : Int)) v).run P w = .ok () w' ∧ MapV P K w' B S (updF f a v) ∧ Keep [B] w w' ∧ w'.heap.size = w.heap.size := by
  obtain ⟨D, h1, h2, h3⟩ := h.few hK
  have hwf := wf_small (show a ≤ 1000000000 by omega)
  have hkey := keyOf_int_mk hK hwf
  have hisk := (int_keyed hK).key hkey
  obtain ⟨w', hrun, hown, hturn⟩ := h1.store (int_keyed hK) ht (by unfold maxLen; omega) hkey (show tokR v = some (.held v, []) from rfl)
  refine ⟨w', hrun, ⟨_, _, hown, fun b z => ?_, fun key hk => ?_⟩, ?_, ?_⟩
  · by_cases hb : b = a
    · subst hb
      rw [Maps.atKey_put_same h1.isMap hisk]
      simp [updF]
    · rw [Maps.atKey_put_other (fun e => hb (by injection e with _ e; exact Int.ofNat_inj.1 e)), h2 b z]
      simp [updF, hb]
  · by_cases hb : key = .int .i64 (a : Int)
    · exact ⟨a, ha, hb⟩
    · rw [Maps.has_put_other hb] at hk
      exact h3 key hk
  · have := hturn.grown
    exact (Keep.grown this).mono (by simp)
  · obtain ⟨es, clock, es', clock', hb, rfl⟩ := hturn
    simp [ChangeMaps.setBlock]
end

end Sg
