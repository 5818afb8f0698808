import Derived.Test.YtjkjiabfhhnngaaBase
import Derived.Test.YtjkjiabfhhnngaaMapV
import Derived.Maps.RangeWalk
import Derived.Sort.MapsRangeIn
/-! A map keyed by whatever numbers: said by a function and the list of its keys. -/
namespace Sg
set_option linter.unusedSimpArgs false
set_option linter.unusedVariables false
open Go Go.RowKit Go.MapKept
open Go.Maps (Keyed int_keyed keyOf_int_mk)

/-- two lists in which nothing stands twice, with one content, are equally long -/
theorem nodup_len {α : Type} [DecidableEq α] {l k : List α} (hl : l.Nodup) (hk : k.Nodup) (h : ∀ x, x ∈ l ↔ x ∈ k) : l.length = k.length :=
  ((List.perm_ext_iff_of_nodup hl hk).2 h).length_eq

abbrev LitZ (a : Int) : Lit := .int .i64 a
theorem litZ_inj {a b : Int} (h : LitZ a = LitZ b) : a = b := by injection h

/-- the numbers of a datum -/
theorem sizeZ {H : Type} {D : DataW H} (ht : ∃ es, D = .map es ∧ es.Pairwise (fun p q => p.1 ≠ q.1) ∧ ∀ p ∈ es, WideAt.IsKeyLit p.1) (hi : ∀ key, Maps.has D key = true → ∃ a : Int, key = LitZ a) {ks : List Int} (hn : ks.Nodup) (hm : ∀ a, a ∈ ks ↔ Maps.has D (LitZ a) = true) : Maps.size D = ks.length := by
  obtain ⟨l, rfl, hp, hK⟩ := ht
  let num : Lit × DataW H → Int := fun p => match p.1 with | .int _ a => a | _ => 0
  have hk : ∀ p ∈ l, Maps.has (DataW.map l) p.1 = true → p.1 = LitZ (num p) := fun p hp' h => by
    obtain ⟨a, ha⟩ := hi _ h
    have : num p = a := by show (match p.1 with | .int _ a => a | _ => 0) = a; rw [ha]
    rw [this, ha]
  have hs : ∀ p ∈ l, Maps.has (DataW.map l) p.1 = true := fun p hp' => by
    rw [Maps.has_eq, List.any_eq_true]
    exact ⟨p, hp', WideAt.sameKey_self (hK p hp')⟩
  show l.length = ks.length
  rw [← List.length_map (f := num)]
  refine nodup_len ?_ hn fun x => ?_
  · rw [List.nodup_iff_pairwise_ne, List.pairwise_map]
    refine hp.imp_of_mem (fun ha hb hne e => hne ?_)
    rw [hk _ ha (hs _ ha), hk _ hb (hs _ hb), e]
  · rw [hm x, Maps.has_eq, List.any_eq_true, List.mem_map]
    constructor
    · rintro ⟨p, hp', rfl⟩
      exact ⟨p, hp', by rw [hk p hp' (hs p hp')]; simp [LitZ, Lit.sameKey]⟩
    · rintro ⟨p, hp', h⟩
      refine ⟨p, hp', ?_⟩
      have := WideAt.sameKey_eq h
      rw [hk p hp' (hs p hp')] at this
      exact litZ_inj this

/-- Block B is a map that holds f; its keys are ks. -/
structure MapZ (P : Program) (K : TypeId) (w : World) (B : Nat) (f : Int → Option Value) (ks : List Int) : Prop where
  nd : ks.Nodup
  mem : ∀ a, a ∈ ks ↔ (f a).isSome = true
  map : ∃ (D : DataW Value) (n : Nat), w.ownsMap P K tokR B n D ∧ (∀ a z, D.atKey (LitZ a) z = match f a with | some v => .held v | none => z) ∧ (∀ key, Maps.has D key = true → ∃ a : Int, key = LitZ a)

section
variable {P : Program} {K : TypeId} {w : World} {B : Nat} {f : Int → Option Value} {ks : List Int}

theorem MapZ.lt (h : MapZ P K w B f ks) : B < w.heap.size := by
  obtain ⟨D, n, h1, -⟩ := h.map
  exact h1.lt
theorem MapZ.isMapBlock (h : MapZ P K w B f ks) : ∃ es clock, w.heap[B]? = some (.map es clock) := by
  obtain ⟨D, n, ⟨es, clock, hb, -⟩, -⟩ := h.map
  exact ⟨es, clock, hb⟩
theorem MapZ.keep {w' : World} {T : List Nat} (h : MapZ P K w B f ks) (k : Keep T w w') (hB : B ∉ T) : MapZ P K w' B f ks := by
  refine ⟨h.nd, h.mem, ?_⟩
  obtain ⟨D, n, ⟨es, clock, hb, r⟩, h2⟩ := h.map
  exact ⟨D, n, ⟨es, clock, k.blk hB hb, r⟩, h2⟩
theorem MapZ.made (w : World) (P : Program) (K : TypeId) : MapZ P K (w.alloc (.map #[] 0)) w.heap.size (fun _ => none) [] :=
  ⟨List.nodup_nil, by simp, _, 0, World.ownsMap_made w P K tokR, fun _ _ => rfl, fun key h => by simp [Maps.has] at h⟩
theorem MapZ.perm {ks' : List Int} (h : MapZ P K w B f ks) (hn : ks'.Nodup) (hm : ∀ a, a ∈ ks' ↔ a ∈ ks) : MapZ P K w B f ks' :=
  ⟨hn, fun a => (hm a).trans (h.mem a), h.map⟩
theorem MapZ.congr {f' : Int → Option Value} (h : MapZ P K w B f ks) (e : ∀ a, f' a = f a) : MapZ P K w B f' ks := by
  obtain rfl : f' = f := funext e
  exact h

theorem has_of_atZ {D : DataW Value} {a : Int} {o : Option Value} (h : ∀ z, D.atKey (LitZ a) z = match o with | some v => .held v | none => z) : Maps.has D (LitZ a) = o.isSome := by
  cases o with
  | none => exact Maps.has_false_of_atKey h
  | some v => exact Maps.has_true_of_atKey h
/-- with its number of entries -/
theorem MapZ.few (hK : P.underlying K = some (.int .i64)) (h : MapZ P K w B f ks) : ∃ D : DataW Value, w.ownsMap P K tokR B ks.length D ∧ Maps.size D = ks.length ∧ (∀ a z, D.atKey (LitZ a) z = match f a with | some v => .held v | none => z) ∧ (∀ key, Maps.has D key = true → ∃ a : Int, key = LitZ a) ∧ (∀ a, Maps.has D (LitZ a) = true ↔ a ∈ ks) := by
  obtain ⟨D, n, h1, h2, h3⟩ := h.map
  have hm : ∀ a, a ∈ ks ↔ Maps.has D (LitZ a) = true := fun a => by rw [h.mem a, has_of_atZ (h2 a)]
  have hs := sizeZ (h1.entries (int_keyed hK)) h3 h.nd hm
  refine ⟨D, ?_, hs, h2, h3, fun a => (hm a).symm⟩
  obtain ⟨es, clock, hb, F, hsz, rfl⟩ := h1
  refine ⟨es, clock, hb, F, ?_, rfl⟩
  rw [← hs]
  simp [Maps.size, length_sorted]

theorem MapZ.look {t e : TypeId} (h : MapZ P K w B f ks) (hK : P.underlying K = some (.int .i64)) (ht : P.underlying t = some (.map K e)) {z : Value} (hz : (zeroValue e).run P w = .ok z w) (a : Int) (ha : (Lit.int .i64 a).wf = true) :
    (Instr.lookup t (.map (some B)) (.int .i64 a) false).run P w = .ok ((f a).getD z) w := by
  obtain ⟨D, n, ⟨es, clock, hb, F, -, rfl⟩, h2, -⟩ := h.map
  have h2 := h2 a
  rcases Maps.fit_look false (int_keyed hK) ht hz hb F (keyOf_int_mk hK ha) with ⟨hrun, _, hat⟩ | ⟨e0, y, _, _, hrun, hRv, hat, _⟩
  · have : f a = none := by
      cases hf : f a with
      | none => rfl
      | some v =>
        have h3 := h2 .nil
        rw [show LitZ a = .int .i64 a from rfl, hat, hf] at h3
        cases h3
    rw [this]
    exact hrun
  · have := tokR_inv hRv
    have h3 := h2 .nil
    rw [show LitZ a = .int .i64 a from rfl, hat, this] at h3
    cases hf : f a with
    | none => rw [hf] at h3; cases h3
    | some v =>
      rw [hf] at h3
      cases h3
      exact hrun
theorem MapZ.look_ok {t e : TypeId} (h : MapZ P K w B f ks) (hK : P.underlying K = some (.int .i64)) (ht : P.underlying t = some (.map K e)) {z : Value} (hz : (zeroValue e).run P w = .ok z w) (a : Int) (ha : (Lit.int .i64 a).wf = true) :
    (Instr.lookup t (.map (some B)) (.int .i64 a) true).run P w = .ok (.tuple #[(f a).getD z, .bool (f a).isSome]) w := by
  obtain ⟨D, n, ⟨es, clock, hb, F, -, rfl⟩, h2, -⟩ := h.map
  have h2 := h2 a
  rcases Maps.fit_look true (int_keyed hK) ht hz hb F (keyOf_int_mk hK ha) with ⟨hrun, _, hat⟩ | ⟨e0, y, _, _, hrun, hRv, hat, _⟩
  · have : f a = none := by
      cases hf : f a with
      | none => rfl
      | some v =>
        have h3 := h2 .nil
        rw [show LitZ a = .int .i64 a from rfl, hat, hf] at h3
        cases h3
    rw [this]
    exact hrun
  · have := tokR_inv hRv
    have h3 := h2 .nil
    rw [show LitZ a = .int .i64 a from rfl, hat, this] at h3
    cases hf : f a with
    | none => rw [hf] at h3; cases h3
    | some v =>
      rw [hf] at h3
      cases h3
      exact hrun
theorem MapZ.len {t e : TypeId} (h : MapZ P K w B f ks) (hK : P.underlying K = some (.int .i64)) (ht : P.underlying t = some (.map K e)) (ty : TypeId) : (Builtin.len_ #[t] ty #[.map (some B)]).run P w = .ok (.int .i64 (ks.length : Int)) w := by
  obtain ⟨D, h1, hs, -⟩ := h.few hK
  rw [← hs]
  exact h1.len ht ty

def updZ (f : Int → Option Value) (a : Int) (v : Value) : Int → Option Value := fun i => if i = a then some v else f i
def delZ (f : Int → Option Value) (a : Int) : Int → Option Value := fun i => if i = a then none else f i
theorem MapZ.store {t e : TypeId} (h : MapZ P K w B f ks) (hK : P.underlying K = some (.int .i64)) (ht : P.underlying t = some (.map K e)) (a : Int) (ha : (Lit.int .i64 a).wf = true) (hn : ks.length < 1000000000) (v : Value) :
    ∃ w', (Instr.mapUpdate t (.map (some B)) (.int .i64 a) v).run P w = .ok () w' ∧ MapZ P K w' B (updZ f a v) (a :: ks.filter (fun i => decide (i ≠ a))) ∧ Keep [B] w w' ∧ w'.heap.size = w.heap.size := by
  obtain ⟨D, h1, hs, h2, h3, h4⟩ := h.few hK
  have hkey := keyOf_int_mk hK ha
  have hisk := (int_keyed hK).key hkey
  obtain ⟨w', hrun, hown, hturn⟩ := h1.store (int_keyed hK) ht (by unfold maxLen; omega) hkey (show tokR v = some (.held v, []) from rfl)
  refine ⟨w', hrun, ⟨?_, fun b => ?_, _, _, hown, fun b z => ?_, fun key hk => ?_⟩, ?_, ?_⟩
  · rw [List.nodup_cons]
    exact ⟨fun hm => by simp at hm, h.nd.filter _⟩
  · rw [List.mem_cons, List.mem_filter]
    unfold updZ
    by_cases hb : b = a
    · simp [hb]
    · simp [hb, h.mem b]
  · by_cases hb : b = a
    · subst hb
      show DataW.atKey (D.put (LitZ b) (.held v)) (LitZ b) z = _
      rw [Maps.atKey_put_same h1.isMap hisk]
      simp [updZ]
    · rw [Maps.atKey_put_other (fun e => hb (litZ_inj e)), h2 b z]
      simp [updZ, hb]
  · by_cases hb : key = LitZ a
    · exact ⟨a, hb⟩
    · rw [Maps.has_put_other hb] at hk
      exact h3 key hk
  · exact (Keep.grown hturn.grown).mono (by simp)
  · obtain ⟨es, clock, es', clock', hb, rfl⟩ := hturn
    simp [ChangeMaps.setBlock]
theorem MapZ.drop {t e : TypeId} (h : MapZ P K w B f ks) (hK : P.underlying K = some (.int .i64)) (ht : P.underlying t = some (.map K e)) (a : Int) (ha : (Lit.int .i64 a).wf = true) (ty : TypeId) :
    ∃ w', (Builtin.delete_ #[t, K] ty #[.map (some B), .int .i64 a]).run P w = .ok (.tuple #[]) w' ∧ MapZ P K w' B (delZ f a) (ks.filter (fun i => decide (i ≠ a))) ∧ Keep [B] w w' ∧ w'.heap.size = w.heap.size := by
  obtain ⟨D, h1, hs, h2, h3, h4⟩ := h.few hK
  have hkey := keyOf_int_mk hK ha
  obtain ⟨w', hrun, hown, hturn⟩ := h1.drop (int_keyed hK) ht hkey ty
  refine ⟨w', hrun, ⟨h.nd.filter _, fun b => ?_, _, _, hown, fun b z => ?_, fun key hk => ?_⟩, ?_, ?_⟩
  · rw [List.mem_filter]
    unfold delZ
    by_cases hb : b = a
    · simp [hb]
    · simp [hb, h.mem b]
  · by_cases hb : b = a
    · subst hb
      show DataW.atKey (D.del (LitZ b)) (LitZ b) z = _
      rw [Maps.atKey_del_same]
      simp [delZ]
    · rw [Maps.atKey_del_other (fun e => hb (litZ_inj e)), h2 b z]
      simp [delZ, hb]
  · by_cases hb : key = LitZ a
    · exact ⟨a, hb⟩
    · rw [Maps.has_del_other hb] at hk
      exact h3 key hk
  · exact (Keep.grown hturn.grown).mono (by simp)
  · obtain ⟨es, clock, es', clock', hb, rfl⟩ := hturn
    simp [ChangeMaps.setBlock]
theorem MapZ.clear {t e : TypeId} (h : MapZ P K w B f ks) (hK : P.underlying K = some (.int .i64)) (ht : P.underlying t = some (.map K e)) (ty : TypeId) :
    ∃ w', (Builtin.clear_ #[t] ty #[.map (some B)]).run P w = .ok (.tuple #[]) w' ∧ MapZ P K w' B (fun _ => none) [] ∧ Keep [B] w w' ∧ w'.heap.size = w.heap.size := by
  obtain ⟨D, n, ⟨es, clock, hb, F, -, -⟩, -⟩ := h.map
  have hset := heap_set (w := w) (o' := .map #[] clock) hb
  refine ⟨ChangeMaps.setBlock w B (.map #[] clock), ?_, ⟨List.nodup_nil, by simp, .map [], 0, ⟨#[], clock, hset.1, ⟨by simp, ?_, by simp⟩, by simp, rfl⟩, fun _ _ => rfl, fun key h => by simp [Maps.has] at h⟩, ⟨rfl, rfl, rfl, by simp [ChangeMaps.setBlock], fun k _ hk => hset.2 k (fun e => hk (by rw [e]; simp))⟩, by simp [ChangeMaps.setBlock]⟩
  · simp [Builtin.clear_, run_underlying ht, MapKept.run_getObj_map hb, MapKept.run_setObj_map _ hb, Result.andThen, ChangeMaps.setBlock]
  · exact (stamped_iff #[] clock).2 ⟨by simp, by simp, by simp⟩
end
end Sg
