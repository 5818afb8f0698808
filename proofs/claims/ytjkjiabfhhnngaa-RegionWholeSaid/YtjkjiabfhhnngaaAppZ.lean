import Derived.Test.YtjkjiabfhhnngaaOwn
import Derived.Lib.AppendZerosOnto
import Derived.Maps.AppendAt
/-! append(own bytes, make([]byte, k)...) -/
namespace Sg
open Go Go.RowKit
set_option linter.unusedSimpArgs false


theorem run_append_zeros {P : Program} {w : World} (base : Nat) {t tn ty e : TypeId} {kq kn : IntKind} (ht : P.underlying t = some (.slice e)) (htn : P.underlying tn = some (.int kn)) (hi : (P.info? e).map (fun i => (i.zero, i.size, i.bytes)) = some (some (.int .u8 0), 1, 1))
    {v : Value} {xs : List UInt8} (hown : OwnB w base e v xs) (k : Nat) (hn : xs.length + k ≤ 140737488355328) (hbase : base ≤ w.heap.size) :
    ∃ v' w', (Builtin.append_ #[t, tn] ty #[v, .int kq (k : Int)]).run P w = .ok v' w' ∧ OwnB w' base e v' (xs ++ List.replicate k 0) ∧ Keep v.ownBlock.toList w w' ∧ (v'.ownBlock = v.ownBlock ∨ v'.ownBlock = some w.heap.size) := by
  obtain ⟨i, hi1, hz, hs1, hb1⟩ := info_parts hi
  have hw : IntKind.i64.wrap (k : Int) = k := by rw [IntKind.wrap_i64]; omega
  have hneg : ¬ ((k : Int) < 0) := by omega
  have h48i : ¬ (281474976710656 < (k : Int)) := by omega
  have hzc : ∀ n, Builtin.zeroCells (Value.int .u8 0).cells n = (List.replicate n (Value.int .u8 0)).toArray := by
    intro n
    refine Array.ext (by simp [size_zeroCells, Value.cells]) fun j h1 h2 => ?_
    simp only [Builtin.zeroCells, Value.cells, Array.getElem_map, List.getElem_toArray, List.getElem_replicate, Array.getElem_range]
    simp [Nat.mod_one]
  have hmap : (xs ++ List.replicate k (0 : UInt8)).map u8v = xs.map u8v ++ List.replicate k (.int .u8 0) := by simp [u8v]
  have hcm : ∀ old, grownCap w (xs.length + k) old e ≤ maxLen := fun old => grownCap_le_maxLen w _ old e (by simp [maxLen]; omega)
  rcases hown.2 with ⟨rfl, h0⟩ | ⟨g, cap, cur, rfl, hb, hg, hnc, hcx, hsz, htk⟩
  · have hx : xs = [] := List.eq_nil_of_length_eq_zero h0
    subst hx
    by_cases hk : k = 0
    · subst hk
      refine ⟨.slice none 0 0, w, ?_, by simpa using hown, Keep.refl _ _, .inl rfl⟩
      simp [Builtin.append_, run_underlying ht, run_underlying htn, Go.sizeOf, typeInfo, hi1, hs1, asInt, asIntOf, IntKind.wrap_i64]
    · have hr := Lib.run_append_nil_zeros (P := P) w t tn ty e i (.int .u8 0) kq kn ht htn hi1 hz k (by omega) (by omega) (by omega) (by rw [hb1]; omega)
      refine ⟨_, _, hr, ?_, ?_, .inr (by simp [Value.ownBlock])⟩
      · have hge := grownCap_ge w k 0 e
        refine ⟨by simp, .inr ⟨w.heap.size, grownCap w k 0 e, _, by simp, hbase, heap_alloc_new w.drew _, by simpa using hge, by simpa using hcm 0, ?_, ?_⟩⟩
        · rw [hzc, hzc]
          simp
          omega
        · rw [hzc, hzc]
          simp [u8v]
      · exact ⟨rfl, rfl, rfl, by simp, fun j hj _ => heap_alloc_old w.drew _ j hj⟩
  · by_cases hroom : xs.length + k ≤ cap
    · have hst := run_storeCells_at P g xs.length e (List.replicate k (Value.int .u8 0)) 0 cur w hg (by simp; omega) (by intro u hu; rw [(List.mem_replicate.1 hu).2]; rfl)
      simp only [Nat.add_zero, List.length_replicate] at hst
      have hr : (Builtin.append_ #[t, tn] ty #[.slice (some ⟨g, 0, none⟩) xs.length cap, .int kq (k : Int)]).run P w = .ok (.slice (some ⟨g, 0, none⟩) (xs.length + k) cap) (w.setRow g (cur.toList.take xs.length ++ List.replicate k (Value.int .u8 0) ++ cur.toList.drop (xs.length + k)).toArray) := by
        by_cases hk : k = 0
        · subst hk
          simp at hst
          simp [Builtin.append_, run_underlying ht, run_underlying htn, Go.sizeOf, typeInfo, hi1, hs1, hb1, hz, zeroValue, asInt, asIntOf, hw, hneg, h48i, hnc, Addr.add_lit, IntKind.wrap_i64, hst]
        · simp [Builtin.append_, run_underlying ht, run_underlying htn, Go.sizeOf, typeInfo, hi1, hs1, hb1, hz, zeroValue, asInt, asIntOf, hw, hneg, h48i, hroom, hzc, hk, Addr.add_lit, hst]
      refine ⟨_, _, hr, ?_, (Keep.refl _ _).setRow (.inl (by simp [Value.ownBlock])) _, .inl (by simp [Value.ownBlock])⟩
      refine ⟨by simp, .inr ⟨g, cap, _, by simp, hb, setRow_heap _ _ _ _ _ _ hg, by simpa using hroom, hcx, ?_, ?_⟩⟩
      · simp
        omega
      · have hcur : cur.toList.take xs.length = xs.map u8v := by simpa using htk
        rw [hmap]
        simp [hcur]
        rw [List.take_append, List.take_of_length_le (by simp)]
        simp
    · have holds : ∀ j u, (xs.map u8v)[j]? = some u → w.cell? ((⟨g, 0, none⟩ : Addr).add j) = some u := World.ownsRow.cells (g := g) hown rfl
      have hf := run_firstCells_some (P := P) (w := w.drew) i.size xs.length ⟨g, 0, none⟩ xs.length cap (xs.map u8v) (by simp [hs1]) holds
      have hr := Lib.run_append_grow_zeros (P := P) w t tn ty e i (.int .u8 0) kq kn ht htn hi1 hz (some ⟨g, 0, none⟩) xs.length cap (xs.map u8v) hf k (by omega) (by omega) (by omega) (by omega) (by rw [hb1]; omega) (growslice_fits (by omega) (by rw [hb1]; omega))
      refine ⟨_, _, hr, ?_, ?_, .inr (by simp [Value.ownBlock])⟩
      · have hge := grownCap_ge w (xs.length + k) cap e
        refine ⟨by simp, .inr ⟨w.heap.size, grownCap w (xs.length + k) cap e, _, by simp, hbase, heap_alloc_new w.drew _, by simpa using hge, by simpa using hcm cap, ?_, ?_⟩⟩
        · rw [hzc, hzc]
          simp
          omega
        · rw [hzc, hzc, hmap]
          simp
          rw [List.take_append, List.take_of_length_le (by simp)]
          simp
      · exact ⟨rfl, rfl, rfl, by simp, fun j hj _ => heap_alloc_old w.drew _ j hj⟩
theorem loudly_append_num {P : Program} {w : World} {o : Oper} {a : Act} {K : Act → World → Prop} (s x : Operand) (t tn : TypeId) (hop : o.op = Op.call { callee := Callee.builtin Builtin.append, args := #[s, x], argTypes := #[t, tn] })
    {v src v' : Value} {w' : World} (hs : a.eval s = v) (hx : a.eval x = src) (hrun : (Builtin.append_ #[t, tn] o.type #[v, src]).run P w = .ok v' w') (hK : K (a.put o.dst v') w') : loudly P o a w K := by
  have e1 : (execOp a.eval o).run P w = .ok (.value v') w' := by
    simp [execOp, hop, resolve, invoke, builtin, hs, hx, hrun, Result.andThen]
  unfold loudly
  rw [e1]
  exact hK
/-- append(own bytes, bytes...), and where it is then -/
theorem run_append_bytes_at {P : Program} {w : World} (base : Nat) {t ty e : TypeId} (ht : P.underlying t = some (.slice e)) (hi : (P.info? e).map (fun i => (i.zero, i.size, i.bytes)) = some (some (.int .u8 0), 1, 1))
    {v src : Value} {xs l : List UInt8} (hown : OwnB w base e v xs) (hsrc : Bytes w src l) (hn : xs.length + l.length ≤ 140737488355328) (hbase : base ≤ w.heap.size) :
    ∃ v' w', (Builtin.append_ #[t, t] ty #[v, src]).run P w = .ok v' w' ∧ OwnB w' base e v' (xs ++ l) ∧ Keep v.ownBlock.toList w w' ∧ (v'.ownBlock = v.ownBlock ∨ v'.ownBlock = some w.heap.size) := by
  obtain ⟨i, hi1, hz, hs1, hb1⟩ := info_parts hi
  obtain ⟨ao, cap, rfl, h1, h2, h3, h4⟩ := hsrc
  cases ao with
  | none =>
    have hl : l = [] := h3 rfl
    subst hl
    refine ⟨v, w, ?_, by simpa using hown, Keep.refl _ _, .inl rfl⟩
    rcases hown.2 with ⟨rfl, h0⟩ | ⟨g, c, cur, rfl, _, _, hnc, _⟩
    · simp [Builtin.append_, run_underlying ht, Go.sizeOf, typeInfo, hi1, Builtin.lenOf, Builtin.firstCells]
    · simp [Builtin.append_, run_underlying ht, Go.sizeOf, typeInfo, hi1, Builtin.lenOf, Builtin.firstCells, hnc, storeCells]
  | some ad =>
    obtain ⟨v', w', hrun, hown', hg, -, hloc⟩ := run_append_own_at (P := P) w base t ty e i (.int .u8 0) 1 1 ht hi1 hz hs1 hb1 rfl (by decide) v xs.length (xs.map u8v) hown ad l.length cap (l.map u8v) (by simp)
      (fun j u hu => by
        have hj : j < l.length := by have := (List.getElem?_eq_some_iff.1 hu).1; simpa using this
        rw [h4 ad rfl j hj]
        simp [hj] at hu
        rw [← hu]; rfl)
      (by intro u hu; obtain ⟨x, _, rfl⟩ := List.mem_map.1 hu; rfl) (by simp [maxLen]; omega) (by omega) hbase
    refine ⟨v', w', hrun, ?_, Keep.grown hg, hloc⟩
    show World.ownsRow _ _ _ _ _ _ _
    simpa using hown'
end Sg
