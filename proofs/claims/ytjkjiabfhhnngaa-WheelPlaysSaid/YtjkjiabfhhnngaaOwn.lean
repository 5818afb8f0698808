import Derived.Test.YtjkjiabfhhnngaaLex
import Derived.OwnWalkIn
/-! append onto bytes of the call's own, at each place of a walk. -/
namespace Sg
open Go Go.RowKit

section
variable {P : Program} {ops : Array Oper} {Q : Exit → Act → World → Prop} {w : World}

theorem loudly_append {o : Oper} {a : Act} {K : Act → World → Prop} (s x : Operand) (t e : TypeId) (hop : o.op = Op.call { callee := Callee.builtin Builtin.append, args := #[s, x], argTypes := #[t, t] })
    (base : Nat) (ht : P.underlying t = some (.slice e)) (hi : (P.info? e).map (fun i => (i.zero, i.size, i.bytes)) = some (some (.int .u8 0), 1, 1))
    {v src : Value} {xs l : List UInt8} (hs : a.eval s = v) (hx : a.eval x = src) (hown : OwnB w base e v xs) (hsrc : Bytes w src l) (hn : xs.length + l.length ≤ 140737488355328) (hbase : base ≤ w.heap.size)
    (hK : ∀ v' w', OwnB w' base e v' (xs ++ l) → Keep v.ownBlock.toList w w' → K (a.put o.dst v') w') : loudly P o a w K := by
  obtain ⟨v', w', hrun, h1, h2, h3⟩ := run_append_bytes (P := P) (ty := o.type) base ht hi hown hsrc hn hbase
  have e1 : (execOp a.eval o).run P w = .ok (.value v') w' := by
    simp [execOp, hop, resolve, invoke, builtin, hs, hx, hrun, Result.andThen]
  unfold loudly
  rw [e1]
  exact hK v' w' h1 h2

theorem wpList_append_bytes {rest : List Oper} {o : Oper} {a : Act} (hg : o.guard = none) (s x : Operand) (t e : TypeId) (hop : o.op = Op.call { callee := Callee.builtin Builtin.append, args := #[s, x], argTypes := #[t, t] })
    (base : Nat) (ht : P.underlying t = some (.slice e)) (hi : (P.info? e).map (fun i => (i.zero, i.size, i.bytes)) = some (some (.int .u8 0), 1, 1))
    {v src : Value} {xs l : List UInt8} (hs : a.eval s = v) (hx : a.eval x = src) (hown : OwnB w base e v xs) (hsrc : Bytes w src l) (hn : xs.length + l.length ≤ 140737488355328) (hbase : base ≤ w.heap.size)
    (hK : ∀ v' w', OwnB w' base e v' (xs ++ l) → Keep v.ownBlock.toList w w' → wpList P ops Q rest (a.put o.dst v') w') : wpList P ops Q (o :: rest) a w :=
  wpList_plain hg fun _ hK' => loudly_wp (loudly_append s x t e hop base ht hi hs hx hown hsrc hn hbase fun v' w' h1 h2 => hK' _ _ (hK v' w' h1 h2))

theorem wpListIn_append_bytes {F : Fence} {n : Nat} {rest : List Oper} {o : Oper} {a : Act} (hg : o.guard = none) (s x : Operand) (t e : TypeId) (hop : o.op = Op.call { callee := Callee.builtin Builtin.append, args := #[s, x], argTypes := #[t, t] })
    (base : Nat) (ht : P.underlying t = some (.slice e)) (hi : (P.info? e).map (fun i => (i.zero, i.size, i.bytes)) = some (some (.int .u8 0), 1, 1))
    {v src : Value} {xs l : List UInt8} (hs : a.eval s = v) (hx : a.eval x = src) (hown : OwnB w base e v xs) (hsrc : Bytes w src l) (hn : xs.length + l.length ≤ 140737488355328) (hbase : base ≤ w.heap.size)
    (hK : ∀ v' w', OwnB w' base e v' (xs ++ l) → Keep v.ownBlock.toList w w' → wpListIn F n P ops Q rest (a.put o.dst v') w') : wpListIn F n P ops Q (o :: rest) a w := by
  refine wpListIn_plain hg fun K hK' => ?_
  obtain ⟨v', w', hrun, h1, h2, h3⟩ := run_append_bytes (P := P) (ty := o.type) base ht hi hown hsrc hn hbase
  unfold Oper.wpIn
  refine ⟨?_, ?_⟩
  · simp [Oper.about, hop, resolve, Target.leads, Sem.run_pure]
  · rw [Oper.semAt_plain F _ _ (by rw [hop]; intro c hc'; cases hc')]
    simp [execOp, hop, resolve, invoke, builtin, hs, hx, hrun, Result.andThen]
    exact hK' _ _ (hK v' w' h1 h2)

theorem run_make_cells (t e : TypeId) (ht : P.underlying t = some (.slice e)) (hi : (P.info? e).map (fun i => (i.zero, i.size, i.bytes)) = some (some (.int .u8 0), 1, 1)) (kl kc : IntKind) (n : Nat) (hn : n ≤ 140737488355328) :
    (Instr.makeSlice t (.int kl (n : Int)) (.int kc (n : Int))).run P w = .ok (.slice (some ⟨w.heap.size, 0, none⟩) n n) (w.alloc (.cells (List.replicate n (u8v 0)).toArray e)) := by
  obtain ⟨i, hi1, hz, hs1, hb1⟩ := info_parts hi
  have hr := run_make (P := P) w t e i (.int .u8 0) ht hi1 hz kl kc n n (by omega) (Int.le_refl _) (by rw [hb1]; omega) (by omega)
  simp only [Int.toNat_natCast] at hr
  rw [hr, hs1, Nat.mul_one, show (Value.int IntKind.u8 0).cells = #[.int .u8 0] from rfl]
  congr 3
  rw [← toList_madeCells_one]
  rfl
theorem OwnB.made (base : Nat) (e : TypeId) (n : Nat) (hn : n ≤ 140737488355328) (hb : base ≤ w.heap.size) : OwnB (w.alloc (.cells (List.replicate n (u8v 0)).toArray e)) base e (.slice (some ⟨w.heap.size, 0, none⟩) n n) (List.replicate n 0) := by
  refine ⟨by simp, .inr ⟨w.heap.size, n, (List.replicate n (u8v 0)).toArray, by simp, hb, World.alloc_heap_new _ _, by simp, by simp [maxLen]; omega, by simp, by simp⟩⟩
/-- make([]byte, n) -/
theorem run_make_bytes (t e : TypeId) (ht : P.underlying t = some (.slice e)) (hi : (P.info? e).map (fun i => (i.zero, i.size, i.bytes)) = some (some (.int .u8 0), 1, 1)) (kl kc : IntKind) (n : Nat) (hn : n ≤ 140737488355328) (base : Nat) (hb : base ≤ w.heap.size) :
    ∃ w', (Instr.makeSlice t (.int kl (n : Int)) (.int kc (n : Int))).run P w = .ok (.slice (some ⟨w.heap.size, 0, none⟩) n n) w' ∧ OwnB w' base e (.slice (some ⟨w.heap.size, 0, none⟩) n n) (List.replicate n 0) ∧ Keep [] w w' := by
  obtain ⟨i, hi1, hz, hs1, hb1⟩ := info_parts hi
  obtain ⟨w', h1, h2, h3⟩ := run_make_full w base t e i (.int .u8 0) 1 ht hi1 hz hs1 kl kc n (by rw [hb1]; omega) (by simp [maxLen]; omega) hb
  refine ⟨w', h1, ?_, Keep.grown h3⟩
  show World.ownsRow _ _ _ _ _ _ _
  rw [show (Value.int IntKind.u8 0).cells = #[.int .u8 0] from rfl, Nat.mul_one, toList_madeCells_one] at h2
  simpa [u8v] using h2

theorem loudly_make {o : Oper} {a : Act} {K : Act → World → Prop} (l c : Operand) (t e : TypeId) (hop : o.op = Op.makeSlice t l c)
    (base : Nat) (ht : P.underlying t = some (.slice e)) (hi : (P.info? e).map (fun i => (i.zero, i.size, i.bytes)) = some (some (.int .u8 0), 1, 1)) (kl kc : IntKind) {n : Nat} (hl : a.eval l = .int kl (n : Int)) (hc : a.eval c = .int kc (n : Int))
    (hn : n ≤ 140737488355328) (hbase : base ≤ w.heap.size)
    (hK : ∀ w', OwnB w' base e (.slice (some ⟨w.heap.size, 0, none⟩) n n) (List.replicate n 0) → Keep [] w w' → w.heap.size < w'.heap.size → K (a.put o.dst (.slice (some ⟨w.heap.size, 0, none⟩) n n)) w') : loudly P o a w K := by
  obtain ⟨w', hrun, h1, h2⟩ := run_make_bytes (P := P) (w := w) t e ht hi kl kc n hn base hbase
  have e1 : (execOp a.eval o).run P w = .ok (.value (.slice (some ⟨w.heap.size, 0, none⟩) n n)) w' := by
    simp [execOp, hop, hl, hc, hrun, Result.andThen]
  unfold loudly
  rw [e1]
  exact hK w' h1 h2 (World.ownsRow.lt h1 _ rfl).2

theorem wpList_make_bytes {rest : List Oper} {o : Oper} {a : Act} (hg : o.guard = none) (l c : Operand) (t e : TypeId) (hop : o.op = Op.makeSlice t l c)
    (base : Nat) (ht : P.underlying t = some (.slice e)) (hi : (P.info? e).map (fun i => (i.zero, i.size, i.bytes)) = some (some (.int .u8 0), 1, 1)) (kl kc : IntKind) {n : Nat} (hl : a.eval l = .int kl (n : Int)) (hc : a.eval c = .int kc (n : Int))
    (hn : n ≤ 140737488355328) (hbase : base ≤ w.heap.size)
    (hK : ∀ w', OwnB w' base e (.slice (some ⟨w.heap.size, 0, none⟩) n n) (List.replicate n 0) → Keep [] w w' → w.heap.size < w'.heap.size → wpList P ops Q rest (a.put o.dst (.slice (some ⟨w.heap.size, 0, none⟩) n n)) w') : wpList P ops Q (o :: rest) a w :=
  wpList_plain hg fun _ hK' => loudly_wp (loudly_make l c t e hop base ht hi kl kc hl hc hn hbase fun w' h1 h2 h3 => hK' _ _ (hK w' h1 h2 h3))

/-- what a literal without elements leaves -/
theorem OwnB.empty (w : World) (base : Nat) (e : TypeId) (hb : base ≤ w.heap.size) : OwnB (w.alloc (.cells #[] e)) base e (.slice (some ⟨w.heap.size, 0, none⟩) 0 0) [] := by
  refine ⟨?_, .inr ⟨w.heap.size, 0, #[], rfl, hb, ?_, ?_, ?_, ?_, ?_⟩⟩
  all_goals first | exact World.alloc_heap_new _ _ | simp [maxLen]
end
theorem OwnB.setCell {w : World} {base g n cap : Nat} {e : TypeId} {c : List UInt8} (h : OwnB w base e (.slice (some ⟨g, 0, none⟩) n cap) c) {j : Nat} (hj : j < c.length) (x : UInt8) :
    OwnB (w.setCell ⟨g, j, none⟩ (u8v x)) base e (.slice (some ⟨g, 0, none⟩) n cap) (c.set j x) := by
  obtain ⟨h0, h1⟩ := h
  rcases h1 with ⟨hn, -⟩ | ⟨g', cap', cur, hv, hb, hg, hnc, hcm, hs, ht⟩
  · cases hn
  · cases hv
    have hj' : j < cur.size := by have := congrArg List.length ht; simp at this; omega
    refine ⟨by simp, .inr ⟨g, cap, cur.setIfInBounds j (u8v x), by simp, hb, ?_, ?_, hcm, by simpa using hs, ?_⟩⟩
    · exact heap_setCell_same _ _ _ _ _ _ hg
    · simpa using hnc
    · rw [List.map_set, ← ht]
      simp [List.take_set]
theorem OwnB.ne_row {w : World} {base g : Nat} {e t : TypeId} {v : Value} {c : List UInt8} {cs : Array Value} {fr : Nat × Nat} (h : OwnB w base e v c) (hg : w.heap[g]? = some (.cells cs t fr)) (ht : t ≠ e) : v.ownBlock ≠ some g := by
  rcases h.2 with ⟨rfl, -⟩ | ⟨g', cap', cur, rfl, -, hg', -⟩
  · simp [Value.ownBlock]
  · intro h2
    simp only [Value.ownBlock, Option.some.injEq] at h2
    subst h2
    rw [hg] at hg'
    injection hg' with h3
    injection h3 with _ h4
    exact ht h4
theorem Bytes.setCell {w : World} {v : Value} {l : List UInt8} (h : Bytes w v l) {p : Addr} (hp : l ≠ [] → v.ownBlock ≠ some p.block) (u : Value) : Bytes (w.setCell p u) v l := by
  by_cases hl : l = []
  · subst hl
    obtain ⟨ao, cap, rfl, h1, h2, h3, h4⟩ := h
    exact ⟨ao, cap, rfl, h1, h2, h3, fun ad e i hi => by simp at hi⟩
  · refine h.keep (S := [p.block]) ((Keep.refl _ _).setCell (.inl (by simp)) u) ?_
    intro b hb hm
    simp at hm
    subst hm
    exact hp hl hb
theorem Bytes.ne_row {w : World} {v : Value} {l : List UInt8} (h : Bytes w v l) (hl : l ≠ []) {g : Nat} {cs : Array Value} {t : TypeId} {fr : Nat × Nat} (hg : w.heap[g]? = some (.cells cs t fr)) (hcs : ∀ (i : Nat) (x : Value), cs[i]? = some x → ∀ n : Int, x ≠ Value.int .u8 n) : v.ownBlock ≠ some g := by
  obtain ⟨ao, cap, rfl, -⟩ := h.form
  have h0 : 0 < l.length := by cases l with | nil => exact absurd rfl hl | cons _ _ => simp
  obtain ⟨b, o, rfl, -, hc⟩ := h.spot h0
  intro h2
  simp only [Value.ownBlock, Option.some.injEq] at h2
  subst h2
  have h3 := hc 0 h0
  rw [cell_of_row _ _ _ _ _ _ hg] at h3
  exact hcs _ _ h3 _ rfl
theorem OwnB.cell {w : World} {base g n cap : Nat} {e : TypeId} {c : List UInt8} (h : OwnB w base e (.slice (some ⟨g, 0, none⟩) n cap) c) {j : Nat} (hj : j < c.length) : w.cell? ⟨g, j, none⟩ = some (.int .u8 (c[j].toNat : Int)) := by
  have := World.ownsRow.cells (g := g) h rfl j (u8v c[j]) (by simp [hj])
  rwa [Addr.add_lit, Nat.zero_add] at this
theorem OwnB.free {w : World} {base g n cap : Nat} {e : TypeId} {c : List UInt8} (h : OwnB w base e (.slice (some ⟨g, 0, none⟩) n cap) c) (j : Nat) : w.frozen? ⟨g, j, none⟩ = false := by
  rcases h.2 with ⟨hn, -⟩ | ⟨g', cap', cur, hv, hb, hg, -⟩
  · cases hn
  · cases hv
    exact frozen_of_row _ _ _ _ _ hg
theorem Keep.trans' {S : List Nat} {a b c : World} (h : Keep [] a b) (k : Keep S b c) (hs : ∀ k, k ∈ S → k ∈ ([] : List Nat) ∨ a.heap.size ≤ k) : Keep [] a c := by
  refine ⟨k.os.trans h.os, k.tape.trans h.tape, k.output.trans h.output, Nat.le_trans h.size k.size, fun b hb hbs => ?_⟩
  rw [k.block b (Nat.lt_of_lt_of_le hb h.size) (fun hm => ?_)]
  · exact h.block b hb hbs
  · rcases hs b hm with h1 | h1
    · cases h1
    · omega
end Sg
