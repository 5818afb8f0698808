import Derived.Test.YtjkjiabfhhnngaaPlay04
/-! The two devices side by side: what holds between the acts of FlashPlays. -/
namespace Go.Proofs.Ytjkjiabfhhnngaa
open Go.RowKit Sg
set_option linter.unusedSimpArgs false
set_option linter.unusedVariables false

/-- the device m at g in the blocks D, and the document's in the block R -/
structure PlS (w1 : World) (g R : Nat) (w : World) (D : List Nat) (m mr : Dev) (fv lv pv : Value) : Prop where
  dev : DV w D g m
  row : w.heap[R]? = some (.cells (d4cells mr fv lv pv) 33 (0, 0))
  rdv : RDV (fun b => b ∉ D ∧ b ≠ R) w fv lv pv mr
  notD : R ∉ D
  from_ : ∀ b ∈ D, w1.heap.size ≤ b
  high : w1.heap.size ≤ R
  keep : Keep [] w1 w
section
variable {w1 : World} {g R : Nat} {w w' : World} {D D' : List Nat} {m mr m' mr' : Dev} {fv lv pv fv' lv' pv' : Value}
theorem PlS.lt (h : PlS w1 g R w D m mr fv lv pv) : R < w.heap.size := (Array.getElem?_eq_some_iff.1 h.row).1
theorem PlS.on (h : PlS w1 g R w D m mr fv lv pv) (k : Keep [] w w') : PlS w1 g R w' D m mr fv lv pv :=
  ⟨h.dev.keep k (by simp), k.blk (by simp) h.row, h.rdv.keep k, h.notD, h.from_, h.high, h.keep.trans k⟩
/-- blocks that the document's device may have -/
theorem PlS.room (h : PlS w1 g R w D m mr fv lv pv) : ∀ b, w.heap.size ≤ b → b ∉ D ∧ b ≠ R := fun b hb =>
  ⟨fun hm => by have := h.dev.lt b hm; omega, fun e => by have := h.lt; omega⟩
/-- a call upon the device -/
theorem PlS.dev1 (h : PlS w1 g R w D m mr fv lv pv) (hD : DV w' D' g m') (hG : Grew w D D') (k : Keep D w w') : PlS w1 g R w' D' m' mr fv lv pv := by
  have hR : R ∉ D' := fun hm => (hG.2 R hm).elim h.notD (fun hb => by have := h.lt; omega)
  refine ⟨hD, k.blk h.notD h.row, ?_, hR, fun b hb => (hG.2 b hb).elim (h.from_ b) (fun h2 => Nat.le_trans h.keep.size h2), h.high, h.keep.trans' k (fun b hb => .inr (h.from_ b hb))⟩
  have h1 : RDV (fun b => b ∉ D' ∧ b ≠ R) w fv lv pv mr := h.rdv.turn (fun b hb hP => ⟨fun hm => (hG.2 b hm).elim hP.1 (fun h2 => by omega), hP.2⟩)
  exact h1.keepS k (fun b hb hP => hP.1 (hG.1 b hb))
/-- the document's answer is stored -/
theorem PlS.put1 (h : PlS w1 g R w D m mr fv lv pv) (k : Keep [] w w') (r : RDV (fun b => b ∉ D ∧ b ≠ R) w' fv' lv' pv' mr') : PlS w1 g R (w'.setRow R (d4cells mr' fv' lv' pv')) D m mr' fv' lv' pv' := by
  have k1 : Keep [R] w' (w'.setRow R (d4cells mr' fv' lv' pv')) := (Keep.refl _ _).setRow (.inl (by simp)) _
  refine ⟨(h.dev.keep k (by simp)).keep k1 (fun b hb => by rw [List.mem_singleton.1 hb]; exact h.notD), setRow_heap _ _ _ _ _ _ ((h.on k).row), r.keepS k1 (fun b hb hP => hP.2 (List.mem_singleton.1 hb)), h.notD, h.from_, h.high, (h.keep.trans k).trans' k1 (fun b hb => .inr (by rw [List.mem_singleton.1 hb]; exact h.high))⟩
/-- one cell of it -/
theorem PlS.arm1 (h : PlS w1 g R w D m mr fv lv pv) (n : Nat) : PlS w1 g R (w.setCell ⟨R, 4, none⟩ (.int .i64 (n : Int))) D m { mr with armed := n } fv lv pv := by
  have k1 : Keep [R] w (w.setCell ⟨R, 4, none⟩ (.int .i64 (n : Int))) := (Keep.refl _ _).setCell (.inl (by simp)) _
  have h1 : RDV (fun b => b ∉ D ∧ b ≠ R) w fv lv pv { mr with armed := n } := ⟨h.rdv.fast, h.rdv.loose, h.rdv.past, h.rdv.fP, h.rdv.lP, h.rdv.pP⟩
  exact ⟨h.dev.keep k1 (fun b hb => by rw [List.mem_singleton.1 hb]; exact h.notD), heap_setCell_same _ _ _ _ _ _ h.row, h1.keepS k1 (fun b hb hP => hP.2 (List.mem_singleton.1 hb)), h.notD, h.from_, h.high, h.keep.trans' k1 (fun b hb => .inr (by rw [List.mem_singleton.1 hb]; exact h.high))⟩
end
/-- a device behind so many acts of FlashPlays -/
structure Fp (S Z a : Nat) (m : Dev) : Prop where
  n : m.n = S
  sz : m.sz = Z
  acts : m.acts ≤ a
theorem Fp.more {S Z a b : Nat} {m : Dev} (h : Fp S Z a m) (hb : a ≤ b) : Fp S Z b m := ⟨h.n, h.sz, Nat.le_trans h.acts hb⟩
theorem Fp.put {S Z a : Nat} {m : Dev} (h : Fp S Z a m) (at_ : Int) (l : List UInt8) : Fp S Z (a + 1) (m.put at_ l).1 := by
  unfold Dev.put
  split
  · exact h.more (Nat.le_succ _)
  · split
    · exact h.more (Nat.le_succ _)
    · exact ⟨h.n, h.sz, Nat.succ_le_succ h.acts⟩
theorem Fp.sync {S Z a : Nat} {m : Dev} (h : Fp S Z a m) : Fp S Z (a + 1) m.sync.1 := by
  unfold Dev.sync
  split
  · exact h.more (Nat.le_succ _)
  · split
    · exact ⟨h.n, h.sz, Nat.succ_le_succ h.acts⟩
    · exact ⟨h.n, h.sz, Nat.succ_le_succ h.acts⟩
theorem Fp.crash {S Z a : Nat} {m : Dev} (h : Fp S Z a m) (f : List Int) : Fp S Z (a + 1) (m.crash f) := ⟨h.n, h.sz, Nat.le_succ_of_le h.acts⟩
theorem Fp.arm {S Z a : Nat} {m : Dev} (h : Fp S Z a m) (n : Int) : Fp S Z (a + 1) (m.arm n) := ⟨h.n, h.sz, Nat.le_succ_of_le h.acts⟩
theorem Fp.rot {S Z a : Nat} {m : Dev} (h : Fp S Z a m) (at_ b : Int) (c : UInt8) : Fp S Z (a + 1) (m.rot at_ b c).1 := by
  unfold Dev.rot
  split
  · exact ⟨h.n, h.sz, Nat.le_succ_of_le h.acts⟩
  · exact h.more (Nat.le_succ _)
theorem RDV.forms {P : Nat → Prop} {w : World} {fv lv pv : Value} {m : Dev} (h : RDV P w fv lv pv m) : ∃ a n c a' n' c' a'' n'' c'', fv = .slice a n c ∧ lv = .slice a' n' c' ∧ pv = .slice a'' n'' c'' := by
  obtain ⟨a, c, e⟩ := h.fast.form
  obtain ⟨a', c', e'⟩ := h.loose.form
  obtain ⟨vs, hp, -⟩ := h.past
  obtain ⟨a'', c'', e''⟩ := hp.form
  exact ⟨a, _, c, a', _, c', a'', _, c'', e, e', e''⟩
theorem read_short {m : Dev} (h : m.Wf) (a : Int) : (m.read a).1.length ≤ 512 := by
  unfold Dev.read
  split
  · simp
  · next h0 =>
    have hk : a.toNat < m.n := by
      by_cases h1 : m.down = true
      · exact absurd (by unfold Dev.ready; rw [if_pos h1]; simp) h0
      · by_cases h2 : 0 ≤ a ∧ a < m.n
        · omega
        · exact absurd (by unfold Dev.ready; rw [if_neg h1, if_neg h2]; simp) h0
    show (m.get a.toNat).length ≤ 512
    rw [Dev.get_length h hk]
    exact h.s2
theorem ints_lit3 (w : World) (a b c : Int) (ha : ∀ x ∈ [a, b, c], -9223372036854775808 ≤ x ∧ x ≤ 9223372036854775807) : Ints (w.alloc (.cells #[.int .i64 a, .int .i64 b, .int .i64 c] 3)) (.slice (some ⟨w.heap.size, 0, none⟩) 3 3) [a, b, c] := by
  refine ⟨some ⟨w.heap.size, 0, none⟩, 3, rfl, by simp, ⟨by decide, by simp⟩, by simp, ha, fun ad e i hi => ?_⟩
  cases e
  rw [Addr.add_lit, Nat.zero_add, cell_of_row _ _ _ _ _ _ (heap_alloc_new w _)]
  simp at hi
  match i, hi with
  | 0, _ => rfl
  | 1, _ => rfl
  | 2, _ => rfl
theorem pastAt_pasts {m : Dev} {k : Nat} (hk : k < m.n) : m.pasts (k : Int) = pastAt m k := by
  unfold Dev.pasts pastAt
  rw [if_pos (by omega)]
  rfl
theorem read_up {m : Dev} (hd : m.down = false) {k : Nat} (hk : k < m.n) : m.read (k : Int) = (m.get k, 0) := by
  have h : m.ready (k : Int) = 0 := by
    unfold Dev.ready
    rw [if_neg (by rw [hd]; simp), if_pos (by omega)]
  unfold Dev.read
  rw [if_neg (by rw [h]; simp)]
  rfl
theorem pastAt_bounds {m : Dev} (h : m.Wf) {k a : Nat} (hk : k < m.n) (ha : m.acts ≤ a) : (pastAt m k).length ≤ a + 1 ∧ ∀ l ∈ pastAt m k, l.length ≤ 512 := by
  have hkp : k < m.past.length := by rw [h.pl]; exact hk
  have h1 := h.ps k hkp
  have h2 := h.s2
  unfold pastAt
  rw [List.getD_eq_getElem?_getD, List.getElem?_eq_getElem hkp]
  refine ⟨by simp; omega, fun l hl => ?_⟩
  simp at hl
  rcases hl with hl | hl
  · rw [h1.2 l hl]; exact h2
  · rw [hl]; simp; exact h2
end Go.Proofs.Ytjkjiabfhhnngaa
