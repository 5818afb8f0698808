import Derived.Test.YtjkjiabfhhnngaaParK
/-! A part of a row, as what is appended. -/
namespace Sg
open Go Go.RowKit
set_option linter.unusedSimpArgs false
set_option linter.unusedVariables false

section
variable {P : Program} {α : Type} {enc : α → List Value} {k bytes : Nat} {t ts ty : TypeId} {w w' : World} {v src : Value} {l m : List α} {z : Value} {base : Nat}
def RowS (enc : α → List Value) (w : World) (v : Value) (l : List α) : Prop :=
  (v = .slice none 0 0 ∧ l = []) ∨ ∃ ad c, v = .slice (some ad) l.length c ∧ ∀ j u, (l.flatMap enc)[j]? = some u → w.cell? (ad.add j) = some u
theorem RowS.nil : RowS enc w (.slice none 0 0) [] := .inl ⟨rfl, rfl⟩
theorem RowS.keep (h : RowS enc w v l) (kp : Keep [] w w') : RowS enc w' v l := by
  rcases h with h | ⟨ad, c, e, h⟩
  · exact .inl h
  · exact .inr ⟨ad, c, e, fun j u hu => kp.cell (by simp) (h j u hu)⟩
theorem RowE.pre (L : Lies enc k) {g n c : Nat} (h : RowE enc k t w base (.slice (some ⟨g, 0, none⟩) n c) l) {i : Nat} (hi : i ≤ l.length) : RowS enc w (.slice (some ⟨g, 0, none⟩) i c) (l.take i) := by
  refine .inr ⟨⟨g, 0, none⟩, c, by rw [List.length_take, Nat.min_eq_left hi], fun j u hu => ?_⟩
  refine World.ownsRow.cells (g := g) h rfl j u ?_
  have e : l.flatMap enc = (l.take i).flatMap enc ++ (l.drop i).flatMap enc := by rw [← List.flatMap_append, List.take_append_drop]
  rw [e, List.getElem?_append_left (List.getElem?_eq_some_iff.1 hu).1]
  exact hu
theorem RowE.suf (L : Lies enc k) {g n c : Nat} (h : RowE enc k t w base (.slice (some ⟨g, 0, none⟩) n c) l) {i : Nat} (hi : i ≤ l.length) (c' : Nat) : RowS enc w (.slice (some ⟨g, i * k, none⟩) (l.length - i) c') (l.drop i) := by
  refine .inr ⟨⟨g, i * k, none⟩, c', by rw [List.length_drop], fun j u hu => ?_⟩
  have e : l.flatMap enc = (l.take i).flatMap enc ++ (l.drop i).flatMap enc := by rw [← List.flatMap_append, List.take_append_drop]
  have hl : ((l.take i).flatMap enc).length = i * k := by rw [flatK_len L, List.length_take, Nat.min_eq_left hi]
  have := World.ownsRow.cells (g := g) h rfl (i * k + j) u (by
    rw [e, List.getElem?_append_right (by omega), hl, Nat.add_sub_cancel_left]
    exact hu)
  rw [Addr.add_lit, Nat.zero_add] at this
  rw [Addr.add_lit]
  exact this
/-- as Go cuts it: at the end the pointer stays -/
theorem RowE.suf_cut (L : Lies enc k) {g n c : Nat} (h : RowE enc k t w base (.slice (some ⟨g, 0, none⟩) n c) l) {i : Nat} (hi : i ≤ l.length) (hc : l.length ≤ c) : RowS enc w (.slice (if c = i then some ⟨g, 0, none⟩ else some ⟨g, i * k, none⟩) (l.length - i) (c - i)) (l.drop i) := by
  split
  · next e =>
    have hl : l.drop i = [] := List.drop_eq_nil_of_le (by omega)
    rw [hl, show l.length - i = 0 by omega]
    exact .inr ⟨⟨g, 0, none⟩, c - i, rfl, fun j u hu => by simp at hu⟩
  · exact h.suf L hi _
theorem RowE.cap {a : Option Addr} {n c : Nat} (h : RowE enc k t w base (.slice a n c) l) : l.length ≤ c ∧ c ≤ 9223372036854775807 := by
  rcases h.2 with ⟨e, h0⟩ | ⟨g, cap, cur, e, hb, hg, h1, h2, -⟩
  · injection e with e1 e2 e3
    subst e3
    exact ⟨by omega, by omega⟩
  · injection e with e1 e2 e3
    subst e3
    exact ⟨h1, h2⟩
/-- append of a part -/
theorem run_append_seg (L : Lies enc k) (hts : P.underlying ts = some (.slice t)) (hi : (P.info? t).map (fun i => (i.zero, i.size, i.bytes)) = some (some z, k, bytes)) (hz : z.cells.size = k) (hk : 0 < k) (hby : bytes ≤ 400)
    (base : Nat) (hown : RowE enc k t w base v l) (hsrc : RowS enc w src m) (hn : l.length + m.length ≤ 1000000) (hbase : base ≤ w.heap.size) :
    ∃ v' w', (Builtin.append_ #[ts, ts] ty #[v, src]).run P w = .ok v' w' ∧ RowE enc k t w' base v' (l ++ m) ∧ Keep v.ownBlock.toList w w' ∧ (v'.ownBlock = v.ownBlock ∨ v'.ownBlock = some w.heap.size) := by
  obtain ⟨i, hi1, hz1, hs1, hb1⟩ := info_parts hi
  rcases hsrc with ⟨rfl, rfl⟩ | ⟨ad, c, rfl, hcs⟩
  · refine ⟨v, w, ?_, by simpa using hown, Keep.refl _ _, .inl rfl⟩
    rcases hown.2 with ⟨rfl, h0⟩ | ⟨g, c, cur, rfl, _, _, hnc, _⟩
    · simp [Builtin.append_, run_underlying hts, Go.sizeOf, typeInfo, hi1, Builtin.lenOf, Builtin.firstCells]
    · simp [Builtin.append_, run_underlying hts, Go.sizeOf, typeInfo, hi1, Builtin.lenOf, Builtin.firstCells, hnc, storeCells]
  · obtain ⟨v', w', hrun, hown', hgr, -, hloc⟩ := run_append_own_at (P := P) (w := w) base ts ty t i z k bytes hts hi1 hz1 hs1 hb1 hz hk v l.length (l.flatMap enc) hown ad m.length c (m.flatMap enc) (flatK_len L m)
      hcs (flatK_one L m) (by simp [maxLen]; omega) (by have : (l.length + m.length) * bytes ≤ 1000000 * 400 := Nat.mul_le_mul hn hby; omega) hbase
    refine ⟨v', w', hrun, ?_, Keep.grown hgr, hloc⟩
    show World.ownsRow _ _ _ _ _ _ _
    rw [List.length_append, List.flatMap_append]
    exact hown'
end
end Sg
