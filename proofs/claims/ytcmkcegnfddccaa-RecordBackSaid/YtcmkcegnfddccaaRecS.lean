import Derived.Test.YtcmkcegnfddccaaRecAll
/-! Records of the document, of the call's own; records in memory, one by one. -/
namespace Go.Proofs.Ytcmkcegnfddccaa
open Go.RowKit Go.Shelf Sg
set_option linter.unusedSimpArgs false

def scells (l : List Rc) : List Value := l.flatMap fun x => [.string ⟨x.k.toArray⟩, .string ⟨x.v.toArray⟩, .int .i64 (x.en : Int)]
/-- the document's records, one behind the other -/
def OwnS (w : World) (base : Nat) (v : Value) (l : List Rc) : Prop := w.ownsRow base 25 3 v l.length (scells l)
theorem OwnS.keep {w w' : World} {S : List Nat} {base : Nat} {v : Value} {l : List Rc} (h : OwnS w base v l) (k : Keep S w w') (hs : ∀ b, v.ownBlock = some b → b ∉ S) : OwnS w' base v l := by
  refine ⟨h.1, ?_⟩
  rcases h.2 with hn | ⟨g, cap, cur, rfl, hb, hg, rest⟩
  · exact .inl hn
  · exact .inr ⟨g, cap, cur, rfl, hb, k.blk (hs g rfl) hg, rest⟩
theorem OwnS.form {w : World} {base : Nat} {v : Value} {l : List Rc} (h : OwnS w base v l) : ∃ a c, v = .slice a l.length c := by
  rcases h.2 with ⟨rfl, h0⟩ | ⟨g', c, cur, rfl, -⟩
  · exact ⟨_, _, by rw [h0]⟩
  · exact ⟨_, _, rfl⟩
theorem run_append_srec {w : World} (base : Nat) {ty : TypeId} {v : Value} {l : List Rc} (hown : OwnS w base v l) (g : Nat) (x : Rc) {fr : Nat × Nat}
    (hg : w.heap[g]? = some (.cells #[.string ⟨x.k.toArray⟩, .string ⟨x.v.toArray⟩, .int .i64 (x.en : Int)] 25 fr)) (hn : l.length ≤ 1000000) (hbase : base ≤ w.heap.size) :
    ∃ v' w', (Builtin.append_ #[22, 22] ty #[v, .slice (some ⟨g, 0, none⟩) 1 1]).run Try.prog w = .ok v' w' ∧ OwnS w' base v' (l ++ [x]) ∧ Keep v.ownBlock.toList w w' := by
  obtain ⟨i, hi1, hz, hs1, hb1⟩ := info_parts (show (Try.prog.info? 25).map (fun i => (i.zero, i.size, i.bytes)) = some (some (.agg #[.string ByteArray.empty, .string ByteArray.empty, .int .i64 0]), 3, 40) by kernel_rfl)
  obtain ⟨v', w', hrun, hown', hgr, -⟩ := run_append_own (P := Try.prog) w base 22 ty 25 i _ 3 40 Try.underlying22 hi1 hz hs1 hb1 rfl (by decide) v l.length (scells l) hown ⟨g, 0, none⟩ 1 1 [.string ⟨x.k.toArray⟩, .string ⟨x.v.toArray⟩, .int .i64 (x.en : Int)] (by rfl)
    (fun j u hu => by
      rw [Addr.add_lit, Nat.zero_add, cell_of_row _ _ _ _ _ _ hg]
      match j, hu with
      | 0, hu => exact hu
      | 1, hu => exact hu
      | 2, hu => exact hu
      | j + 3, hu => simp at hu)
    (by
      intro u hu
      simp at hu
      rcases hu with rfl | rfl | rfl <;> rfl) (by simp [maxLen]; omega) (by omega) hbase
  refine ⟨v', w', hrun, ?_, Keep.grown hgr⟩
  show World.ownsRow _ _ _ _ _ _ _
  rw [List.length_append, scells, List.flatMap_append]
  simpa [scells] using hown'
theorem OwnS.own {w : World} {base : Nat} {v : Value} {l : List Rc} (h : OwnS w base v l) {b : Nat} (hb : v.ownBlock = some b) : base ≤ b := by
  rcases h.2 with ⟨rfl, -⟩ | ⟨g, cap, cur, rfl, h1, h2, -⟩
  · simp [Value.ownBlock] at hb
  · simp [Value.ownBlock] at hb
    subst hb
    exact h1

theorem flat3 {α β : Type} (f : α → List β) (h3 : ∀ x, (f x).length = 3) : ∀ (l : List α) (i j : Nat) (x : α), l[i]? = some x → j < 3 → (l.flatMap f)[3 * i + j]? = (f x)[j]?
  | [], i, j, x, h, _ => by simp at h
  | y :: l, 0, j, x, h, hj => by
    simp at h
    subst h
    rw [List.flatMap_cons, List.getElem?_append_left (by rw [h3]; omega)]
    simp
  | y :: l, i + 1, j, x, h, hj => by
    rw [List.flatMap_cons, List.getElem?_append_right (by rw [h3]; omega), h3, show 3 * (i + 1) + j - 3 = 3 * i + j by omega]
    exact flat3 f h3 l i j x (by simpa using h) hj

/-- the cells of one record in memory -/
theorem OwnR.at {w : World} {base : Nat} {v : Value} {rs : List (Value × Value × Int)} (h : OwnR w base 30 v rs) (i : Nat) (r : Value × Value × Int) (hi : rs[i]? = some r) :
    ∃ g cap, v = .slice (some ⟨g, 0, none⟩) rs.length cap ∧ w.cell? ⟨g, i * 3, none⟩ = some r.1 ∧ w.cell? ⟨g, i * 3 + 1, none⟩ = some r.2.1 ∧ w.cell? ⟨g, i * 3 + 2, none⟩ = some (.int .i64 r.2.2) := by
  have hlt := (List.getElem?_eq_some_iff.1 hi).1
  rcases id h.2 with ⟨-, h0⟩ | ⟨g, cap, cur, rfl, -⟩
  · omega
  · have c := fun j hj u hu => World.ownsRow.cells (g := g) h rfl (3 * i + j) u ((flat3 rvals (fun _ => rfl) rs i j r hi hj).trans hu)
    simp only [Addr.add_lit, Nat.zero_add, Nat.mul_comm 3 i] at c
    exact ⟨g, cap, rfl, c 0 (by decide) _ rfl, c 1 (by decide) _ rfl, c 2 (by decide) _ rfl⟩
theorem OwnS.at {w : World} {base : Nat} {v : Value} {rs : List Rc} (h : OwnS w base v rs) (i : Nat) (r : Rc) (hi : rs[i]? = some r) :
    ∃ g cap, v = .slice (some ⟨g, 0, none⟩) rs.length cap ∧ w.cell? ⟨g, i * 3, none⟩ = some (.string ⟨r.k.toArray⟩) ∧ w.cell? ⟨g, i * 3 + 1, none⟩ = some (.string ⟨r.v.toArray⟩) ∧ w.cell? ⟨g, i * 3 + 2, none⟩ = some (.int .i64 (r.en : Int)) := by
  have hlt := (List.getElem?_eq_some_iff.1 hi).1
  rcases id h.2 with ⟨-, h0⟩ | ⟨g, cap, cur, rfl, -⟩
  · omega
  · have c := fun j hj u hu => World.ownsRow.cells (g := g) h rfl (3 * i + j) u ((flat3 _ (fun _ => rfl) rs i j r hi hj).trans hu)
    simp only [Addr.add_lit, Nat.zero_add, Nat.mul_comm 3 i] at c
    exact ⟨g, cap, rfl, c 0 (by decide) _ rfl, c 1 (by decide) _ rfl, c 2 (by decide) _ rfl⟩
theorem OwnR.form {w : World} {base : Nat} {e : TypeId} {v : Value} {rs : List (Value × Value × Int)} (h : OwnR w base e v rs) : ∃ a c, v = .slice a rs.length c := by
  rcases h.2 with ⟨rfl, h0⟩ | ⟨g', c, cur, rfl, -⟩
  · exact ⟨_, _, by rw [h0]⟩
  · exact ⟨_, _, rfl⟩

end Go.Proofs.Ytcmkcegnfddccaa
