import Derived.Test.YtjkjiabfhhnngaaProg
import Derived.Test.YtjkjiabfhhnngaaDevModel
/-! A flash device in memory. -/
namespace Go.Proofs.Ytjkjiabfhhnngaa
open Go.RowKit Sg

def inD (D : List Nat) (v : Value) : Prop := ∀ b, v.ownBlock = some b → b ∈ D
theorem inD.mono {D D' : List Nat} {v : Value} (h : inD D v) (hD : ∀ b ∈ D, b ∈ D') : inD D' v := fun b hb => hD b (h b hb)
/-- values that are bytes of the device's own -/
def Each (w : World) (D : List Nat) (vs : List Value) (ls : List (List UInt8)) : Prop :=
  vs.length = ls.length ∧ ∀ (i : Nat) v l, vs[i]? = some v → ls[i]? = some l → OwnB w 0 5 v l ∧ inD D v
def SecV (w : World) (D : List Nat) (sz : Nat) (o : Option Value) (l : List UInt8) : Prop :=
  match o with
  | none => l = List.replicate sz 0
  | some v => OwnB w 0 5 v l ∧ inD D v
def PastV (w : World) (D : List Nat) (o : Option Value) (ls : List (List UInt8)) : Prop :=
  match o with
  | none => ls = []
  | some v => ∃ vs, w.ownsRow 0 42 1 v vs.length vs ∧ inD D v ∧ Each w D vs ls
def looseCells (ls : List (Nat × List UInt8)) (vs : List Value) : List Value := (ls.zip vs).flatMap (fun x => [.int .i64 (x.1.1 : Int), x.2])
def LooseV (w : World) (D : List Nat) (lv : Value) (ls : List (Nat × List UInt8)) : Prop :=
  ∃ vs, w.ownsRow 0 177 2 lv ls.length (looseCells ls vs) ∧ inD D lv ∧ Each w D vs (ls.map (·.2))

def devCells (m : Dev) (fm pm : Nat) (lv : Value) : Array Value :=
  #[.int .i64 (m.n : Int), .int .i64 (m.sz : Int), .map (some fm), lv, .map (some pm), .int .i64 (m.armed : Int), .int .i64 (m.acts : Int), .bool m.down]

structure DevAt (w : World) (D : List Nat) (g : Nat) (m : Dev) (fm pm : Nat) (lv : Value) (fv pv : Nat → Option Value) : Prop where
  row : w.heap[g]? = some (.cells (devCells m fm pm lv) 173 (0, 0))
  fast : MapV Try.prog 3 w fm m.n fv
  past : MapV Try.prog 3 w pm m.n pv
  fasts : ∀ k (h : k < m.fast.length), SecV w D m.sz (fv k) m.fast[k]
  pasts : ∀ k (h : k < m.past.length), PastV w D (pv k) m.past[k]
  apart : ∀ j k v u b, pv j = some v → pv k = some u → v.ownBlock = some b → u.ownBlock = some b → j = k
  loose : LooseV w D lv m.loose
  inG : g ∈ D
  inF : fm ∈ D
  inP : pm ∈ D
  two : fm ≠ pm
  lt : ∀ b ∈ D, b < w.heap.size
/-- A device in memory, in the blocks D. -/
def DV (w : World) (D : List Nat) (g : Nat) (m : Dev) : Prop := m.Wf ∧ ∃ fm pm lv fv pv, DevAt w D g m fm pm lv fv pv

theorem ownB_move {w w' : World} {S : List Nat} {v : Value} {l : List UInt8} (h : OwnB w 0 5 v l) (k : Keep S w w') (hS : ∀ b ∈ S, ∃ o, w.heap[b]? = some o ∧ ∀ cs fr, o ≠ .cells cs 5 fr) : OwnB w' 0 5 v l := by
  refine h.keep k fun b hb hm => ?_
  rcases h.2 with ⟨rfl, -⟩ | ⟨g, cap, cur, rfl, -, hg, -⟩
  · simp [Value.ownBlock] at hb
  · simp only [Value.ownBlock, Option.some.injEq] at hb
    subst hb
    obtain ⟨o, ho, hne⟩ := hS _ hm
    rw [hg] at ho
    cases ho
    exact hne _ _ rfl
theorem ownsRow_keep {w w' : World} {S : List Nat} {base : Nat} {e : TypeId} {sz n : Nat} {v : Value} {xs : List Value} (h : w.ownsRow base e sz v n xs) (k : Keep S w w') (hs : ∀ b, v.ownBlock = some b → b ∉ S) : w'.ownsRow base e sz v n xs := by
  refine ⟨h.1, ?_⟩
  rcases h.2 with hn | ⟨g, cap, cur, rfl, hb, hg, rest⟩
  · exact .inl hn
  · exact .inr ⟨g, cap, cur, rfl, hb, k.blk (hs g rfl) hg, rest⟩
theorem ownsRow_block {w : World} {base : Nat} {e : TypeId} {sz n : Nat} {v : Value} {xs : List Value} (h : w.ownsRow base e sz v n xs) {b : Nat} (hb : v.ownBlock = some b) : ∃ cs, w.heap[b]? = some (.cells cs e (0, 0)) := by
  rcases h.2 with ⟨rfl, -⟩ | ⟨g, cap, cur, rfl, -, hg, -⟩
  · simp [Value.ownBlock] at hb
  · simp only [Value.ownBlock, Option.some.injEq] at hb
    subst hb
    exact ⟨_, hg⟩
theorem Each.keep {w w' : World} {S D : List Nat} {vs : List Value} {ls : List (List UInt8)} (h : Each w D vs ls) (k : Keep S w w') (hS : ∀ b ∈ S, b ∉ D) : Each w' D vs ls :=
  ⟨h.1, fun i v l h1 h2 => ⟨(h.2 i v l h1 h2).1.keep k (fun b hb hm => hS b hm ((h.2 i v l h1 h2).2 b hb)), (h.2 i v l h1 h2).2⟩⟩
theorem Each.move {w w' : World} {S D D' : List Nat} {vs : List Value} {ls : List (List UInt8)} (h : Each w D vs ls) (k : Keep S w w') (hS : ∀ b ∈ S, ∃ o, w.heap[b]? = some o ∧ ∀ cs fr, o ≠ .cells cs 5 fr) (hD : ∀ b ∈ D, b ∈ D') : Each w' D' vs ls :=
  ⟨h.1, fun i v l h1 h2 => ⟨ownB_move (h.2 i v l h1 h2).1 k hS, inD.mono (h.2 i v l h1 h2).2 hD⟩⟩
theorem Each.snoc {w : World} {D : List Nat} {vs : List Value} {ls : List (List UInt8)} (h : Each w D vs ls) {v : Value} {l : List UInt8} (hv : OwnB w 0 5 v l) (hi : inD D v) : Each w D (vs ++ [v]) (ls ++ [l]) := by
  refine ⟨by simp [h.1], fun i u x h1 h2 => ?_⟩
  by_cases hlt : i < vs.length
  · rw [List.getElem?_append_left hlt] at h1
    rw [List.getElem?_append_left (by rw [← h.1]; exact hlt)] at h2
    exact h.2 i u x h1 h2
  · rw [List.getElem?_append_right (by omega)] at h1
    rw [List.getElem?_append_right (by rw [← h.1]; omega), ← h.1] at h2
    obtain ⟨hi0, he⟩ := List.getElem?_eq_some_iff.1 h1
    simp at hi0
    rw [hi0] at h1 h2
    simp at h1 h2
    rw [← h1, ← h2]
    exact ⟨hv, hi⟩

/-- What is done elsewhere does not touch a device. -/
theorem DV.keep {w w' : World} {S D : List Nat} {g : Nat} {m : Dev} (h : DV w D g m) (k : Keep S w w') (hS : ∀ b ∈ S, b ∉ D) : DV w' D g m := by
  obtain ⟨hw, fm, pm, lv, fv, pv, h⟩ := h
  have hn : ∀ b ∈ D, b ∉ S := fun b hb hm => hS b hm hb
  refine ⟨hw, fm, pm, lv, fv, pv, ⟨k.blk (hn _ h.inG) h.row, h.fast.keep k (hn _ h.inF), h.past.keep k (hn _ h.inP), fun i hi => ?_, fun i hi => ?_, h.apart, ?_, h.inG, h.inF, h.inP, h.two, fun b hb => Nat.lt_of_lt_of_le (h.lt b hb) k.size⟩⟩
  · have := h.fasts i hi
    cases hf : fv i with
    | none => rw [hf] at this; exact this
    | some v =>
      rw [hf] at this
      exact ⟨this.1.keep k (fun b hb => hn b (this.2 b hb)), this.2⟩
  · have := h.pasts i hi
    cases hf : pv i with
    | none => rw [hf] at this; exact this
    | some v =>
      rw [hf] at this
      obtain ⟨vs, h1, h2, h3⟩ := this
      exact ⟨vs, ownsRow_keep h1 k (fun b hb => hn b (h2 b hb)), h2, h3.keep k hS⟩
  · obtain ⟨vs, h1, h2, h3⟩ := h.loose
    exact ⟨vs, ownsRow_keep h1 k (fun b hb => hn b (h2 b hb)), h2, h3.keep k hS⟩
theorem DV.lt {w : World} {D : List Nat} {g : Nat} {m : Dev} (h : DV w D g m) : ∀ b ∈ D, b < w.heap.size := by
  obtain ⟨hw, fm, pm, lv, fv, pv, h⟩ := h
  exact h.lt
/-- the blocks of a device grow by new ones alone -/
def Grew (w : World) (D D' : List Nat) : Prop := (∀ b ∈ D, b ∈ D') ∧ ∀ b ∈ D', b ∈ D ∨ w.heap.size ≤ b
theorem Grew.refl (w : World) (D : List Nat) : Grew w D D := ⟨fun _ h => h, fun _ h => .inl h⟩
theorem Grew.trans {w w' : World} {D D' D'' : List Nat} (h : Grew w D D') (k : Grew w' D' D'') (hs : w.heap.size ≤ w'.heap.size) : Grew w D D'' :=
  ⟨fun b hb => k.1 b (h.1 b hb), fun b hb => (k.2 b hb).elim (fun h1 => h.2 b h1) (fun h1 => .inr (Nat.le_trans hs h1))⟩
/-- all blocks that are new -/
def newer (w w' : World) : List Nat := List.range' w.heap.size (w'.heap.size - w.heap.size)
theorem mem_newer {w w' : World} {b : Nat} : b ∈ newer w w' ↔ w.heap.size ≤ b ∧ b < w'.heap.size := by
  unfold newer
  rw [List.mem_range'_1]
  omega
theorem Grew.newer (w w' : World) (D : List Nat) : Grew w D (D ++ newer w w') := ⟨fun _ hb => List.mem_append_left _ hb, fun _ hb => (List.mem_append.1 hb).elim .inl (fun h => .inr (mem_newer.1 h).1)⟩
end Go.Proofs.Ytjkjiabfhhnngaa
