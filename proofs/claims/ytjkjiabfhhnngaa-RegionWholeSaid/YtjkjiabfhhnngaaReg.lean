import Derived.Test.YtjkjiabfhhnngaaLeafPut
import Derived.Test.YtjkjiabfhhnngaaFlashA
/-! A region's log as it is thought of, and in memory. -/
namespace Go.Proofs.Ytjkjiabfhhnngaa
open Go.RowKit Sg
set_option linter.unusedSimpArgs false
set_option linter.unusedVariables false

/-- what of a log never changes -/
structure Lc where
  R : Nat
  S : Nat
  rm : Nat
  base : Nat
  x : Nat → Value
structure Lc.Ok (c : Lc) (m : Dev) : Prop where
  r1 : 3 ≤ c.R
  r2 : c.R ≤ 64
  s1 : 1 ≤ c.S
  s2 : c.S ≤ 32
  m1 : 77 ≤ c.rm
  m2 : c.rm ≤ 493
  sz : m.sz = c.rm + 19
  top : c.base + c.R * c.S ≤ m.n
structure Lg where
  last : Nat
  at_ : Nat
  pend : List UInt8
def Lc.sec (c : Lc) (q i : Nat) : Nat := q % c.R * c.S + i
/-- the sector under way is written -/
def Lc.wr (c : Lc) (l : Lg) (m : Dev) : Lg × Dev × Int :=
  ({ l with pend := [] }, lput m ((c.base + c.sec l.last ((l.at_ - 1) / c.rm) : Nat) : Int) 3 ((c.sec l.last ((l.at_ - 1) / c.rm) : Nat) : Int) (l.last : Int) l.pend)
def Lc.fill (c : Lc) (l : Lg) : Lg := { l with at_ := l.at_ + (c.rm - l.pend.length), pend := l.pend ++ List.replicate (c.rm - l.pend.length) 0 }
def Lc.flush (c : Lc) (l : Lg) (m : Dev) : Lg × Dev × Int := if l.pend = [] then (l, m, 0) else c.wr (c.fill l) m
def Lc.begin_ (c : Lc) (l : Lg) (m : Dev) : Lg × Dev × Int :=
  if (c.flush l m).2.2 ≠ 0 then c.flush l m else ({ last := (c.flush l m).1.last + 1, at_ := 0, pend := (c.flush l m).1.pend }, (c.flush l m).2.1, 0)
def Lc.more (c : Lc) (l : Lg) (b : List UInt8) : Lg := { l with at_ := l.at_ + min b.length (c.rm - l.pend.length), pend := l.pend ++ b.take (min b.length (c.rm - l.pend.length)) }
/-- bytes are added, sector by sector -/
def Lc.app (c : Lc) : Nat → Lg → Dev → List UInt8 → Lg × Dev × Int
  | 0, l, m, _ => (l, m, 0)
  | f + 1, l, m, b =>
    if b = [] then (l, m, 0)
    else if (c.more l b).pend.length < c.rm then (c.more l b, m, 0)
    else if (c.wr (c.more l b) m).2.2 ≠ 0 then c.wr (c.more l b) m
    else c.app f (c.wr (c.more l b) m).1 (c.wr (c.more l b) m).2.1 (b.drop (min b.length (c.rm - l.pend.length)))
def Lc.first (c : Lc) (l : Lg) (m : Dev) (n : Nat) : Lg × Dev × Int := if c.S * c.rm < l.at_ + n then c.begin_ l m else (l, m, 0)
/-- .. behind the first step -/
def Lc.tail (c : Lc) (r : Lg × Dev × Int) (b : List UInt8) : Lg × Dev × (Nat × Nat × Nat) × Int :=
  if r.2.2 ≠ 0 then (r.1, r.2.1, (0, 0, 0), r.2.2)
  else if (c.app b.length r.1 r.2.1 b).2.2 ≠ 0 then ((c.app b.length r.1 r.2.1 b).1, (c.app b.length r.1 r.2.1 b).2.1, (0, 0, 0), (c.app b.length r.1 r.2.1 b).2.2)
  else ((c.app b.length r.1 r.2.1 b).1, (c.app b.length r.1 r.2.1 b).2.1, (r.1.last, r.1.at_, b.length), 0)
/-- the log and the device, where it stands, an error's number -/
def Lc.append (c : Lc) (l : Lg) (m : Dev) (b : List UInt8) : Lg × Dev × (Nat × Nat × Nat) × Int :=
  if b.length = 0 then (l, m, (0, 0, 0), 1)
  else if c.S * c.rm < b.length then (l, m, (0, 0, 0), 9)
  else c.tail (c.first l m b.length) b
/-- where a log may be between calls -/
structure Lg.Fit (c : Lc) (l : Lg) : Prop where
  at_ : l.at_ ≤ c.S * c.rm
  pend : l.pend.length = l.at_ % c.rm
  last : l.last ≤ 4398046511104

def lgCells (c : Lc) (g : Nat) (l : Lg) (pv : Value) : Array Value :=
  #[.pointer (some ⟨g, 0, none⟩), c.x 1, c.x 2, .int .i64 (c.R : Int), .int .i64 (c.S : Int), c.x 5, c.x 6, c.x 7, c.x 8, c.x 9, .int .i64 (c.base : Int), c.x 11, c.x 12, c.x 13, c.x 14, c.x 15, .int .i64 ((c.S * c.rm : Nat) : Int), .int .i64 (c.rm : Int), .int .i64 (l.last : Int), .int .i64 (l.at_ : Int), pv]

def RowL (w : World) (gl : Nat) (c : Lc) (g : Nat) (l : Lg) (pv : Value) : Prop := w.heap[gl]? = some (.cells (lgCells c g l pv) 207 (0, 0))
section
variable {w w' : World} {gl g : Nat} {c : Lc} {l : Lg} {pv : Value}
theorem RowL.k0 (h : RowL w gl c g l pv) : w.cell? ⟨gl, 0, none⟩ = some (.pointer (some ⟨g, 0, none⟩)) := by rw [cell_of_row _ _ _ _ _ _ h]; rfl
theorem RowL.k3 (h : RowL w gl c g l pv) : w.cell? ⟨gl, 3, none⟩ = some (.int .i64 (c.R : Int)) := by rw [cell_of_row _ _ _ _ _ _ h]; rfl
theorem RowL.k4 (h : RowL w gl c g l pv) : w.cell? ⟨gl, 4, none⟩ = some (.int .i64 (c.S : Int)) := by rw [cell_of_row _ _ _ _ _ _ h]; rfl
theorem RowL.k10 (h : RowL w gl c g l pv) : w.cell? ⟨gl, 10, none⟩ = some (.int .i64 (c.base : Int)) := by rw [cell_of_row _ _ _ _ _ _ h]; rfl
theorem RowL.k16 (h : RowL w gl c g l pv) : w.cell? ⟨gl, 16, none⟩ = some (.int .i64 ((c.S * c.rm : Nat) : Int)) := by rw [cell_of_row _ _ _ _ _ _ h]; rfl
theorem RowL.k17 (h : RowL w gl c g l pv) : w.cell? ⟨gl, 17, none⟩ = some (.int .i64 (c.rm : Int)) := by rw [cell_of_row _ _ _ _ _ _ h]; rfl
theorem RowL.k18 (h : RowL w gl c g l pv) : w.cell? ⟨gl, 18, none⟩ = some (.int .i64 (l.last : Int)) := by rw [cell_of_row _ _ _ _ _ _ h]; rfl
theorem RowL.k19 (h : RowL w gl c g l pv) : w.cell? ⟨gl, 19, none⟩ = some (.int .i64 (l.at_ : Int)) := by rw [cell_of_row _ _ _ _ _ _ h]; rfl
theorem RowL.k20 (h : RowL w gl c g l pv) : w.cell? ⟨gl, 20, none⟩ = some pv := by rw [cell_of_row _ _ _ _ _ _ h]; rfl
theorem RowL.free (h : RowL w gl c g l pv) (j : Nat) : w.frozen? ⟨gl, j, none⟩ = false := frozen_of_row _ _ _ _ _ h
theorem RowL.keep {S : List Nat} (h : RowL w gl c g l pv) (k : Keep S w w') (hS : gl ∉ S) : RowL w' gl c g l pv := k.blk hS h
theorem RowL.last (h : RowL w gl c g l pv) (n : Nat) : RowL (w.setCell ⟨gl, 18, none⟩ (.int .i64 (n : Int))) gl c g { l with last := n } pv := heap_setCell_same _ _ _ _ _ _ h
theorem RowL.at_ (h : RowL w gl c g l pv) (n : Nat) : RowL (w.setCell ⟨gl, 19, none⟩ (.int .i64 (n : Int))) gl c g { l with at_ := n } pv := heap_setCell_same _ _ _ _ _ _ h
theorem RowL.pend (h : RowL w gl c g l pv) (v : Value) (b : List UInt8) : RowL (w.setCell ⟨gl, 20, none⟩ v) gl c g { l with pend := b } v := heap_setCell_same _ _ _ _ _ _ h
end

/-- a log in memory, in the blocks E; its device in D -/
structure RVAt (w : World) (D E : List Nat) (gl g : Nat) (c : Lc) (l : Lg) (m : Dev) (pv : Value) : Prop where
  dv : DV w D g m
  row : RowL w gl c g l pv
  own : OwnB w 0 5 pv l.pend
  inE : inD E pv
  gl : gl ∈ E
  apart : ∀ b ∈ E, b ∉ D
  lt : ∀ b ∈ E, b < w.heap.size
  ok : c.Ok m
def RV (w : World) (D E : List Nat) (gl g : Nat) (c : Lc) (l : Lg) (m : Dev) : Prop := ∃ pv, RVAt w D E gl g c l m pv
section
variable {w w' : World} {D D' E E' S : List Nat} {gl g : Nat} {c : Lc} {l l' : Lg} {m m' : Dev} {pv pv' : Value}
theorem RVAt.ne (h : RVAt w D E gl g c l m pv) : ∀ b, pv.ownBlock = some b → b ≠ gl := fun b hb e => by
  subst e
  exact h.own.ne_row h.row (by decide) hb
theorem RVAt.keep (h : RVAt w D E gl g c l m pv) (k : Keep S w w') (hS : ∀ b ∈ S, b ∉ D ∧ b ∉ E) : RVAt w' D E gl g c l m pv :=
  { dv := h.dv.keep k (fun b hb => (hS b hb).1), row := h.row.keep k (fun hm => (hS _ hm).2 h.gl), own := h.own.keep k (fun b hb hm => (hS b hm).2 (h.inE b hb)), inE := h.inE, gl := h.gl, apart := h.apart, lt := fun b hb => Nat.lt_of_lt_of_le (h.lt b hb) k.size, ok := h.ok }
theorem RV.keep (h : RV w D E gl g c l m) (k : Keep S w w') (hS : ∀ b ∈ S, b ∉ D ∧ b ∉ E) : RV w' D E gl g c l m := by
  obtain ⟨pv, h⟩ := h
  exact ⟨pv, h.keep k hS⟩
/-- the log's own cells are written -/
theorem RVAt.turn (h : RVAt w D E gl g c l m pv) (k : Keep S w w') (hS : ∀ b ∈ S, b = gl ∨ pv.ownBlock = some b ∨ w.heap.size ≤ b) (hr : RowL w' gl c g l' pv') (ho : OwnB w' 0 5 pv' l'.pend) (hE : ∀ b ∈ E, b ∈ E') (hE2 : ∀ b ∈ E', b ∈ E ∨ (w.heap.size ≤ b ∧ b < w'.heap.size)) (hi : inD E' pv') : RVAt w' D E' gl g c l' m pv' := by
  have hlt := h.dv.lt
  refine { dv := h.dv.keep k (fun b hb hm => ?_), row := hr, own := ho, inE := hi, gl := hE _ h.gl, apart := fun b hb hm => ?_, lt := fun b hb => ?_, ok := h.ok }
  · rcases hS b hb with rfl | e | e
    · exact h.apart _ h.gl hm
    · exact h.apart _ (h.inE b e) hm
    · have := hlt b hm; omega
  · rcases hE2 b hb with h1 | h1
    · exact h.apart b h1 hm
    · have := hlt b hm; omega
  · rcases hE2 b hb with h1 | h1
    · exact Nat.lt_of_lt_of_le (h.lt b h1) k.size
    · exact h1.2
end
end Go.Proofs.Ytjkjiabfhhnngaa
