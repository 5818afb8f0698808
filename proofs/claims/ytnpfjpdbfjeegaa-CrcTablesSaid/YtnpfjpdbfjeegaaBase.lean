import Derived.WalkKit
/-! General words and laws over any program: what stays of a world; bytes that a slice shows. -/
namespace Sg
open Go Go.RowKit

/-- All blocks that were there, but those of S, are as they were. -/
structure Keep (S : List Nat) (w w' : World) : Prop where
  os : w'.os = w.os
  tape : w'.tape = w.tape
  output : w'.output = w.output
  size : w.heap.size ≤ w'.heap.size
  block : ∀ k, k < w.heap.size → k ∉ S → w'.heap[k]? = w.heap[k]?

theorem Keep.refl (S : List Nat) (w : World) : Keep S w w := ⟨rfl, rfl, rfl, Nat.le_refl _, fun _ _ _ => rfl⟩
theorem Keep.trans {S : List Nat} {a b c : World} (h : Keep S a b) (k : Keep S b c) : Keep S a c :=
  ⟨k.os.trans h.os, k.tape.trans h.tape, k.output.trans h.output, Nat.le_trans h.size k.size,
   fun i hi hs => (k.block i (Nat.lt_of_lt_of_le hi h.size) hs).trans (h.block i hi hs)⟩
theorem Keep.mono {S T : List Nat} {w w' : World} (h : Keep S w w') (hs : ∀ k, k ∈ S → k ∈ T) : Keep T w w' :=
  ⟨h.os, h.tape, h.output, h.size, fun k hk hn => h.block k hk (fun e => hn (hs k e))⟩
theorem Keep.drew {S : List Nat} {a w : World} (h : Keep S a w) : Keep S a w.drew := ⟨h.os, h.tape, h.output, h.size, h.block⟩
theorem Keep.alloc {S : List Nat} {a w : World} (h : Keep S a w) (o : Obj) : Keep S a (w.alloc o) :=
  h.trans ⟨rfl, rfl, rfl, by simp, fun k hk _ => Below.heap_alloc _ _ _ hk⟩
theorem Keep.setCell {S : List Nat} {a w : World} (h : Keep S a w) {p : Addr} (hp : p.block ∈ S ∨ a.heap.size ≤ p.block) (u : Value) : Keep S a (w.setCell p u) :=
  ⟨h.os, h.tape, h.output, by simpa using h.size, fun k hk hs => by
    rw [Below.heap_setCell _ _ _ _ (by rintro rfl; rcases hp with hp | hp; exact hs hp; omega)]
    exact h.block k hk hs⟩
theorem Keep.setRow {S : List Nat} {a w : World} (h : Keep S a w) {g : Nat} (hp : g ∈ S ∨ a.heap.size ≤ g) (cs : Array Value) : Keep S a (w.setRow g cs) :=
  ⟨h.os, h.tape, h.output, by simpa using h.size, fun k hk hs => by
    rw [setRow_other w g k cs (by rintro rfl; rcases hp with hp | hp; exact hs hp; omega)]
    exact h.block k hk hs⟩
theorem Keep.below {S : List Nat} {w w' : World} {B : Nat} (h : Keep S w w') (hB : B ≤ w.heap.size) (hs : ∀ k, k ∈ S → B ≤ k) : Below B w w' :=
  ⟨h.os, h.tape, h.output, h.size, fun k hk => h.block k (by omega) (fun e => by have := hs k e; omega)⟩
theorem Keep.of_below {w w' : World} {B : Nat} (h : Below B w w') (hB : w.heap.size ≤ B) : Keep [] w w' :=
  ⟨h.os, h.tape, h.output, h.size, fun k hk _ => h.block k (by omega)⟩
theorem Keep.cell {S : List Nat} {w w' : World} (h : Keep S w w') {p : Addr} (hp : p.block ∉ S) {v : Value} (hv : w.cell? p = some v) : w'.cell? p = some v := by
  have hlt := World.block_lt_of_cell? w p hv
  rw [World.cell?_of_block (w := w) (h.block p.block hlt hp)]; exact hv
theorem Keep.blk {S : List Nat} {w w' : World} (h : Keep S w w') {b : Nat} {o : Obj} (hp : b ∉ S) (hv : w.heap[b]? = some o) : w'.heap[b]? = some o :=
  (h.block b (Array.getElem?_eq_some_iff.1 hv).1 hp).trans hv
/-- What happens to blocks that were not there counts for nothing. -/
theorem Keep.fresh {S T : List Nat} {w w' : World} (h : Keep S w w') (hs : ∀ k, k ∈ S → k ∈ T ∨ w.heap.size ≤ k) : Keep T w w' :=
  ⟨h.os, h.tape, h.output, h.size, fun k hk hn => h.block k hk (fun e => (hs k e).elim hn (fun h' => by omega))⟩

/-- A slice shows these bytes. -/
def Bytes (w : World) (v : Value) (l : List UInt8) : Prop :=
  ∃ ao cap, v = .slice ao l.length cap ∧ l.length ≤ cap ∧ cap ≤ 140737488355328 ∧ (ao = none → l = []) ∧
    ∀ ad, ao = some ad → ∀ i (h : i < l.length), w.cell? (ad.add i) = some (.int .u8 (l[i].toNat : Int))
theorem Bytes.nil (w : World) : Bytes w (.slice none 0 0) [] := ⟨none, 0, rfl, by simp, by decide, fun _ => rfl, fun _ h => by cases h⟩
theorem Bytes.keep {S : List Nat} {w w' : World} {v : Value} {l : List UInt8} (h : Bytes w v l) (k : Keep S w w') (hv : ∀ b, v.ownBlock = some b → b ∉ S) : Bytes w' v l := by
  obtain ⟨ao, cap, rfl, h1, h2, h3, h4⟩ := h
  refine ⟨ao, cap, rfl, h1, h2, h3, fun ad e i hi => k.cell ?_ (h4 ad e i hi)⟩
  subst e
  have := hv ad.block rfl
  have e : (ad.add i).block = ad.block := by unfold Addr.add; split <;> rfl
  rw [e]; exact this
theorem Bytes.lt {w : World} {v : Value} {l : List UInt8} (h : Bytes w v l) (hl : l ≠ []) : ∀ b, v.ownBlock = some b → b < w.heap.size := by
  obtain ⟨ao, cap, rfl, h1, h2, h3, h4⟩ := h
  intro b hb
  cases ao with
  | none => simp [Value.ownBlock] at hb
  | some ad =>
    simp [Value.ownBlock] at hb
    subst hb
    have := h4 ad rfl 0 (List.length_pos_iff.2 hl)
    rw [show ad.add 0 = ad by simp [Addr.add]] at this
    exact World.block_lt_of_cell? w ad this
/-- No bytes; or a row of cells. -/
theorem Bytes.cases {w : World} {v : Value} {l : List UInt8} (h : Bytes w v l) :
    (l = [] ∧ ∃ ao cap, v = .slice ao 0 cap) ∨
    (0 < l.length ∧ ∃ b o cap, v = .slice (some ⟨b, o, none⟩) l.length cap ∧ l.length ≤ cap ∧ cap ≤ 140737488355328 ∧ b < w.heap.size ∧
      ∀ i (h : i < l.length), w.cell? ⟨b, o + i, none⟩ = some (.int .u8 (l[i].toNat : Int))) := by
  have hlt := h.lt
  obtain ⟨ao, cap, rfl, h1, h2, h3, h4⟩ := h
  by_cases hl : l = []
  · subst hl
    exact .inl ⟨rfl, ao, cap, rfl⟩
  · right
    refine ⟨List.length_pos_iff.2 hl, ?_⟩
    cases ao with
    | none => exact absurd (h3 rfl) hl
    | some ad =>
      have h0 := h4 ad rfl 0 (List.length_pos_iff.2 hl)
      rw [show ad.add 0 = ad by simp [Addr.add]] at h0
      have hs : ad.spot = none := by
        cases hsp : ad.spot with
        | none => rfl
        | some x =>
          unfold World.cell? at h0
          split at h0
          · simp [hsp] at h0
          · cases h0
      obtain ⟨b, o, sp⟩ := ad
      simp only at hs
      subst hs
      refine ⟨b, o, cap, rfl, h1, h2, hlt hl b rfl, fun i hi => ?_⟩
      have := h4 _ rfl i hi
      rwa [Addr.add_lit] at this
theorem Bytes.form {w : World} {v : Value} {l : List UInt8} (h : Bytes w v l) : ∃ ao cap, v = .slice ao l.length cap ∧ l.length ≤ cap ∧ l.length ≤ 140737488355328 ∧ cap ≤ 140737488355328 := by
  obtain ⟨ao, cap, rfl, h1, h2, _⟩ := h
  exact ⟨ao, cap, rfl, h1, by omega, h2⟩
theorem Bytes.spot {w : World} {ao : Option Addr} {n cap : Nat} {l : List UInt8} (h : Bytes w (.slice ao n cap) l) (hl : 0 < l.length) :
    ∃ b o, ao = some ⟨b, o, none⟩ ∧ b < w.heap.size ∧ ∀ i (h : i < l.length), w.cell? ⟨b, o + i, none⟩ = some (.int .u8 (l[i].toNat : Int)) := by
  rcases h.cases with ⟨rfl, _⟩ | ⟨_, b, o, c, e, _, _, h1, h2⟩
  · simp at hl
  · cases e; exact ⟨b, o, rfl, h1, h2⟩

def u8v (x : UInt8) : Value := .int .u8 (x.toNat : Int)
theorem Bytes.row {w : World} {g : Nat} {l : List UInt8} {cs : Array Value} {t : TypeId} {fr : Nat × Nat} {cap : Nat} (hg : w.heap[g]? = some (.cells cs t fr)) (hc : ∀ i (h : i < l.length), cs[i]? = some (u8v l[i]))
    (h1 : l.length ≤ cap) (h2 : cap ≤ 140737488355328) : Bytes w (.slice (some ⟨g, 0, none⟩) l.length cap) l := by
  refine ⟨some ⟨g, 0, none⟩, cap, rfl, h1, h2, by simp, ?_⟩
  intro ad e i hi
  cases e
  rw [Addr.add_lit, Nat.zero_add, cell_of_row _ _ _ _ _ _ hg, hc i hi]
  rfl

/-- A slice shows these slices of bytes: each its value, and its bytes. -/
def Pieces (w : World) (v : Value) (ps : List (Value × List UInt8)) : Prop :=
  ∃ ao cap, v = .slice ao ps.length cap ∧ ps.length ≤ cap ∧ cap ≤ 140737488355328 ∧ (ao = none → ps = []) ∧
    ∀ ad, ao = some ad → ∀ i (h : i < ps.length), w.cell? (ad.add i) = some ps[i].1 ∧ Bytes w ps[i].1 ps[i].2
theorem Pieces.nil (w : World) : Pieces w (.slice none 0 0) [] := ⟨none, 0, rfl, by simp, by decide, fun _ => rfl, fun _ h => by cases h⟩
theorem Pieces.keep {S : List Nat} {w w' : World} {v : Value} {ps : List (Value × List UInt8)} (h : Pieces w v ps) (k : Keep S w w') (hv : ∀ b, v.ownBlock = some b → b ∉ S)
    (hp : ∀ p, p ∈ ps → ∀ b, p.1.ownBlock = some b → b ∉ S) : Pieces w' v ps := by
  obtain ⟨ao, cap, rfl, h1, h2, h3, h4⟩ := h
  refine ⟨ao, cap, rfl, h1, h2, h3, fun ad e i hi => ?_⟩
  obtain ⟨g1, g2⟩ := h4 ad e i hi
  refine ⟨k.cell ?_ g1, g2.keep k (hp _ (List.getElem_mem _))⟩
  subst e
  have := hv ad.block rfl
  have e : (ad.add i).block = ad.block := by unfold Addr.add; split <;> rfl
  rw [e]; exact this
theorem Pieces.spot {w : World} {ao : Option Addr} {n cap : Nat} {ps : List (Value × List UInt8)} (h : Pieces w (.slice ao n cap) ps) (hl : 0 < ps.length) :
    ∃ b o, ao = some ⟨b, o, none⟩ ∧ b < w.heap.size ∧ ∀ i (h : i < ps.length), w.cell? ⟨b, o + i, none⟩ = some ps[i].1 ∧ Bytes w ps[i].1 ps[i].2 := by
  obtain ⟨ao', cap', e, h1, h2, h3, h4⟩ := h
  cases e
  cases ao with
  | none => rw [h3 rfl] at hl; simp at hl
  | some ad =>
    have h0 := (h4 ad rfl 0 hl).1
    rw [show ad.add 0 = ad by simp [Addr.add]] at h0
    have hs : ad.spot = none := by
      cases hsp : ad.spot with
      | none => rfl
      | some x =>
        unfold World.cell? at h0
        split at h0
        · simp [hsp] at h0
        · cases h0
    obtain ⟨b, o, sp⟩ := ad
    simp only at hs
    subst hs
    refine ⟨b, o, rfl, World.block_lt_of_cell? w _ h0, fun i hi => ?_⟩
    have := h4 _ rfl i hi
    rwa [Addr.add_lit] at this
end Sg
