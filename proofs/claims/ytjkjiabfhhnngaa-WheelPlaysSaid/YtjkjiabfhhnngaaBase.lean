import Derived.WalkKit
import Derived.Laws.AppendOwn
import Derived.Laws.OwnMore
/-! General words and laws over any program: what stays of a world; bytes that a slice shows. -/
namespace Sg
open Go Go.RowKit

/-- All blocks that were there, but those of S, are as they were. -/
structure Keep (S : List Nat) (w w' : World) : Prop where
  os : w'.os = w.os
  tape : w'.tape = w.tape
  output : w'.output = w.output
  size : w.heap.size ≤ w'.heap.size
  block : ∀ k, k < w.heap.size → k ∉ S → w'.heap[k]? = w.heap[k]?

theorem Keep.refl (S : List Nat) (w : World) : Keep S w w := ⟨rfl, rfl, rfl, Nat.le_refl _, fun _ _ _ => rfl⟩
theorem Keep.trans {S : List Nat} {a b c : World} (h : Keep S a b) (k : Keep S b c) : Keep S a c :=
  ⟨k.os.trans h.os, k.tape.trans h.tape, k.output.trans h.output, Nat.le_trans h.size k.size,
   fun i hi hs => (k.block i (Nat.lt_of_lt_of_le hi h.size) hs).trans (h.block i hi hs)⟩
theorem Keep.mono {S T : List Nat} {w w' : World} (h : Keep S w w') (hs : ∀ k, k ∈ S → k ∈ T) : Keep T w w' :=
  ⟨h.os, h.tape, h.output, h.size, fun k hk hn => h.block k hk (fun e => hn (hs k e))⟩
theorem Keep.drew {S : List Nat} {a w : World} (h : Keep S a w) : Keep S a w.drew := ⟨h.os, h.tape, h.output, h.size, h.block⟩
theorem Keep.alloc {S : List Nat} {a w : World} (h : Keep S a w) (o : Obj) : Keep S a (w.alloc o) :=
  h.trans ⟨rfl, rfl, rfl, by simp, fun k hk _ => Below.heap_alloc _ _ _ hk⟩
theorem Keep.setCell {S : List Nat} {a w : World} (h : Keep S a w) {p : Addr} (hp : p.block ∈ S ∨ a.heap.size ≤ p.block) (u : Value) : Keep S a (w.setCell p u) :=
  ⟨h.os, h.tape, h.output, by simpa using h.size, fun k hk hs => by
    rw [Below.heap_setCell _ _ _ _ (by rintro rfl; rcases hp with hp | hp; exact hs hp; omega)]
    exact h.block k hk hs⟩
theorem Keep.setRow {S : List Nat} {a w : World} (h : Keep S a w) {g : Nat} (hp : g ∈ S ∨ a.heap.size ≤ g) (cs : Array Value) : Keep S a (w.setRow g cs) :=
  ⟨h.os, h.tape, h.output, by simpa using h.size, fun k hk hs => by
    rw [setRow_other w g k cs (by rintro rfl; rcases hp with hp | hp; exact hs hp; omega)]
    exact h.block k hk hs⟩
theorem Keep.below {S : List Nat} {w w' : World} {B : Nat} (h : Keep S w w') (hB : B ≤ w.heap.size) (hs : ∀ k, k ∈ S → B ≤ k) : Below B w w' :=
  ⟨h.os, h.tape, h.output, h.size, fun k hk => h.block k (by omega) (fun e => by have := hs k e; omega)⟩
theorem Keep.of_below {w w' : World} {B : Nat} (h : Below B w w') (hB : w.heap.size ≤ B) : Keep [] w w' :=
  ⟨h.os, h.tape, h.output, h.size, fun k hk _ => h.block k (by omega)⟩
theorem Keep.cell {S : List Nat} {w w' : World} (h : Keep S w w') {p : Addr} (hp : p.block ∉ S) {v : Value} (hv : w.cell? p = some v) : w'.cell? p = some v := by
  have hlt := World.block_lt_of_cell? w p hv
  rw [World.cell?_of_block (w := w) (h.block p.block hlt hp)]; exact hv
theorem Keep.blk {S : List Nat} {w w' : World} (h : Keep S w w') {b : Nat} {o : Obj} (hp : b ∉ S) (hv : w.heap[b]? = some o) : w'.heap[b]? = some o :=
  (h.block b (Array.getElem?_eq_some_iff.1 hv).1 hp).trans hv
/-- What happens to blocks that were not there counts for nothing. -/
theorem Keep.fresh {S T : List Nat} {w w' : World} (h : Keep S w w') (hs : ∀ k, k ∈ S → k ∈ T ∨ w.heap.size ≤ k) : Keep T w w' :=
  ⟨h.os, h.tape, h.output, h.size, fun k hk hn => h.block k hk (fun e => (hs k e).elim hn (fun h' => by omega))⟩

/-- A slice shows these bytes. -/
def Bytes (w : World) (v : Value) (l : List UInt8) : Prop :=
  ∃ ao cap, v = .slice ao l.length cap ∧ l.length ≤ cap ∧ (cap ≤ 9223372036854775807 ∧ l.length ≤ 140737488355328) ∧ (ao = none → l = []) ∧
    ∀ ad, ao = some ad → ∀ i (h : i < l.length), w.cell? (ad.add i) = some (.int .u8 (l[i].toNat : Int))
theorem Bytes.nil (w : World) : Bytes w (.slice none 0 0) [] := ⟨none, 0, rfl, by simp, ⟨by decide, by decide⟩, fun _ => rfl, fun _ h => by cases h⟩
theorem Bytes.keep {S : List Nat} {w w' : World} {v : Value} {l : List UInt8} (h : Bytes w v l) (k : Keep S w w') (hv : ∀ b, v.ownBlock = some b → b ∉ S) : Bytes w' v l := by
  obtain ⟨ao, cap, rfl, h1, h2, h3, h4⟩ := h
  refine ⟨ao, cap, rfl, h1, h2, h3, fun ad e i hi => k.cell ?_ (h4 ad e i hi)⟩
  subst e
  have := hv ad.block rfl
  have e : (ad.add i).block = ad.block := by unfold Addr.add; split <;> rfl
  rw [e]; exact this
theorem Bytes.lt {w : World} {v : Value} {l : List UInt8} (h : Bytes w v l) (hl : l ≠ []) : ∀ b, v.ownBlock = some b → b < w.heap.size := by
  obtain ⟨ao, cap, rfl, h1, h2, h3, h4⟩ := h
  intro b hb
  cases ao with
  | none => simp [Value.ownBlock] at hb
  | some ad =>
    simp [Value.ownBlock] at hb
    subst hb
    have := h4 ad rfl 0 (List.length_pos_iff.2 hl)
    rw [show ad.add 0 = ad by simp [Addr.add]] at this
    exact World.block_lt_of_cell? w ad this
/-- No bytes; or a row of cells. -/
theorem Bytes.cases {w : World} {v : Value} {l : List UInt8} (h : Bytes w v l) :
    (l = [] ∧ ∃ ao cap, v = .slice ao 0 cap) ∨
    (0 < l.length ∧ ∃ b o cap, v = .slice (some ⟨b, o, none⟩) l.length cap ∧ l.length ≤ cap ∧ (cap ≤ 9223372036854775807 ∧ l.length ≤ 140737488355328) ∧ b < w.heap.size ∧
      ∀ i (h : i < l.length), w.cell? ⟨b, o + i, none⟩ = some (.int .u8 (l[i].toNat : Int))) := by
  have hlt := h.lt
  obtain ⟨ao, cap, rfl, h1, h2, h3, h4⟩ := h
  by_cases hl : l = []
  · subst hl
    exact .inl ⟨rfl, ao, cap, rfl⟩
  · right
    refine ⟨List.length_pos_iff.2 hl, ?_⟩
    cases ao with
    | none => exact absurd (h3 rfl) hl
    | some ad =>
      have h0 := h4 ad rfl 0 (List.length_pos_iff.2 hl)
      rw [show ad.add 0 = ad by simp [Addr.add]] at h0
      have hs : ad.spot = none := by
        cases hsp : ad.spot with
        | none => rfl
        | some x =>
          unfold World.cell? at h0
          split at h0
          · simp [hsp] at h0
          · cases h0
      obtain ⟨b, o, sp⟩ := ad
      simp only at hs
      subst hs
      refine ⟨b, o, cap, rfl, h1, h2, hlt hl b rfl, fun i hi => ?_⟩
      have := h4 _ rfl i hi
      rwa [Addr.add_lit] at this
theorem Bytes.form {w : World} {v : Value} {l : List UInt8} (h : Bytes w v l) : ∃ ao cap, v = .slice ao l.length cap ∧ l.length ≤ cap ∧ l.length ≤ 140737488355328 ∧ cap ≤ 9223372036854775807 := by
  obtain ⟨ao, cap, rfl, h1, h2, _⟩ := h
  exact ⟨ao, cap, rfl, h1, h2.2, h2.1⟩
theorem Bytes.spot {w : World} {ao : Option Addr} {n cap : Nat} {l : List UInt8} (h : Bytes w (.slice ao n cap) l) (hl : 0 < l.length) :
    ∃ b o, ao = some ⟨b, o, none⟩ ∧ b < w.heap.size ∧ ∀ i (h : i < l.length), w.cell? ⟨b, o + i, none⟩ = some (.int .u8 (l[i].toNat : Int)) := by
  rcases h.cases with ⟨rfl, _⟩ | ⟨_, b, o, c, e, _, _, h1, h2⟩
  · simp at hl
  · cases e; exact ⟨b, o, rfl, h1, h2⟩

theorem Bytes.take {w : World} {ao : Option Addr} {n cap : Nat} {l : List UInt8} (h : Bytes w (.slice ao n cap) l) {k : Nat} (hk : k ≤ l.length) : Bytes w (.slice ao k cap) (l.take k) := by
  obtain ⟨ao', cap', e, h1, h2, h3, h4⟩ := h
  cases e
  have hl : (l.take k).length = k := by simp; omega
  refine ⟨ao, cap, by rw [hl], by omega, by omega, fun e => by simp [h3 e], fun ad e i hi => ?_⟩
  rw [hl] at hi
  have := h4 ad e i (by omega)
  simpa using this
theorem Bytes.drop {w : World} {ao : Option Addr} {n cap : Nat} {l : List UInt8} (h : Bytes w (.slice ao n cap) l) {k : Nat} (hk : k ≤ l.length) : Bytes w (.slice (if cap = k then ao else ao.map (·.add k)) (l.length - k) (cap - k)) (l.drop k) := by
  obtain ⟨ao', cap', e, h1, h2, h3, h4⟩ := h
  cases e
  have hl : (l.drop k).length = l.length - k := by simp
  refine ⟨_, cap - k, by rw [hl], by omega, by omega, fun e => ?_, fun ad e i hi => ?_⟩
  · split at e
    · simp [h3 e]
    · have : ao = none := by cases ao <;> simp_all
      simp [h3 this]
  · rw [hl] at hi
    split at e
    · rename_i hc; omega
    · cases ao with
      | none => simp at e
      | some a0 =>
        simp at e
        subst e
        have := h4 a0 rfl (k + i) (by omega)
        have e2 : (a0.add k).add i = a0.add (k + i) := by
          unfold Addr.add
          by_cases hk0 : k = 0
          · subst hk0; simp
          · by_cases hi0 : i = 0
            · subst hi0; simp [hk0]
            · simp [hk0, hi0, Nat.add_assoc]
        rw [e2, this]
        simp
def u8v (x : UInt8) : Value := .int .u8 (x.toNat : Int)
theorem Bytes.row {w : World} {g : Nat} {l : List UInt8} {cs : Array Value} {t : TypeId} {fr : Nat × Nat} {cap : Nat} (hg : w.heap[g]? = some (.cells cs t fr)) (hc : ∀ i (h : i < l.length), cs[i]? = some (u8v l[i]))
    (h1 : l.length ≤ cap) (h2 : cap ≤ 9223372036854775807 ∧ l.length ≤ 140737488355328) : Bytes w (.slice (some ⟨g, 0, none⟩) l.length cap) l := by
  refine ⟨some ⟨g, 0, none⟩, cap, rfl, h1, h2, by simp, ?_⟩
  intro ad e i hi
  cases e
  rw [Addr.add_lit, Nat.zero_add, cell_of_row _ _ _ _ _ _ hg, hc i hi]
  rfl

/-- A slice shows these slices of bytes: each its value, and its bytes. -/
def Pieces (w : World) (v : Value) (ps : List (Value × List UInt8)) : Prop :=
  ∃ ao cap, v = .slice ao ps.length cap ∧ ps.length ≤ cap ∧ (cap ≤ 9223372036854775807 ∧ ps.length ≤ 140737488355328) ∧ (ao = none → ps = []) ∧
    ∀ ad, ao = some ad → ∀ i (h : i < ps.length), w.cell? (ad.add i) = some ps[i].1 ∧ Bytes w ps[i].1 ps[i].2
theorem Pieces.nil (w : World) : Pieces w (.slice none 0 0) [] := ⟨none, 0, rfl, by simp, ⟨by decide, by decide⟩, fun _ => rfl, fun _ h => by cases h⟩
theorem Pieces.keep {S : List Nat} {w w' : World} {v : Value} {ps : List (Value × List UInt8)} (h : Pieces w v ps) (k : Keep S w w') (hv : ∀ b, v.ownBlock = some b → b ∉ S)
    (hp : ∀ p, p ∈ ps → ∀ b, p.1.ownBlock = some b → b ∉ S) : Pieces w' v ps := by
  obtain ⟨ao, cap, rfl, h1, h2, h3, h4⟩ := h
  refine ⟨ao, cap, rfl, h1, h2, h3, fun ad e i hi => ?_⟩
  obtain ⟨g1, g2⟩ := h4 ad e i hi
  refine ⟨k.cell ?_ g1, g2.keep k (hp _ (List.getElem_mem _))⟩
  subst e
  have := hv ad.block rfl
  have e : (ad.add i).block = ad.block := by unfold Addr.add; split <;> rfl
  rw [e]; exact this
theorem Pieces.spot {w : World} {ao : Option Addr} {n cap : Nat} {ps : List (Value × List UInt8)} (h : Pieces w (.slice ao n cap) ps) (hl : 0 < ps.length) :
    ∃ b o, ao = some ⟨b, o, none⟩ ∧ b < w.heap.size ∧ ∀ i (h : i < ps.length), w.cell? ⟨b, o + i, none⟩ = some ps[i].1 ∧ Bytes w ps[i].1 ps[i].2 := by
  obtain ⟨ao', cap', e, h1, h2, h3, h4⟩ := h
  cases e
  cases ao with
  | none => rw [h3 rfl] at hl; simp at hl
  | some ad =>
    have h0 := (h4 ad rfl 0 hl).1
    rw [show ad.add 0 = ad by simp [Addr.add]] at h0
    have hs : ad.spot = none := by
      cases hsp : ad.spot with
      | none => rfl
      | some x =>
        unfold World.cell? at h0
        split at h0
        · simp [hsp] at h0
        · cases h0
    obtain ⟨b, o, sp⟩ := ad
    simp only at hs
    subst hs
    refine ⟨b, o, rfl, World.block_lt_of_cell? w _ h0, fun i hi => ?_⟩
    have := h4 _ rfl i hi
    rwa [Addr.add_lit] at this
theorem Pieces.row {w : World} {g : Nat} {ps : List (Value × List UInt8)} {cs : Array Value} {t : TypeId} {fr : Nat × Nat} {cap : Nat} (hg : w.heap[g]? = some (.cells cs t fr)) (hc : ∀ i (h : i < ps.length), cs[i]? = some ps[i].1)
    (hb : ∀ p ∈ ps, Bytes w p.1 p.2) (h1 : ps.length ≤ cap) (h2 : cap ≤ 9223372036854775807 ∧ ps.length ≤ 140737488355328) : Pieces w (.slice (some ⟨g, 0, none⟩) ps.length cap) ps := by
  refine ⟨some ⟨g, 0, none⟩, cap, rfl, h1, h2, by simp, ?_⟩
  intro ad e i hi
  cases e
  refine ⟨?_, hb _ (List.getElem_mem _)⟩
  rw [Addr.add_lit, Nat.zero_add, cell_of_row _ _ _ _ _ _ hg, hc i hi]

/-- A slice of bytes of the call's own: nil, or the head of a row in a block from 'base' on. -/
def OwnB (w : World) (base : Nat) (e : TypeId) (v : Value) (l : List UInt8) : Prop := w.ownsRow base e 1 v l.length (l.map u8v)
theorem OwnB.nil (w : World) (base : Nat) (e : TypeId) : OwnB w base e (.slice none 0 0) [] := World.ownsRow_nil w base e 1
theorem OwnB.bytes {w : World} {base : Nat} {e : TypeId} {v : Value} {l : List UInt8} (h : OwnB w base e v l) (hl : l.length ≤ 140737488355328) : Bytes w v l := by
  rcases h.2 with ⟨rfl, h0⟩ | ⟨g, cap, cur, rfl, hb, hg, hn, hm, hs, ht⟩
  · have : l = [] := List.eq_nil_of_length_eq_zero h0
    subst this
    exact Bytes.nil w
  · refine ⟨some ⟨g, 0, none⟩, cap, rfl, hn, ⟨by simpa [maxLen] using hm, hl⟩, by simp, fun ad e' i hi => ?_⟩
    cases e'
    exact World.ownsRow.cells (g := g) h rfl i (u8v l[i]) (by simp [hi])
theorem OwnB.keep {w w' : World} {S : List Nat} {base : Nat} {e : TypeId} {v : Value} {l : List UInt8} (h : OwnB w base e v l) (k : Keep S w w') (hs : ∀ b, v.ownBlock = some b → b ∉ S) : OwnB w' base e v l := by
  refine ⟨h.1, ?_⟩
  rcases h.2 with hn | ⟨g, cap, cur, rfl, hb, hg, rest⟩
  · exact .inl hn
  · exact .inr ⟨g, cap, cur, rfl, hb, k.blk (hs g rfl) hg, rest⟩
theorem OwnB.base {w : World} {base base' : Nat} {e : TypeId} {v : Value} {l : List UInt8} (h : OwnB w base e v l) (hb : base' ≤ base) : OwnB w base' e v l := by
  refine ⟨h.1, ?_⟩
  rcases h.2 with hn | ⟨g, cap, cur, rfl, hb', rest⟩
  · exact .inl hn
  · exact .inr ⟨g, cap, cur, rfl, Nat.le_trans hb hb', rest⟩
theorem Keep.grown {w w' : World} {row : Option Nat} (hg : w.grownBy w' row) : Keep row.toList w w' :=
  ⟨hg.os, hg.tape, hg.output, hg.size, fun k hk hs => hg.block k hk (fun e => hs (by rw [← e]; simp))⟩

/-- append(own bytes, bytes...) -/
theorem run_append_bytes {P : Program} {w : World} (base : Nat) {t ty e : TypeId} (ht : P.underlying t = some (.slice e)) (hi : (P.info? e).map (fun i => (i.zero, i.size, i.bytes)) = some (some (.int .u8 0), 1, 1))
    {v src : Value} {xs l : List UInt8} (hown : OwnB w base e v xs) (hsrc : Bytes w src l) (hn : xs.length + l.length ≤ 140737488355328) (hbase : base ≤ w.heap.size) :
    ∃ v' w', (Builtin.append_ #[t, t] ty #[v, src]).run P w = .ok v' w' ∧ OwnB w' base e v' (xs ++ l) ∧ Keep v.ownBlock.toList w w' ∧ (v' = .slice none 0 0 ↔ v = .slice none 0 0 ∧ l = []) := by
  obtain ⟨i, hi1, hz, hs1, hb1⟩ := info_parts hi
  obtain ⟨ao, cap, rfl, h1, h2, h3, h4⟩ := hsrc
  cases ao with
  | none =>
    have hl : l = [] := h3 rfl
    subst hl
    refine ⟨v, w, ?_, by simpa using hown, Keep.refl _ _, by simp⟩
    rcases hown.2 with ⟨rfl, h0⟩ | ⟨g, c, cur, rfl, _, _, hnc, _⟩
    · simp [Builtin.append_, run_underlying ht, Go.sizeOf, typeInfo, hi1, Builtin.lenOf, Builtin.firstCells]
    · simp [Builtin.append_, run_underlying ht, Go.sizeOf, typeInfo, hi1, Builtin.lenOf, Builtin.firstCells, hnc, storeCells]
  | some ad =>
    obtain ⟨v', w', hrun, hown', hg, hnil⟩ := run_append_own (P := P) w base t ty e i (.int .u8 0) 1 1 ht hi1 hz hs1 hb1 rfl (by decide) v xs.length (xs.map u8v) hown ad l.length cap (l.map u8v) (by simp)
      (fun j u hu => by
        have hj : j < l.length := by have := (List.getElem?_eq_some_iff.1 hu).1; simpa using this
        rw [h4 ad rfl j hj]
        simp [hj] at hu
        rw [← hu]; rfl)
      (by intro u hu; obtain ⟨x, _, rfl⟩ := List.mem_map.1 hu; rfl) (by simp [maxLen]; omega) (by omega) hbase
    refine ⟨v', w', hrun, ?_, Keep.grown hg, by rw [hnil]; simp⟩
    show World.ownsRow _ _ _ _ _ _ _
    simpa using hown'
end Sg
