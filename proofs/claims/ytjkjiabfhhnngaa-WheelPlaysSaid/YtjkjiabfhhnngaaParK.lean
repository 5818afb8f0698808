import Derived.Test.YtjkjiabfhhnngaaOwn
import Derived.Maps.AppendAt
import Derived.Test.YtjkjiabfhhnngaaHist
import Derived.Test.YtjkjiabfhhnngaaFlashA
/-! Rows of elements of k cells, of the call's own: over any program. -/
namespace Sg
open Go Go.RowKit
set_option linter.unusedSimpArgs false
set_option linter.unusedVariables false

/-- how an element lies: k cells, each of one value -/
structure Lies {α : Type} (enc : α → List Value) (k : Nat) : Prop where
  len : ∀ x, (enc x).length = k
  one : ∀ x, ∀ u ∈ enc x, u.oneCell' = true
/-- elements, one behind the other, in a block of the call's own from 'base' on; or nil -/
def RowE {α : Type} (enc : α → List Value) (k : Nat) (t : TypeId) (w : World) (base : Nat) (v : Value) (l : List α) : Prop := w.ownsRow base t k v l.length (l.flatMap enc)
section
variable {α : Type} {enc : α → List Value} {k : Nat} {t : TypeId} {w w' : World} {base base' : Nat} {v : Value} {l : List α}
theorem RowE.nil : RowE enc k t w base (.slice none 0 0) [] := World.ownsRow_nil w base _ k
theorem RowE.keep {S : List Nat} (h : RowE enc k t w base v l) (kp : Keep S w w') (hs : ∀ b, v.ownBlock = some b → b ∉ S) : RowE enc k t w' base v l := by
  refine ⟨h.1, ?_⟩
  rcases h.2 with hn | ⟨g, cap, cur, rfl, hb, hg, rest⟩
  · exact .inl hn
  · exact .inr ⟨g, cap, cur, rfl, hb, kp.blk (hs g rfl) hg, rest⟩
theorem RowE.rest {X : List Nat} (h : RowE enc k t w base v l) (kp : ∀ b ∈ X, w'.heap[b]? = w.heap[b]?) (hs : ∀ b, v.ownBlock = some b → b ∈ X) : RowE enc k t w' base v l := by
  refine ⟨h.1, ?_⟩
  rcases h.2 with hn | ⟨g, cap, cur, rfl, hb, hg, rest⟩
  · exact .inl hn
  · exact .inr ⟨g, cap, cur, rfl, hb, (kp g (hs g rfl)).trans hg, rest⟩
theorem RowE.lower (h : RowE enc k t w base v l) (hb : base' ≤ base) : RowE enc k t w base' v l := by
  refine ⟨h.1, ?_⟩
  rcases h.2 with hn | ⟨g, cap, cur, rfl, hb', rest⟩
  · exact .inl hn
  · exact .inr ⟨g, cap, cur, rfl, Nat.le_trans hb hb', rest⟩
theorem RowE.form (h : RowE enc k t w base v l) : ∃ a c, v = .slice a l.length c := by
  rcases h.2 with ⟨rfl, h0⟩ | ⟨g, cap, cur, rfl, -⟩
  · exact ⟨none, 0, by rw [h0]⟩
  · exact ⟨_, _, rfl⟩
theorem RowE.lt (h : RowE enc k t w base v l) : ∀ b, v.ownBlock = some b → base ≤ b ∧ b < w.heap.size ∧ ∃ cs, w.heap[b]? = some (.cells cs t (0, 0)) := by
  intro b hb
  rcases h.2 with ⟨rfl, -⟩ | ⟨g, cap, cur, rfl, h1, hg, -⟩
  · simp [Value.ownBlock] at hb
  · simp [Value.ownBlock] at hb
    subst hb
    exact ⟨h1, (Array.getElem?_eq_some_iff.1 hg).1, _, hg⟩
theorem RowE.ne (h : RowE enc k t w base v l) {B : Nat} {cs : Array Value} {u : TypeId} {fr : Nat × Nat} (hr : w.heap[B]? = some (.cells cs u fr)) (ht : u ≠ t) : v.ownBlock ≠ some B := fun e => by
  obtain ⟨-, -, cs2, h2⟩ := h.lt B e
  rw [hr] at h2
  injection h2 with h3
  injection h3 with _ h4
  exact ht h4
theorem flatK (L : Lies enc k) : ∀ (l : List α) (i j : Nat) (h : i < l.length), j < k → (l.flatMap enc)[i * k + j]? = (enc l[i])[j]?
  | [], i, j, h, _ => by simp at h
  | x :: l, i, j, h, hj => by
    rw [List.flatMap_cons]
    match i with
    | 0 =>
      rw [List.getElem?_append_left (by rw [L.len]; omega)]
      simp
    | i + 1 =>
      rw [List.getElem?_append_right (by rw [L.len, Nat.add_mul]; omega), L.len, show (i + 1) * k + j - k = i * k + j by rw [Nat.add_mul]; omega, flatK L l i j (by simp at h; omega) hj]
      simp
theorem flatK_len (L : Lies enc k) (l : List α) : (l.flatMap enc).length = l.length * k := by
  induction l with
  | nil => simp
  | cons x l ih => rw [List.flatMap_cons, List.length_append, ih, L.len, List.length_cons, Nat.add_mul]; omega
theorem flatK_one (L : Lies enc k) (l : List α) : ∀ u ∈ l.flatMap enc, u.oneCell' = true := by
  intro u hu
  obtain ⟨x, -, hx⟩ := List.mem_flatMap.1 hu
  exact L.one x u hx
theorem RowE.cells (L : Lies enc k) {a : Option Addr} {n c : Nat} (h : RowE enc k t w base (.slice a n c) l) {i : Nat} (hi : i < l.length) : ∃ g, a = some ⟨g, 0, none⟩ ∧ base ≤ g ∧ ∀ j u, (enc l[i])[j]? = some u → w.cell? ⟨g, i * k + j, none⟩ = some u := by
  rcases h.2 with ⟨e, h0⟩ | ⟨g, cap, cur, e, hb, hg, rest⟩
  · rw [h0] at hi; omega
  · cases e
    refine ⟨g, rfl, hb, fun j u hu => ?_⟩
    have hj : j < k := by
      have := (List.getElem?_eq_some_iff.1 hu).1
      rwa [L.len] at this
    have := World.ownsRow.cells (g := g) h rfl (i * k + j) u (by rw [flatK L l i j hi hj]; exact hu)
    rw [Addr.add_lit, Nat.zero_add] at this
    exact this
end
section
variable {P : Program} {α : Type} {enc : α → List Value} {k bytes : Nat} {t ts ty : TypeId} {w : World} {v src : Value} {l m : List α} {z : Value}
/-- append of one -/
theorem run_append_one (L : Lies enc k) (hts : P.underlying ts = some (.slice t)) (hi : (P.info? t).map (fun i => (i.zero, i.size, i.bytes)) = some (some z, k, bytes)) (hz : z.cells.size = k) (hk : 0 < k) (hby : bytes ≤ 400)
    (base : Nat) (hown : RowE enc k t w base v l) (g : Nat) (x : α) {u : TypeId} {fr : Nat × Nat} (hg : w.heap[g]? = some (.cells (enc x).toArray u fr)) (hn : l.length ≤ 1000000) (hbase : base ≤ w.heap.size) :
    ∃ v' w', (Builtin.append_ #[ts, ts] ty #[v, .slice (some ⟨g, 0, none⟩) 1 1]).run P w = .ok v' w' ∧ RowE enc k t w' base v' (l ++ [x]) ∧ Keep v.ownBlock.toList w w' ∧ (v'.ownBlock = v.ownBlock ∨ v'.ownBlock = some w.heap.size) := by
  obtain ⟨i, hi1, hz1, hs1, hb1⟩ := info_parts hi
  have hlen : (enc x).length = 1 * k := by rw [L.len]; omega
  obtain ⟨v', w', hrun, hown', hgr, -, hloc⟩ := run_append_own_at (P := P) (w := w) base ts ty t i z k bytes hts hi1 hz1 hs1 hb1 hz hk v l.length (l.flatMap enc) hown ⟨g, 0, none⟩ 1 1 (enc x) hlen
    (fun j u hu => by
      rw [Addr.add_lit, Nat.zero_add, cell_of_row _ _ _ _ _ _ hg, ← Array.getElem?_toList]
      exact hu)
    (L.one x) (by simp [maxLen]; omega) (by have : (l.length + 1) * bytes ≤ 1000001 * 400 := Nat.mul_le_mul (by omega) hby; omega) hbase
  refine ⟨v', w', hrun, ?_, Keep.grown hgr, hloc⟩
  show World.ownsRow _ _ _ _ _ _ _
  rw [List.length_append, List.flatMap_append]
  simpa using hown'
/-- append of a row -/
theorem run_append_row (L : Lies enc k) (hts : P.underlying ts = some (.slice t)) (hi : (P.info? t).map (fun i => (i.zero, i.size, i.bytes)) = some (some z, k, bytes)) (hz : z.cells.size = k) (hk : 0 < k) (hby : bytes ≤ 400)
    (base : Nat) (hown : RowE enc k t w base v l) {base2 : Nat} (hsrc : RowE enc k t w base2 src m) (hn : l.length + m.length ≤ 1000000) (hbase : base ≤ w.heap.size) :
    ∃ v' w', (Builtin.append_ #[ts, ts] ty #[v, src]).run P w = .ok v' w' ∧ RowE enc k t w' base v' (l ++ m) ∧ Keep v.ownBlock.toList w w' ∧ (v'.ownBlock = v.ownBlock ∨ v'.ownBlock = some w.heap.size) := by
  obtain ⟨i, hi1, hz1, hs1, hb1⟩ := info_parts hi
  have hs0 := hsrc
  rcases hsrc.2 with ⟨rfl, h0⟩ | ⟨g, cap, cur, rfl, -⟩
  · have hl : m = [] := List.eq_nil_of_length_eq_zero h0
    subst hl
    refine ⟨v, w, ?_, by simpa using hown, Keep.refl _ _, .inl rfl⟩
    rcases hown.2 with ⟨rfl, h0⟩ | ⟨g, c, cur, rfl, _, _, hnc, _⟩
    · simp [Builtin.append_, run_underlying hts, Go.sizeOf, typeInfo, hi1, Builtin.lenOf, Builtin.firstCells]
    · simp [Builtin.append_, run_underlying hts, Go.sizeOf, typeInfo, hi1, Builtin.lenOf, Builtin.firstCells, hnc, storeCells]
  · obtain ⟨v', w', hrun, hown', hgr, -, hloc⟩ := run_append_own_at (P := P) (w := w) base ts ty t i z k bytes hts hi1 hz1 hs1 hb1 hz hk v l.length (l.flatMap enc) hown ⟨g, 0, none⟩ m.length cap (m.flatMap enc) (flatK_len L m)
      (fun j u hu => World.ownsRow.cells (g := g) hs0 rfl j u hu)
      (flatK_one L m) (by simp [maxLen]; omega) (by have : (l.length + m.length) * bytes ≤ 1000000 * 400 := Nat.mul_le_mul hn hby; omega) hbase
    refine ⟨v', w', hrun, ?_, Keep.grown hgr, hloc⟩
    show World.ownsRow _ _ _ _ _ _ _
    rw [List.length_append, List.flatMap_append]
    exact hown'
end
end Sg

/-! A region that draws its order, whose loud operations stand in whatever order: each is walked once, in any world in which the base holds and what the loud ones that it waits for have told. -/
namespace Sg
open Go Go.RowKit

section
variable {P : Program} {ops : Array Oper} {loud : List Nat} {I : World → Prop} {G : Nat → World → World → Prop} {Pre : Nat → World → Prop} {Sh : Nat → Value → Prop} {F : Nat → Value → World → Prop} {Q : Exit → Act → World → Prop}

/-- what j may lean on -/
def parTold (ops : Array Oper) (F : Nat → Value → World → Prop) (L : List (Nat × Value)) (j : Nat) (w : World) : Prop := ∀ p ∈ L, reach ops ops.size j p.1 = true → F p.1 p.2 w
/-- the value that an operation has left -/
def valOf (o : Oper) (a : Act) : Value := match o.dst with | some t => a.tmps.getD t undef | none => undef
def valD (o : Oper) (v : Value) : Value := match o.dst with | some _ => v | none => undef
def inBound (o : Oper) (a : Act) : Bool := match o.dst with | some t => decide (t < a.tmps.size) | none => true
theorem Act.put_size (a : Act) (d : Option Tmp) (v : Value) : (a.put d v).tmps.size = a.tmps.size := by
  unfold Act.put
  cases d <;> simp
theorem inBound_put (o : Oper) (a : Act) (d : Option Tmp) (v : Value) : inBound o (a.put d v) = inBound o a := by
  unfold inBound
  rw [Act.put_size]
theorem valOf_put {o : Oper} {a : Act} (h : inBound o a = true) (v : Value) : valOf o (a.put o.dst v) = valD o v := by
  unfold valOf valD inBound at *
  cases hd : o.dst with
  | none => rfl
  | some t =>
    rw [hd] at h
    simp only [decide_eq_true_eq] at h
    simp [Act.put, Array.getD, h]
theorem put_valD {o : Oper} {a : Act} (v : Value) : a.put o.dst (valD o v) = a.put o.dst v := by
  unfold valD
  cases hd : o.dst with
  | none => rfl
  | some t => rfl
theorem valOf_other {o : Oper} {a : Act} {d : Option Tmp} {u : Value} (h : ∀ t, d = some t → o.dst ≠ some t) : valOf o (a.put d u) = valOf o a := by
  unfold valOf
  cases ho : o.dst with
  | none => rfl
  | some t =>
    cases d with
    | none => rfl
    | some s =>
      have hne : s ≠ t := fun e => h s rfl (by rw [ho, e])
      simp [Act.put, Array.getD_eq_getD_getElem?, hne]
def parL (P : Program) (ops : Array Oper) (I : World → Prop) (G : Nat → World → World → Prop) (Pre : Nat → World → Prop) (Sh : Nat → Value → Prop) (F : Nat → Value → World → Prop) (j : Nat) (o : Oper) (L : List (Nat × Value)) (a : Act) : Prop :=
  ∀ w, I w → Pre j w → parTold ops F L j w → loudly P o a w (fun a' w' => G j w w' ∧ Sh j (valOf o a') ∧ F j (valOf o a') w')
def parQ (P : Program) (ops : Array Oper) (I : World → Prop) (F : Nat → Value → World → Prop) (j : Nat) (o : Oper) (L : List (Nat × Value)) (a : Act) (v : Value) : Prop :=
  (Region.wanted o (yielded ops a.tmps) = true ∧ ∀ w, I w → parTold ops F L j w → Yields P o a w v) ∨ (Region.wanted o (yielded ops a.tmps) = false ∧ v = undef)
def wpPar (P : Program) (ops : Array Oper) (loud : List Nat) (I : World → Prop) (G : Nat → World → World → Prop) (Pre : Nat → World → Prop) (Sh : Nat → Value → Prop) (F : Nat → Value → World → Prop) (Q : Exit → Act → World → Prop) : List Nat → List (Nat × Value) → Act → Prop
  | [], L, a => ∀ w, I w → (∀ p ∈ L, F p.1 p.2 w) → Q .normal a w
  | k :: rest, L, a => match ops[k]? with
    | none => wpPar P ops loud I G Pre Sh F Q rest L a
    | some o =>
      if loud.contains k = true then
        (Region.wanted o (yielded ops a.tmps) = true ∧ parL P ops I G Pre Sh F k o L a ∧ (∃ v, Sh k v) ∧ ∀ v, Sh k v → wpPar P ops loud I G Pre Sh F Q rest ((k, v) :: L) (a.put o.dst v)) ∨
        (Region.wanted o (yielded ops a.tmps) = false ∧ wpPar P ops loud I G Pre Sh F Q rest L (a.put o.dst undef))
      else ∃ v, parQ P ops I F k o L a v ∧ wpPar P ops loud I G Pre Sh F Q rest L (a.put o.dst v)

theorem parTold.mono {L L' : List (Nat × Value)} {j : Nat} {w : World} (h : ∀ p ∈ L, p ∈ L') (t : parTold ops F L' j w) : parTold ops F L j w := fun p hp hr => t p (h p hp) hr
theorem parTold.skip {L : List (Nat × Value)} {j k : Nat} {v : Value} {w : World} (hr : reach ops ops.size j k = false) (t : parTold ops F L j w) : parTold ops F ((k, v) :: L) j w := fun p hp h => by
  rcases List.mem_cons.1 hp with rfl | hp
  · rw [hr] at h; cases h
  · exact t p hp h
theorem parL.mono {L L' : List (Nat × Value)} {j : Nat} {o : Oper} {a : Act} (h : ∀ p ∈ L, p ∈ L') (t : parL P ops I G Pre Sh F j o L a) : parL P ops I G Pre Sh F j o L' a := fun w h1 h2 h3 => t w h1 h2 (h3.mono h)
theorem parQ.mono {L L' : List (Nat × Value)} {j : Nat} {o : Oper} {a : Act} {v : Value} (h : ∀ p ∈ L, p ∈ L') (t : parQ P ops I F j o L a v) : parQ P ops I F j o L' a v :=
  t.imp (fun ⟨h1, h2⟩ => ⟨h1, fun w h3 h4 => h2 w h3 (h4.mono h)⟩) id
theorem wpPar.mono : ∀ (l : List Nat) (L L' : List (Nat × Value)) (a : Act), (∀ p ∈ L, p ∈ L') → wpPar P ops loud I G Pre Sh F Q l L a → wpPar P ops loud I G Pre Sh F Q l L' a
  | [], L, L', a, h, t => fun w h1 h2 => t w h1 (fun p hp => h2 p (h p hp))
  | k :: l, L, L', a, h, t => by
    unfold wpPar at t ⊢
    cases ho : ops[k]? with
    | none =>
      simp only [ho] at t ⊢
      exact wpPar.mono l L L' a h t
    | some o =>
      simp only [ho] at t ⊢
      split
      · rename_i hl
        rw [if_pos hl] at t
        rcases t with ⟨h1, h2, h3, h4⟩ | ⟨h1, h2⟩
        · refine .inl ⟨h1, h2.mono h, h3, fun v hv => wpPar.mono l _ _ _ (fun p hp => ?_) (h4 v hv)⟩
          rcases List.mem_cons.1 hp with rfl | hp
          · exact List.mem_cons_self
          · exact List.mem_cons_of_mem _ (h p hp)
        · exact .inr ⟨h1, wpPar.mono l _ _ _ h h2⟩
      · rename_i hl
        rw [if_neg hl] at t
        obtain ⟨v, h1, h2⟩ := t
        exact ⟨v, h1.mono h, wpPar.mono l _ _ _ h h2⟩
theorem parQ.one {L : List (Nat × Value)} {j : Nat} {o : Oper} {a : Act} {v v' : Value} {w : World} (hI : I w) (ht : parTold ops F L j w) (h : parQ P ops I F j o L a v) (h' : parQ P ops I F j o L a v') : v' = v := by
  rcases h with ⟨h1, h2⟩ | ⟨h1, h2⟩ <;> rcases h' with ⟨h1', h2'⟩ | ⟨h1', h2'⟩
  · exact Yields.one (h2 w hI ht) (h2' w hI ht)
  · rw [h1] at h1'; cases h1'
  · rw [h1] at h1'; cases h1'
  · rw [h2, h2']
theorem parQ.swap {L : List (Nat × Value)} {j : Nat} {o : Oper} {d : Option Tmp} {u v : Value} {a : Act} (h1 : ∀ t, d = some t → t ∉ o.looksAt ops) (hs : ∀ cs b, o.op ≠ .select cs b) : parQ P ops I F j o L (a.put d u) v ↔ parQ P ops I F j o L a v := by
  unfold parQ Yields
  rw [wanted_put o a d u h1, execOp_put o hs a d u h1]
theorem parL.swap {L : List (Nat × Value)} {j : Nat} {o : Oper} {d : Option Tmp} {u : Value} {a : Act} (h1 : ∀ t, d = some t → t ∉ o.looksAt ops) (h2 : ∀ t, d = some t → o.dst ≠ some t) (hs : ∀ cs b, o.op ≠ .select cs b) : parL P ops I G Pre Sh F j o L (a.put d u) ↔ parL P ops I G Pre Sh F j o L a := by
  unfold parL
  have e : ∀ w, loudly P o (a.put d u) w (fun a' w' => G j w w' ∧ Sh j (valOf o a') ∧ F j (valOf o a') w') ↔ loudly P o a w (fun a' w' => G j w w' ∧ Sh j (valOf o a') ∧ F j (valOf o a') w') := fun w => by
    rw [loudly_swap h1 h2 hs]
    simp only [valOf_other h2]
  simp only [e]

/-- a quiet one is taken ahead -/
theorem ppullQ (hsel : ∀ (i : Nat) (o : Oper) cs b, ops[i]? = some o → o.op ≠ .select cs b) {j : Nat} {oj : Oper} (hj : ops[j]? = some oj) (hq : loud.contains j = false) {w : World} (hI : I w) (l2 : List Nat) :
    ∀ (l1 : List Nat) (L : List (Nat × Value)) (a : Act), Beside ops oj l1 → (∀ i ∈ l1, reach ops ops.size j i = false) → parTold ops F L j w →
    wpPar P ops loud I G Pre Sh F Q (l1 ++ j :: l2) L a → ∃ v, parQ P ops I F j oj L a v ∧ wpPar P ops loud I G Pre Sh F Q (l1 ++ l2) L (a.put oj.dst v)
  | [], L, a, _, _, _, h => by
    simp only [List.nil_append, wpPar, hj] at h
    rw [if_neg (by rw [hq]; simp)] at h
    exact h
  | i :: l1, L, a, hb, hr, ht, h => by
    have hb' : Beside ops oj l1 := fun k hk => hb k (List.mem_cons_of_mem _ hk)
    have hr' : ∀ i ∈ l1, reach ops ops.size j i = false := fun k hk => hr k (List.mem_cons_of_mem _ hk)
    simp only [List.cons_append, wpPar] at h ⊢
    cases ho : ops[i]? with
    | none =>
      simp only [ho] at h ⊢
      exact ppullQ hsel hj hq hI l2 l1 L a hb' hr' ht h
    | some oi =>
      simp only [ho] at h ⊢
      obtain ⟨a1, a2, a3⟩ := Oper.apart_spec (hb i (List.mem_cons_self) oi ho)
      have hc : ∀ (a : Act) u v, (a.put oi.dst u).put oj.dst v = (a.put oj.dst v).put oi.dst u := fun a u v => Act.put_comm a u v a2
      have si := hsel i oi
      have sj := hsel j oj
      have a2' : ∀ t, oj.dst = some t → oi.dst ≠ some t := fun t e e' => a2 t e' e
      by_cases hli : loud.contains i = true
      · rw [if_pos hli] at h
        rcases h with ⟨h1, h2, ⟨v0, h3⟩, h4⟩ | ⟨h1, h2⟩
        · have ih := fun v hv => ppullQ hsel hj hq hI l2 l1 ((i, v) :: L) (a.put oi.dst v) hb' hr' (ht.skip (hr i List.mem_cons_self)) (h4 v hv)
          have low : ∀ v u, parQ P ops I F j oj ((i, v) :: L) (a.put oi.dst v) u → parQ P ops I F j oj L a u := fun v u g => by
            rcases (parQ.swap a1 (fun cs b => sj cs b hj)).1 g with ⟨g1, g2⟩ | g
            · exact .inl ⟨g1, fun w' k1 k2 => g2 w' k1 (k2.skip (hr i List.mem_cons_self))⟩
            · exact .inr g
          obtain ⟨u, hu, -⟩ := ih v0 h3
          have hu' := low v0 u hu
          refine ⟨u, hu', ?_⟩
          rw [if_pos hli]
          refine .inl ⟨by rw [wanted_put oi a oj.dst u a3]; exact h1, (parL.swap a3 a2' (fun cs b => si cs b ho)).2 h2, ⟨v0, h3⟩, fun v hv => ?_⟩
          obtain ⟨x, hx, hw⟩ := ih v hv
          rw [parQ.one hI ht hu' (low v x hx), hc] at hw
          exact hw
        · obtain ⟨u, hu, hw⟩ := ppullQ hsel hj hq hI l2 l1 L _ hb' hr' ht h2
          refine ⟨u, (parQ.swap a1 (fun cs b => sj cs b hj)).1 hu, ?_⟩
          rw [if_pos hli, ← hc]
          exact .inr ⟨by rw [wanted_put oi a oj.dst u a3]; exact h1, hw⟩
      · rw [if_neg hli] at h
        obtain ⟨u, hu, h⟩ := h
        obtain ⟨v, h1, h2⟩ := ppullQ hsel hj hq hI l2 l1 L _ hb' hr' ht h
        refine ⟨v, (parQ.swap a1 (fun cs b => sj cs b hj)).1 h1, ?_⟩
        rw [if_neg hli]
        refine ⟨u, (parQ.swap a3 (fun cs b => si cs b ho)).2 hu, ?_⟩
        rw [← hc]
        exact h2

/-- a loud one is taken ahead -/
theorem ppullL (hsel : ∀ (i : Nat) (o : Oper) cs b, ops[i]? = some o → o.op ≠ .select cs b) {j : Nat} {oj : Oper} (hj : ops[j]? = some oj) (hlj : loud.contains j = true) (l2 : List Nat) :
    ∀ (l1 : List Nat) (L : List (Nat × Value)) (a : Act), Beside ops oj l1 → (∀ i ∈ l1, reach ops ops.size j i = false) →
    wpPar P ops loud I G Pre Sh F Q (l1 ++ j :: l2) L a →
      (Region.wanted oj (yielded ops a.tmps) = true ∧ parL P ops I G Pre Sh F j oj L a ∧ (∃ v, Sh j v) ∧ ∀ v, Sh j v → wpPar P ops loud I G Pre Sh F Q (l1 ++ l2) ((j, v) :: L) (a.put oj.dst v)) ∨
      (Region.wanted oj (yielded ops a.tmps) = false ∧ wpPar P ops loud I G Pre Sh F Q (l1 ++ l2) L (a.put oj.dst undef))
  | [], L, a, _, _, h => by
    simp only [List.nil_append, wpPar, hj] at h
    rw [if_pos hlj] at h
    exact h
  | i :: l1, L, a, hb, hr, h => by
    have hb' : Beside ops oj l1 := fun k hk => hb k (List.mem_cons_of_mem _ hk)
    have hr' : ∀ i ∈ l1, reach ops ops.size j i = false := fun k hk => hr k (List.mem_cons_of_mem _ hk)
    simp only [List.cons_append, wpPar] at h ⊢
    cases ho : ops[i]? with
    | none =>
      simp only [ho] at h ⊢
      exact ppullL hsel hj hlj l2 l1 L a hb' hr' h
    | some oi =>
      simp only [ho] at h ⊢
      obtain ⟨a1, a2, a3⟩ := Oper.apart_spec (hb i (List.mem_cons_self) oi ho)
      have hc : ∀ (a : Act) u v, (a.put oi.dst u).put oj.dst v = (a.put oj.dst v).put oi.dst u := fun a u v => Act.put_comm a u v a2
      have si := hsel i oi
      have sj := hsel j oj
      have a2' : ∀ t, oj.dst = some t → oi.dst ≠ some t := fun t e e' => a2 t e' e
      have hwj : ∀ v, Region.wanted oj (yielded ops (a.put oi.dst v).tmps) = Region.wanted oj (yielded ops a.tmps) := fun v => wanted_put oj a oi.dst v a1
      have hwi : ∀ v, Region.wanted oi (yielded ops (a.put oj.dst v).tmps) = Region.wanted oi (yielded ops a.tmps) := fun v => wanted_put oi a oj.dst v a3
      have swapL : ∀ (v u : Value) (p q : Nat × Value), ∀ x ∈ p :: q :: L, x ∈ q :: p :: L := fun v u p q x hx => by
        simp only [List.mem_cons] at hx ⊢
        rcases hx with h | h | h
        · exact .inr (.inl h)
        · exact .inl h
        · exact .inr (.inr h)
      by_cases hli : loud.contains i = true
      · rw [if_pos hli] at h
        simp only [if_pos hli]
        rcases h with ⟨h1, h2, ⟨v0, h3⟩, h4⟩ | ⟨h1, h2⟩
        · have ih := fun v hv => ppullL hsel hj hlj l2 l1 ((i, v) :: L) (a.put oi.dst v) hb' hr' (h4 v hv)
          simp only [hwj] at ih
          by_cases hw : Region.wanted oj (yielded ops a.tmps) = true
          · simp only [hw, true_and, Bool.true_eq_false, false_and, or_false] at ih ⊢
            obtain ⟨g1, g2, -⟩ := ih v0 h3
            refine ⟨fun w k1 k2 k3 => ?_, g2, fun u hu => .inl ⟨by rw [hwi]; exact h1, (parL.swap a3 a2' (fun cs b => si cs b ho)).2 (h2.mono (fun p hp => List.mem_cons_of_mem _ hp)), ⟨v0, h3⟩, fun v hv => ?_⟩⟩
            · exact (parL.swap a1 a2 (fun cs b => sj cs b hj)).1 g1 w k1 k2 (k3.skip (hr i List.mem_cons_self))
            · have := (ih v hv).2.2 u hu
              rw [hc] at this
              exact wpPar.mono _ _ _ _ (swapL v u _ _) this
          · have hw' : Region.wanted oj (yielded ops a.tmps) = false := by simpa using hw
            simp only [hw', Bool.false_eq_true, false_and, true_and, false_or] at ih ⊢
            refine .inl ⟨by rw [hwi]; exact h1, (parL.swap a3 a2' (fun cs b => si cs b ho)).2 h2, ⟨v0, h3⟩, fun v hv => ?_⟩
            rw [← hc]
            exact ih v hv
        · have ih := ppullL hsel hj hlj l2 l1 L _ hb' hr' h2
          simp only [hwj] at ih
          rcases ih with ⟨g1, g2, g3, g4⟩ | ⟨g1, g2⟩
          · refine .inl ⟨g1, (parL.swap a1 a2 (fun cs b => sj cs b hj)).1 g2, g3, fun u hu => .inr ⟨by rw [hwi]; exact h1, ?_⟩⟩
            rw [← hc]
            exact g4 u hu
          · refine .inr ⟨g1, .inr ⟨by rw [hwi]; exact h1, ?_⟩⟩
            rw [← hc]
            exact g2
      · rw [if_neg hli] at h
        simp only [if_neg hli]
        obtain ⟨v, hv, h⟩ := h
        have ih := ppullL hsel hj hlj l2 l1 L _ hb' hr' h
        simp only [hwj] at ih
        rcases ih with ⟨g1, g2, g3, g4⟩ | ⟨g1, g2⟩
        · refine .inl ⟨g1, (parL.swap a1 a2 (fun cs b => sj cs b hj)).1 g2, g3, fun u hu => ⟨v, (parQ.swap a3 (fun cs b => si cs b ho)).2 (hv.mono (fun p hp => List.mem_cons_of_mem _ hp)), ?_⟩⟩
          rw [← hc]
          exact g4 u hu
        · refine .inr ⟨g1, v, (parQ.swap a3 (fun cs b => si cs b ho)).2 hv, ?_⟩
          rw [← hc]
          exact g2

theorem ready_ne0 (hok : lexOk ops [] = true) {listed : Array Bool} (hs : listed.size = ops.size) {i : Nat} {l : List Nat} (hr : rest ops.size listed = i :: l) : Region.ready .any ops listed ≠ [] := by
  intro hnil
  have hi : i ∈ rest ops.size listed := by rw [hr]; exact List.mem_cons_self
  have hi' := List.mem_filter.1 hi
  have hin := List.mem_range.1 hi'.1
  have hp : (rest ops.size listed).Pairwise (· < ·) := List.Pairwise.filter _ List.pairwise_lt_range
  rw [hr] at hp
  have hready : i ∈ Region.ready .any ops listed := by
    refine mem_ready.2 ⟨by simpa using hi'.2, ops[i], by simp [hin], fun e he hb => ?_⟩
    have hlt := lexOk_back hok (j := i) (oj := ops[i]) (by simp [hin]) e he hb
    cases hle : listed.getD e.on false with
    | true => rfl
    | false =>
      exfalso
      have hin' : e.on < listed.size := by rw [hs]; omega
      have : e.on ∈ rest ops.size listed := List.mem_filter.2 ⟨List.mem_range.2 (by omega), by simpa using getD_in hin' hle⟩
      rw [hr] at this
      rcases List.mem_cons.1 this with e1 | e1
      · omega
      · have := (List.pairwise_cons.1 hp).1 _ e1; omega
  rw [hnil] at hready
  cases hready

/-- a loud operation leaves what the others lean on -/
structure ParOk (loud : List Nat) (I : World → Prop) (G : Nat → World → World → Prop) (Pre : Nat → World → Prop) (F : Nat → Value → World → Prop) : Prop where
  i : ∀ j w w', loud.contains j = true → I w → G j w w' → I w'
  p : ∀ j k w w', loud.contains j = true → loud.contains k = true → j ≠ k → I w → G j w w' → Pre k w → Pre k w'
  f : ∀ j k v w w', loud.contains j = true → loud.contains k = true → j ≠ k → I w → G j w w' → F k v w → F k v w'

theorem wpAny_of_par (S : ParOk loud I G Pre F) (hok : lexOk ops [] = true) : ∀ (fuel : Nat) (listed : Array Bool) (L : List (Nat × Value)) (a : Act) (w : World), listed.size = ops.size → Closed ops listed → (rest ops.size listed).length = fuel →
    (∀ (j : Nat) (o : Oper), ops[j]? = some o → inBound o a = true) → I w → (∀ j ∈ rest ops.size listed, loud.contains j = true → Pre j w) → (∀ p ∈ L, F p.1 p.2 w ∧ loud.contains p.1 = true ∧ p.1 ∉ rest ops.size listed) →
    wpPar P ops loud I G Pre Sh F Q (rest ops.size listed) L a → wpAny P .any ops Q fuel listed a w
  | 0, listed, L, a, w, hs, hc, hf, hin, hI, hP, hL, h => by
    have hr : rest ops.size listed = [] := List.eq_nil_of_length_eq_zero hf
    rw [hr] at h
    exact wpAny_zero hr (h w hI (fun p hp => (hL p hp).1))
  | fuel + 1, listed, L, a, w, hs, hc, hf, hin, hI, hP, hL, h => by
    refine ⟨fun hnil => ?_, fun j hj => ?_⟩
    · exfalso
      cases hr : rest ops.size listed with
      | nil => rw [hr] at hf; cases hf
      | cons i l => exact ready_ne0 hok hs hr hnil
    · obtain ⟨hun, oj, hoj, hall⟩ := mem_ready.1 hj
      have hjn := (Array.getElem?_eq_some_iff.1 hoj).1
      have hjr : j ∈ rest ops.size listed := List.mem_filter.2 ⟨List.mem_range.2 hjn, by simpa using hun⟩
      obtain ⟨l1, l2, e1, e2, hl1⟩ := rest_set hs hjr
      have hno : ∀ i ∈ l1, reach ops ops.size j i = false := by
        intro i hi
        obtain ⟨hij, hiu⟩ := hl1 i hi
        cases h1 : reach ops ops.size j i with
        | false => rfl
        | true =>
          have := reach_listed hc _ j i oj hoj hall h1
          rw [getD_both hiu] at this
          cases this
      have hb : Beside ops oj l1 := fun i hi oi hoi => by
        obtain ⟨hij, hiu⟩ := hl1 i hi
        rcases lexOk_pair hok hoi hoj hij with h1 | h1
        · exact h1.1
        · rw [hno i hi] at h1; cases h1
      have hnd : (rest ops.size listed).Nodup := (List.Pairwise.filter _ List.pairwise_lt_range : (rest ops.size listed).Pairwise (· < ·)).imp (fun h => Nat.ne_of_lt h)
      have hjn2 : ∀ i ∈ l1 ++ l2, j ≠ i := by
        rw [e1] at hnd
        obtain ⟨-, h2, h3⟩ := List.nodup_append.1 hnd
        intro i hi e
        subst e
        rcases List.mem_append.1 hi with hi | hi
        · exact h3 j hi j List.mem_cons_self rfl
        · exact (List.nodup_cons.1 h2).1 hi
      rw [e1] at h hP hL
      have hs' : (listed.setIfInBounds j true).size = ops.size := by simp [hs]
      have hc' := closed_set hc hoj hall
      have hf' : (rest ops.size (listed.setIfInBounds j true)).length = fuel := by
        rw [e2]; rw [e1] at hf; simp at hf ⊢; omega
      have sub : ∀ i, i ∈ l1 ++ l2 → i ∈ l1 ++ j :: l2 := fun i hi => by
        rcases List.mem_append.1 hi with h | h
        · exact List.mem_append_left _ h
        · exact List.mem_append_right _ (List.mem_cons_of_mem _ h)
      have jin : j ∈ l1 ++ j :: l2 := List.mem_append_right _ List.mem_cons_self
      have hold : ∀ u, ∀ (k : Nat) (o : Oper), ops[k]? = some o → inBound o (a.put oj.dst u) = true := fun u k o ho => by rw [inBound_put]; exact hin k o ho
      have same : ∀ u, wpPar P ops loud I G Pre Sh F Q (l1 ++ l2) L (a.put oj.dst u) → wpAny P .any ops Q fuel (listed.setIfInBounds j true) (a.put oj.dst u) w := fun u h' =>
        wpAny_of_par S hok fuel (listed.setIfInBounds j true) L (a.put oj.dst u) w hs' hc' hf' (hold u) hI (by rw [e2]; exact fun i hi => hP i (sub i hi)) (by rw [e2]; exact fun p hp => ⟨(hL p hp).1, (hL p hp).2.1, fun hm => (hL p hp).2.2 (sub _ hm)⟩) (by rw [e2]; exact h')
      have told : parTold ops F L j w := fun p hp _ => (hL p hp).1
      unfold wpOp
      simp only [hoj]
      by_cases hlj : loud.contains j = true
      · rcases ppullL (lexOk_sel hok) hoj hlj l2 l1 L a hb hno h with ⟨g1, g2, g3, g4⟩ | ⟨g1, g2⟩
        · rw [if_pos g1]
          left
          refine loudly_wp (loudly_mono ?_ (loudly_put (g2 w hI (hP j jin hlj) told)))
          rintro a' w' ⟨⟨k1, k2, k3⟩, u, rfl⟩
          have hv := valOf_put (hin j oj hoj) u
          rw [hv] at k2 k3
          have g5 := g4 _ k2
          rw [put_valD] at g5
          refine wpAny_of_par S hok fuel (listed.setIfInBounds j true) ((j, valD oj u) :: L) _ w' hs' hc' hf' (hold u) (S.i j w w' hlj hI k1) (by rw [e2]; exact fun i hi hli => S.p j i w w' hlj hli (hjn2 i hi) hI k1 (hP i (sub i hi) hli)) ?_ (by rw [e2]; exact g5)
          rw [e2]
          intro p hp
          rcases List.mem_cons.1 hp with rfl | hp
          · exact ⟨k3, hlj, fun hm => hjn2 _ hm rfl⟩
          · have := hL p hp
            exact ⟨S.f j p.1 p.2 w w' hlj this.2.1 (fun e => this.2.2 (by rw [← e]; exact jin)) hI k1 this.1, this.2.1, fun hm => this.2.2 (sub _ hm)⟩
        · rw [if_neg (by rw [g1]; simp)]
          exact same _ g2
      · have hlj' : loud.contains j = false := by simpa using hlj
        obtain ⟨v, hv, g⟩ := ppullQ (lexOk_sel hok) hoj hlj' hI l2 l1 L a hb hno told h
        rcases hv with ⟨g1, g2⟩ | ⟨g1, rfl⟩
        · rw [if_pos g1]
          exact .inl (Yields.wp (g2 w hI told) (same _ g))
        · rw [if_neg (by rw [g1]; simp)]
          exact same _ g

/-- The operations from the k-th on. -/
def wpParL (P : Program) (ops : Array Oper) (loud : List Nat) (I : World → Prop) (G : Nat → World → World → Prop) (Pre : Nat → World → Prop) (Sh : Nat → Value → Prop) (F : Nat → Value → World → Prop) (Q : Exit → Act → World → Prop) : Nat → List Oper → List (Nat × Value) → Act → Prop
  | _, [], L, a => ∀ w, I w → (∀ p ∈ L, F p.1 p.2 w) → Q .normal a w
  | k, o :: rest, L, a =>
    if loud.contains k = true then
      (Region.wanted o (yielded ops a.tmps) = true ∧ parL P ops I G Pre Sh F k o L a ∧ (∃ v, Sh k v) ∧ ∀ v, Sh k v → wpParL P ops loud I G Pre Sh F Q (k + 1) rest ((k, v) :: L) (a.put o.dst v)) ∨
      (Region.wanted o (yielded ops a.tmps) = false ∧ wpParL P ops loud I G Pre Sh F Q (k + 1) rest L (a.put o.dst undef))
    else ∃ v, parQ P ops I F k o L a v ∧ wpParL P ops loud I G Pre Sh F Q (k + 1) rest L (a.put o.dst v)
theorem wpPar_of_L : ∀ (l : List Oper) (k : Nat) (L : List (Nat × Value)) (a : Act), (∀ j, l[j]? = ops[k + j]?) → wpParL P ops loud I G Pre Sh F Q k l L a → wpPar P ops loud I G Pre Sh F Q (List.range' k l.length) L a
  | [], _, _, _, _, h => h
  | o :: l, k, L, a, hl, h => by
    have h0 : ops[k]? = some o := by simpa using (hl 0).symm
    have ih := fun L' a' (h' : wpParL P ops loud I G Pre Sh F Q (k + 1) l L' a') => wpPar_of_L l (k + 1) L' a' (fun j => by have := hl (j + 1); simpa [Nat.add_assoc, Nat.add_comm 1 j] using this) h'
    simp only [List.length_cons, List.range'_succ, wpPar, h0]
    unfold wpParL at h
    split
    · rename_i hli
      rw [if_pos hli] at h
      rcases h with ⟨h1, h2, h3, h4⟩ | ⟨h1, h2⟩
      · exact .inl ⟨h1, h2, h3, fun v hv => ih _ _ (h4 v hv)⟩
      · exact .inr ⟨h1, ih _ _ h2⟩
    · rename_i hli
      rw [if_neg hli] at h
      obtain ⟨v, h1, h2⟩ := h
      exact ⟨v, h1, ih _ _ h2⟩
/-- every slot that is written is one of the frame's -/
def slotsIn (os : List Oper) (n : Nat) : Bool := os.all fun o => match o.dst with | some t => Nat.ble (t + 1) n | none => true
theorem slotsIn_spec {os : List Oper} {a : Act} (h : slotsIn os a.tmps.size = true) (j : Nat) (o : Oper) (ho : os.toArray[j]? = some o) : inBound o a = true := by
  have ho' : os[j]? = some o := by simpa using ho
  have hm := List.mem_of_getElem? ho'
  have := List.all_eq_true.1 h o hm
  unfold inBound
  cases hd : o.dst with
  | none => rfl
  | some t =>
    rw [hd] at this
    simpa using Nat.lt_of_succ_le (Nat.le_of_ble_eq_true this)
theorem wpAny_plit {os : List Oper} {a : Act} {w : World} (S : ParOk loud I G Pre F) (hok : lexOk os.toArray [] = true) (hsl : slotsIn os a.tmps.size = true) (hI : I w) (hP : ∀ j, loud.contains j = true → Pre j w) (h : wpParL P os.toArray loud I G Pre Sh F Q 0 os [] a) :
    wpAny P .any os.toArray Q os.toArray.size (Array.replicate os.toArray.size false) a w := by
  refine wpAny_of_par (Sh := Sh) S hok _ _ [] a w (by simp) ?_ ?_ (slotsIn_spec hsl) hI (fun j _ hl => hP j hl) (by simp) ?_
  · intro j oj _ hl
    rw [getD_replicate_false] at hl
    cases hl
  · rw [rest_none]; simp
  · rw [rest_none, List.range_eq_range']
    have := wpPar_of_L (ops := os.toArray) (I := I) (G := G) (Pre := Pre) (Sh := Sh) (F := F) (loud := loud) (Q := Q) os 0 [] a (by simp) h
    simpa using this

/-- The walk's own word: it does not unfold. -/
structure ParW (P : Program) (ops : Array Oper) (loud : List Nat) (I : World → Prop) (G : Nat → World → World → Prop) (Pre : Nat → World → Prop) (Sh : Nat → Value → Prop) (F : Nat → Value → World → Prop) (Q : Exit → Act → World → Prop) (k : Nat) (l : List Oper) (L : List (Nat × Value)) (a : Act) : Prop where
  out : wpParL P ops loud I G Pre Sh F Q k l L a

/-- THE LAW, in a function's own frame. -/
theorem wp_region_par {id : Nat} {os : List Oper} {a : Act} {w : World} (loud : List Nat) (I : World → Prop) (G : Nat → World → World → Prop) (Pre : Nat → World → Prop) (Sh : Nat → Value → Prop) (F : Nat → Value → World → Prop)
    (hm : P.follows .mixedOrders = true) (hok : lexOk os.toArray [] = true) (hsl : slotsIn os a.tmps.size = true) (S : ParOk loud I G Pre F)
    (h0 : ∀ w1, Keep [] w w1 → I w1 ∧ ∀ j, loud.contains j = true → Pre j w1)
    (h : ParW P os.toArray loud I G Pre Sh F Q 0 os [] a) : (Code.region id os.toArray true).wp P Q a w :=
  wp_region_any hm (wpAny_plit S hok hsl (h0 _ (Keep.refl [] w).drew).1 (h0 _ (Keep.refl [] w).drew).2 h.out)
/-- THE LAW, in a round. -/
theorem wpIn_region_par {l n id : Nat} {os : List Oper} {a : Act} {w : World} (loud : List Nat) (I : World → Prop) (G : Nat → World → World → Prop) (Pre : Nat → World → Prop) (Sh : Nat → Value → Prop) (F : Nat → Value → World → Prop)
    (hm : P.follows .mixedOrders = true) (hQ : ¬ LetsOut Q) (hd : os.toArray.all (fun o => !Oper.isDefer o) = true) (hok : lexOk os.toArray [] = true) (hsl : slotsIn os a.tmps.size = true) (S : ParOk loud I G Pre F)
    (h0 : ∀ w1, Keep [] w w1 → I w1 ∧ ∀ j, loud.contains j = true → Pre j w1)
    (h : ParW P os.toArray loud I G Pre Sh F Q 0 os [] a) : (Code.region id os.toArray true).wpIn (Fence.wide.inRound l) n P Q a w :=
  wpIn_region_any hm (wpAny_in hQ (noDefer_spec hd) _ _ _ _ (wpAny_plit S hok hsl (h0 _ (Keep.refl [] w).drew).1 (h0 _ (Keep.refl [] w).drew).2 h.out))

theorem par_nil {k : Nat} {L : List (Nat × Value)} {a : Act} (h : ∀ w, I w → (∀ p ∈ L, F p.1 p.2 w) → Q .normal a w) : ParW P ops loud I G Pre Sh F Q k [] L a := ⟨h⟩
/-- A quiet operation. -/
theorem par_q {k : Nat} {o : Oper} {l : List Oper} {L : List (Nat × Value)} {a : Act} (hl : loud.contains k = false) (hw : Region.wanted o (yielded ops a.tmps) = true)
    (h : ∀ K : Act → Prop, (∀ a, ParW P ops loud I G Pre Sh F Q (k + 1) l L a → K a) → ∃ v, (∀ w', I w' → parTold ops F L k w' → (execOp a.eval o).run P w' = .ok (.value v) w') ∧ K (a.put o.dst v)) : ParW P ops loud I G Pre Sh F Q k (o :: l) L a := by
  obtain ⟨v, hv, hk⟩ := h _ (fun _ h => h)
  refine ⟨?_⟩
  unfold wpParL
  rw [if_neg (by rw [hl]; simp)]
  exact ⟨v, .inl ⟨hw, fun w' h1 h2 => .inl (hv w' h1 h2)⟩, hk.out⟩
/-- A call that leaves the world alone. -/
theorem par_c {k : Nat} {o : Oper} {l : List Oper} {L : List (Nat × Value)} {a : Act} (hl : loud.contains k = false) (hw : Region.wanted o (yielded ops a.tmps) = true) (v : Value)
    (h : ∀ K : Act → Prop, (∀ a, ParW P ops loud I G Pre Sh F Q (k + 1) l L a → K a) → (∀ w', I w' → parTold ops F L k w' → Yields P o a w' v) ∧ K (a.put o.dst v)) : ParW P ops loud I G Pre Sh F Q k (o :: l) L a := by
  obtain ⟨hv, hk⟩ := h _ (fun _ h => h)
  refine ⟨?_⟩
  unfold wpParL
  rw [if_neg (by rw [hl]; simp)]
  exact ⟨v, .inl ⟨hw, hv⟩, hk.out⟩
/-- An operation that its guard passes over. -/
theorem par_s {k : Nat} {o : Oper} {l : List Oper} {L : List (Nat × Value)} {a : Act} (hw : Region.wanted o (yielded ops a.tmps) = false)
    (h : ∀ K : Act → Prop, (∀ a, ParW P ops loud I G Pre Sh F Q (k + 1) l L a → K a) → K (a.put o.dst undef)) : ParW P ops loud I G Pre Sh F Q k (o :: l) L a := by
  have hk := h _ (fun _ h => h)
  refine ⟨?_⟩
  unfold wpParL
  split
  · exact .inr ⟨hw, hk.out⟩
  · exact ⟨undef, .inr ⟨hw, rfl⟩, hk.out⟩
/-- A loud operation: it is walked in any world of the base; then the walk goes on with whatever value. -/
theorem par_l {k : Nat} {o : Oper} {l : List Oper} {L : List (Nat × Value)} {a : Act} (hl : loud.contains k = true) (hw : Region.wanted o (yielded ops a.tmps) = true) (hb : inBound o a = true) (hsh : ∃ v, Sh k v)
    (h : ∀ w, I w → Pre k w → parTold ops F L k w → ∀ K : Act → World → Prop, (∀ v w', G k w w' → Sh k (valD o v) → F k (valD o v) w' → K (a.put o.dst v) w') → loudly P o a w K)
    (hn : ∀ v, Sh k v → ∀ K : Act → Prop, (∀ a, ParW P ops loud I G Pre Sh F Q (k + 1) l ((k, v) :: L) a → K a) → K (a.put o.dst v)) : ParW P ops loud I G Pre Sh F Q k (o :: l) L a := by
  refine ⟨?_⟩
  unfold wpParL
  rw [if_pos hl]
  refine .inl ⟨hw, fun w h1 h2 h3 => ?_, hsh, fun v hv => (hn v hv (fun a => ParW P ops loud I G Pre Sh F Q (k + 1) l ((k, v) :: L) a) (fun _ h => h)).out⟩
  refine h w h1 h2 h3 _ fun v w' g1 g2 g3 => ?_
  rw [valOf_put hb]
  exact ⟨g1, g2, g3⟩
end
end Sg

/-! a, b = append(a, x), append(b, y): drawn, in whatever order. -/
namespace Sg
open Go Go.RowKit
set_option linter.unusedSimpArgs false
set_option linter.unusedVariables false

section
variable {α β : Type} (e1 : α → List Value) (k1 : Nat) (t1 : TypeId) (e2 : β → List Value) (k2 : Nat) (t2 : TypeId) (w8 : World) (B : Nat) (v1 v2 : Value) (l1 : List α) (l2 : List β) (x : α) (y : β) (p1 q1 p2 q2 : Nat)
def TwoI (w' : World) : Prop := Keep (v1.ownBlock.toList ++ v2.ownBlock.toList) w8 w'
def TwoG (k : Nat) (w w' : World) : Prop := (k = q1 → Keep v1.ownBlock.toList w w') ∧ (k = q2 → Keep v2.ownBlock.toList w w') ∧ (k ≠ q1 → k ≠ q2 → Keep [] w w')
def TwoPre (k : Nat) (w' : World) : Prop := (k = q1 → RowE e1 k1 t1 w' B v1 l1) ∧ (k = q2 → RowE e2 k2 t2 w' B v2 l2)
def TwoSh (k : Nat) (v : Value) : Prop := (k = p1 ∨ k = p2 → ∃ g, v = .slice (some ⟨g, 0, none⟩) 1 1) ∧ (k = q1 → ∃ a c, v = .slice a (l1.length + 1) c) ∧ (k = q2 → ∃ a c, v = .slice a (l2.length + 1) c)
def TwoF (k : Nat) (v : Value) (w' : World) : Prop :=
  (k = p1 → ∃ g, v = .slice (some ⟨g, 0, none⟩) 1 1 ∧ w8.heap.size ≤ g ∧ w'.heap[g]? = some (.cells (e1 x).toArray t1 (0, 0))) ∧
  (k = p2 → ∃ g, v = .slice (some ⟨g, 0, none⟩) 1 1 ∧ w8.heap.size ≤ g ∧ w'.heap[g]? = some (.cells (e2 y).toArray t2 (0, 0))) ∧
  (k = q1 → RowE e1 k1 t1 w' B v (l1 ++ [x]) ∧ ∀ b, v.ownBlock = some b → (v1.ownBlock = some b ∨ w8.heap.size ≤ b) ∧ b < w'.heap.size) ∧
  (k = q2 → RowE e2 k2 t2 w' B v (l2 ++ [y]) ∧ ∀ b, v.ownBlock = some b → (v2.ownBlock = some b ∨ w8.heap.size ≤ b) ∧ b < w'.heap.size)
variable {e1 k1 t1 e2 k2 t2 w8 B v1 v2 l1 l2 x y p1 q1 p2 q2}
theorem TwoF.keep (h1 : RowE e1 k1 t1 w8 B v1 l1) (h2 : RowE e2 k2 t2 w8 B v2 l2) (ht : t1 ≠ t2) {S : List Nat} {k : Nat} {v : Value} {w w' : World} (kp : Keep S w w') (h : TwoF e1 k1 t1 e2 k2 t2 w8 B v1 v2 l1 l2 x y p1 q1 p2 q2 k v w)
    (hS : S = [] ∨ (k ≠ q1 ∧ S = v1.ownBlock.toList) ∨ (k ≠ q2 ∧ S = v2.ownBlock.toList)) : TwoF e1 k1 t1 e2 k2 t2 w8 B v1 v2 l1 l2 x y p1 q1 p2 q2 k v w' := by
  have hap : ∀ b, v1.ownBlock = some b → v2.ownBlock ≠ some b := fun b g1 g2 => by
    obtain ⟨-, -, cs, g3⟩ := h1.lt b g1
    exact h2.ne g3 ht g2
  have lo : ∀ b ∈ S, b < w8.heap.size := fun b hb => by
    rcases hS with rfl | ⟨-, rfl⟩ | ⟨-, rfl⟩
    · cases hb
    · exact (h1.lt b (by simpa using hb)).2.1
    · exact (h2.lt b (by simpa using hb)).2.1
  refine ⟨fun e => ?_, fun e => ?_, fun e => ?_, fun e => ?_⟩
  · obtain ⟨g, g1, g2, g3⟩ := h.1 e
    exact ⟨g, g1, g2, kp.blk (fun hm => by have := lo _ hm; omega) g3⟩
  · obtain ⟨g, g1, g2, g3⟩ := h.2.1 e
    exact ⟨g, g1, g2, kp.blk (fun hm => by have := lo _ hm; omega) g3⟩
  · obtain ⟨g1, g2⟩ := h.2.2.1 e
    refine ⟨g1.keep kp (fun b hb hm => ?_), fun b hb => ⟨(g2 b hb).1, Nat.lt_of_lt_of_le (g2 b hb).2 kp.size⟩⟩
    rcases (g2 b hb).1 with g3 | g3
    · rcases hS with rfl | ⟨hk, -⟩ | ⟨-, rfl⟩
      · cases hm
      · exact hk e
      · exact hap b g3 (by simpa using hm)
    · have := lo b hm; omega
  · obtain ⟨g1, g2⟩ := h.2.2.2 e
    refine ⟨g1.keep kp (fun b hb hm => ?_), fun b hb => ⟨(g2 b hb).1, Nat.lt_of_lt_of_le (g2 b hb).2 kp.size⟩⟩
    rcases (g2 b hb).1 with g3 | g3
    · rcases hS with rfl | ⟨-, rfl⟩ | ⟨hk, -⟩
      · cases hm
      · exact hap b (by simpa using hm) g3
      · exact hk e
    · have := lo b hm; omega
theorem two_ok {loud : List Nat} (h1 : RowE e1 k1 t1 w8 B v1 l1) (h2 : RowE e2 k2 t2 w8 B v2 l2) (ht : t1 ≠ t2) (hq : q1 ≠ q2) :
    ParOk loud (TwoI w8 v1 v2) (TwoG v1 v2 q1 q2) (TwoPre e1 k1 t1 e2 k2 t2 B v1 v2 l1 l2 q1 q2) (TwoF e1 k1 t1 e2 k2 t2 w8 B v1 v2 l1 l2 x y p1 q1 p2 q2) := by
  have hap : ∀ b, v1.ownBlock = some b → v2.ownBlock ≠ some b := fun b g1 g2 => by
    obtain ⟨-, -, cs, g3⟩ := h1.lt b g1
    exact h2.ne g3 ht g2
  refine ⟨fun j w w' _ hI hG => ?_, fun j k w w' _ _ hne hI hG hP => ?_, fun j k v w w' _ _ hne hI hG hF => ?_⟩
  · by_cases a1 : j = q1
    · exact Keep.trans hI ((hG.1 a1).mono (fun b hb => List.mem_append_left _ hb))
    · by_cases a2 : j = q2
      · exact Keep.trans hI ((hG.2.1 a2).mono (fun b hb => List.mem_append_right _ hb))
      · exact Keep.trans hI ((hG.2.2 a1 a2).mono (by simp))
  · by_cases a1 : j = q1
    · exact ⟨fun e => absurd (a1.trans e.symm) hne, fun e => (hP.2 e).keep (hG.1 a1) (fun b hb hm => hap b (by simpa using hm) hb)⟩
    · by_cases a2 : j = q2
      · exact ⟨fun e => (hP.1 e).keep (hG.2.1 a2) (fun b hb hm => hap b hb (by simpa using hm)), fun e => absurd (a2.trans e.symm) hne⟩
      · exact ⟨fun e => (hP.1 e).keep (hG.2.2 a1 a2) (by simp), fun e => (hP.2 e).keep (hG.2.2 a1 a2) (by simp)⟩
  · by_cases a1 : j = q1
    · exact hF.keep h1 h2 ht (hG.1 a1) (.inr (.inl ⟨fun e => hne (a1.trans e.symm), rfl⟩))
    · by_cases a2 : j = q2
      · exact hF.keep h1 h2 ht (hG.2.1 a2) (.inr (.inr ⟨fun e => hne (a2.trans e.symm), rfl⟩))
      · exact hF.keep h1 h2 ht (hG.2.2 a1 a2) (.inl rfl)
theorem TwoSh.build (h : p1 ≠ q1 ∧ p1 ≠ q2 ∧ p2 ≠ q1 ∧ p2 ≠ q2) {k : Nat} (hk : k = p1 ∨ k = p2) (g : Nat) : TwoSh l1 l2 p1 q1 p2 q2 k (.slice (some ⟨g, 0, none⟩) 1 1) :=
  ⟨fun _ => ⟨g, rfl⟩, fun e => by subst e; exact absurd hk (by rintro (e | e); exact h.1 e.symm; exact h.2.2.1 e.symm), fun e => by subst e; exact absurd hk (by rintro (e | e); exact h.2.1 e.symm; exact h.2.2.2 e.symm)⟩
/-- what a loud append is asked -/
theorem two_run1 {P : Program} (L : Lies e1 k1) {ts ty : TypeId} {z : Value} {bytes : Nat} (hts : P.underlying ts = some (.slice t1)) (hi : (P.info? t1).map (fun i => (i.zero, i.size, i.bytes)) = some (some z, k1, bytes)) (hz : z.cells.size = k1) (hk : 0 < k1) (hby : bytes ≤ 400)
    (hd : q1 ≠ p1 ∧ q1 ≠ p2 ∧ q1 ≠ q2) {w : World} (hI : TwoI w8 v1 v2 w) (hP : TwoPre e1 k1 t1 e2 k2 t2 B v1 v2 l1 l2 q1 q2 q1 w) (hB : B ≤ w8.heap.size) (hn : l1.length ≤ 1000000) {v : Value} (hF : TwoF e1 k1 t1 e2 k2 t2 w8 B v1 v2 l1 l2 x y p1 q1 p2 q2 p1 v w) :
    ∃ v' w', (Builtin.append_ #[ts, ts] ty #[v1, v]).run P w = .ok v' w' ∧ TwoG v1 v2 q1 q2 q1 w w' ∧ TwoSh l1 l2 p1 q1 p2 q2 q1 v' ∧ TwoF e1 k1 t1 e2 k2 t2 w8 B v1 v2 l1 l2 x y p1 q1 p2 q2 q1 v' w' := by
  obtain ⟨g, rfl, hg, hc⟩ := hF.1 rfl
  have hI' : Keep (v1.ownBlock.toList ++ v2.ownBlock.toList) w8 w := hI
  obtain ⟨v', w', hrun, ho, hkp, hloc⟩ := run_append_one (P := P) (ty := ty) L hts hi hz hk hby B (hP.1 rfl) g x hc hn (Nat.le_trans hB hI'.size)
  obtain ⟨a, c, e⟩ := ho.form
  refine ⟨v', w', hrun, ⟨fun _ => hkp, fun e => absurd e hd.2.2, fun e => absurd rfl e⟩, ⟨fun e => (by rcases e with e | e; exact absurd e hd.1; exact absurd e hd.2.1), fun _ => ⟨a, c, by rw [e, List.length_append]; rfl⟩, fun e => absurd e hd.2.2⟩,
    fun e => absurd e hd.1, fun e => absurd e hd.2.1, fun _ => ⟨ho, fun b hb => ⟨?_, (ho.lt b hb).2.1⟩⟩, fun e => absurd e hd.2.2⟩
  rcases hloc with h | h
  · exact .inl (by rw [← h, hb])
  · rw [hb] at h
    cases h
    exact .inr hI'.size
theorem two_run2 {P : Program} (L : Lies e2 k2) {ts ty : TypeId} {z : Value} {bytes : Nat} (hts : P.underlying ts = some (.slice t2)) (hi : (P.info? t2).map (fun i => (i.zero, i.size, i.bytes)) = some (some z, k2, bytes)) (hz : z.cells.size = k2) (hk : 0 < k2) (hby : bytes ≤ 400)
    (hd : q2 ≠ p1 ∧ q2 ≠ p2 ∧ q2 ≠ q1) {w : World} (hI : TwoI w8 v1 v2 w) (hP : TwoPre e1 k1 t1 e2 k2 t2 B v1 v2 l1 l2 q1 q2 q2 w) (hB : B ≤ w8.heap.size) (hn : l2.length ≤ 1000000) {v : Value} (hF : TwoF e1 k1 t1 e2 k2 t2 w8 B v1 v2 l1 l2 x y p1 q1 p2 q2 p2 v w) :
    ∃ v' w', (Builtin.append_ #[ts, ts] ty #[v2, v]).run P w = .ok v' w' ∧ TwoG v1 v2 q1 q2 q2 w w' ∧ TwoSh l1 l2 p1 q1 p2 q2 q2 v' ∧ TwoF e1 k1 t1 e2 k2 t2 w8 B v1 v2 l1 l2 x y p1 q1 p2 q2 q2 v' w' := by
  obtain ⟨g, rfl, hg, hc⟩ := hF.2.1 rfl
  have hI' : Keep (v1.ownBlock.toList ++ v2.ownBlock.toList) w8 w := hI
  obtain ⟨v', w', hrun, ho, hkp, hloc⟩ := run_append_one (P := P) (ty := ty) L hts hi hz hk hby B (hP.2 rfl) g y hc hn (Nat.le_trans hB hI'.size)
  obtain ⟨a, c, e⟩ := ho.form
  refine ⟨v', w', hrun, ⟨fun e => absurd e hd.2.2, fun _ => hkp, fun _ e => absurd rfl e⟩, ⟨fun e => (by rcases e with e | e; exact absurd e hd.1; exact absurd e hd.2.1), fun e => absurd e hd.2.2, fun _ => ⟨a, c, by rw [e, List.length_append]; rfl⟩⟩,
    fun e => absurd e hd.1, fun e => absurd e hd.2.1, fun e => absurd e hd.2.2, fun _ => ⟨ho, fun b hb => ⟨?_, (ho.lt b hb).2.1⟩⟩⟩
  rcases hloc with h | h
  · exact .inl (by rw [← h, hb])
  · rw [hb] at h
    cases h
    exact .inr hI'.size
/-- what a loud literal is asked -/
theorem two_new (h : p1 ≠ q1 ∧ p1 ≠ q2 ∧ p2 ≠ q1 ∧ p2 ≠ q2) (hp : p1 ≠ p2) {w : World} (hI : TwoI w8 v1 v2 w) :
    (TwoG v1 v2 q1 q2 p1 w (w.alloc (.cells (e1 x).toArray t1)) ∧ TwoSh l1 l2 p1 q1 p2 q2 p1 (.slice (some ⟨w.heap.size, 0, none⟩) 1 1) ∧ TwoF e1 k1 t1 e2 k2 t2 w8 B v1 v2 l1 l2 x y p1 q1 p2 q2 p1 (.slice (some ⟨w.heap.size, 0, none⟩) 1 1) (w.alloc (.cells (e1 x).toArray t1))) ∧
    (TwoG v1 v2 q1 q2 p2 w (w.alloc (.cells (e2 y).toArray t2)) ∧ TwoSh l1 l2 p1 q1 p2 q2 p2 (.slice (some ⟨w.heap.size, 0, none⟩) 1 1) ∧ TwoF e1 k1 t1 e2 k2 t2 w8 B v1 v2 l1 l2 x y p1 q1 p2 q2 p2 (.slice (some ⟨w.heap.size, 0, none⟩) 1 1) (w.alloc (.cells (e2 y).toArray t2))) := by
  have hI' : Keep (v1.ownBlock.toList ++ v2.ownBlock.toList) w8 w := hI
  refine ⟨⟨⟨fun e => absurd e h.1, fun e => absurd e h.2.1, fun _ _ => (Keep.refl [] w).alloc _⟩, TwoSh.build h (.inl rfl) _, fun _ => ⟨_, rfl, hI'.size, World.alloc_heap_new w _⟩, fun e => absurd e hp, fun e => absurd e h.1, fun e => absurd e h.2.1⟩,
    ⟨⟨fun e => absurd e h.2.2.1, fun e => absurd e h.2.2.2, fun _ _ => (Keep.refl [] w).alloc _⟩, TwoSh.build h (.inr rfl) _, fun e => absurd e.symm hp, fun _ => ⟨_, rfl, hI'.size, World.alloc_heap_new w _⟩, fun e => absurd e h.2.2.1, fun e => absurd e h.2.2.2⟩⟩
end
end Sg
