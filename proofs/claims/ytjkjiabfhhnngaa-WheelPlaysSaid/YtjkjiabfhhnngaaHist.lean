import Derived.Test.YtjkjiabfhhnngaaLex
/-! A region that draws its order: as in Lex, and a quiet operation may lean on what the loud ones that it waits for have left. -/
namespace Sg
open Go Go.RowKit

section
variable {P : Program} {ops : Array Oper} {G : World → World → Prop} {loud : List Nat} {lev : Nat → Nat} {Q : Exit → Act → World → Prop}

/-- a function that ends returns one value -/
theorem Calls.one {f : FuncId} {args : Array Value} {w w1 w2 : World} {v1 v2 : Value} (h1 : Calls P f args w (fun e w' => e = .returned v1 ∧ w' = w1)) (h2 : Calls P f args w (fun e w' => e = .returned v2 ∧ w' = w2)) (hi : P.inits.idxOf? f = none) : v1 = v2 := by
  have g1 : Calls P f args w fun | .returned v, w' => v = v1 | _, _ => False := h1.mono (by rintro e w' ⟨rfl, rfl⟩; rfl)
  have g2 : Calls P f args w fun | .returned v, w' => v = v2 | _, _ => False := h2.mono (by rintro e w' ⟨rfl, rfl⟩; rfl)
  obtain ⟨n1, u1, x1, r1, rfl⟩ := g1.done hi
  obtain ⟨n2, u2, x2, r2, rfl⟩ := g2.done hi
  rcases Nat.le_total n1 n2 with h | h
  · obtain ⟨k, rfl⟩ := Nat.exists_eq_add_of_le h
    rw [runN_add, r1] at r2
    simpa using congrArg (fun s : Stepped => match s with | .ended (.done v) _ => v | _ => undef) r2
  · obtain ⟨k, rfl⟩ := Nat.exists_eq_add_of_le h
    rw [runN_add, r2] at r1
    simpa using (congrArg (fun s : Stepped => match s with | .ended (.done v) _ => v | _ => undef) r1).symm

/-- the operation yields v and leaves the world alone: by itself, or by a call -/
def Yields (P : Program) (o : Oper) (a : Act) (w : World) (v : Value) : Prop :=
  (execOp a.eval o).run P w = .ok (.value v) w ∨ ∃ f args, (execOp a.eval o).run P w = .ok (.enter f args) w ∧ P.inits.idxOf? f = none ∧ Calls P f args w (fun e w' => e = .returned v ∧ w' = w)
theorem Yields.one {o : Oper} {a : Act} {w : World} {v v' : Value} (h : Yields P o a w v) (h' : Yields P o a w v') : v' = v := by
  rcases h with h | ⟨f, args, h, hi, hc⟩ <;> rcases h' with h' | ⟨f', args', h', hi', hc'⟩
  · simpa using h'.symm.trans h
  · rw [h] at h'; simp at h'
  · rw [h] at h'; simp at h'
  · rw [h] at h'
    simp at h'
    obtain ⟨rfl, rfl⟩ := h'
    exact Calls.one hc' hc hi
theorem Yields.call {o : Oper} {a : Act} {w : World} {v : Value} (f : FuncId) (args : Array Value) (h : (execOp a.eval o).run P w = .ok (.enter f args) w) (hi : P.inits.idxOf? f = none) (hc : Calls P f args w (fun e w' => e = .returned v ∧ w = w')) : Yields P o a w v :=
  .inr ⟨f, args, h, hi, hc.mono fun _ _ ⟨h1, h2⟩ => ⟨h1, h2.symm⟩⟩
theorem Yields.wp {o : Oper} {a : Act} {w : World} {v : Value} {K : Act → World → Prop} (h : Yields P o a w v) (hk : K (a.put o.dst v) w) : o.wp P a w K Q := by
  unfold Oper.wp
  rcases h with h | ⟨f, args, h, hi, hc⟩
  · rw [h]; exact hk
  · rw [h]
    simp only [Oper.upon]
    exact hc.mono (by rintro e w' ⟨rfl, rfl⟩; exact hk)

/-- in every world of C -/
def Still (P : Program) (ops : Array Oper) (C : World → Prop) (o : Oper) (v : Value) (a : Act) : Prop :=
  (Region.wanted o (yielded ops a.tmps) = true ∧ ∀ w', C w' → Yields P o a w' v) ∨ (Region.wanted o (yielded ops a.tmps) = false ∧ v = undef)
theorem Still.swap {C : World → Prop} {o : Oper} {d : Option Tmp} {u v : Value} {a : Act} (h1 : ∀ t, d = some t → t ∉ o.looksAt ops) (hs : ∀ cs b, o.op ≠ .select cs b) : Still P ops C o v (a.put d u) ↔ Still P ops C o v a := by
  unfold Still Yields
  rw [wanted_put o a d u h1, execOp_put o hs a d u h1]
theorem Still.one {C : World → Prop} {o : Oper} {v v' : Value} {a : Act} {w : World} (hw : C w) (h : Still P ops C o v a) (h' : Still P ops C o v' a) : v' = v := by
  rcases h with ⟨h1, h2⟩ | ⟨h1, h2⟩ <;> rcases h' with ⟨h1', h2'⟩ | ⟨h1', h2'⟩
  · exact Yields.one (h2 w hw) (h2' w hw)
  · rw [h1] at h1'; cases h1'
  · rw [h1] at h1'; cases h1'
  · rw [h2, h2']

/-- behind loud operation k the world is w -/
def upd (H : Nat → World) (k : Nat) (w : World) : Nat → World := fun i => if i ≤ k then H i else w

/-- the last operation, which waits for all others -/
def lastB (ops : Array Oper) (k : Nat) : Bool := decide (k + 1 = ops.size) && (List.range k).all fun i => reach ops ops.size k i

def hisOp (P : Program) (ops : Array Oper) (G : World → World → Prop) (loud : List Nat) (lev : Nat → Nat) (k : Nat) (o : Oper) (K : (Nat → World) → Act → World → Prop) (H : Nat → World) (a : Act) (w : World) : Prop :=
  if Region.wanted o (yielded ops a.tmps) = true then
    (if loud.contains k = true then loudly P o a w (fun a' w' => (lastB ops k = true ∨ G w w') ∧ K (upd H k w') a' w')
     else ∃ v, (∀ w', G (H (lev k)) w' → Yields P o a w' v) ∧ K H (a.put o.dst v) w)
  else K H (a.put o.dst undef) w

def wpHis (P : Program) (ops : Array Oper) (G : World → World → Prop) (loud : List Nat) (lev : Nat → Nat) (Q : Exit → Act → World → Prop) : List Nat → (Nat → World) → Act → World → Prop
  | [], _, a, w => Q .normal a w
  | k :: rest, H, a, w => match ops[k]? with
    | none => wpHis P ops G loud lev Q rest H a w
    | some o => hisOp P ops G loud lev k o (wpHis P ops G loud lev Q rest) H a w

theorem hisOp_mono {k : Nat} {o : Oper} {a : Act} {w : World} {H : Nat → World} {K K' : (Nat → World) → Act → World → Prop} (hk : ∀ H' u w', K H' (a.put o.dst u) w' → K' H' (a.put o.dst u) w') (h : hisOp P ops G loud lev k o K H a w) : hisOp P ops G loud lev k o K' H a w := by
  unfold hisOp at *
  split
  · rename_i hw
    simp only [hw, if_true] at h
    split
    · rename_i hl
      rw [if_pos hl] at h
      refine loudly_mono ?_ (loudly_put h)
      rintro a' w' ⟨⟨hc, hK⟩, u, rfl⟩
      exact ⟨hc, hk _ _ _ hK⟩
    · rename_i hl
      rw [if_neg hl] at h
      obtain ⟨v, h1, h2⟩ := h
      exact ⟨v, h1, hk _ _ _ h2⟩
  · rename_i hw
    rw [if_neg hw] at h
    exact hk _ _ _ h

theorem hisOp_swap {k : Nat} {o : Oper} {d : Option Tmp} {v : Value} {a : Act} {w : World} {H : Nat → World} {K : (Nat → World) → Act → World → Prop} (h1 : ∀ t, d = some t → t ∉ o.looksAt ops) (h2 : ∀ t, d = some t → o.dst ≠ some t) (hs : ∀ cs b, o.op ≠ .select cs b) :
    hisOp P ops G loud lev k o K H (a.put d v) w ↔ hisOp P ops G loud lev k o (fun H' a' w' => K H' (a'.put d v) w') H a w := by
  unfold hisOp
  rw [wanted_put o a d v h1]
  have hc : ∀ u, (a.put d v).put o.dst u = (a.put o.dst u).put d v := fun u => Act.put_comm a v u h2
  split
  · split
    · exact loudly_swap h1 h2 hs
    · unfold Yields; rw [execOp_put o hs a d v h1]; simp only [hc]
  · rw [hc]

theorem hisOp_quiet {k : Nat} {o : Oper} {a : Act} {w : World} {H : Nat → World} {K : (Nat → World) → Act → World → Prop} (hl : loud.contains k = false) : hisOp P ops G loud lev k o K H a w ↔ ∃ v, Still P ops (G (H (lev k))) o v a ∧ K H (a.put o.dst v) w := by
  unfold hisOp Still
  rw [hl]
  by_cases hw : Region.wanted o (yielded ops a.tmps) = true
  · simp [hw]
  · simp [hw]

theorem hisOp_loud {k : Nat} {o : Oper} {a : Act} {w : World} {H : Nat → World} {K : (Nat → World) → Act → World → Prop} (hl : loud.contains k = true) : hisOp P ops G loud lev k o K H a w ↔ (Region.wanted o (yielded ops a.tmps) = true ∧ loudly P o a w (fun a' w' => (lastB ops k = true ∨ G w w') ∧ K (upd H k w') a' w')) ∨ (Region.wanted o (yielded ops a.tmps) = false ∧ K H (a.put o.dst undef) w) := by
  unfold hisOp
  rw [hl]
  by_cases hw : Region.wanted o (yielded ops a.tmps) = true
  · simp [hw]
  · simp [hw]

theorem hpullQ (ht : ∀ a b c, G a b → G b c → G a c) (hr : ∀ a, G a a) (hsel : ∀ (i : Nat) (o : Oper) cs b, ops[i]? = some o → o.op ≠ .select cs b) {j : Nat} {oj : Oper} (hj : ops[j]? = some oj) (hq : loud.contains j = false) (l2 : List Nat) :
    ∀ (l1 : List Nat) (H : Nat → World) (a : Act) (w : World), Beside ops oj l1 → (∀ i ∈ l1, loud.contains i = true → lev j ≤ i ∧ lastB ops i = false) → (∀ i, G (H i) w) →
    wpHis P ops G loud lev Q (l1 ++ j :: l2) H a w → ∃ v, Still P ops (G (H (lev j))) oj v a ∧ wpHis P ops G loud lev Q (l1 ++ l2) H (a.put oj.dst v) w
  | [], H, a, w, _, _, _, h => by
    simp only [List.nil_append, wpHis, hj] at h
    exact (hisOp_quiet hq).1 h
  | i :: l1, H, a, w, hb, hlv, hw, h => by
    have hb' : Beside ops oj l1 := fun k hk => hb k (List.mem_cons_of_mem _ hk)
    have hlv' : ∀ i ∈ l1, loud.contains i = true → lev j ≤ i ∧ lastB ops i = false := fun k hk => hlv k (List.mem_cons_of_mem _ hk)
    simp only [List.cons_append, wpHis] at h ⊢
    cases ho : ops[i]? with
    | none =>
      simp only [ho] at h ⊢
      exact hpullQ ht hr hsel hj hq l2 l1 H a w hb' hlv' hw h
    | some oi =>
      simp only [ho] at h ⊢
      obtain ⟨a1, a2, a3⟩ := Oper.apart_spec (hb i (List.mem_cons_self) oi ho)
      have hc : ∀ (a : Act) u v, (a.put oi.dst u).put oj.dst v = (a.put oj.dst v).put oi.dst u := fun a u v => Act.put_comm a u v a2
      have si := hsel i oi
      have sj := hsel j oj
      have a2' : ∀ t, oj.dst = some t → oi.dst ≠ some t := fun t e e' => a2 t e' e
      by_cases hli : loud.contains i = true
      · by_cases hwi : Region.wanted oi (yielded ops a.tmps) = true
        · obtain ⟨hle, hnl⟩ := hlv i List.mem_cons_self hli
          unfold hisOp at h
          rw [if_pos hwi, if_pos hli] at h
          have h' : loudly P oi a w (fun a' w' => (lastB ops i = true ∨ G w w') ∧ ∃ v, Still P ops (G (H (lev j))) oj v a ∧ wpHis P ops G loud lev Q (l1 ++ l2) (upd H i w') (a'.put oj.dst v) w') := by
            refine loudly_mono ?_ (loudly_put h)
            rintro a' w' ⟨⟨hC0, hl⟩, u, rfl⟩
            have hC := hC0.resolve_left (by rw [hnl]; simp)
            have hinv : ∀ n, G (upd H i w' n) w' := by
              intro n
              unfold upd
              split
              · exact ht _ _ _ (hw n) hC
              · exact hr _
            obtain ⟨v, h1, h2⟩ := hpullQ ht hr hsel hj hq l2 l1 (upd H i w') _ w' hb' hlv' hinv hl
            have e : upd H i w' (lev j) = H (lev j) := if_pos hle
            rw [e] at h1
            exact ⟨.inr hC, v, (Still.swap a1 (fun cs b => sj cs b hj)).1 h1, h2⟩
          obtain ⟨_, _, _, v, hv, _⟩ := loudly_some h'
          refine ⟨v, hv, ?_⟩
          refine (hisOp_swap a3 a2' (fun cs b => si cs b ho)).2 ?_
          unfold hisOp
          rw [if_pos hwi, if_pos hli]
          refine loudly_mono ?_ h'
          rintro a' w' ⟨hC, v', hv', hl⟩
          rw [Still.one (hw (lev j)) hv hv'] at hl
          exact ⟨hC, hl⟩
        · unfold hisOp at h
          rw [if_neg hwi] at h
          obtain ⟨v, h1, h2⟩ := hpullQ ht hr hsel hj hq l2 l1 H _ w hb' hlv' hw h
          refine ⟨v, (Still.swap a1 (fun cs b => sj cs b hj)).1 h1, ?_⟩
          refine (hisOp_swap a3 a2' (fun cs b => si cs b ho)).2 ?_
          unfold hisOp
          rw [if_neg hwi]
          exact h2
      · have hli' : loud.contains i = false := by simpa using hli
        obtain ⟨u, hu, h⟩ := (hisOp_quiet hli').1 h
        obtain ⟨v, h1, h2⟩ := hpullQ ht hr hsel hj hq l2 l1 H _ w hb' hlv' hw h
        refine ⟨v, (Still.swap a1 (fun cs b => sj cs b hj)).1 h1, ?_⟩
        refine (hisOp_quiet hli').2 ⟨u, (Still.swap a3 (fun cs b => si cs b ho)).2 hu, ?_⟩
        rw [← hc]
        exact h2

theorem hpullL (hsel : ∀ (i : Nat) (o : Oper) cs b, ops[i]? = some o → o.op ≠ .select cs b) {j : Nat} {oj : Oper} (hj : ops[j]? = some oj) (l2 : List Nat) : ∀ (l1 : List Nat) (H : Nat → World) (a : Act) (w : World), Beside ops oj l1 → (∀ i ∈ l1, loud.contains i = false ∧ (loud.contains j = true → lev i ≤ j)) → loud.contains j = true →
    wpHis P ops G loud lev Q (l1 ++ j :: l2) H a w → hisOp P ops G loud lev j oj (wpHis P ops G loud lev Q (l1 ++ l2)) H a w
  | [], H, a, w, _, _, _, h => by
    simp only [List.nil_append, wpHis, hj] at h
    exact h
  | i :: l1, H, a, w, hb, hql, hlj, h => by
    have hb' : Beside ops oj l1 := fun k hk => hb k (List.mem_cons_of_mem _ hk)
    have hql' : ∀ i ∈ l1, loud.contains i = false ∧ (loud.contains j = true → lev i ≤ j) := fun k hk => hql k (List.mem_cons_of_mem _ hk)
    obtain ⟨hli', hle⟩ := hql i List.mem_cons_self
    cases ho : ops[i]? with
    | none =>
      simp only [List.cons_append, wpHis, ho] at h ⊢
      exact hpullL hsel hj l2 l1 H a w hb' hql' hlj h
    | some oi =>
      simp only [List.cons_append, wpHis, ho] at h ⊢
      obtain ⟨a1, a2, a3⟩ := Oper.apart_spec (hb i (List.mem_cons_self) oi ho)
      have si := hsel i oi
      have sj := hsel j oj
      obtain ⟨u, hu, h⟩ := (hisOp_quiet hli').1 h
      have ih := hpullL hsel hj l2 l1 H _ w hb' hql' hlj h
      have ih' := (hisOp_swap a1 a2 (fun cs b => sj cs b hj)).1 ih
      -- behind j the world that i leans on is the same
      rcases (hisOp_loud hlj).1 ih' with ⟨hwj, ih'⟩ | ⟨hwj, ih'⟩
      · refine (hisOp_loud hlj).2 (.inl ⟨hwj, ?_⟩)
        refine loudly_mono ?_ (loudly_put ih')
        rintro a' w' ⟨⟨hC, hl⟩, v, rfl⟩
        refine ⟨hC, (hisOp_quiet hli').2 ⟨u, ?_, hl⟩⟩
        have e : upd H j w' (lev i) = H (lev i) := if_pos (hle hlj)
        rw [e]
        exact (Still.swap a3 (fun cs b => si cs b ho)).2 hu
      · exact (hisOp_loud hlj).2 (.inr ⟨hwj, (hisOp_quiet hli').2 ⟨u, (Still.swap a3 (fun cs b => si cs b ho)).2 hu, ih'⟩⟩)

/-- a quiet operation leans on no loud one that it does not wait for -/
def hisOk (ops : Array Oper) (loud : List Nat) (lev : Nat → Nat) : Bool :=
  lexOk ops loud && (List.range ops.size).all fun j => loud.contains j || (lev j ≤ j && (List.range j).all fun i => !loud.contains i || lev j ≤ i || reach ops ops.size j i)

theorem hisOk_lev (h : hisOk ops loud lev = true) {i j : Nat} (hjn : j < ops.size) (hij : i < j) (hi : loud.contains i = true) (hj : loud.contains j = false) : lev j ≤ i ∨ reach ops ops.size j i = true := by
  unfold hisOk at h
  simp only [Bool.and_eq_true] at h
  have h1 := List.all_eq_true.1 h.2 j (List.mem_range.2 hjn)
  rw [hj, Bool.false_or] at h1
  simp only [Bool.and_eq_true] at h1
  have h2 := List.all_eq_true.1 h1.2 i (List.mem_range.2 hij)
  rw [hi] at h2
  simpa using h2
theorem hisOk_self (h : hisOk ops loud lev = true) {j : Nat} (hjn : j < ops.size) (hj : loud.contains j = false) : lev j ≤ j := by
  unfold hisOk at h
  simp only [Bool.and_eq_true] at h
  have h1 := List.all_eq_true.1 h.2 j (List.mem_range.2 hjn)
  rw [hj, Bool.false_or] at h1
  simp only [Bool.and_eq_true] at h1
  simpa using h1.1

theorem wpAny_zero {listed : Array Bool} {a : Act} {w : World} (hr : rest ops.size listed = []) (h : Q .normal a w) : wpAny P .any ops Q 0 listed a w := by
  refine ⟨?_, h⟩
  rw [List.eq_nil_iff_forall_not_mem]
  intro j hj
  obtain ⟨hun, oj, hoj, _⟩ := mem_ready.1 hj
  have : j ∈ rest ops.size listed := List.mem_filter.2 ⟨List.mem_range.2 (Array.getElem?_eq_some_iff.1 hoj).1, by simpa using hun⟩
  rw [hr] at this
  cases this

theorem wpAny_of_his (ht : ∀ a b c, G a b → G b c → G a c) (hrf : ∀ a, G a a) (hok' : hisOk ops loud lev = true) : ∀ (fuel : Nat) (listed : Array Bool) (H : Nat → World) (a : Act) (w : World), listed.size = ops.size → Closed ops listed → (rest ops.size listed).length = fuel → (∀ i, G (H i) w) →
    wpHis P ops G loud lev Q (rest ops.size listed) H a w → wpAny P .any ops Q fuel listed a w
  | 0, listed, H, a, w, hs, hc, hf, hw, h => by
    have hr : rest ops.size listed = [] := List.eq_nil_of_length_eq_zero hf
    rw [hr] at h
    refine ⟨?_, h⟩
    rw [List.eq_nil_iff_forall_not_mem]
    intro j hj
    have := (mem_ready.1 hj)
    obtain ⟨hun, oj, hoj, _⟩ := this
    have : j ∈ rest ops.size listed := List.mem_filter.2 ⟨List.mem_range.2 (Array.getElem?_eq_some_iff.1 hoj).1, by simpa using hun⟩
    rw [hr] at this
    cases this
  | fuel + 1, listed, H, a, w, hs, hc, hf, hw, h => by
    have hok : lexOk ops loud = true := by
      unfold hisOk at hok'
      simp only [Bool.and_eq_true] at hok'
      exact hok'.1
    refine ⟨fun hnil => ?_, fun j hj => ?_⟩
    · exfalso
      cases hr : rest ops.size listed with
      | nil => rw [hr] at hf; cases hf
      | cons i l =>
        have hi : i ∈ rest ops.size listed := by rw [hr]; exact List.mem_cons_self
        have hi' := List.mem_filter.1 hi
        have hin := List.mem_range.1 hi'.1
        have hp : (rest ops.size listed).Pairwise (· < ·) := List.Pairwise.filter _ List.pairwise_lt_range
        rw [hr] at hp
        have hready : i ∈ Region.ready .any ops listed := by
          refine mem_ready.2 ⟨by simpa using hi'.2, ops[i], by simp [hin], fun e he hb => ?_⟩
          have hlt := lexOk_back hok (j := i) (oj := ops[i]) (by simp [hin]) e he hb
          cases hle : listed.getD e.on false with
          | true => rfl
          | false =>
            exfalso
            have hin' : e.on < listed.size := by rw [hs]; omega
            have : e.on ∈ rest ops.size listed := List.mem_filter.2 ⟨List.mem_range.2 (by omega), by simpa using getD_in hin' hle⟩
            rw [hr] at this
            rcases List.mem_cons.1 this with e1 | e1
            · omega
            · have := (List.pairwise_cons.1 hp).1 _ e1; omega
        rw [hnil] at hready
        cases hready
    · obtain ⟨hun, oj, hoj, hall⟩ := mem_ready.1 hj
      have hjn := (Array.getElem?_eq_some_iff.1 hoj).1
      have hjr : j ∈ rest ops.size listed := List.mem_filter.2 ⟨List.mem_range.2 hjn, by simpa using hun⟩
      obtain ⟨l1, l2, e1, e2, hl1⟩ := rest_set hs hjr
      have hno : ∀ i ∈ l1, reach ops ops.size j i = false := by
        intro i hi
        obtain ⟨hij, hiu⟩ := hl1 i hi
        cases h1 : reach ops ops.size j i with
        | false => rfl
        | true =>
          have := reach_listed hc _ j i oj hoj hall h1
          rw [getD_both hiu] at this
          cases this
      have hpair : ∀ i ∈ l1, ∀ oi, ops[i]? = some oi → oi.apart ops oj = true ∧ (loud.contains i = false ∨ loud.contains j = false) := by
        intro i hi oi hoi
        obtain ⟨hij, hiu⟩ := hl1 i hi
        rcases lexOk_pair hok hoi hoj hij with h1 | h1
        · exact h1
        · rw [hno i hi] at h1; cases h1
      have hb : Beside ops oj l1 := fun i hi oi hoi => (hpair i hi oi hoi).1
      rw [e1] at h
      have hinv : ∀ w', G w w' → ∀ n, G (upd H j w' n) w' := by
        intro w' hC n
        unfold upd
        split
        · exact ht _ _ _ (hw n) hC
        · exact hrf _
      have hlex : hisOp P ops G loud lev j oj (wpHis P ops G loud lev Q (l1 ++ l2)) H a w := by
        by_cases hlj : loud.contains j = true
        · refine hpullL (lexOk_sel hok) hoj l2 l1 H a w hb (fun i hi => ?_) hlj h
          have hin : i < ops.size := by have := (hl1 i hi).1; omega
          rcases (hpair i hi ops[i] (by simp [hin])).2 with h1 | h1
          · refine ⟨h1, fun _ => ?_⟩
            have := hisOk_self hok' hin h1
            have := (hl1 i hi).1
            omega
          · rw [hlj] at h1; cases h1
        · have hlj' : loud.contains j = false := by simpa using hlj
          refine (hisOp_quiet hlj').2 (hpullQ ht hrf (lexOk_sel hok) hoj hlj' l2 l1 H a w hb (fun i hi hli => ⟨?_, ?_⟩) hw h)
          · rcases hisOk_lev hok' hjn (hl1 i hi).1 hli hlj' with h1 | h1
            · exact h1
            · rw [hno i hi] at h1; cases h1
          · cases hb1 : lastB ops i with
            | false => rfl
            | true =>
              unfold lastB at hb1
              simp only [Bool.and_eq_true, decide_eq_true_eq] at hb1
              have := (hl1 i hi).1
              omega
      have hs' : (listed.setIfInBounds j true).size = ops.size := by simp [hs]
      have hc' := closed_set hc hoj hall
      have hf' : (rest ops.size (listed.setIfInBounds j true)).length = fuel := by
        rw [e2]; rw [e1] at hf; simp at hf ⊢; omega
      have ih := fun H' a' w' (hw' : ∀ i, G (H' i) w') (h' : wpHis P ops G loud lev Q (l1 ++ l2) H' a' w') => wpAny_of_his ht hrf hok' fuel (listed.setIfInBounds j true) H' a' w' hs' hc' hf' hw' (by rw [e2]; exact h')
      unfold wpOp
      simp only [hoj]
      unfold hisOp at hlex
      split
      · rename_i hwt
        rw [if_pos hwt] at hlex
        left
        split at hlex
        · refine loudly_wp (loudly_mono ?_ hlex)
          rintro a' w' ⟨hC, hl⟩
          rcases hC with hC | hC
          · have hnil : l1 ++ l2 = [] := by
              rw [List.eq_nil_iff_forall_not_mem]
              intro i hi
              rw [← e2] at hi
              obtain ⟨h1, h2⟩ := List.mem_filter.1 hi
              have h1 := List.mem_range.1 h1
              unfold lastB at hC
              simp only [Bool.and_eq_true, decide_eq_true_eq] at hC
              have hij : i ≠ j := by
                rintro rfl
                have hjs : i < listed.size := by rw [hs]; exact hjn
                simp [hjs] at h2
              have hr1 := List.all_eq_true.1 hC.2 i (List.mem_range.2 (by omega))
              have h3 := reach_listed hc _ j i oj hoj hall hr1
              have h4 : (listed.setIfInBounds j true).getD i true = true := by
                have hi' : i < listed.size := by omega
                have : listed[i] = true := by simpa [Array.getD, hi'] using h3
                simp [Array.getD, hi', Array.getElem_setIfInBounds, this]
              rw [h4] at h2
              cases h2
            rw [e2, hnil] at hf'
            simp at hf'
            subst hf'
            rw [hnil] at hl
            exact wpAny_zero (by rw [e2, hnil]) hl
          · exact ih _ a' w' (hinv w' hC) hl
        · obtain ⟨v, hv, hl⟩ := hlex
          exact Yields.wp (hv w (hw _)) (ih _ _ _ hw hl)
      · rename_i hwt
        rw [if_neg hwt] at hlex
        exact ih _ _ _ hw hlex

/-- The operations from the k-th on. -/
def wpHisL (P : Program) (ops : Array Oper) (G : World → World → Prop) (loud : List Nat) (lev : Nat → Nat) (Q : Exit → Act → World → Prop) : Nat → List Oper → (Nat → World) → Act → World → Prop
  | _, [], _, a, w => Q .normal a w
  | k, o :: rest, H, a, w => hisOp P ops G loud lev k o (wpHisL P ops G loud lev Q (k + 1) rest) H a w

theorem wpHis_of_L : ∀ (l : List Oper) (k : Nat) (H : Nat → World) (a : Act) (w : World), (∀ j, l[j]? = ops[k + j]?) → wpHisL P ops G loud lev Q k l H a w → wpHis P ops G loud lev Q (List.range' k l.length) H a w
  | [], _, _, _, _, _, h => h
  | o :: l, k, H, a, w, hl, h => by
    have h0 : ops[k]? = some o := by simpa using (hl 0).symm
    simp only [List.length_cons, List.range'_succ, wpHis, h0]
    exact hisOp_mono (fun H' u w' hK => wpHis_of_L l (k + 1) H' _ w' (fun j => by have := hl (j + 1); simpa [Nat.add_assoc, Nat.add_comm 1 j] using this) hK) h

theorem wpAny_hlit {os : List Oper} {a : Act} {w : World} (ht : ∀ a b c, G a b → G b c → G a c) (hrf : ∀ a, G a a) (hok : hisOk os.toArray loud lev = true) (h : wpHisL P os.toArray G loud lev Q 0 os (fun _ => w) a w) :
    wpAny P .any os.toArray Q os.toArray.size (Array.replicate os.toArray.size false) a w := by
  refine wpAny_of_his ht hrf hok _ _ (fun _ => w) a w (by simp) ?_ ?_ (fun _ => hrf _) ?_
  · intro j oj _ hl
    rw [getD_replicate_false] at hl
    cases hl
  · rw [rest_none]; simp
  · rw [rest_none, List.range_eq_range']
    have := wpHis_of_L (ops := os.toArray) (G := G) (loud := loud) (lev := lev) (Q := Q) os 0 (fun _ => w) a w (by simp) h
    simpa using this

/-- The walk's own word for the operations from the k-th on: it does not unfold. -/
structure HisW (P : Program) (ops : Array Oper) (G : World → World → Prop) (loud : List Nat) (lev : Nat → Nat) (Q : Exit → Act → World → Prop) (k : Nat) (l : List Oper) (H : Nat → World) (a : Act) (w : World) : Prop where
  out : wpHisL P ops G loud lev Q k l H a w

theorem Keep.refl' (S : List Nat) : ∀ a, Keep S a a := fun a => Keep.refl S a
theorem Keep.tr (S : List Nat) : ∀ a b c, Keep S a b → Keep S b c → Keep S a c := fun _ _ _ h k => h.trans k

/-- THE LAW, in a function's own frame. -/
theorem wp_region_his {id : Nat} {os : List Oper} {a : Act} {w : World} (S : List Nat) (loud : List Nat) (lev : Nat → Nat) (hm : P.follows .mixedOrders = true) (hok : hisOk os.toArray loud lev = true)
    (h : ∀ w1, Keep [] w w1 → w1.heap = w.heap → HisW P os.toArray (Keep S) loud lev Q 0 os (fun _ => w1) a w1) : (Code.region id os.toArray true).wp P Q a w :=
  wp_region_any hm (wpAny_hlit (Keep.tr S) (Keep.refl' S) hok (h _ (Keep.refl [] w).drew rfl).out)

/-- THE LAW, over any relation of what was and what is. -/
theorem wp_region_hisG {id : Nat} {os : List Oper} {a : Act} {w : World} (G : World → World → Prop) (ht : ∀ a b c, G a b → G b c → G a c) (hrf : ∀ a, G a a) (loud : List Nat) (lev : Nat → Nat) (hm : P.follows .mixedOrders = true) (hok : hisOk os.toArray loud lev = true)
    (h : ∀ w1, Keep [] w w1 → w1.heap = w.heap → HisW P os.toArray G loud lev Q 0 os (fun _ => w1) a w1) : (Code.region id os.toArray true).wp P Q a w :=
  wp_region_any hm (wpAny_hlit ht hrf hok (h _ (Keep.refl [] w).drew rfl).out)
/-- what a world is to W stays -/
def Since (W : World) (a b : World) : Prop := Keep [] W a → Keep [] W b
theorem Since.tr (W : World) : ∀ a b c, Since W a b → Since W b c → Since W a c := fun _ _ _ h k x => k (h x)
theorem Since.rf (W : World) : ∀ a, Since W a a := fun _ h => h

/-- THE LAW, in a round. -/
theorem wpIn_region_his {l n id : Nat} {os : List Oper} {a : Act} {w : World} (S : List Nat) (loud : List Nat) (lev : Nat → Nat) (hm : P.follows .mixedOrders = true) (hQ : ¬ LetsOut Q) (hd : os.toArray.all (fun o => !Oper.isDefer o) = true) (hok : hisOk os.toArray loud lev = true)
    (h : ∀ w1, Keep [] w w1 → w1.heap = w.heap → HisW P os.toArray (Keep S) loud lev Q 0 os (fun _ => w1) a w1) : (Code.region id os.toArray true).wpIn (Fence.wide.inRound l) n P Q a w :=
  wpIn_region_any hm (wpAny_in hQ (noDefer_spec hd) _ _ _ _ (wpAny_hlit (Keep.tr S) (Keep.refl' S) hok (h _ (Keep.refl [] w).drew rfl).out))

theorem his_nil {k : Nat} {H : Nat → World} {a : Act} {w : World} (h : Q .normal a w) : HisW P ops G loud lev Q k [] H a w := ⟨h⟩
/-- A quiet operation. -/
theorem his_q {k : Nat} {o : Oper} {l : List Oper} {H : Nat → World} {a : Act} {w : World} (hl : loud.contains k = false) (hw : Region.wanted o (yielded ops a.tmps) = true)
    (h : ∀ K : Act → World → Prop, (∀ a w, HisW P ops G loud lev Q (k + 1) l H a w → K a w) → ∃ v, (∀ w', G (H (lev k)) w' → (execOp a.eval o).run P w' = .ok (.value v) w') ∧ K (a.put o.dst v) w) : HisW P ops G loud lev Q k (o :: l) H a w := by
  obtain ⟨v, hv, hk⟩ := h _ (fun _ _ h => h)
  exact ⟨(hisOp_quiet hl).2 ⟨v, .inl ⟨hw, fun w' hC => .inl (hv w' hC)⟩, hk.out⟩⟩
/-- A call that leaves the world alone. -/
theorem his_c {k : Nat} {o : Oper} {l : List Oper} {H : Nat → World} {a : Act} {w : World} (hl : loud.contains k = false) (hw : Region.wanted o (yielded ops a.tmps) = true) (v : Value)
    (h : ∀ K : Act → World → Prop, (∀ a w, HisW P ops G loud lev Q (k + 1) l H a w → K a w) → (∀ w', G (H (lev k)) w' → Yields P o a w' v) ∧ K (a.put o.dst v) w) : HisW P ops G loud lev Q k (o :: l) H a w := by
  obtain ⟨hv, hk⟩ := h _ (fun _ _ h => h)
  exact ⟨(hisOp_quiet hl).2 ⟨v, .inl ⟨hw, hv⟩, hk.out⟩⟩
/-- An operation that its guard passes over. -/
theorem his_s {k : Nat} {o : Oper} {l : List Oper} {H : Nat → World} {a : Act} {w : World} (hw : Region.wanted o (yielded ops a.tmps) = false)
    (h : ∀ K : Act → World → Prop, (∀ a w, HisW P ops G loud lev Q (k + 1) l H a w → K a w) → K (a.put o.dst undef) w) : HisW P ops G loud lev Q k (o :: l) H a w := by
  refine ⟨?_⟩
  show hisOp _ _ _ _ _ _ _ _ _ _ _
  unfold hisOp
  rw [if_neg (by rw [hw]; simp)]
  exact (h _ (fun _ _ h => h)).out
/-- A loud operation. -/
theorem his_l {k : Nat} {o : Oper} {l : List Oper} {H : Nat → World} {a : Act} {w : World} (hl : loud.contains k = true) (hw : Region.wanted o (yielded ops a.tmps) = true)
    (h : ∀ K : Act → World → Prop, (∀ a w', G w w' → HisW P ops G loud lev Q (k + 1) l (upd H k w') a w' → K a w') → loudly P o a w K) : HisW P ops G loud lev Q k (o :: l) H a w := by
  refine ⟨?_⟩
  show hisOp _ _ _ _ _ _ _ _ _ _ _
  unfold hisOp
  rw [if_pos hw, if_pos hl]
  exact h _ (fun _ _ h1 h2 => ⟨.inr h1, h2.out⟩)
/-- The last one, loud: nothing is asked of what it leaves. -/
theorem his_last {k : Nat} {o : Oper} {l : List Oper} {H : Nat → World} {a : Act} {w : World} (hl : loud.contains k = true) (hlast : lastB ops k = true) (hw : Region.wanted o (yielded ops a.tmps) = true)
    (h : ∀ K : Act → World → Prop, (∀ a w', HisW P ops G loud lev Q (k + 1) l (upd H k w') a w' → K a w') → loudly P o a w K) : HisW P ops G loud lev Q k (o :: l) H a w := by
  refine ⟨?_⟩
  show hisOp _ _ _ _ _ _ _ _ _ _ _
  unfold hisOp
  rw [if_pos hw, if_pos hl]
  exact h _ (fun _ _ h2 => ⟨.inl hlast, h2.out⟩)
end
end Sg
