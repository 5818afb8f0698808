import Derived.Test.YtjkjiabfhhnngaaRange
/-! A region that draws its order: one walk in the order of the text serves every order, if what writes or makes memory stands in one order, and all else reads what that leaves alone. -/
namespace Sg
open Go Go.RowKit

section
variable {P : Program} {ops : Array Oper} {C : World → Prop} {loud : List Nat} {Q : Exit → Act → World → Prop}

/-- What is asked of a loud operation's end: it hands back a value, or a call of it returns. -/
def loudUpon (P : Program) (o : Oper) (a : Act) (K : Act → World → Prop) : Result Next → Prop
  | .ok (.value v) w' => K (a.put o.dst v) w'
  | .ok .skip w' => K (a.put o.dst undef) w'
  | .ok (.enter f args) w' => Calls P f args w' fun
      | .returned v, w'' => K (a.put o.dst v) w''
      | _, _ => False
  | _ => False
theorem loudUpon_value (o : Oper) (a : Act) (K : Act → World → Prop) (v : Value) (w : World) : loudUpon P o a K (.ok (.value v) w) = K (a.put o.dst v) w := rfl
theorem loudUpon_skip (o : Oper) (a : Act) (K : Act → World → Prop) (w : World) : loudUpon P o a K (.ok .skip w) = K (a.put o.dst undef) w := rfl
theorem loudUpon_enter (o : Oper) (a : Act) (K : Act → World → Prop) (f : FuncId) (args : Array Value) (w : World) : loudUpon P o a K (.ok (.enter f args) w) = Calls P f args w fun
      | .returned v, w'' => K (a.put o.dst v) w''
      | _, _ => False := rfl
def loudly (P : Program) (o : Oper) (a : Act) (w : World) (K : Act → World → Prop) : Prop := loudUpon P o a K ((execOp a.eval o).run P w)

/-- Operation k of the walk: a loud one by its own rule; a quiet one yields one value in every world of C. -/
def lexOp (P : Program) (ops : Array Oper) (C : World → Prop) (loud : List Nat) (k : Nat) (o : Oper) (K : Act → World → Prop) (a : Act) (w : World) : Prop :=
  if Region.wanted o (yielded ops a.tmps) = true then
    (if loud.contains k = true then loudly P o a w (fun a' w' => C w' ∧ K a' w')
     else ∃ v, (∀ w', C w' → (execOp a.eval o).run P w' = .ok (.value v) w') ∧ K (a.put o.dst v) w)
  else K (a.put o.dst undef) w

def wpLex (P : Program) (ops : Array Oper) (C : World → Prop) (loud : List Nat) (Q : Exit → Act → World → Prop) : List Nat → Act → World → Prop
  | [], a, w => Q .normal a w
  | k :: rest, a, w => match ops[k]? with
    | none => wpLex P ops C loud Q rest a w
    | some o => lexOp P ops C loud k o (wpLex P ops C loud Q rest) a w

theorem loudly_mono {o : Oper} {a : Act} {w : World} {K K' : Act → World → Prop} (hk : ∀ a w, K a w → K' a w) (h : loudly P o a w K) : loudly P o a w K' := by
  unfold loudly at *
  generalize (execOp a.eval o).run P w = r at *
  cases r with
  | ok n w' =>
    cases n <;> simp only [loudUpon] at h ⊢
    case value v => exact hk _ _ h
    case skip => exact hk _ _ h
    case enter f args => exact Calls.mono h (fun e w'' he => by cases e <;> first | exact hk _ _ he | exact he)
  | halt x w' => simp only [loudUpon] at h

/-- what a loud operation leaves is the frame with its slot filled -/
theorem loudly_put {o : Oper} {a : Act} {w : World} {K : Act → World → Prop} (h : loudly P o a w K) : loudly P o a w (fun a' w' => K a' w' ∧ ∃ u, a' = a.put o.dst u) := by
  unfold loudly at *
  generalize (execOp a.eval o).run P w = r at *
  cases r with
  | ok n w' =>
    cases n <;> simp only [loudUpon] at h ⊢
    case value v => exact ⟨h, _, rfl⟩
    case skip => exact ⟨h, _, rfl⟩
    case enter f args => exact Calls.mono h (fun e w'' he => by cases e <;> first | exact ⟨he, _, rfl⟩ | exact he)
  | halt x w' => simp only [loudUpon] at h

/-- it has an end -/
theorem loudly_some {o : Oper} {a : Act} {w : World} {K : Act → World → Prop} (h : loudly P o a w K) : ∃ u w', K (a.put o.dst u) w' := by
  unfold loudly at *
  generalize (execOp a.eval o).run P w = r at *
  cases r with
  | ok n w' =>
    cases n <;> simp only [loudUpon] at h
    case value v => exact ⟨_, _, h⟩
    case skip => exact ⟨_, _, h⟩
    case enter f args =>
      obtain ⟨e, w'', fr, hR, _⟩ := h []
      cases e with
      | returned v => exact ⟨_, _, hR⟩
      | panicked c => exact False.elim hR
      | outgrown => exact False.elim hR
  | halt x w' => simp only [loudUpon] at h

theorem loudly_wp {o : Oper} {a : Act} {w : World} {K : Act → World → Prop} (h : loudly P o a w K) : o.wp P a w K Q := by
  unfold loudly at h
  unfold Oper.wp
  generalize (execOp a.eval o).run P w = r at *
  cases r with
  | ok n w' =>
    cases n <;> simp only [loudUpon] at h <;> simp only [Oper.upon]
    case value v => exact h
    case skip => exact h
    case enter f args => exact Calls.mono h (fun e w'' he => by cases e <;> first | exact he | exact False.elim he)
  | halt x w' => simp only [loudUpon] at h

/-- A slot that this operation neither reads nor writes may be filled ahead of it or behind it. -/
theorem loudly_swap {o : Oper} {d : Option Tmp} {v : Value} {a : Act} {w : World} {K : Act → World → Prop} (h1 : ∀ t, d = some t → t ∉ o.looksAt ops) (h2 : ∀ t, d = some t → o.dst ≠ some t) (hs : ∀ cs b, o.op ≠ .select cs b) :
    loudly P o (a.put d v) w K ↔ loudly P o a w (fun a' w' => K (a'.put d v) w') := by
  unfold loudly
  rw [execOp_put o hs a d v h1]
  generalize (execOp a.eval o).run P w = r
  have hc : ∀ u, (a.put d v).put o.dst u = (a.put o.dst u).put d v := fun u => Act.put_comm a v u h2
  cases r with
  | ok n w' =>
    cases n <;> simp only [loudUpon] <;> try rfl
    case value u => rw [hc]
    case skip => rw [hc]
    case enter f args =>
      constructor
      · intro h; exact Calls.mono h (fun e w'' he => by cases e <;> first | (simp only [hc] at he; exact he) | exact he)
      · intro h; exact Calls.mono h (fun e w'' he => by cases e <;> first | (simp only [hc]; exact he) | exact he)
  | halt x w' => simp only [loudUpon]

theorem lexOp_mono {k : Nat} {o : Oper} {a : Act} {w : World} {K K' : Act → World → Prop} (hk : ∀ u w', K (a.put o.dst u) w' → K' (a.put o.dst u) w') (h : lexOp P ops C loud k o K a w) : lexOp P ops C loud k o K' a w := by
  unfold lexOp at *
  split
  · rename_i hw
    simp only [hw, if_true] at h
    split
    · rename_i hl
      rw [if_pos hl] at h
      refine loudly_mono ?_ (loudly_put h)
      rintro a' w' ⟨⟨hc, hK⟩, u, rfl⟩
      exact ⟨hc, hk _ _ hK⟩
    · rename_i hl
      rw [if_neg hl] at h
      obtain ⟨v, h1, h2⟩ := h
      exact ⟨v, h1, hk _ _ h2⟩
  · rename_i hw
    rw [if_neg hw] at h
    exact hk _ _ h

theorem lexOp_swap {k : Nat} {o : Oper} {d : Option Tmp} {v : Value} {a : Act} {w : World} {K : Act → World → Prop} (h1 : ∀ t, d = some t → t ∉ o.looksAt ops) (h2 : ∀ t, d = some t → o.dst ≠ some t) (hs : ∀ cs b, o.op ≠ .select cs b) :
    lexOp P ops C loud k o K (a.put d v) w ↔ lexOp P ops C loud k o (fun a' w' => K (a'.put d v) w') a w := by
  unfold lexOp
  rw [wanted_put o a d v h1]
  have hc : ∀ u, (a.put d v).put o.dst u = (a.put o.dst u).put d v := fun u => Act.put_comm a v u h2
  split
  · split
    · exact loudly_swap h1 h2 hs
    · rw [execOp_put o hs a d v h1]; simp only [hc]
  · rw [hc]

/-- in every world of C -/
def Quietly (P : Program) (ops : Array Oper) (C : World → Prop) (o : Oper) (v : Value) (a : Act) : Prop :=
  (Region.wanted o (yielded ops a.tmps) = true ∧ ∀ w', C w' → (execOp a.eval o).run P w' = .ok (.value v) w') ∨ (Region.wanted o (yielded ops a.tmps) = false ∧ v = undef)
theorem Quietly.swap {o : Oper} {d : Option Tmp} {u v : Value} {a : Act} (h1 : ∀ t, d = some t → t ∉ o.looksAt ops) (hs : ∀ cs b, o.op ≠ .select cs b) : Quietly P ops C o v (a.put d u) ↔ Quietly P ops C o v a := by
  unfold Quietly
  rw [wanted_put o a d u h1, execOp_put o hs a d u h1]
theorem Quietly.one {o : Oper} {v v' : Value} {a : Act} {w : World} (hw : C w) (h : Quietly P ops C o v a) (h' : Quietly P ops C o v' a) : v' = v := by
  rcases h with ⟨h1, h2⟩ | ⟨h1, h2⟩ <;> rcases h' with ⟨h1', h2'⟩ | ⟨h1', h2'⟩
  · have := (h2 w hw).symm.trans (h2' w hw); simpa using this.symm
  · rw [h1] at h1'; cases h1'
  · rw [h1] at h1'; cases h1'
  · rw [h2, h2']
theorem lexOp_quiet {k : Nat} {o : Oper} {a : Act} {w : World} {K : Act → World → Prop} (hl : loud.contains k = false) : lexOp P ops C loud k o K a w ↔ ∃ v, Quietly P ops C o v a ∧ K (a.put o.dst v) w := by
  unfold lexOp Quietly
  rw [hl]
  by_cases hw : Region.wanted o (yielded ops a.tmps) = true
  · simp [hw]
  · simp [hw]

/-- What stands ahead of j in the walk, and is no business of its. -/
def Beside (ops : Array Oper) (oj : Oper) (l : List Nat) : Prop := ∀ i ∈ l, ∀ oi, ops[i]? = some oi → oi.apart ops oj = true

theorem pullQ (hsel : ∀ (i : Nat) (o : Oper) cs b, ops[i]? = some o → o.op ≠ .select cs b) {j : Nat} {oj : Oper} (hj : ops[j]? = some oj) (hq : loud.contains j = false) (l2 : List Nat) : ∀ (l1 : List Nat) (a : Act) (w : World), Beside ops oj l1 → C w →
    wpLex P ops C loud Q (l1 ++ j :: l2) a w → ∃ v, Quietly P ops C oj v a ∧ wpLex P ops C loud Q (l1 ++ l2) (a.put oj.dst v) w
  | [], a, w, _, _, h => by
    simp only [List.nil_append, wpLex, hj] at h
    exact (lexOp_quiet hq).1 h
  | i :: l1, a, w, hb, hw, h => by
    have hb' : Beside ops oj l1 := fun k hk => hb k (List.mem_cons_of_mem _ hk)
    simp only [List.cons_append, wpLex] at h ⊢
    cases ho : ops[i]? with
    | none =>
      simp only [ho] at h ⊢
      exact pullQ hsel hj hq l2 l1 a w hb' hw h
    | some oi =>
      simp only [ho] at h ⊢
      obtain ⟨a1, a2, a3⟩ := Oper.apart_spec (hb i (List.mem_cons_self) oi ho)
      -- a1: oi's slot is not seen by oj; a2: the slots differ; a3: oj's slot is not seen by oi
      have hc : ∀ (a : Act) u v, (a.put oi.dst u).put oj.dst v = (a.put oj.dst v).put oi.dst u := fun a u v => Act.put_comm a u v a2
      have si := hsel i oi
      have sj := hsel j oj
      have a2' : ∀ t, oj.dst = some t → oi.dst ≠ some t := fun t e e' => a2 t e' e
      by_cases hli : loud.contains i = true
      · by_cases hwi : Region.wanted oi (yielded ops a.tmps) = true
        · unfold lexOp at h
          rw [if_pos hwi, if_pos hli] at h
          have h' : loudly P oi a w (fun a' w' => C w' ∧ ∃ v, Quietly P ops C oj v a ∧ wpLex P ops C loud Q (l1 ++ l2) (a'.put oj.dst v) w') := by
            refine loudly_mono ?_ (loudly_put h)
            rintro a' w' ⟨⟨hC, hl⟩, u, rfl⟩
            obtain ⟨v, h1, h2⟩ := pullQ hsel hj hq l2 l1 _ w' hb' hC hl
            exact ⟨hC, v, (Quietly.swap a1 (fun cs b => sj cs b hj)).1 h1, h2⟩
          obtain ⟨_, _, _, v, hv, _⟩ := loudly_some h'
          refine ⟨v, hv, ?_⟩
          refine (lexOp_swap a3 a2' (fun cs b => si cs b ho)).2 ?_
          unfold lexOp
          rw [if_pos hwi, if_pos hli]
          refine loudly_mono ?_ h'
          rintro a' w' ⟨hC, v', hv', hl⟩
          rw [Quietly.one hw hv hv'] at hl
          exact ⟨hC, hl⟩
        · unfold lexOp at h
          rw [if_neg hwi] at h
          obtain ⟨v, h1, h2⟩ := pullQ hsel hj hq l2 l1 _ w hb' hw h
          refine ⟨v, (Quietly.swap a1 (fun cs b => sj cs b hj)).1 h1, ?_⟩
          refine (lexOp_swap a3 a2' (fun cs b => si cs b ho)).2 ?_
          unfold lexOp
          rw [if_neg hwi]
          exact h2
      · have hli' : loud.contains i = false := by simpa using hli
        obtain ⟨u, hu, h⟩ := (lexOp_quiet hli').1 h
        obtain ⟨v, h1, h2⟩ := pullQ hsel hj hq l2 l1 _ w hb' hw h
        refine ⟨v, (Quietly.swap a1 (fun cs b => sj cs b hj)).1 h1, ?_⟩
        refine (lexOp_quiet hli').2 ⟨u, (Quietly.swap a3 (fun cs b => si cs b ho)).2 hu, ?_⟩
        rw [← hc]
        exact h2

theorem pullL (hsel : ∀ (i : Nat) (o : Oper) cs b, ops[i]? = some o → o.op ≠ .select cs b) {j : Nat} {oj : Oper} (hj : ops[j]? = some oj) (l2 : List Nat) : ∀ (l1 : List Nat) (a : Act) (w : World), Beside ops oj l1 → (∀ i ∈ l1, loud.contains i = false) →
    wpLex P ops C loud Q (l1 ++ j :: l2) a w → lexOp P ops C loud j oj (wpLex P ops C loud Q (l1 ++ l2)) a w
  | [], a, w, _, _, h => by
    simp only [List.nil_append, wpLex, hj] at h
    exact h
  | i :: l1, a, w, hb, hql, h => by
    have hb' : Beside ops oj l1 := fun k hk => hb k (List.mem_cons_of_mem _ hk)
    have hql' : ∀ i ∈ l1, loud.contains i = false := fun k hk => hql k (List.mem_cons_of_mem _ hk)
    have hli' := hql i List.mem_cons_self
    cases ho : ops[i]? with
    | none =>
      simp only [List.cons_append, wpLex, ho] at h ⊢
      exact pullL hsel hj l2 l1 a w hb' hql' h
    | some oi =>
      simp only [List.cons_append, wpLex, ho] at h ⊢
      obtain ⟨a1, a2, a3⟩ := Oper.apart_spec (hb i (List.mem_cons_self) oi ho)
      have si := hsel i oi
      have sj := hsel j oj
      have a2' : ∀ t, oi.dst = some t → oj.dst ≠ some t := a2
      obtain ⟨u, hu, h⟩ := (lexOp_quiet hli').1 h
      have ih := pullL hsel hj l2 l1 _ w hb' hql' h
      have ih' := (lexOp_swap a1 a2' (fun cs b => sj cs b hj)).1 ih
      refine lexOp_mono ?_ ih'
      intro v w' hl
      exact (lexOp_quiet hli').2 ⟨u, (Quietly.swap a3 (fun cs b => si cs b ho)).2 hu, hl⟩

/-! ### The order's conditions, a Bool -/

/-- j waits for i, directly or through others. -/
def reach (ops : Array Oper) : Nat → Nat → Nat → Bool
  | 0, _, _ => false
  | f + 1, j, i => match ops[j]? with
    | none => false
    | some o => o.after.toList.any fun e => Region.binds .any e && (e.on == i || reach ops f e.on i)

def isSelect (o : Oper) : Bool := match o.op with | .select .. => true | _ => false

/-- edges lead back; no select; of two operations the later waits for the earlier, or they are apart and not both loud -/
def lexOk (ops : Array Oper) (loud : List Nat) : Bool :=
  (List.range ops.size).all fun j => match ops[j]? with
    | none => true
    | some oj => !isSelect oj && oj.after.toList.all (fun e => !Region.binds .any e || e.on < j) &&
        (List.range j).all fun i => match ops[i]? with
          | none => true
          | some oi => (oi.apart ops oj && !(loud.contains i && loud.contains j)) || reach ops ops.size j i

theorem lexOk_back (h : lexOk ops loud = true) {j : Nat} {oj : Oper} (hj : ops[j]? = some oj) : ∀ e ∈ oj.after, Region.binds .any e = true → e.on < j := by
  intro e he hb
  have hlt : j < ops.size := (Array.getElem?_eq_some_iff.1 hj).1
  have := List.all_eq_true.1 h j (List.mem_range.2 hlt)
  simp only [hj, Bool.and_eq_true] at this
  have := List.all_eq_true.1 this.1.2 e (Array.mem_toList_iff.2 he)
  simpa [hb] using this

theorem lexOk_sel (h : lexOk ops loud = true) : ∀ (i : Nat) (o : Oper) cs b, ops[i]? = some o → o.op ≠ .select cs b := by
  intro j oj cs b hj e
  have hlt : j < ops.size := (Array.getElem?_eq_some_iff.1 hj).1
  have := List.all_eq_true.1 h j (List.mem_range.2 hlt)
  simp only [hj, Bool.and_eq_true] at this
  have := this.1.1
  simp [isSelect, e] at this

theorem lexOk_pair (h : lexOk ops loud = true) {i j : Nat} {oi oj : Oper} (hi : ops[i]? = some oi) (hj : ops[j]? = some oj) (hij : i < j) :
    (oi.apart ops oj = true ∧ (loud.contains i = false ∨ loud.contains j = false)) ∨ reach ops ops.size j i = true := by
  have hlt : j < ops.size := (Array.getElem?_eq_some_iff.1 hj).1
  have := List.all_eq_true.1 h j (List.mem_range.2 hlt)
  simp only [hj, Bool.and_eq_true] at this
  have := List.all_eq_true.1 this.2 i (List.mem_range.2 hij)
  simp only [hi, Bool.or_eq_true, Bool.and_eq_true, Bool.not_eq_true', Bool.and_eq_false_iff] at this
  exact this

def Closed (ops : Array Oper) (listed : Array Bool) : Prop := ∀ j oj, ops[j]? = some oj → listed.getD j false = true → ∀ e ∈ oj.after, Region.binds .any e = true → listed.getD e.on false = true

theorem reach_listed {listed : Array Bool} (hc : Closed ops listed) : ∀ (f j i : Nat) (oj : Oper), ops[j]? = some oj → (∀ e ∈ oj.after, Region.binds .any e = true → listed.getD e.on false = true) → reach ops f j i = true → listed.getD i false = true
  | 0, _, _, _, _, _, h => by simp [reach] at h
  | f + 1, j, i, oj, hj, hall, h => by
    simp only [reach, hj, List.any_eq_true] at h
    obtain ⟨e, he, h⟩ := h
    simp only [Bool.and_eq_true, Bool.or_eq_true, beq_iff_eq] at h
    obtain ⟨hb, h⟩ := h
    have he' : e ∈ oj.after := Array.mem_toList_iff.1 he
    have hle := hall e he' hb
    rcases h with h | h
    · rw [← h]; exact hle
    · cases hk : ops[e.on]? with
      | none =>
        cases f with
        | zero => simp [reach] at h
        | succ f => simp [reach, hk] at h
      | some ok => exact reach_listed hc f e.on i ok hk (fun e' h1 h2 => hc e.on ok hk hle e' h1 h2) h

/-- what has not come up yet -/
def rest (n : Nat) (listed : Array Bool) : List Nat := (List.range n).filter fun i => !listed.getD i true

theorem rest_set {n j : Nat} {listed : Array Bool} (hs : listed.size = n) (hj : j ∈ rest n listed) :
    ∃ l1 l2, rest n listed = l1 ++ j :: l2 ∧ rest n (listed.setIfInBounds j true) = l1 ++ l2 ∧ ∀ i ∈ l1, i < j ∧ listed.getD i true = false := by
  obtain ⟨l1, l2, he⟩ := List.append_of_mem hj
  have hp : (rest n listed).Pairwise (· < ·) := List.Pairwise.filter _ List.pairwise_lt_range
  rw [he, List.pairwise_append] at hp
  obtain ⟨_, hp2, hp3⟩ := hp
  have hjn : j < n := by
    have := List.mem_filter.1 hj
    exact List.mem_range.1 this.1
  refine ⟨l1, l2, he, ?_, fun i hi => ⟨hp3 i hi j List.mem_cons_self, ?_⟩⟩
  · have h1 : rest n (listed.setIfInBounds j true) = (rest n listed).filter (fun i => decide (i ≠ j)) := by
      unfold rest
      rw [List.filter_filter]
      apply List.filter_congr
      intro i hi
      by_cases e : i = j
      · subst e
        simp [hs, hjn]
      · rw [getD_set_ne true (fun h => e h.symm)]
        simp [e]
    rw [h1, he, List.filter_append, List.filter_cons, if_neg (by simp)]
    have h2 : l1.filter (fun i => decide (i ≠ j)) = l1 := by
      rw [List.filter_eq_self]
      intro i hi
      have := hp3 i hi j List.mem_cons_self
      simp; omega
    have h3 : l2.filter (fun i => decide (i ≠ j)) = l2 := by
      rw [List.filter_eq_self]
      intro i hi
      have := (List.pairwise_cons.1 hp2).1 i hi
      simp; omega
    rw [h2, h3]
  · have : i ∈ rest n listed := by rw [he]; exact List.mem_append_left _ hi
    have := (List.mem_filter.1 this).2
    simpa using this

theorem closed_set {listed : Array Bool} {j : Nat} {oj : Oper} (hc : Closed ops listed) (hj : ops[j]? = some oj) (hall : ∀ e ∈ oj.after, Region.binds .any e = true → listed.getD e.on false = true) : Closed ops (listed.setIfInBounds j true) := by
  intro i oi hi hl e he hb
  by_cases hij : j = i
  · subst hij
    have : oj = oi := Option.some.inj (hj.symm.trans hi)
    subst this
    exact getD_set_true (hall e he hb)
  · rw [getD_set_ne false hij] at hl
    exact getD_set_true (hc i oi hi hl e he hb)

theorem wpAny_of_lex (hok : lexOk ops loud = true) : ∀ (fuel : Nat) (listed : Array Bool) (a : Act) (w : World), listed.size = ops.size → Closed ops listed → (rest ops.size listed).length = fuel → C w →
    wpLex P ops C loud Q (rest ops.size listed) a w → wpAny P .any ops Q fuel listed a w
  | 0, listed, a, w, hs, hc, hf, hw, h => by
    have hr : rest ops.size listed = [] := List.eq_nil_of_length_eq_zero hf
    rw [hr] at h
    refine ⟨?_, h⟩
    rw [List.eq_nil_iff_forall_not_mem]
    intro j hj
    have := (mem_ready.1 hj)
    obtain ⟨hun, oj, hoj, _⟩ := this
    have : j ∈ rest ops.size listed := List.mem_filter.2 ⟨List.mem_range.2 (Array.getElem?_eq_some_iff.1 hoj).1, by simpa using hun⟩
    rw [hr] at this
    cases this
  | fuel + 1, listed, a, w, hs, hc, hf, hw, h => by
    refine ⟨fun hnil => ?_, fun j hj => ?_⟩
    · -- the first that has not come up may come up
      exfalso
      cases hr : rest ops.size listed with
      | nil => rw [hr] at hf; cases hf
      | cons i l =>
        have hi : i ∈ rest ops.size listed := by rw [hr]; exact List.mem_cons_self
        have hi' := List.mem_filter.1 hi
        have hin := List.mem_range.1 hi'.1
        have hp : (rest ops.size listed).Pairwise (· < ·) := List.Pairwise.filter _ List.pairwise_lt_range
        rw [hr] at hp
        have hready : i ∈ Region.ready .any ops listed := by
          refine mem_ready.2 ⟨by simpa using hi'.2, ops[i], by simp [hin], fun e he hb => ?_⟩
          have hlt := lexOk_back hok (j := i) (oj := ops[i]) (by simp [hin]) e he hb
          cases hle : listed.getD e.on false with
          | true => rfl
          | false =>
            exfalso
            have hin' : e.on < listed.size := by rw [hs]; omega
            have : e.on ∈ rest ops.size listed := List.mem_filter.2 ⟨List.mem_range.2 (by omega), by simpa using getD_in hin' hle⟩
            rw [hr] at this
            rcases List.mem_cons.1 this with e1 | e1
            · omega
            · have := (List.pairwise_cons.1 hp).1 _ e1; omega
        rw [hnil] at hready
        cases hready
    · obtain ⟨hun, oj, hoj, hall⟩ := mem_ready.1 hj
      have hjn := (Array.getElem?_eq_some_iff.1 hoj).1
      have hjr : j ∈ rest ops.size listed := List.mem_filter.2 ⟨List.mem_range.2 hjn, by simpa using hun⟩
      obtain ⟨l1, l2, e1, e2, hl1⟩ := rest_set hs hjr
      have hpair : ∀ i ∈ l1, ∀ oi, ops[i]? = some oi → oi.apart ops oj = true ∧ (loud.contains i = false ∨ loud.contains j = false) := by
        intro i hi oi hoi
        obtain ⟨hij, hiu⟩ := hl1 i hi
        rcases lexOk_pair hok hoi hoj hij with h1 | h1
        · exact h1
        · have := reach_listed hc _ j i oj hoj hall h1
          rw [getD_both hiu] at this
          cases this
      have hb : Beside ops oj l1 := fun i hi oi hoi => (hpair i hi oi hoi).1
      rw [e1] at h
      have hlex : lexOp P ops C loud j oj (wpLex P ops C loud Q (l1 ++ l2)) a w := by
        by_cases hlj : loud.contains j = true
        · refine pullL (lexOk_sel hok) hoj l2 l1 a w hb (fun i hi => ?_) h
          have hin : i < ops.size := by have := (hl1 i hi).1; omega
          rcases (hpair i hi ops[i] (by simp [hin])).2 with h1 | h1
          · exact h1
          · rw [hlj] at h1; cases h1
        · have hlj' : loud.contains j = false := by simpa using hlj
          exact (lexOp_quiet hlj').2 (pullQ (lexOk_sel hok) hoj hlj' l2 l1 a w hb hw h)
      have hs' : (listed.setIfInBounds j true).size = ops.size := by simp [hs]
      have hc' := closed_set hc hoj hall
      have hf' : (rest ops.size (listed.setIfInBounds j true)).length = fuel := by
        rw [e2]; rw [e1] at hf; simp at hf ⊢; omega
      have ih := fun a' w' (hw' : C w') (h' : wpLex P ops C loud Q (l1 ++ l2) a' w') => wpAny_of_lex hok fuel (listed.setIfInBounds j true) a' w' hs' hc' hf' hw' (by rw [e2]; exact h')
      unfold wpOp
      simp only [hoj]
      unfold lexOp at hlex
      split
      · rename_i hwt
        rw [if_pos hwt] at hlex
        left
        split at hlex
        · refine loudly_wp (loudly_mono ?_ hlex)
          rintro a' w' ⟨hC, hl⟩
          exact ih a' w' hC hl
        · obtain ⟨v, hv, hl⟩ := hlex
          unfold Oper.wp
          rw [hv w hw]
          exact ih _ _ hw hl
      · rename_i hwt
        rw [if_neg hwt] at hlex
        exact ih _ _ hw hlex

/-! ### The walk, operation by operation -/

/-- The operations from the k-th on. -/
def wpLexL (P : Program) (ops : Array Oper) (C : World → Prop) (loud : List Nat) (Q : Exit → Act → World → Prop) : Nat → List Oper → Act → World → Prop
  | _, [], a, w => Q .normal a w
  | k, o :: rest, a, w => lexOp P ops C loud k o (wpLexL P ops C loud Q (k + 1) rest) a w

theorem wpLex_of_L : ∀ (l : List Oper) (k : Nat) (a : Act) (w : World), (∀ j, l[j]? = ops[k + j]?) → wpLexL P ops C loud Q k l a w → wpLex P ops C loud Q (List.range' k l.length) a w
  | [], _, _, _, _, h => h
  | o :: l, k, a, w, hl, h => by
    have h0 : ops[k]? = some o := by simpa using (hl 0).symm
    simp only [List.length_cons, List.range'_succ, wpLex, h0]
    exact lexOp_mono (fun u w' hK => wpLex_of_L l (k + 1) _ w' (fun j => by have := hl (j + 1); simpa [Nat.add_assoc, Nat.add_comm 1 j] using this) hK) h

theorem rest_none (n : Nat) : rest n (Array.replicate n false) = List.range n := by
  unfold rest
  rw [List.filter_eq_self]
  intro i hi
  have := List.mem_range.1 hi
  simp [this]

theorem wpAny_lit {os : List Oper} {a : Act} {w : World} (hok : lexOk os.toArray loud = true) (hC : C w) (h : wpLexL P os.toArray C loud Q 0 os a w) :
    wpAny P .any os.toArray Q os.toArray.size (Array.replicate os.toArray.size false) a w := by
  refine wpAny_of_lex hok _ _ a w (by simp) ?_ ?_ hC ?_
  · intro j oj _ hl
    rw [getD_replicate_false] at hl
    cases hl
  · rw [rest_none]; simp
  · rw [rest_none, List.range_eq_range']
    have := wpLex_of_L (ops := os.toArray) (C := C) (loud := loud) (Q := Q) os 0 a w (by simp) h
    simpa using this

/-- THE LAW, in a function's own frame. -/
theorem wp_region_lex {id : Nat} {os : List Oper} {a : Act} {w : World} (C : World → Prop) (loud : List Nat) (hm : P.follows .mixedOrders = true) (hok : lexOk os.toArray loud = true) (hC : C w.drew)
    (h : wpLexL P os.toArray C loud Q 0 os a w.drew) : (Code.region id os.toArray true).wp P Q a w :=
  wp_region_any hm (wpAny_lit hok hC h)

/-- THE LAW, in a round. -/
theorem wpIn_region_lex {l n id : Nat} {os : List Oper} {a : Act} {w : World} (C : World → Prop) (loud : List Nat) (hm : P.follows .mixedOrders = true) (hQ : ¬ LetsOut Q) (hd : os.toArray.all (fun o => !Oper.isDefer o) = true) (hok : lexOk os.toArray loud = true) (hC : C w.drew)
    (h : wpLexL P os.toArray C loud Q 0 os a w.drew) : (Code.region id os.toArray true).wpIn (Fence.wide.inRound l) n P Q a w :=
  wpIn_region_any hm (wpAny_in hQ (noDefer_spec hd) _ _ _ _ (wpAny_lit hok hC h))

theorem lex_nil {k : Nat} {a : Act} {w : World} (h : Q .normal a w) : wpLexL P ops C loud Q k [] a w := h
/-- A quiet operation. -/
theorem lex_q {k : Nat} {o : Oper} {l : List Oper} {a : Act} {w : World} (hl : loud.contains k = false) (hw : Region.wanted o (yielded ops a.tmps) = true)
    (h : ∀ K : Act → World → Prop, (∀ a w, wpLexL P ops C loud Q (k + 1) l a w → K a w) → ∃ v, (∀ w', C w' → (execOp a.eval o).run P w' = .ok (.value v) w') ∧ K (a.put o.dst v) w) : wpLexL P ops C loud Q k (o :: l) a w := by
  obtain ⟨v, hv, hk⟩ := h _ (fun _ _ h => h)
  exact (lexOp_quiet hl).2 ⟨v, .inl ⟨hw, hv⟩, hk⟩
/-- An operation that its guard passes over. -/
theorem lex_s {k : Nat} {o : Oper} {l : List Oper} {a : Act} {w : World} (hw : Region.wanted o (yielded ops a.tmps) = false)
    (h : ∀ K : Act → World → Prop, (∀ a w, wpLexL P ops C loud Q (k + 1) l a w → K a w) → K (a.put o.dst undef) w) : wpLexL P ops C loud Q k (o :: l) a w := by
  show lexOp _ _ _ _ _ _ _ _ _
  unfold lexOp
  rw [if_neg (by rw [hw]; simp)]
  exact h _ (fun _ _ h => h)
/-- A loud operation. -/
theorem lex_l {k : Nat} {o : Oper} {l : List Oper} {a : Act} {w : World} (hl : loud.contains k = true) (hw : Region.wanted o (yielded ops a.tmps) = true)
    (h : ∀ K : Act → World → Prop, (∀ a w, C w → wpLexL P ops C loud Q (k + 1) l a w → K a w) → loudly P o a w K) : wpLexL P ops C loud Q k (o :: l) a w := by
  show lexOp _ _ _ _ _ _ _ _ _
  unfold lexOp
  rw [if_pos hw, if_pos hl]
  exact h _ (fun _ _ h1 h2 => ⟨h1, h2⟩)
end
attribute [go_sem] loudly loudUpon_value loudUpon_skip loudUpon_enter
end Sg
