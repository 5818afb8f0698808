import Derived.Test.YtjkjiabfhhnngaaHist
/-! A region that draws its order, with one operation (an alloc) that stands beside the loud ones in no order: it may come up ahead of each of them. -/
namespace Sg
open Go Go.RowKit

section
variable {P : Program} {ops : Array Oper} {G : World → World → Prop} {loud : List Nat} {lev : Nat → Nat} {Q : Exit → Act → World → Prop}

theorem hstepQ (ht : ∀ a b c, G a b → G b c → G a c) (hr : ∀ a, G a a) (hsel : ∀ (i : Nat) (o : Oper) cs b, ops[i]? = some o → o.op ≠ .select cs b) {i j : Nat} {oi oj : Oper} (ho : ops[i]? = some oi) (hj : ops[j]? = some oj) (hap : oi.apart ops oj = true)
    (hlv : loud.contains i = true → lev j ≤ i ∧ lastB ops i = false) {K K' : (Nat → World) → Act → World → Prop}
    (ih : ∀ H a w, (∀ n, G (H n) w) → K H a w → ∃ v, Still P ops (G (H (lev j))) oj v a ∧ K' H (a.put oj.dst v) w)
    {H : Nat → World} {a : Act} {w : World} (hw : ∀ n, G (H n) w) (h : hisOp P ops G loud lev i oi K H a w) : ∃ v, Still P ops (G (H (lev j))) oj v a ∧ hisOp P ops G loud lev i oi K' H (a.put oj.dst v) w := by
  obtain ⟨a1, a2, a3⟩ := Oper.apart_spec hap
  have hc : ∀ (a : Act) u v, (a.put oi.dst u).put oj.dst v = (a.put oj.dst v).put oi.dst u := fun a u v => Act.put_comm a u v a2
  have si := hsel i oi
  have sj := hsel j oj
  have a2' : ∀ t, oj.dst = some t → oi.dst ≠ some t := fun t e e' => a2 t e' e
  by_cases hli : loud.contains i = true
  · by_cases hwi : Region.wanted oi (yielded ops a.tmps) = true
    · obtain ⟨hle, hnl⟩ := hlv hli
      unfold hisOp at h
      rw [if_pos hwi, if_pos hli] at h
      have h' : loudly P oi a w (fun a' w' => (lastB ops i = true ∨ G w w') ∧ ∃ v, Still P ops (G (H (lev j))) oj v a ∧ K' (upd H i w') (a'.put oj.dst v) w') := by
        refine loudly_mono ?_ (loudly_put h)
        rintro a' w' ⟨⟨hC0, hl⟩, u, rfl⟩
        have hC := hC0.resolve_left (by rw [hnl]; simp)
        have hinv : ∀ n, G (upd H i w' n) w' := by
          intro n
          unfold upd
          split
          · exact ht _ _ _ (hw n) hC
          · exact hr _
        obtain ⟨v, h1, h2⟩ := ih (upd H i w') _ w' hinv hl
        have e : upd H i w' (lev j) = H (lev j) := if_pos hle
        rw [e] at h1
        exact ⟨.inr hC, v, (Still.swap a1 (fun cs b => sj cs b hj)).1 h1, h2⟩
      obtain ⟨_, _, _, v, hv, _⟩ := loudly_some h'
      refine ⟨v, hv, ?_⟩
      refine (hisOp_swap a3 a2' (fun cs b => si cs b ho)).2 ?_
      unfold hisOp
      rw [if_pos hwi, if_pos hli]
      refine loudly_mono ?_ h'
      rintro a' w' ⟨hC, v', hv', hl⟩
      rw [Still.one (hw (lev j)) hv hv'] at hl
      exact ⟨hC, hl⟩
    · unfold hisOp at h
      rw [if_neg hwi] at h
      obtain ⟨v, h1, h2⟩ := ih H _ w hw h
      refine ⟨v, (Still.swap a1 (fun cs b => sj cs b hj)).1 h1, ?_⟩
      refine (hisOp_swap a3 a2' (fun cs b => si cs b ho)).2 ?_
      unfold hisOp
      rw [if_neg hwi]
      exact h2
  · have hli' : loud.contains i = false := by simpa using hli
    obtain ⟨u, hu, h⟩ := (hisOp_quiet hli').1 h
    obtain ⟨v, h1, h2⟩ := ih H _ w hw h
    refine ⟨v, (Still.swap a1 (fun cs b => sj cs b hj)).1 h1, ?_⟩
    refine (hisOp_quiet hli').2 ⟨u, (Still.swap a3 (fun cs b => si cs b ho)).2 hu, ?_⟩
    rw [← hc]
    exact h2

theorem hswapL (hsel : ∀ (i : Nat) (o : Oper) cs b, ops[i]? = some o → o.op ≠ .select cs b) {i j : Nat} {oi oj : Oper} (ho : ops[i]? = some oi) (hj : ops[j]? = some oj) (hap : oi.apart ops oj = true)
    (hli' : loud.contains i = false) (hlj : loud.contains j = true) (hle : lev i ≤ j) {K : (Nat → World) → Act → World → Prop} {H : Nat → World} {a : Act} {w : World}
    (h : hisOp P ops G loud lev i oi (hisOp P ops G loud lev j oj K) H a w) : hisOp P ops G loud lev j oj (hisOp P ops G loud lev i oi K) H a w := by
  obtain ⟨a1, a2, a3⟩ := Oper.apart_spec hap
  have si := hsel i oi
  have sj := hsel j oj
  obtain ⟨u, hu, ih⟩ := (hisOp_quiet hli').1 h
  have ih' := (hisOp_swap a1 a2 (fun cs b => sj cs b hj)).1 ih
  rcases (hisOp_loud hlj).1 ih' with ⟨hwj, ih'⟩ | ⟨hwj, ih'⟩
  · refine (hisOp_loud hlj).2 (.inl ⟨hwj, ?_⟩)
    refine loudly_mono ?_ (loudly_put ih')
    rintro a' w' ⟨⟨hC, hl⟩, v, rfl⟩
    refine ⟨hC, (hisOp_quiet hli').2 ⟨u, ?_, hl⟩⟩
    have e : upd H j w' (lev i) = H (lev i) := if_pos hle
    rw [e]
    exact (Still.swap a3 (fun cs b => si cs b ho)).2 hu
  · exact (hisOp_loud hlj).2 (.inr ⟨hwj, (hisOp_quiet hli').2 ⟨u, (Still.swap a3 (fun cs b => si cs b ho)).2 hu, ih'⟩⟩)

/-- the walk with f afloat -/
def wpFl (P : Program) (ops : Array Oper) (G : World → World → Prop) (loud : List Nat) (lev : Nat → Nat) (Q : Exit → Act → World → Prop) (f : Nat) (fo : Oper) : List Nat → (Nat → World) → Act → World → Prop
  | [], _, _, _ => False
  | k :: rest, H, a, w => match ops[k]? with
    | none => wpFl P ops G loud lev Q f fo rest H a w
    | some o =>
      if reach ops ops.size k f = true then hisOp P ops G loud lev f fo (wpHis P ops G loud lev Q (k :: rest)) H a w
      else if loud.contains k = true then hisOp P ops G loud lev f fo (wpHis P ops G loud lev Q (k :: rest)) H a w ∧ hisOp P ops G loud lev k o (wpFl P ops G loud lev Q f fo rest) H a w
      else hisOp P ops G loud lev k o (wpFl P ops G loud lev Q f fo rest) H a w

theorem hisOk_lex {loud : List Nat} (h : hisOk ops loud lev = true) : lexOk ops loud = true := by
  unfold hisOk at h
  simp only [Bool.and_eq_true] at h
  exact h.1

/-- what is asked of f -/
def floOk (ops : Array Oper) (loud' : List Nat) (lev : Nat → Nat) (f : Nat) : Bool :=
  hisOk ops loud' lev && !lastB ops f && decide (f < ops.size) &&
  ((List.range ops.size).all fun k => k == f || reach ops ops.size k f || (match ops[k]?, ops[f]? with | some ok, some fo => ok.apart ops fo && fo.apart ops ok && (loud'.contains k || decide (lev k ≤ f)) | _, _ => false)) &&
  ((List.range ops.size).all fun j => j == f || !loud'.contains j || reach ops ops.size j f || (List.range j).all fun i => i == f || !reach ops ops.size i f)

structure Flo (ops : Array Oper) (loud loud' : List Nat) (lev : Nat → Nat) (f : Nat) (fo : Oper) : Prop where
  his : hisOk ops loud' lev = true
  last : lastB ops f = false
  lt : f < ops.size
  op : ops[f]? = some fo
  con : ∀ k, k ≠ f → loud.contains k = loud'.contains k
  self : loud.contains f = true
  far : ∀ k ok, ops[k]? = some ok → k ≠ f → reach ops ops.size k f = false → ok.apart ops fo = true ∧ fo.apart ops ok = true ∧ (loud.contains k = false → lev k ≤ f)
  ahead : ∀ i j, i < j → j < ops.size → i ≠ f → j ≠ f → loud.contains j = true → reach ops ops.size j f = false → reach ops ops.size i f = false
theorem flo_of {loud' : List Nat} {f : Nat} {fo : Oper} (h : floOk ops loud' lev f = true) (hf : ops[f]? = some fo) : Flo ops (f :: loud') loud' lev f fo := by
  unfold floOk at h
  simp only [Bool.and_eq_true, Bool.not_eq_true', decide_eq_true_eq] at h
  obtain ⟨⟨⟨⟨h1, h2⟩, h3⟩, h4⟩, h5⟩ := h
  have hcon : ∀ k, k ≠ f → (f :: loud').contains k = loud'.contains k := fun k hk => by
    rw [List.contains_cons, beq_false_of_ne hk, Bool.false_or]
  refine ⟨h1, h2, h3, hf, hcon, by simp, fun k ok hk hkf hr => ?_, fun i j hij hj hif hjf hlj hr => ?_⟩
  · have hlt := (Array.getElem?_eq_some_iff.1 hk).1
    have := List.all_eq_true.1 h4 k (List.mem_range.2 hlt)
    rw [beq_false_of_ne hkf, hr, hk, hf] at this
    simp only [Bool.false_or, Bool.and_eq_true, Bool.or_eq_true, decide_eq_true_eq] at this
    refine ⟨this.1.1, this.1.2, fun hl => ?_⟩
    rw [hcon k hkf] at hl
    rcases this.2 with h | h
    · rw [hl] at h; cases h
    · exact h
  · have := List.all_eq_true.1 h5 j (List.mem_range.2 hj)
    rw [hcon j hjf] at hlj
    rw [beq_false_of_ne hjf, hlj, hr] at this
    simp only [Bool.false_or, Bool.not_true] at this
    have := List.all_eq_true.1 this i (List.mem_range.2 hij)
    rw [beq_false_of_ne hif] at this
    simpa using this

theorem flo_now {loud' : List Nat} {f : Nat} {fo : Oper} (F : Flo ops loud loud' lev f fo) : ∀ (l : List Nat) (H : Nat → World) (a : Act) (w : World), (∀ k ∈ l, k ≠ f) → wpFl P ops G loud lev Q f fo l H a w → hisOp P ops G loud lev f fo (wpHis P ops G loud lev Q l) H a w
  | [], _, _, _, _, h => by unfold wpFl at h; exact h.elim
  | k :: l, H, a, w, hl, h => by
    have hl' : ∀ k ∈ l, k ≠ f := fun x hx => hl x (List.mem_cons_of_mem _ hx)
    have hkf := hl k List.mem_cons_self
    unfold wpFl at h
    cases ho : ops[k]? with
    | none =>
      simp only [ho] at h
      refine hisOp_mono (fun H' u w' hK => ?_) (flo_now F l H a w hl' h)
      simp only [wpHis, ho]
      exact hK
    | some ok =>
      simp only [ho] at h
      split at h
      · exact h
      · rename_i hr
        split at h
        · exact h.1
        · rename_i hq
          have hq' : loud.contains k = false := by simpa using hq
          obtain ⟨f1, f2, f3⟩ := F.far k ok ho hkf (by simpa using hr)
          have h2 : hisOp P ops G loud lev k ok (hisOp P ops G loud lev f fo (wpHis P ops G loud lev Q l)) H a w := hisOp_mono (fun H' u w' hK => flo_now F l H' _ w' hl' hK) h
          refine hisOp_mono (fun H' u w' hK => ?_) (hswapL (lexOk_sel (hisOk_lex F.his)) ho F.op f1 hq' F.self (f3 hq') h2)
          simp only [wpHis, ho]
          exact hK

theorem flo_pullQ (ht : ∀ a b c, G a b → G b c → G a c) (hr : ∀ a, G a a) {loud' : List Nat} {f : Nat} {fo : Oper} (F : Flo ops loud loud' lev f fo) {j : Nat} {oj : Oper} (hj : ops[j]? = some oj) (hq : loud.contains j = false) (hjr : reach ops ops.size j f = false) (hjf : j ≠ f) (l2 : List Nat) :
    ∀ (l1 : List Nat) (H : Nat → World) (a : Act) (w : World), Beside ops oj l1 → (∀ i ∈ l1, loud.contains i = true → lev j ≤ i ∧ lastB ops i = false) → (∀ i, G (H i) w) →
    wpFl P ops G loud lev Q f fo (l1 ++ j :: l2) H a w → ∃ v, Still P ops (G (H (lev j))) oj v a ∧ wpFl P ops G loud lev Q f fo (l1 ++ l2) H (a.put oj.dst v) w
  | [], H, a, w, _, _, _, h => by
    simp only [List.nil_append, wpFl, hj, hjr, hq, Bool.false_eq_true, if_false] at h
    exact (hisOp_quiet hq).1 h
  | i :: l1, H, a, w, hb, hlv, hw, h => by
    have hb' : Beside ops oj l1 := fun k hk => hb k (List.mem_cons_of_mem _ hk)
    have hlv' : ∀ i ∈ l1, loud.contains i = true → lev j ≤ i ∧ lastB ops i = false := fun k hk => hlv k (List.mem_cons_of_mem _ hk)
    have hsel := lexOk_sel (hisOk_lex F.his)
    obtain ⟨f1, f2, f3⟩ := F.far j oj hj hjf hjr
    have hA : hisOp P ops G loud lev f fo (wpHis P ops G loud lev Q (i :: l1 ++ j :: l2)) H a w → ∃ v, Still P ops (G (H (lev j))) oj v a ∧ hisOp P ops G loud lev f fo (wpHis P ops G loud lev Q (i :: l1 ++ l2)) H (a.put oj.dst v) w := fun hA =>
      hstepQ ht hr hsel F.op hj f2 (fun _ => ⟨f3 hq, F.last⟩) (fun H a w hw h => hpullQ ht hr hsel hj hq l2 (i :: l1) H a w hb hlv hw h) hw hA
    simp only [List.cons_append, wpFl] at h ⊢
    cases ho : ops[i]? with
    | none =>
      simp only [ho] at h ⊢
      exact flo_pullQ ht hr F hj hq hjr hjf l2 l1 H a w hb' hlv' hw h
    | some oi =>
      simp only [ho] at h ⊢
      have hB : hisOp P ops G loud lev i oi (wpFl P ops G loud lev Q f fo (l1 ++ j :: l2)) H a w → ∃ v, Still P ops (G (H (lev j))) oj v a ∧ hisOp P ops G loud lev i oi (wpFl P ops G loud lev Q f fo (l1 ++ l2)) H (a.put oj.dst v) w := fun hB =>
        hstepQ ht hr hsel ho hj (hb i List.mem_cons_self oi ho) (hlv i List.mem_cons_self) (fun H a w hw h => flo_pullQ ht hr F hj hq hjr hjf l2 l1 H a w hb' hlv' hw h) hw hB
      by_cases hri : reach ops ops.size i f = true
      · rw [if_pos hri] at h
        obtain ⟨v, h1, h2⟩ := hA h
        exact ⟨v, h1, by rw [if_pos hri]; exact h2⟩
      · rw [if_neg hri] at h
        by_cases hli : loud.contains i = true
        · rw [if_pos hli] at h
          obtain ⟨v, h1, h2⟩ := hA h.1
          obtain ⟨v', h1', h2'⟩ := hB h.2
          rw [Still.one (hw (lev j)) h1 h1'] at h2'
          exact ⟨v, h1, by rw [if_neg hri, if_pos hli]; exact ⟨h2, h2'⟩⟩
        · rw [if_neg hli] at h
          obtain ⟨v, h1, h2⟩ := hB h
          exact ⟨v, h1, by rw [if_neg hri, if_neg hli]; exact h2⟩

theorem flo_pullL {loud' : List Nat} {f : Nat} {fo : Oper} (F : Flo ops loud loud' lev f fo) {j : Nat} {oj : Oper} (hj : ops[j]? = some oj) (hlj : loud.contains j = true) (hjr : reach ops ops.size j f = false) (l2 : List Nat) :
    ∀ (l1 : List Nat) (H : Nat → World) (a : Act) (w : World), Beside ops oj l1 → (∀ i ∈ l1, loud.contains i = false ∧ lev i ≤ j ∧ reach ops ops.size i f = false) →
    wpFl P ops G loud lev Q f fo (l1 ++ j :: l2) H a w → hisOp P ops G loud lev j oj (wpFl P ops G loud lev Q f fo (l1 ++ l2)) H a w
  | [], H, a, w, _, _, h => by
    simp only [List.nil_append, wpFl, hj, hjr, hlj, Bool.false_eq_true, if_false, if_true] at h
    exact h.2
  | i :: l1, H, a, w, hb, hq, h => by
    have hb' : Beside ops oj l1 := fun k hk => hb k (List.mem_cons_of_mem _ hk)
    have hq' : ∀ i ∈ l1, loud.contains i = false ∧ lev i ≤ j ∧ reach ops ops.size i f = false := fun k hk => hq k (List.mem_cons_of_mem _ hk)
    obtain ⟨q1, q2, q3⟩ := hq i List.mem_cons_self
    simp only [List.cons_append, wpFl] at h ⊢
    cases ho : ops[i]? with
    | none =>
      simp only [ho] at h ⊢
      exact flo_pullL F hj hlj hjr l2 l1 H a w hb' hq' h
    | some oi =>
      simp only [ho, q1, q3, Bool.false_eq_true, if_false] at h ⊢
      have h2 : hisOp P ops G loud lev i oi (hisOp P ops G loud lev j oj (wpFl P ops G loud lev Q f fo (l1 ++ l2))) H a w := hisOp_mono (fun H' u w' hK => flo_pullL F hj hlj hjr l2 l1 H' _ w' hb' hq' hK) h
      exact hswapL (lexOk_sel (hisOk_lex F.his)) ho hj (hb i List.mem_cons_self oi ho) q1 hlj q2 h2

/-- an operation that has come up, and is not the last -/
theorem wpOp_of_his {j : Nat} {oj : Oper} (hoj : ops[j]? = some oj) (hlast : lastB ops j = false) (ht : ∀ a b c, G a b → G b c → G a c) (hrf : ∀ a, G a a) {K : (Nat → World) → Act → World → Prop} {K' : Act → World → Prop} {H : Nat → World} {a : Act} {w : World} (hw : ∀ i, G (H i) w)
    (ih : ∀ H' a' w', (∀ i, G (H' i) w') → K H' a' w' → K' a' w') (hlex : hisOp P ops G loud lev j oj K H a w) : wpOp P ops Q j K' a w := by
  have hinv : ∀ w', G w w' → ∀ n, G (upd H j w' n) w' := by
    intro w' hC n
    unfold upd
    split
    · exact ht _ _ _ (hw n) hC
    · exact hrf _
  unfold wpOp
  simp only [hoj]
  unfold hisOp at hlex
  split
  · rename_i hwt
    rw [if_pos hwt] at hlex
    left
    split at hlex
    · refine loudly_wp (loudly_mono ?_ hlex)
      rintro a' w' ⟨hC, hl⟩
      exact ih _ a' w' (hinv w' (hC.resolve_left (by rw [hlast]; simp))) hl
    · obtain ⟨v, hv, hl⟩ := hlex
      exact Yields.wp (hv w (hw _)) (ih _ _ _ hw hl)
  · rename_i hwt
    rw [if_neg hwt] at hlex
    exact ih _ _ _ hw hlex

theorem ready_ne (hok : lexOk ops loud = true) {listed : Array Bool} (hs : listed.size = ops.size) (hne : rest ops.size listed ≠ []) : Region.ready .any ops listed ≠ [] := by
  intro hnil
  cases hr : rest ops.size listed with
  | nil => exact hne hr
  | cons i l =>
    have hi : i ∈ rest ops.size listed := by rw [hr]; exact List.mem_cons_self
    have hi' := List.mem_filter.1 hi
    have hin := List.mem_range.1 hi'.1
    have hp : (rest ops.size listed).Pairwise (· < ·) := List.Pairwise.filter _ List.pairwise_lt_range
    rw [hr] at hp
    have hready : i ∈ Region.ready .any ops listed := by
      refine mem_ready.2 ⟨by simpa using hi'.2, ops[i], by simp [hin], fun e he hb => ?_⟩
      have hlt := lexOk_back hok (j := i) (oj := ops[i]) (by simp [hin]) e he hb
      cases hle : listed.getD e.on false with
      | true => rfl
      | false =>
        exfalso
        have hin' : e.on < listed.size := by rw [hs]; omega
        have : e.on ∈ rest ops.size listed := List.mem_filter.2 ⟨List.mem_range.2 (by omega), by simpa using getD_in hin' hle⟩
        rw [hr] at this
        rcases List.mem_cons.1 this with e1 | e1
        · omega
        · have := (List.pairwise_cons.1 hp).1 _ e1; omega
    rw [hnil] at hready
    cases hready

theorem wpAny_of_hisF (ht : ∀ a b c, G a b → G b c → G a c) (hrf : ∀ a, G a a) {f : Nat} {loud' : List Nat} (hcon : ∀ k, k ≠ f → loud.contains k = loud'.contains k) (hok' : hisOk ops loud' lev = true) : ∀ (fuel : Nat) (listed : Array Bool) (H : Nat → World) (a : Act) (w : World), listed.size = ops.size → listed.getD f false = true → Closed ops listed → (rest ops.size listed).length = fuel → (∀ i, G (H i) w) →
    wpHis P ops G loud lev Q (rest ops.size listed) H a w → wpAny P .any ops Q fuel listed a w
  | 0, listed, H, a, w, hs, hlf, hc, hf, hw, h => by
    have hr : rest ops.size listed = [] := List.eq_nil_of_length_eq_zero hf
    rw [hr] at h
    refine ⟨?_, h⟩
    rw [List.eq_nil_iff_forall_not_mem]
    intro j hj
    have := (mem_ready.1 hj)
    obtain ⟨hun, oj, hoj, _⟩ := this
    have : j ∈ rest ops.size listed := List.mem_filter.2 ⟨List.mem_range.2 (Array.getElem?_eq_some_iff.1 hoj).1, by simpa using hun⟩
    rw [hr] at this
    cases this
  | fuel + 1, listed, H, a, w, hs, hlf, hc, hf, hw, h => by
    have hok : lexOk ops loud' = true := by
      unfold hisOk at hok'
      simp only [Bool.and_eq_true] at hok'
      exact hok'.1
    refine ⟨fun hnil => ?_, fun j hj => ?_⟩
    · exfalso
      cases hr : rest ops.size listed with
      | nil => rw [hr] at hf; cases hf
      | cons i l =>
        have hi : i ∈ rest ops.size listed := by rw [hr]; exact List.mem_cons_self
        have hi' := List.mem_filter.1 hi
        have hin := List.mem_range.1 hi'.1
        have hp : (rest ops.size listed).Pairwise (· < ·) := List.Pairwise.filter _ List.pairwise_lt_range
        rw [hr] at hp
        have hready : i ∈ Region.ready .any ops listed := by
          refine mem_ready.2 ⟨by simpa using hi'.2, ops[i], by simp [hin], fun e he hb => ?_⟩
          have hlt := lexOk_back hok (j := i) (oj := ops[i]) (by simp [hin]) e he hb
          cases hle : listed.getD e.on false with
          | true => rfl
          | false =>
            exfalso
            have hin' : e.on < listed.size := by rw [hs]; omega
            have : e.on ∈ rest ops.size listed := List.mem_filter.2 ⟨List.mem_range.2 (by omega), by simpa using getD_in hin' hle⟩
            rw [hr] at this
            rcases List.mem_cons.1 this with e1 | e1
            · omega
            · have := (List.pairwise_cons.1 hp).1 _ e1; omega
        rw [hnil] at hready
        cases hready
    · obtain ⟨hun, oj, hoj, hall⟩ := mem_ready.1 hj
      have hjn := (Array.getElem?_eq_some_iff.1 hoj).1
      have hun' : listed.getD j true = false := by simpa using hun
      have hjr : j ∈ rest ops.size listed := List.mem_filter.2 ⟨List.mem_range.2 hjn, by simpa using hun⟩
      obtain ⟨l1, l2, e1, e2, hl1⟩ := rest_set hs hjr
      have hno : ∀ i ∈ l1, reach ops ops.size j i = false := by
        intro i hi
        obtain ⟨hij, hiu⟩ := hl1 i hi
        cases h1 : reach ops ops.size j i with
        | false => rfl
        | true =>
          have := reach_listed hc _ j i oj hoj hall h1
          rw [getD_both hiu] at this
          cases this
      have hpair : ∀ i ∈ l1, ∀ oi, ops[i]? = some oi → oi.apart ops oj = true ∧ (loud'.contains i = false ∨ loud'.contains j = false) := by
        intro i hi oi hoi
        obtain ⟨hij, hiu⟩ := hl1 i hi
        rcases lexOk_pair hok hoi hoj hij with h1 | h1
        · exact h1
        · rw [hno i hi] at h1; cases h1
      have hnf : ∀ i, listed.getD i true = false → i ≠ f := fun i hi e => by rw [e] at hi; have := getD_both hi; rw [this] at hlf; cases hlf
      have hjf : j ≠ f := hnf j hun'
      have hb : Beside ops oj l1 := fun i hi oi hoi => (hpair i hi oi hoi).1
      rw [e1] at h
      have hinv : ∀ w', G w w' → ∀ n, G (upd H j w' n) w' := by
        intro w' hC n
        unfold upd
        split
        · exact ht _ _ _ (hw n) hC
        · exact hrf _
      have hlex : hisOp P ops G loud lev j oj (wpHis P ops G loud lev Q (l1 ++ l2)) H a w := by
        by_cases hlj : loud.contains j = true
        · refine hpullL (lexOk_sel hok) hoj l2 l1 H a w hb (fun i hi => ?_) hlj h
          have hin : i < ops.size := by have := (hl1 i hi).1; omega
          rcases (hpair i hi ops[i] (by simp [hin])).2 with h1 | h1
          · refine ⟨by rw [hcon i (hnf i (hl1 i hi).2)]; exact h1, fun _ => ?_⟩
            have := hisOk_self hok' hin h1
            have := (hl1 i hi).1
            omega
          · rw [← hcon j hjf, hlj] at h1; cases h1
        · have hlj' : loud.contains j = false := by simpa using hlj
          refine (hisOp_quiet hlj').2 (hpullQ ht hrf (lexOk_sel hok) hoj hlj' l2 l1 H a w hb (fun i hi hli => ⟨?_, ?_⟩) hw h)
          · rcases hisOk_lev hok' hjn (hl1 i hi).1 (by rw [← hcon i (hnf i (hl1 i hi).2)]; exact hli) (by rw [← hcon j hjf]; exact hlj') with h1 | h1
            · exact h1
            · rw [hno i hi] at h1; cases h1
          · cases hb1 : lastB ops i with
            | false => rfl
            | true =>
              unfold lastB at hb1
              simp only [Bool.and_eq_true, decide_eq_true_eq] at hb1
              have := (hl1 i hi).1
              omega
      have hs' : (listed.setIfInBounds j true).size = ops.size := by simp [hs]
      have hc' := closed_set hc hoj hall
      have hlf' : (listed.setIfInBounds j true).getD f false = true := by rw [getD_set_ne false hjf]; exact hlf
      have hf' : (rest ops.size (listed.setIfInBounds j true)).length = fuel := by
        rw [e2]; rw [e1] at hf; simp at hf ⊢; omega
      have ih := fun H' a' w' (hw' : ∀ i, G (H' i) w') (h' : wpHis P ops G loud lev Q (l1 ++ l2) H' a' w') => wpAny_of_hisF ht hrf hcon hok' fuel (listed.setIfInBounds j true) H' a' w' hs' hlf' hc' hf' hw' (by rw [e2]; exact h')
      unfold wpOp
      simp only [hoj]
      unfold hisOp at hlex
      split
      · rename_i hwt
        rw [if_pos hwt] at hlex
        left
        split at hlex
        · refine loudly_wp (loudly_mono ?_ hlex)
          rintro a' w' ⟨hC, hl⟩
          rcases hC with hC | hC
          · have hnil : l1 ++ l2 = [] := by
              rw [List.eq_nil_iff_forall_not_mem]
              intro i hi
              rw [← e2] at hi
              obtain ⟨h1, h2⟩ := List.mem_filter.1 hi
              have h1 := List.mem_range.1 h1
              unfold lastB at hC
              simp only [Bool.and_eq_true, decide_eq_true_eq] at hC
              have hij : i ≠ j := by
                rintro rfl
                have hjs : i < listed.size := by rw [hs]; exact hjn
                simp [hjs] at h2
              have hr1 := List.all_eq_true.1 hC.2 i (List.mem_range.2 (by omega))
              have h3 := reach_listed hc _ j i oj hoj hall hr1
              have h4 : (listed.setIfInBounds j true).getD i true = true := by
                have hi' : i < listed.size := by omega
                have : listed[i] = true := by simpa [Array.getD, hi'] using h3
                simp [Array.getD, hi', Array.getElem_setIfInBounds, this]
              rw [h4] at h2
              cases h2
            rw [e2, hnil] at hf'
            simp at hf'
            subst hf'
            rw [hnil] at hl
            exact wpAny_zero (by rw [e2, hnil]) hl
          · exact ih _ a' w' (hinv w' hC) hl
        · obtain ⟨v, hv, hl⟩ := hlex
          exact Yields.wp (hv w (hw _)) (ih _ _ _ hw hl)
      · rename_i hwt
        rw [if_neg hwt] at hlex
        exact ih _ _ _ hw hlex


theorem rest_mem {listed : Array Bool} {i : Nat} (h : i ∈ rest ops.size listed) : i < ops.size ∧ listed.getD i true = false := by
  obtain ⟨h1, h2⟩ := List.mem_filter.1 h
  exact ⟨List.mem_range.1 h1, by simpa using h2⟩

theorem filter_mid {f j : Nat} {l1 l2 : List Nat} (hjf : j ≠ f) : (l1 ++ j :: l2).filter (fun i => decide (i ≠ f)) = l1.filter (fun i => decide (i ≠ f)) ++ j :: l2.filter (fun i => decide (i ≠ f)) := by
  rw [List.filter_append, List.filter_cons, if_pos (by simpa using hjf)]

theorem wpAny_of_flo (ht : ∀ a b c, G a b → G b c → G a c) (hrf : ∀ a, G a a) {loud' : List Nat} {f : Nat} {fo : Oper} (F : Flo ops loud loud' lev f fo) : ∀ (fuel : Nat) (listed : Array Bool) (H : Nat → World) (a : Act) (w : World), listed.size = ops.size → listed.getD f true = false → Closed ops listed → (rest ops.size listed).length = fuel → (∀ i, G (H i) w) →
    wpFl P ops G loud lev Q f fo ((rest ops.size listed).filter (fun i => decide (i ≠ f))) H a w → wpAny P .any ops Q fuel listed a w
  | 0, listed, H, a, w, hs, hlf, hc, hf, hw, h => by
    have hr : rest ops.size listed = [] := List.eq_nil_of_length_eq_zero hf
    rw [hr] at h
    exact h.elim
  | fuel + 1, listed, H, a, w, hs, hlf, hc, hf, hw, h => by
    have hok := hisOk_lex F.his
    refine ⟨fun hnil => absurd hnil (ready_ne hok hs (fun e => by rw [e] at hf; cases hf)), fun j hj => ?_⟩
    obtain ⟨hun, oj, hoj, hall⟩ := mem_ready.1 hj
    have hjn := (Array.getElem?_eq_some_iff.1 hoj).1
    have hun' : listed.getD j true = false := by simpa using hun
    have hjr : j ∈ rest ops.size listed := List.mem_filter.2 ⟨List.mem_range.2 hjn, by simpa using hun⟩
    obtain ⟨l1, l2, e1, e2, hl1⟩ := rest_set hs hjr
    have hs' : (listed.setIfInBounds j true).size = ops.size := by simp [hs]
    have hc' := closed_set hc hoj hall
    have hf' : (rest ops.size (listed.setIfInBounds j true)).length = fuel := by
      rw [e2]; rw [e1] at hf; simp at hf ⊢; omega
    have hlfF : listed.getD f false = false := getD_both hlf
    by_cases hjf : j = f
    · subst hjf
      have hoj' : oj = fo := by have := F.op; rw [hoj] at this; exact Option.some.inj this
      subst hoj'
      have hp : (rest ops.size listed).Pairwise (· < ·) := List.Pairwise.filter _ List.pairwise_lt_range
      rw [e1, List.pairwise_append] at hp
      obtain ⟨_, hp2, hp3⟩ := hp
      have eL : (rest ops.size listed).filter (fun i => decide (i ≠ j)) = l1 ++ l2 := by
        rw [e1, List.filter_append, List.filter_cons, if_neg (by simp)]
        have h2 : l1.filter (fun i => decide (i ≠ j)) = l1 := by
          rw [List.filter_eq_self]
          intro i hi
          have := hp3 i hi j List.mem_cons_self
          simp; omega
        have h3 : l2.filter (fun i => decide (i ≠ j)) = l2 := by
          rw [List.filter_eq_self]
          intro i hi
          have := (List.pairwise_cons.1 hp2).1 i hi
          simp; omega
        rw [h2, h3]
      rw [eL] at h
      have hnow := flo_now F (l1 ++ l2) H a w (fun k hk e => by
        rw [← eL] at hk
        have := (List.mem_filter.1 hk).2
        simp [e] at this) h
      have hset : (listed.setIfInBounds j true).getD j false = true := by
        have hjs : j < listed.size := by rw [hs]; exact hjn
        simp [Array.getD, hjs]
      exact wpOp_of_his hoj F.last ht hrf hw (fun H' a' w' hw' h' => wpAny_of_hisF ht hrf F.con F.his fuel _ H' a' w' hs' hset hc' hf' hw' (by rw [e2]; exact h')) hnow
    · have hjrf : reach ops ops.size j f = false := by
        cases hr : reach ops ops.size j f with
        | false => rfl
        | true =>
          have := reach_listed hc _ j f oj hoj hall hr
          rw [hlfF] at this
          cases this
      have hlastj : lastB ops j = false := by
        cases hb : lastB ops j with
        | false => rfl
        | true =>
          unfold lastB at hb
          simp only [Bool.and_eq_true, decide_eq_true_eq] at hb
          have hfl := F.lt
          have := List.all_eq_true.1 hb.2 f (List.mem_range.2 (by omega))
          rw [hjrf] at this
          cases this
      have hmem : ∀ i ∈ l1.filter (fun i => decide (i ≠ f)), i ∈ l1 ∧ i ≠ f := fun i hi => by
        obtain ⟨h1, h2⟩ := List.mem_filter.1 hi
        exact ⟨h1, by simpa using h2⟩
      have hno : ∀ i ∈ l1, reach ops ops.size j i = false := by
        intro i hi
        obtain ⟨hij, hiu⟩ := hl1 i hi
        cases h1 : reach ops ops.size j i with
        | false => rfl
        | true =>
          have := reach_listed hc _ j i oj hoj hall h1
          rw [getD_both hiu] at this
          cases this
      have hpair : ∀ i ∈ l1, ∀ oi, ops[i]? = some oi → oi.apart ops oj = true ∧ (loud'.contains i = false ∨ loud'.contains j = false) := by
        intro i hi oi hoi
        obtain ⟨hij, hiu⟩ := hl1 i hi
        rcases lexOk_pair hok hoi hoj hij with h1 | h1
        · exact h1
        · rw [hno i hi] at h1; cases h1
      have hb : Beside ops oj (l1.filter (fun i => decide (i ≠ f))) := fun i hi oi hoi => (hpair i (hmem i hi).1 oi hoi).1
      have hlf' : (listed.setIfInBounds j true).getD f true = false := by rw [getD_set_ne true hjf]; exact hlf
      have e3 : (rest ops.size (listed.setIfInBounds j true)).filter (fun i => decide (i ≠ f)) = l1.filter (fun i => decide (i ≠ f)) ++ l2.filter (fun i => decide (i ≠ f)) := by rw [e2, List.filter_append]
      rw [e1, filter_mid hjf] at h
      have hlex : hisOp P ops G loud lev j oj (wpFl P ops G loud lev Q f fo (l1.filter (fun i => decide (i ≠ f)) ++ l2.filter (fun i => decide (i ≠ f)))) H a w := by
        by_cases hlj : loud.contains j = true
        · refine flo_pullL F hoj hlj hjrf _ _ H a w hb (fun i hi => ?_) h
          obtain ⟨hi1, hif⟩ := hmem i hi
          have hin : i < ops.size := by have := (hl1 i hi1).1; omega
          refine ⟨?_, ?_, F.ahead i j (hl1 i hi1).1 hjn hif hjf hlj hjrf⟩
          · rcases (hpair i hi1 ops[i] (by simp [hin])).2 with h1 | h1
            · rw [F.con i hif]; exact h1
            · rw [← F.con j hjf, hlj] at h1; cases h1
          · have h1 : loud'.contains i = false := by
              rcases (hpair i hi1 ops[i] (by simp [hin])).2 with h1 | h1
              · exact h1
              · rw [← F.con j hjf, hlj] at h1; cases h1
            have := hisOk_self F.his hin h1
            have := (hl1 i hi1).1
            omega
        · have hlj' : loud.contains j = false := by simpa using hlj
          refine (hisOp_quiet hlj').2 (flo_pullQ ht hrf F hoj hlj' hjrf hjf _ _ H a w hb (fun i hi hli => ⟨?_, ?_⟩) hw h)
          · obtain ⟨hi1, hif⟩ := hmem i hi
            rcases hisOk_lev F.his hjn (hl1 i hi1).1 (by rw [← F.con i hif]; exact hli) (by rw [← F.con j hjf]; exact hlj') with h1 | h1
            · exact h1
            · rw [hno i hi1] at h1; cases h1
          · obtain ⟨hi1, hif⟩ := hmem i hi
            cases hb1 : lastB ops i with
            | false => rfl
            | true =>
              unfold lastB at hb1
              simp only [Bool.and_eq_true, decide_eq_true_eq] at hb1
              have := (hl1 i hi1).1
              omega
      exact wpOp_of_his hoj hlastj ht hrf hw (fun H' a' w' hw' h' => wpAny_of_flo ht hrf F fuel _ H' a' w' hs' hlf' hc' hf' hw' (by rw [e3]; exact h')) hlex

/-- The operations from the k-th on; f is afloat still, or it has come up. -/
def wpFlL (P : Program) (ops : Array Oper) (G : World → World → Prop) (loud : List Nat) (lev : Nat → Nat) (Q : Exit → Act → World → Prop) (f : Nat) (fo : Oper) : Bool → Nat → List Oper → (Nat → World) → Act → World → Prop
  | false, _, [], _, a, w => Q .normal a w
  | true, _, [], _, _, _ => False
  | b, k, o :: l, H, a, w =>
    if k = f then wpFlL P ops G loud lev Q f fo b (k + 1) l H a w
    else if b = false then hisOp P ops G loud lev k o (wpFlL P ops G loud lev Q f fo false (k + 1) l) H a w
    else if reach ops ops.size k f = true then hisOp P ops G loud lev f fo (hisOp P ops G loud lev k o (wpFlL P ops G loud lev Q f fo false (k + 1) l)) H a w
    else if loud.contains k = true then hisOp P ops G loud lev f fo (hisOp P ops G loud lev k o (wpFlL P ops G loud lev Q f fo false (k + 1) l)) H a w ∧ hisOp P ops G loud lev k o (wpFlL P ops G loud lev Q f fo true (k + 1) l) H a w
    else hisOp P ops G loud lev k o (wpFlL P ops G loud lev Q f fo true (k + 1) l) H a w

theorem wpHis_of_flL {f : Nat} {fo : Oper} : ∀ (l : List Oper) (k : Nat) (H : Nat → World) (a : Act) (w : World), (∀ j, l[j]? = ops[k + j]?) → wpFlL P ops G loud lev Q f fo false k l H a w → wpHis P ops G loud lev Q ((List.range' k l.length).filter (fun i => decide (i ≠ f))) H a w
  | [], _, _, _, _, _, h => h
  | o :: l, k, H, a, w, hl, h => by
    have h0 : ops[k]? = some o := by simpa using (hl 0).symm
    have hl' : ∀ j, l[j]? = ops[k + 1 + j]? := fun j => by have := hl (j + 1); simpa [Nat.add_assoc, Nat.add_comm 1 j] using this
    simp only [List.length_cons, List.range'_succ, List.filter_cons]
    unfold wpFlL at h
    by_cases hk : k = f
    · rw [if_pos hk] at h
      rw [if_neg (by simpa using hk)]
      exact wpHis_of_flL l (k + 1) H a w hl' h
    · rw [if_neg hk, if_pos rfl] at h
      rw [if_pos (by simpa using hk)]
      simp only [wpHis, h0]
      exact hisOp_mono (fun H' u w' hK => wpHis_of_flL l (k + 1) H' _ w' hl' hK) h
theorem wpFl_of_L {f : Nat} {fo : Oper} : ∀ (l : List Oper) (k : Nat) (H : Nat → World) (a : Act) (w : World), (∀ j, l[j]? = ops[k + j]?) → wpFlL P ops G loud lev Q f fo true k l H a w → wpFl P ops G loud lev Q f fo ((List.range' k l.length).filter (fun i => decide (i ≠ f))) H a w
  | [], _, _, _, _, _, h => h
  | o :: l, k, H, a, w, hl, h => by
    have h0 : ops[k]? = some o := by simpa using (hl 0).symm
    have hl' : ∀ j, l[j]? = ops[k + 1 + j]? := fun j => by have := hl (j + 1); simpa [Nat.add_assoc, Nat.add_comm 1 j] using this
    simp only [List.length_cons, List.range'_succ, List.filter_cons]
    unfold wpFlL at h
    by_cases hk : k = f
    · rw [if_pos hk] at h
      rw [if_neg (by simpa using hk)]
      exact wpFl_of_L l (k + 1) H a w hl' h
    · rw [if_neg hk, if_neg (by simp)] at h
      rw [if_pos (by simpa using hk)]
      have hA : hisOp P ops G loud lev f fo (hisOp P ops G loud lev k o (wpFlL P ops G loud lev Q f fo false (k + 1) l)) H a w → hisOp P ops G loud lev f fo (wpHis P ops G loud lev Q (k :: (List.range' (k + 1) l.length).filter (fun i => decide (i ≠ f)))) H a w := fun hA =>
        hisOp_mono (fun H' u w' hK => by
          simp only [wpHis, h0]
          exact hisOp_mono (fun H'' u' w'' hK' => wpHis_of_flL l (k + 1) H'' _ w'' hl' hK') hK) hA
      have hB : hisOp P ops G loud lev k o (wpFlL P ops G loud lev Q f fo true (k + 1) l) H a w → hisOp P ops G loud lev k o (wpFl P ops G loud lev Q f fo ((List.range' (k + 1) l.length).filter (fun i => decide (i ≠ f)))) H a w := fun hB =>
        hisOp_mono (fun H' u w' hK => wpFl_of_L l (k + 1) H' _ w' hl' hK) hB
      simp only [wpFl, h0]
      by_cases hr : reach ops ops.size k f = true
      · rw [if_pos hr] at h ⊢
        exact hA h
      · rw [if_neg hr] at h ⊢
        by_cases hlk : loud.contains k = true
        · rw [if_pos hlk] at h ⊢
          exact ⟨hA h.1, hB h.2⟩
        · rw [if_neg hlk] at h ⊢
          exact hB h

theorem wpAny_flit {os : List Oper} {a : Act} {w : World} {loud' : List Nat} {f : Nat} {fo : Oper} (ht : ∀ a b c, G a b → G b c → G a c) (hrf : ∀ a, G a a) (hok : floOk os.toArray loud' lev f = true) (hf : os.toArray[f]? = some fo) (h : wpFlL P os.toArray G (f :: loud') lev Q f fo true 0 os (fun _ => w) a w) :
    wpAny P .any os.toArray Q os.toArray.size (Array.replicate os.toArray.size false) a w := by
  have F := flo_of hok hf
  refine wpAny_of_flo ht hrf F _ _ (fun _ => w) a w (by simp) ?_ ?_ ?_ (fun _ => hrf _) ?_
  · have hlt := F.lt
    rw [Array.getD_eq_getD_getElem?, Array.getElem?_replicate, if_pos hlt]
    rfl
  · intro j oj _ hl
    rw [getD_replicate_false] at hl
    cases hl
  · rw [rest_none]; simp
  · rw [rest_none, List.range_eq_range']
    have := wpFl_of_L (ops := os.toArray) (G := G) (loud := f :: loud') (lev := lev) (Q := Q) (f := f) (fo := fo) os 0 (fun _ => w) a w (by simp) h
    simpa using this

/-- The walk's own word: it does not unfold. -/
structure FloW (P : Program) (ops : Array Oper) (G : World → World → Prop) (loud : List Nat) (lev : Nat → Nat) (Q : Exit → Act → World → Prop) (f : Nat) (fo : Oper) (b : Bool) (k : Nat) (l : List Oper) (H : Nat → World) (a : Act) (w : World) : Prop where
  out : wpFlL P ops G loud lev Q f fo b k l H a w

/-- THE LAW, in a function's own frame: 'loud' is what is loud besides f. -/
theorem wp_region_flo {id : Nat} {os : List Oper} {a : Act} {w : World} (G : World → World → Prop) (ht : ∀ a b c, G a b → G b c → G a c) (hrf : ∀ a, G a a) (f : Nat) (fo : Oper) (loud : List Nat) (lev : Nat → Nat) (hm : P.follows .mixedOrders = true) (hf : os.toArray[f]? = some fo) (hok : floOk os.toArray loud lev f = true)
    (h : ∀ w1, Keep [] w w1 → w1.heap = w.heap → FloW P os.toArray G (f :: loud) lev Q f fo true 0 os (fun _ => w1) a w1) : (Code.region id os.toArray true).wp P Q a w :=
  wp_region_any hm (wpAny_flit ht hrf hok hf (h _ (Keep.refl [] w).drew rfl).out)
theorem wpIn_region_flo {l n id : Nat} {os : List Oper} {a : Act} {w : World} (G : World → World → Prop) (ht : ∀ a b c, G a b → G b c → G a c) (hrf : ∀ a, G a a) (f : Nat) (fo : Oper) (loud : List Nat) (lev : Nat → Nat) (hm : P.follows .mixedOrders = true) (hQ : ¬ LetsOut Q) (hd : os.toArray.all (fun o => !Oper.isDefer o) = true) (hf : os.toArray[f]? = some fo) (hok : floOk os.toArray loud lev f = true)
    (h : ∀ w1, Keep [] w w1 → w1.heap = w.heap → FloW P os.toArray G (f :: loud) lev Q f fo true 0 os (fun _ => w1) a w1) : (Code.region id os.toArray true).wpIn (Fence.wide.inRound l) n P Q a w :=
  wpIn_region_any hm (wpAny_in hQ (noDefer_spec hd) _ _ _ _ (wpAny_flit ht hrf hok hf (h _ (Keep.refl [] w).drew rfl).out))

variable {f : Nat} {fo : Oper} {b : Bool}
theorem flo_nil {k : Nat} {H : Nat → World} {a : Act} {w : World} (h : Q .normal a w) : FloW P ops G loud lev Q f fo false k [] H a w := ⟨h⟩
/-- f's own place: passed by -/
theorem flo_skip {k : Nat} {o : Oper} {l : List Oper} {H : Nat → World} {a : Act} {w : World} (hk : k = f) (h : FloW P ops G loud lev Q f fo b (k + 1) l H a w) : FloW P ops G loud lev Q f fo b k (o :: l) H a w := by
  refine ⟨?_⟩
  have h2 := h.out
  cases b <;> (unfold wpFlL; rw [if_pos hk]; exact h2)
theorem flo_gen {k : Nat} {o : Oper} {l : List Oper} {H : Nat → World} {a : Act} {w : World} (hk : decide (k = f) = false) (hb : (b && (reach ops ops.size k f || loud.contains k)) = false)
    (h : hisOp P ops G loud lev k o (fun H a w => FloW P ops G loud lev Q f fo b (k + 1) l H a w) H a w) : FloW P ops G loud lev Q f fo b k (o :: l) H a w := by
  have hk' : ¬ k = f := by simpa using hk
  refine ⟨?_⟩
  have h2 : hisOp P ops G loud lev k o (wpFlL P ops G loud lev Q f fo b (k + 1) l) H a w := hisOp_mono (fun H' u w' hK => hK.out) h
  cases b with
  | false => unfold wpFlL; rw [if_neg hk', if_pos rfl]; exact h2
  | true =>
    simp only [Bool.true_and, Bool.or_eq_false_iff] at hb
    unfold wpFlL
    rw [if_neg hk', if_neg (by simp), hb.1, hb.2, if_neg (by simp), if_neg (by simp)]
    exact h2
/-- A quiet operation. -/
theorem flo_q {k : Nat} {o : Oper} {l : List Oper} {H : Nat → World} {a : Act} {w : World} (hk : decide (k = f) = false) (hb : (b && (reach ops ops.size k f || loud.contains k)) = false) (hl : loud.contains k = false) (hw : Region.wanted o (yielded ops a.tmps) = true)
    (h : ∀ K : Act → World → Prop, (∀ a w, FloW P ops G loud lev Q f fo b (k + 1) l H a w → K a w) → ∃ v, (∀ w', G (H (lev k)) w' → (execOp a.eval o).run P w' = .ok (.value v) w') ∧ K (a.put o.dst v) w) : FloW P ops G loud lev Q f fo b k (o :: l) H a w := by
  refine flo_gen hk hb ?_
  obtain ⟨v, hv, hK⟩ := h _ (fun _ _ h => h)
  unfold hisOp
  rw [if_pos hw, if_neg (by rw [hl]; simp)]
  exact ⟨v, fun w' hw' => .inl (hv w' hw'), hK⟩
theorem flo_c {k : Nat} {o : Oper} {l : List Oper} {H : Nat → World} {a : Act} {w : World} (hk : decide (k = f) = false) (hb : (b && (reach ops ops.size k f || loud.contains k)) = false) (hl : loud.contains k = false) (hw : Region.wanted o (yielded ops a.tmps) = true) (v : Value)
    (h : ∀ K : Act → World → Prop, (∀ a w, FloW P ops G loud lev Q f fo b (k + 1) l H a w → K a w) → (∀ w', G (H (lev k)) w' → Yields P o a w' v) ∧ K (a.put o.dst v) w) : FloW P ops G loud lev Q f fo b k (o :: l) H a w := by
  refine flo_gen hk hb ?_
  obtain ⟨hv, hK⟩ := h _ (fun _ _ h => h)
  unfold hisOp
  rw [if_pos hw, if_neg (by rw [hl]; simp)]
  exact ⟨v, hv, hK⟩
theorem flo_s {k : Nat} {o : Oper} {l : List Oper} {H : Nat → World} {a : Act} {w : World} (hk : decide (k = f) = false) (hb : (b && (reach ops ops.size k f || loud.contains k)) = false) (hw : Region.wanted o (yielded ops a.tmps) = false)
    (h : ∀ K : Act → World → Prop, (∀ a w, FloW P ops G loud lev Q f fo b (k + 1) l H a w → K a w) → K (a.put o.dst undef) w) : FloW P ops G loud lev Q f fo b k (o :: l) H a w := by
  refine flo_gen hk hb ?_
  unfold hisOp
  rw [if_neg (by rw [hw]; simp)]
  exact h _ (fun _ _ h => h)
/-- A loud one, behind f. -/
theorem flo_l {k : Nat} {o : Oper} {l : List Oper} {H : Nat → World} {a : Act} {w : World} (hk : decide (k = f) = false) (hl : loud.contains k = true) (hw : Region.wanted o (yielded ops a.tmps) = true)
    (h : ∀ K : Act → World → Prop, (∀ a w', G w w' → FloW P ops G loud lev Q f fo false (k + 1) l (upd H k w') a w' → K a w') → loudly P o a w K) : FloW P ops G loud lev Q f fo false k (o :: l) H a w := by
  refine flo_gen hk rfl ?_
  unfold hisOp
  rw [if_pos hw, if_pos hl]
  refine h _ (fun a w' h1 h2 => ⟨.inr h1, h2⟩)
/-- f comes up now. -/
theorem flo_now' {k : Nat} {o : Oper} {l : List Oper} {H : Nat → World} {a : Act} {w : World} (hk : decide (k = f) = false) (hl : loud.contains f = true) (hw : Region.wanted fo (yielded ops a.tmps) = true)
    (h : ∀ K : Act → World → Prop, (∀ a w', G w w' → FloW P ops G loud lev Q f fo false k (o :: l) (upd H f w') a w' → K a w') → loudly P fo a w K) :
    hisOp P ops G loud lev f fo (hisOp P ops G loud lev k o (wpFlL P ops G loud lev Q f fo false (k + 1) l)) H a w := by
  have hk' : ¬ k = f := by simpa using hk
  unfold hisOp
  rw [if_pos hw, if_pos hl]
  refine h _ (fun a w' h1 h2 => ⟨.inr h1, ?_⟩)
  have h3 := h2.out
  unfold wpFlL at h3
  rw [if_neg hk', if_pos rfl] at h3
  exact h3
theorem flo_w {k : Nat} {o : Oper} {l : List Oper} {H : Nat → World} {a : Act} {w : World} (hk : decide (k = f) = false) (hr : reach ops ops.size k f = true) (hl : loud.contains f = true) (hw : Region.wanted fo (yielded ops a.tmps) = true)
    (h : ∀ K : Act → World → Prop, (∀ a w', G w w' → FloW P ops G loud lev Q f fo false k (o :: l) (upd H f w') a w' → K a w') → loudly P fo a w K) : FloW P ops G loud lev Q f fo true k (o :: l) H a w := by
  have hk' : ¬ k = f := by simpa using hk
  refine ⟨?_⟩
  have h2 := flo_now' (o := o) (l := l) hk hl hw h
  unfold wpFlL
  rw [if_neg hk', if_neg (by simp), if_pos hr]
  exact h2
/-- A loud one while f is afloat: f ahead of it, or behind. -/
theorem flo_two {k : Nat} {o : Oper} {l : List Oper} {H : Nat → World} {a : Act} {w : World} (hk : decide (k = f) = false) (hr : reach ops ops.size k f = false) (hlk : loud.contains k = true) (hl : loud.contains f = true) (hwf : Region.wanted fo (yielded ops a.tmps) = true) (hw : Region.wanted o (yielded ops a.tmps) = true)
    (h1 : ∀ K : Act → World → Prop, (∀ a w', G w w' → FloW P ops G loud lev Q f fo false k (o :: l) (upd H f w') a w' → K a w') → loudly P fo a w K)
    (h2 : ∀ K : Act → World → Prop, (∀ a w', G w w' → FloW P ops G loud lev Q f fo true (k + 1) l (upd H k w') a w' → K a w') → loudly P o a w K) : FloW P ops G loud lev Q f fo true k (o :: l) H a w := by
  have hk' : ¬ k = f := by simpa using hk
  refine ⟨?_⟩
  have h3 := flo_now' (o := o) (l := l) hk hl hwf h1
  unfold wpFlL
  rw [if_neg hk', if_neg (by simp), hr, if_neg (by simp), if_pos hlk]
  refine ⟨h3, ?_⟩
  unfold hisOp
  rw [if_pos hw, if_pos hlk]
  exact h2 _ (fun a w' g1 g2 => ⟨.inr g1, g2.out⟩)
end
end Sg
