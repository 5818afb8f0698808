import Derived.RangeFuncNested
import Derived.OrdersIn
import Derived.StillTailTactics
import Derived.RangeFuncBound
import Derived.RangeFuncCalls
import Derived.RangeFuncLeaves
import Derived.Test.YtjkjiabfhhnngaaBase
/-! A range over a function, in plain words: the caller's invariant, the iterator's contract, the body. -/
namespace Sg
open Go Go.RowKit

theorem wideN (n : Nat) : Fence.wide.depth.isSome = true → 1 ≤ n := fun h => by simp [Fence.wide] at h

/-- How the body of a round may be left: the loop's two blocks lie as they lay. -/
def roundEnd {α : Type} (D : Nat) (I : List α → World → Prop) (Ix : Code → List α → World → Prop) (xs : List α) (W : World) : Exit → Act → World → Prop
  | .normal, _, W' => W'.heap[D + 1]? = W.heap[D + 1]? ∧ W'.heap[D]? = W.heap[D]? ∧ I xs W'
  | .ret, _, W' => W'.heap[D + 1]? = W.heap[D + 1]? ∧ W'.heap[D]? = W.heap[D]? ∧ Ix .ret xs W'
  | .exit id, _, W' => W'.heap[D + 1]? = W.heap[D + 1]? ∧ W'.heap[D]? = W.heap[D]? ∧ Ix (.exit id) xs W'
  | .goto t, _, W' => W'.heap[D + 1]? = W.heap[D + 1]? ∧ W'.heap[D]? = W.heap[D]? ∧ Ix (.goto t) xs W'
  | .panic _, _, _ => False
  | .outgrown, _, _ => False

theorem Keep.putObj {S : List Nat} {a w : World} (h : Keep S a w) {l : Nat} (hp : l ∈ S ∨ a.heap.size ≤ l) (o : Obj) : Keep S a (w.putObj l o) :=
  ⟨h.os, h.tape, h.output, by simpa using h.size, fun k hk hs => by
    rw [World.putObj_heap_other (by rintro rfl; rcases hp with hp | hp; exact hs hp; omega)]
    exact h.block k hk hs⟩

/-- An iterator's contract: over whatever invariant J of the caller's that new blocks do not disturb, it gives xs in order, or is stopped. -/
def Iter {α : Type} (P : Program) (gf : Nat) (lb : Array Value) (Enc : α → Array Value → World → Prop) (xs : List α) (Rd : World → Prop) : Prop :=
  ∀ (n l : Nat) (J Jx : List α → World → Prop), (∀ pre W, J pre W → Rd W) → (∀ pre W W', Keep [] W W' → J pre W → J pre W') → (∀ pre W W', Keep [] W W' → Jx pre W → Jx pre W') →
    (∀ pre x args W, pre ++ [x] <+: xs → J pre W → Enc x args W → YieldAt Fence.wide (n - 1) P l args W fun e W' =>
      (e = .returned (.bool true) ∧ J (pre ++ [x]) W') ∨ (e = .returned (.bool false) ∧ Jx (pre ++ [x]) W')) →
    ∀ W, J [] W → CallsIn Fence.wide n P gf (#[.func (.yield l) #[] #[]] ++ lb) W fun e W' => (∃ v, e = .returned v) ∧ (J xs W' ∨ ∃ pre, pre <+: xs ∧ Jx pre W')

theorem wp_range {α : Type} {n : Nat} {P : Program} {g : Operand} {ps : Array Tmp} {assign body : Code} {Q : Exit → Act → World → Prop} {a : Act} {w : World}
    {gf : Nat} {lb : Array Value} (hg : a.eval g = .func (.func gf) #[] lb) (eg : ∀ args w, (callFunc gf args).run P w = .ok (.enter gf args) w)
    {Enc : α → Array Value → World → Prop} {xs : List α} {Rd : World → Prop} (hiter : Iter P gf lb Enc xs Rd)
    (hEnc : ∀ x args W W', Keep [w.heap.size + 1] W W' → Enc x args W → Enc x args W') (hps : ∀ x args W, Enc x args W → args.size = ps.size)
    (I : List α → World → Prop) (Ix : Code → List α → World → Prop)
    (hRd : ∀ pre W, I pre W → Rd W)
    (hI : ∀ pre W W', Keep [w.heap.size + 1] W W' → I pre W → I pre W')
    (hIx : ∀ c pre W W', Keep [w.heap.size + 1] W W' → Ix c pre W → Ix c pre W')
    (h0 : ∀ W, Keep [] w W → I [] W)
    (a₁ : Array Value → Act)
    (hassign : ∀ (x : α) (args : Array Value) (W : World) (K : Act → World → Prop), Enc x args W → K (a₁ args) W →
      assign.wpIn (Fence.wide.inRound (w.heap.size + 1)) (n - 1 - 1) P (Exit.then K (fun _ _ _ => False)) { tmps := (ps.zip args).foldl (fun t (p, v) => t.setIfInBounds p v) a.tmps, defers := [] } W)
    (hbody : ∀ (pre : List α) (x : α) (args : Array Value) (W : World), pre ++ [x] <+: xs → I pre W → Enc x args W → (∃ r, W.heap[w.heap.size + 1]? = some (.loop r)) → W.heap[w.heap.size]? = some (.deferred (some [])) →
      body.wpIn (Fence.wide.inRound (w.heap.size + 1)) (n - 1 - 1) P (roundEnd w.heap.size I Ix (pre ++ [x]) W) (a₁ args) W)
    (hdone : ∀ (W : World), I xs W → W.heap[w.heap.size]? = some (.deferred (some [])) → Q .normal { a with defers := { target := .collected w.heap.size, args := #[] } :: a.defers } W)
    (hstop : ∀ (c : Code) (pre : List α) (W : World), pre <+: xs → Ix c pre W → W.heap[w.heap.size]? = some (.deferred (some [])) → c.wp P Q { a with defers := { target := .collected w.heap.size, args := #[] } :: a.defers } W) :
    (Code.rangeFunc g ps assign body).wp P Q a w := by
  refine (wpIn_wide (n := n)).1 (wpIn_rangeFunc ?_)
  intro fn _
  obtain ⟨rec, hrec⟩ : ∃ rec : LoopState → Option Code → Loop, rec = fun st pe => { state := st, pending := pe, fn, tmps := a.tmps, params := ps, assign, body, defers := w.heap.size } := ⟨_, rfl⟩
  obtain ⟨W1, hW1⟩ : ∃ W1, (w.alloc (.deferred (some []))).alloc (.loop (rec .ready none)) = W1 := ⟨_, rfl⟩
  have hL1 : W1.heap[w.heap.size + 1]? = some (.loop (rec .ready none)) := by
    rw [← hW1]; have := World.alloc_heap_new (w.alloc (.deferred (some []))) (.loop (rec .ready none)); rwa [World.size_alloc] at this
  have hK1 : W1.heap[w.heap.size]? = some (.deferred (some [])) := by
    rw [← hW1]; exact (Below.heap_alloc _ _ _ (by simp)).trans (World.alloc_heap_new w _)
  have hI1 : I [] W1 := h0 W1 (by rw [← hW1]; exact ((Keep.refl [] w).alloc _).alloc _)
  refine ⟨w.heap.size + 1, [{ target := .collected w.heap.size, args := #[] }], W1, { target := .fn (.func gf) lb, args := #[.func (.yield (w.heap.size + 1)) #[] #[]] }, W1, gf,
    #[.func (.yield (w.heap.size + 1)) #[] #[]] ++ lb, W1, ?_, ?_, ?_, ?_, fun h => by simp [Fence.wide] at h, ?_⟩
  · rw [← hW1, hrec]; exact run_enterLoop_outer _ _ _ _ _
  · simp only [resolve, hg]
    simp [go_sem]
  · intro f' _; trivial
  · simp [invoke, go_sem, eg]
  · refine (hiter (n - 1) (w.heap.size + 1)
      (fun pre W => I pre W ∧ W.heap[w.heap.size + 1]? = some (.loop (rec .ready none)) ∧ W.heap[w.heap.size]? = some (.deferred (some [])))
      (fun pre W => ∃ c, Ix c pre W ∧ W.heap[w.heap.size + 1]? = some (.loop (rec .done (some c))) ∧ W.heap[w.heap.size]? = some (.deferred (some [])))
      (fun pre W h => hRd pre W h.1)
      (fun pre W W' k h => ⟨hI pre W W' (k.mono (by simp)) h.1, k.blk (by simp) h.2.1, k.blk (by simp) h.2.2⟩)
      (fun pre W W' k h => by
        obtain ⟨c, hc, hl, hk⟩ := h
        exact ⟨c, hIx c pre W W' (k.mono (by simp)) hc, k.blk (by simp) hl, k.blk (by simp) hk⟩)
      ?_ W1 ⟨hI1, hL1, hK1⟩).mono ?_
    · rintro pre x args W hpre ⟨hi, hl, hk⟩ henc
      have hlt : w.heap.size + 1 < W.heap.size := (Array.getElem?_eq_some_iff.1 hl).1
      have hy := run_yield (P := P) (args := args) hl (by rw [hrec]; exact hps x args W henc)
      rw [hrec] at hy
      refine ⟨fn, _, assign, body, hy, roundIn_of_wpIn trivial (hassign x args W _ henc ⟨_, run_beginRound hl (by rw [hrec]), ?_⟩)⟩
      have hl2 : (W.putObj (w.heap.size + 1) (.loop { rec .ready none with state := .busy })).heap[w.heap.size + 1]? = some (.loop { rec .ready none with state := .busy }) := World.putObj_heap_same hlt
      have hk2 : (W.putObj (w.heap.size + 1) (.loop { rec .ready none with state := .busy })).heap[w.heap.size]? = some (.deferred (some [])) := (World.putObj_heap_other (by omega)).trans hk
      have hkeep2 : Keep [w.heap.size + 1] W (W.putObj (w.heap.size + 1) (.loop { rec .ready none with state := .busy })) := (Keep.refl _ W).putObj (.inl (by simp)) _
      refine wpIn_mono (hbody pre x args _ hpre (hI _ _ _ hkeep2 hi) (hEnc _ _ _ _ hkeep2 henc) ⟨_, hl2⟩ hk2) ?_
      have fin : ∀ (jump : Option Code) (W3 : World), W3.heap[w.heap.size + 1]? = (W.putObj (w.heap.size + 1) (.loop { rec .ready none with state := .busy })).heap[w.heap.size + 1]? →
          W3.heap[w.heap.size]? = (W.putObj (w.heap.size + 1) (.loop { rec .ready none with state := .busy })).heap[w.heap.size]? →
          (Instr.endRound (w.heap.size + 1) jump).run P W3 = .ok (.bool jump.isNone) (W3.putObj (w.heap.size + 1) (.loop (rec (if jump.isNone then .ready else .done) jump))) ∧
          Keep [w.heap.size + 1] W3 (W3.putObj (w.heap.size + 1) (.loop (rec (if jump.isNone then .ready else .done) jump))) ∧
          (W3.putObj (w.heap.size + 1) (.loop (rec (if jump.isNone then .ready else .done) jump))).heap[w.heap.size + 1]? = some (.loop (rec (if jump.isNone then .ready else .done) jump)) ∧
          (W3.putObj (w.heap.size + 1) (.loop (rec (if jump.isNone then .ready else .done) jump))).heap[w.heap.size]? = some (.deferred (some [])) := fun jump W3 e1 e2 => by
        have hl3 := e1.trans hl2
        have hk3 := e2.trans hk2
        have := run_endRound (P := P) jump hl3
        rw [hrec] at this ⊢
        exact ⟨this, (Keep.refl _ W3).putObj (.inl (by simp)) _, World.putObj_heap_same (Array.getElem?_eq_some_iff.1 hl3).1, (World.putObj_heap_other (by omega)).trans hk3⟩
      rintro e a3 W3 hp
      cases e with
      | normal =>
        obtain ⟨e1, e2, hi3⟩ := hp
        obtain ⟨hr, hl3, hl4, hk4⟩ := fin none W3 e1 e2
        exact ⟨_, _, hr, .inl ⟨rfl, hI _ _ _ hl3 hi3, hl4, hk4⟩⟩
      | ret =>
        obtain ⟨e1, e2, hi3⟩ := hp
        obtain ⟨hr, hl3, hl4, hk4⟩ := fin (some .ret) W3 e1 e2
        exact ⟨_, _, hr, .inr ⟨rfl, .ret, hIx _ _ _ _ hl3 hi3, hl4, hk4⟩⟩
      | exit id =>
        obtain ⟨e1, e2, hi3⟩ := hp
        obtain ⟨hr, hl3, hl4, hk4⟩ := fin (some (.exit id)) W3 e1 e2
        exact ⟨_, _, hr, .inr ⟨rfl, .exit id, hIx _ _ _ _ hl3 hi3, hl4, hk4⟩⟩
      | goto t =>
        obtain ⟨e1, e2, hi3⟩ := hp
        obtain ⟨hr, hl3, hl4, hk4⟩ := fin (some (.goto t)) W3 e1 e2
        exact ⟨_, _, hr, .inr ⟨rfl, .goto t, hIx _ _ _ _ hl3 hi3, hl4, hk4⟩⟩
      | panic ch => exact hp.elim
      | outgrown => exact hp.elim
    · rintro e W2 ⟨⟨v, rfl⟩, (⟨hi, hl, hk⟩ | ⟨pre, hpre, c, hi, hl, hk⟩)⟩
      · have hkeep2 : Keep [w.heap.size + 1] W2 (W2.putObj (w.heap.size + 1) (.loop (rec .exhausted none))) := (Keep.refl _ W2).putObj (.inl (by simp)) _
        refine ⟨none, W2.putObj (w.heap.size + 1) (.loop (rec .exhausted none)), by have := run_endLoop (P := P) hl (by rw [hrec]; simp); rw [hrec] at this ⊢; exact this, hdone _ (hI _ _ _ hkeep2 hi) ((World.putObj_heap_other (by omega)).trans hk)⟩
      · have hkeep2 : Keep [w.heap.size + 1] W2 (W2.putObj (w.heap.size + 1) (.loop (rec .exhausted (some c)))) := (Keep.refl _ W2).putObj (.inl (by simp)) _
        refine ⟨some c, W2.putObj (w.heap.size + 1) (.loop (rec .exhausted (some c))), by have := run_endLoop (P := P) hl (by rw [hrec]; simp); rw [hrec] at this ⊢; exact this, wpIn_wide.2 (hstop c pre _ hpre (hIx _ _ _ _ hkeep2 hi) ((World.putObj_heap_other (by omega)).trans hk))⟩

/-- A function that holds one such loop leaves: the mark is taken. -/
theorem leavesM_one {n : Nat} {P : Program} {fn : Func} {tmps : Array Value} {R : Ending → World → Prop} {D : Nat} {w : World} {v : Value} (hD : w.heap[D]? = some (.deferred (some [])))
    (hr : (results fn tmps).run P (w.putObj D (.deferred none)) = .ok v (w.putObj D (.deferred none))) (hR : R (.returned v) (w.putObj D (.deferred none))) :
    LeavesInM Fence.wide n P fn tmps R [{ target := .collected D, args := #[] }] .returning w :=
  ⟨by simp, .inl ⟨D, _, rfl, run_takeDeferred hD, v, hr, hR⟩⟩
theorem calls_of_marks {P : Program} {f : FuncId} {fn : Func} {c : Code} {args : Array Value} {w : World} {R : Ending → World → Prop}
    (hf : P.funcs[f]? = some fn) (hb : fn.body = some c)
    (h : c.wp P (bodyPostM Fence.wide 3 P fn R) { tmps := args ++ Array.replicate (fn.ntmps - args.size) undef, defers := [] } w) : Calls P f args w R :=
  (callsIn_wide (n := 3)).1 (callsIn_of_wp_marks hf hb trivial (wpIn_wide.2 h))
theorem Keep.ext {S : List Nat} {a b c : World} (h : Keep [] a b) (k : Keep S b c) (hs : ∀ k, k ∈ S → a.heap.size ≤ k) : Keep [] a c :=
  ((h.mono (by simp)).trans k).fresh (fun k hk => .inr (hs k hk))

/-! A region that draws its order, in a round: its operations but the last ones read alone. -/
section
variable {P : Program} {ops : Array Oper} {w : World}
theorem upon_in {l n : Nat} {o : Oper} {a : Act} {next : Act → World → Prop} {Q : Exit → Act → World → Prop} {r : Result Next} (h : o.upon P a next Q r) : o.uponIn (Fence.wide.inRound l) n P a next Q r := by
  cases r with
  | ok x w' =>
    cases x <;> simp only [Oper.upon] at h <;> simp only [Oper.uponIn]
    case enter f args =>
      refine ⟨fun h => by simp [Fence.wide, Fence.inRound] at h, CallsIn.inRound l (callsIn_wide.2 (h.mono ?_))⟩
      intro e w'' he
      cases e <;> exact he
    case row row args =>
      refine ⟨fun h => by simp [Fence.wide, Fence.inRound] at h, fun c cs _ => ?_⟩
      obtain ⟨v, w'', r, s⟩ := h c cs
      exact ⟨v, w'', r, stepsIn_wide.2 s⟩
    all_goals exact h
  | halt x w' => cases x <;> simp only [Oper.upon] at h <;> simp only [Oper.uponIn] <;> exact h

def Oper.isDefer (o : Oper) : Bool := match o.op with | .defer _ => true | _ => false
theorem wp_in {l n : Nat} {o : Oper} {a : Act} {next : Act → World → Prop} {Q : Exit → Act → World → Prop} (hd : Oper.isDefer o = false) (h : o.wp P a w next Q) : o.wpIn (Fence.wide.inRound l) n P a w next Q := by
  refine ⟨fun f _ => trivial, ?_⟩
  rw [Oper.semAt_eq _ _ _ (fun c e => by simp [Oper.isDefer, e] at hd)]
  exact upon_in h

theorem wpOp_in {l n i : Nat} {K K' : Act → World → Prop} {a : Act} {Q : Exit → Act → World → Prop} (hQ : ¬ LetsOut Q) (hd : ∀ o, ops[i]? = some o → Oper.isDefer o = false)
    (hK : ∀ a w, K a w → K' a w) (h : wpOp P ops Q i K a w) : wpOpIn (Fence.wide.inRound l) n P ops Q i K' a w := by
  unfold wpOp at h
  unfold wpOpIn
  split
  · rename_i ho; simp only [ho] at h; exact hK _ _ h
  · rename_i o ho
    simp only [ho] at h
    split
    · rename_i hw
      simp only [hw, if_true] at h
      rcases h with h | ⟨_, h⟩
      · exact wp_in (hd o ho) (Oper.wp_mono hK h)
      · exact (hQ h).elim
    · rename_i hw; simp only [hw] at h; exact ⟨fun _ _ => trivial, hK _ _ h⟩

theorem wpAny_in {l n : Nat} {md : Region.Mode} {Q : Exit → Act → World → Prop} (hQ : ¬ LetsOut Q) (hd : ∀ (i : Nat) (o : Oper), ops[i]? = some o → Oper.isDefer o = false) : ∀ (fuel : Nat) (listed : Array Bool) (a : Act) (w : World),
    wpAny P md ops Q fuel listed a w → wpAnyIn (Fence.wide.inRound l) n P md ops Q fuel listed a w
  | 0, _, _, _, h => h
  | fuel + 1, _, _, _, h => ⟨h.1, fun i hi => wpOp_in hQ (hd i) (fun a w => wpAny_in hQ hd fuel _ a w) (h.2 i hi)⟩

theorem noDefer_spec (h : ops.all (fun o => !Oper.isDefer o) = true) : ∀ (i : Nat) (o : Oper), ops[i]? = some o → Oper.isDefer o = false := by
  intro i o ho
  obtain ⟨hi, rfl⟩ := Array.getElem?_eq_some_iff.1 ho
  have := Array.all_eq_true.1 h i hi
  simpa using this

/-- In a round: the first k operations read alone, the rest stand in one order. -/
theorem wpIn_region_tail {l n id : Nat} {Q : Exit → Act → World → Prop} {a : Act} {os : List Oper} (k : Nat) (hm : P.follows .mixedOrders = true) (hQ : ¬ LetsOut Q)
    (hd : os.toArray.all (fun o => !Oper.isDefer o) = true) (hB : Region.lexTailB .any os.toArray k = true)
    (h : wpStill P os.toArray w.drew (fun a' => wpList P os.toArray Q (os.drop k) a' w.drew) (os.take k) a) : (Code.region id os.toArray true).wpIn (Fence.wide.inRound l) n P Q a w := by
  simp only [Region.lexTailB, Bool.and_eq_true, decide_eq_true_eq] at hB
  obtain ⟨⟨⟨⟨hsel, hn⟩, hs⟩, hc⟩, hlex⟩ := hB
  have hn' : k < os.length := by simpa using hn
  have htl : (os.take k).length = k := by simp; omega
  have hdl : (os.drop k).length = os.toArray.size - k := by simp
  have inv0 : HeadInv .any os.toArray k (Array.replicate os.toArray.size false) :=
    ⟨by simp, fun j oj _ hl => (by rw [getD_replicate_false] at hl; cases hl), fun t _ ht => getD_in (by simpa using ht) (getD_replicate_false _ _)⟩
  have H := wpAnyL_lex (md := .any) (g := os.toArray.size - k) hsel hs hc hn (os.take k) 0 _ a (fun j hj => by
    have hj' : j < k := by rw [htl] at hj; exact hj
    simp [hj']) (by simpa using htl) inv0 (by rw [htl]; exact hlex) h
  refine wpIn_region_any hm (wpAny_in hQ (noDefer_spec hd) _ _ _ _ ?_)
  have := wpAny_of_head (Q' := Q) (g := os.toArray.size - k) (fun listed a' hL => by
    have := wpAny_of_seq (md := .any) (Q' := Q) (os.drop k) k listed a' w.drew (fun j => by simp [List.getElem?_drop]) (by rw [hdl]; exact hL.1) hL.2
    rwa [hdl] at this) _ _ _ H
  rw [htl, show k + (os.toArray.size - k) = os.toArray.size by omega] at this
  exact this

/-- In a round: all operations read alone. -/
theorem wpIn_region_still {l n id : Nat} {Q : Exit → Act → World → Prop} {a : Act} {os : List Oper} (hm : P.follows .mixedOrders = true) (hQ : ¬ LetsOut Q)
    (hd : os.toArray.all (fun o => !Oper.isDefer o) = true) (hB : Region.lexB .any os.toArray = true)
    (h : wpStill P os.toArray w.drew (fun a' => Q .normal a' w.drew) os a) : (Code.region id os.toArray true).wpIn (Fence.wide.inRound l) n P Q a w := by
  simp only [Region.lexB, Bool.and_eq_true] at hB
  refine wpIn_region_any hm (wpAny_in hQ (noDefer_spec hd) _ _ _ _ (wpAny_of_still (Q := fun a' => Q .normal a' w.drew) (fun _ h => h) _ _ _ ?_))
  have := wpAnyS_lex (md := .any) hB.1 os.toArray.toList 0 (Array.replicate os.toArray.size false) a (by simp) (by simpa using hB.2) (by simpa using h)
  simpa using this
end
end Sg
