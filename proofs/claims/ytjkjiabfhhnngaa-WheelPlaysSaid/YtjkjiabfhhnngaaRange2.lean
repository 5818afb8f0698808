import Derived.Test.YtjkjiabfhhnngaaRange
/-! A range over a function whose iterator writes memory of its own (blocks T). -/
namespace Sg
open Go Go.RowKit

/-- How the body of a round may be left: the loop's two blocks and the iterator's lie as they lay. -/
def roundEnd2 {α : Type} (D : Nat) (T : List Nat) (I : List α → World → Prop) (Ix : Code → List α → World → Prop) (xs : List α) (W : World) : Exit → Act → World → Prop
  | .normal, _, W' => W'.heap[D + 1]? = W.heap[D + 1]? ∧ W'.heap[D]? = W.heap[D]? ∧ (∀ b ∈ T, W'.heap[b]? = W.heap[b]?) ∧ I xs W'
  | .ret, _, W' => W'.heap[D + 1]? = W.heap[D + 1]? ∧ W'.heap[D]? = W.heap[D]? ∧ (∀ b ∈ T, W'.heap[b]? = W.heap[b]?) ∧ Ix .ret xs W'
  | .exit id, _, W' => W'.heap[D + 1]? = W.heap[D + 1]? ∧ W'.heap[D]? = W.heap[D]? ∧ (∀ b ∈ T, W'.heap[b]? = W.heap[b]?) ∧ Ix (.exit id) xs W'
  | .goto t, _, W' => W'.heap[D + 1]? = W.heap[D + 1]? ∧ W'.heap[D]? = W.heap[D]? ∧ (∀ b ∈ T, W'.heap[b]? = W.heap[b]?) ∧ Ix (.goto t) xs W'
  | .panic _, _, _ => False
  | .outgrown, _, _ => False

/-- An iterator's contract: over whatever invariant J of the caller's that new blocks and the iterator's own do not disturb, it gives xs in order, or is stopped. -/
def Iter2 {α : Type} (P : Program) (gf : Nat) (lb : Array Value) (Enc : α → Array Value → World → Prop) (xs : List α) (Rd St : World → Prop) (T : List Nat) : Prop :=
  ∀ (n l : Nat) (J Jx : List α → World → Prop), (∀ pre W, J pre W → Rd W) → (∀ pre W W', Keep T W W' → J pre W → J pre W') → (∀ pre W W', Keep T W W' → Jx pre W → Jx pre W') →
    (∀ pre x args W, pre ++ [x] <+: xs → J pre W → Enc x args W → YieldAt Fence.wide (n - 1) P l args W fun e W' => (∀ b ∈ T, W'.heap[b]? = W.heap[b]?) ∧
      ((e = .returned (.bool true) ∧ J (pre ++ [x]) W') ∨ (e = .returned (.bool false) ∧ Jx (pre ++ [x]) W'))) →
    ∀ W, J [] W → St W → CallsIn Fence.wide n P gf (#[.func (.yield l) #[] #[]] ++ lb) W fun e W' => (∃ v, e = .returned v) ∧ (J xs W' ∨ ∃ pre, pre <+: xs ∧ Jx pre W')

theorem wp_range2 {α : Type} {n : Nat} {P : Program} {g : Operand} {ps : Array Tmp} {assign body : Code} {Q : Exit → Act → World → Prop} {a : Act} {w : World}
    {gf : Nat} {lb : Array Value} (hg : a.eval g = .func (.func gf) #[] lb) (eg : ∀ args w, (callFunc gf args).run P w = .ok (.enter gf args) w)
    {Enc : α → Array Value → World → Prop} {xs : List α} {Rd St : World → Prop} {T : List Nat} (hT : ∀ b ∈ T, b < w.heap.size) (hiter : Iter2 P gf lb Enc xs Rd St T)
    (hEnc : ∀ x args W W', Keep [w.heap.size + 1] W W' → Enc x args W → Enc x args W') (hps : ∀ x args W, Enc x args W → args.size = ps.size)
    (I : List α → World → Prop) (Ix : Code → List α → World → Prop)
    (hRd : ∀ pre W, I pre W → w.heap.size + 1 < W.heap.size → Rd W) (hSt : ∀ W, Keep [] w W → St W)
    (hI : ∀ pre W W', Keep ((w.heap.size + 1) :: T) W W' → I pre W → I pre W')
    (hIx : ∀ c pre W W', Keep ((w.heap.size + 1) :: T) W W' → Ix c pre W → Ix c pre W')
    (h0 : ∀ W, Keep [] w W → I [] W)
    (a₁ : Array Value → Act)
    (hassign : ∀ (x : α) (args : Array Value) (W : World) (K : Act → World → Prop), Enc x args W → K (a₁ args) W →
      assign.wpIn (Fence.wide.inRound (w.heap.size + 1)) (n - 1 - 1) P (Exit.then K (fun _ _ _ => False)) { tmps := (ps.zip args).foldl (fun t (p, v) => t.setIfInBounds p v) a.tmps, defers := [] } W)
    (hbody : ∀ (pre : List α) (x : α) (args : Array Value) (W : World), pre ++ [x] <+: xs → I pre W → Enc x args W → (∃ r, W.heap[w.heap.size + 1]? = some (.loop r)) → W.heap[w.heap.size]? = some (.deferred (some [])) →
      body.wpIn (Fence.wide.inRound (w.heap.size + 1)) (n - 1 - 1) P (roundEnd2 w.heap.size T I Ix (pre ++ [x]) W) (a₁ args) W)
    (hdone : ∀ (W : World), I xs W → W.heap[w.heap.size]? = some (.deferred (some [])) → Q .normal { a with defers := { target := .collected w.heap.size, args := #[] } :: a.defers } W)
    (hstop : ∀ (c : Code) (pre : List α) (W : World), pre <+: xs → Ix c pre W → W.heap[w.heap.size]? = some (.deferred (some [])) → c.wp P Q { a with defers := { target := .collected w.heap.size, args := #[] } :: a.defers } W) :
    (Code.rangeFunc g ps assign body).wp P Q a w := by
  refine (wpIn_wide (n := n)).1 (wpIn_rangeFunc ?_)
  intro fn _
  have hT1 : w.heap.size + 1 ∉ T := fun h => by have := hT _ h; omega
  have hT0 : w.heap.size ∉ T := fun h => by have := hT _ h; omega
  obtain ⟨rec, hrec⟩ : ∃ rec : LoopState → Option Code → Loop, rec = fun st pe => { state := st, pending := pe, fn, tmps := a.tmps, params := ps, assign, body, defers := w.heap.size } := ⟨_, rfl⟩
  obtain ⟨W1, hW1⟩ : ∃ W1, (w.alloc (.deferred (some []))).alloc (.loop (rec .ready none)) = W1 := ⟨_, rfl⟩
  have hL1 : W1.heap[w.heap.size + 1]? = some (.loop (rec .ready none)) := by
    rw [← hW1]; have := World.alloc_heap_new (w.alloc (.deferred (some []))) (.loop (rec .ready none)); rwa [World.size_alloc] at this
  have hK1 : W1.heap[w.heap.size]? = some (.deferred (some [])) := by
    rw [← hW1]; exact (Below.heap_alloc _ _ _ (by simp)).trans (World.alloc_heap_new w _)
  have hI1 : I [] W1 := h0 W1 (by rw [← hW1]; exact ((Keep.refl [] w).alloc _).alloc _)
  refine ⟨w.heap.size + 1, [{ target := .collected w.heap.size, args := #[] }], W1, { target := .fn (.func gf) lb, args := #[.func (.yield (w.heap.size + 1)) #[] #[]] }, W1, gf,
    #[.func (.yield (w.heap.size + 1)) #[] #[]] ++ lb, W1, ?_, ?_, ?_, ?_, fun h => by simp [Fence.wide] at h, ?_⟩
  · rw [← hW1, hrec]; exact run_enterLoop_outer _ _ _ _ _
  · simp only [resolve, hg]
    simp [go_sem]
  · intro f' _; trivial
  · simp [invoke, go_sem, eg]
  · refine (hiter (n - 1) (w.heap.size + 1)
      (fun pre W => I pre W ∧ W.heap[w.heap.size + 1]? = some (.loop (rec .ready none)) ∧ W.heap[w.heap.size]? = some (.deferred (some [])))
      (fun pre W => ∃ c, Ix c pre W ∧ W.heap[w.heap.size + 1]? = some (.loop (rec .done (some c))) ∧ W.heap[w.heap.size]? = some (.deferred (some [])))
      (fun pre W h => hRd pre W h.1 (Array.getElem?_eq_some_iff.1 h.2.1).1)
      (fun pre W W' k h => ⟨hI pre W W' (k.mono (fun b hb => List.mem_cons_of_mem _ hb)) h.1, k.blk hT1 h.2.1, k.blk hT0 h.2.2⟩)
      (fun pre W W' k h => by
        obtain ⟨c, hc, hl, hk⟩ := h
        exact ⟨c, hIx c pre W W' (k.mono (fun b hb => List.mem_cons_of_mem _ hb)) hc, k.blk hT1 hl, k.blk hT0 hk⟩)
      ?_ W1 ⟨hI1, hL1, hK1⟩ (hSt W1 (by rw [← hW1]; exact ((Keep.refl [] w).alloc _).alloc _))).mono ?_
    · rintro pre x args W hpre ⟨hi, hl, hk⟩ henc
      have hlt : w.heap.size + 1 < W.heap.size := (Array.getElem?_eq_some_iff.1 hl).1
      have hy := run_yield (P := P) (args := args) hl (by rw [hrec]; exact hps x args W henc)
      rw [hrec] at hy
      refine ⟨fn, _, assign, body, hy, roundIn_of_wpIn trivial (hassign x args W _ henc ⟨_, run_beginRound hl (by rw [hrec]), ?_⟩)⟩
      have hl2 : (W.putObj (w.heap.size + 1) (.loop { rec .ready none with state := .busy })).heap[w.heap.size + 1]? = some (.loop { rec .ready none with state := .busy }) := World.putObj_heap_same hlt
      have hk2 : (W.putObj (w.heap.size + 1) (.loop { rec .ready none with state := .busy })).heap[w.heap.size]? = some (.deferred (some [])) := (World.putObj_heap_other (by omega)).trans hk
      have hkeep2 : Keep [w.heap.size + 1] W (W.putObj (w.heap.size + 1) (.loop { rec .ready none with state := .busy })) := (Keep.refl _ W).putObj (.inl (by simp)) _
      refine wpIn_mono (hbody pre x args _ hpre (hI _ _ _ (hkeep2.mono (by simp)) hi) (hEnc _ _ _ _ hkeep2 henc) ⟨_, hl2⟩ hk2) ?_
      have fin : ∀ (jump : Option Code) (W3 : World), W3.heap[w.heap.size + 1]? = (W.putObj (w.heap.size + 1) (.loop { rec .ready none with state := .busy })).heap[w.heap.size + 1]? →
          W3.heap[w.heap.size]? = (W.putObj (w.heap.size + 1) (.loop { rec .ready none with state := .busy })).heap[w.heap.size]? →
          (Instr.endRound (w.heap.size + 1) jump).run P W3 = .ok (.bool jump.isNone) (W3.putObj (w.heap.size + 1) (.loop (rec (if jump.isNone then .ready else .done) jump))) ∧
          Keep [w.heap.size + 1] W3 (W3.putObj (w.heap.size + 1) (.loop (rec (if jump.isNone then .ready else .done) jump))) ∧
          (W3.putObj (w.heap.size + 1) (.loop (rec (if jump.isNone then .ready else .done) jump))).heap[w.heap.size + 1]? = some (.loop (rec (if jump.isNone then .ready else .done) jump)) ∧
          (W3.putObj (w.heap.size + 1) (.loop (rec (if jump.isNone then .ready else .done) jump))).heap[w.heap.size]? = some (.deferred (some [])) := fun jump W3 e1 e2 => by
        have hl3 := e1.trans hl2
        have hk3 := e2.trans hk2
        have := run_endRound (P := P) jump hl3
        rw [hrec] at this ⊢
        exact ⟨this, (Keep.refl _ W3).putObj (.inl (by simp)) _, World.putObj_heap_same (Array.getElem?_eq_some_iff.1 hl3).1, (World.putObj_heap_other (by omega)).trans hk3⟩
      have back : ∀ (W3 : World) (o : Obj), (∀ b ∈ T, W3.heap[b]? = (W.putObj (w.heap.size + 1) (.loop { rec .ready none with state := .busy })).heap[b]?) → ∀ b ∈ T, (W3.putObj (w.heap.size + 1) o).heap[b]? = W.heap[b]? := fun W3 o h b hb => by
        have hne : b ≠ w.heap.size + 1 := fun e => hT1 (by rw [← e]; exact hb)
        rw [World.putObj_heap_other hne, h b hb, World.putObj_heap_other hne]
      rintro e a3 W3 hp
      cases e with
      | normal =>
        obtain ⟨e1, e2, e4, hi3⟩ := hp
        obtain ⟨hr, hl3, hl4, hk4⟩ := fin none W3 e1 e2
        exact ⟨_, _, hr, back _ _ e4, .inl ⟨rfl, hI _ _ _ (hl3.mono (by simp)) hi3, hl4, hk4⟩⟩
      | ret =>
        obtain ⟨e1, e2, e4, hi3⟩ := hp
        obtain ⟨hr, hl3, hl4, hk4⟩ := fin (some .ret) W3 e1 e2
        exact ⟨_, _, hr, back _ _ e4, .inr ⟨rfl, .ret, hIx _ _ _ _ (hl3.mono (by simp)) hi3, hl4, hk4⟩⟩
      | exit id =>
        obtain ⟨e1, e2, e4, hi3⟩ := hp
        obtain ⟨hr, hl3, hl4, hk4⟩ := fin (some (.exit id)) W3 e1 e2
        exact ⟨_, _, hr, back _ _ e4, .inr ⟨rfl, .exit id, hIx _ _ _ _ (hl3.mono (by simp)) hi3, hl4, hk4⟩⟩
      | goto t =>
        obtain ⟨e1, e2, e4, hi3⟩ := hp
        obtain ⟨hr, hl3, hl4, hk4⟩ := fin (some (.goto t)) W3 e1 e2
        exact ⟨_, _, hr, back _ _ e4, .inr ⟨rfl, .goto t, hIx _ _ _ _ (hl3.mono (by simp)) hi3, hl4, hk4⟩⟩
      | panic ch => exact hp.elim
      | outgrown => exact hp.elim
    · rintro e W2 ⟨⟨v, rfl⟩, (⟨hi, hl, hk⟩ | ⟨pre, hpre, c, hi, hl, hk⟩)⟩
      · have hkeep2 : Keep [w.heap.size + 1] W2 (W2.putObj (w.heap.size + 1) (.loop (rec .exhausted none))) := (Keep.refl _ W2).putObj (.inl (by simp)) _
        refine ⟨none, W2.putObj (w.heap.size + 1) (.loop (rec .exhausted none)), by have := run_endLoop (P := P) hl (by rw [hrec]; simp); rw [hrec] at this ⊢; exact this, hdone _ (hI _ _ _ (hkeep2.mono (by simp)) hi) ((World.putObj_heap_other (by omega)).trans hk)⟩
      · have hkeep2 : Keep [w.heap.size + 1] W2 (W2.putObj (w.heap.size + 1) (.loop (rec .exhausted (some c)))) := (Keep.refl _ W2).putObj (.inl (by simp)) _
        refine ⟨some c, W2.putObj (w.heap.size + 1) (.loop (rec .exhausted (some c))), by have := run_endLoop (P := P) hl (by rw [hrec]; simp); rw [hrec] at this ⊢; exact this, wpIn_wide.2 (hstop c pre _ hpre (hIx _ _ _ _ (hkeep2.mono (by simp)) hi) ((World.putObj_heap_other (by omega)).trans hk))⟩

/-- .. where the round's head lays a block of its own. -/
theorem wp_range3 {α : Type} {n : Nat} {P : Program} {g : Operand} {ps : Array Tmp} {assign body : Code} {Q : Exit → Act → World → Prop} {a : Act} {w : World}
    {gf : Nat} {lb : Array Value} (hg : a.eval g = .func (.func gf) #[] lb) (eg : ∀ args w, (callFunc gf args).run P w = .ok (.enter gf args) w)
    {Enc : α → Array Value → World → Prop} {xs : List α} {Rd St : World → Prop} {T : List Nat} (hT : ∀ b ∈ T, b < w.heap.size) (hiter : Iter2 P gf lb Enc xs Rd St T)
    (hEnc : ∀ x args W W', Keep [w.heap.size + 1] W W' → Enc x args W → Enc x args W') (hps : ∀ x args W, Enc x args W → args.size = ps.size)
    (I : List α → World → Prop) (Ix : Code → List α → World → Prop)
    (hRd : ∀ pre W, I pre W → w.heap.size + 1 < W.heap.size → Rd W) (hSt : ∀ W, Keep [] w W → St W)
    (hI : ∀ pre W W', Keep ((w.heap.size + 1) :: T) W W' → I pre W → I pre W')
    (hIx : ∀ c pre W W', Keep ((w.heap.size + 1) :: T) W W' → Ix c pre W → Ix c pre W')
    (h0 : ∀ W, Keep [] w W → I [] W)
    (a₁ : Array Value → Nat → Act) (As : α → Array Value → Nat → World → Prop) (hAs : ∀ x args B0 W W', w.heap.size + 1 < B0 → Keep [w.heap.size + 1] W W' → As x args B0 W → As x args B0 W')
    (hassign : ∀ (x : α) (args : Array Value) (W : World) (K : Act → World → Prop), Enc x args W → w.heap.size + 1 < W.heap.size → (∀ W', Keep [] W W' → As x args W.heap.size W' → K (a₁ args W.heap.size) W') →
      assign.wpIn (Fence.wide.inRound (w.heap.size + 1)) (n - 1 - 1) P (Exit.then K (fun _ _ _ => False)) { tmps := (ps.zip args).foldl (fun t (p, v) => t.setIfInBounds p v) a.tmps, defers := [] } W)
    (hbody : ∀ (pre : List α) (x : α) (args : Array Value) (B0 : Nat) (W : World), pre ++ [x] <+: xs → I pre W → Enc x args W → As x args B0 W → w.heap.size + 1 < B0 → (∃ r, W.heap[w.heap.size + 1]? = some (.loop r)) → W.heap[w.heap.size]? = some (.deferred (some [])) →
      body.wpIn (Fence.wide.inRound (w.heap.size + 1)) (n - 1 - 1) P (roundEnd2 w.heap.size T I Ix (pre ++ [x]) W) (a₁ args B0) W)
    (hdone : ∀ (W : World), I xs W → W.heap[w.heap.size]? = some (.deferred (some [])) → Q .normal { a with defers := { target := .collected w.heap.size, args := #[] } :: a.defers } W)
    (hstop : ∀ (c : Code) (pre : List α) (W : World), pre <+: xs → Ix c pre W → W.heap[w.heap.size]? = some (.deferred (some [])) → c.wp P Q { a with defers := { target := .collected w.heap.size, args := #[] } :: a.defers } W) :
    (Code.rangeFunc g ps assign body).wp P Q a w := by
  refine (wpIn_wide (n := n)).1 (wpIn_rangeFunc ?_)
  intro fn _
  have hT1 : w.heap.size + 1 ∉ T := fun h => by have := hT _ h; omega
  have hT0 : w.heap.size ∉ T := fun h => by have := hT _ h; omega
  obtain ⟨rec, hrec⟩ : ∃ rec : LoopState → Option Code → Loop, rec = fun st pe => { state := st, pending := pe, fn, tmps := a.tmps, params := ps, assign, body, defers := w.heap.size } := ⟨_, rfl⟩
  obtain ⟨W1, hW1⟩ : ∃ W1, (w.alloc (.deferred (some []))).alloc (.loop (rec .ready none)) = W1 := ⟨_, rfl⟩
  have hL1 : W1.heap[w.heap.size + 1]? = some (.loop (rec .ready none)) := by
    rw [← hW1]; have := World.alloc_heap_new (w.alloc (.deferred (some []))) (.loop (rec .ready none)); rwa [World.size_alloc] at this
  have hK1 : W1.heap[w.heap.size]? = some (.deferred (some [])) := by
    rw [← hW1]; exact (Below.heap_alloc _ _ _ (by simp)).trans (World.alloc_heap_new w _)
  have hI1 : I [] W1 := h0 W1 (by rw [← hW1]; exact ((Keep.refl [] w).alloc _).alloc _)
  refine ⟨w.heap.size + 1, [{ target := .collected w.heap.size, args := #[] }], W1, { target := .fn (.func gf) lb, args := #[.func (.yield (w.heap.size + 1)) #[] #[]] }, W1, gf,
    #[.func (.yield (w.heap.size + 1)) #[] #[]] ++ lb, W1, ?_, ?_, ?_, ?_, fun h => by simp [Fence.wide] at h, ?_⟩
  · rw [← hW1, hrec]; exact run_enterLoop_outer _ _ _ _ _
  · simp only [resolve, hg]
    simp [go_sem]
  · intro f' _; trivial
  · simp [invoke, go_sem, eg]
  · refine (hiter (n - 1) (w.heap.size + 1)
      (fun pre W => I pre W ∧ W.heap[w.heap.size + 1]? = some (.loop (rec .ready none)) ∧ W.heap[w.heap.size]? = some (.deferred (some [])))
      (fun pre W => ∃ c, Ix c pre W ∧ W.heap[w.heap.size + 1]? = some (.loop (rec .done (some c))) ∧ W.heap[w.heap.size]? = some (.deferred (some [])))
      (fun pre W h => hRd pre W h.1 (Array.getElem?_eq_some_iff.1 h.2.1).1)
      (fun pre W W' k h => ⟨hI pre W W' (k.mono (fun b hb => List.mem_cons_of_mem _ hb)) h.1, k.blk hT1 h.2.1, k.blk hT0 h.2.2⟩)
      (fun pre W W' k h => by
        obtain ⟨c, hc, hl, hk⟩ := h
        exact ⟨c, hIx c pre W W' (k.mono (fun b hb => List.mem_cons_of_mem _ hb)) hc, k.blk hT1 hl, k.blk hT0 hk⟩)
      ?_ W1 ⟨hI1, hL1, hK1⟩ (hSt W1 (by rw [← hW1]; exact ((Keep.refl [] w).alloc _).alloc _))).mono ?_
    · rintro pre x args W hpre ⟨hi, hl, hk⟩ henc
      have hlt : w.heap.size + 1 < W.heap.size := (Array.getElem?_eq_some_iff.1 hl).1
      have hy := run_yield (P := P) (args := args) hl (by rw [hrec]; exact hps x args W henc)
      rw [hrec] at hy
      refine ⟨fn, _, assign, body, hy, roundIn_of_wpIn trivial (hassign x args W _ henc hlt fun W0 hk0 has => ?_)⟩
      have hl0 := hk0.blk (by simp) hl
      have hk0d := hk0.blk (by simp) hk
      have hlt0 : w.heap.size + 1 < W0.heap.size := (Array.getElem?_eq_some_iff.1 hl0).1
      have hT0' : ∀ b ∈ T, W0.heap[b]? = W.heap[b]? := fun b hb => hk0.block b (Nat.lt_trans (Nat.lt_trans (hT b hb) (Nat.lt_succ_self _)) hlt) (by simp)
      have hi0 := hI _ _ _ (hk0.mono (by simp)) hi
      have henc0 := hEnc _ _ _ _ (hk0.mono (by simp)) henc
      refine ⟨_, run_beginRound hl0 (by rw [hrec]), ?_⟩
      have hl2 : (W0.putObj (w.heap.size + 1) (.loop { rec .ready none with state := .busy })).heap[w.heap.size + 1]? = some (.loop { rec .ready none with state := .busy }) := World.putObj_heap_same hlt0
      have hk2 : (W0.putObj (w.heap.size + 1) (.loop { rec .ready none with state := .busy })).heap[w.heap.size]? = some (.deferred (some [])) := (World.putObj_heap_other (by omega)).trans hk0d
      have hkeep2 : Keep [w.heap.size + 1] W0 (W0.putObj (w.heap.size + 1) (.loop { rec .ready none with state := .busy })) := (Keep.refl _ W0).putObj (.inl (by simp)) _
      refine wpIn_mono (hbody pre x args _ _ hpre (hI _ _ _ (hkeep2.mono (by simp)) hi0) (hEnc _ _ _ _ hkeep2 henc0) (hAs _ _ _ _ _ hlt hkeep2 has) hlt ⟨_, hl2⟩ hk2) ?_
      have fin : ∀ (jump : Option Code) (W3 : World), W3.heap[w.heap.size + 1]? = (W0.putObj (w.heap.size + 1) (.loop { rec .ready none with state := .busy })).heap[w.heap.size + 1]? →
          W3.heap[w.heap.size]? = (W0.putObj (w.heap.size + 1) (.loop { rec .ready none with state := .busy })).heap[w.heap.size]? →
          (Instr.endRound (w.heap.size + 1) jump).run P W3 = .ok (.bool jump.isNone) (W3.putObj (w.heap.size + 1) (.loop (rec (if jump.isNone then .ready else .done) jump))) ∧
          Keep [w.heap.size + 1] W3 (W3.putObj (w.heap.size + 1) (.loop (rec (if jump.isNone then .ready else .done) jump))) ∧
          (W3.putObj (w.heap.size + 1) (.loop (rec (if jump.isNone then .ready else .done) jump))).heap[w.heap.size + 1]? = some (.loop (rec (if jump.isNone then .ready else .done) jump)) ∧
          (W3.putObj (w.heap.size + 1) (.loop (rec (if jump.isNone then .ready else .done) jump))).heap[w.heap.size]? = some (.deferred (some [])) := fun jump W3 e1 e2 => by
        have hl3 := e1.trans hl2
        have hk3 := e2.trans hk2
        have := run_endRound (P := P) jump hl3
        rw [hrec] at this ⊢
        exact ⟨this, (Keep.refl _ W3).putObj (.inl (by simp)) _, World.putObj_heap_same (Array.getElem?_eq_some_iff.1 hl3).1, (World.putObj_heap_other (by omega)).trans hk3⟩
      have back : ∀ (W3 : World) (o : Obj), (∀ b ∈ T, W3.heap[b]? = (W0.putObj (w.heap.size + 1) (.loop { rec .ready none with state := .busy })).heap[b]?) → ∀ b ∈ T, (W3.putObj (w.heap.size + 1) o).heap[b]? = W.heap[b]? := fun W3 o h b hb => by
        have hne : b ≠ w.heap.size + 1 := fun e => hT1 (by rw [← e]; exact hb)
        rw [World.putObj_heap_other hne, h b hb, World.putObj_heap_other hne, hT0' b hb]
      rintro e a3 W3 hp
      cases e with
      | normal =>
        obtain ⟨e1, e2, e4, hi3⟩ := hp
        obtain ⟨hr, hl3, hl4, hk4⟩ := fin none W3 e1 e2
        exact ⟨_, _, hr, back _ _ e4, .inl ⟨rfl, hI _ _ _ (hl3.mono (by simp)) hi3, hl4, hk4⟩⟩
      | ret =>
        obtain ⟨e1, e2, e4, hi3⟩ := hp
        obtain ⟨hr, hl3, hl4, hk4⟩ := fin (some .ret) W3 e1 e2
        exact ⟨_, _, hr, back _ _ e4, .inr ⟨rfl, .ret, hIx _ _ _ _ (hl3.mono (by simp)) hi3, hl4, hk4⟩⟩
      | exit id =>
        obtain ⟨e1, e2, e4, hi3⟩ := hp
        obtain ⟨hr, hl3, hl4, hk4⟩ := fin (some (.exit id)) W3 e1 e2
        exact ⟨_, _, hr, back _ _ e4, .inr ⟨rfl, .exit id, hIx _ _ _ _ (hl3.mono (by simp)) hi3, hl4, hk4⟩⟩
      | goto t =>
        obtain ⟨e1, e2, e4, hi3⟩ := hp
        obtain ⟨hr, hl3, hl4, hk4⟩ := fin (some (.goto t)) W3 e1 e2
        exact ⟨_, _, hr, back _ _ e4, .inr ⟨rfl, .goto t, hIx _ _ _ _ (hl3.mono (by simp)) hi3, hl4, hk4⟩⟩
      | panic ch => exact hp.elim
      | outgrown => exact hp.elim
    · rintro e W2 ⟨⟨v, rfl⟩, (⟨hi, hl, hk⟩ | ⟨pre, hpre, c, hi, hl, hk⟩)⟩
      · have hkeep2 : Keep [w.heap.size + 1] W2 (W2.putObj (w.heap.size + 1) (.loop (rec .exhausted none))) := (Keep.refl _ W2).putObj (.inl (by simp)) _
        refine ⟨none, W2.putObj (w.heap.size + 1) (.loop (rec .exhausted none)), by have := run_endLoop (P := P) hl (by rw [hrec]; simp); rw [hrec] at this ⊢; exact this, hdone _ (hI _ _ _ (hkeep2.mono (by simp)) hi) ((World.putObj_heap_other (by omega)).trans hk)⟩
      · have hkeep2 : Keep [w.heap.size + 1] W2 (W2.putObj (w.heap.size + 1) (.loop (rec .exhausted (some c)))) := (Keep.refl _ W2).putObj (.inl (by simp)) _
        refine ⟨some c, W2.putObj (w.heap.size + 1) (.loop (rec .exhausted (some c))), by have := run_endLoop (P := P) hl (by rw [hrec]; simp); rw [hrec] at this ⊢; exact this, wpIn_wide.2 (hstop c pre _ hpre (hIx _ _ _ _ (hkeep2.mono (by simp)) hi) ((World.putObj_heap_other (by omega)).trans hk))⟩

end Sg
