import Derived.Test.YtjkjiabfhhnngaaRange2
import Derived.Test.YtjkjiabfhhnngaaOwn
/-! A range over a function whose iterator lays and writes blocks of its own as it goes (a loop over a function within it). -/
namespace Sg
open Go Go.RowKit

/-- An iterator's contract: the blocks that are its own are told as they are laid. -/
def Iter5 {α : Type} (P : Program) (gf : Nat) (lb : Array Value) (Enc : List Nat → α → Array Value → World → Prop) (xs : List α) (Rd St : World → Prop) (T0 : List Nat) : Prop :=
  ∀ (n l : Nat) (J Jx : List Nat → List α → World → Prop), (∀ T pre W, J T pre W → Rd W) → (∀ T pre W W', Keep T W W' → J T pre W → J T pre W') → (∀ T pre W W', Keep T W W' → Jx T pre W → Jx T pre W') →
    (∀ T pre W b, W.heap.size ≤ b → J T pre W → J (b :: T) pre W) →
    (∀ T pre x args W, pre ++ [x] <+: xs → J T pre W → Enc T x args W → (∀ b ∈ T, b < W.heap.size) → YieldAt Fence.wide (n - 1) P l args W fun e W' => (∀ b ∈ T, W'.heap[b]? = W.heap[b]?) ∧
      ((e = .returned (.bool true) ∧ J T (pre ++ [x]) W') ∨ (e = .returned (.bool false) ∧ Jx T (pre ++ [x]) W'))) →
    ∀ W, J T0 [] W → St W → (∀ b ∈ T0, b < W.heap.size) → CallsIn Fence.wide n P gf (#[.func (.yield l) #[] #[]] ++ lb) W fun e W' => (∃ v, e = .returned v) ∧ ((∃ T, J T xs W' ∧ ∀ b ∈ T, b < W'.heap.size) ∨ ∃ T pre, pre <+: xs ∧ Jx T pre W')
theorem Iter2.five {α : Type} {P : Program} {gf : Nat} {lb : Array Value} {Enc : α → Array Value → World → Prop} {xs : List α} {Rd St : World → Prop} {T0 : List Nat} (h : Iter2 P gf lb Enc xs Rd St T0) : Iter5 P gf lb (fun _ => Enc) xs Rd St T0 := by
  intro n l J Jx h1 h2 h3 _ h4 W h5 h6 h7
  refine (h n l (fun pre W => J T0 pre W ∧ ∀ b ∈ T0, b < W.heap.size) (fun pre W => Jx T0 pre W) (fun pre W k => h1 _ _ _ k.1) (fun pre W W' k j => ⟨h2 _ _ _ _ k j.1, fun b hb => Nat.lt_of_lt_of_le (j.2 b hb) k.size⟩) (fun pre W W' k => h3 _ _ _ _ k) ?_ W ⟨h5, h7⟩ h6).mono ?_
  · intro pre x args W hp hj he
    refine (h4 T0 pre x args W hp hj.1 he hj.2).mono ?_
    rintro e W' ⟨hb, (⟨rfl, hj'⟩ | ⟨rfl, hj'⟩)⟩
    · refine ⟨hb, .inl ⟨rfl, hj', fun b hm => ?_⟩⟩
      have := hb b hm
      rw [Array.getElem?_eq_getElem (hj.2 b hm)] at this
      exact (Array.getElem?_eq_some_iff.1 this).1
    · exact ⟨hb, .inr ⟨rfl, hj'⟩⟩
  · rintro e W' ⟨hv, (hj | ⟨pre, hp, hj⟩)⟩
    · exact ⟨hv, .inl ⟨T0, hj.1, hj.2⟩⟩
    · exact ⟨hv, .inr ⟨T0, pre, hp, hj⟩⟩
/-- A call of the outer loop's yield, within a round of an inner one. -/
theorem RoundIn.within {n m l l' : Nat} {P : Program} {f : FuncId} {tmps : Array Value} {assign body : Code} {w : World} {R : Ending → World → Prop} (h : RoundIn Fence.wide n P l f tmps assign body w R) : RoundIn (Fence.wide.inRound l') m P l f tmps assign body w R :=
  ⟨h.1, fun c cs _ => h.2 c cs (room_wide _)⟩
theorem RoundIn.deep {n m l : Nat} {P : Program} {f : FuncId} {tmps : Array Value} {assign body : Code} {w : World} {R : Ending → World → Prop} (h : RoundIn Fence.wide n P l f tmps assign body w R) : RoundIn Fence.wide m P l f tmps assign body w R :=
  ⟨h.1, fun c cs _ => h.2 c cs (room_wide _)⟩

/-- .. where the round's head lays a block of its own. -/
theorem wp_range5 {α : Type} {n : Nat} {P : Program} {g : Operand} {ps : Array Tmp} {assign body : Code} {Q : Exit → Act → World → Prop} {a : Act} {w : World}
    {gf : Nat} {lb : Array Value} (hg : a.eval g = .func (.func gf) #[] lb) (eg : ∀ args w, (callFunc gf args).run P w = .ok (.enter gf args) w)
    {Enc : List Nat → α → Array Value → World → Prop} {xs : List α} {Rd St : World → Prop} {T0 : List Nat} (hT : ∀ b ∈ T0, b < w.heap.size) (hiter : Iter5 P gf lb Enc xs Rd St T0)
    (hEnc : ∀ T x args W W', Keep [w.heap.size + 1] W W' → Enc T x args W → Enc T x args W') (hps : ∀ T x args W, Enc T x args W → args.size = ps.size)
    (I : List Nat → List α → World → Prop) (Ix : Code → List Nat → List α → World → Prop)
    (hRd : ∀ T pre W, I T pre W → w.heap.size + 1 < W.heap.size → Rd W) (hSt : ∀ W, Keep [] w W → St W)
    (hI : ∀ T pre W W', Keep T W W' → I T pre W → I T pre W')
    (hIx : ∀ c T pre W W', Keep T W W' → Ix c T pre W → Ix c T pre W')
    (hG : ∀ T pre W b, W.heap.size ≤ b → I T pre W → I (b :: T) pre W)
    (h0 : ∀ W, Keep [] w W → I (T0 ++ [w.heap.size + 1]) [] W)
    (a₁ : Array Value → Nat → Act) (As : α → Array Value → Nat → World → Prop) (hAs : ∀ x args B0 W W', w.heap.size + 1 < B0 → Keep [w.heap.size + 1] W W' → As x args B0 W → As x args B0 W')
    (hassign : ∀ (T : List Nat) (x : α) (args : Array Value) (W : World) (K : Act → World → Prop), Enc T x args W → w.heap.size + 1 < W.heap.size → (∀ W', Keep [] W W' → As x args W.heap.size W' → K (a₁ args W.heap.size) W') →
      assign.wpIn (Fence.wide.inRound (w.heap.size + 1)) (n - 1 - 1) P (Exit.then K (fun _ _ _ => False)) { tmps := (ps.zip args).foldl (fun t (p, v) => t.setIfInBounds p v) a.tmps, defers := [] } W)
    (hbody : ∀ (T : List Nat) (pre : List α) (x : α) (args : Array Value) (B0 : Nat) (W : World), pre ++ [x] <+: xs → I (T ++ [w.heap.size + 1]) pre W → Enc T x args W → As x args B0 W → w.heap.size + 1 < B0 → (∀ b ∈ T ++ [w.heap.size + 1], b < W.heap.size) → w.heap.size + 1 ∉ T → w.heap.size ∉ T → (∃ r, W.heap[w.heap.size + 1]? = some (.loop r)) → W.heap[w.heap.size]? = some (.deferred (some [])) →
      body.wpIn (Fence.wide.inRound (w.heap.size + 1)) (n - 1 - 1) P (roundEnd2 w.heap.size T (I (T ++ [w.heap.size + 1])) (fun c => Ix c (T ++ [w.heap.size + 1])) (pre ++ [x]) W) (a₁ args B0) W)
    (hdone : ∀ (T : List Nat) (W : World), I (T ++ [w.heap.size + 1]) xs W → (∀ b ∈ T ++ [w.heap.size + 1], b < W.heap.size) → w.heap.size ∉ T → W.heap[w.heap.size]? = some (.deferred (some [])) → Q .normal { a with defers := { target := .collected w.heap.size, args := #[] } :: a.defers } W)
    (hstop : ∀ (c : Code) (T : List Nat) (pre : List α) (W : World), pre <+: xs → Ix c (T ++ [w.heap.size + 1]) pre W → w.heap.size ∉ T → W.heap[w.heap.size]? = some (.deferred (some [])) → c.wp P Q { a with defers := { target := .collected w.heap.size, args := #[] } :: a.defers } W) :
    (Code.rangeFunc g ps assign body).wp P Q a w := by
  refine (wpIn_wide (n := n)).1 (wpIn_rangeFunc ?_)
  intro fn _
  have hT1 : w.heap.size + 1 ∉ T0 := fun h => by have := hT _ h; omega
  have hT0 : w.heap.size ∉ T0 := fun h => by have := hT _ h; omega
  obtain ⟨rec, hrec⟩ : ∃ rec : LoopState → Option Code → Loop, rec = fun st pe => { state := st, pending := pe, fn, tmps := a.tmps, params := ps, assign, body, defers := w.heap.size } := ⟨_, rfl⟩
  obtain ⟨W1, hW1⟩ : ∃ W1, (w.alloc (.deferred (some []))).alloc (.loop (rec .ready none)) = W1 := ⟨_, rfl⟩
  have hL1 : W1.heap[w.heap.size + 1]? = some (.loop (rec .ready none)) := by
    rw [← hW1]; have := World.alloc_heap_new (w.alloc (.deferred (some []))) (.loop (rec .ready none)); rwa [World.size_alloc] at this
  have hK1 : W1.heap[w.heap.size]? = some (.deferred (some [])) := by
    rw [← hW1]; exact (Below.heap_alloc _ _ _ (by simp)).trans (World.alloc_heap_new w _)
  have hI1 : I (T0 ++ [w.heap.size + 1]) [] W1 := h0 W1 (by rw [← hW1]; exact ((Keep.refl [] w).alloc _).alloc _)
  refine ⟨w.heap.size + 1, [{ target := .collected w.heap.size, args := #[] }], W1, { target := .fn (.func gf) lb, args := #[.func (.yield (w.heap.size + 1)) #[] #[]] }, W1, gf,
    #[.func (.yield (w.heap.size + 1)) #[] #[]] ++ lb, W1, ?_, ?_, ?_, ?_, fun h => by simp [Fence.wide] at h, ?_⟩
  · rw [← hW1, hrec]; exact run_enterLoop_outer _ _ _ _ _
  · simp only [resolve, hg]
    simp [go_sem]
  · intro f' _; trivial
  · simp [invoke, go_sem, eg]
  · refine (hiter (n - 1) (w.heap.size + 1)
      (fun T pre W => I (T ++ [w.heap.size + 1]) pre W ∧ W.heap[w.heap.size + 1]? = some (.loop (rec .ready none)) ∧ W.heap[w.heap.size]? = some (.deferred (some [])) ∧ w.heap.size + 1 ∉ T ∧ w.heap.size ∉ T)
      (fun T pre W => ∃ c, Ix c (T ++ [w.heap.size + 1]) pre W ∧ W.heap[w.heap.size + 1]? = some (.loop (rec .done (some c))) ∧ W.heap[w.heap.size]? = some (.deferred (some [])) ∧ w.heap.size + 1 ∉ T ∧ w.heap.size ∉ T)
      (fun T pre W h => hRd _ pre W h.1 (Array.getElem?_eq_some_iff.1 h.2.1).1)
      (fun T pre W W' k h => ⟨hI _ pre W W' (k.mono (fun b hb => List.mem_append_left _ hb)) h.1, k.blk h.2.2.2.1 h.2.1, k.blk h.2.2.2.2 h.2.2.1, h.2.2.2⟩)
      (fun T pre W W' k h => by
        obtain ⟨c, hc, hl, hk, h2⟩ := h
        exact ⟨c, hIx c _ pre W W' (k.mono (fun b hb => List.mem_append_left _ hb)) hc, k.blk h2.1 hl, k.blk h2.2 hk, h2⟩)
      (fun T pre W b hb h => by
        have hlt : w.heap.size + 1 < W.heap.size := (Array.getElem?_eq_some_iff.1 h.2.1).1
        refine ⟨hG _ _ _ _ hb h.1, h.2.1, h.2.2.1, fun hm => ?_, fun hm => ?_⟩
        · rcases List.mem_cons.1 hm with rfl | hm
          · omega
          · exact h.2.2.2.1 hm
        · rcases List.mem_cons.1 hm with e | hm
          · omega
          · exact h.2.2.2.2 hm)
      ?_ W1 ⟨hI1, hL1, hK1, hT1, hT0⟩ (hSt W1 (by rw [← hW1]; exact ((Keep.refl [] w).alloc _).alloc _)) (fun b hb => by rw [← hW1]; have := hT b hb; simp; omega)).mono ?_
    · rintro T pre x args W hpre ⟨hi, hl, hk, hT1', hT0'⟩ henc hTs
      have hlt : w.heap.size + 1 < W.heap.size := (Array.getElem?_eq_some_iff.1 hl).1
      have hy := run_yield (P := P) (args := args) hl (by rw [hrec]; exact hps T x args W henc)
      rw [hrec] at hy
      refine ⟨fn, _, assign, body, hy, roundIn_of_wpIn trivial (hassign T x args W _ henc hlt fun W0 hk0 has => ?_)⟩
      have hl0 := hk0.blk (by simp) hl
      have hk0d := hk0.blk (by simp) hk
      have hlt0 : w.heap.size + 1 < W0.heap.size := (Array.getElem?_eq_some_iff.1 hl0).1
      have hTW : ∀ b ∈ T, W0.heap[b]? = W.heap[b]? := fun b hb => hk0.block b (hTs b hb) (by simp)
      have hi0 := hI _ _ _ _ (hk0.mono (by simp)) hi
      have henc0 := hEnc _ _ _ _ _ (hk0.mono (by simp)) henc
      refine ⟨_, run_beginRound hl0 (by rw [hrec]), ?_⟩
      have hl2 : (W0.putObj (w.heap.size + 1) (.loop { rec .ready none with state := .busy })).heap[w.heap.size + 1]? = some (.loop { rec .ready none with state := .busy }) := World.putObj_heap_same hlt0
      have hk2 : (W0.putObj (w.heap.size + 1) (.loop { rec .ready none with state := .busy })).heap[w.heap.size]? = some (.deferred (some [])) := (World.putObj_heap_other (by omega)).trans hk0d
      have hkeep2 : Keep [w.heap.size + 1] W0 (W0.putObj (w.heap.size + 1) (.loop { rec .ready none with state := .busy })) := (Keep.refl _ W0).putObj (.inl (by simp)) _
      refine wpIn_mono (hbody T pre x args _ _ hpre (hI _ _ _ _ (hkeep2.mono (by simp)) hi0) (hEnc _ _ _ _ _ hkeep2 henc0) (hAs _ _ _ _ _ hlt hkeep2 has) hlt (fun b hb => by
        rcases List.mem_append.1 hb with hb | hb
        · have := hTs b hb; have := hk0.size; simp; omega
        · rw [List.mem_singleton.1 hb]; simpa using hlt0) hT1' hT0' ⟨_, hl2⟩ hk2) ?_
      have fin : ∀ (jump : Option Code) (W3 : World), W3.heap[w.heap.size + 1]? = (W0.putObj (w.heap.size + 1) (.loop { rec .ready none with state := .busy })).heap[w.heap.size + 1]? →
          W3.heap[w.heap.size]? = (W0.putObj (w.heap.size + 1) (.loop { rec .ready none with state := .busy })).heap[w.heap.size]? →
          (Instr.endRound (w.heap.size + 1) jump).run P W3 = .ok (.bool jump.isNone) (W3.putObj (w.heap.size + 1) (.loop (rec (if jump.isNone then .ready else .done) jump))) ∧
          Keep [w.heap.size + 1] W3 (W3.putObj (w.heap.size + 1) (.loop (rec (if jump.isNone then .ready else .done) jump))) ∧
          (W3.putObj (w.heap.size + 1) (.loop (rec (if jump.isNone then .ready else .done) jump))).heap[w.heap.size + 1]? = some (.loop (rec (if jump.isNone then .ready else .done) jump)) ∧
          (W3.putObj (w.heap.size + 1) (.loop (rec (if jump.isNone then .ready else .done) jump))).heap[w.heap.size]? = some (.deferred (some [])) := fun jump W3 e1 e2 => by
        have hl3 := e1.trans hl2
        have hk3 := e2.trans hk2
        have := run_endRound (P := P) jump hl3
        rw [hrec] at this ⊢
        exact ⟨this, (Keep.refl _ W3).putObj (.inl (by simp)) _, World.putObj_heap_same (Array.getElem?_eq_some_iff.1 hl3).1, (World.putObj_heap_other (by omega)).trans hk3⟩
      have back : ∀ (W3 : World) (o : Obj), (∀ b ∈ T, W3.heap[b]? = (W0.putObj (w.heap.size + 1) (.loop { rec .ready none with state := .busy })).heap[b]?) → ∀ b ∈ T, (W3.putObj (w.heap.size + 1) o).heap[b]? = W.heap[b]? := fun W3 o h b hb => by
        have hne : b ≠ w.heap.size + 1 := fun e => hT1' (by rw [← e]; exact hb)
        rw [World.putObj_heap_other hne, h b hb, World.putObj_heap_other hne, hTW b hb]
      rintro e a3 W3 hp
      cases e with
      | normal =>
        obtain ⟨e1, e2, e4, hi3⟩ := hp
        obtain ⟨hr, hl3, hl4, hk4⟩ := fin none W3 e1 e2
        exact ⟨_, _, hr, back _ _ e4, .inl ⟨rfl, hI _ _ _ _ (hl3.mono (by simp)) hi3, hl4, hk4, hT1', hT0'⟩⟩
      | ret =>
        obtain ⟨e1, e2, e4, hi3⟩ := hp
        obtain ⟨hr, hl3, hl4, hk4⟩ := fin (some .ret) W3 e1 e2
        exact ⟨_, _, hr, back _ _ e4, .inr ⟨rfl, .ret, hIx _ _ _ _ _ (hl3.mono (by simp)) hi3, hl4, hk4, hT1', hT0'⟩⟩
      | exit id =>
        obtain ⟨e1, e2, e4, hi3⟩ := hp
        obtain ⟨hr, hl3, hl4, hk4⟩ := fin (some (.exit id)) W3 e1 e2
        exact ⟨_, _, hr, back _ _ e4, .inr ⟨rfl, .exit id, hIx _ _ _ _ _ (hl3.mono (by simp)) hi3, hl4, hk4, hT1', hT0'⟩⟩
      | goto t =>
        obtain ⟨e1, e2, e4, hi3⟩ := hp
        obtain ⟨hr, hl3, hl4, hk4⟩ := fin (some (.goto t)) W3 e1 e2
        exact ⟨_, _, hr, back _ _ e4, .inr ⟨rfl, .goto t, hIx _ _ _ _ _ (hl3.mono (by simp)) hi3, hl4, hk4, hT1', hT0'⟩⟩
      | panic ch => exact hp.elim
      | outgrown => exact hp.elim
    · rintro e W2 ⟨⟨v, rfl⟩, (⟨T, ⟨hi, hl, hk, hT1', hT0'⟩, hTs⟩ | ⟨T, pre, hpre, c, hi, hl, hk, hT1', hT0'⟩)⟩
      · have hkeep2 : Keep [w.heap.size + 1] W2 (W2.putObj (w.heap.size + 1) (.loop (rec .exhausted none))) := (Keep.refl _ W2).putObj (.inl (by simp)) _
        refine ⟨none, W2.putObj (w.heap.size + 1) (.loop (rec .exhausted none)), by have := run_endLoop (P := P) hl (by rw [hrec]; simp); rw [hrec] at this ⊢; exact this, hdone T _ (hI _ _ _ _ (hkeep2.mono (by simp)) hi) (fun b hb => by
          rcases List.mem_append.1 hb with hb | hb
          · have := hTs b hb; simpa using this
          · rw [List.mem_singleton.1 hb]; have := (Array.getElem?_eq_some_iff.1 hl).1; simpa using this) hT0' ((World.putObj_heap_other (by omega)).trans hk)⟩
      · have hkeep2 : Keep [w.heap.size + 1] W2 (W2.putObj (w.heap.size + 1) (.loop (rec .exhausted (some c)))) := (Keep.refl _ W2).putObj (.inl (by simp)) _
        refine ⟨some c, W2.putObj (w.heap.size + 1) (.loop (rec .exhausted (some c))), by have := run_endLoop (P := P) hl (by rw [hrec]; simp); rw [hrec] at this ⊢; exact this, wpIn_wide.2 (hstop c T pre _ hpre (hIx _ _ _ _ _ (hkeep2.mono (by simp)) hi) hT0' ((World.putObj_heap_other (by omega)).trans hk))⟩

end Sg
