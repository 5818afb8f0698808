import Derived.Test.YtjkjiabfhhnngaaReg2
/-! The walks of region's begin and Append. -/
namespace Go.Proofs.Ytjkjiabfhhnngaa
open Go.RowKit Sg
set_option linter.unusedSimpArgs false
set_option linter.unusedVariables false

theorem Lc.flush_facts (c : Lc) (l : Lg) (m : Dev) : (c.flush l m).1.last = l.last ∧ (c.flush l m).2.1.acts ≤ m.acts + 1 ∧ (c.flush l m).2.1.n = m.n ∧ (c.flush l m).2.1.sz = m.sz ∧ (c.flush l m).1.pend = [] := by
  unfold Lc.flush
  split
  · rename_i h
    exact ⟨rfl, by simp, rfl, rfl, h⟩
  · have := lput_acts m ((c.base + c.sec (c.fill l).last (((c.fill l).at_ - 1) / c.rm) : Nat) : Int) 3 ((c.sec (c.fill l).last (((c.fill l).at_ - 1) / c.rm) : Nat) : Int) ((c.fill l).last : Int) (c.fill l).pend
    exact ⟨rfl, this.1, this.2.1, this.2.2, rfl⟩

set_option maxRecDepth 100000 in
set_option maxHeartbeats 1000000 in
set_option maxHeartbeats 4000000 in
theorem beginL_any (w : World) (D E : List Nat) (gl g : Nat) (c : Lc) (l : Lg) (m : Dev) (h : RV w D E gl g c l m) (hf : l.Fit c) (hacts : m.acts ≤ 1000000000) :
    Calls Try.prog 109 #[.pointer (some ⟨gl, 0, none⟩)] w fun e w' => e = .returned (.int .i64 (c.begin_ l m).2.2) ∧ LgStep w D E gl g c (c.begin_ l m).1 (c.begin_ l m).2.1 w' := by
  have hF := flushL_any w D E gl g c l m h hf hacts
  obtain ⟨e1, e2, e3, e4, e5⟩ := c.flush_facts l m
  have hlast := hf.last
  have hgE : gl ∈ E := by obtain ⟨_, h'⟩ := h; exact h'.gl
  unfold Lc.begin_
  generalize c.flush l m = r at hF e1 e2 e3 e4 e5 ⊢
  obtain ⟨l1, m1, code⟩ := r
  simp only at hF e1 e2 e3 e4 e5 ⊢
  by_cases hz : code = 0
  · subst hz
    rw [if_neg (by simp)]
    have hl1 : l1.last ≤ 4398046511104 := by rw [e1]; exact hlast
    clear h hf e1 e2 e3 e4 e5
    go_enter Try.func109, Try.ntmps109
    go_wp2_with fail
    refine hF.mono ?_
    rintro e w1 ⟨rfl, D1, E1, ⟨pv, h1⟩, g1, g2, k1⟩
    have k18 := h1.row.k18
    have f18 := h1.row.free 18
    have r2 := h1.row.last (l1.last + 1)
    rw [show (((l1.last + 1 : Nat)) : Int) = (l1.last : Int) + 1 by push_cast; rfl] at r2
    have r3 := r2.at_ 0
    have k19 := h1.row.k19
    have f19 := h1.row.free 19
    have hk13 : Keep [gl] w1 ((w1.setCell ⟨gl, 18, none⟩ (.int .i64 ((l1.last : Int) + 1))).setCell ⟨gl, 19, none⟩ (.int .i64 ((0 : Nat) : Int))) := ((Keep.refl [gl] w1).setCell (.inl (by simp)) _).setCell (.inl (by simp)) _
    have h3 : RVAt _ D1 E1 gl g c { last := l1.last + 1, at_ := 0, pend := l1.pend } m1 pv := h1.turn hk13 (by simp) r3 (h1.own.keep hk13 (fun b hb hm => h1.ne b hb (by simpa using hm))) (fun b h => h) (fun b h => .inl h) h1.inE
    have hkk := k1.trans (hk13.mono (fun b hb => by rw [List.mem_singleton.1 hb]; exact List.mem_append_left _ hgE))
    have HF := Lib.hid (And.intro h3 (And.intro g1 (And.intro g2 hkk)))
    clear hF h1 r2 r3 hk13 h3 g1 g2 k1 hkk
    go_wp2
    go_ret
    exact ⟨rfl, D1, E1, ⟨_, HF.out.1⟩, HF.out.2.1, HF.out.2.2.1, HF.out.2.2.2⟩
  · rw [if_pos hz]
    have z1 : (code == 0) = false := by simpa using hz
    have z2 : (code != 0) = true := by simpa using hz
    clear h hf
    go_enter Try.func109, Try.ntmps109
    go_wp2_with fail
    refine hF.mono ?_
    rintro e w1 ⟨rfl, h1⟩
    have HF := Lib.hid h1
    clear hF h1
    go_wp2
    go_ret
    exact ⟨rfl, HF.out⟩

theorem ok_rm (c : Lc) (m : Dev) (h : c.Ok m) : 77 ≤ c.rm ∧ c.rm ≤ 493 ∧ 1 ≤ c.S ∧ c.S ≤ 32 ∧ c.S * c.rm ≤ 15776 := ⟨h.m1, h.m2, h.s1, h.s2, Nat.mul_le_mul h.s2 h.m2⟩
section
variable {w w1 : World} {D E : List Nat} {gl g : Nat} {c : Lc} {l : Lg} {m : Dev} {pv pv' : Value}
theorem RVAt.grown (h : RVAt w D E gl g c l m pv) {x : List UInt8} (ho : OwnB w1 0 5 pv' (l.pend ++ x)) (hk : Keep pv.ownBlock.toList w w1) (hloc : pv'.ownBlock = pv.ownBlock ∨ pv'.ownBlock = some w.heap.size) :
    RVAt (w1.setCell ⟨gl, 20, none⟩ pv') D (E ++ newer w (w1.setCell ⟨gl, 20, none⟩ pv')) gl g c { l with pend := l.pend ++ x } m pv' ∧ Keep (pv.ownBlock.toList ++ [gl]) w (w1.setCell ⟨gl, 20, none⟩ pv') := by
  have hgS : gl ∉ pv.ownBlock.toList := fun hm => by
    rw [Option.mem_toList] at hm
    exact h.ne _ hm rfl
  have hr := h.row.keep hk hgS
  have hne : ∀ b, pv'.ownBlock = some b → b ≠ gl := fun b hb e => by
    subst e
    exact ho.ne_row hr (by decide) hb
  have k1 : Keep [gl] w1 (w1.setCell ⟨gl, 20, none⟩ pv') := (Keep.refl [gl] w1).setCell (.inl (by simp)) _
  have k2 : Keep (pv.ownBlock.toList ++ [gl]) w (w1.setCell ⟨gl, 20, none⟩ pv') := (hk.mono (fun b hb => List.mem_append_left _ hb)).trans (k1.mono (fun b hb => List.mem_append_right _ hb))
  refine ⟨h.turn k2 (fun b hb => ?_) (hr.pend _ _) (ho.keep k1 (fun b hb hm => hne b hb (by simpa using hm))) (fun b hb => List.mem_append_left _ hb) (fun b hb => (List.mem_append.1 hb).elim .inl (fun h => .inr (mem_newer.1 h))) (fun b hb => ?_), k2⟩
  · rcases List.mem_append.1 hb with hb | hb
    · rw [Option.mem_toList] at hb
      exact .inr (.inl hb)
    · exact .inl (by simpa using hb)
  · rcases hloc with e | e
    · rw [e] at hb
      exact List.mem_append_left _ (h.inE b hb)
    · rw [e] at hb
      cases hb
      refine List.mem_append_right _ (mem_newer.2 ⟨Nat.le_refl _, ?_⟩)
      obtain ⟨cs, hc⟩ := ownsRow_block ho e
      exact Nat.lt_of_lt_of_le (Array.getElem?_eq_some_iff.1 hc).1 k1.size
theorem RVAt.setAt (h : RVAt w D E gl g c l m pv) (n : Nat) : RVAt (w.setCell ⟨gl, 19, none⟩ (.int .i64 (n : Int))) D E gl g c { l with at_ := n } m pv ∧ Keep [gl] w (w.setCell ⟨gl, 19, none⟩ (.int .i64 (n : Int))) := by
  have k : Keep [gl] w (w.setCell ⟨gl, 19, none⟩ (.int .i64 (n : Int))) := (Keep.refl [gl] w).setCell (.inl (by simp)) _
  exact ⟨h.turn k (by simp) (h.row.at_ n) (h.own.keep k (fun b hb hm => h.ne b hb (by simpa using hm))) (fun b h => h) (fun b h => .inl h) h.inE, k⟩
end

theorem grew_join {w w1 w2 : World} {D E D1 E1 D2 E2 : List Nat} (h : Grew w D D1 ∧ Grew w E E1 ∧ Keep (E ++ D) w w1) (k : Grew w1 D1 D2 ∧ Grew w1 E1 E2 ∧ Keep (E1 ++ D1) w1 w2) : Grew w D D2 ∧ Grew w E E2 ∧ Keep (E ++ D) w w2 := by
  obtain ⟨g1, g2, k1⟩ := h
  obtain ⟨g3, g4, k2⟩ := k
  refine ⟨g1.trans g3 k1.size, g2.trans g4 k1.size, keep_bump k1 k2 (fun b hb => ?_)⟩
  rcases List.mem_append.1 hb with hb | hb
  · exact (g2.2 b hb).elim (fun h => .inl (List.mem_append_left _ h)) .inr
  · exact (g1.2 b hb).elim (fun h => .inl (List.mem_append_right _ h)) .inr
theorem LgStep.join {w w1 w2 : World} {D E D1 E1 D2 E2 : List Nat} {gl g : Nat} {c : Lc} {l2 : Lg} {m2 : Dev} (g1 : Grew w D D1) (g2 : Grew w E E1) (k1 : Keep (E ++ D) w w1) (h : RV w2 D2 E2 gl g c l2 m2) (g3 : Grew w1 D1 D2) (g4 : Grew w1 E1 E2) (k2 : Keep (E1 ++ D1) w1 w2) : LgStep w D E gl g c l2 m2 w2 := by
  refine ⟨D2, E2, h, g1.trans g3 k1.size, g2.trans g4 k1.size, keep_bump k1 k2 (fun b hb => ?_)⟩
  rcases List.mem_append.1 hb with hb | hb
  · exact (g2.2 b hb).elim (fun h => .inl (List.mem_append_left _ h)) .inr
  · exact (g1.2 b hb).elim (fun h => .inl (List.mem_append_right _ h)) .inr
theorem LgStep.box {w w1 w2 : World} {D E : List Nat} {gl g : Nat} {c : Lc} {l2 : Lg} {m2 : Dev} (hA : Keep [] w w1) (hlt : w.heap.size < w1.heap.size) (hD : ∀ b ∈ D, b < w.heap.size) (hE : ∀ b ∈ E, b < w.heap.size) (h : LgStep w1 D E gl g c l2 m2 w2) (cs : Array Value) : LgStep w D E gl g c l2 m2 (w2.setRow w.heap.size cs) := by
  obtain ⟨D2, E2, r1, r2, r3, r4⟩ := h
  have k : Keep [w.heap.size] w2 (w2.setRow w.heap.size cs) := (Keep.refl _ _).setRow (.inl (by simp)) _
  refine ⟨D2, E2, r1.keep k (fun b hb => ?_), ⟨r2.1, fun b hb => (r2.2 b hb).elim .inl (fun h => .inr (by omega))⟩, ⟨r3.1, fun b hb => (r3.2 b hb).elim .inl (fun h => .inr (by omega))⟩, ((hA.mono (by simp)).trans r4).setRow (.inr (Nat.le_refl _)) _⟩
  rw [List.mem_singleton.1 hb]
  exact ⟨fun hm => (r2.2 _ hm).elim (fun h => by have := hD _ h; omega) (fun h => by omega), fun hm => (r3.2 _ hm).elim (fun h => by have := hE _ h; omega) (fun h => by omega)⟩
/-- where the loop of Append is: so much is left to do -/
structure ApInv (c : Lc) (l0 : Lg) (m0 : Dev) (b0 : List UInt8) (f : Nat) (l : Lg) (m : Dev) (b : List UInt8) : Prop where
  eq : c.app b0.length l0 m0 b0 = c.app f l m b
  fuel : b.length ≤ f
  pend : l.pend.length < c.rm
  room : l.at_ + b.length ≤ c.S * c.rm
  last : l.last = l0.last
  acts : m.acts ≤ m0.acts + (b0.length - b.length)
  less : b.length ≤ b0.length
theorem app_step (c : Lc) (f : Nat) (l : Lg) (m : Dev) (b : List UInt8) (hb : b ≠ []) : c.app (f + 1) l m b = if (c.more l b).pend.length < c.rm then (c.more l b, m, 0)
    else if (c.wr (c.more l b) m).2.2 ≠ 0 then c.wr (c.more l b) m
    else c.app f (c.wr (c.more l b) m).1 (c.wr (c.more l b) m).2.1 (b.drop (min b.length (c.rm - l.pend.length))) := by
  rw [Lc.app, if_neg hb]
theorem app_nil (c : Lc) (f : Nat) (l : Lg) (m : Dev) : c.app f l m [] = (l, m, 0) := by
  cases f with
  | zero => rfl
  | succ f => rw [Lc.app, if_pos rfl]
theorem more_len (c : Lc) (l : Lg) (b : List UInt8) : (c.more l b).pend.length = l.pend.length + min b.length (c.rm - l.pend.length) := by
  unfold Lc.more
  simp
theorem wr_facts (c : Lc) (l : Lg) (m : Dev) : (c.wr l m).1 = { l with pend := [] } ∧ (c.wr l m).2.1.acts ≤ m.acts + 1 ∧ (c.wr l m).2.1.n = m.n ∧ (c.wr l m).2.1.sz = m.sz := by
  have := lput_acts m ((c.base + c.sec l.last ((l.at_ - 1) / c.rm) : Nat) : Int) 3 ((c.sec l.last ((l.at_ - 1) / c.rm) : Nat) : Int) (l.last : Int) l.pend
  exact ⟨rfl, this⟩

set_option maxRecDepth 100000 in
set_option maxHeartbeats 1000000 in
set_option maxHeartbeats 4000000 in
theorem appendL_any (w : World) (D E : List Nat) (gl g : Nat) (c : Lc) (l : Lg) (m : Dev) (h : RV w D E gl g c l m) (hf : l.Fit c) (hl2 : l.last < 4398046511104) (hacts : m.acts ≤ 500000000) (v : Value) (b : List UInt8) (hv : Bytes w v b) (hvE : b ≠ [] → ∀ x, v.ownBlock = some x → x ∉ E ++ D) :
    Calls Try.prog 55 #[.pointer (some ⟨gl, 0, none⟩), v] w fun e w' => e = .returned (.tuple #[.agg #[.int .i64 ((c.append l m b).2.2.1.1 : Int), .int .i64 ((c.append l m b).2.2.1.2.1 : Int), .int .i64 ((c.append l m b).2.2.1.2.2 : Int)], .int .i64 (c.append l m b).2.2.2]) ∧ LgStep w D E gl g c (c.append l m b).1 (c.append l m b).2.1 w' := by
  obtain ⟨va, vc, rfl, hvc, hvm, hvcap⟩ := hv.form
  obtain ⟨pv, h⟩ := h
  obtain ⟨o1, o2, o3, o4, o5⟩ := ok_rm c m h.ok
  obtain ⟨w1, hw1⟩ : ∃ w1, w.alloc (.cells #[.int .i64 0, .int .i64 0, .int .i64 0] 103) = w1 := ⟨_, rfl⟩
  have hA : Keep [] w w1 := by rw [← hw1]; exact (Keep.refl [] w).alloc _
  have hX : w1.heap[w.heap.size]? = some (.cells #[.int .i64 0, .int .i64 0, .int .i64 0] 103 (0, 0)) := by rw [← hw1]; exact heap_alloc_new w _
  have h1 := h.keep hA (by simp)
  have hlt1 : w.heap.size < w1.heap.size := by rw [← hw1]; simp
  have hDw := h.dv.lt
  have hEw := h.lt
  have hbox : ∀ (l2 : Lg) (m2 : Dev) (w2 : World), LgStep w1 D E gl g c l2 m2 w2 → ∀ cs, LgStep w D E gl g c l2 m2 (w2.setRow w.heap.size cs) := fun l2 m2 w2 hs cs => LgStep.box hA hlt1 hDw hEw hs cs
  have HBOX := Lib.hid hbox
  have HX := Lib.hid hX
  have H1 := Lib.hid h1
  clear hbox
  have k16 := h1.row.k16
  have k19 := h1.row.k19
  by_cases h0 : b.length = 0
  · have e0 : c.append l m b = (l, m, (0, 0, 0), 1) := if_pos h0
    rw [e0]
    have HF : Hid (LgStep w1 D E gl g c l m w1) := Lib.hid ⟨D, E, ⟨_, h1⟩, Grew.refl _ _, Grew.refl _ _, Keep.refl _ _⟩
    rw [h0]
    clear h h1 hf hv hvE e0 hA hX k16 k19 hDw hEw
    go_enter Try.func55, Try.ntmps55
    go_wp2_with (refine wpList_store_row rfl 103 (.tmp 4) (.tmp 18) rfl w.heap.size #[.int .i64 0, .int .i64 0, .int .i64 0] rfl rfl 103 _ HX.out (by kernel_rfl) (by rfl) (by kernel_rfl) ?_)
    exact bodyPost_ret (results_cell_tmp_row rfl _ _ w.heap.size 103 _ _ _ rfl (setRow_heap _ _ _ _ _ _ HX.out) Try.underlying103 rfl (by kernel_rfl)) rfl ⟨rfl, HBOX.out _ _ _ HF.out _⟩
  have q0 : ¬ ((b.length : Int) = 0) := by omega
  have q0' : ((b.length : Int) == 0) = false := beq_false_of_ne (by omega)
  obtain ⟨L, hL⟩ : ∃ L, c.S * c.rm = L := ⟨_, rfl⟩
  have hat := hf.at_
  rw [hL] at k16 o5 hat
  by_cases h9 : c.S * c.rm < b.length
  · have e0 : c.append l m b = (l, m, (0, 0, 0), 9) := by unfold Lc.append; rw [if_neg h0, if_pos h9]
    rw [e0]
    have HF : Hid (LgStep w1 D E gl g c l m w1) := Lib.hid ⟨D, E, ⟨_, h1⟩, Grew.refl _ _, Grew.refl _ _, Keep.refl _ _⟩
    have h9' : L < b.length := by rw [← hL]; exact h9
    have q9 : (L : Int) < (b.length : Int) := by omega
    clear h h1 hf hv hvE e0 hA hX k19 hDw hEw hL h9 h9' hat
    go_enter Try.func55, Try.ntmps55
    go_wp2_with (refine wpList_store_row rfl 103 (.tmp 4) (.tmp 28) rfl w.heap.size #[.int .i64 0, .int .i64 0, .int .i64 0] rfl rfl 103 _ HX.out (by kernel_rfl) (by rfl) (by kernel_rfl) ?_)
    exact bodyPost_ret (results_cell_tmp_row rfl _ _ w.heap.size 103 _ _ _ rfl (setRow_heap _ _ _ _ _ _ HX.out) Try.underlying103 rfl (by kernel_rfl)) rfl ⟨rfl, HBOX.out _ _ _ HF.out _⟩
  have hbl : b.length ≤ L := by rw [← hL]; omega
  have q9 : ¬ (L : Int) < (b.length : Int) := by omega
  have eA : c.append l m b = c.tail (c.first l m b.length) b := by unfold Lc.append; rw [if_neg h0, if_neg h9]
  rw [eA]
  have hbegin := fun w9 (k : Keep [] w1 w9) => (beginL_any w9 D E gl g c l m ⟨pv, h1.keep k (by simp)⟩ hf (by omega)).mono (fun e w' h => (⟨h.1, LgStep.of k h.2⟩ : e = .returned (.int .i64 (c.begin_ l m).2.2) ∧ LgStep w1 D E gl g c (c.begin_ l m).1 (c.begin_ l m).2.1 w'))
  have hff : (c.first l m b.length).2.2 = 0 → (c.first l m b.length).1.pend.length < c.rm ∧ (c.first l m b.length).1.at_ + b.length ≤ c.S * c.rm ∧ (c.first l m b.length).1.last ≤ 4398046511104 ∧ (c.first l m b.length).2.1.acts ≤ m.acts + 1 := by
    unfold Lc.first
    split
    · obtain ⟨e1, e2, e3, e4, e5⟩ := c.flush_facts l m
      unfold Lc.begin_
      split
      · intro hz; contradiction
      · intro _
        simp only
        rw [e1, e5]
        exact ⟨by simp; omega, by omega, by omega, e2⟩
    · intro _
      have := hf.pend
      have := Nat.mod_lt l.at_ (show 0 < c.rm by omega)
      exact ⟨by simp only; omega, by simp only; omega, by simp only; omega, by simp⟩
  have hcase : (¬ (L : Int) - (l.at_ : Int) < (b.length : Int) ∧ c.first l m b.length = (l, m, 0)) ∨ ((L : Int) - (l.at_ : Int) < (b.length : Int) ∧ c.first l m b.length = c.begin_ l m ∧ (c.begin_ l m).2.2 ≠ 0) ∨ ((L : Int) - (l.at_ : Int) < (b.length : Int) ∧ c.first l m b.length = c.begin_ l m ∧ (c.begin_ l m).2.2 = 0) := by
    unfold Lc.first
    by_cases hq : c.S * c.rm < l.at_ + b.length
    · rw [if_pos hq]
      rw [hL] at hq
      by_cases hz : (c.begin_ l m).2.2 = 0
      · exact .inr (.inr ⟨by omega, rfl, hz⟩)
      · exact .inr (.inl ⟨by omega, rfl, hz⟩)
    · rw [if_neg hq]
      rw [hL] at hq
      exact .inl ⟨by omega, rfl⟩
  have hXn : w.heap.size ∉ E ++ D := fun hm => (List.mem_append.1 hm).elim (fun h => by have := hEw _ h; omega) (fun h => by have := hDw _ h; omega)
  have HXN := Lib.hid hXn
  clear hXn hX hDw hEw
  have q1 : IntKind.i64.wrap ((L : Int) - (l.at_ : Int)) = (L : Int) - (l.at_ : Int) := i64_wrap (by omega) (by omega)
  have HFF := Lib.hid hff
  have HV := Lib.hid (And.intro (hv.keep hA (by simp)) hvE)
  have hs1 := hA.size
  have hEq : Hid (∀ x, (b ≠ [] → (Value.slice va b.length vc).ownBlock = some x → x < w1.heap.size)) := Lib.hid (fun x hb hx => Nat.lt_of_lt_of_le (hv.lt hb x hx) hA.size)
  have HLL := Lib.hid hL
  clear hff h1 h hf hv hvE hA eA hL h9
  rcases hcase with ⟨hq, e1⟩ | ⟨hq, e1, hz⟩ | ⟨hq, e1, hz⟩
  case' inr.inl =>
    rw [e1]
    have e2 : c.tail (c.begin_ l m) b = ((c.begin_ l m).1, (c.begin_ l m).2.1, (0, 0, 0), (c.begin_ l m).2.2) := by unfold Lc.tail; rw [if_pos hz]
    rw [e2]
    clear e1 e2
    generalize c.begin_ l m = r at hbegin hz
    obtain ⟨l1, m1, z⟩ := r
    simp only at hbegin hz
    have z1 : (z == 0) = false := by simpa using hz
    have z2 : (z != 0) = true := by simpa using hz
    go_enter Try.func55, Try.ntmps55
    go_wp2_with fail
    refine wp_region_his [] [] (fun _ => 0) (by kernel_rfl) (by kernel_rfl) ?_
    intro w9 hk9 hh
    clear hh k16 k19
    have k16 := fun w' (h : Keep [] w9 w') => (H1.out.row.keep (hk9.trans h) (by simp)).k16
    have k19 := fun w' (h : Keep [] w9 w') => (H1.out.row.keep (hk9.trans h) (by simp)).k19
    rw [HLL.out] at k16
    have HK9 := Lib.hid hk9
    clear hk9
    (repeat (first | (refine his_q rfl rfl (fun K hK => ?_); apply Exists.intro; refine ⟨fun w' hC => ?_, ?_⟩; ((try simp [Sg.upd] at hC); go_simp <;> rfl); go_simp; refine hK _ _ ?_; clear hK K) | (refine his_s rfl (fun K hK => ?_); go_simp; refine hK _ _ ?_; clear hK K)))
    refine his_nil ?_
    clear k16 k19 hw1
    go_wp2_with fail
    refine (hbegin w9 HK9.out).mono ?_
    rintro e w2 ⟨rfl, hs⟩
    have hk2 : Keep (E ++ D) w1 w2 := by obtain ⟨_, _, _, _, _, h⟩ := hs; exact h
    have hX2 := hk2.blk HXN.out HX.out
    have HS := Lib.hid hs
    clear hs hk2
    go_wp2_with (refine wpList_store_row rfl 103 (.tmp 4) (.tmp 47) rfl w.heap.size #[.int .i64 0, .int .i64 0, .int .i64 0] rfl rfl 103 _ hX2 (by kernel_rfl) (by rfl) (by kernel_rfl) ?_)
    exact bodyPost_ret (results_cell_tmp_row rfl _ _ w.heap.size 103 _ _ _ rfl (setRow_heap _ _ _ _ _ _ hX2) Try.underlying103 rfl (by kernel_rfl)) rfl ⟨rfl, HBOX.out _ _ _ HS.out _⟩
  case' inl =>
    have hz : (c.first l m b.length).2.2 = 0 := by rw [e1]
    have hst : ∀ w9, Keep [] w1 w9 → LgStep w1 D E gl g c (c.first l m b.length).1 (c.first l m b.length).2.1 w9 := fun w9 k => by rw [e1]; exact ⟨D, E, ⟨_, H1.out.keep k (by simp)⟩, Grew.refl _ _, Grew.refl _ _, k.mono (by simp)⟩
    have HZ := Lib.hid hz
    have HST := Lib.hid hst
    clear hz hst e1 hbegin
    go_enter Try.func55, Try.ntmps55
    go_wp2_with fail
    refine wp_region_his [] [] (fun _ => 0) (by kernel_rfl) (by kernel_rfl) ?_
    intro w9 hk9 hh
    clear hh k16 k19
    have k16 := fun w' (h : Keep [] w9 w') => (H1.out.row.keep (hk9.trans h) (by simp)).k16
    have k19 := fun w' (h : Keep [] w9 w') => (H1.out.row.keep (hk9.trans h) (by simp)).k19
    rw [HLL.out] at k16
    have HK9 := Lib.hid hk9
    clear hk9
    (repeat (first | (refine his_q rfl rfl (fun K hK => ?_); apply Exists.intro; refine ⟨fun w' hC => ?_, ?_⟩; ((try simp [Sg.upd] at hC); go_simp <;> rfl); go_simp; refine hK _ _ ?_; clear hK K) | (refine his_s rfl (fun K hK => ?_); go_simp; refine hK _ _ ?_; clear hK K)))
    refine his_nil ?_
    clear k16 k19 hw1
    have HS2 := Lib.hid (HST.out w9 HK9.out)
    have HX2 := Lib.hid (HK9.out.blk (by simp) HX.out)
    clear HK9 HST
    go_wp2_with fail
  case' inr.inr =>
    have hz2 : (c.first l m b.length).2.2 = 0 := by rw [e1]; exact hz
    rw [← e1] at hbegin
    rw [hz2] at hbegin
    have HZ := Lib.hid hz2
    clear hz hz2 e1
    go_enter Try.func55, Try.ntmps55
    go_wp2_with fail
    refine wp_region_his [] [] (fun _ => 0) (by kernel_rfl) (by kernel_rfl) ?_
    intro w8 hk8 hh
    clear hh k16 k19
    have k16 := fun w' (h : Keep [] w8 w') => (H1.out.row.keep (hk8.trans h) (by simp)).k16
    have k19 := fun w' (h : Keep [] w8 w') => (H1.out.row.keep (hk8.trans h) (by simp)).k19
    rw [HLL.out] at k16
    have HK8 := Lib.hid hk8
    clear hk8
    (repeat (first | (refine his_q rfl rfl (fun K hK => ?_); apply Exists.intro; refine ⟨fun w' hC => ?_, ?_⟩; ((try simp [Sg.upd] at hC); go_simp <;> rfl); go_simp; refine hK _ _ ?_; clear hK K) | (refine his_s rfl (fun K hK => ?_); go_simp; refine hK _ _ ?_; clear hK K)))
    refine his_nil ?_
    clear k16 k19 hw1
    go_wp2_with fail
    refine (hbegin w8 HK8.out).mono ?_
    rintro e w9 ⟨rfl, hs⟩
    have hk2 : Keep (E ++ D) w1 w9 := by obtain ⟨_, _, _, _, _, h⟩ := hs; exact h
    have HX2 := Lib.hid (hk2.blk HXN.out HX.out)
    have HS2 := Lib.hid hs
    clear hs hk2 hbegin HK8
    go_wp2_with fail
  all_goals
    generalize hfr : c.first l m b.length = r at HS2 HZ HFF
    obtain ⟨l1, m1, z⟩ := r
    obtain rfl : z = 0 := HZ.out
    have HFR := Lib.hid hfr
    clear hfr
    obtain ⟨f1, f2, f3, f4⟩ := HFF.out rfl
    simp only at f1 f2 f3 f4
    obtain ⟨D1, E1, ⟨pv1, h2⟩, gD1, gE1, kk1⟩ := HS2.out
    clear HFF HZ HS2 hq
    have H2 := Lib.hid h2
    have HG := Lib.hid (And.intro gD1 (And.intro gE1 kk1))
    clear h2 gD1 gE1 kk1
    refine wp_region_his [] [11, 12] (fun _ => 0) (by kernel_rfl) (by kernel_rfl) ?_
    intro w10 hk10 hh
    clear hh
    have k18 := fun w' (h : Keep [] w10 w') => (H2.out.row.keep (hk10.trans h) (by simp)).k18
    have k19 := fun w' (h : Keep [] w10 w') => (H2.out.row.keep (hk10.trans h) (by simp)).k19
    have HK10 := Lib.hid hk10
    clear hk10
    (repeat (first | (refine his_q rfl rfl (fun K hK => ?_); apply Exists.intro; refine ⟨fun w' hC => ?_, ?_⟩; ((try simp [Sg.upd] at hC); go_simp <;> rfl); go_simp; refine hK _ _ ?_; clear hK K) | (refine his_s rfl (fun K hK => ?_); go_simp; refine hK _ _ ?_; clear hK K)))
    (refine his_l rfl rfl (fun K hK => ?_); go_simp)
    refine hK _ _ ((Keep.refl [] w10).alloc _) ?_
    clear hK K
    (refine his_last rfl (by kernel_rfl) rfl (fun K hK => ?_); go_simp)
    refine hK _ _ ?_
    clear hK K k18 k19
    refine his_nil ?_
    obtain ⟨w11, hw11⟩ : ∃ w11, w10.alloc (.cells #[.int .i64 (l1.last : Int), .int .i64 (l1.at_ : Int), .int .i64 (b.length : Int)] 103) = w11 := ⟨_, rfl⟩
    have hk11 : Keep [] w10 w11 := by rw [← hw11]; exact (Keep.refl [] w10).alloc _
    have hO11 : w11.heap[w10.heap.size]? = some (.cells #[.int .i64 (l1.last : Int), .int .i64 (l1.at_ : Int), .int .i64 (b.length : Int)] 103 (0, 0)) := by rw [← hw11]; exact heap_alloc_new _ _
    rw [hw11]
    have hs11 : w10.heap.size < w11.heap.size := by rw [← hw11]; simp
    clear hw11
    go_wp2
    have hX11 : w11.heap[w.heap.size]? = some (.cells #[.int .i64 0, .int .i64 0, .int .i64 0] 103 (0, 0)) := hk11.blk (by simp) (HK10.out.blk (by simp) HX2.out)
    have h11 := H2.out.keep (HK10.out.trans hk11) (by simp)
    have hlt1 : ∀ x ∈ E1 ++ D1, x < w10.heap.size := fun x hx => by
      have := HK10.out.size
      exact Nat.lt_of_lt_of_le ((List.mem_append.1 hx).elim (H2.out.lt x) (H2.out.dv.lt x)) this
    have hXE : w.heap.size ∉ E1 ++ D1 := fun hm => by
      rcases List.mem_append.1 hm with h | h
      · rcases HG.out.2.1.2 _ h with h | h
        · exact HXN.out (List.mem_append_left _ h)
        · omega
      · rcases HG.out.1.2 _ h with h | h
        · exact HXN.out (List.mem_append_right _ h)
        · omega
    have hbv : Bytes w11 (.slice va b.length vc) b := by
      refine (HV.out.1.keep HG.out.2.2 (fun x hx => ?_)).keep (HK10.out.trans hk11) (by simp)
      exact HV.out.2 (fun e => h0 (by rw [e]; rfl)) x hx
    have H11 := Lib.hid (And.intro hX11 (And.intro hO11 (And.intro hlt1 hXE)))
    have HK11 := Lib.hid (HK10.out.trans hk11)
    have hlf : l1.last ≤ 4398046511104 := f3
    go_loopw [1] (fun v wr => ∃ (f : Nat) (l2 : Lg) (m2 : Dev) (b2 : List UInt8) (D2 E2 : List Nat) (va2 : Option Addr) (vc2 N : Nat), v = .slice va2 N vc2 ∧ Hid (b2.length = N) ∧ Hid (Bytes wr (.slice va2 N vc2) b2) ∧ Hid (b2 ≠ [] → ∀ x, va2.map (·.block) = some x → x < w1.heap.size ∧ x ∉ E ++ D) ∧ Hid (RV wr D2 E2 gl g c l2 m2) ∧ Hid (ApInv c l1 m1 b f l2 m2 b2) ∧ Hid (Grew w11 D1 D2 ∧ Grew w11 E1 E2 ∧ Keep (E1 ++ D1) w11 wr)) (fun v _ => match v with | .slice _ n _ => n | _ => 0)
    case atStart =>
      refine ⟨b.length, l1, m1, b, D1, E1, va, vc, b.length, rfl, rfl, hbv, ?_, ⟨_, h11⟩, ⟨rfl, Nat.le_refl _, f1, f2, rfl, by omega, Nat.le_refl _⟩, Grew.refl _ _, Grew.refl _ _, Keep.refl _ _⟩
      intro hb x hx
      have hx' : (Value.slice va b.length vc).ownBlock = some x := by cases va <;> simp_all [Value.ownBlock]
      exact ⟨hEq.out x hb hx', HV.out.2 hb x hx'⟩
    case round =>
      clear hbv h11 hX11 hO11 hlt1 hXE hk11 hs11
      obtain ⟨f, l2, m2, b2, D2, E2, va2, vc2, N, rfl, hN, hB, hBE, hR, hI, hS⟩ := hrel
      by_cases hb2 : N = 0
      · subst hb2
        have e2 : b2 = [] := List.eq_nil_of_length_eq_zero hN.out
        have ht : c.tail (c.first l m b.length) b = (l2, m2, (l1.last, l1.at_, b.length), 0) := by
          rw [HFR.out]
          unfold Lc.tail
          rw [if_neg (by simp), hI.out.eq, e2, app_nil, if_neg (by simp)]
        have HT := Lib.hid ht
        have hOX := hS.out.2.2.blk (fun hm => Nat.lt_irrefl _ (H11.out.2.2.1 _ hm)) H11.out.2.1
        have y0 := cell_of_row wr _ 0 _ _ _ hOX
        have y1 := cell_of_row wr _ 1 _ _ _ hOX
        have y2 := cell_of_row wr _ 2 _ _ _ hOX
        simp at y0 y1 y2
        have hXX := hS.out.2.2.blk H11.out.2.2.2 H11.out.1
        have HF : Hid (LgStep w1 D E gl g c l2 m2 wr) := Lib.hid (LgStep.join HG.out.1 HG.out.2.1 (HG.out.2.2.trans (HK11.out.mono (by simp))) hR.out hS.out.1 hS.out.2.1 hS.out.2.2)
        clear ht e2 hOX
        go_wp2_with (refine wpList_store_row rfl 103 (.tmp 4) (.tmp 114) rfl w.heap.size #[.int .i64 (l1.last : Int), .int .i64 (l1.at_ : Int), .int .i64 (b.length : Int)] rfl rfl 103 _ hXX (by kernel_rfl) (by rfl) (by kernel_rfl) ?_)
        exact bodyPost_ret (results_cell_tmp_row rfl _ _ w.heap.size 103 _ _ _ rfl (setRow_heap _ _ _ _ _ _ hXX) Try.underlying103 rfl (by kernel_rfl)) rfl (by rw [HT.out]; exact ⟨rfl, HBOX.out _ _ _ HF.out _⟩)
      · obtain ⟨pv2, r2⟩ := hR.out
        obtain ⟨pa2, pc2, rfl⟩ := ownsRow_form r2.own
        obtain ⟨P, hP⟩ : ∃ P, l2.pend.length = P := ⟨_, rfl⟩
        have hPr : P < c.rm := by rw [← hP]; exact hI.out.pend
        obtain ⟨KK, hKK⟩ : ∃ KK, c.rm - P = KK := ⟨_, rfl⟩
        have hroom : l2.at_ + N ≤ L := by have := hI.out.room; rw [hN.out, HLL.out] at this; exact this
        have q2 : IntKind.i64.wrap ((c.rm : Int) - (P : Int)) = (KK : Int) := by rw [i64_wrap (by omega) (by omega)]; omega
        obtain ⟨bx, bo, rfl, -, -⟩ := hB.out.spot (by rw [hN.out]; omega)
        have hNv : (N : Int) ≤ (vc2 : Int) := by
          obtain ⟨_, _, e, h1, -⟩ := hB.out
          cases e
          rw [hN.out] at h1
          omega
        have hN0 : (0 : Int) < (N : Int) := by omega
        have hvc2 : vc2 ≤ 9223372036854775807 := by
          obtain ⟨_, _, e, -, h1, -⟩ := hB.out
          cases e
          exact h1.1
        have HP := Lib.hid hP
        have R2 := Lib.hid r2
        clear hP r2
        by_cases hmi : N ≤ KK
        · have hmi' : (N : Int) ≤ (KK : Int) := by omega
          have hmi2 : ¬ (KK : Int) < (N : Int) := by omega
          go_wp2_with fail
          refine wp_region_his [] [] (fun _ => 0) (by kernel_rfl) (by kernel_rfl) ?_
          intro w12 hk12 hh
          clear hh
          have k17 := fun w' (h : Keep [] w12 w') => (R2.out.row.keep (hk12.trans h) (by simp)).k17
          have k20 := fun w' (h : Keep [] w12 w') => (R2.out.row.keep (hk12.trans h) (by simp)).k20
          rw [HP.out] at k20
          have HK12 := Lib.hid hk12
          clear hk12
          (repeat (first | (refine his_q rfl rfl (fun K hK => ?_); apply Exists.intro; refine ⟨fun w' hC => ?_, ?_⟩; ((try simp [Sg.upd] at hC); go_simp <;> rfl); go_simp; refine hK _ _ ?_; clear hK K) | (refine his_s rfl (fun K hK => ?_); go_simp; refine hK _ _ ?_; clear hK K)))
          refine his_nil ?_
          clear k17 k20 q2 hmi
          go_wp2_with fail
          refine wp_region_his (Value.slice pa2 P pc2).ownBlock.toList [8, 11] (fun _ => 0) (by kernel_rfl) (by kernel_rfl) ?_
          intro w13 hk13 hh
          clear hh
          have r13 := R2.out.keep (HK12.out.trans hk13) (by simp)
          rw [HP.out] at r13
          have hgS : gl ∉ (Value.slice pa2 P pc2).ownBlock.toList := fun hm => by
            rw [Option.mem_toList] at hm
            exact r13.ne _ hm rfl
          have k20 := fun w' (h : Keep (Value.slice pa2 P pc2).ownBlock.toList w13 w') => (r13.row.keep h hgS).k20
          have hsrc := ((hB.out.keep (HK12.out.trans hk13) (by simp)).take (k := N) (by rw [hN.out]; omega))
          obtain ⟨pv3, w14, hrun, ho3, hk14, hloc⟩ := run_append_bytes_at (P := Try.prog) (ty := 42) 0 Try.underlying42 (by kernel_rfl) r13.own hsrc (by rw [HP.out, List.length_take, hN.out]; omega) (Nat.zero_le _)
          obtain ⟨pa3, pc3, rfl⟩ := ownsRow_form ho3
          obtain ⟨M, hM⟩ : ∃ M, (l2.pend ++ b2.take N).length = M := ⟨_, rfl⟩
          have hM2 : M = P + N := by rw [← hM, List.length_append, HP.out, List.length_take, hN.out]; omega
          rw [hM] at hrun ho3 hloc
          have f20 := (r13.row.keep hk14 hgS).free 20
          have c20 := (r13.row.keep hk14 hgS).k20
          have hg := r13.grown ho3 hk14 hloc
          have HM2 := Lib.hid hM2
          have HR := Lib.hid hrun
          have HG3 := Lib.hid hg
          have HK13 := Lib.hid hk13
          clear hrun hsrc hk13 ho3 hloc hg r13 hM hM2
          (repeat (first | (refine his_q rfl rfl (fun K hK => ?_); apply Exists.intro; refine ⟨fun w' hC => ?_, ?_⟩; ((try simp [Sg.upd] at hC); go_simp <;> rfl); go_simp; refine hK _ _ ?_; clear hK K) | (refine his_s rfl (fun K hK => ?_); go_simp; refine hK _ _ ?_; clear hK K)))
          refine his_l rfl rfl (fun K' hK' => ?_)
          refine loudly_append_run (.tmp 80) (.tmp 83) 42 rfl rfl rfl HR.out ?_
          refine hK' _ _ hk14 ?_
          clear hK' K'
          (repeat (first | (refine his_q rfl rfl (fun K hK => ?_); apply Exists.intro; refine ⟨fun w' hC => ?_, ?_⟩; ((try simp [Sg.upd] at hC); go_simp <;> rfl); go_simp; refine hK _ _ ?_; clear hK K) | (refine his_s rfl (fun K hK => ?_); go_simp; refine hK _ _ ?_; clear hK K)))
          (refine his_last rfl (by kernel_rfl) rfl (fun K hK => ?_); go_simp)
          refine hK _ _ ?_
          clear hK K k20 f20 c20
          refine his_nil ?_
          obtain ⟨w15, hw15⟩ : ∃ w15, w14.setCell ⟨gl, 20, none⟩ (.slice pa3 M pc3) = w15 := ⟨_, rfl⟩
          rw [hw15]
          rw [hw15] at HG3
          clear hw15 hk14 hgS HR
          obtain ⟨r15, hk15⟩ := HG3.out
          have k19 := r15.row.k19
          have f19 := r15.row.free 19
          have r16 := r15.setAt (l2.at_ + N)
          rw [show (((l2.at_ + N : Nat)) : Int) = (l2.at_ : Int) + (N : Int) by push_cast; rfl] at r16
          obtain ⟨w16, hw16⟩ : ∃ w16, w15.setCell ⟨gl, 19, none⟩ (.int .i64 ((l2.at_ : Int) + (N : Int))) = w16 := ⟨_, rfl⟩
          rw [hw16] at r16
          have HR16 := Lib.hid (And.intro r16.1 (And.intro hk15 r16.2))
          clear r15 r16 hk15 HG3
          by_cases hcn : vc2 = N
          all_goals
            go_wp2_with fail
            obtain ⟨r16, hk15, hk16⟩ := HR16.out
            have hk316 : Keep E2 w13 w16 := by
              refine (hk15.mono (fun x hx => ?_)).trans (hk16.mono (fun x hx => by rw [List.mem_singleton.1 hx]; exact R2.out.gl))
              rcases List.mem_append.1 hx with hx | hx
              · rw [Option.mem_toList] at hx
                have := R2.out.inE
                rw [HP.out] at this
                exact this x hx
              · rw [List.mem_singleton.1 hx]; exact R2.out.gl
            have hmore : ({ l2 with at_ := l2.at_ + N, pend := l2.pend ++ b2.take N } : Lg) = c.more l2 b2 := by
              have e : min b2.length (c.rm - l2.pend.length) = N := by rw [hN.out, HP.out]; omega
              unfold Lc.more
              rw [e]
            refine wp_region_his [] [] (fun _ => 0) (by kernel_rfl) (by kernel_rfl) ?_
            intro w17 hk17 hh
            clear hh
            have k17 := fun w' (h : Keep [] w17 w') => (r16.row.keep (hk17.trans h) (by simp)).k17
            have k20 := fun w' (h : Keep [] w17 w') => (r16.row.keep (hk17.trans h) (by simp)).k20
            have hwr13 : Keep [] wr w13 := HK12.out.trans HK13.out
            have hk217 : Keep E2 wr w17 := ((hwr13.mono (by simp)).trans hk316).trans (hk17.mono (by simp))
            have r17 : RV w17 D2 (E2 ++ newer w13 w15) gl g c (c.more l2 b2) m2 := ⟨_, by rw [← hmore]; exact r16.keep hk17 (by simp)⟩
            have hgE : Grew wr E2 (E2 ++ newer w13 w15) := ⟨fun x hx => List.mem_append_left _ hx, fun x hx => (List.mem_append.1 hx).elim .inl (fun h => .inr (Nat.le_trans hwr13.size (mem_newer.1 h).1))⟩
            have hj := grew_join hS.out ⟨Grew.refl _ _, hgE, hk217.mono (fun x hx => List.mem_append_left _ hx)⟩
            have hmp : (c.more l2 b2).pend.length = M := by rw [← hmore]; show (l2.pend ++ b2.take N).length = M; rw [List.length_append, HP.out, List.length_take, hN.out, HM2.out]; omega
            have hma : (c.more l2 b2).at_ = l2.at_ + N := by rw [← hmore]
            have hml : (c.more l2 b2).last = l2.last := rfl
            have R17 := Lib.hid (And.intro r17 (And.intro hj (And.intro hmp (And.intro hma hml))))
            have HGE := Lib.hid (And.intro hgE hk217)
            clear r16 hk15 hk16 hk316 hmore hwr13 hk217 r17 hgE hj hmp hma hml hk17
            obtain ⟨f', rfl⟩ : ∃ f', f = f' + 1 := ⟨f - 1, by have := hI.out.fuel; rw [hN.out] at this; omega⟩
            have hstep := app_step c f' l2 m2 b2 (fun e => hb2 (by rw [← hN.out, e]; rfl))
            have HSTEP := Lib.hid hstep
            clear hstep
            by_cases hfull : M < c.rm
            · have hfi : (M : Int) < (c.rm : Int) := by omega
              (repeat (first | (refine his_q rfl rfl (fun K hK => ?_); apply Exists.intro; refine ⟨fun w' hC => ?_, ?_⟩; ((try simp [Sg.upd] at hC); go_simp <;> rfl); go_simp; refine hK _ _ ?_; clear hK K) | (refine his_s rfl (fun K hK => ?_); go_simp; refine hK _ _ ?_; clear hK K)))
              refine his_nil ?_
              clear k17 k20
              have ea : c.app b.length l1 m1 b = (c.more l2 b2, m2, 0) := by rw [hI.out.eq, HSTEP.out, if_pos (by rw [R17.out.2.2.1]; exact hfull)]
              have ht : c.tail (c.first l m b.length) b = (c.more l2 b2, m2, (l1.last, l1.at_, b.length), 0) := by
                rw [HFR.out]
                unfold Lc.tail
                rw [if_neg (by simp), ea, if_neg (by simp)]
              have HT := Lib.hid ht
              have hOX := R17.out.2.1.2.2.blk (fun hm => Nat.lt_irrefl _ (H11.out.2.2.1 _ hm)) H11.out.2.1
              have y0 := cell_of_row w17 _ 0 _ _ _ hOX
              have y1 := cell_of_row w17 _ 1 _ _ _ hOX
              have y2 := cell_of_row w17 _ 2 _ _ _ hOX
              simp at y0 y1 y2
              have hXX := R17.out.2.1.2.2.blk H11.out.2.2.2 H11.out.1
              have HF : Hid (LgStep w1 D E gl g c (c.more l2 b2) m2 w17) := Lib.hid (LgStep.join HG.out.1 HG.out.2.1 (HG.out.2.2.trans (HK11.out.mono (by simp))) R17.out.1 R17.out.2.1.1 R17.out.2.1.2.1 R17.out.2.1.2.2)
              clear ht hOX ea
              go_wp2_with (refine wpList_store_row rfl 103 (.tmp 4) (.tmp 114) rfl w.heap.size #[.int .i64 (l1.last : Int), .int .i64 (l1.at_ : Int), .int .i64 (b.length : Int)] rfl rfl 103 _ hXX (by kernel_rfl) (by rfl) (by kernel_rfl) ?_)
              exact bodyPost_ret (results_cell_tmp_row rfl _ _ w.heap.size 103 _ _ _ rfl (setRow_heap _ _ _ _ _ _ hXX) Try.underlying103 rfl (by kernel_rfl)) rfl (by rw [HT.out]; exact ⟨rfl, HBOX.out _ _ _ HF.out _⟩)
            · have hfi : ¬ (M : Int) < (c.rm : Int) := by omega
              (repeat (first | (refine his_q rfl rfl (fun K hK => ?_); apply Exists.intro; refine ⟨fun w' hC => ?_, ?_⟩; ((try simp [Sg.upd] at hC); go_simp <;> rfl); go_simp; refine hK _ _ ?_; clear hK K) | (refine his_s rfl (fun K hK => ?_); go_simp; refine hK _ _ ?_; clear hK K)))
              refine his_nil ?_
              clear k17 k20
              have hwrite := writeL_any w17 D2 (E2 ++ newer w13 w15) gl g c (c.more l2 b2) m2 R17.out.1 (by have := hI.out.acts; omega) (by rw [R17.out.2.2.2.1, HLL.out]; omega) (by rw [R17.out.2.2.2.1]; omega) (by rw [R17.out.2.2.1, HM2.out]; omega) (by rw [R17.out.2.2.2.2, hI.out.last]; omega)
              have hwf := wr_facts c (c.more l2 b2) m2
              have HW := Lib.hid hwf
              clear hwf
              by_cases hz : (c.wr (c.more l2 b2) m2).2.2 = 0
              · rw [hz] at hwrite
                go_wp2_with fail
                refine hwrite.mono ?_
                rintro e w18 ⟨rfl, D3, E3, r18, g18, e18, k18⟩
                have hj := grew_join R17.out.2.1 ⟨g18, e18, k18⟩
                have HJ := Lib.hid (And.intro r18 hj)
                have HK18 := Lib.hid (And.intro g18 (And.intro e18 k18))
                clear hwrite r18 g18 e18 k18 hj
                have hn1 : 1 ≤ N := by omega
                have hbx := hBE.out (fun e => hb2 (by rw [← hN.out, e]; rfl)) bx rfl
                have hbE1 : bx ∉ E1 ++ D1 := fun hm => by
                  rcases List.mem_append.1 hm with h | h
                  · exact (HG.out.2.1.2 _ h).elim (fun h => hbx.2 (List.mem_append_left _ h)) (fun h => by omega)
                  · exact (HG.out.1.2 _ h).elim (fun h => hbx.2 (List.mem_append_right _ h)) (fun h => by omega)
                have hw1s : w1.heap.size ≤ w13.heap.size := by
                  have q1 := HG.out.2.2.size
                  have q2 := HK11.out.size
                  have q3 := hS.out.2.2.size
                  have q4 := HK12.out.size
                  have q5 := HK13.out.size
                  omega
                have hw1w : w1.heap.size ≤ w11.heap.size := by
                  have q1 := HG.out.2.2.size
                  have q2 := HK11.out.size
                  omega
                have hbE2 : bx ∉ E2 := fun hm => (hS.out.2.1.2 _ hm).elim (fun h => hbE1 (List.mem_append_left _ h)) (fun h => by have := hbx.1; omega)
                have hbD2 : bx ∉ D2 := fun hm => (hS.out.1.2 _ hm).elim (fun h => hbE1 (List.mem_append_right _ h)) (fun h => by have := hbx.1; omega)
                have hB18 := (hB.out.keep HGE.out.2 (fun x hx hm => by simp [Value.ownBlock] at hx; subst hx; exact hbE2 hm)).keep HK18.out.2.2 (fun x hx hm => by
                  simp only [Value.ownBlock, Option.some.injEq] at hx
                  subst hx
                  rcases List.mem_append.1 hm with h | h
                  · rcases List.mem_append.1 h with h | h
                    · exact hbE2 h
                    · have := (mem_newer.1 h).1; have := hbx.1; omega
                  · exact hbD2 h)
                have hdr := hB18.drop (k := N) (by rw [hN.out]; omega)
                rw [hN.out] at hdr
                have hap : ApInv c l1 m1 b f' (c.wr (c.more l2 b2) m2).1 (c.wr (c.more l2 b2) m2).2.1 (b2.drop N) := by
                  have e : min b2.length (c.rm - l2.pend.length) = N := by rw [hN.out, HP.out]; omega
                  have hq := hI.out.acts
                  have hq2 := HW.out.2.1
                  have hq3 := hI.out.less
                  have hq4 := hI.out.fuel
                  have hq5 := hI.out.room
                  rw [hN.out] at hq hq3 hq4 hq5
                  refine ⟨?_, ?_, ?_, ?_, ?_, ?_, ?_⟩
                  · rw [hI.out.eq, HSTEP.out, if_neg (by rw [R17.out.2.2.1]; exact hfull), if_neg (by rw [hz]; simp), e]
                  · rw [List.length_drop, hN.out]; omega
                  · rw [HW.out.1]; show 0 < c.rm; omega
                  · rw [HW.out.1, List.length_drop, hN.out]; show (c.more l2 b2).at_ + _ ≤ _; rw [R17.out.2.2.2.1]; omega
                  · rw [HW.out.1]; exact hI.out.last
                  · rw [List.length_drop, hN.out]; omega
                  · rw [List.length_drop, hN.out]; omega
                have hlen : (b2.drop N).length = N - N := by rw [List.length_drop, hN.out]
                have HDR := Lib.hid (And.intro hdr (And.intro hap (And.intro hlen hbx)))
                clear hdr hap hlen hbx hB18 hbE1 hbE2 hbD2 hw1s hw1w
                go_wp2
                go_roundw
                case rel => exact ⟨f', _, _, b2.drop N, D3, E3, _, _, _, rfl, (by have := HDR.out.2.2.1; simpa [Hid] using this), (by have := HDR.out.1; simpa [hcn, Hid, Addr.add_lit] using this), fun _ x hx => (by simp at hx; subst hx; exact HDR.out.2.2.2), HJ.out.1, HDR.out.2.1, HJ.out.2⟩
                case measure => simp; omega
              · have z1 : ((c.wr (c.more l2 b2) m2).2.2 == 0) = false := by simpa using hz
                have z2 : ((c.wr (c.more l2 b2) m2).2.2 != 0) = true := by simpa using hz
                have ea : c.app b.length l1 m1 b = c.wr (c.more l2 b2) m2 := by rw [hI.out.eq, HSTEP.out, if_neg (by rw [R17.out.2.2.1]; exact hfull), if_pos hz]
                have ht : c.tail (c.first l m b.length) b = ((c.wr (c.more l2 b2) m2).1, (c.wr (c.more l2 b2) m2).2.1, (0, 0, 0), (c.wr (c.more l2 b2) m2).2.2) := by
                  rw [HFR.out]
                  unfold Lc.tail
                  rw [if_neg (by simp), ea, if_pos hz]
                have HT := Lib.hid ht
                clear ht ea
                go_wp2_with fail
                refine hwrite.mono ?_
                rintro e w18 ⟨rfl, D3, E3, r18, g18, e18, k18⟩
                have hj := grew_join R17.out.2.1 ⟨g18, e18, k18⟩
                have hXX := hj.2.2.blk H11.out.2.2.2 H11.out.1
                have HF : Hid (LgStep w1 D E gl g c (c.wr (c.more l2 b2) m2).1 (c.wr (c.more l2 b2) m2).2.1 w18) := Lib.hid (LgStep.join HG.out.1 HG.out.2.1 (HG.out.2.2.trans (HK11.out.mono (by simp))) r18 hj.1 hj.2.1 hj.2.2)
                clear hwrite r18 g18 e18 k18 hj
                go_wp2_with (refine wpList_store_row rfl 103 (.tmp 4) (.tmp 112) rfl w.heap.size #[.int .i64 0, .int .i64 0, .int .i64 0] rfl rfl 103 _ hXX (by kernel_rfl) (by rfl) (by kernel_rfl) ?_)
                exact bodyPost_ret (results_cell_tmp_row rfl _ _ w.heap.size 103 _ _ _ rfl (setRow_heap _ _ _ _ _ _ hXX) Try.underlying103 rfl (by kernel_rfl)) rfl (by rw [HT.out]; exact ⟨rfl, HBOX.out _ _ _ HF.out _⟩)
        · have hmi' : ¬ (N : Int) ≤ (KK : Int) := by omega
          have hmi2 : (KK : Int) < (N : Int) := by omega
          have hKN : (KK : Int) ≤ (N : Int) := by omega
          have hKv : (KK : Int) ≤ (vc2 : Int) := by omega
          go_wp2_with fail
          refine wp_region_his [] [] (fun _ => 0) (by kernel_rfl) (by kernel_rfl) ?_
          intro w12 hk12 hh
          clear hh
          have k17 := fun w' (h : Keep [] w12 w') => (R2.out.row.keep (hk12.trans h) (by simp)).k17
          have k20 := fun w' (h : Keep [] w12 w') => (R2.out.row.keep (hk12.trans h) (by simp)).k20
          rw [HP.out] at k20
          have HK12 := Lib.hid hk12
          clear hk12
          (repeat (first | (refine his_q rfl rfl (fun K hK => ?_); apply Exists.intro; refine ⟨fun w' hC => ?_, ?_⟩; ((try simp [Sg.upd] at hC); go_simp <;> rfl); go_simp; refine hK _ _ ?_; clear hK K) | (refine his_s rfl (fun K hK => ?_); go_simp; refine hK _ _ ?_; clear hK K)))
          refine his_nil ?_
          clear k17 k20 q2 hmi
          go_wp2_with fail
          refine wp_region_his (Value.slice pa2 P pc2).ownBlock.toList [8, 11] (fun _ => 0) (by kernel_rfl) (by kernel_rfl) ?_
          intro w13 hk13 hh
          clear hh
          have r13 := R2.out.keep (HK12.out.trans hk13) (by simp)
          rw [HP.out] at r13
          have hgS : gl ∉ (Value.slice pa2 P pc2).ownBlock.toList := fun hm => by
            rw [Option.mem_toList] at hm
            exact r13.ne _ hm rfl
          have k20 := fun w' (h : Keep (Value.slice pa2 P pc2).ownBlock.toList w13 w') => (r13.row.keep h hgS).k20
          have hsrc := ((hB.out.keep (HK12.out.trans hk13) (by simp)).take (k := KK) (by rw [hN.out]; omega))
          obtain ⟨pv3, w14, hrun, ho3, hk14, hloc⟩ := run_append_bytes_at (P := Try.prog) (ty := 42) 0 Try.underlying42 (by kernel_rfl) r13.own hsrc (by rw [HP.out, List.length_take, hN.out]; omega) (Nat.zero_le _)
          obtain ⟨pa3, pc3, rfl⟩ := ownsRow_form ho3
          obtain ⟨M, hM⟩ : ∃ M, (l2.pend ++ b2.take KK).length = M := ⟨_, rfl⟩
          have hM2 : M = P + KK := by rw [← hM, List.length_append, HP.out, List.length_take, hN.out]; omega
          rw [hM] at hrun ho3 hloc
          have f20 := (r13.row.keep hk14 hgS).free 20
          have c20 := (r13.row.keep hk14 hgS).k20
          have hg := r13.grown ho3 hk14 hloc
          have HM2 := Lib.hid hM2
          have HR := Lib.hid hrun
          have HG3 := Lib.hid hg
          have HK13 := Lib.hid hk13
          clear hrun hsrc hk13 ho3 hloc hg r13 hM hM2
          (repeat (first | (refine his_q rfl rfl (fun K hK => ?_); apply Exists.intro; refine ⟨fun w' hC => ?_, ?_⟩; ((try simp [Sg.upd] at hC); go_simp <;> rfl); go_simp; refine hK _ _ ?_; clear hK K) | (refine his_s rfl (fun K hK => ?_); go_simp; refine hK _ _ ?_; clear hK K)))
          refine his_l rfl rfl (fun K' hK' => ?_)
          refine loudly_append_run (.tmp 80) (.tmp 83) 42 rfl rfl rfl HR.out ?_
          refine hK' _ _ hk14 ?_
          clear hK' K'
          (repeat (first | (refine his_q rfl rfl (fun K hK => ?_); apply Exists.intro; refine ⟨fun w' hC => ?_, ?_⟩; ((try simp [Sg.upd] at hC); go_simp <;> rfl); go_simp; refine hK _ _ ?_; clear hK K) | (refine his_s rfl (fun K hK => ?_); go_simp; refine hK _ _ ?_; clear hK K)))
          (refine his_last rfl (by kernel_rfl) rfl (fun K hK => ?_); go_simp)
          refine hK _ _ ?_
          clear hK K k20 f20 c20
          refine his_nil ?_
          obtain ⟨w15, hw15⟩ : ∃ w15, w14.setCell ⟨gl, 20, none⟩ (.slice pa3 M pc3) = w15 := ⟨_, rfl⟩
          rw [hw15]
          rw [hw15] at HG3
          clear hw15 hk14 hgS HR
          obtain ⟨r15, hk15⟩ := HG3.out
          have k19 := r15.row.k19
          have f19 := r15.row.free 19
          have r16 := r15.setAt (l2.at_ + KK)
          rw [show (((l2.at_ + KK : Nat)) : Int) = (l2.at_ : Int) + (KK : Int) by push_cast; rfl] at r16
          obtain ⟨w16, hw16⟩ : ∃ w16, w15.setCell ⟨gl, 19, none⟩ (.int .i64 ((l2.at_ : Int) + (KK : Int))) = w16 := ⟨_, rfl⟩
          rw [hw16] at r16
          have HR16 := Lib.hid (And.intro r16.1 (And.intro hk15 r16.2))
          clear r15 r16 hk15 HG3
          have hcn : ¬ vc2 = KK := by omega
          all_goals
            go_wp2_with fail
            obtain ⟨r16, hk15, hk16⟩ := HR16.out
            have hk316 : Keep E2 w13 w16 := by
              refine (hk15.mono (fun x hx => ?_)).trans (hk16.mono (fun x hx => by rw [List.mem_singleton.1 hx]; exact R2.out.gl))
              rcases List.mem_append.1 hx with hx | hx
              · rw [Option.mem_toList] at hx
                have := R2.out.inE
                rw [HP.out] at this
                exact this x hx
              · rw [List.mem_singleton.1 hx]; exact R2.out.gl
            have hmore : ({ l2 with at_ := l2.at_ + KK, pend := l2.pend ++ b2.take KK } : Lg) = c.more l2 b2 := by
              have e : min b2.length (c.rm - l2.pend.length) = KK := by rw [hN.out, HP.out]; omega
              unfold Lc.more
              rw [e]
            refine wp_region_his [] [] (fun _ => 0) (by kernel_rfl) (by kernel_rfl) ?_
            intro w17 hk17 hh
            clear hh
            have k17 := fun w' (h : Keep [] w17 w') => (r16.row.keep (hk17.trans h) (by simp)).k17
            have k20 := fun w' (h : Keep [] w17 w') => (r16.row.keep (hk17.trans h) (by simp)).k20
            have hwr13 : Keep [] wr w13 := HK12.out.trans HK13.out
            have hk217 : Keep E2 wr w17 := ((hwr13.mono (by simp)).trans hk316).trans (hk17.mono (by simp))
            have r17 : RV w17 D2 (E2 ++ newer w13 w15) gl g c (c.more l2 b2) m2 := ⟨_, by rw [← hmore]; exact r16.keep hk17 (by simp)⟩
            have hgE : Grew wr E2 (E2 ++ newer w13 w15) := ⟨fun x hx => List.mem_append_left _ hx, fun x hx => (List.mem_append.1 hx).elim .inl (fun h => .inr (Nat.le_trans hwr13.size (mem_newer.1 h).1))⟩
            have hj := grew_join hS.out ⟨Grew.refl _ _, hgE, hk217.mono (fun x hx => List.mem_append_left _ hx)⟩
            have hmp : (c.more l2 b2).pend.length = M := by rw [← hmore]; show (l2.pend ++ b2.take KK).length = M; rw [List.length_append, HP.out, List.length_take, hN.out, HM2.out]; omega
            have hma : (c.more l2 b2).at_ = l2.at_ + KK := by rw [← hmore]
            have hml : (c.more l2 b2).last = l2.last := rfl
            have R17 := Lib.hid (And.intro r17 (And.intro hj (And.intro hmp (And.intro hma hml))))
            have HGE := Lib.hid (And.intro hgE hk217)
            clear r16 hk15 hk16 hk316 hmore hwr13 hk217 r17 hgE hj hmp hma hml hk17
            obtain ⟨f', rfl⟩ : ∃ f', f = f' + 1 := ⟨f - 1, by have := hI.out.fuel; rw [hN.out] at this; omega⟩
            have hstep := app_step c f' l2 m2 b2 (fun e => hb2 (by rw [← hN.out, e]; rfl))
            have HSTEP := Lib.hid hstep
            clear hstep
            by_cases hfull : M < c.rm
            · have hfi : (M : Int) < (c.rm : Int) := by omega
              (repeat (first | (refine his_q rfl rfl (fun K hK => ?_); apply Exists.intro; refine ⟨fun w' hC => ?_, ?_⟩; ((try simp [Sg.upd] at hC); go_simp <;> rfl); go_simp; refine hK _ _ ?_; clear hK K) | (refine his_s rfl (fun K hK => ?_); go_simp; refine hK _ _ ?_; clear hK K)))
              refine his_nil ?_
              clear k17 k20
              have ea : c.app b.length l1 m1 b = (c.more l2 b2, m2, 0) := by rw [hI.out.eq, HSTEP.out, if_pos (by rw [R17.out.2.2.1]; exact hfull)]
              have ht : c.tail (c.first l m b.length) b = (c.more l2 b2, m2, (l1.last, l1.at_, b.length), 0) := by
                rw [HFR.out]
                unfold Lc.tail
                rw [if_neg (by simp), ea, if_neg (by simp)]
              have HT := Lib.hid ht
              have hOX := R17.out.2.1.2.2.blk (fun hm => Nat.lt_irrefl _ (H11.out.2.2.1 _ hm)) H11.out.2.1
              have y0 := cell_of_row w17 _ 0 _ _ _ hOX
              have y1 := cell_of_row w17 _ 1 _ _ _ hOX
              have y2 := cell_of_row w17 _ 2 _ _ _ hOX
              simp at y0 y1 y2
              have hXX := R17.out.2.1.2.2.blk H11.out.2.2.2 H11.out.1
              have HF : Hid (LgStep w1 D E gl g c (c.more l2 b2) m2 w17) := Lib.hid (LgStep.join HG.out.1 HG.out.2.1 (HG.out.2.2.trans (HK11.out.mono (by simp))) R17.out.1 R17.out.2.1.1 R17.out.2.1.2.1 R17.out.2.1.2.2)
              clear ht hOX ea
              go_wp2_with (refine wpList_store_row rfl 103 (.tmp 4) (.tmp 114) rfl w.heap.size #[.int .i64 (l1.last : Int), .int .i64 (l1.at_ : Int), .int .i64 (b.length : Int)] rfl rfl 103 _ hXX (by kernel_rfl) (by rfl) (by kernel_rfl) ?_)
              exact bodyPost_ret (results_cell_tmp_row rfl _ _ w.heap.size 103 _ _ _ rfl (setRow_heap _ _ _ _ _ _ hXX) Try.underlying103 rfl (by kernel_rfl)) rfl (by rw [HT.out]; exact ⟨rfl, HBOX.out _ _ _ HF.out _⟩)
            · have hfi : ¬ (M : Int) < (c.rm : Int) := by omega
              (repeat (first | (refine his_q rfl rfl (fun K hK => ?_); apply Exists.intro; refine ⟨fun w' hC => ?_, ?_⟩; ((try simp [Sg.upd] at hC); go_simp <;> rfl); go_simp; refine hK _ _ ?_; clear hK K) | (refine his_s rfl (fun K hK => ?_); go_simp; refine hK _ _ ?_; clear hK K)))
              refine his_nil ?_
              clear k17 k20
              have hwrite := writeL_any w17 D2 (E2 ++ newer w13 w15) gl g c (c.more l2 b2) m2 R17.out.1 (by have := hI.out.acts; omega) (by rw [R17.out.2.2.2.1, HLL.out]; omega) (by rw [R17.out.2.2.2.1]; omega) (by rw [R17.out.2.2.1, HM2.out]; omega) (by rw [R17.out.2.2.2.2, hI.out.last]; omega)
              have hwf := wr_facts c (c.more l2 b2) m2
              have HW := Lib.hid hwf
              clear hwf
              by_cases hz : (c.wr (c.more l2 b2) m2).2.2 = 0
              · rw [hz] at hwrite
                go_wp2_with fail
                refine hwrite.mono ?_
                rintro e w18 ⟨rfl, D3, E3, r18, g18, e18, k18⟩
                have hj := grew_join R17.out.2.1 ⟨g18, e18, k18⟩
                have HJ := Lib.hid (And.intro r18 hj)
                have HK18 := Lib.hid (And.intro g18 (And.intro e18 k18))
                clear hwrite r18 g18 e18 k18 hj
                have hn1 : 1 ≤ KK := by omega
                have hbx := hBE.out (fun e => hb2 (by rw [← hN.out, e]; rfl)) bx rfl
                have hbE1 : bx ∉ E1 ++ D1 := fun hm => by
                  rcases List.mem_append.1 hm with h | h
                  · exact (HG.out.2.1.2 _ h).elim (fun h => hbx.2 (List.mem_append_left _ h)) (fun h => by omega)
                  · exact (HG.out.1.2 _ h).elim (fun h => hbx.2 (List.mem_append_right _ h)) (fun h => by omega)
                have hw1s : w1.heap.size ≤ w13.heap.size := by
                  have q1 := HG.out.2.2.size
                  have q2 := HK11.out.size
                  have q3 := hS.out.2.2.size
                  have q4 := HK12.out.size
                  have q5 := HK13.out.size
                  omega
                have hw1w : w1.heap.size ≤ w11.heap.size := by
                  have q1 := HG.out.2.2.size
                  have q2 := HK11.out.size
                  omega
                have hbE2 : bx ∉ E2 := fun hm => (hS.out.2.1.2 _ hm).elim (fun h => hbE1 (List.mem_append_left _ h)) (fun h => by have := hbx.1; omega)
                have hbD2 : bx ∉ D2 := fun hm => (hS.out.1.2 _ hm).elim (fun h => hbE1 (List.mem_append_right _ h)) (fun h => by have := hbx.1; omega)
                have hB18 := (hB.out.keep HGE.out.2 (fun x hx hm => by simp [Value.ownBlock] at hx; subst hx; exact hbE2 hm)).keep HK18.out.2.2 (fun x hx hm => by
                  simp only [Value.ownBlock, Option.some.injEq] at hx
                  subst hx
                  rcases List.mem_append.1 hm with h | h
                  · rcases List.mem_append.1 h with h | h
                    · exact hbE2 h
                    · have := (mem_newer.1 h).1; have := hbx.1; omega
                  · exact hbD2 h)
                have hdr := hB18.drop (k := KK) (by rw [hN.out]; omega)
                rw [hN.out] at hdr
                have hap : ApInv c l1 m1 b f' (c.wr (c.more l2 b2) m2).1 (c.wr (c.more l2 b2) m2).2.1 (b2.drop KK) := by
                  have e : min b2.length (c.rm - l2.pend.length) = KK := by rw [hN.out, HP.out]; omega
                  have hq := hI.out.acts
                  have hq2 := HW.out.2.1
                  have hq3 := hI.out.less
                  have hq4 := hI.out.fuel
                  have hq5 := hI.out.room
                  rw [hN.out] at hq hq3 hq4 hq5
                  refine ⟨?_, ?_, ?_, ?_, ?_, ?_, ?_⟩
                  · rw [hI.out.eq, HSTEP.out, if_neg (by rw [R17.out.2.2.1]; exact hfull), if_neg (by rw [hz]; simp), e]
                  · rw [List.length_drop, hN.out]; omega
                  · rw [HW.out.1]; show 0 < c.rm; omega
                  · rw [HW.out.1, List.length_drop, hN.out]; show (c.more l2 b2).at_ + _ ≤ _; rw [R17.out.2.2.2.1]; omega
                  · rw [HW.out.1]; exact hI.out.last
                  · rw [List.length_drop, hN.out]; omega
                  · rw [List.length_drop, hN.out]; omega
                have hlen : (b2.drop KK).length = N - KK := by rw [List.length_drop, hN.out]
                have HDR := Lib.hid (And.intro hdr (And.intro hap (And.intro hlen hbx)))
                clear hdr hap hlen hbx hB18 hbE1 hbE2 hbD2 hw1s hw1w
                go_wp2
                go_roundw
                case rel => exact ⟨f', _, _, b2.drop KK, D3, E3, _, _, _, rfl, (by have := HDR.out.2.2.1; simpa [Hid] using this), (by have := HDR.out.1; simpa [hcn, Hid, Addr.add_lit] using this), fun _ x hx => (by simp at hx; subst hx; exact HDR.out.2.2.2), HJ.out.1, HDR.out.2.1, HJ.out.2⟩
                case measure => simp; omega
              · have z1 : ((c.wr (c.more l2 b2) m2).2.2 == 0) = false := by simpa using hz
                have z2 : ((c.wr (c.more l2 b2) m2).2.2 != 0) = true := by simpa using hz
                have ea : c.app b.length l1 m1 b = c.wr (c.more l2 b2) m2 := by rw [hI.out.eq, HSTEP.out, if_neg (by rw [R17.out.2.2.1]; exact hfull), if_pos hz]
                have ht : c.tail (c.first l m b.length) b = ((c.wr (c.more l2 b2) m2).1, (c.wr (c.more l2 b2) m2).2.1, (0, 0, 0), (c.wr (c.more l2 b2) m2).2.2) := by
                  rw [HFR.out]
                  unfold Lc.tail
                  rw [if_neg (by simp), ea, if_pos hz]
                have HT := Lib.hid ht
                clear ht ea
                go_wp2_with fail
                refine hwrite.mono ?_
                rintro e w18 ⟨rfl, D3, E3, r18, g18, e18, k18⟩
                have hj := grew_join R17.out.2.1 ⟨g18, e18, k18⟩
                have hXX := hj.2.2.blk H11.out.2.2.2 H11.out.1
                have HF : Hid (LgStep w1 D E gl g c (c.wr (c.more l2 b2) m2).1 (c.wr (c.more l2 b2) m2).2.1 w18) := Lib.hid (LgStep.join HG.out.1 HG.out.2.1 (HG.out.2.2.trans (HK11.out.mono (by simp))) r18 hj.1 hj.2.1 hj.2.2)
                clear hwrite r18 g18 e18 k18 hj
                go_wp2_with (refine wpList_store_row rfl 103 (.tmp 4) (.tmp 112) rfl w.heap.size #[.int .i64 0, .int .i64 0, .int .i64 0] rfl rfl 103 _ hXX (by kernel_rfl) (by rfl) (by kernel_rfl) ?_)
                exact bodyPost_ret (results_cell_tmp_row rfl _ _ w.heap.size 103 _ _ _ rfl (setRow_heap _ _ _ _ _ _ hXX) Try.underlying103 rfl (by kernel_rfl)) rfl (by rw [HT.out]; exact ⟨rfl, HBOX.out _ _ _ HF.out _⟩)
end Go.Proofs.Ytjkjiabfhhnngaa
