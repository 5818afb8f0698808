import Derived.Test.YtjkjiabfhhnngaaRef24
/-! The document's wheel: Go. -/
namespace Go.Proofs.Ytjkjiabfhhnngaa
open Go.RowKit Go.Shelf Sg
set_option linter.unusedSimpArgs false
set_option linter.unusedVariables false

set_option maxRecDepth 100000 in
set_option maxHeartbeats 1000000 in
set_option maxHeartbeats 8000000 in
theorem refGo_any (w : World) (base : Nat) (sl : Value) (m : Wm) (h : RefW w base sl m) (hb : base ≤ w.heap.size) (hl : m.ths.length ≤ 1000) (htm : m.time ≤ top48) (k : Int) (hk0 : -9223372036854775808 ≤ k) (hk : k ≤ 9223372036854775807) :
    Calls Try.prog 71 #[.agg #[.int .i64 (m.time : Int), sl], .int .i64 k] w fun e w' => ∃ sl' out, e = .returned (.tuple #[.agg #[.int .i64 ((m.go k).1.time : Int), sl'], out, .int .i64 ((m.go k).2.2 : Int)]) ∧ RefW w' base sl' (m.go k).1 ∧ RowE dueE 2 145 w' base out (m.go k).2.1 ∧ Keep [] w w' := by
  obtain ⟨tm, l⟩ := m
  unfold RefW at *
  simp only at h hl htm ⊢
  obtain ⟨a0, c0, rfl⟩ := h.form
  unfold top48 at htm
  obtain ⟨w1, hw1⟩ : ∃ w1, w.alloc (.cells #[.int .i64 (tm : Int), .slice a0 l.length c0] 133) = w1 := ⟨_, rfl⟩
  obtain ⟨w2, hw2⟩ : ∃ w2, w1.alloc (.cells #[.int .i64 0, .slice none 0 0] 133) = w2 := ⟨_, rfl⟩
  have hk1 : Keep [] w w1 := by rw [← hw1]; exact (Keep.refl [] w).alloc _
  have hk2 : Keep [] w1 w2 := by rw [← hw2]; exact (Keep.refl [] w1).alloc _
  have hs1 : w1.heap.size = w.heap.size + 1 := by rw [← hw1]; simp
  have e1 : w2.heap[w.heap.size]? = some (.cells #[.int .i64 (tm : Int), .slice a0 l.length c0] 133 (0, 0)) := hk2.blk (by simp) (by rw [← hw1]; exact heap_alloc_new w _)
  have e2 : w2.heap[w.heap.size + 1]? = some (.cells #[.int .i64 0, .slice none 0 0] 133 (0, 0)) := by rw [← hs1, ← hw2]; exact heap_alloc_new w1 _
  have z0 := cell_of_row w2 _ 0 _ _ _ e1
  have z1 := cell_of_row w2 _ 1 _ _ _ e1
  have y0 := cell_of_row w2 _ 0 _ _ _ e2
  have y1 := cell_of_row w2 _ 1 _ _ _ e2
  have fz0 := frozen_of_row w2 w.heap.size 0 _ _ e1
  have f0 := frozen_of_row w2 (w.heap.size + 1) 0 _ _ e2
  have f1 := frozen_of_row w2 (w.heap.size + 1) 1 _ _ e2
  simp at z0 z1 y0 y1
  have hww : (w.alloc (.cells #[.int .i64 (tm : Int), .slice a0 l.length c0] 133)).alloc (.cells #[.int .i64 0, .slice none 0 0] 133) = w2 := by rw [hw1, hw2]
  have hs2 : w2.heap.size = w.heap.size + 2 := by rw [← hw2]; simp [hs1]
  have hown : ∀ b, (Value.slice a0 l.length c0).ownBlock = some b → b < w.heap.size := fun b hb => (h.lt b hb).2.1
  have HR := Lib.hid (And.intro (h.keep (hk1.trans hk2) (by simp)) (And.intro e1 (And.intro e2 (And.intro (hk1.trans hk2) (And.intro hown (And.intro hs2 hb))))))
  clear h hk1 hk2 hs1 e1 e2 hw1 hw2 hs2 hb hown
  have e0 : IntKind.i64.wrap (281474976710656 - (tm : Int)) = 281474976710656 - (tm : Int) := i64_wrap (by omega) (by omega)
  by_cases hbad : k < 0 ∨ (281474976710656 : Int) - (tm : Int) < k
  · have e : Wm.go { time := tm, ths := l } k = ({ time := tm, ths := l }, [], 2) := by unfold Wm.go top48; exact if_pos hbad
    rw [e]
    clear e
    have g1 := heap_setCell_same _ (w.heap.size + 1) 1 _ _ (.slice a0 l.length c0) (heap_setCell_same _ (w.heap.size + 1) 0 _ _ (.int .i64 (tm : Int)) HR.out.2.2.1)
    have HG := Lib.hid g1
    clear g1
    have FIN : ∀ (tmps : Array Value), tmps.getD 4 undef = .pointer (some ⟨w.heap.size + 1, 0, none⟩) → True := fun _ _ => trivial
    clear FIN
    by_cases h1 : k < 0
    · clear hbad
      go_enter Try.func71, Try.ntmps71
      go_wp2
      refine bodyPost_ret (results3_rowW rfl _ _ (w.heap.size + 1) 133 _ _ _ rfl HG.out Try.underlying133 rfl (by kernel_rfl)) rfl ?_
      refine ⟨.slice a0 l.length c0, .slice none 0 0, rfl, ?_, RowE.nil, ?_⟩
      · exact HR.out.1.keep (((Keep.refl [w.heap.size + 1] _).setCell (.inl (by simp)) _).setCell (.inl (by simp)) _) (fun b hb => by
          have := HR.out.2.2.2.2.1 b hb
          simp
          omega)
      · exact (HR.out.2.2.2.1.setCell (.inr (by simp)) _).setCell (.inr (by simp)) _
    · have h2 : (281474976710656 : Int) - (tm : Int) < k := by omega
      clear hbad
      go_enter Try.func71, Try.ntmps71
      go_wp2
      refine bodyPost_ret (results3_rowW rfl _ _ (w.heap.size + 1) 133 _ _ _ rfl HG.out Try.underlying133 rfl (by kernel_rfl)) rfl ?_
      refine ⟨.slice a0 l.length c0, .slice none 0 0, rfl, ?_, RowE.nil, ?_⟩
      · exact HR.out.1.keep (((Keep.refl [w.heap.size + 1] _).setCell (.inl (by simp)) _).setCell (.inl (by simp)) _) (fun b hb => by
          have := HR.out.2.2.2.2.1 b hb
          simp
          omega)
      · exact (HR.out.2.2.2.1.setCell (.inr (by simp)) _).setCell (.inr (by simp)) _
  obtain ⟨kn, rfl⟩ : ∃ kn : Nat, k = (kn : Int) := ⟨k.toNat, by omega⟩
  have h1 : ¬ (kn : Int) < 0 := by omega
  have h2 : ¬ (281474976710656 : Int) - (tm : Int) < (kn : Int) := by omega
  obtain ⟨en, hen⟩ : ∃ en, tm + kn = en := ⟨_, rfl⟩
  have e : Wm.go { time := tm, ths := l } (kn : Int) = ({ time := en, ths := l.dropWhile (fun p => decide (p.2 ≤ en)) }, l.takeWhile (fun p => decide (p.2 ≤ en)), 0) := by
    unfold Wm.go top48
    refine (if_neg hbad).trans ?_
    rw [Int.toNat_natCast]
    simp only [hen]
  rw [e]
  have hew : IntKind.i64.wrap ((tm : Int) + (kn : Int)) = (en : Int) := by rw [i64_wrap (by omega) (by omega)]; omega
  have g1 := heap_setCell_same _ w.heap.size 0 _ _ (.int .i64 (en : Int)) HR.out.2.1
  have g2 := (heap_setCell_other _ ⟨w.heap.size, 0, none⟩ (w.heap.size + 1) (.int .i64 (en : Int)) (by simp)).trans HR.out.2.2.1
  have hk3 : Keep [w.heap.size] w2 (w2.setCell ⟨w.heap.size, 0, none⟩ (.int .i64 (en : Int))) := (Keep.refl _ _).setCell (.inl (by simp)) _
  have HS : Hid (_ ∧ _ ∧ RowE dueE 2 145 (w2.setCell ⟨w.heap.size, 0, none⟩ (.int .i64 (en : Int))) base (.slice a0 l.length c0) l ∧ Keep [] w (w2.setCell ⟨w.heap.size, 0, none⟩ (.int .i64 (en : Int))) ∧ w.heap.size + 2 ≤ (w2.setCell ⟨w.heap.size, 0, none⟩ (.int .i64 (en : Int))).heap.size) := Lib.hid ⟨g1, g2, HR.out.1.keep hk3 (fun b hb => by have := HR.out.2.2.2.2.1 b hb; simp; omega), HR.out.2.2.2.1.setCell (.inr (by simp)) _, by rw [← HR.out.2.2.2.2.2.1]; exact hk3.size⟩
  have HHEN := Lib.hid hen
  have hen48 : en ≤ 281474976710656 := by omega
  clear g1 g2 hk3 e hbad hen
  go_enter Try.func71, Try.ntmps71
  go_wp2
  go_loopw [7] (fun vi wr => ∃ (j : Nat), j ≤ l.length ∧ vi = .int .i64 (j : Int) ∧ Hid (wr.heap[w.heap.size]? = some (.cells #[.int .i64 (en : Int), .slice a0 l.length c0] 133 (0, 0)) ∧ wr.heap[w.heap.size + 1]? = some (.cells #[.int .i64 0, .slice none 0 0] 133 (0, 0)) ∧ RowE dueE 2 145 wr base (.slice a0 l.length c0) l ∧ Keep [] w wr ∧ w.heap.size + 2 ≤ wr.heap.size) ∧ Hid (∀ p ∈ l.take j, p.2 ≤ en)) (fun vi _ => l.length - (intOf vi).toNat)
  case atStart => exact ⟨0, by omega, rfl, HS, Lib.hid (by simp)⟩
  case round =>
    clear HS hww e0 hew h1 h2 z0 z1 y0 y1 fz0 f0 f1
    obtain ⟨j, hj, rfl, HI, HT⟩ := hrel
    have c0' := cell_of_row _ _ 0 _ _ _ HI.out.1
    have c1' := cell_of_row _ _ 1 _ _ _ HI.out.1
    simp at c0' c1'
    by_cases hjl : j < l.length
    · obtain ⟨g, rfl, -, q⟩ := RowE.cells dueLies HI.out.2.2.1 hjl
      obtain ⟨t1, ht1⟩ : ∃ t1, l[j].2 = t1 := ⟨_, rfl⟩
      have x1 := q 1 (.int .i64 (t1 : Int)) (by rw [← ht1]; rfl)
      clear q
      by_cases hte : t1 ≤ en
      · have hd1 : decide ((t1 : Int) ≤ (en : Int)) = true := decide_eq_true (by omega)
        have hd2 : decide (t1 ≤ en) = true := decide_eq_true hte
        have HT2 := Lib.hid (show ∀ p ∈ l.take (j + 1), p.2 ≤ en from fun p hp => by
          rw [List.take_succ_eq_append_getElem hjl, List.mem_append, List.mem_singleton] at hp
          rcases hp with hp | rfl
          · exact HT.out p hp
          · rw [ht1]
            exact hte)
        go_upto_region 5 with fail
        refine wp_region_his [] [] (fun _ => 0) (by kernel_rfl) (by kernel_rfl) ?_
        intro wx hkx hhx
        have p0 := fun w' (h' : Keep [] wx w') => (hkx.trans h').cell (by simp) c0'
        have p1 := fun w' (h' : Keep [] wx w') => (hkx.trans h').cell (by simp) c1'
        have p2 := fun w' (h' : Keep [] wx w') => (hkx.trans h').cell (by simp) x1
        clear c0' c1' x1 hhx
        (repeat (first | (refine his_q rfl rfl (fun K hK => ?_); apply Exists.intro; refine ⟨fun w' hC => ?_, ?_⟩; ((try simp [Sg.upd] at hC); go_simp <;> rfl); go_simp; refine hK _ _ ?_; clear hK K) | (refine his_s rfl (fun K hK => ?_); go_simp; refine hK _ _ ?_; clear hK K)))
        refine his_nil ?_
        have HX := Lib.hid (And.intro (hkx.blk (by simp) HI.out.1) (And.intro (hkx.blk (by simp) HI.out.2.1) (And.intro (HI.out.2.2.1.keep hkx (by simp)) (And.intro (HI.out.2.2.2.1.trans hkx) (Nat.le_trans HI.out.2.2.2.2 hkx.size)))))
        clear p0 p1 p2 HI HT hkx hd1 hd2
        go_wp2
        go_roundw
        case rel => exact ⟨j + 1, by omega, by go_num, HX, HT2⟩
        case measure => simp [intOf]; omega
      · have hd1 : decide ((t1 : Int) ≤ (en : Int)) = false := decide_eq_false (by omega)
        have hd2 : decide (t1 ≤ en) = false := decide_eq_false hte
        have HSP := Lib.hid (span_take (fun p : Int × Nat => decide (p.2 ≤ en)) l j hj (fun p hp => by simpa using HT.out p hp) (fun x hx => by
          rw [List.drop_eq_getElem_cons hjl] at hx
          injection hx with hx
          subst hx
          rw [ht1]
          exact hd2))
        go_upto_region 5 with fail
        refine wp_region_his [] [] (fun _ => 0) (by kernel_rfl) (by kernel_rfl) ?_
        intro wx hkx hhx
        have p0 := fun w' (h' : Keep [] wx w') => (hkx.trans h').cell (by simp) c0'
        have p1 := fun w' (h' : Keep [] wx w') => (hkx.trans h').cell (by simp) c1'
        have p2 := fun w' (h' : Keep [] wx w') => (hkx.trans h').cell (by simp) x1
        clear c0' c1' x1 hhx
        (repeat (first | (refine his_q rfl rfl (fun K hK => ?_); apply Exists.intro; refine ⟨fun w' hC => ?_, ?_⟩; ((try simp [Sg.upd] at hC); go_simp <;> rfl); go_simp; refine hK _ _ ?_; clear hK K) | (refine his_s rfl (fun K hK => ?_); go_simp; refine hK _ _ ?_; clear hK K)))
        refine his_nil ?_
        have HX := Lib.hid (And.intro (hkx.blk (by simp) HI.out.1) (And.intro (hkx.blk (by simp) HI.out.2.1) (And.intro (HI.out.2.2.1.keep hkx (by simp)) (And.intro (HI.out.2.2.2.1.trans hkx) (Nat.le_trans HI.out.2.2.2.2 hkx.size)))))
        clear p0 p1 p2 HI HT hkx hd1 hd2 ht1 hte
        have hpre := HX.out.2.2.1.pre dueLies (i := j) hj
        have hsuf := HX.out.2.2.1.suf dueLies (i := j) hj (c0 - j)
        obtain ⟨hcap, hcap2⟩ := HX.out.2.2.1.cap
        have hic : j ≤ c0 := by omega
        have hcj : ¬ c0 = j := by omega
        have hA4 := (Keep.refl [] wx).alloc (.cells #[] 145)
        have hb4 := heap_alloc_new wx (.cells #[] 145)
        obtain ⟨w4, hw4⟩ : ∃ w4, wx.alloc (.cells #[] 145) = w4 := ⟨_, rfl⟩
        rw [hw4] at hA4 hb4
        have hsx := HX.out.2.2.2.2
        have hbx : base ≤ w.heap.size := HR.out.2.2.2.2.2.2
        have hs4 := hA4.size
        obtain ⟨v5, w5, hrun5, hO5, hk5, hloc5⟩ := run_append_seg (P := Try.prog) (ty := 131) dueLies Try.underlying131 rdue_infoF rfl (by decide) (by decide) wx.heap.size (rdueE_nil (base := wx.heap.size) hb4 (Nat.le_refl _)) (hpre.keep hA4) (by first | (simp; done) | (simp; omega)) hs4
        have hk45 : Keep [] wx w5 := hA4.trans' hk5 (fun b hb => .inr (by simp [Value.ownBlock] at hb; omega))
        have hs5 := hk45.size
        have hA6 := (Keep.refl [] w5).alloc (.cells #[] 145)
        have hb6 := heap_alloc_new w5 (.cells #[] 145)
        obtain ⟨w6, hw6⟩ : ∃ w6, w5.alloc (.cells #[] 145) = w6 := ⟨_, rfl⟩
        rw [hw6] at hA6 hb6
        have hs6 := hA6.size
        obtain ⟨v7, w7, hrun7, hO7, hk7, hloc7⟩ := run_append_seg (P := Try.prog) (ty := 131) dueLies Try.underlying131 rdue_infoF rfl (by decide) (by decide) w5.heap.size (rdueE_nil (base := w5.heap.size) hb6 (Nat.le_refl _)) (hsuf.keep (hk45.trans hA6)) (by first | (simp; done) | (simp; omega)) hs6
        have hk56 : Keep [] w5 w7 := hA6.trans' hk7 (fun b hb => .inr (by simp [Value.ownBlock] at hb; omega))
        have hkx7 : Keep [] wx w7 := hk45.trans hk56
        have e1 := hkx7.blk (by simp) HX.out.1
        have e2 := hkx7.blk (by simp) HX.out.2.1
        have c14 := cell_of_row _ _ 1 _ _ _ (hA4.blk (by simp) HX.out.1)
        have c16 := cell_of_row _ _ 1 _ _ _ ((hk45.trans hA6).blk (by simp) HX.out.1)
        have c17 := cell_of_row _ _ 1 _ _ _ e1
        have f17 := frozen_of_row w7 w.heap.size 1 _ _ e1
        obtain ⟨a7, c7, ev7⟩ := hO7.form
        obtain ⟨n7, hn7⟩ : ∃ n7, (l.drop j).length = n7 := ⟨_, rfl⟩
        have ev7' : v7 = .slice a7 n7 c7 := ev7.trans (by rw [← hn7]; rfl)
        clear ev7 hn7
        subst ev7'
        obtain ⟨a5, c5, ev5⟩ := hO5.form
        obtain ⟨n5, hn5⟩ : ∃ n5, (l.take j).length = n5 := ⟨_, rfl⟩
        have ev5' : v5 = .slice a5 n5 c5 := ev5.trans (by rw [← hn5]; rfl)
        clear ev5 hn5
        subst ev5'
        have g1 := heap_setCell_same w7 w.heap.size 1 _ _ (.slice a7 n7 c7) e1
        have g2 := (heap_setCell_other w7 ⟨w.heap.size, 1, none⟩ (w.heap.size + 1) (.slice a7 n7 c7) (by simp)).trans e2
        obtain ⟨w8, hw8⟩ : ∃ w8, w7.setCell ⟨w.heap.size, 1, none⟩ (.slice a7 n7 c7) = w8 := ⟨_, rfl⟩
        rw [hw8] at g1 g2
        have a0' := cell_of_row w8 _ 0 _ _ _ g1
        have a1' := cell_of_row w8 _ 1 _ _ _ g1
        have y0 := cell_of_row w8 _ 0 _ _ _ g2
        have y1 := cell_of_row w8 _ 1 _ _ _ g2
        have f20 := frozen_of_row w8 (w.heap.size + 1) 0 _ _ g2
        have f21 := frozen_of_row w8 (w.heap.size + 1) 1 _ _ g2
        simp at a0' a1' y0 y1 c14 c16 c17
        have hk78 : Keep [w.heap.size] w7 w8 := by rw [← hw8]; exact (Keep.refl _ _).setCell (.inl (by simp)) _
        have g3 := heap_setCell_same _ (w.heap.size + 1) 1 _ _ (.slice a7 n7 c7) (heap_setCell_same _ (w.heap.size + 1) 0 _ _ (.int .i64 (en : Int)) g2)
        have HF := Lib.hid (And.intro g3 (And.intro hO7 (And.intro hk78 (And.intro (HX.out.2.2.2.1.trans hkx7) (And.intro hO5 (And.intro hk56 (show w.heap.size + 2 ≤ wx.heap.size ∧ w.heap.size + 2 ≤ w5.heap.size by omega)))))))
        have HR5 := Lib.hid hrun5
        have HR7 := Lib.hid hrun7
        clear g1 g2 g3 hO7 hO5 hk78 e1 e2 hk56 hk5 hk7 hloc5 hloc7 hb4 hb6 hA4 hA6 hkx7 hk45 hrun5 hrun7 hpre hsuf hs4 hs5 hs6
        go_wp2_with (at_builtin; first | refine wpList_append_run rfl (.tmp 42) (.tmp 46) 131 rfl (w' := w5) rfl rfl HR5.out ?_ | refine wpList_append_run rfl (.tmp 48) (.tmp 52) 131 rfl (w' := w7) rfl rfl HR7.out ?_)
        all_goals (
          refine bodyPost_ret (results3_rowW rfl _ _ (w.heap.size + 1) 133 _ _ _ rfl HF.out.1 Try.underlying133 rfl (by kernel_rfl)) rfl ?_
          have h9 := HF.out.2.2.2.2.2.2
          refine ⟨.slice a7 n7 c7, .slice a5 n5 c5, rfl, ?_, ?_, ?_⟩
          · rw [HSP.out.2]
            refine (((HF.out.2.1.lower (by omega)).keep HF.out.2.2.1 (fun b hb => ?_)).keep (((Keep.refl [w.heap.size + 1] _).setCell (.inl (by simp)) _).setCell (.inl (by simp)) _) (fun b hb => ?_))
            · have h1 := (HF.out.2.1.lt b hb).1
              have h2 := HF.out.2.2.2.2.2.2.2
              simp
              omega
            · have h1 := (HF.out.2.1.lt b hb).1
              have h2 := HF.out.2.2.2.2.2.2.2
              simp
              omega
          · rw [HSP.out.1]
            refine ((((HF.out.2.2.2.2.1.lower (by omega)).keep HF.out.2.2.2.2.2.1 (by simp)).keep HF.out.2.2.1 (fun b hb => ?_)).keep (((Keep.refl [w.heap.size + 1] _).setCell (.inl (by simp)) _).setCell (.inl (by simp)) _) (fun b hb => ?_))
            · have h1 := (HF.out.2.2.2.2.1.lt b hb).1
              have h2 := HF.out.2.2.2.2.2.2.1
              simp
              omega
            · have h1 := (HF.out.2.2.2.2.1.lt b hb).1
              have h2 := HF.out.2.2.2.2.2.2.1
              simp
              omega
          · exact ((HF.out.2.2.2.1.trans' HF.out.2.2.1 (fun b hb => .inr (by simp at hb; omega))).setCell (.inr (by simp)) _).setCell (.inr (by simp)) _)
    · have hje : j = l.length := by omega
      subst hje
      have HSP := Lib.hid (span_take (fun p : Int × Nat => decide (p.2 ≤ en)) l l.length hj (fun p hp => by simpa using HT.out p hp) (fun x hx => by
        rw [List.drop_length] at hx
        cases hx))
      cases a0 with
      | none =>
        obtain ⟨rfl, hl0⟩ : c0 = 0 ∧ l.length = 0 := by
          rcases HI.out.2.2.1.2 with ⟨e, h0⟩ | ⟨g, cap, cur, e, -⟩
          · injection e with e1 e2 e3
            exact ⟨e3, h0⟩
          · injection e with e1 e2 e3
            cases e1
        have hln : l = [] := List.eq_nil_of_length_eq_zero hl0
        go_upto_region 5 with fail
        refine wp_region_his [] [] (fun _ => 0) (by kernel_rfl) (by kernel_rfl) ?_
        intro wx hkx hhx
        have p0 := fun w' (h' : Keep [] wx w') => (hkx.trans h').cell (by simp) c0'
        have p1 := fun w' (h' : Keep [] wx w') => (hkx.trans h').cell (by simp) c1'
        clear c0' c1' hhx
        have HLN := Lib.hid hln
        clear hln
        (repeat (first | (refine his_q rfl rfl (fun K hK => ?_); apply Exists.intro; refine ⟨fun w' hC => ?_, ?_⟩; ((try simp [Sg.upd] at hC); go_simp <;> rfl); go_simp; refine hK _ _ ?_; clear hK K) | (refine his_s rfl (fun K hK => ?_); go_simp; refine hK _ _ ?_; clear hK K)))
        refine his_nil ?_
        have HX := Lib.hid (And.intro (hkx.blk (by simp) HI.out.1) (And.intro (hkx.blk (by simp) HI.out.2.1) (And.intro (HI.out.2.2.1.keep hkx (by simp)) (And.intro (HI.out.2.2.2.1.trans hkx) (Nat.le_trans HI.out.2.2.2.2 hkx.size)))))
        clear p0 p1 HI HT hkx
        have hpre : RowS dueE wx (.slice none 0 0) (l.take l.length) := .inl ⟨rfl, by rw [HLN.out]; rfl⟩
        have hsuf : RowS dueE wx (.slice none 0 0) (l.drop l.length) := .inl ⟨rfl, by rw [HLN.out]; rfl⟩
        have hA4 := (Keep.refl [] wx).alloc (.cells #[] 145)
        have hb4 := heap_alloc_new wx (.cells #[] 145)
        obtain ⟨w4, hw4⟩ : ∃ w4, wx.alloc (.cells #[] 145) = w4 := ⟨_, rfl⟩
        rw [hw4] at hA4 hb4
        have hsx := HX.out.2.2.2.2
        have hbx : base ≤ w.heap.size := HR.out.2.2.2.2.2.2
        have hs4 := hA4.size
        obtain ⟨v5, w5, hrun5, hO5, hk5, hloc5⟩ := run_append_seg (P := Try.prog) (ty := 131) dueLies Try.underlying131 rdue_infoF rfl (by decide) (by decide) wx.heap.size (rdueE_nil (base := wx.heap.size) hb4 (Nat.le_refl _)) (hpre.keep hA4) (by first | (simp; done) | (simp; omega)) hs4
        have hk45 : Keep [] wx w5 := hA4.trans' hk5 (fun b hb => .inr (by simp [Value.ownBlock] at hb; omega))
        have hs5 := hk45.size
        have hA6 := (Keep.refl [] w5).alloc (.cells #[] 145)
        have hb6 := heap_alloc_new w5 (.cells #[] 145)
        obtain ⟨w6, hw6⟩ : ∃ w6, w5.alloc (.cells #[] 145) = w6 := ⟨_, rfl⟩
        rw [hw6] at hA6 hb6
        have hs6 := hA6.size
        obtain ⟨v7, w7, hrun7, hO7, hk7, hloc7⟩ := run_append_seg (P := Try.prog) (ty := 131) dueLies Try.underlying131 rdue_infoF rfl (by decide) (by decide) w5.heap.size (rdueE_nil (base := w5.heap.size) hb6 (Nat.le_refl _)) (hsuf.keep (hk45.trans hA6)) (by first | (simp; done) | (simp; omega)) hs6
        have hk56 : Keep [] w5 w7 := hA6.trans' hk7 (fun b hb => .inr (by simp [Value.ownBlock] at hb; omega))
        have hkx7 : Keep [] wx w7 := hk45.trans hk56
        have e1 := hkx7.blk (by simp) HX.out.1
        have e2 := hkx7.blk (by simp) HX.out.2.1
        have c14 := cell_of_row _ _ 1 _ _ _ (hA4.blk (by simp) HX.out.1)
        have c16 := cell_of_row _ _ 1 _ _ _ ((hk45.trans hA6).blk (by simp) HX.out.1)
        have c17 := cell_of_row _ _ 1 _ _ _ e1
        have f17 := frozen_of_row w7 w.heap.size 1 _ _ e1
        obtain ⟨a7, c7, ev7⟩ := hO7.form
        obtain ⟨n7, hn7⟩ : ∃ n7, (l.drop l.length).length = n7 := ⟨_, rfl⟩
        have ev7' : v7 = .slice a7 n7 c7 := ev7.trans (by rw [← hn7]; rfl)
        clear ev7 hn7
        subst ev7'
        obtain ⟨a5, c5, ev5⟩ := hO5.form
        obtain ⟨n5, hn5⟩ : ∃ n5, (l.take l.length).length = n5 := ⟨_, rfl⟩
        have ev5' : v5 = .slice a5 n5 c5 := ev5.trans (by rw [← hn5]; rfl)
        clear ev5 hn5
        subst ev5'
        have g1 := heap_setCell_same w7 w.heap.size 1 _ _ (.slice a7 n7 c7) e1
        have g2 := (heap_setCell_other w7 ⟨w.heap.size, 1, none⟩ (w.heap.size + 1) (.slice a7 n7 c7) (by simp)).trans e2
        obtain ⟨w8, hw8⟩ : ∃ w8, w7.setCell ⟨w.heap.size, 1, none⟩ (.slice a7 n7 c7) = w8 := ⟨_, rfl⟩
        rw [hw8] at g1 g2
        have a0' := cell_of_row w8 _ 0 _ _ _ g1
        have a1' := cell_of_row w8 _ 1 _ _ _ g1
        have y0 := cell_of_row w8 _ 0 _ _ _ g2
        have y1 := cell_of_row w8 _ 1 _ _ _ g2
        have f20 := frozen_of_row w8 (w.heap.size + 1) 0 _ _ g2
        have f21 := frozen_of_row w8 (w.heap.size + 1) 1 _ _ g2
        simp at a0' a1' y0 y1 c14 c16 c17
        have hk78 : Keep [w.heap.size] w7 w8 := by rw [← hw8]; exact (Keep.refl _ _).setCell (.inl (by simp)) _
        have g3 := heap_setCell_same _ (w.heap.size + 1) 1 _ _ (.slice a7 n7 c7) (heap_setCell_same _ (w.heap.size + 1) 0 _ _ (.int .i64 (en : Int)) g2)
        have HF := Lib.hid (And.intro g3 (And.intro hO7 (And.intro hk78 (And.intro (HX.out.2.2.2.1.trans hkx7) (And.intro hO5 (And.intro hk56 (show w.heap.size + 2 ≤ wx.heap.size ∧ w.heap.size + 2 ≤ w5.heap.size by omega)))))))
        have HR5 := Lib.hid hrun5
        have HR7 := Lib.hid hrun7
        clear g1 g2 g3 hO7 hO5 hk78 e1 e2 hk56 hk5 hk7 hloc5 hloc7 hb4 hb6 hA4 hA6 hkx7 hk45 hrun5 hrun7 hpre hsuf hs4 hs5 hs6
        go_wp2_with (at_builtin; first | refine wpList_append_run rfl (.tmp 42) (.tmp 46) 131 rfl (w' := w5) rfl rfl HR5.out ?_ | refine wpList_append_run rfl (.tmp 48) (.tmp 52) 131 rfl (w' := w7) rfl rfl HR7.out ?_)
        all_goals (
          refine bodyPost_ret (results3_rowW rfl _ _ (w.heap.size + 1) 133 _ _ _ rfl HF.out.1 Try.underlying133 rfl (by kernel_rfl)) rfl ?_
          have h9 := HF.out.2.2.2.2.2.2
          refine ⟨.slice a7 n7 c7, .slice a5 n5 c5, rfl, ?_, ?_, ?_⟩
          · rw [HSP.out.2]
            refine (((HF.out.2.1.lower (by omega)).keep HF.out.2.2.1 (fun b hb => ?_)).keep (((Keep.refl [w.heap.size + 1] _).setCell (.inl (by simp)) _).setCell (.inl (by simp)) _) (fun b hb => ?_))
            · have h1 := (HF.out.2.1.lt b hb).1
              have h2 := HF.out.2.2.2.2.2.2.2
              simp
              omega
            · have h1 := (HF.out.2.1.lt b hb).1
              have h2 := HF.out.2.2.2.2.2.2.2
              simp
              omega
          · rw [HSP.out.1]
            refine ((((HF.out.2.2.2.2.1.lower (by omega)).keep HF.out.2.2.2.2.2.1 (by simp)).keep HF.out.2.2.1 (fun b hb => ?_)).keep (((Keep.refl [w.heap.size + 1] _).setCell (.inl (by simp)) _).setCell (.inl (by simp)) _) (fun b hb => ?_))
            · have h1 := (HF.out.2.2.2.2.1.lt b hb).1
              have h2 := HF.out.2.2.2.2.2.2.1
              simp
              omega
            · have h1 := (HF.out.2.2.2.2.1.lt b hb).1
              have h2 := HF.out.2.2.2.2.2.2.1
              simp
              omega
          · exact ((HF.out.2.2.2.1.trans' HF.out.2.2.1 (fun b hb => .inr (by simp at hb; omega))).setCell (.inr (by simp)) _).setCell (.inr (by simp)) _)
      | some ad =>
        obtain ⟨g, ead⟩ : ∃ g, ad = ⟨g, 0, none⟩ := by
          rcases HI.out.2.2.1.2 with ⟨e, -⟩ | ⟨g, cap, cur, e, -⟩
          · cases e
          · injection e with e1 e2 e3
            injection e1 with e1
            exact ⟨g, e1⟩
        subst ead
        go_upto_region 5 with fail
        refine wp_region_his [] [] (fun _ => 0) (by kernel_rfl) (by kernel_rfl) ?_
        intro wx hkx hhx
        have p0 := fun w' (h' : Keep [] wx w') => (hkx.trans h').cell (by simp) c0'
        have p1 := fun w' (h' : Keep [] wx w') => (hkx.trans h').cell (by simp) c1'
        clear c0' c1' hhx
        (repeat (first | (refine his_q rfl rfl (fun K hK => ?_); apply Exists.intro; refine ⟨fun w' hC => ?_, ?_⟩; ((try simp [Sg.upd] at hC); go_simp <;> rfl); go_simp; refine hK _ _ ?_; clear hK K) | (refine his_s rfl (fun K hK => ?_); go_simp; refine hK _ _ ?_; clear hK K)))
        refine his_nil ?_
        have HX := Lib.hid (And.intro (hkx.blk (by simp) HI.out.1) (And.intro (hkx.blk (by simp) HI.out.2.1) (And.intro (HI.out.2.2.1.keep hkx (by simp)) (And.intro (HI.out.2.2.2.1.trans hkx) (Nat.le_trans HI.out.2.2.2.2 hkx.size)))))
        clear p0 p1 HI HT hkx
        have hpre := HX.out.2.2.1.pre dueLies (i := l.length) hj
        obtain ⟨hcap, hcap2⟩ := HX.out.2.2.1.cap
        have hic : l.length ≤ c0 := hcap
        by_cases hcj : c0 = l.length
        · subst hcj
          have hsuf : RowS dueE wx (.slice (some ⟨g, 0, none⟩) 0 0) (l.drop l.length) := .inr ⟨⟨g, 0, none⟩, 0, by simp, fun j u hu => by simp at hu⟩
          have hA4 := (Keep.refl [] wx).alloc (.cells #[] 145)
          have hb4 := heap_alloc_new wx (.cells #[] 145)
          obtain ⟨w4, hw4⟩ : ∃ w4, wx.alloc (.cells #[] 145) = w4 := ⟨_, rfl⟩
          rw [hw4] at hA4 hb4
          have hsx := HX.out.2.2.2.2
          have hbx : base ≤ w.heap.size := HR.out.2.2.2.2.2.2
          have hs4 := hA4.size
          obtain ⟨v5, w5, hrun5, hO5, hk5, hloc5⟩ := run_append_seg (P := Try.prog) (ty := 131) dueLies Try.underlying131 rdue_infoF rfl (by decide) (by decide) wx.heap.size (rdueE_nil (base := wx.heap.size) hb4 (Nat.le_refl _)) (hpre.keep hA4) (by first | (simp; done) | (simp; omega)) hs4
          have hk45 : Keep [] wx w5 := hA4.trans' hk5 (fun b hb => .inr (by simp [Value.ownBlock] at hb; omega))
          have hs5 := hk45.size
          have hA6 := (Keep.refl [] w5).alloc (.cells #[] 145)
          have hb6 := heap_alloc_new w5 (.cells #[] 145)
          obtain ⟨w6, hw6⟩ : ∃ w6, w5.alloc (.cells #[] 145) = w6 := ⟨_, rfl⟩
          rw [hw6] at hA6 hb6
          have hs6 := hA6.size
          obtain ⟨v7, w7, hrun7, hO7, hk7, hloc7⟩ := run_append_seg (P := Try.prog) (ty := 131) dueLies Try.underlying131 rdue_infoF rfl (by decide) (by decide) w5.heap.size (rdueE_nil (base := w5.heap.size) hb6 (Nat.le_refl _)) (hsuf.keep (hk45.trans hA6)) (by first | (simp; done) | (simp; omega)) hs6
          have hk56 : Keep [] w5 w7 := hA6.trans' hk7 (fun b hb => .inr (by simp [Value.ownBlock] at hb; omega))
          have hkx7 : Keep [] wx w7 := hk45.trans hk56
          have e1 := hkx7.blk (by simp) HX.out.1
          have e2 := hkx7.blk (by simp) HX.out.2.1
          have c14 := cell_of_row _ _ 1 _ _ _ (hA4.blk (by simp) HX.out.1)
          have c16 := cell_of_row _ _ 1 _ _ _ ((hk45.trans hA6).blk (by simp) HX.out.1)
          have c17 := cell_of_row _ _ 1 _ _ _ e1
          have f17 := frozen_of_row w7 w.heap.size 1 _ _ e1
          obtain ⟨a7, c7, ev7⟩ := hO7.form
          obtain ⟨n7, hn7⟩ : ∃ n7, (l.drop l.length).length = n7 := ⟨_, rfl⟩
          have ev7' : v7 = .slice a7 n7 c7 := ev7.trans (by rw [← hn7]; rfl)
          clear ev7 hn7
          subst ev7'
          obtain ⟨a5, c5, ev5⟩ := hO5.form
          obtain ⟨n5, hn5⟩ : ∃ n5, (l.take l.length).length = n5 := ⟨_, rfl⟩
          have ev5' : v5 = .slice a5 n5 c5 := ev5.trans (by rw [← hn5]; rfl)
          clear ev5 hn5
          subst ev5'
          have g1 := heap_setCell_same w7 w.heap.size 1 _ _ (.slice a7 n7 c7) e1
          have g2 := (heap_setCell_other w7 ⟨w.heap.size, 1, none⟩ (w.heap.size + 1) (.slice a7 n7 c7) (by simp)).trans e2
          obtain ⟨w8, hw8⟩ : ∃ w8, w7.setCell ⟨w.heap.size, 1, none⟩ (.slice a7 n7 c7) = w8 := ⟨_, rfl⟩
          rw [hw8] at g1 g2
          have a0' := cell_of_row w8 _ 0 _ _ _ g1
          have a1' := cell_of_row w8 _ 1 _ _ _ g1
          have y0 := cell_of_row w8 _ 0 _ _ _ g2
          have y1 := cell_of_row w8 _ 1 _ _ _ g2
          have f20 := frozen_of_row w8 (w.heap.size + 1) 0 _ _ g2
          have f21 := frozen_of_row w8 (w.heap.size + 1) 1 _ _ g2
          simp at a0' a1' y0 y1 c14 c16 c17
          have hk78 : Keep [w.heap.size] w7 w8 := by rw [← hw8]; exact (Keep.refl _ _).setCell (.inl (by simp)) _
          have g3 := heap_setCell_same _ (w.heap.size + 1) 1 _ _ (.slice a7 n7 c7) (heap_setCell_same _ (w.heap.size + 1) 0 _ _ (.int .i64 (en : Int)) g2)
          have HF := Lib.hid (And.intro g3 (And.intro hO7 (And.intro hk78 (And.intro (HX.out.2.2.2.1.trans hkx7) (And.intro hO5 (And.intro hk56 (show w.heap.size + 2 ≤ wx.heap.size ∧ w.heap.size + 2 ≤ w5.heap.size by omega)))))))
          have HR5 := Lib.hid hrun5
          have HR7 := Lib.hid hrun7
          clear g1 g2 g3 hO7 hO5 hk78 e1 e2 hk56 hk5 hk7 hloc5 hloc7 hb4 hb6 hA4 hA6 hkx7 hk45 hrun5 hrun7 hpre hsuf hs4 hs5 hs6
          go_wp2_with (at_builtin; first | refine wpList_append_run rfl (.tmp 42) (.tmp 46) 131 rfl (w' := w5) rfl rfl HR5.out ?_ | refine wpList_append_run rfl (.tmp 48) (.tmp 52) 131 rfl (w' := w7) rfl rfl HR7.out ?_)
          all_goals (
            refine bodyPost_ret (results3_rowW rfl _ _ (w.heap.size + 1) 133 _ _ _ rfl HF.out.1 Try.underlying133 rfl (by kernel_rfl)) rfl ?_
            have h9 := HF.out.2.2.2.2.2.2
            refine ⟨.slice a7 n7 c7, .slice a5 n5 c5, rfl, ?_, ?_, ?_⟩
            · rw [HSP.out.2]
              refine (((HF.out.2.1.lower (by omega)).keep HF.out.2.2.1 (fun b hb => ?_)).keep (((Keep.refl [w.heap.size + 1] _).setCell (.inl (by simp)) _).setCell (.inl (by simp)) _) (fun b hb => ?_))
              · have h1 := (HF.out.2.1.lt b hb).1
                have h2 := HF.out.2.2.2.2.2.2.2
                simp
                omega
              · have h1 := (HF.out.2.1.lt b hb).1
                have h2 := HF.out.2.2.2.2.2.2.2
                simp
                omega
            · rw [HSP.out.1]
              refine ((((HF.out.2.2.2.2.1.lower (by omega)).keep HF.out.2.2.2.2.2.1 (by simp)).keep HF.out.2.2.1 (fun b hb => ?_)).keep (((Keep.refl [w.heap.size + 1] _).setCell (.inl (by simp)) _).setCell (.inl (by simp)) _) (fun b hb => ?_))
              · have h1 := (HF.out.2.2.2.2.1.lt b hb).1
                have h2 := HF.out.2.2.2.2.2.2.1
                simp
                omega
              · have h1 := (HF.out.2.2.2.2.1.lt b hb).1
                have h2 := HF.out.2.2.2.2.2.2.1
                simp
                omega
            · exact ((HF.out.2.2.2.1.trans' HF.out.2.2.1 (fun b hb => .inr (by simp at hb; omega))).setCell (.inr (by simp)) _).setCell (.inr (by simp)) _)
        · have hsuf : RowS dueE wx (.slice (some ⟨g, l.length * 2, none⟩) 0 (c0 - l.length)) (l.drop l.length) := .inr ⟨⟨g, l.length * 2, none⟩, c0 - l.length, by simp, fun j u hu => by simp at hu⟩
          have hA4 := (Keep.refl [] wx).alloc (.cells #[] 145)
          have hb4 := heap_alloc_new wx (.cells #[] 145)
          obtain ⟨w4, hw4⟩ : ∃ w4, wx.alloc (.cells #[] 145) = w4 := ⟨_, rfl⟩
          rw [hw4] at hA4 hb4
          have hsx := HX.out.2.2.2.2
          have hbx : base ≤ w.heap.size := HR.out.2.2.2.2.2.2
          have hs4 := hA4.size
          obtain ⟨v5, w5, hrun5, hO5, hk5, hloc5⟩ := run_append_seg (P := Try.prog) (ty := 131) dueLies Try.underlying131 rdue_infoF rfl (by decide) (by decide) wx.heap.size (rdueE_nil (base := wx.heap.size) hb4 (Nat.le_refl _)) (hpre.keep hA4) (by first | (simp; done) | (simp; omega)) hs4
          have hk45 : Keep [] wx w5 := hA4.trans' hk5 (fun b hb => .inr (by simp [Value.ownBlock] at hb; omega))
          have hs5 := hk45.size
          have hA6 := (Keep.refl [] w5).alloc (.cells #[] 145)
          have hb6 := heap_alloc_new w5 (.cells #[] 145)
          obtain ⟨w6, hw6⟩ : ∃ w6, w5.alloc (.cells #[] 145) = w6 := ⟨_, rfl⟩
          rw [hw6] at hA6 hb6
          have hs6 := hA6.size
          obtain ⟨v7, w7, hrun7, hO7, hk7, hloc7⟩ := run_append_seg (P := Try.prog) (ty := 131) dueLies Try.underlying131 rdue_infoF rfl (by decide) (by decide) w5.heap.size (rdueE_nil (base := w5.heap.size) hb6 (Nat.le_refl _)) (hsuf.keep (hk45.trans hA6)) (by first | (simp; done) | (simp; omega)) hs6
          have hk56 : Keep [] w5 w7 := hA6.trans' hk7 (fun b hb => .inr (by simp [Value.ownBlock] at hb; omega))
          have hkx7 : Keep [] wx w7 := hk45.trans hk56
          have e1 := hkx7.blk (by simp) HX.out.1
          have e2 := hkx7.blk (by simp) HX.out.2.1
          have c14 := cell_of_row _ _ 1 _ _ _ (hA4.blk (by simp) HX.out.1)
          have c16 := cell_of_row _ _ 1 _ _ _ ((hk45.trans hA6).blk (by simp) HX.out.1)
          have c17 := cell_of_row _ _ 1 _ _ _ e1
          have f17 := frozen_of_row w7 w.heap.size 1 _ _ e1
          obtain ⟨a7, c7, ev7⟩ := hO7.form
          obtain ⟨n7, hn7⟩ : ∃ n7, (l.drop l.length).length = n7 := ⟨_, rfl⟩
          have ev7' : v7 = .slice a7 n7 c7 := ev7.trans (by rw [← hn7]; rfl)
          clear ev7 hn7
          subst ev7'
          obtain ⟨a5, c5, ev5⟩ := hO5.form
          obtain ⟨n5, hn5⟩ : ∃ n5, (l.take l.length).length = n5 := ⟨_, rfl⟩
          have ev5' : v5 = .slice a5 n5 c5 := ev5.trans (by rw [← hn5]; rfl)
          clear ev5 hn5
          subst ev5'
          have g1 := heap_setCell_same w7 w.heap.size 1 _ _ (.slice a7 n7 c7) e1
          have g2 := (heap_setCell_other w7 ⟨w.heap.size, 1, none⟩ (w.heap.size + 1) (.slice a7 n7 c7) (by simp)).trans e2
          obtain ⟨w8, hw8⟩ : ∃ w8, w7.setCell ⟨w.heap.size, 1, none⟩ (.slice a7 n7 c7) = w8 := ⟨_, rfl⟩
          rw [hw8] at g1 g2
          have a0' := cell_of_row w8 _ 0 _ _ _ g1
          have a1' := cell_of_row w8 _ 1 _ _ _ g1
          have y0 := cell_of_row w8 _ 0 _ _ _ g2
          have y1 := cell_of_row w8 _ 1 _ _ _ g2
          have f20 := frozen_of_row w8 (w.heap.size + 1) 0 _ _ g2
          have f21 := frozen_of_row w8 (w.heap.size + 1) 1 _ _ g2
          simp at a0' a1' y0 y1 c14 c16 c17
          have hk78 : Keep [w.heap.size] w7 w8 := by rw [← hw8]; exact (Keep.refl _ _).setCell (.inl (by simp)) _
          have g3 := heap_setCell_same _ (w.heap.size + 1) 1 _ _ (.slice a7 n7 c7) (heap_setCell_same _ (w.heap.size + 1) 0 _ _ (.int .i64 (en : Int)) g2)
          have HF := Lib.hid (And.intro g3 (And.intro hO7 (And.intro hk78 (And.intro (HX.out.2.2.2.1.trans hkx7) (And.intro hO5 (And.intro hk56 (show w.heap.size + 2 ≤ wx.heap.size ∧ w.heap.size + 2 ≤ w5.heap.size by omega)))))))
          have HR5 := Lib.hid hrun5
          have HR7 := Lib.hid hrun7
          clear g1 g2 g3 hO7 hO5 hk78 e1 e2 hk56 hk5 hk7 hloc5 hloc7 hb4 hb6 hA4 hA6 hkx7 hk45 hrun5 hrun7 hpre hsuf hs4 hs5 hs6
          go_wp2_with (at_builtin; first | refine wpList_append_run rfl (.tmp 42) (.tmp 46) 131 rfl (w' := w5) rfl rfl HR5.out ?_ | refine wpList_append_run rfl (.tmp 48) (.tmp 52) 131 rfl (w' := w7) rfl rfl HR7.out ?_)
          all_goals (
            refine bodyPost_ret (results3_rowW rfl _ _ (w.heap.size + 1) 133 _ _ _ rfl HF.out.1 Try.underlying133 rfl (by kernel_rfl)) rfl ?_
            have h9 := HF.out.2.2.2.2.2.2
            refine ⟨.slice a7 n7 c7, .slice a5 n5 c5, rfl, ?_, ?_, ?_⟩
            · rw [HSP.out.2]
              refine (((HF.out.2.1.lower (by omega)).keep HF.out.2.2.1 (fun b hb => ?_)).keep (((Keep.refl [w.heap.size + 1] _).setCell (.inl (by simp)) _).setCell (.inl (by simp)) _) (fun b hb => ?_))
              · have h1 := (HF.out.2.1.lt b hb).1
                have h2 := HF.out.2.2.2.2.2.2.2
                simp
                omega
              · have h1 := (HF.out.2.1.lt b hb).1
                have h2 := HF.out.2.2.2.2.2.2.2
                simp
                omega
            · rw [HSP.out.1]
              refine ((((HF.out.2.2.2.2.1.lower (by omega)).keep HF.out.2.2.2.2.2.1 (by simp)).keep HF.out.2.2.1 (fun b hb => ?_)).keep (((Keep.refl [w.heap.size + 1] _).setCell (.inl (by simp)) _).setCell (.inl (by simp)) _) (fun b hb => ?_))
              · have h1 := (HF.out.2.2.2.2.1.lt b hb).1
                have h2 := HF.out.2.2.2.2.2.2.1
                simp
                omega
              · have h1 := (HF.out.2.2.2.2.1.lt b hb).1
                have h2 := HF.out.2.2.2.2.2.2.1
                simp
                omega
            · exact ((HF.out.2.2.2.1.trans' HF.out.2.2.1 (fun b hb => .inr (by simp at hb; omega))).setCell (.inr (by simp)) _).setCell (.inr (by simp)) _)
end Go.Proofs.Ytjkjiabfhhnngaa
