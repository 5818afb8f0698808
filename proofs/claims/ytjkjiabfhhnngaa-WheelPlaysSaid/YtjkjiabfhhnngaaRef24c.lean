import Derived.Test.YtjkjiabfhhnngaaRef24b
/-! The document's wheel: Put. -/
namespace Sg
open Go Go.RowKit
theorem insD_split (p : Int × Nat) : ∀ (l : List (Int × Nat)) (k : Nat), k ≤ l.length → (∀ q ∈ l.take k, dueLt q p = true) → (∀ q, (l.drop k).head? = some q → dueLt q p = false) → insD p l = l.take k ++ p :: l.drop k
  | [], k, hk, _, _ => by simp at hk; subst hk; rfl
  | q :: l, 0, _, _, h => by
    have := h q rfl
    unfold insD
    rw [if_neg (by rw [this]; decide)]
    rfl
  | q :: l, k + 1, hk, h1, h2 => by
    have hq : dueLt q p = true := h1 q (by simp)
    unfold insD
    rw [if_pos hq, insD_split p l k (by simp at hk; omega) (fun x hx => h1 x (by simp [hx])) (fun x hx => h2 x (by simpa using hx))]
    rfl
end Sg

namespace Go.Proofs.Ytjkjiabfhhnngaa
open Go.RowKit Go.Shelf Sg
set_option linter.unusedSimpArgs false
set_option linter.unusedVariables false

set_option maxRecDepth 100000 in
set_option maxHeartbeats 1000000 in
set_option maxHeartbeats 8000000 in
theorem refPut_any (w : World) (base : Nat) (sl : Value) (m : Wm) (h : RefW w base sl m) (hb : base ≤ w.heap.size) (hl : m.ths.length ≤ 1000) (hnd : (m.ths.map (·.1)).Nodup) (htm : m.time ≤ top48) (n a : Int) :
    Calls Try.prog 73 #[.agg #[.int .i64 (m.time : Int), sl], .int .i64 n, .int .i64 a] w fun e w' => ∃ sl', e = .returned (.tuple #[.agg #[.int .i64 ((m.put n a).1.time : Int), sl'], .int .i64 ((m.put n a).2 : Int)]) ∧ RefW w' base sl' (m.put n a).1 ∧ Keep [] w w' := by
  obtain ⟨tm, l⟩ := m
  unfold RefW at *
  simp only at h hl htm hnd ⊢
  obtain ⟨a0, c0, rfl⟩ := h.form
  unfold top48 at htm
  obtain ⟨w1, hw1⟩ : ∃ w1, w.alloc (.cells #[.int .i64 (tm : Int), .slice a0 l.length c0] 133) = w1 := ⟨_, rfl⟩
  obtain ⟨w2, hw2⟩ : ∃ w2, w1.alloc (.cells #[.int .i64 0, .slice none 0 0] 133) = w2 := ⟨_, rfl⟩
  have hk1 : Keep [] w w1 := by rw [← hw1]; exact (Keep.refl [] w).alloc _
  have hk2 : Keep [] w1 w2 := by rw [← hw2]; exact (Keep.refl [] w1).alloc _
  have hs1 : w1.heap.size = w.heap.size + 1 := by rw [← hw1]; simp
  have e1 : w2.heap[w.heap.size]? = some (.cells #[.int .i64 (tm : Int), .slice a0 l.length c0] 133 (0, 0)) := hk2.blk (by simp) (by rw [← hw1]; exact heap_alloc_new w _)
  have e2 : w2.heap[w.heap.size + 1]? = some (.cells #[.int .i64 0, .slice none 0 0] 133 (0, 0)) := by rw [← hs1, ← hw2]; exact heap_alloc_new w1 _
  have z0 := cell_of_row w2 _ 0 _ _ _ e1
  have z1 := cell_of_row w2 _ 1 _ _ _ e1
  have y0 := cell_of_row w2 _ 0 _ _ _ e2
  have y1 := cell_of_row w2 _ 1 _ _ _ e2
  have f0 := frozen_of_row w2 (w.heap.size + 1) 0 _ _ e2
  have f1 := frozen_of_row w2 (w.heap.size + 1) 1 _ _ e2
  simp at z0 z1 y0 y1
  have hww : (w.alloc (.cells #[.int .i64 (tm : Int), .slice a0 l.length c0] 133)).alloc (.cells #[.int .i64 0, .slice none 0 0] 133) = w2 := by rw [hw1, hw2]
  have hs2 : w2.heap.size = w.heap.size + 2 := by rw [← hw2]; simp [hs1]
  have hown : ∀ b, (Value.slice a0 l.length c0).ownBlock = some b → b < w.heap.size := fun b hb => (h.lt b hb).2.1
  have HR := Lib.hid (And.intro (h.keep (hk1.trans hk2) (by simp)) (And.intro e1 (And.intro e2 (And.intro (hk1.trans hk2) (And.intro hown (And.intro hs2 hb))))))
  have HND := Lib.hid hnd
  clear h hk1 hk2 hs1 e1 e2 hw1 hw2 hs2 hb hown hnd
  by_cases hbad : a ≤ (tm : Int) ∨ (281474976710656 : Int) < a
  · have e : Wm.put { time := tm, ths := l } n a = ({ time := tm, ths := l }, 2) := by unfold Wm.put top48; exact if_pos hbad
    rw [e]
    clear e
    have g1 := heap_setCell_same _ (w.heap.size + 1) 1 _ _ (.slice a0 l.length c0) (heap_setCell_same _ (w.heap.size + 1) 0 _ _ (.int .i64 (tm : Int)) HR.out.2.2.1)
    have HG := Lib.hid g1
    clear g1
    by_cases h1 : a ≤ (tm : Int)
    · clear hbad
      go_enter Try.func73, Try.ntmps73
      go_wp2
      refine bodyPost_ret (results_cell_tmp_row rfl _ _ (w.heap.size + 1) 133 _ _ _ rfl HG.out Try.underlying133 rfl (by kernel_rfl)) rfl ?_
      refine ⟨.slice a0 l.length c0, rfl, ?_, ?_⟩
      · exact HR.out.1.keep (((Keep.refl [w.heap.size + 1] _).setCell (.inl (by simp)) _).setCell (.inl (by simp)) _) (fun b hb => by
          have := HR.out.2.2.2.2.1 b hb
          simp
          omega)
      · exact (HR.out.2.2.2.1.setCell (.inr (by simp)) _).setCell (.inr (by simp)) _
    · have h2 : (281474976710656 : Int) < a := by omega
      clear hbad
      go_enter Try.func73, Try.ntmps73
      go_wp2
      refine bodyPost_ret (results_cell_tmp_row rfl _ _ (w.heap.size + 1) 133 _ _ _ rfl HG.out Try.underlying133 rfl (by kernel_rfl)) rfl ?_
      refine ⟨.slice a0 l.length c0, rfl, ?_, ?_⟩
      · exact HR.out.1.keep (((Keep.refl [w.heap.size + 1] _).setCell (.inl (by simp)) _).setCell (.inl (by simp)) _) (fun b hb => by
          have := HR.out.2.2.2.2.1 b hb
          simp
          omega)
      · exact (HR.out.2.2.2.1.setCell (.inr (by simp)) _).setCell (.inr (by simp)) _
  have h1 : ¬ a ≤ (tm : Int) := by omega
  have h2 : ¬ (281474976710656 : Int) < a := by omega
  obtain ⟨an, rfl⟩ : ∃ an : Nat, a = (an : Int) := ⟨a.toNat, by omega⟩
  have e : Wm.put { time := tm, ths := l } n (an : Int) = ({ time := tm, ths := insD (n, an) (dropD n l) }, 0) := by
    unfold Wm.put top48
    refine (if_neg hbad).trans ?_
    rw [Int.toNat_natCast]
  rw [e]
  clear e hbad
  have hdr := refDrop_any w2 base (.slice a0 l.length c0) { time := tm, ths := l } HR.out.1 (by have := HR.out.2.2.2.2.2; omega) hl HND.out n
  obtain ⟨wd, hwd⟩ : ∃ wd, wasD { time := tm, ths := l } n = wd := ⟨_, rfl⟩
  rw [hwd] at hdr
  clear hwd
  go_enter Try.func73, Try.ntmps73
  go_wp2_with fail
  refine hdr.mono ?_
  clear hdr
  rintro e w3 ⟨sl3, rfl, hr3, hk3⟩
  unfold RefW Wm.drop at hr3
  simp only at hr3
  obtain ⟨L, hL⟩ : ∃ L, dropD n l = L := ⟨_, rfl⟩
  rw [hL] at hr3
  have hLl : L.length ≤ 1000 := by rw [← hL]; exact Nat.le_trans (List.length_filter_le _ _) hl
  obtain ⟨a3, c3, rfl⟩ := hr3.form
  have e1 := hk3.blk (by simp) HR.out.2.1
  have e2 := hk3.blk (by simp) HR.out.2.2.1
  have b0 := cell_of_row w3 _ 0 _ _ _ e1
  have b1 := cell_of_row w3 _ 1 _ _ _ e1
  have fb0 := frozen_of_row w3 w.heap.size 0 _ _ e1
  have fb1 := frozen_of_row w3 w.heap.size 1 _ _ e1
  simp at b0 b1
  have g1 := heap_setCell_same _ w.heap.size 1 _ _ (.slice a3 L.length c3) (heap_setCell_same _ w.heap.size 0 _ _ (.int .i64 (tm : Int)) e1)
  have g2 := ((heap_setCell_other _ ⟨w.heap.size, 1, none⟩ (w.heap.size + 1) (.slice a3 L.length c3) (by simp)).trans (heap_setCell_other w3 ⟨w.heap.size, 0, none⟩ (w.heap.size + 1) (.int .i64 (tm : Int)) (by simp))).trans e2
  have hk34 : Keep [w.heap.size] w3 ((w3.setCell ⟨w.heap.size, 0, none⟩ (.int .i64 (tm : Int))).setCell ⟨w.heap.size, 1, none⟩ (.slice a3 L.length c3)) := ((Keep.refl _ _).setCell (.inl (by simp)) _).setCell (.inl (by simp)) _
  obtain ⟨w4, hw4⟩ : ∃ w4, (w3.setCell ⟨w.heap.size, 0, none⟩ (.int .i64 (tm : Int))).setCell ⟨w.heap.size, 1, none⟩ (.slice a3 L.length c3) = w4 := ⟨_, rfl⟩
  rw [hw4] at g1 g2 hk34
  have hrow : RowE dueE 2 145 w3 base (.slice a3 L.length c3) L ∧ (Value.slice a3 L.length c3).ownBlock ≠ some w.heap.size := ⟨hr3, hr3.ne e1 (by decide)⟩
  have HX := Lib.hid (And.intro g1 (And.intro g2 (And.intro (hrow.1.keep hk34 (fun b hb hm => hrow.2 (by rw [hb, List.mem_singleton.1 hm]))) (And.intro ((HR.out.2.2.2.1.trans hk3).trans' hk34 (fun b hb => .inr (by simp at hb; omega))) (show w.heap.size + 2 ≤ w4.heap.size by have := HR.out.2.2.2.2.2.1; have := hk3.size; have := hk34.size; omega)))))
  have HL := Lib.hid hL
  clear hrow g1 g2 hk34 e1 e2 hr3 hk3 hL hww z0 z1 y0 y1 f0 f1 h1 h2
  go_wp2
  clear b0 b1 fb0 fb1
  have c0' := cell_of_row w4 _ 0 _ _ _ HX.out.1
  have c1' := cell_of_row w4 _ 1 _ _ _ HX.out.1
  simp at c0' c1'
  go_loopw [8] (fun vi wr => ∃ (k : Nat), k ≤ L.length ∧ vi = .int .i64 (k : Int) ∧ wr = w4 ∧ Hid (∀ q ∈ L.take k, dueLt q (n, an) = true)) (fun vi _ => L.length - (intOf vi).toNat)
  case atStart => exact ⟨0, by omega, rfl, by first | rfl | exact hw4, Lib.hid (by simp)⟩
  case round =>
    clear hw4
    obtain ⟨k, hk, rfl, rfl, HT⟩ := hrel
    by_cases hkl : k < L.length
    · obtain ⟨g, rfl, -, q⟩ := RowE.cells dueLies HX.out.2.2.1 hkl
      obtain ⟨n1, hn1⟩ : ∃ n1, L[k].1 = n1 := ⟨_, rfl⟩
      obtain ⟨t1, ht1⟩ : ∃ t1, L[k].2 = t1 := ⟨_, rfl⟩
      have x0 := q 0 (.int .i64 n1) (by rw [← hn1]; rfl)
      have x1 := q 1 (.int .i64 (t1 : Int)) (by rw [← ht1]; rfl)
      rw [Nat.add_zero] at x0
      clear q
      have HT2 := Lib.hid (show dueLt (n1, t1) (n, an) = true → ∀ q ∈ L.take (k + 1), dueLt q (n, an) = true from fun hd q hq => by
        rw [List.take_succ_eq_append_getElem hkl, List.mem_append, List.mem_singleton] at hq
        rcases hq with hq | rfl
        · exact HT.out q hq
        · rw [← hn1, ← ht1] at hd
          exact hd)
      have HSP := Lib.hid (show dueLt (n1, t1) (n, an) = false → insD (n, an) L = L.take k ++ (n, an) :: L.drop k from fun hd => insD_split _ L k hk HT.out (fun x hx => by
          rw [List.drop_eq_getElem_cons hkl] at hx
          injection hx with hx
          subst hx
          rw [← hn1, ← ht1] at hd
          exact hd))
      clear hn1 ht1
      rcases Nat.lt_trichotomy t1 an with hlt | heq | hgt
      · have HD := Lib.hid (show dueLt (n1, t1) (n, an) = true by rw [dueLt_iff]; exact .inl hlt)
        have HH := Lib.hid (HT2.out HD.out)
        clear HT HT2 HSP HD
        go_wp2
        go_roundw
        case rel => exact ⟨k + 1, by omega, by go_num, by first | rfl | trivial, HH⟩
        case measure => simp [intOf]; omega
      · subst heq
        by_cases hnn : n1 < n
        · have hlt : ¬ t1 < t1 := by omega
          have HD := Lib.hid (show dueLt (n1, t1) (n, t1) = true by rw [dueLt_iff]; exact .inr ⟨rfl, hnn⟩)
          have HH := Lib.hid (HT2.out HD.out)
          clear HT HT2 HSP HD
          go_wp2
          go_roundw
          case rel => exact ⟨k + 1, by omega, by go_num, by first | rfl | trivial, HH⟩
          case measure => simp [intOf]; omega
        · have hlt : ¬ t1 < t1 := by omega
          have HD := Lib.hid (show dueLt (n1, t1) (n, t1) = false by simp [dueLt]; omega)
          have HE := Lib.hid (HSP.out HD.out)
          clear HT HT2 HSP HD
          have hpre := HX.out.2.2.1.pre dueLies (i := k) hk
          have hsuf := HX.out.2.2.1.suf dueLies (i := k) hk (c3 - k)
          obtain ⟨hcap, hcap2⟩ := HX.out.2.2.1.cap
          have hic : k ≤ c3 := by omega
          have hcj : ¬ c3 = k := by omega
          have hA5 := (Keep.refl [] wr).alloc (.cells #[] 145)
          have hb5 := heap_alloc_new wr (.cells #[] 145)
          obtain ⟨w5, hw5⟩ : ∃ w5, wr.alloc (.cells #[] 145) = w5 := ⟨_, rfl⟩
          rw [hw5] at hA5 hb5
          have hsx := HX.out.2.2.2.2
          have hbx : base ≤ w.heap.size := HR.out.2.2.2.2.2.2
          have hs5 := hA5.size
          obtain ⟨v6, w6, hrun6, hO6, hk6, hloc6⟩ := run_append_seg (P := Try.prog) (ty := 131) dueLies Try.underlying131 rdue_infoF rfl (by decide) (by decide) wr.heap.size (rdueE_nil (base := wr.heap.size) hb5 (Nat.le_refl _)) (hpre.keep hA5) (by first | (simp; done) | (simp; omega)) hs5
          have hk46 : Keep [] wr w6 := hA5.trans' hk6 (fun b hb => .inr (by simp [Value.ownBlock] at hb; omega))
          have hs6 := hk46.size
          have hA7 := (Keep.refl [] w6).alloc (.cells (dueE (n, t1)).toArray 145)
          have hs7 := hA7.size
          obtain ⟨v8, w8, hrun8, hO8, hk8, hloc8⟩ := run_append_one (P := Try.prog) (ty := 131) dueLies Try.underlying131 rdue_infoF rfl (by decide) (by decide) wr.heap.size (hO6.keep hA7 (by simp)) w6.heap.size (n, t1) (heap_alloc_new w6 _) (by first | (simp; done) | (simp; omega)) (by omega)
          have hk48 : Keep [] wr w8 := (hk46.trans hA7).trans' hk8 (fun b hb => .inr (by rw [Option.mem_toList] at hb; exact (hO6.lt b hb).1))
          have hs8 := hk48.size
          obtain ⟨v9, w9, hrun9, hO9, hk9, hloc9⟩ := run_append_seg (P := Try.prog) (ty := 131) dueLies Try.underlying131 rdue_infoF rfl (by decide) (by decide) wr.heap.size hO8 (hsuf.keep hk48) (by first | (simp; done) | (simp; omega)) (by omega)
          have hk49 : Keep [] wr w9 := hk48.trans' hk9 (fun b hb => .inr (by rw [Option.mem_toList] at hb; exact (hO8.lt b hb).1))
          have e1 := hk49.blk (by simp) HX.out.1
          have e2 := hk49.blk (by simp) HX.out.2.1
          have c15 := cell_of_row _ _ 1 _ _ _ (hA5.blk (by simp) HX.out.1)
          have c18 := cell_of_row _ _ 1 _ _ _ (hk48.blk (by simp) HX.out.1)
          have c19 := cell_of_row _ _ 1 _ _ _ e1
          have f19 := frozen_of_row w9 w.heap.size 1 _ _ e1
          have hins : [] ++ L.take k ++ [(n, t1)] ++ L.drop k = insD (n, t1) L := by rw [HE.out]; simp
          rw [hins] at hO9
          obtain ⟨a9, c9, ev9⟩ := hO9.form
          obtain ⟨n9, hn9⟩ : ∃ n9, (insD (n, t1) L).length = n9 := ⟨_, rfl⟩
          have ev9' : v9 = .slice a9 n9 c9 := ev9.trans (by rw [← hn9])
          clear ev9 hn9 hins
          subst ev9'
          have g1 := heap_setCell_same w9 w.heap.size 1 _ _ (.slice a9 n9 c9) e1
          have g2 := (heap_setCell_other w9 ⟨w.heap.size, 1, none⟩ (w.heap.size + 1) (.slice a9 n9 c9) (by simp)).trans e2
          obtain ⟨w10, hw10⟩ : ∃ w10, w9.setCell ⟨w.heap.size, 1, none⟩ (.slice a9 n9 c9) = w10 := ⟨_, rfl⟩
          rw [hw10] at g1 g2
          have a0' := cell_of_row w10 _ 0 _ _ _ g1
          have a1' := cell_of_row w10 _ 1 _ _ _ g1
          have y0 := cell_of_row w10 _ 0 _ _ _ g2
          have y1 := cell_of_row w10 _ 1 _ _ _ g2
          have f20 := frozen_of_row w10 (w.heap.size + 1) 0 _ _ g2
          have f21 := frozen_of_row w10 (w.heap.size + 1) 1 _ _ g2
          simp at a0' a1' y0 y1 c15 c18 c19
          have hk910 : Keep [w.heap.size] w9 w10 := by rw [← hw10]; exact (Keep.refl _ _).setCell (.inl (by simp)) _
          have g3 := heap_setCell_same _ (w.heap.size + 1) 1 _ _ (.slice a9 n9 c9) (heap_setCell_same _ (w.heap.size + 1) 0 _ _ (.int .i64 (tm : Int)) g2)
          have HF := Lib.hid (And.intro g3 (And.intro hO9 (And.intro hk910 (And.intro (HX.out.2.2.2.1.trans hk49) hsx))))
          have HR6 := Lib.hid hrun6
          have HR8 := Lib.hid hrun8
          have HR9 := Lib.hid hrun9
          clear g1 g2 g3 hO6 hO8 hO9 hk910 e1 e2 hk6 hk8 hk9 hloc6 hloc8 hloc9 hb5 hA5 hA7 hk46 hk48 hk49 hrun6 hrun8 hrun9 hpre hsuf hs5 hs6 hs7 hs8
          go_wp2_with (at_builtin; first | refine wpList_append_run rfl (.tmp 63) (.tmp 67) 131 rfl (w' := w6) rfl rfl HR6.out ?_ | refine wpList_append_run rfl (.tmp 68) (.tmp 72) 131 rfl (w' := w8) rfl rfl HR8.out ?_ | refine wpList_append_run rfl (.tmp 74) (.tmp 78) 131 rfl (w' := w9) rfl rfl HR9.out ?_)
          all_goals (
            refine bodyPost_ret (results_cell_tmp_row rfl _ _ (w.heap.size + 1) 133 _ _ _ rfl HF.out.1 Try.underlying133 rfl (by kernel_rfl)) rfl ?_
            refine ⟨.slice a9 n9 c9, rfl, ?_, ?_⟩
            · rw [HL.out]
              refine (((HF.out.2.1.lower (by omega)).keep HF.out.2.2.1 (fun b hb => ?_)).keep (((Keep.refl [w.heap.size + 1] _).setCell (.inl (by simp)) _).setCell (.inl (by simp)) _) (fun b hb => ?_))
              · have h1 := (HF.out.2.1.lt b hb).1
                simp
                omega
              · have h1 := (HF.out.2.1.lt b hb).1
                simp
                omega
            · exact ((HF.out.2.2.2.1.trans' HF.out.2.2.1 (fun b hb => .inr (by simp at hb; omega))).setCell (.inr (by simp)) _).setCell (.inr (by simp)) _)
      · have hlt : ¬ t1 < an := by omega
        have hne : ¬ t1 = an := by omega
        have HD := Lib.hid (show dueLt (n1, t1) (n, an) = false by simp [dueLt]; omega)
        have HE := Lib.hid (HSP.out HD.out)
        clear HT HT2 HSP HD
        have hpre := HX.out.2.2.1.pre dueLies (i := k) hk
        have hsuf := HX.out.2.2.1.suf dueLies (i := k) hk (c3 - k)
        obtain ⟨hcap, hcap2⟩ := HX.out.2.2.1.cap
        have hic : k ≤ c3 := by omega
        have hcj : ¬ c3 = k := by omega
        have hA5 := (Keep.refl [] wr).alloc (.cells #[] 145)
        have hb5 := heap_alloc_new wr (.cells #[] 145)
        obtain ⟨w5, hw5⟩ : ∃ w5, wr.alloc (.cells #[] 145) = w5 := ⟨_, rfl⟩
        rw [hw5] at hA5 hb5
        have hsx := HX.out.2.2.2.2
        have hbx : base ≤ w.heap.size := HR.out.2.2.2.2.2.2
        have hs5 := hA5.size
        obtain ⟨v6, w6, hrun6, hO6, hk6, hloc6⟩ := run_append_seg (P := Try.prog) (ty := 131) dueLies Try.underlying131 rdue_infoF rfl (by decide) (by decide) wr.heap.size (rdueE_nil (base := wr.heap.size) hb5 (Nat.le_refl _)) (hpre.keep hA5) (by first | (simp; done) | (simp; omega)) hs5
        have hk46 : Keep [] wr w6 := hA5.trans' hk6 (fun b hb => .inr (by simp [Value.ownBlock] at hb; omega))
        have hs6 := hk46.size
        have hA7 := (Keep.refl [] w6).alloc (.cells (dueE (n, an)).toArray 145)
        have hs7 := hA7.size
        obtain ⟨v8, w8, hrun8, hO8, hk8, hloc8⟩ := run_append_one (P := Try.prog) (ty := 131) dueLies Try.underlying131 rdue_infoF rfl (by decide) (by decide) wr.heap.size (hO6.keep hA7 (by simp)) w6.heap.size (n, an) (heap_alloc_new w6 _) (by first | (simp; done) | (simp; omega)) (by omega)
        have hk48 : Keep [] wr w8 := (hk46.trans hA7).trans' hk8 (fun b hb => .inr (by rw [Option.mem_toList] at hb; exact (hO6.lt b hb).1))
        have hs8 := hk48.size
        obtain ⟨v9, w9, hrun9, hO9, hk9, hloc9⟩ := run_append_seg (P := Try.prog) (ty := 131) dueLies Try.underlying131 rdue_infoF rfl (by decide) (by decide) wr.heap.size hO8 (hsuf.keep hk48) (by first | (simp; done) | (simp; omega)) (by omega)
        have hk49 : Keep [] wr w9 := hk48.trans' hk9 (fun b hb => .inr (by rw [Option.mem_toList] at hb; exact (hO8.lt b hb).1))
        have e1 := hk49.blk (by simp) HX.out.1
        have e2 := hk49.blk (by simp) HX.out.2.1
        have c15 := cell_of_row _ _ 1 _ _ _ (hA5.blk (by simp) HX.out.1)
        have c18 := cell_of_row _ _ 1 _ _ _ (hk48.blk (by simp) HX.out.1)
        have c19 := cell_of_row _ _ 1 _ _ _ e1
        have f19 := frozen_of_row w9 w.heap.size 1 _ _ e1
        have hins : [] ++ L.take k ++ [(n, an)] ++ L.drop k = insD (n, an) L := by rw [HE.out]; simp
        rw [hins] at hO9
        obtain ⟨a9, c9, ev9⟩ := hO9.form
        obtain ⟨n9, hn9⟩ : ∃ n9, (insD (n, an) L).length = n9 := ⟨_, rfl⟩
        have ev9' : v9 = .slice a9 n9 c9 := ev9.trans (by rw [← hn9])
        clear ev9 hn9 hins
        subst ev9'
        have g1 := heap_setCell_same w9 w.heap.size 1 _ _ (.slice a9 n9 c9) e1
        have g2 := (heap_setCell_other w9 ⟨w.heap.size, 1, none⟩ (w.heap.size + 1) (.slice a9 n9 c9) (by simp)).trans e2
        obtain ⟨w10, hw10⟩ : ∃ w10, w9.setCell ⟨w.heap.size, 1, none⟩ (.slice a9 n9 c9) = w10 := ⟨_, rfl⟩
        rw [hw10] at g1 g2
        have a0' := cell_of_row w10 _ 0 _ _ _ g1
        have a1' := cell_of_row w10 _ 1 _ _ _ g1
        have y0 := cell_of_row w10 _ 0 _ _ _ g2
        have y1 := cell_of_row w10 _ 1 _ _ _ g2
        have f20 := frozen_of_row w10 (w.heap.size + 1) 0 _ _ g2
        have f21 := frozen_of_row w10 (w.heap.size + 1) 1 _ _ g2
        simp at a0' a1' y0 y1 c15 c18 c19
        have hk910 : Keep [w.heap.size] w9 w10 := by rw [← hw10]; exact (Keep.refl _ _).setCell (.inl (by simp)) _
        have g3 := heap_setCell_same _ (w.heap.size + 1) 1 _ _ (.slice a9 n9 c9) (heap_setCell_same _ (w.heap.size + 1) 0 _ _ (.int .i64 (tm : Int)) g2)
        have HF := Lib.hid (And.intro g3 (And.intro hO9 (And.intro hk910 (And.intro (HX.out.2.2.2.1.trans hk49) hsx))))
        have HR6 := Lib.hid hrun6
        have HR8 := Lib.hid hrun8
        have HR9 := Lib.hid hrun9
        clear g1 g2 g3 hO6 hO8 hO9 hk910 e1 e2 hk6 hk8 hk9 hloc6 hloc8 hloc9 hb5 hA5 hA7 hk46 hk48 hk49 hrun6 hrun8 hrun9 hpre hsuf hs5 hs6 hs7 hs8
        go_wp2_with (at_builtin; first | refine wpList_append_run rfl (.tmp 63) (.tmp 67) 131 rfl (w' := w6) rfl rfl HR6.out ?_ | refine wpList_append_run rfl (.tmp 68) (.tmp 72) 131 rfl (w' := w8) rfl rfl HR8.out ?_ | refine wpList_append_run rfl (.tmp 74) (.tmp 78) 131 rfl (w' := w9) rfl rfl HR9.out ?_)
        all_goals (
          refine bodyPost_ret (results_cell_tmp_row rfl _ _ (w.heap.size + 1) 133 _ _ _ rfl HF.out.1 Try.underlying133 rfl (by kernel_rfl)) rfl ?_
          refine ⟨.slice a9 n9 c9, rfl, ?_, ?_⟩
          · rw [HL.out]
            refine (((HF.out.2.1.lower (by omega)).keep HF.out.2.2.1 (fun b hb => ?_)).keep (((Keep.refl [w.heap.size + 1] _).setCell (.inl (by simp)) _).setCell (.inl (by simp)) _) (fun b hb => ?_))
            · have h1 := (HF.out.2.1.lt b hb).1
              simp
              omega
            · have h1 := (HF.out.2.1.lt b hb).1
              simp
              omega
          · exact ((HF.out.2.2.2.1.trans' HF.out.2.2.1 (fun b hb => .inr (by simp at hb; omega))).setCell (.inr (by simp)) _).setCell (.inr (by simp)) _)
    · have hke : k = L.length := by omega
      subst hke
      have HE := Lib.hid (insD_split (n, an) L L.length hk HT.out (fun x hx => by
        rw [List.drop_length] at hx
        cases hx))
      cases a3 with
      | none =>
        obtain ⟨rfl, hl0⟩ : c3 = 0 ∧ L.length = 0 := by
          rcases HX.out.2.2.1.2 with ⟨e, h0⟩ | ⟨g, cap, cur, e, -⟩
          · injection e with e1 e2 e3
            exact ⟨e3, h0⟩
          · injection e with e1 e2 e3
            cases e1
        have hln : L = [] := List.eq_nil_of_length_eq_zero hl0
        have hpre : RowS dueE wr (.slice none 0 0) (L.take L.length) := .inl ⟨rfl, by rw [hln]; rfl⟩
        have hsuf : RowS dueE wr (.slice none 0 0) (L.drop L.length) := .inl ⟨rfl, by rw [hln]; rfl⟩
        clear hln HT
        have hA5 := (Keep.refl [] wr).alloc (.cells #[] 145)
        have hb5 := heap_alloc_new wr (.cells #[] 145)
        obtain ⟨w5, hw5⟩ : ∃ w5, wr.alloc (.cells #[] 145) = w5 := ⟨_, rfl⟩
        rw [hw5] at hA5 hb5
        have hsx := HX.out.2.2.2.2
        have hbx : base ≤ w.heap.size := HR.out.2.2.2.2.2.2
        have hs5 := hA5.size
        obtain ⟨v6, w6, hrun6, hO6, hk6, hloc6⟩ := run_append_seg (P := Try.prog) (ty := 131) dueLies Try.underlying131 rdue_infoF rfl (by decide) (by decide) wr.heap.size (rdueE_nil (base := wr.heap.size) hb5 (Nat.le_refl _)) (hpre.keep hA5) (by first | (simp; done) | (simp; omega)) hs5
        have hk46 : Keep [] wr w6 := hA5.trans' hk6 (fun b hb => .inr (by simp [Value.ownBlock] at hb; omega))
        have hs6 := hk46.size
        have hA7 := (Keep.refl [] w6).alloc (.cells (dueE (n, an)).toArray 145)
        have hs7 := hA7.size
        obtain ⟨v8, w8, hrun8, hO8, hk8, hloc8⟩ := run_append_one (P := Try.prog) (ty := 131) dueLies Try.underlying131 rdue_infoF rfl (by decide) (by decide) wr.heap.size (hO6.keep hA7 (by simp)) w6.heap.size (n, an) (heap_alloc_new w6 _) (by first | (simp; done) | (simp; omega)) (by omega)
        have hk48 : Keep [] wr w8 := (hk46.trans hA7).trans' hk8 (fun b hb => .inr (by rw [Option.mem_toList] at hb; exact (hO6.lt b hb).1))
        have hs8 := hk48.size
        obtain ⟨v9, w9, hrun9, hO9, hk9, hloc9⟩ := run_append_seg (P := Try.prog) (ty := 131) dueLies Try.underlying131 rdue_infoF rfl (by decide) (by decide) wr.heap.size hO8 (hsuf.keep hk48) (by first | (simp; done) | (simp; omega)) (by omega)
        have hk49 : Keep [] wr w9 := hk48.trans' hk9 (fun b hb => .inr (by rw [Option.mem_toList] at hb; exact (hO8.lt b hb).1))
        have e1 := hk49.blk (by simp) HX.out.1
        have e2 := hk49.blk (by simp) HX.out.2.1
        have c15 := cell_of_row _ _ 1 _ _ _ (hA5.blk (by simp) HX.out.1)
        have c18 := cell_of_row _ _ 1 _ _ _ (hk48.blk (by simp) HX.out.1)
        have c19 := cell_of_row _ _ 1 _ _ _ e1
        have f19 := frozen_of_row w9 w.heap.size 1 _ _ e1
        have hins : [] ++ L.take L.length ++ [(n, an)] ++ L.drop L.length = insD (n, an) L := by rw [HE.out]; simp
        rw [hins] at hO9
        obtain ⟨a9, c9, ev9⟩ := hO9.form
        obtain ⟨n9, hn9⟩ : ∃ n9, (insD (n, an) L).length = n9 := ⟨_, rfl⟩
        have ev9' : v9 = .slice a9 n9 c9 := ev9.trans (by rw [← hn9])
        clear ev9 hn9 hins
        subst ev9'
        have g1 := heap_setCell_same w9 w.heap.size 1 _ _ (.slice a9 n9 c9) e1
        have g2 := (heap_setCell_other w9 ⟨w.heap.size, 1, none⟩ (w.heap.size + 1) (.slice a9 n9 c9) (by simp)).trans e2
        obtain ⟨w10, hw10⟩ : ∃ w10, w9.setCell ⟨w.heap.size, 1, none⟩ (.slice a9 n9 c9) = w10 := ⟨_, rfl⟩
        rw [hw10] at g1 g2
        have a0' := cell_of_row w10 _ 0 _ _ _ g1
        have a1' := cell_of_row w10 _ 1 _ _ _ g1
        have y0 := cell_of_row w10 _ 0 _ _ _ g2
        have y1 := cell_of_row w10 _ 1 _ _ _ g2
        have f20 := frozen_of_row w10 (w.heap.size + 1) 0 _ _ g2
        have f21 := frozen_of_row w10 (w.heap.size + 1) 1 _ _ g2
        simp at a0' a1' y0 y1 c15 c18 c19
        have hk910 : Keep [w.heap.size] w9 w10 := by rw [← hw10]; exact (Keep.refl _ _).setCell (.inl (by simp)) _
        have g3 := heap_setCell_same _ (w.heap.size + 1) 1 _ _ (.slice a9 n9 c9) (heap_setCell_same _ (w.heap.size + 1) 0 _ _ (.int .i64 (tm : Int)) g2)
        have HF := Lib.hid (And.intro g3 (And.intro hO9 (And.intro hk910 (And.intro (HX.out.2.2.2.1.trans hk49) hsx))))
        have HR6 := Lib.hid hrun6
        have HR8 := Lib.hid hrun8
        have HR9 := Lib.hid hrun9
        clear g1 g2 g3 hO6 hO8 hO9 hk910 e1 e2 hk6 hk8 hk9 hloc6 hloc8 hloc9 hb5 hA5 hA7 hk46 hk48 hk49 hrun6 hrun8 hrun9 hpre hsuf hs5 hs6 hs7 hs8
        go_wp2_with (at_builtin; first | refine wpList_append_run rfl (.tmp 63) (.tmp 67) 131 rfl (w' := w6) rfl rfl HR6.out ?_ | refine wpList_append_run rfl (.tmp 68) (.tmp 72) 131 rfl (w' := w8) rfl rfl HR8.out ?_ | refine wpList_append_run rfl (.tmp 74) (.tmp 78) 131 rfl (w' := w9) rfl rfl HR9.out ?_)
        all_goals (
          refine bodyPost_ret (results_cell_tmp_row rfl _ _ (w.heap.size + 1) 133 _ _ _ rfl HF.out.1 Try.underlying133 rfl (by kernel_rfl)) rfl ?_
          refine ⟨.slice a9 n9 c9, rfl, ?_, ?_⟩
          · rw [HL.out]
            refine (((HF.out.2.1.lower (by omega)).keep HF.out.2.2.1 (fun b hb => ?_)).keep (((Keep.refl [w.heap.size + 1] _).setCell (.inl (by simp)) _).setCell (.inl (by simp)) _) (fun b hb => ?_))
            · have h1 := (HF.out.2.1.lt b hb).1
              simp
              omega
            · have h1 := (HF.out.2.1.lt b hb).1
              simp
              omega
          · exact ((HF.out.2.2.2.1.trans' HF.out.2.2.1 (fun b hb => .inr (by simp at hb; omega))).setCell (.inr (by simp)) _).setCell (.inr (by simp)) _)
      | some ad =>
        obtain ⟨g, ead⟩ : ∃ g, ad = ⟨g, 0, none⟩ := by
          rcases HX.out.2.2.1.2 with ⟨e, -⟩ | ⟨g, cap, cur, e, -⟩
          · cases e
          · injection e with e1 e2 e3
            injection e1 with e1
            exact ⟨g, e1⟩
        subst ead
        clear HT
        have hpre := HX.out.2.2.1.pre dueLies (i := L.length) hk
        obtain ⟨hcap, hcap2⟩ := HX.out.2.2.1.cap
        have hic : L.length ≤ c3 := hcap
        by_cases hcj : c3 = L.length
        · subst hcj
          have hsuf : RowS dueE wr (.slice (some ⟨g, 0, none⟩) 0 0) (L.drop L.length) := .inr ⟨⟨g, 0, none⟩, 0, by simp, fun j u hu => by simp at hu⟩
          have hA5 := (Keep.refl [] wr).alloc (.cells #[] 145)
          have hb5 := heap_alloc_new wr (.cells #[] 145)
          obtain ⟨w5, hw5⟩ : ∃ w5, wr.alloc (.cells #[] 145) = w5 := ⟨_, rfl⟩
          rw [hw5] at hA5 hb5
          have hsx := HX.out.2.2.2.2
          have hbx : base ≤ w.heap.size := HR.out.2.2.2.2.2.2
          have hs5 := hA5.size
          obtain ⟨v6, w6, hrun6, hO6, hk6, hloc6⟩ := run_append_seg (P := Try.prog) (ty := 131) dueLies Try.underlying131 rdue_infoF rfl (by decide) (by decide) wr.heap.size (rdueE_nil (base := wr.heap.size) hb5 (Nat.le_refl _)) (hpre.keep hA5) (by first | (simp; done) | (simp; omega)) hs5
          have hk46 : Keep [] wr w6 := hA5.trans' hk6 (fun b hb => .inr (by simp [Value.ownBlock] at hb; omega))
          have hs6 := hk46.size
          have hA7 := (Keep.refl [] w6).alloc (.cells (dueE (n, an)).toArray 145)
          have hs7 := hA7.size
          obtain ⟨v8, w8, hrun8, hO8, hk8, hloc8⟩ := run_append_one (P := Try.prog) (ty := 131) dueLies Try.underlying131 rdue_infoF rfl (by decide) (by decide) wr.heap.size (hO6.keep hA7 (by simp)) w6.heap.size (n, an) (heap_alloc_new w6 _) (by first | (simp; done) | (simp; omega)) (by omega)
          have hk48 : Keep [] wr w8 := (hk46.trans hA7).trans' hk8 (fun b hb => .inr (by rw [Option.mem_toList] at hb; exact (hO6.lt b hb).1))
          have hs8 := hk48.size
          obtain ⟨v9, w9, hrun9, hO9, hk9, hloc9⟩ := run_append_seg (P := Try.prog) (ty := 131) dueLies Try.underlying131 rdue_infoF rfl (by decide) (by decide) wr.heap.size hO8 (hsuf.keep hk48) (by first | (simp; done) | (simp; omega)) (by omega)
          have hk49 : Keep [] wr w9 := hk48.trans' hk9 (fun b hb => .inr (by rw [Option.mem_toList] at hb; exact (hO8.lt b hb).1))
          have e1 := hk49.blk (by simp) HX.out.1
          have e2 := hk49.blk (by simp) HX.out.2.1
          have c15 := cell_of_row _ _ 1 _ _ _ (hA5.blk (by simp) HX.out.1)
          have c18 := cell_of_row _ _ 1 _ _ _ (hk48.blk (by simp) HX.out.1)
          have c19 := cell_of_row _ _ 1 _ _ _ e1
          have f19 := frozen_of_row w9 w.heap.size 1 _ _ e1
          have hins : [] ++ L.take L.length ++ [(n, an)] ++ L.drop L.length = insD (n, an) L := by rw [HE.out]; simp
          rw [hins] at hO9
          obtain ⟨a9, c9, ev9⟩ := hO9.form
          obtain ⟨n9, hn9⟩ : ∃ n9, (insD (n, an) L).length = n9 := ⟨_, rfl⟩
          have ev9' : v9 = .slice a9 n9 c9 := ev9.trans (by rw [← hn9])
          clear ev9 hn9 hins
          subst ev9'
          have g1 := heap_setCell_same w9 w.heap.size 1 _ _ (.slice a9 n9 c9) e1
          have g2 := (heap_setCell_other w9 ⟨w.heap.size, 1, none⟩ (w.heap.size + 1) (.slice a9 n9 c9) (by simp)).trans e2
          obtain ⟨w10, hw10⟩ : ∃ w10, w9.setCell ⟨w.heap.size, 1, none⟩ (.slice a9 n9 c9) = w10 := ⟨_, rfl⟩
          rw [hw10] at g1 g2
          have a0' := cell_of_row w10 _ 0 _ _ _ g1
          have a1' := cell_of_row w10 _ 1 _ _ _ g1
          have y0 := cell_of_row w10 _ 0 _ _ _ g2
          have y1 := cell_of_row w10 _ 1 _ _ _ g2
          have f20 := frozen_of_row w10 (w.heap.size + 1) 0 _ _ g2
          have f21 := frozen_of_row w10 (w.heap.size + 1) 1 _ _ g2
          simp at a0' a1' y0 y1 c15 c18 c19
          have hk910 : Keep [w.heap.size] w9 w10 := by rw [← hw10]; exact (Keep.refl _ _).setCell (.inl (by simp)) _
          have g3 := heap_setCell_same _ (w.heap.size + 1) 1 _ _ (.slice a9 n9 c9) (heap_setCell_same _ (w.heap.size + 1) 0 _ _ (.int .i64 (tm : Int)) g2)
          have HF := Lib.hid (And.intro g3 (And.intro hO9 (And.intro hk910 (And.intro (HX.out.2.2.2.1.trans hk49) hsx))))
          have HR6 := Lib.hid hrun6
          have HR8 := Lib.hid hrun8
          have HR9 := Lib.hid hrun9
          clear g1 g2 g3 hO6 hO8 hO9 hk910 e1 e2 hk6 hk8 hk9 hloc6 hloc8 hloc9 hb5 hA5 hA7 hk46 hk48 hk49 hrun6 hrun8 hrun9 hpre hsuf hs5 hs6 hs7 hs8
          go_wp2_with (at_builtin; first | refine wpList_append_run rfl (.tmp 63) (.tmp 67) 131 rfl (w' := w6) rfl rfl HR6.out ?_ | refine wpList_append_run rfl (.tmp 68) (.tmp 72) 131 rfl (w' := w8) rfl rfl HR8.out ?_ | refine wpList_append_run rfl (.tmp 74) (.tmp 78) 131 rfl (w' := w9) rfl rfl HR9.out ?_)
          all_goals (
            refine bodyPost_ret (results_cell_tmp_row rfl _ _ (w.heap.size + 1) 133 _ _ _ rfl HF.out.1 Try.underlying133 rfl (by kernel_rfl)) rfl ?_
            refine ⟨.slice a9 n9 c9, rfl, ?_, ?_⟩
            · rw [HL.out]
              refine (((HF.out.2.1.lower (by omega)).keep HF.out.2.2.1 (fun b hb => ?_)).keep (((Keep.refl [w.heap.size + 1] _).setCell (.inl (by simp)) _).setCell (.inl (by simp)) _) (fun b hb => ?_))
              · have h1 := (HF.out.2.1.lt b hb).1
                simp
                omega
              · have h1 := (HF.out.2.1.lt b hb).1
                simp
                omega
            · exact ((HF.out.2.2.2.1.trans' HF.out.2.2.1 (fun b hb => .inr (by simp at hb; omega))).setCell (.inr (by simp)) _).setCell (.inr (by simp)) _)
        · have hsuf : RowS dueE wr (.slice (some ⟨g, L.length * 2, none⟩) 0 (c3 - L.length)) (L.drop L.length) := .inr ⟨⟨g, L.length * 2, none⟩, c3 - L.length, by simp, fun j u hu => by simp at hu⟩
          have hA5 := (Keep.refl [] wr).alloc (.cells #[] 145)
          have hb5 := heap_alloc_new wr (.cells #[] 145)
          obtain ⟨w5, hw5⟩ : ∃ w5, wr.alloc (.cells #[] 145) = w5 := ⟨_, rfl⟩
          rw [hw5] at hA5 hb5
          have hsx := HX.out.2.2.2.2
          have hbx : base ≤ w.heap.size := HR.out.2.2.2.2.2.2
          have hs5 := hA5.size
          obtain ⟨v6, w6, hrun6, hO6, hk6, hloc6⟩ := run_append_seg (P := Try.prog) (ty := 131) dueLies Try.underlying131 rdue_infoF rfl (by decide) (by decide) wr.heap.size (rdueE_nil (base := wr.heap.size) hb5 (Nat.le_refl _)) (hpre.keep hA5) (by first | (simp; done) | (simp; omega)) hs5
          have hk46 : Keep [] wr w6 := hA5.trans' hk6 (fun b hb => .inr (by simp [Value.ownBlock] at hb; omega))
          have hs6 := hk46.size
          have hA7 := (Keep.refl [] w6).alloc (.cells (dueE (n, an)).toArray 145)
          have hs7 := hA7.size
          obtain ⟨v8, w8, hrun8, hO8, hk8, hloc8⟩ := run_append_one (P := Try.prog) (ty := 131) dueLies Try.underlying131 rdue_infoF rfl (by decide) (by decide) wr.heap.size (hO6.keep hA7 (by simp)) w6.heap.size (n, an) (heap_alloc_new w6 _) (by first | (simp; done) | (simp; omega)) (by omega)
          have hk48 : Keep [] wr w8 := (hk46.trans hA7).trans' hk8 (fun b hb => .inr (by rw [Option.mem_toList] at hb; exact (hO6.lt b hb).1))
          have hs8 := hk48.size
          obtain ⟨v9, w9, hrun9, hO9, hk9, hloc9⟩ := run_append_seg (P := Try.prog) (ty := 131) dueLies Try.underlying131 rdue_infoF rfl (by decide) (by decide) wr.heap.size hO8 (hsuf.keep hk48) (by first | (simp; done) | (simp; omega)) (by omega)
          have hk49 : Keep [] wr w9 := hk48.trans' hk9 (fun b hb => .inr (by rw [Option.mem_toList] at hb; exact (hO8.lt b hb).1))
          have e1 := hk49.blk (by simp) HX.out.1
          have e2 := hk49.blk (by simp) HX.out.2.1
          have c15 := cell_of_row _ _ 1 _ _ _ (hA5.blk (by simp) HX.out.1)
          have c18 := cell_of_row _ _ 1 _ _ _ (hk48.blk (by simp) HX.out.1)
          have c19 := cell_of_row _ _ 1 _ _ _ e1
          have f19 := frozen_of_row w9 w.heap.size 1 _ _ e1
          have hins : [] ++ L.take L.length ++ [(n, an)] ++ L.drop L.length = insD (n, an) L := by rw [HE.out]; simp
          rw [hins] at hO9
          obtain ⟨a9, c9, ev9⟩ := hO9.form
          obtain ⟨n9, hn9⟩ : ∃ n9, (insD (n, an) L).length = n9 := ⟨_, rfl⟩
          have ev9' : v9 = .slice a9 n9 c9 := ev9.trans (by rw [← hn9])
          clear ev9 hn9 hins
          subst ev9'
          have g1 := heap_setCell_same w9 w.heap.size 1 _ _ (.slice a9 n9 c9) e1
          have g2 := (heap_setCell_other w9 ⟨w.heap.size, 1, none⟩ (w.heap.size + 1) (.slice a9 n9 c9) (by simp)).trans e2
          obtain ⟨w10, hw10⟩ : ∃ w10, w9.setCell ⟨w.heap.size, 1, none⟩ (.slice a9 n9 c9) = w10 := ⟨_, rfl⟩
          rw [hw10] at g1 g2
          have a0' := cell_of_row w10 _ 0 _ _ _ g1
          have a1' := cell_of_row w10 _ 1 _ _ _ g1
          have y0 := cell_of_row w10 _ 0 _ _ _ g2
          have y1 := cell_of_row w10 _ 1 _ _ _ g2
          have f20 := frozen_of_row w10 (w.heap.size + 1) 0 _ _ g2
          have f21 := frozen_of_row w10 (w.heap.size + 1) 1 _ _ g2
          simp at a0' a1' y0 y1 c15 c18 c19
          have hk910 : Keep [w.heap.size] w9 w10 := by rw [← hw10]; exact (Keep.refl _ _).setCell (.inl (by simp)) _
          have g3 := heap_setCell_same _ (w.heap.size + 1) 1 _ _ (.slice a9 n9 c9) (heap_setCell_same _ (w.heap.size + 1) 0 _ _ (.int .i64 (tm : Int)) g2)
          have HF := Lib.hid (And.intro g3 (And.intro hO9 (And.intro hk910 (And.intro (HX.out.2.2.2.1.trans hk49) hsx))))
          have HR6 := Lib.hid hrun6
          have HR8 := Lib.hid hrun8
          have HR9 := Lib.hid hrun9
          clear g1 g2 g3 hO6 hO8 hO9 hk910 e1 e2 hk6 hk8 hk9 hloc6 hloc8 hloc9 hb5 hA5 hA7 hk46 hk48 hk49 hrun6 hrun8 hrun9 hpre hsuf hs5 hs6 hs7 hs8
          go_wp2_with (at_builtin; first | refine wpList_append_run rfl (.tmp 63) (.tmp 67) 131 rfl (w' := w6) rfl rfl HR6.out ?_ | refine wpList_append_run rfl (.tmp 68) (.tmp 72) 131 rfl (w' := w8) rfl rfl HR8.out ?_ | refine wpList_append_run rfl (.tmp 74) (.tmp 78) 131 rfl (w' := w9) rfl rfl HR9.out ?_)
          all_goals (
            refine bodyPost_ret (results_cell_tmp_row rfl _ _ (w.heap.size + 1) 133 _ _ _ rfl HF.out.1 Try.underlying133 rfl (by kernel_rfl)) rfl ?_
            refine ⟨.slice a9 n9 c9, rfl, ?_, ?_⟩
            · rw [HL.out]
              refine (((HF.out.2.1.lower (by omega)).keep HF.out.2.2.1 (fun b hb => ?_)).keep (((Keep.refl [w.heap.size + 1] _).setCell (.inl (by simp)) _).setCell (.inl (by simp)) _) (fun b hb => ?_))
              · have h1 := (HF.out.2.1.lt b hb).1
                simp
                omega
              · have h1 := (HF.out.2.1.lt b hb).1
                simp
                omega
            · exact ((HF.out.2.2.2.1.trans' HF.out.2.2.1 (fun b hb => .inr (by simp at hb; omega))).setCell (.inr (by simp)) _).setCell (.inr (by simp)) _)
end Go.Proofs.Ytjkjiabfhhnngaa
