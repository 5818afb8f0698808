import Derived.Test.YtjkjiabfhhnngaaRef24c
import Derived.Test.YtjkjiabfhhnngaaWActAt
import Derived.Test.YtjkjiabfhhnngaaWGoesM
/-! The walk of the law WheelPlays. -/
namespace Go.Proofs.Ytjkjiabfhhnngaa
open Go.RowKit Go.Shelf Sg
set_option linter.unusedSimpArgs false
set_option linter.unusedVariables false

theorem Wm.put_len (m : Wm) (n a : Int) : (m.put n a).1.ths.length ≤ m.ths.length + 1 := by
  unfold Wm.put
  split
  · exact Nat.le_succ _
  · show (insD (n, a.toNat) (dropD n m.ths)).length ≤ _
    rw [(insD_perm (n, a.toNat) (dropD n m.ths)).length_eq]
    have := List.length_filter_le (fun p : Int × Nat => decide (p.1 ≠ n)) m.ths
    unfold dropD
    rw [List.length_cons]
    omega
theorem Wm.go_len (m : Wm) (k : Int) : (m.go k).1.ths.length ≤ m.ths.length ∧ (m.go k).2.1.length ≤ m.ths.length := by
  unfold Wm.go
  split
  · exact ⟨Nat.le_refl _, Nat.zero_le _⟩
  · exact ⟨(List.dropWhile_sublist _).length_le, (List.takeWhile_sublist _).length_le⟩
/-- behind so many acts: the wheel, and the document's in its box -/
structure PwR (W wr : World) (B : Nat) (D : List Nat) (g j : Nat) (m : Wm) (sl : Value) : Prop where
  wv : WV wr D g m
  box : wr.heap[B]? = some (.cells #[.int .i64 (m.time : Int), sl] 133 (0, 0))
  row : RefW wr B sl m
  keep : Keep [] W wr
  few : m.ths.length ≤ j
  lt : ∀ b ∈ D, b < B ∧ W.heap.size ≤ b
  new : W.heap.size ≤ B
theorem PwR.step {W wr w' : World} {B : Nat} {D : List Nat} {g j : Nat} {m : Wm} {sl : Value} (h : PwR W wr B D g j m sl) (k : Keep [] wr w') : PwR W w' B D g j m sl :=
  ⟨h.wv.keep k (by simp), k.blk (by simp) h.box, RowE.keep h.row k (by simp), h.keep.trans k, h.few, h.lt, h.new⟩
/-- a call upon the wheel behind a call of the document's, and the box stored into -/
theorem PwR.next {W w1 w2 w3 : World} {B : Nat} {D : List Nat} {g j : Nat} {m m' : Wm} {sl sl' : Value} (h : PwR W w1 B D g j m sl) (hrow : RefW w1 B sl' m') (hw2 : (w1.setCell ⟨B, 0, none⟩ (.int .i64 (m'.time : Int))).setCell ⟨B, 1, none⟩ sl' = w2) (hk : Keep D w2 w3) (hv : WV w3 D g m') (hf : m'.ths.length ≤ j + 1) : PwR W w3 B D g (j + 1) m' sl' := by
  have g1 := heap_setCell_same _ B 1 _ _ sl' (heap_setCell_same w1 B 0 _ _ (.int .i64 (m'.time : Int)) h.box)
  have hk12 : Keep [B] w1 w2 := by rw [← hw2]; exact ((Keep.refl _ _).setCell (.inl (by simp)) _).setCell (.inl (by simp)) _
  have hB : B ∉ D := fun hm => by have := (h.lt B hm).1; omega
  have hne : sl'.ownBlock ≠ some B := RowE.ne hrow h.box (by decide)
  rw [hw2] at g1
  refine ⟨hv, hk.blk hB g1, ?_, (h.keep.trans' hk12 (fun b hb => .inr (by have := h.new; simp at hb; omega))).trans' hk (fun b hb => .inr (h.lt b hb).2), hf, h.lt, h.new⟩
  refine (RowE.keep hrow hk12 (fun b hb hm => hne (by rw [hb, List.mem_singleton.1 hm]))).keep hk (fun b hb hm => ?_)
  have h1 := (RowE.lt hrow b hb).1
  have h2 := (h.lt b hm).1
  omega

set_option maxRecDepth 100000 in
set_option maxHeartbeats 1000000 in
set_option maxHeartbeats 8000000 in
theorem wheelPlaysWalk (W : World) (vl : Value) (l : List WAct) (hl : WActs W vl l) :
    Calls Try.prog 9 #[vl] W fun e W' => e = .returned (.bool true) ∧ Below W.heap.size W W' := by
  obtain ⟨ao, cap, rfl, hlc, -, -⟩ := hl.form
  have HS := Lib.hid hl
  clear hl
  have cN := newWheel_any W
  by_cases hlen : 100 < l.length
  · have hlen' : (100 : Int) < (l.length : Int) := by omega
    go_enter Try.func9, Try.ntmps9
    go_wp2
    go_ret
    exact ⟨rfl, Below.refl _ _⟩
  have hlen' : ¬ (100 : Int) < (l.length : Int) := by omega
  go_enter Try.func9, Try.ntmps9
  go_wp2_with fail
  refine cN.mono ?_
  clear cN
  rintro e w1 ⟨g, D, rfl, hv1, hD, hk1⟩
  have hlt1 : ∀ b ∈ D, b < w1.heap.size := hv1.lt
  have hA := (Keep.refl [] w1).alloc (.cells #[.int .i64 0, .slice none 0 0] 133)
  have hb := heap_alloc_new w1 (.cells #[.int .i64 0, .slice none 0 0] 133)
  obtain ⟨w2, hw2⟩ : ∃ w2, w1.alloc (.cells #[.int .i64 0, .slice none 0 0] 133) = w2 := ⟨_, rfl⟩
  rw [hw2] at hA hb
  have x0 := cell_of_row w2 _ 0 _ _ _ hb
  have x1 := cell_of_row w2 _ 1 _ _ _ hb
  have f0 := frozen_of_row w2 w1.heap.size 0 _ _ hb
  have f1 := frozen_of_row w2 w1.heap.size 1 _ _ hb
  simp at x0 x1
  have g1 := heap_setCell_same _ w1.heap.size 1 _ _ (.slice none 0 0) (heap_setCell_same w2 w1.heap.size 0 _ _ (.int .i64 0) hb)
  have hk23 : Keep [w1.heap.size] w2 ((w2.setCell ⟨w1.heap.size, 0, none⟩ (.int .i64 0)).setCell ⟨w1.heap.size, 1, none⟩ (.slice none 0 0)) := ((Keep.refl _ _).setCell (.inl (by simp)) _).setCell (.inl (by simp)) _
  have H0 : Hid (PwR W ((w2.setCell ⟨w1.heap.size, 0, none⟩ (.int .i64 0)).setCell ⟨w1.heap.size, 1, none⟩ (.slice none 0 0)) w1.heap.size D g 0 Wm.new (.slice none 0 0)) := Lib.hid ⟨(hv1.keep hA (by simp)).keep hk23 (fun b hb hm => by have := hlt1 b hm; simp at hb; omega), g1, RowE.nil, (hk1.trans hA).trans' hk23 (fun b hb => .inr (by have := hk1.size; simp at hb; omega)), Nat.le_refl _, fun b hb => ⟨hlt1 b hb, hD b hb⟩, hk1.size⟩
  obtain ⟨B, hB⟩ : ∃ B, w1.heap.size = B := ⟨_, rfl⟩
  clear hv1 hD hk1 hlt1 hA hb g1 hk23 hB
  go_wp2
  go_loopw [5] (fun i wr => ∃ (j : Nat) (m : Wm) (sl : Value), j ≤ l.length ∧ i = .int .i64 j ∧ Hid (PwR W wr w1.heap.size D g j m sl)) (fun i _ => l.length - (intOf i).toNat)
  case atStart => exact ⟨0, Wm.new, _, by omega, rfl, H0⟩
  case round =>
    clear H0 hw2 x0 x1 f0 f1
    obtain ⟨j, m, sl, hj, rfl, HP⟩ := hrel
    by_cases hlt : j < l.length
    · obtain ⟨b, o, rfl, hcs⟩ := HS.out.spot hlt
      have hok := HS.out.each hlt
      obtain ⟨q, hq⟩ : ∃ q, l[j] = q := ⟨_, rfl⟩
      rw [hq] at hcs hok
      clear hq
      obtain ⟨a0, a1, a2, a3⟩ := hcs _ HP.out.keep
      clear hcs
      have hAx := (Keep.refl [] wr).alloc (.cells #[.int .i64 q.kind, .int .i64 q.num, .int .i64 q.n, .bool q.far] 121)
      have hbx := heap_alloc_new wr (.cells #[.int .i64 q.kind, .int .i64 q.num, .int .i64 q.n, .bool q.far] 121)
      obtain ⟨wa, hwa⟩ : ∃ wa, wr.alloc (.cells #[.int .i64 q.kind, .int .i64 q.num, .int .i64 q.n, .bool q.far] 121) = wa := ⟨_, rfl⟩
      go_upto_region 9 with fail
      rw [hwa] at hAx hbx
      have HPa := Lib.hid (HP.out.step hAx)
      have hltB : w1.heap.size < wr.heap.size := (Array.getElem?_eq_some_iff.1 HP.out.box).1
      clear a0 a1 a2 a3 hwa HP hAx
      obtain ⟨bx, hbxe⟩ : ∃ bx, wr.heap.size = bx := ⟨_, rfl⟩
      rw [hbxe] at hbx hltB ⊢
      clear hbxe
      have HBX := Lib.hid (And.intro hbx hltB)
      have x0 := cell_of_row wa _ 0 _ _ _ hbx
      have x1 := cell_of_row wa _ 1 _ _ _ hbx
      have x2 := cell_of_row wa _ 2 _ _ _ hbx
      have x3 := cell_of_row wa _ 3 _ _ _ hbx
      simp at x0 x1 x2 x3
      have b0 := cell_of_row wa _ 0 _ _ _ HPa.out.box
      have b1 := cell_of_row wa _ 1 _ _ _ HPa.out.box
      simp at b0 b1
      obtain ⟨rk, hrk⟩ : ∃ rk, (wrap64 (q.kind.tmod 5 + 5)).tmod 5 = rk := ⟨_, rfl⟩
      have hm100 : m.ths.length ≤ 100 := by have := HPa.out.few; omega
      have hBw : w1.heap.size ≤ wa.heap.size := Nat.le_of_lt (Array.getElem?_eq_some_iff.1 HPa.out.box).1
      clear hbx hltB
      by_cases h3 : rk = 3
      · have h3' : ((wrap64 (q.kind.tmod 5 + 5)).tmod 5 == 3) = true := by rw [hrk, h3]; rfl
        clear hrk h3
        have hdr := refDrop_any wa w1.heap.size sl m HPa.out.row hBw (by omega) HPa.out.wv.1.nd q.num
        go_wp2_with fail
        refine hdr.mono ?_
        clear hdr
        rintro e w5 ⟨sl5, rfl, hr5, hk5⟩
        obtain ⟨a5, c5, ev5⟩ := RowE.form hr5
        obtain ⟨n5, hn5⟩ : ∃ n5, (m.drop q.num).ths.length = n5 := ⟨_, rfl⟩
        rw [hn5] at ev5
        subst ev5
        have hA6 := (Keep.refl [] w5).alloc (.cells #[.int .i64 (m.time : Int), .slice a5 n5 c5] 133)
        have hb6 := heap_alloc_new w5 (.cells #[.int .i64 (m.time : Int), .slice a5 n5 c5] 133)
        obtain ⟨w6, hw6⟩ : ∃ w6, w5.alloc (.cells #[.int .i64 (m.time : Int), .slice a5 n5 c5] 133) = w6 := ⟨_, rfl⟩
        rw [hw6] at hA6 hb6
        have HP6 := Lib.hid (HPa.out.step (hk5.trans hA6))
        have hr6 : RefW w6 w1.heap.size (.slice a5 n5 c5) (m.drop q.num) := RowE.keep hr5 hA6 (by simp)
        have u0 := cell_of_row w6 _ 0 _ _ _ hb6
        have u1 := cell_of_row w6 _ 1 _ _ _ hb6
        have v0 := cell_of_row w6 _ 0 _ _ _ HP6.out.box
        have v1 := cell_of_row w6 _ 1 _ _ _ HP6.out.box
        have fv0 := frozen_of_row w6 w1.heap.size 0 _ _ HP6.out.box
        have fv1 := frozen_of_row w6 w1.heap.size 1 _ _ HP6.out.box
        simp at u0 u1 v0 v1
        obtain ⟨w7, hw7⟩ : ∃ w7, (w6.setCell ⟨w1.heap.size, 0, none⟩ (.int .i64 (m.time : Int))).setCell ⟨w1.heap.size, 1, none⟩ (.slice a5 n5 c5) = w7 := ⟨_, rfl⟩
        have hk67 : Keep [w1.heap.size] w6 w7 := by rw [← hw7]; exact ((Keep.refl _ _).setCell (.inl (by simp)) _).setCell (.inl (by simp)) _
        have hbx7 := hk67.blk (by have := HBX.out.2; simp; omega) (hA6.blk (by simp) (hk5.blk (by simp) HBX.out.1))
        have x71 := cell_of_row w7 _ 1 _ _ _ hbx7
        simp at x71
        have hv7 : WV w7 D g m := HP6.out.wv.keep hk67 (fun b hb hm => by have := (HP6.out.lt b hm).1; simp at hb; omega)
        have hrng : (Lit.int .i64 q.num).wf = true := i64_wf hok.s1 hok.s2
        have hdr := drop_any w7 D g m hv7 q.num hrng
        obtain ⟨wd, hwd⟩ : ∃ wd, wasD m q.num = wd := ⟨_, rfl⟩
        rw [hwd] at hdr ⊢
        have HW := Lib.hid (And.intro hr6 hw7)
        clear hr5 hk5 hA6 hb6 hr6 hk67 hbx7 hv7 x0 x1 x2 x3 b0 b1 hwd hn5
        go_wp2_with fail
        refine hdr.mono ?_
        clear hdr
        rintro e w8 ⟨rfl, hv8, hk8⟩
        have HN := Lib.hid (HP6.out.next HW.out.1 HW.out.2 hk8 hv8 (by have h1 := HP6.out.few; have h2 := List.length_filter_le (fun p : Int × Nat => decide (p.1 ≠ q.num)) m.ths; show (dropD q.num m.ths).length ≤ _; unfold dropD; omega))
        clear hv8 hk8 HP6 HPa HBX HW u0 u1 v0 v1 fv0 fv1 x71 hw6 hw7 hrng
        obtain ⟨mm, hmm⟩ : ∃ mm, (m.drop q.num) = mm := ⟨_, rfl⟩
        rw [hmm] at HN
        clear hmm
        have hnx := next_any _ D g mm HN.out.wv
        obtain ⟨y0, y1, hxy⟩ := headV_two mm.ths
        rw [hxy] at hnx
        have HXY := Lib.hid hxy
        clear hxy
        go_wp2_with fail
        refine hnx.mono ?_
        clear hnx
        rintro e wn ⟨rfl, hkn⟩
        have hAn := (Keep.refl [] wn).alloc (.cells #[.int .i64 y0, .int .i64 y1] 128)
        have hbn := heap_alloc_new wn (.cells #[.int .i64 y0, .int .i64 y1] 128)
        obtain ⟨wq, hwq⟩ : ∃ wq, wn.alloc (.cells #[.int .i64 y0, .int .i64 y1] 128) = wq := ⟨_, rfl⟩
        rw [hwq] at hAn hbn
        have HQ := Lib.hid (HN.out.step (hkn.trans hAn))
        clear HN hkn hAn
        go_upto_region 28 with fail
        have b80 := cell_of_row wq _ 0 _ _ _ HQ.out.box
        have b81 := cell_of_row wq _ 1 _ _ _ HQ.out.box
        have n80 := cell_of_row wq _ 0 _ _ _ hbn
        have n81 := cell_of_row wq _ 1 _ _ _ hbn
        simp at b80 b81 n80 n81
        have hm8 : mm.ths.length ≤ 101 := by have := HQ.out.few; omega
        have hn8 : n5 = mm.ths.length := by
          obtain ⟨a, c, e⟩ := RowE.form HQ.out.row
          injection e with e1 e2 e3
        clear hbn
        cases hms : mm.ths with
        | nil =>
          rw [hms] at hn8
          subst hn8
          have hy := HXY.out
          rw [hms] at hy
          obtain ⟨rfl, rfl⟩ : y0 = 0 ∧ y1 = 0 := by
            simp [headV] at hy
            omega
          have HMS := Lib.hid hms
          clear hms hy
          refine wp_region_his [] [1, 7] (fun _ => 0) (by kernel_rfl) (by kernel_rfl) ?_
          intro wx hkx hhx
          have p0 := fun w' (h' : Keep [] wx w') => (hkx.trans h').cell (by simp) b80
          have p1 := fun w' (h' : Keep [] wx w') => (hkx.trans h').cell (by simp) b81
          have p2 := fun w' (h' : Keep [] wx w') => (hkx.trans h').cell (by simp) n80
          have p3 := fun w' (h' : Keep [] wx w') => (hkx.trans h').cell (by simp) n81
          have HX := Lib.hid (HQ.out.step hkx)
          clear b80 b81 n80 n81 hhx HQ hkx
          (repeat (first | (refine his_q rfl rfl (fun K hK => ?_); apply Exists.intro; refine ⟨fun w' hC => ?_, ?_⟩; ((try simp [Sg.upd] at hC); go_simp <;> rfl); go_simp; refine hK _ _ ?_; clear hK K) | (refine his_s rfl (fun K hK => ?_); go_simp; refine hK _ _ ?_; clear hK K)))
          (refine his_l rfl rfl (fun K hK => ?_); go_simp)
          refine (time_any wx D g mm HX.out.wv).mono ?_
          rintro x wy ⟨rfl, rfl⟩
          refine hK _ _ (Keep.refl _ _) ?_
          clear hK K
          (repeat (first | (refine his_q rfl rfl (fun K hK => ?_); apply Exists.intro; refine ⟨fun w' hC => ?_, ?_⟩; ((try simp [Sg.upd] at hC); go_simp <;> rfl); go_simp; refine hK _ _ ?_; clear hK K) | (refine his_s rfl (fun K hK => ?_); go_simp; refine hK _ _ ?_; clear hK K)))
          (refine his_l rfl rfl (fun K hK => ?_); go_simp)
          refine (len_any _ D g mm HX.out.wv).mono ?_
          rintro x wy ⟨rfl, rfl⟩
          refine hK _ _ (Keep.refl _ _) ?_
          clear hK K
          have hl0 : mm.ths.length = 0 := by rw [HMS.out]; rfl
          (repeat (first | (refine his_q rfl rfl (fun K hK => ?_); apply Exists.intro; refine ⟨fun w' hC => ?_, ?_⟩; ((try simp [Sg.upd] at hC); go_simp <;> rfl); go_simp; refine hK _ _ ?_; clear hK K) | (refine his_s rfl (fun K hK => ?_); go_simp; refine hK _ _ ?_; clear hK K)))
          refine his_nil ?_
          clear p0 p1 p2 p3
          go_wp2
          go_roundw
          case rel => exact ⟨j + 1, mm, .slice a5 0 c5, by omega, by go_num, HX⟩
          case measure => simp [intOf]; omega
        | cons p rest =>
          obtain ⟨gs, ha5, -, q5⟩ := RowE.cells dueLies HQ.out.row (i := 0) (by rw [hms]; simp)
          subst ha5
          have hp0 : mm.ths[0]'(by rw [hms]; simp) = p := by simp [hms]
          have hy := HXY.out
          rw [hms, headV_cons] at hy
          obtain ⟨hy0, hy1⟩ : p.1 = y0 ∧ (p.2 : Int) = y1 := by
            simp at hy
            exact hy
          have s0 := q5 0 (.int .i64 y0) (by rw [hp0, ← hy0]; rfl)
          have s1 := q5 1 (.int .i64 y1) (by rw [hp0, ← hy1]; rfl)
          rw [Nat.add_zero] at s0
          simp at s0 s1
          have hln : 0 < mm.ths.length := by rw [hms]; simp
          have hln' : (0 : Int) < (mm.ths.length : Int) := by omega
          have hd1 : decide ((0 : Int) < (mm.ths.length : Int)) = true := decide_eq_true hln'
          have hd2 : decide (0 < mm.ths.length) = true := decide_eq_true hln
          have HMS := Lib.hid hms
          clear hms hy hp0 q5 hy0 hy1
          refine wp_region_his [] [1, 7] (fun _ => 0) (by kernel_rfl) (by kernel_rfl) ?_
          intro wx hkx hhx
          have p0 := fun w' (h' : Keep [] wx w') => (hkx.trans h').cell (by simp) b80
          have p1 := fun w' (h' : Keep [] wx w') => (hkx.trans h').cell (by simp) b81
          have p2 := fun w' (h' : Keep [] wx w') => (hkx.trans h').cell (by simp) n80
          have p3 := fun w' (h' : Keep [] wx w') => (hkx.trans h').cell (by simp) n81
          have p4 := fun w' (h' : Keep [] wx w') => (hkx.trans h').cell (by simp) s0
          have p5 := fun w' (h' : Keep [] wx w') => (hkx.trans h').cell (by simp) s1
          have HX := Lib.hid (HQ.out.step hkx)
          clear b80 b81 n80 n81 s0 s1 hhx HQ hkx
          (repeat (first | (refine his_q rfl rfl (fun K hK => ?_); apply Exists.intro; refine ⟨fun w' hC => ?_, ?_⟩; ((try simp [Sg.upd] at hC); go_simp <;> rfl); go_simp; refine hK _ _ ?_; clear hK K) | (refine his_s rfl (fun K hK => ?_); go_simp; refine hK _ _ ?_; clear hK K)))
          (refine his_l rfl rfl (fun K hK => ?_); go_simp)
          refine (time_any wx D g mm HX.out.wv).mono ?_
          rintro x wy ⟨rfl, rfl⟩
          refine hK _ _ (Keep.refl _ _) ?_
          clear hK K
          (repeat (first | (refine his_q rfl rfl (fun K hK => ?_); apply Exists.intro; refine ⟨fun w' hC => ?_, ?_⟩; ((try simp [Sg.upd] at hC); go_simp <;> rfl); go_simp; refine hK _ _ ?_; clear hK K) | (refine his_s rfl (fun K hK => ?_); go_simp; refine hK _ _ ?_; clear hK K)))
          (refine his_l rfl rfl (fun K hK => ?_); go_simp)
          refine (len_any _ D g mm HX.out.wv).mono ?_
          rintro x wy ⟨rfl, rfl⟩
          refine hK _ _ (Keep.refl _ _) ?_
          clear hK K
          (repeat (first | (refine his_q rfl rfl (fun K hK => ?_); apply Exists.intro; refine ⟨fun w' hC => ?_, ?_⟩; ((try simp [Sg.upd] at hC); go_simp <;> rfl); go_simp; refine hK _ _ ?_; clear hK K) | (refine his_s rfl (fun K hK => ?_); go_simp; refine hK _ _ ?_; clear hK K)))
          refine his_nil ?_
          clear p0 p1 p2 p3 p4 p5
          go_wp2
          go_roundw
          case rel => exact ⟨j + 1, mm, .slice (some ⟨gs, 0, none⟩) n5 c5, by omega, by go_num, HX⟩
          case measure => simp [intOf]; omega
      have h3f : ((wrap64 (q.kind.tmod 5 + 5)).tmod 5 == 3) = false := by rw [hrk]; simpa using h3
      by_cases h4 : rk = 4
      · have h4' : ((wrap64 (q.kind.tmod 5 + 5)).tmod 5 == 4) = true := by rw [hrk, h4]; rfl
        clear hrk h3 h4
        have hdr := refGo_any wa w1.heap.size sl m HPa.out.row hBw (by omega) HPa.out.wv.1.t q.n hok.n1 hok.n2
        obtain ⟨m', hm'⟩ : ∃ m', (m.go q.n).1 = m' := ⟨_, rfl⟩
        obtain ⟨cd, hcd⟩ : ∃ cd, (m.go q.n).2.2 = cd := ⟨_, rfl⟩
        obtain ⟨ol, hol⟩ : ∃ ol, (m.go q.n).2.1 = ol := ⟨_, rfl⟩
        rw [hm', hcd, hol] at hdr
        have HM := Lib.hid (And.intro hm' (And.intro hcd hol))
        clear hm' hcd hol hBw
        go_wp2_with fail
        refine hdr.mono ?_
        clear hdr
        rintro e w5 ⟨sl5, out, rfl, hr5, ho5, hk5⟩
        obtain ⟨a5, c5, ev5⟩ := RowE.form hr5
        obtain ⟨n5, hn5⟩ : ∃ n5, m'.ths.length = n5 := ⟨_, rfl⟩
        rw [hn5] at ev5
        subst ev5
        have hA6 := (Keep.refl [] w5).alloc (.cells #[.int .i64 (m'.time : Int), .slice a5 n5 c5] 133)
        have hb6 := heap_alloc_new w5 (.cells #[.int .i64 (m'.time : Int), .slice a5 n5 c5] 133)
        obtain ⟨w6, hw6⟩ : ∃ w6, w5.alloc (.cells #[.int .i64 (m'.time : Int), .slice a5 n5 c5] 133) = w6 := ⟨_, rfl⟩
        rw [hw6] at hA6 hb6
        have HP6 := Lib.hid (HPa.out.step (hk5.trans hA6))
        have hr6 : RefW w6 w1.heap.size (.slice a5 n5 c5) m' := RowE.keep hr5 hA6 (by simp)
        have u0 := cell_of_row w6 _ 0 _ _ _ hb6
        have u1 := cell_of_row w6 _ 1 _ _ _ hb6
        have v0 := cell_of_row w6 _ 0 _ _ _ HP6.out.box
        have v1 := cell_of_row w6 _ 1 _ _ _ HP6.out.box
        have fv0 := frozen_of_row w6 w1.heap.size 0 _ _ HP6.out.box
        have fv1 := frozen_of_row w6 w1.heap.size 1 _ _ HP6.out.box
        simp at u0 u1 v0 v1
        obtain ⟨w7, hw7⟩ : ∃ w7, (w6.setCell ⟨w1.heap.size, 0, none⟩ (.int .i64 (m'.time : Int))).setCell ⟨w1.heap.size, 1, none⟩ (.slice a5 n5 c5) = w7 := ⟨_, rfl⟩
        have hk67 : Keep [w1.heap.size] w6 w7 := by rw [← hw7]; exact ((Keep.refl _ _).setCell (.inl (by simp)) _).setCell (.inl (by simp)) _
        have hbx7 := hk67.blk (by have := HBX.out.2; simp; omega) (hA6.blk (by simp) (hk5.blk (by simp) HBX.out.1))
        have x71 := cell_of_row w7 _ 2 _ _ _ hbx7
        simp at x71
        have hv7 : WV w7 D g m := HP6.out.wv.keep hk67 (fun b hb hm => by have := (HP6.out.lt b hm).1; simp at hb; omega)
        have ho7 : RowE dueE 2 145 w7 w1.heap.size out ol := (ho5.keep hA6 (by simp)).keep hk67 (fun b hb hm => by
          have := RowE.ne (ho5.keep hA6 (by simp)) HP6.out.box (by decide)
          rw [List.mem_singleton] at hm
          exact this (by rw [hb, hm]))
        have hpu := go_any w7 D g m hv7 q.n hok.n2
        rw [HM.out.1, HM.out.2.1, HM.out.2.2] at hpu
        have HW := Lib.hid (And.intro hr6 (And.intro hw7 ho7))
        clear hr5 ho5 hk5 hA6 hb6 hr6 hk67 hbx7 hv7 ho7 x0 x1 x2 x3 b0 b1 hn5
        go_wp2_with fail
        refine hpu.mono ?_
        clear hpu
        rintro e w8 ⟨v8, rfl, hr8, hv8, hk8⟩
        have hlen2 : m'.ths.length ≤ m.ths.length ∧ ol.length ≤ m.ths.length := by
          have := Wm.go_len m q.n
          rw [HM.out.1, HM.out.2.2] at this
          exact this
        have ho8 : RowE dueE 2 145 w8 w1.heap.size out ol := HW.out.2.2.keep hk8 (fun b hb hm => by
          have h1 := (HW.out.2.2.lt b hb).1
          have h2 := (HP6.out.lt b hm).1
          omega)
        have htd := told24_any w8 _ w1.heap.size v8 out ol hr8 ho8 (by omega)
        have HN := Lib.hid (HP6.out.next HW.out.1 HW.out.2.1 hk8 hv8 (by have h1 := HP6.out.few; omega))
        clear hv8 hk8 HP6 HPa HBX HW u0 u1 v0 v1 fv0 fv1 x71 hw6 hw7 HM hr8 ho8
        go_wp2_with fail
        refine htd.mono ?_
        clear htd
        rintro e w9 ⟨rfl, hk9⟩
        have HN9 := Lib.hid (HN.out.step hk9)
        clear HN hk9
        obtain ⟨mm, hmm⟩ : ∃ mm, m' = mm := ⟨_, rfl⟩
        rw [hmm] at HN9
        clear hmm
        have hnx := next_any _ D g mm HN9.out.wv
        obtain ⟨y0, y1, hxy⟩ := headV_two mm.ths
        rw [hxy] at hnx
        have HXY := Lib.hid hxy
        clear hxy
        go_wp2_with fail
        refine hnx.mono ?_
        clear hnx
        rintro e wn ⟨rfl, hkn⟩
        have hAn := (Keep.refl [] wn).alloc (.cells #[.int .i64 y0, .int .i64 y1] 128)
        have hbn := heap_alloc_new wn (.cells #[.int .i64 y0, .int .i64 y1] 128)
        obtain ⟨wq, hwq⟩ : ∃ wq, wn.alloc (.cells #[.int .i64 y0, .int .i64 y1] 128) = wq := ⟨_, rfl⟩
        rw [hwq] at hAn hbn
        have HQ := Lib.hid (HN9.out.step (hkn.trans hAn))
        clear HN9 hkn hAn
        go_upto_region 28 with fail
        have b80 := cell_of_row wq _ 0 _ _ _ HQ.out.box
        have b81 := cell_of_row wq _ 1 _ _ _ HQ.out.box
        have n80 := cell_of_row wq _ 0 _ _ _ hbn
        have n81 := cell_of_row wq _ 1 _ _ _ hbn
        simp at b80 b81 n80 n81
        have hm8 : mm.ths.length ≤ 101 := by have := HQ.out.few; omega
        have hn8 : n5 = mm.ths.length := by
          obtain ⟨a, c, e⟩ := RowE.form HQ.out.row
          injection e with e1 e2 e3
        clear hbn
        cases hms : mm.ths with
        | nil =>
          rw [hms] at hn8
          subst hn8
          have hy := HXY.out
          rw [hms] at hy
          obtain ⟨rfl, rfl⟩ : y0 = 0 ∧ y1 = 0 := by
            simp [headV] at hy
            omega
          have HMS := Lib.hid hms
          clear hms hy
          refine wp_region_his [] [1, 7] (fun _ => 0) (by kernel_rfl) (by kernel_rfl) ?_
          intro wx hkx hhx
          have p0 := fun w' (h' : Keep [] wx w') => (hkx.trans h').cell (by simp) b80
          have p1 := fun w' (h' : Keep [] wx w') => (hkx.trans h').cell (by simp) b81
          have p2 := fun w' (h' : Keep [] wx w') => (hkx.trans h').cell (by simp) n80
          have p3 := fun w' (h' : Keep [] wx w') => (hkx.trans h').cell (by simp) n81
          have HX := Lib.hid (HQ.out.step hkx)
          clear b80 b81 n80 n81 hhx HQ hkx
          (repeat (first | (refine his_q rfl rfl (fun K hK => ?_); apply Exists.intro; refine ⟨fun w' hC => ?_, ?_⟩; ((try simp [Sg.upd] at hC); go_simp <;> rfl); go_simp; refine hK _ _ ?_; clear hK K) | (refine his_s rfl (fun K hK => ?_); go_simp; refine hK _ _ ?_; clear hK K)))
          (refine his_l rfl rfl (fun K hK => ?_); go_simp)
          refine (time_any wx D g mm HX.out.wv).mono ?_
          rintro x wy ⟨rfl, rfl⟩
          refine hK _ _ (Keep.refl _ _) ?_
          clear hK K
          (repeat (first | (refine his_q rfl rfl (fun K hK => ?_); apply Exists.intro; refine ⟨fun w' hC => ?_, ?_⟩; ((try simp [Sg.upd] at hC); go_simp <;> rfl); go_simp; refine hK _ _ ?_; clear hK K) | (refine his_s rfl (fun K hK => ?_); go_simp; refine hK _ _ ?_; clear hK K)))
          (refine his_l rfl rfl (fun K hK => ?_); go_simp)
          refine (len_any _ D g mm HX.out.wv).mono ?_
          rintro x wy ⟨rfl, rfl⟩
          refine hK _ _ (Keep.refl _ _) ?_
          clear hK K
          have hl0 : mm.ths.length = 0 := by rw [HMS.out]; rfl
          (repeat (first | (refine his_q rfl rfl (fun K hK => ?_); apply Exists.intro; refine ⟨fun w' hC => ?_, ?_⟩; ((try simp [Sg.upd] at hC); go_simp <;> rfl); go_simp; refine hK _ _ ?_; clear hK K) | (refine his_s rfl (fun K hK => ?_); go_simp; refine hK _ _ ?_; clear hK K)))
          refine his_nil ?_
          clear p0 p1 p2 p3
          go_wp2
          go_roundw
          case rel => exact ⟨j + 1, mm, .slice a5 0 c5, by omega, by go_num, HX⟩
          case measure => simp [intOf]; omega
        | cons p rest =>
          obtain ⟨gs, ha5, -, q5⟩ := RowE.cells dueLies HQ.out.row (i := 0) (by rw [hms]; simp)
          subst ha5
          have hp0 : mm.ths[0]'(by rw [hms]; simp) = p := by simp [hms]
          have hy := HXY.out
          rw [hms, headV_cons] at hy
          obtain ⟨hy0, hy1⟩ : p.1 = y0 ∧ (p.2 : Int) = y1 := by
            simp at hy
            exact hy
          have s0 := q5 0 (.int .i64 y0) (by rw [hp0, ← hy0]; rfl)
          have s1 := q5 1 (.int .i64 y1) (by rw [hp0, ← hy1]; rfl)
          rw [Nat.add_zero] at s0
          simp at s0 s1
          have hln : 0 < mm.ths.length := by rw [hms]; simp
          have hln' : (0 : Int) < (mm.ths.length : Int) := by omega
          have hd1 : decide ((0 : Int) < (mm.ths.length : Int)) = true := decide_eq_true hln'
          have hd2 : decide (0 < mm.ths.length) = true := decide_eq_true hln
          have HMS := Lib.hid hms
          clear hms hy hp0 q5 hy0 hy1
          refine wp_region_his [] [1, 7] (fun _ => 0) (by kernel_rfl) (by kernel_rfl) ?_
          intro wx hkx hhx
          have p0 := fun w' (h' : Keep [] wx w') => (hkx.trans h').cell (by simp) b80
          have p1 := fun w' (h' : Keep [] wx w') => (hkx.trans h').cell (by simp) b81
          have p2 := fun w' (h' : Keep [] wx w') => (hkx.trans h').cell (by simp) n80
          have p3 := fun w' (h' : Keep [] wx w') => (hkx.trans h').cell (by simp) n81
          have p4 := fun w' (h' : Keep [] wx w') => (hkx.trans h').cell (by simp) s0
          have p5 := fun w' (h' : Keep [] wx w') => (hkx.trans h').cell (by simp) s1
          have HX := Lib.hid (HQ.out.step hkx)
          clear b80 b81 n80 n81 s0 s1 hhx HQ hkx
          (repeat (first | (refine his_q rfl rfl (fun K hK => ?_); apply Exists.intro; refine ⟨fun w' hC => ?_, ?_⟩; ((try simp [Sg.upd] at hC); go_simp <;> rfl); go_simp; refine hK _ _ ?_; clear hK K) | (refine his_s rfl (fun K hK => ?_); go_simp; refine hK _ _ ?_; clear hK K)))
          (refine his_l rfl rfl (fun K hK => ?_); go_simp)
          refine (time_any wx D g mm HX.out.wv).mono ?_
          rintro x wy ⟨rfl, rfl⟩
          refine hK _ _ (Keep.refl _ _) ?_
          clear hK K
          (repeat (first | (refine his_q rfl rfl (fun K hK => ?_); apply Exists.intro; refine ⟨fun w' hC => ?_, ?_⟩; ((try simp [Sg.upd] at hC); go_simp <;> rfl); go_simp; refine hK _ _ ?_; clear hK K) | (refine his_s rfl (fun K hK => ?_); go_simp; refine hK _ _ ?_; clear hK K)))
          (refine his_l rfl rfl (fun K hK => ?_); go_simp)
          refine (len_any _ D g mm HX.out.wv).mono ?_
          rintro x wy ⟨rfl, rfl⟩
          refine hK _ _ (Keep.refl _ _) ?_
          clear hK K
          (repeat (first | (refine his_q rfl rfl (fun K hK => ?_); apply Exists.intro; refine ⟨fun w' hC => ?_, ?_⟩; ((try simp [Sg.upd] at hC); go_simp <;> rfl); go_simp; refine hK _ _ ?_; clear hK K) | (refine his_s rfl (fun K hK => ?_); go_simp; refine hK _ _ ?_; clear hK K)))
          refine his_nil ?_
          clear p0 p1 p2 p3 p4 p5
          go_wp2
          go_roundw
          case rel => exact ⟨j + 1, mm, .slice (some ⟨gs, 0, none⟩) n5 c5, by omega, by go_num, HX⟩
          case measure => simp [intOf]; omega
      · have h4f : ((wrap64 (q.kind.tmod 5 + 5)).tmod 5 == 4) = false := by rw [hrk]; simpa using h4
        clear hrk h3 h4
        have hat := actAt_any wa q hok (m.time : Int) (by have := HPa.out.wv.1.t; unfold top48 at this; omega)
        obtain ⟨ad, had⟩ : ∃ ad, q.due (m.time : Int) = ad := ⟨_, rfl⟩
        rw [had] at hat
        unfold WAct.agg at hat
        go_wp2_with fail
        refine hat.mono ?_
        clear hat
        rintro e w3 ⟨rfl, hk3⟩
        have HP3 := Lib.hid (HPa.out.step hk3)
        have hbx3 := hk3.blk (by simp) HBX.out.1
        have HBX3 := Lib.hid (And.intro hbx3 HBX.out.2)
        have x31 := cell_of_row w3 _ 1 _ _ _ hbx3
        have b30 := cell_of_row w3 _ 0 _ _ _ HP3.out.box
        have b31 := cell_of_row w3 _ 1 _ _ _ HP3.out.box
        simp at x31 b30 b31
        have hdr := refPut_any w3 w1.heap.size sl m HP3.out.row (by have := hk3.size; omega) (by omega) HP3.out.wv.1.nd HP3.out.wv.1.t q.num ad
        obtain ⟨m', hm'⟩ : ∃ m', (m.put q.num ad).1 = m' := ⟨_, rfl⟩
        obtain ⟨cd, hcd⟩ : ∃ cd, (m.put q.num ad).2 = cd := ⟨_, rfl⟩
        rw [hm', hcd] at hdr
        have HM := Lib.hid (And.intro hm' hcd)
        clear hbx3 HPa HBX x0 x1 x2 x3 b0 b1 hk3 hm' hcd had hBw
        go_wp2_with fail
        refine hdr.mono ?_
        clear hdr
        rintro e w5 ⟨sl5, rfl, hr5, hk5⟩
        obtain ⟨a5, c5, ev5⟩ := RowE.form hr5
        obtain ⟨n5, hn5⟩ : ∃ n5, m'.ths.length = n5 := ⟨_, rfl⟩
        rw [hn5] at ev5
        subst ev5
        have hA6 := (Keep.refl [] w5).alloc (.cells #[.int .i64 (m'.time : Int), .slice a5 n5 c5] 133)
        have hb6 := heap_alloc_new w5 (.cells #[.int .i64 (m'.time : Int), .slice a5 n5 c5] 133)
        obtain ⟨w6, hw6⟩ : ∃ w6, w5.alloc (.cells #[.int .i64 (m'.time : Int), .slice a5 n5 c5] 133) = w6 := ⟨_, rfl⟩
        rw [hw6] at hA6 hb6
        have HP6 := Lib.hid (HP3.out.step (hk5.trans hA6))
        have hr6 : RefW w6 w1.heap.size (.slice a5 n5 c5) m' := RowE.keep hr5 hA6 (by simp)
        have u0 := cell_of_row w6 _ 0 _ _ _ hb6
        have u1 := cell_of_row w6 _ 1 _ _ _ hb6
        have v0 := cell_of_row w6 _ 0 _ _ _ HP6.out.box
        have v1 := cell_of_row w6 _ 1 _ _ _ HP6.out.box
        have fv0 := frozen_of_row w6 w1.heap.size 0 _ _ HP6.out.box
        have fv1 := frozen_of_row w6 w1.heap.size 1 _ _ HP6.out.box
        simp at u0 u1 v0 v1
        obtain ⟨w7, hw7⟩ : ∃ w7, (w6.setCell ⟨w1.heap.size, 0, none⟩ (.int .i64 (m'.time : Int))).setCell ⟨w1.heap.size, 1, none⟩ (.slice a5 n5 c5) = w7 := ⟨_, rfl⟩
        have hk67 : Keep [w1.heap.size] w6 w7 := by rw [← hw7]; exact ((Keep.refl _ _).setCell (.inl (by simp)) _).setCell (.inl (by simp)) _
        have hbx7 := hk67.blk (by have := HBX3.out.2; simp; omega) (hA6.blk (by simp) (hk5.blk (by simp) HBX3.out.1))
        have x71 := cell_of_row w7 _ 1 _ _ _ hbx7
        simp at x71
        have hv7 : WV w7 D g m := HP6.out.wv.keep hk67 (fun b hb hm => by have := (HP6.out.lt b hm).1; simp at hb; omega)
        have hrng : (Lit.int .i64 q.num).wf = true := i64_wf hok.s1 hok.s2
        have hpu := put_any w7 D g m hv7 q.num ad hrng (by omega)
        rw [HM.out.1, HM.out.2] at hpu
        have HW := Lib.hid (And.intro hr6 hw7)
        clear hr5 hk5 hA6 hb6 hr6 hk67 hbx7 hv7 x31 b30 b31 hn5
        go_wp2_with fail
        refine hpu.mono ?_
        clear hpu
        rintro e w8 ⟨rfl, hv8, hk8⟩
        have HN := Lib.hid (HP6.out.next HW.out.1 HW.out.2 hk8 hv8 (by
          have h1 := HP6.out.few
          have h2 := Wm.put_len m q.num ad
          rw [HM.out.1] at h2
          omega))
        clear hv8 hk8 HP6 HP3 HBX3 HW u0 u1 v0 v1 fv0 fv1 x71 hw6 hw7 hrng HM
        obtain ⟨mm, hmm⟩ : ∃ mm, m' = mm := ⟨_, rfl⟩
        rw [hmm] at HN
        clear hmm
        have hnx := next_any _ D g mm HN.out.wv
        obtain ⟨y0, y1, hxy⟩ := headV_two mm.ths
        rw [hxy] at hnx
        have HXY := Lib.hid hxy
        clear hxy
        go_wp2_with fail
        refine hnx.mono ?_
        clear hnx
        rintro e wn ⟨rfl, hkn⟩
        have hAn := (Keep.refl [] wn).alloc (.cells #[.int .i64 y0, .int .i64 y1] 128)
        have hbn := heap_alloc_new wn (.cells #[.int .i64 y0, .int .i64 y1] 128)
        obtain ⟨wq, hwq⟩ : ∃ wq, wn.alloc (.cells #[.int .i64 y0, .int .i64 y1] 128) = wq := ⟨_, rfl⟩
        rw [hwq] at hAn hbn
        have HQ := Lib.hid (HN.out.step (hkn.trans hAn))
        clear HN hkn hAn
        go_upto_region 28 with fail
        have b80 := cell_of_row wq _ 0 _ _ _ HQ.out.box
        have b81 := cell_of_row wq _ 1 _ _ _ HQ.out.box
        have n80 := cell_of_row wq _ 0 _ _ _ hbn
        have n81 := cell_of_row wq _ 1 _ _ _ hbn
        simp at b80 b81 n80 n81
        have hm8 : mm.ths.length ≤ 101 := by have := HQ.out.few; omega
        have hn8 : n5 = mm.ths.length := by
          obtain ⟨a, c, e⟩ := RowE.form HQ.out.row
          injection e with e1 e2 e3
        clear hbn
        cases hms : mm.ths with
        | nil =>
          rw [hms] at hn8
          subst hn8
          have hy := HXY.out
          rw [hms] at hy
          obtain ⟨rfl, rfl⟩ : y0 = 0 ∧ y1 = 0 := by
            simp [headV] at hy
            omega
          have HMS := Lib.hid hms
          clear hms hy
          refine wp_region_his [] [1, 7] (fun _ => 0) (by kernel_rfl) (by kernel_rfl) ?_
          intro wx hkx hhx
          have p0 := fun w' (h' : Keep [] wx w') => (hkx.trans h').cell (by simp) b80
          have p1 := fun w' (h' : Keep [] wx w') => (hkx.trans h').cell (by simp) b81
          have p2 := fun w' (h' : Keep [] wx w') => (hkx.trans h').cell (by simp) n80
          have p3 := fun w' (h' : Keep [] wx w') => (hkx.trans h').cell (by simp) n81
          have HX := Lib.hid (HQ.out.step hkx)
          clear b80 b81 n80 n81 hhx HQ hkx
          (repeat (first | (refine his_q rfl rfl (fun K hK => ?_); apply Exists.intro; refine ⟨fun w' hC => ?_, ?_⟩; ((try simp [Sg.upd] at hC); go_simp <;> rfl); go_simp; refine hK _ _ ?_; clear hK K) | (refine his_s rfl (fun K hK => ?_); go_simp; refine hK _ _ ?_; clear hK K)))
          (refine his_l rfl rfl (fun K hK => ?_); go_simp)
          refine (time_any wx D g mm HX.out.wv).mono ?_
          rintro x wy ⟨rfl, rfl⟩
          refine hK _ _ (Keep.refl _ _) ?_
          clear hK K
          (repeat (first | (refine his_q rfl rfl (fun K hK => ?_); apply Exists.intro; refine ⟨fun w' hC => ?_, ?_⟩; ((try simp [Sg.upd] at hC); go_simp <;> rfl); go_simp; refine hK _ _ ?_; clear hK K) | (refine his_s rfl (fun K hK => ?_); go_simp; refine hK _ _ ?_; clear hK K)))
          (refine his_l rfl rfl (fun K hK => ?_); go_simp)
          refine (len_any _ D g mm HX.out.wv).mono ?_
          rintro x wy ⟨rfl, rfl⟩
          refine hK _ _ (Keep.refl _ _) ?_
          clear hK K
          have hl0 : mm.ths.length = 0 := by rw [HMS.out]; rfl
          (repeat (first | (refine his_q rfl rfl (fun K hK => ?_); apply Exists.intro; refine ⟨fun w' hC => ?_, ?_⟩; ((try simp [Sg.upd] at hC); go_simp <;> rfl); go_simp; refine hK _ _ ?_; clear hK K) | (refine his_s rfl (fun K hK => ?_); go_simp; refine hK _ _ ?_; clear hK K)))
          refine his_nil ?_
          clear p0 p1 p2 p3
          go_wp2
          go_roundw
          case rel => exact ⟨j + 1, mm, .slice a5 0 c5, by omega, by go_num, HX⟩
          case measure => simp [intOf]; omega
        | cons p rest =>
          obtain ⟨gs, ha5, -, q5⟩ := RowE.cells dueLies HQ.out.row (i := 0) (by rw [hms]; simp)
          subst ha5
          have hp0 : mm.ths[0]'(by rw [hms]; simp) = p := by simp [hms]
          have hy := HXY.out
          rw [hms, headV_cons] at hy
          obtain ⟨hy0, hy1⟩ : p.1 = y0 ∧ (p.2 : Int) = y1 := by
            simp at hy
            exact hy
          have s0 := q5 0 (.int .i64 y0) (by rw [hp0, ← hy0]; rfl)
          have s1 := q5 1 (.int .i64 y1) (by rw [hp0, ← hy1]; rfl)
          rw [Nat.add_zero] at s0
          simp at s0 s1
          have hln : 0 < mm.ths.length := by rw [hms]; simp
          have hln' : (0 : Int) < (mm.ths.length : Int) := by omega
          have hd1 : decide ((0 : Int) < (mm.ths.length : Int)) = true := decide_eq_true hln'
          have hd2 : decide (0 < mm.ths.length) = true := decide_eq_true hln
          have HMS := Lib.hid hms
          clear hms hy hp0 q5 hy0 hy1
          refine wp_region_his [] [1, 7] (fun _ => 0) (by kernel_rfl) (by kernel_rfl) ?_
          intro wx hkx hhx
          have p0 := fun w' (h' : Keep [] wx w') => (hkx.trans h').cell (by simp) b80
          have p1 := fun w' (h' : Keep [] wx w') => (hkx.trans h').cell (by simp) b81
          have p2 := fun w' (h' : Keep [] wx w') => (hkx.trans h').cell (by simp) n80
          have p3 := fun w' (h' : Keep [] wx w') => (hkx.trans h').cell (by simp) n81
          have p4 := fun w' (h' : Keep [] wx w') => (hkx.trans h').cell (by simp) s0
          have p5 := fun w' (h' : Keep [] wx w') => (hkx.trans h').cell (by simp) s1
          have HX := Lib.hid (HQ.out.step hkx)
          clear b80 b81 n80 n81 s0 s1 hhx HQ hkx
          (repeat (first | (refine his_q rfl rfl (fun K hK => ?_); apply Exists.intro; refine ⟨fun w' hC => ?_, ?_⟩; ((try simp [Sg.upd] at hC); go_simp <;> rfl); go_simp; refine hK _ _ ?_; clear hK K) | (refine his_s rfl (fun K hK => ?_); go_simp; refine hK _ _ ?_; clear hK K)))
          (refine his_l rfl rfl (fun K hK => ?_); go_simp)
          refine (time_any wx D g mm HX.out.wv).mono ?_
          rintro x wy ⟨rfl, rfl⟩
          refine hK _ _ (Keep.refl _ _) ?_
          clear hK K
          (repeat (first | (refine his_q rfl rfl (fun K hK => ?_); apply Exists.intro; refine ⟨fun w' hC => ?_, ?_⟩; ((try simp [Sg.upd] at hC); go_simp <;> rfl); go_simp; refine hK _ _ ?_; clear hK K) | (refine his_s rfl (fun K hK => ?_); go_simp; refine hK _ _ ?_; clear hK K)))
          (refine his_l rfl rfl (fun K hK => ?_); go_simp)
          refine (len_any _ D g mm HX.out.wv).mono ?_
          rintro x wy ⟨rfl, rfl⟩
          refine hK _ _ (Keep.refl _ _) ?_
          clear hK K
          (repeat (first | (refine his_q rfl rfl (fun K hK => ?_); apply Exists.intro; refine ⟨fun w' hC => ?_, ?_⟩; ((try simp [Sg.upd] at hC); go_simp <;> rfl); go_simp; refine hK _ _ ?_; clear hK K) | (refine his_s rfl (fun K hK => ?_); go_simp; refine hK _ _ ?_; clear hK K)))
          refine his_nil ?_
          clear p0 p1 p2 p3 p4 p5
          go_wp2
          go_roundw
          case rel => exact ⟨j + 1, mm, .slice (some ⟨gs, 0, none⟩) n5 c5, by omega, by go_num, HX⟩
          case measure => simp [intOf]; omega
    · have hrow := HP.out.row
      obtain ⟨a0, c0, rfl⟩ := RowE.form hrow
      clear hrow
      have b1 := cell_of_row _ _ 1 _ _ _ HP.out.box
      simp at b1
      have hm100 : m.ths.length ≤ 100 := by have := HP.out.few; omega
      go_upto_region 30 with fail
      refine wp_region_his [] [1, 4, 6] (fun _ => 0) (by kernel_rfl) (by kernel_rfl) ?_
      intro wx hkx hhx
      clear hhx
      have p1 := fun w' (h' : Keep [] wx w') => (hkx.trans h').cell (by simp) b1
      have HX := Lib.hid (HP.out.step hkx)
      clear HP b1 hkx
      (repeat (first | (refine his_q rfl rfl (fun K hK => ?_); apply Exists.intro; refine ⟨fun w' hC => ?_, ?_⟩; ((try simp [Sg.upd] at hC); go_simp <;> rfl); go_simp; refine hK _ _ ?_; clear hK K) | (refine his_s rfl (fun K hK => ?_); go_simp; refine hK _ _ ?_; clear hK K)))
      (refine his_l rfl rfl (fun K hK => ?_); go_simp)
      refine (all_any wx D g m HX.out.wv).mono ?_
      rintro x w4 ⟨v4, rfl, hr4, hk4⟩
      refine hK _ _ hk4 ?_
      clear hK K
      (repeat (first | (refine his_q rfl rfl (fun K hK => ?_); apply Exists.intro; refine ⟨fun w' hC => ?_, ?_⟩; ((try simp [Sg.upd] at hC); go_simp <;> rfl); go_simp; refine hK _ _ ?_; clear hK K) | (refine his_s rfl (fun K hK => ?_); go_simp; refine hK _ _ ?_; clear hK K)))
      (refine his_l rfl rfl (fun K hK => ?_); go_simp)
      refine (told24_any w4 wx.heap.size w1.heap.size v4 (.slice a0 m.ths.length c0) m.ths hr4 (RowE.keep HX.out.row hk4 (by simp)) (by omega)).mono ?_
      rintro x w5 ⟨rfl, hk5⟩
      refine hK _ _ hk5 ?_
      clear hK K
      (repeat (first | (refine his_q rfl rfl (fun K hK => ?_); apply Exists.intro; refine ⟨fun w' hC => ?_, ?_⟩; ((try simp [Sg.upd] at hC); go_simp <;> rfl); go_simp; refine hK _ _ ?_; clear hK K) | (refine his_s rfl (fun K hK => ?_); go_simp; refine hK _ _ ?_; clear hK K)))
      (refine his_l rfl rfl (fun K hK => ?_); go_simp)
      refine (awake24_any w5).mono ?_
      rintro x w6 ⟨rfl, hk6⟩
      refine hK _ _ hk6 ?_
      clear hK K
      (repeat (first | (refine his_q rfl rfl (fun K hK => ?_); apply Exists.intro; refine ⟨fun w' hC => ?_, ?_⟩; ((try simp [Sg.upd] at hC); go_simp <;> rfl); go_simp; refine hK _ _ ?_; clear hK K) | (refine his_s rfl (fun K hK => ?_); go_simp; refine hK _ _ ?_; clear hK K)))
      refine his_nil ?_
      have HZ := Lib.hid (HX.out.keep.trans ((hk4.trans hk5).trans hk6))
      clear p1 hk4 hk5 hk6 hr4
      go_wp2
      go_ret
      exact ⟨rfl, HZ.out.below (Nat.le_refl _) (by simp)⟩
end Go.Proofs.Ytjkjiabfhhnngaa
