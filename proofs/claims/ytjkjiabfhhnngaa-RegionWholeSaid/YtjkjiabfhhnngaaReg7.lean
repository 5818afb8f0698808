import Derived.Test.YtjkjiabfhhnngaaReg1
import Derived.Test.YtjkjiabfhhnngaaPlan
import Derived.Test.YtjkjiabfhhnngaaReg4
/-! The walk of region.Format. -/
namespace Go.Proofs.Ytjkjiabfhhnngaa
open Go.RowKit Sg
set_option linter.unusedSimpArgs false
set_option linter.unusedVariables false

/-- a plan's log -/
def lcOf (p : Pl) : Lc :=
  { R := p.reg.toNat, S := p.rs.toNat, rm := (p.size - 19).toNat, base := (2 + p.lg).toNat
    x := fun i => match i with | 1 => .int .i64 p.sec | 2 => .int .i64 p.size | 5 => .int .i64 p.lg | 6 => .int .i64 p.dep | 7 => .int .i64 p.mem | 8 => .int .u64 (p.seed : Int) | 9 => .int .i64 2 | 11 => .int .i64 p.page | 12 => .int .i64 (p.sec - p.page) | 13 => .int .i64 p.per | 14 => .int .i64 ((p.room - 10) / 20) | 15 => .int .i64 p.tree | _ => undef }
def Pl.On (p : Pl) (m : Dev) : Prop := p.Fits ∧ p.sec = (m.n : Int) ∧ p.size = (m.sz : Int)
theorem lcOf_ok (p : Pl) (m : Dev) (h : p.On m) : (lcOf p).Ok m := by
  obtain ⟨⟨⟨⟨a1, a2⟩, ⟨b1, b2⟩, ⟨c1, c2⟩, ⟨d1, d2⟩, ⟨e1, e2⟩, ⟨f1, f2⟩, g⟩, h1, h2⟩, h3, h4⟩ := h
  have ht : 0 ≤ p.tree := by
    unfold Pl.tree
    have hm := (many_of p.dep f1 f2).1
    have hm' : 1 ≤ p.many := hm
    have hp : 0 ≤ p.per := by unfold Pl.per Pl.room; omega
    have := Int.ediv_nonneg (show 0 ≤ p.many + p.per - 1 by omega) hp
    omega
  have hp : p.page = 2 + p.lg + p.reg * p.rs := rfl
  have hmul : ((p.reg.toNat * p.rs.toNat : Nat) : Int) = p.reg * p.rs := by
    rw [Int.natCast_mul, Int.toNat_of_nonneg (by omega), Int.toNat_of_nonneg (by omega)]
  refine ⟨?_, ?_, ?_, ?_, ?_, ?_, ?_, ?_⟩
  all_goals simp only [lcOf]
  all_goals omega
def lg0 (p : Pl) : Lg := ⟨0, (lcOf p).S * (lcOf p).rm, []⟩
theorem rm_cell (p : Pl) (h : p.Fits) : p.rs * p.room = (((lcOf p).S * (lcOf p).rm : Nat) : Int) := by
  obtain ⟨⟨⟨a1, a2⟩, ⟨b1, b2⟩, ⟨c1, c2⟩, ⟨d1, d2⟩, -⟩, -⟩ := h
  simp only [lcOf, Pl.room]
  rw [Int.natCast_mul, Int.toNat_of_nonneg (by omega), Int.toNat_of_nonneg (by omega)]

set_option maxRecDepth 100000 in
set_option maxHeartbeats 1000000 in
set_option maxHeartbeats 4000000 in
theorem format_any (w : World) (D : List Nat) (g : Nat) (m : Dev) (h : DV w D g m) (p : Pl) :
    Calls Try.prog 48 #[.pointer (some ⟨g, 0, none⟩), p.v] w fun e w' => Keep [] w w' ∧
      ((p.On m ∧ ∃ gl, e = .returned (.tuple #[.pointer (some ⟨gl, 0, none⟩), .int .i64 0]) ∧ w.heap.size ≤ gl ∧ RV w' D [gl] gl g (lcOf p) (lg0 p) m) ∨
       (¬ p.On m ∧ e = .returned (.tuple #[.pointer none, .int .i64 12]))) := by
  have hfit := fun w' => fit_any p w'
  have hon : p.On m ↔ (p.Fits ∧ p.sec = (m.n : Int) ∧ p.size = (m.sz : Int)) := Iff.rfl
  have hok := lcOf_ok p m
  have hrc := rm_cell p
  have hroom := room_any p.size
  have hA := (Keep.refl [] w).alloc (.cells #[.int .i64 p.sec, .int .i64 p.size, .int .i64 p.reg, .int .i64 p.rs, .int .i64 p.lg, .int .i64 p.dep, .int .i64 p.mem, .int .u64 (p.seed : Int)] 92)
  have hB := heap_alloc_new w (.cells #[.int .i64 p.sec, .int .i64 p.size, .int .i64 p.reg, .int .i64 p.rs, .int .i64 p.lg, .int .i64 p.dep, .int .i64 p.mem, .int .u64 (p.seed : Int)] 92)
  obtain ⟨w1, hw1⟩ : ∃ w1, w.alloc (.cells #[.int .i64 p.sec, .int .i64 p.size, .int .i64 p.reg, .int .i64 p.rs, .int .i64 p.lg, .int .i64 p.dep, .int .i64 p.mem, .int .u64 (p.seed : Int)] 92) = w1 := ⟨_, rfl⟩
  rw [hw1] at hA hB
  have hcells : p.Fits → lgCells (lcOf p) g (lg0 p) (.slice none 0 0) = #[.pointer (some ⟨g, 0, none⟩), .int .i64 p.sec, .int .i64 p.size, .int .i64 p.reg, .int .i64 p.rs, .int .i64 p.lg, .int .i64 p.dep, .int .i64 p.mem, .int .u64 (p.seed : Int), .int .i64 2, .int .i64 (2 + p.lg), .int .i64 p.page, .int .i64 (p.sec - p.page), .int .i64 p.per, .int .i64 ((p.room - 10) / 20), .int .i64 p.tree, .int .i64 (p.rs * p.room), .int .i64 (p.size - 19), .int .i64 0, .int .i64 (p.rs * p.room), .slice none 0 0] := by
    intro hf
    have hz := rm_cell p hf
    obtain ⟨⟨⟨a1, a2⟩, ⟨b1, b2⟩, ⟨c1, c2⟩, ⟨d1, d2⟩, ⟨e1, e2⟩, -⟩, -⟩ := hf
    unfold lgCells lg0
    simp only
    rw [← hz]
    simp only [lcOf]
    rw [Int.toNat_of_nonneg (show 0 ≤ p.reg by omega), Int.toNat_of_nonneg (show 0 ≤ p.rs by omega), Int.toNat_of_nonneg (show 0 ≤ 2 + p.lg by omega), Int.toNat_of_nonneg (show 0 ≤ p.size - 19 by omega)]
    rfl
  have hsz : p.Fits → (if 96 ≤ p.size ∧ p.size ≤ 512 then p.size - 19 else 0) = p.size - 19 := fun hf => if_pos hf.1.1
  have HD := Lib.hid (And.intro h (And.intro hA hB))
  have HW := Lib.hid hw1
  have HFIT := Lib.hid hfit
  have HC := Lib.hid (And.intro hok hcells)
  have HON := Lib.hid hon
  have hrm : p.Fits → ∀ w', Calls Try.prog 106 #[.int .i64 p.size] w' fun e w2 => e = .returned (.int .i64 (p.size - 19)) ∧ w' = w2 := fun hf w' => by rw [← hsz hf]; exact hroom w'
  have HRM := Lib.hid hrm
  clear h hA hB hw1 hfit hok hcells hon hroom hrm hsz hrc
  simp only [Pl.v]
  go_enter Try.func48, Try.ntmps48
  go_wp2_with fail
  rw [HW.out]
  refine (HFIT.out _).mono ?_
  rintro e w2 ⟨rfl, hk2⟩
  clear HW HFIT
  by_cases hf : p.Fits
  · rw [if_pos hf]
    have HR := HRM.out hf
    have HCC := Lib.hid (HC.out.2 hf)
    simp only [Pl.lay, lay8]
    have hA2 := (Keep.refl [] w2).alloc (.cells #[.int .i64 2, .int .i64 (2 + p.lg), .int .i64 p.page, .int .i64 (p.sec - p.page), .int .i64 p.per, .int .i64 ((p.room - 10) / 20), .int .i64 p.tree, .int .i64 (p.rs * p.room)] 203)
    have hB2 := heap_alloc_new w2 (.cells #[.int .i64 2, .int .i64 (2 + p.lg), .int .i64 p.page, .int .i64 (p.sec - p.page), .int .i64 p.per, .int .i64 ((p.room - 10) / 20), .int .i64 p.tree, .int .i64 (p.rs * p.room)] 203)
    obtain ⟨w3, hw3⟩ : ∃ w3, w2.alloc (.cells #[.int .i64 2, .int .i64 (2 + p.lg), .int .i64 p.page, .int .i64 (p.sec - p.page), .int .i64 p.per, .int .i64 ((p.room - 10) / 20), .int .i64 p.tree, .int .i64 (p.rs * p.room)] 203) = w3 := ⟨_, rfl⟩
    rw [hw3] at hA2 hB2
    have HP := Lib.hid (HD.out.2.1.trans (hk2.trans hA2))
    have HX := Lib.hid (And.intro ((hk2.trans hA2).blk (by simp) HD.out.2.2) hB2)
    have HDV := Lib.hid (HD.out.1.keep HP.out (by simp))
    have HON2 := Lib.hid HON.out
    clear HD HRM hk2 hA2 hB2 HON
    have hC := HON2.out
    have HF := Lib.hid hf
    generalize hsec : p.sec = sec at *
    generalize hsize : p.size = size at *
    generalize p.page = y1 at *
    generalize p.per = y2 at *
    generalize (p.room - 10) / 20 = y3 at *
    generalize p.tree = y4 at *
    generalize p.rs * p.room = y5 at *
    generalize sec - y1 = y6 at *
    have HSS := Lib.hid (And.intro hsec hsize)
    clear hsec hsize hC hf
    by_cases hn : sec = (m.n : Int)
    · by_cases hs : size = (m.sz : Int)
      · have hyes : p.On m := HON2.out.2 ⟨HF.out, hn, hs⟩
        have HYES := Lib.hid hyes
        subst hn
        subst hs
        clear hyes
        go_wp2_with fail
        try rw [hw3]
        clear hw3
        refine wp_region_his [] [] (fun _ => 0) (by kernel_rfl) (by kernel_rfl) ?_
        intro w4 hk4 hh
        clear hh
        have c0 := fun w' (h : Keep [] w4 w') => cell_of_row w' _ 0 _ _ _ ((hk4.trans h).blk (by simp) HX.out.1)
        have c1 := fun w' (h : Keep [] w4 w') => cell_of_row w' _ 1 _ _ _ ((hk4.trans h).blk (by simp) HX.out.1)
        simp at c0 c1
        have HK4 := Lib.hid hk4
        clear hk4
        (repeat (first | (refine his_q rfl rfl (fun K hK => ?_); apply Exists.intro; refine ⟨fun w' hC => ?_, ?_⟩; ((try simp [Sg.upd] at hC); go_simp <;> rfl); go_simp; refine hK _ _ ?_; clear hK K) | (refine his_s rfl (fun K hK => ?_); go_simp; refine hK _ _ ?_; clear hK K)))
        refine his_c rfl rfl (.int .i64 (m.n : Int)) (fun K hK => ?_)
        refine ⟨fun w' hC => Yields.call 15 #[.pointer (some ⟨g, 0, none⟩)] ?_ (by kernel_rfl) ?_, ?_⟩
        · go_simp
        · have hC' : Keep [] w4 w' := hC
          exact sectors_any w' D g m (HDV.out.keep (HK4.out.trans hC') (by simp))
        go_simp
        refine hK _ _ ?_
        clear hK K
        (repeat (first | (refine his_q rfl rfl (fun K hK => ?_); apply Exists.intro; refine ⟨fun w' hC => ?_, ?_⟩; ((try simp [Sg.upd] at hC); go_simp <;> rfl); go_simp; refine hK _ _ ?_; clear hK K) | (refine his_s rfl (fun K hK => ?_); go_simp; refine hK _ _ ?_; clear hK K)))
        refine his_c rfl rfl (.int .i64 (m.sz : Int)) (fun K hK => ?_)
        refine ⟨fun w' hC => Yields.call 16 #[.pointer (some ⟨g, 0, none⟩)] ?_ (by kernel_rfl) ?_, ?_⟩
        · go_simp
        · have hC' : Keep [] w4 w' := hC
          exact size_dev_any w' D g m (HDV.out.keep (HK4.out.trans hC') (by simp))
        go_simp
        refine hK _ _ ?_
        clear hK K
        (repeat (first | (refine his_q rfl rfl (fun K hK => ?_); apply Exists.intro; refine ⟨fun w' hC => ?_, ?_⟩; ((try simp [Sg.upd] at hC); go_simp <;> rfl); go_simp; refine hK _ _ ?_; clear hK K) | (refine his_s rfl (fun K hK => ?_); go_simp; refine hK _ _ ?_; clear hK K)))
        refine his_nil ?_
        clear c0 c1
        go_wp2_with fail
        refine wp_region_his [] [9] (fun _ => 0) (by kernel_rfl) (by kernel_rfl) ?_
        intro w5 hk5 hh
        clear hh
        have hK5 := HK4.out.trans hk5
        have c0 := fun w' (h : Keep [] w5 w') => cell_of_row w' _ 0 _ _ _ ((hK5.trans h).blk (by simp) HX.out.1)
        have c1 := fun w' (h : Keep [] w5 w') => cell_of_row w' _ 1 _ _ _ ((hK5.trans h).blk (by simp) HX.out.1)
        have c2 := fun w' (h : Keep [] w5 w') => cell_of_row w' _ 2 _ _ _ ((hK5.trans h).blk (by simp) HX.out.1)
        have c3 := fun w' (h : Keep [] w5 w') => cell_of_row w' _ 3 _ _ _ ((hK5.trans h).blk (by simp) HX.out.1)
        have c4 := fun w' (h : Keep [] w5 w') => cell_of_row w' _ 4 _ _ _ ((hK5.trans h).blk (by simp) HX.out.1)
        have c5 := fun w' (h : Keep [] w5 w') => cell_of_row w' _ 5 _ _ _ ((hK5.trans h).blk (by simp) HX.out.1)
        have c6 := fun w' (h : Keep [] w5 w') => cell_of_row w' _ 6 _ _ _ ((hK5.trans h).blk (by simp) HX.out.1)
        have c7 := fun w' (h : Keep [] w5 w') => cell_of_row w' _ 7 _ _ _ ((hK5.trans h).blk (by simp) HX.out.1)
        have d0 := fun w' (h : Keep [] w5 w') => cell_of_row w' _ 0 _ _ _ ((hK5.trans h).blk (by simp) HX.out.2)
        have d1 := fun w' (h : Keep [] w5 w') => cell_of_row w' _ 1 _ _ _ ((hK5.trans h).blk (by simp) HX.out.2)
        have d2 := fun w' (h : Keep [] w5 w') => cell_of_row w' _ 2 _ _ _ ((hK5.trans h).blk (by simp) HX.out.2)
        have d3 := fun w' (h : Keep [] w5 w') => cell_of_row w' _ 3 _ _ _ ((hK5.trans h).blk (by simp) HX.out.2)
        have d4 := fun w' (h : Keep [] w5 w') => cell_of_row w' _ 4 _ _ _ ((hK5.trans h).blk (by simp) HX.out.2)
        have d5 := fun w' (h : Keep [] w5 w') => cell_of_row w' _ 5 _ _ _ ((hK5.trans h).blk (by simp) HX.out.2)
        have d6 := fun w' (h : Keep [] w5 w') => cell_of_row w' _ 6 _ _ _ ((hK5.trans h).blk (by simp) HX.out.2)
        have d7 := fun w' (h : Keep [] w5 w') => cell_of_row w' _ 7 _ _ _ ((hK5.trans h).blk (by simp) HX.out.2)
        simp at c0 c1 c2 c3 c4 c5 c6 c7 d0 d1 d2 d3 d4 d5 d6 d7
        have HK5 := Lib.hid hK5
        clear hK5 hk5
        (repeat (first | (refine his_q rfl rfl (fun K hK => ?_); apply Exists.intro; refine ⟨fun w' hC => ?_, ?_⟩; ((try simp [Sg.upd] at hC); go_simp <;> rfl); go_simp; refine hK _ _ ?_; clear hK K) | (refine his_s rfl (fun K hK => ?_); go_simp; refine hK _ _ ?_; clear hK K)))
        refine his_c rfl rfl (.int .i64 ((m.sz : Int) - 19)) (fun K hK => ?_)
        refine ⟨fun w' hC => Yields.call 106 #[.int .i64 (m.sz : Int)] ?_ (by kernel_rfl) ?_, ?_⟩
        · go_simp
        · rw [← HSS.out.2]
          rw [← HSS.out.2] at HR
          exact HR w'
        go_simp
        refine hK _ _ ?_
        clear hK K
        (repeat (first | (refine his_q rfl rfl (fun K hK => ?_); apply Exists.intro; refine ⟨fun w' hC => ?_, ?_⟩; ((try simp [Sg.upd] at hC); go_simp <;> rfl); go_simp; refine hK _ _ ?_; clear hK K) | (refine his_s rfl (fun K hK => ?_); go_simp; refine hK _ _ ?_; clear hK K)))
        (refine his_l rfl rfl (fun K hK => ?_); go_simp)
        refine hK _ _ ((Keep.refl [] w5).alloc _) ?_
        clear hK K
        (repeat (first | (refine his_q rfl rfl (fun K hK => ?_); apply Exists.intro; refine ⟨fun w' hC => ?_, ?_⟩; ((try simp [Sg.upd] at hC); go_simp <;> rfl); go_simp; refine hK _ _ ?_; clear hK K) | (refine his_s rfl (fun K hK => ?_); go_simp; refine hK _ _ ?_; clear hK K)))
        refine his_nil ?_
        clear c0 c1 c2 c3 c4 c5 c6 c7 d0 d1 d2 d3 d4 d5 d6 d7
        go_wp2
        refine bodyPost_ret (results_tmp2 rfl _ _ _) rfl ?_
        have hk := HP.out.trans HK5.out
        have hd := HDV.out.keep HK5.out (by simp)
        refine ⟨hk.alloc _, .inl ⟨HYES.out, w5.heap.size, rfl, hk.size, .slice none 0 0, { dv := hd.keep ((Keep.refl [] w5).alloc _) (by simp), row := ?_, own := World.ownsRow_nil _ _ _ _, inE := fun b hb => by simp [Value.ownBlock] at hb, gl := by simp, apart := fun b hb hm => ?_, lt := fun b hb => ?_, ok := HC.out.1 HYES.out }⟩⟩
        · unfold RowL
          rw [HCC.out]
          exact heap_alloc_new _ _
        · rw [List.mem_singleton.1 hb] at hm
          have := hd.lt _ hm
          omega
        · rw [List.mem_singleton.1 hb]
          simp
      · have hno : ¬ p.On m := fun h => hs (HON2.out.1 h).2.2
        have HNO := Lib.hid hno
        have d1 : (size != (m.sz : Int)) = true := by simpa using hs
        subst hn
        clear hno
        go_wp2_with fail
        try rw [hw3]
        clear hw3
        refine wp_region_his [] [] (fun _ => 0) (by kernel_rfl) (by kernel_rfl) ?_
        intro w4 hk4 hh
        clear hh
        have c0 := fun w' (h : Keep [] w4 w') => cell_of_row w' _ 0 _ _ _ ((hk4.trans h).blk (by simp) HX.out.1)
        have c1 := fun w' (h : Keep [] w4 w') => cell_of_row w' _ 1 _ _ _ ((hk4.trans h).blk (by simp) HX.out.1)
        simp at c0 c1
        have HK4 := Lib.hid hk4
        clear hk4
        (repeat (first | (refine his_q rfl rfl (fun K hK => ?_); apply Exists.intro; refine ⟨fun w' hC => ?_, ?_⟩; ((try simp [Sg.upd] at hC); go_simp <;> rfl); go_simp; refine hK _ _ ?_; clear hK K) | (refine his_s rfl (fun K hK => ?_); go_simp; refine hK _ _ ?_; clear hK K)))
        refine his_c rfl rfl (.int .i64 (m.n : Int)) (fun K hK => ?_)
        refine ⟨fun w' hC => Yields.call 15 #[.pointer (some ⟨g, 0, none⟩)] ?_ (by kernel_rfl) ?_, ?_⟩
        · go_simp
        · have hC' : Keep [] w4 w' := hC
          exact sectors_any w' D g m (HDV.out.keep (HK4.out.trans hC') (by simp))
        go_simp
        refine hK _ _ ?_
        clear hK K
        (repeat (first | (refine his_q rfl rfl (fun K hK => ?_); apply Exists.intro; refine ⟨fun w' hC => ?_, ?_⟩; ((try simp [Sg.upd] at hC); go_simp <;> rfl); go_simp; refine hK _ _ ?_; clear hK K) | (refine his_s rfl (fun K hK => ?_); go_simp; refine hK _ _ ?_; clear hK K)))
        refine his_c rfl rfl (.int .i64 (m.sz : Int)) (fun K hK => ?_)
        refine ⟨fun w' hC => Yields.call 16 #[.pointer (some ⟨g, 0, none⟩)] ?_ (by kernel_rfl) ?_, ?_⟩
        · go_simp
        · have hC' : Keep [] w4 w' := hC
          exact size_dev_any w' D g m (HDV.out.keep (HK4.out.trans hC') (by simp))
        go_simp
        refine hK _ _ ?_
        clear hK K
        (repeat (first | (refine his_q rfl rfl (fun K hK => ?_); apply Exists.intro; refine ⟨fun w' hC => ?_, ?_⟩; ((try simp [Sg.upd] at hC); go_simp <;> rfl); go_simp; refine hK _ _ ?_; clear hK K) | (refine his_s rfl (fun K hK => ?_); go_simp; refine hK _ _ ?_; clear hK K)))
        refine his_nil ?_
        clear c0 c1
        go_wp2
        exact bodyPost_ret (results_tmp2 rfl _ _ _) rfl ⟨(HP.out.trans HK4.out), .inr ⟨HNO.out, rfl⟩⟩
    · have hno : ¬ p.On m := fun h => hn (HON2.out.1 h).2.1
      have HNO := Lib.hid hno
      have d1 : (sec != (m.n : Int)) = true := by simpa using hn
      clear hno
      go_wp2_with fail
      try rw [hw3]
      clear hw3
      refine wp_region_his [] [] (fun _ => 0) (by kernel_rfl) (by kernel_rfl) ?_
      intro w4 hk4 hh
      clear hh
      have c0 := fun w' (h : Keep [] w4 w') => cell_of_row w' _ 0 _ _ _ ((hk4.trans h).blk (by simp) HX.out.1)
      have c1 := fun w' (h : Keep [] w4 w') => cell_of_row w' _ 1 _ _ _ ((hk4.trans h).blk (by simp) HX.out.1)
      simp at c0 c1
      have HK4 := Lib.hid hk4
      clear hk4
      (repeat (first | (refine his_q rfl rfl (fun K hK => ?_); apply Exists.intro; refine ⟨fun w' hC => ?_, ?_⟩; ((try simp [Sg.upd] at hC); go_simp <;> rfl); go_simp; refine hK _ _ ?_; clear hK K) | (refine his_s rfl (fun K hK => ?_); go_simp; refine hK _ _ ?_; clear hK K)))
      refine his_c rfl rfl (.int .i64 (m.n : Int)) (fun K hK => ?_)
      refine ⟨fun w' hC => Yields.call 15 #[.pointer (some ⟨g, 0, none⟩)] ?_ (by kernel_rfl) ?_, ?_⟩
      · go_simp
      · have hC' : Keep [] w4 w' := hC
        exact sectors_any w' D g m (HDV.out.keep (HK4.out.trans hC') (by simp))
      go_simp
      refine hK _ _ ?_
      clear hK K
      (repeat (first | (refine his_q rfl rfl (fun K hK => ?_); apply Exists.intro; refine ⟨fun w' hC => ?_, ?_⟩; ((try simp [Sg.upd] at hC); go_simp <;> rfl); go_simp; refine hK _ _ ?_; clear hK K) | (refine his_s rfl (fun K hK => ?_); go_simp; refine hK _ _ ?_; clear hK K)))
      refine his_nil ?_
      clear c0 c1
      go_wp2
      exact bodyPost_ret (results_tmp2 rfl _ _ _) rfl ⟨(HP.out.trans HK4.out), .inr ⟨HNO.out, rfl⟩⟩
  · rw [if_neg hf]
    simp only [lay8]
    have hno : ¬ p.On m := fun h => hf h.1
    have HNO := Lib.hid hno
    clear hno HC HRM
    have HP := Lib.hid (HD.out.2.1.trans hk2)
    have hA2 := (Keep.refl [] w2).alloc (.cells #[.int .i64 0, .int .i64 0, .int .i64 0, .int .i64 0, .int .i64 0, .int .i64 0, .int .i64 0, .int .i64 0] 203)
    obtain ⟨w3, hw3⟩ : ∃ w3, w2.alloc (.cells #[.int .i64 0, .int .i64 0, .int .i64 0, .int .i64 0, .int .i64 0, .int .i64 0, .int .i64 0, .int .i64 0] 203) = w3 := ⟨_, rfl⟩
    rw [hw3] at hA2
    have HK4 := Lib.hid hA2
    have HW3 := Lib.hid hw3
    clear hA2 hw3
    go_wp2_with fail
    rw [HW3.out]
    refine wp_region_his [] [] (fun _ => 0) (by kernel_rfl) (by kernel_rfl) ?_
    intro w4 hk4 hh
    clear hh
    (repeat (first | (refine his_q rfl rfl (fun K hK => ?_); apply Exists.intro; refine ⟨fun w' hC => ?_, ?_⟩; ((try simp [Sg.upd] at hC); go_simp <;> rfl); go_simp; refine hK _ _ ?_; clear hK K) | (refine his_s rfl (fun K hK => ?_); go_simp; refine hK _ _ ?_; clear hK K)))
    refine his_nil ?_
    go_wp2
    exact bodyPost_ret (results_tmp2 rfl _ _ _) rfl ⟨(HP.out.trans HK4.out).trans hk4, .inr ⟨HNO.out, rfl⟩⟩
end Go.Proofs.Ytjkjiabfhhnngaa

/-! The walk of region.Open. -/
namespace Go.Proofs.Ytjkjiabfhhnngaa
open Go.RowKit Sg
set_option linter.unusedSimpArgs false
set_option linter.unusedVariables false

/-- which region is the last one, by the stamps that stand -/
def Lc.scan (c : Lc) (m : Dev) : Nat → Nat → Nat → Nat × Nat
  | 0, _, q => (q, 0)
  | f + 1, n, q =>
    if lgot m ((c.base + n : Nat) : Int) 3 (n : Int) then
      c.scan m f (n + 1) (if ls (m.read ((c.base + n : Nat) : Int)).1 ≤ 1099511627776 ∧ ls (m.read ((c.base + n : Nat) : Int)).1 % c.R = n / c.S then max q (ls (m.read ((c.base + n : Nat) : Int)).1) else q)
    else if (m.read ((c.base + n : Nat) : Int)).2 = 0 then c.scan m f (n + 1) q else (q, (m.read ((c.base + n : Nat) : Int)).2)
theorem get_form2 {m : Dev} {a k p : Int} {w5 : World} {x : Ending}
    (hor : (lgot m a k p ∧ ∃ v, x = .returned (.tuple #[.agg #[.int .i64 k, .int .i64 p, .int .i64 (ls (m.read a).1 : Int), v], .int .i64 0]) ∧ Bytes w5 v (ll (m.read a).1)) ∨
       (¬ lgot m a k p ∧ x = .returned (.tuple #[leaf0, .int .i64 (if (m.read a).2 = 0 then 5 else ((m.read a).2 : Int))]))) :
    ∃ (kd pl : Int) (st : Nat) (va5 : Option Addr) (vl vc5 : Nat) (code : Nat), x = .returned (.tuple #[.agg #[.int .i64 kd, .int .i64 pl, .int .i64 (st : Int), .slice va5 vl vc5], .int .i64 (code : Int)]) ∧
          ((code = 0 ∧ lgot m a k p ∧ st = ls (m.read a).1) ∨ (code = 5 ∧ ¬ lgot m a k p ∧ (m.read a).2 = 0) ∨ (code ≠ 0 ∧ code ≠ 5 ∧ ¬ lgot m a k p ∧ code = (m.read a).2)) := by
  rcases hor with ⟨h1, v, rfl, hb⟩ | ⟨h1, rfl⟩
  · obtain ⟨ao, cap, rfl, -⟩ := hb.form
    exact ⟨_, _, _, ao, _, cap, 0, rfl, .inl ⟨rfl, h1, rfl⟩⟩
  · by_cases hc : (m.read a).2 = 0
    · rw [if_pos hc]
      exact ⟨0, 0, 0, none, 0, 0, 5, rfl, .inr (.inl ⟨rfl, h1, hc⟩)⟩
    · rw [if_neg hc]
      exact ⟨0, 0, 0, none, 0, 0, (m.read a).2, rfl, .inr (.inr ⟨hc, read_code m a, h1, rfl⟩)⟩
theorem RVAt.setLast {w : World} {D E : List Nat} {gl g : Nat} {c : Lc} {l : Lg} {m : Dev} {pv : Value} (h : RVAt w D E gl g c l m pv) (n : Nat) : RVAt (w.setCell ⟨gl, 18, none⟩ (.int .i64 (n : Int))) D E gl g c { l with last := n } m pv := by
  have k : Keep [gl] w (w.setCell ⟨gl, 18, none⟩ (.int .i64 (n : Int))) := (Keep.refl [gl] w).setCell (.inl (by simp)) _
  exact h.turn k (by simp) (h.row.last n) (h.own.keep k (fun b hb hm => h.ne b hb (by simpa using hm))) (fun b h => h) (fun b h => .inl h) h.inE

def planCells (p : Pl) : Array Value := #[.int .i64 p.sec, .int .i64 p.size, .int .i64 p.reg, .int .i64 p.rs, .int .i64 p.lg, .int .i64 p.dep, .int .i64 p.mem, .int .u64 (p.seed : Int)]
def OpenYes (p : Pl) (m : Dev) (last : Int) : Prop := p.On m ∧ last ≤ 1099511627776 ∧ ((lcOf p).scan m ((lcOf p).R * (lcOf p).S) 0 last.toNat).2 = 0
def OpenNo (p : Pl) (m : Dev) (last : Int) (code : Nat) : Prop := (¬ p.On m ∧ code = 12) ∨ (p.On m ∧ 1099511627776 < last ∧ code = 1) ∨
          (p.On m ∧ last ≤ 1099511627776 ∧ code ≠ 0 ∧ code = ((lcOf p).scan m ((lcOf p).R * (lcOf p).S) 0 last.toNat).2)
def lgOpen (p : Pl) (m : Dev) (last : Int) : Lg := { lg0 p with last := ((lcOf p).scan m ((lcOf p).R * (lcOf p).S) 0 last.toNat).1 }
set_option maxRecDepth 100000 in
set_option maxHeartbeats 1000000 in
set_option maxHeartbeats 4000000 in
theorem open_any (w : World) (D : List Nat) (g : Nat) (m : Dev) (h : DV w D g m) (hacts : m.acts ≤ 1000000000) (p : Pl) (last : Int) :
    Calls Try.prog 59 #[.pointer (some ⟨g, 0, none⟩), p.v, .int .i64 last] w fun e w' => Keep [] w w' ∧
      ((OpenYes p m last ∧ ∃ gl, e = .returned (.tuple #[.pointer (some ⟨gl, 0, none⟩), .int .i64 0]) ∧ w.heap.size ≤ gl ∧ RV w' D [gl] gl g (lcOf p) (lgOpen p m last) m) ∨
       (∃ code : Nat, e = .returned (.tuple #[.pointer none, .int .i64 (code : Int)]) ∧ OpenNo p m last code)) := by
  have hA := (Keep.refl [] w).alloc (.cells (planCells p) 92)
  have hB := heap_alloc_new w (.cells (planCells p) 92)
  obtain ⟨w1, hw1⟩ : ∃ w1, w.alloc (.cells (planCells p) 92) = w1 := ⟨_, rfl⟩
  rw [hw1] at hA hB
  have hfo := format_any w1 D g m (h.keep hA (by simp)) p
  have HFO := Lib.hid hfo
  have HD := Lib.hid (And.intro h (And.intro hA hB))
  have HW := Lib.hid hw1
  clear h hA hB hw1 hfo
  simp only [Pl.v]
  go_enter Try.func59, Try.ntmps59
  go_wp2_with fail
  rw [show w.alloc (.cells #[.int .i64 p.sec, .int .i64 p.size, .int .i64 p.reg, .int .i64 p.rs, .int .i64 p.lg, .int .i64 p.dep, .int .i64 p.mem, .int .u64 (p.seed : Int)] 92) = w1 from HW.out]
  refine HFO.out.mono ?_
  clear HFO HW
  rintro e w2 ⟨hk2, (⟨hon, gl, rfl, hgl, hrv⟩ | ⟨hon, rfl⟩)⟩
  case inr =>
    have HON := Lib.hid hon
    clear hon
    go_wp2
    exact bodyPost_ret (results_tmp2 rfl _ _ _) rfl ⟨HD.out.2.1.trans hk2, .inr ⟨12, rfl, .inl ⟨HON.out, rfl⟩⟩⟩
  have HON := Lib.hid hon
  have HGL := Lib.hid (Nat.le_trans HD.out.2.1.size hgl)
  have HK2 := Lib.hid (HD.out.2.1.trans hk2)
  have hP2 := hk2.blk (by simp) HD.out.2.2
  by_cases hl : 1099511627776 < last
  · clear hP2 hon hrv hgl hk2
    go_wp2
    exact bodyPost_ret (results_tmp2 rfl _ _ _) rfl ⟨HK2.out, .inr ⟨1, rfl, .inr (.inl ⟨HON.out, hl, rfl⟩)⟩⟩
  have hok := lcOf_ok p m hon
  have eR : p.reg = ((lcOf p).R : Int) := by
    have := hon.1.1.2.2.1
    simp only [lcOf]
    omega
  have eS : p.rs = ((lcOf p).S : Int) := by
    have := hon.1.1.2.2.2.1
    simp only [lcOf]
    omega
  have hlg : (lg0 p).at_ ≤ (lcOf p).S * (lcOf p).rm ∧ (lg0 p).pend = [] := ⟨Nat.le_refl _, rfl⟩
  obtain ⟨pv, hrv⟩ := hrv
  unfold planCells at hP2
  rw [eR, eS] at hP2
  have HLL := Lib.hid (show lg0 p = ⟨0, (lg0 p).at_, []⟩ from rfl)
  generalize hl0 : lg0 p = l0 at *
  generalize hc : lcOf p = c at *
  obtain ⟨o1, o2, o3, o4, o5⟩ := ok_rm c m hok
  have r1 := hok.r1
  have r2 := hok.r2
  obtain ⟨N, hN⟩ : ∃ N, c.R * c.S = N := ⟨_, rfl⟩
  have hN2 : N ≤ 64 * 32 := by rw [← hN]; exact Nat.mul_le_mul r2 o4
  have hbase : c.base + N ≤ 16384 := by rw [← hN]; exact Nat.le_trans hok.top (HD.out.1.1.n2)
  have q0 : (c.R : Int) * (c.S : Int) = (N : Int) := by rw [← hN]; push_cast; rfl
  have q1 : IntKind.i64.wrap (N : Int) = (N : Int) := i64_wrap_nat (by omega)
  have z1 : ¬ ((c.R : Int) = 0) := by omega
  have z2 : ((c.R : Int) == 0) = false := beq_false_of_ne z1
  have z3 : ¬ (c.R = 0) := by omega
  have z4 : ¬ ((c.S : Int) = 0) := by omega
  have z5 : ((c.S : Int) == 0) = false := beq_false_of_ne z4
  have z6 : ¬ (c.S = 0) := by omega
  have HR := Lib.hid hrv
  have HP2 := Lib.hid hP2
  have hps := Array.getElem?_eq_some_iff.1 HD.out.2.2
  have hne1 : ¬ gl = w.heap.size := by have := HD.out.2.1.size; have := hps.1; omega
  have hne2 : ¬ w.heap.size = gl := fun e => hne1 e.symm
  have k18 := hrv.row.k18
  have f18 := hrv.row.free 18
  have c2 := cell_of_row w2 _ 2 _ _ _ hP2
  have c3 := cell_of_row w2 _ 3 _ _ _ hP2
  simp at c2 c3
  have HND := Lib.hid (And.intro hc (And.intro hN hl0))
  clear hP2 hon hrv hgl hok hlg eR eS hN hc hk2 hps hl0
  have hmx : ∃ q0 : Nat, last.toNat = q0 ∧ q0 ≤ 1099511627776 ∧ ((last < 0 ∧ q0 = 0) ∨ (¬ last < 0 ∧ last = (q0 : Int))) := ⟨last.toNat, rfl, by omega, by omega⟩
  obtain ⟨Q, hQ, hQ2, hor⟩ := hmx
  have HQ := Lib.hid hQ
  have hl3 : last ≤ 1099511627776 := by omega
  have HL3 := Lib.hid hl3
  have hcell0 : (0 : Int) = ((0 : Nat) : Int) := rfl
  clear hQ hl3 hl hcell0
  rcases hor with ⟨hm, hq⟩ | ⟨hm, hq⟩
  case' inl =>
    go_wp2_with fail
    have h3 : RVAt (w2.setCell ⟨gl, 18, none⟩ (.int .i64 0)) D [gl] gl g c { l0 with last := Q } m pv := by rw [hq]; exact HR.out.setLast 0
    have p3 := (Keep.refl [gl] w2).setCell (p := ⟨gl, 18, none⟩) (.inl (by simp)) (.int .i64 0)
    obtain ⟨w3, hw3⟩ : ∃ w3, w2.setCell ⟨gl, 18, none⟩ (.int .i64 0) = w3 := ⟨_, rfl⟩
  case' inr =>
    have HZ := Lib.hid hq
    subst hq
    go_wp2_with fail
    have h3 : RVAt (w2.setCell ⟨gl, 18, none⟩ (.int .i64 (Q : Int))) D [gl] gl g c { l0 with last := Q } m pv := HR.out.setLast Q
    have p3 := (Keep.refl [gl] w2).setCell (p := ⟨gl, 18, none⟩) (.inl (by simp)) (.int .i64 (Q : Int))
    obtain ⟨w3, hw3⟩ : ∃ w3, w2.setCell ⟨gl, 18, none⟩ (.int .i64 (Q : Int)) = w3 := ⟨_, rfl⟩
  all_goals
    rw [hw3] at h3 p3 ⊢
    have hP3 := p3.blk (by simp; omega) HP2.out
    have hk3 := HK2.out.trans' p3 (fun b hb => by rw [List.mem_singleton.1 hb]; exact .inr HGL.out)
    clear hw3 p3 k18 f18 c2 c3 hm
    have HLast := Lib.hid (show c.scan m N 0 Q = c.scan m N 0 Q from rfl)
    go_loopw [34] (fun v wr => ∃ (n q : Nat), v = .int .i64 (n : Int) ∧ n ≤ N ∧ q ≤ 1099511627776 ∧ Hid (RVAt wr D [gl] gl g c { l0 with last := q } m pv) ∧ Hid (wr.heap[w.heap.size]? = some (.cells #[.int .i64 p.sec, .int .i64 p.size, .int .i64 (c.R : Int), .int .i64 (c.S : Int), .int .i64 p.lg, .int .i64 p.dep, .int .i64 p.mem, .int .u64 (p.seed : Int)] 92 (0, 0))) ∧ Hid (Keep [] w wr) ∧ Hid (c.scan m (N - n) n q = c.scan m N 0 Q)) (fun v _ => N - (intOf v).toNat)
    case atStart =>
      exact ⟨0, Q, rfl, Nat.zero_le _, hQ2, h3, hP3, hk3, rfl⟩
    case round =>
      clear h3 hP3 hk3
      obtain ⟨n, q, rfl, hnN, hq2, hR, hP, hK, hS⟩ := hrel
      by_cases hn : n = N
      · subst hn
        have hfin : c.scan m n 0 Q = (q, 0) := by rw [← hS.out, Nat.sub_self]; rfl
        have HFIN := Lib.hid hfin
        have HR2 := Lib.hid hR.out
        clear hfin
        go_wp2
        refine bodyPost_ret (results_tmp2 rfl _ _ _) rfl ⟨hK.out, .inl ⟨⟨HON.out, HL3.out, ?_⟩, gl, rfl, HGL.out, pv, ?_⟩⟩
        · rw [HND.out.1, HND.out.2.1, HQ.out, HFIN.out]
        · have e9 : ∀ L : Int, L.toNat = Q → lgOpen p m L = { l0 with last := q } := by
            intro L hL
            unfold lgOpen
            rw [HND.out.1, HND.out.2.1, HND.out.2.2, hL, HFIN.out]
          rw [HND.out.1, e9 _ HQ.out]
          exact HR2.out
      · have hn1 : (n : Int) < (N : Int) := by omega
        have k10 := hR.out.row.k10
        have hbn : c.base + n ≤ 16384 := by omega
        have q5 : IntKind.i64.wrap ((c.base : Int) + (n : Int)) = ((c.base + n : Nat) : Int) := by rw [i64_wrap (by omega) (by omega)]; push_cast; rfl
        have hget := leafGet_any wr D g m hR.out.dv hacts ((c.base + n : Nat) : Int) 3 (n : Int)
        have HGET := Lib.hid hget
        clear hget
        go_wp2_with fail
        refine HGET.out.mono ?_
        clear HGET
        rintro e w4 ⟨hk4, hor⟩
        obtain ⟨kd, pl, st, va5, vl5, vc5, code, rfl, hcase⟩ := get_form2 hor
        have hstep : c.scan m (N - n) n q = if lgot m ((c.base + n : Nat) : Int) 3 (n : Int) then
              c.scan m (N - (n + 1)) (n + 1) (if ls (m.read ((c.base + n : Nat) : Int)).1 ≤ 1099511627776 ∧ ls (m.read ((c.base + n : Nat) : Int)).1 % c.R = n / c.S then max q (ls (m.read ((c.base + n : Nat) : Int)).1) else q)
            else if (m.read ((c.base + n : Nat) : Int)).2 = 0 then c.scan m (N - (n + 1)) (n + 1) q else (q, (m.read ((c.base + n : Nat) : Int)).2) := by
          rw [show N - n = (N - (n + 1)) + 1 by omega, Lc.scan]
        rw [hS.out] at hstep
        have hA5 := (Keep.refl [] w4).alloc (.cells #[.int .i64 kd, .int .i64 pl, .int .i64 (st : Int), .slice va5 vl5 vc5] 74)
        have hB5 := heap_alloc_new w4 (.cells #[.int .i64 kd, .int .i64 pl, .int .i64 (st : Int), .slice va5 vl5 vc5] 74)
        obtain ⟨w5, hw5⟩ : ∃ w5, w4.alloc (.cells #[.int .i64 kd, .int .i64 pl, .int .i64 (st : Int), .slice va5 vl5 vc5] 74) = w5 := ⟨_, rfl⟩
        rw [hw5] at hA5 hB5
        have HW5 := Lib.hid hw5
        have hR5 := hR.out.keep (hk4.trans hA5) (by simp)
        have H5 := Lib.hid (And.intro hR5 (And.intro ((hk4.trans hA5).blk (by simp) hP.out) (And.intro (hK.out.trans (hk4.trans hA5)) hB5)))
        clear hor hA5 hB5 hw5 hk4 hR5 k10 q5
        rcases hcase with ⟨rfl, hg, rfl⟩ | ⟨rfl, hg, hz⟩ | ⟨h0, h5, hg, hc⟩
        · rw [if_pos hg] at hstep
          generalize ls (m.read ((c.base + n : Nat) : Int)).1 = st at *
          obtain ⟨r, hr⟩ : ∃ r, st % c.R = r := ⟨_, rfl⟩
          obtain ⟨s, hs⟩ : ∃ s, n / c.S = s := ⟨_, rfl⟩
          rw [hr, hs] at hstep
          have hr2 : r < c.R := by rw [← hr]; exact Nat.mod_lt _ (by omega)
          have hs2 : s ≤ n := by rw [← hs]; exact Nat.div_le_self _ _
          have q6 : ((st : Int)).tmod (c.R : Int) = (r : Int) := by rw [Int.tmod_eq_emod_of_nonneg (by omega), ← hr]; rfl
          have q7 : ((n : Int)).tdiv (c.S : Int) = (s : Int) := by rw [Int.tdiv_eq_ediv_of_nonneg (by omega), ← hs]; rfl
          have q8 : IntKind.i64.wrap (r : Int) = (r : Int) := i64_wrap (by omega) (by omega)
          have q9 : IntKind.i64.wrap (s : Int) = (s : Int) := i64_wrap (by omega) (by omega)
          have hways : ((¬ st ≤ 1099511627776) ∧ c.scan m N 0 Q = c.scan m (N - (n + 1)) (n + 1) q) ∨ (st ≤ 1099511627776 ∧ r ≠ s ∧ c.scan m N 0 Q = c.scan m (N - (n + 1)) (n + 1) q) ∨ (st ≤ 1099511627776 ∧ r = s ∧ c.scan m N 0 Q = c.scan m (N - (n + 1)) (n + 1) (max q st)) := by
            by_cases h1 : st ≤ 1099511627776
            · by_cases h2 : r = s
              · rw [if_pos ⟨h1, h2⟩] at hstep
                exact .inr (.inr ⟨h1, h2, hstep⟩)
              · rw [if_neg (fun h => h2 h.2)] at hstep
                exact .inr (.inl ⟨h1, h2, hstep⟩)
            · rw [if_neg (fun h => h1 h.1)] at hstep
              exact .inl ⟨h1, hstep⟩
          clear hstep hg hr hs
          rcases hways with ⟨h1, hst⟩ | ⟨h1, h2, hst⟩ | ⟨h1, h2, hst⟩
          case' inl =>
            have y1 : decide ((st : Int) ≤ 1099511627776) = false := decide_eq_false (by omega)
            have y1' : ¬ (st : Int) ≤ 1099511627776 := by omega
          case' inr.inl =>
            have y1 : decide ((st : Int) ≤ 1099511627776) = true := decide_eq_true (by omega)
            have y1' : (st : Int) ≤ 1099511627776 := by omega
            have y2 : ((r : Int) == (s : Int)) = false := beq_false_of_ne (by omega)
            have y3 : ¬ (r : Int) = (s : Int) := by omega
          case' inr.inr =>
            have y1 : decide ((st : Int) ≤ 1099511627776) = true := decide_eq_true (by omega)
            have y1' : (st : Int) ≤ 1099511627776 := by omega
            subst h2
          all_goals
            have HST := Lib.hid hst
            have HY := Lib.hid h1
            clear hst
            go_wp2_with fail
            rw [HW5.out]
            clear HW5
            refine wp_region_his [] [] (fun _ => 0) (by kernel_rfl) (by kernel_rfl) ?_
            intro w6 hk6 hh
            clear hh
            have l2 := fun w' (h : Keep [] w6 w') => cell_of_row w' _ 2 _ _ _ ((hk6.trans h).blk (by simp) H5.out.2.2.2)
            have p2 := fun w' (h : Keep [] w6 w') => cell_of_row w' _ 2 _ _ _ ((hk6.trans h).blk (by simp) H5.out.2.1)
            have p3 := fun w' (h : Keep [] w6 w') => cell_of_row w' _ 3 _ _ _ ((hk6.trans h).blk (by simp) H5.out.2.1)
            simp at l2 p2 p3
            have HK6 := Lib.hid hk6
            clear hk6
            (repeat (first | (refine his_q rfl rfl (fun K hK => ?_); apply Exists.intro; refine ⟨fun w' hC => ?_, ?_⟩; ((try simp [Sg.upd] at hC); go_simp <;> rfl); go_simp; refine hK _ _ ?_; clear hK K) | (refine his_s rfl (fun K hK => ?_); go_simp; refine hK _ _ ?_; clear hK K)))
            refine his_nil ?_
            clear l2 p2 p3 q6 q7 q8 q9
          · have hmx : (∃ q2 : Nat, max q st = q2 ∧ q2 ≤ 1099511627776 ∧ ((q < st ∧ q2 = st) ∨ (¬ q < st ∧ q2 = q))) := ⟨_, rfl, by omega, by omega⟩
            obtain ⟨q2, hq3, hq4, hmx⟩ := hmx
            have HQ3 := Lib.hid hq3
            clear hq3
            go_wp2_with fail
            refine wp_region_his [] [10] (fun _ => 0) (by kernel_rfl) (by kernel_rfl) ?_
            intro w7 hk7 hh
            clear hh
            have hr7 := H5.out.1.keep (HK6.out.trans hk7) (by simp)
            have l2 := fun w' (h : Keep [] w7 w') => cell_of_row w' _ 2 _ _ _ ((HK6.out.trans (hk7.trans h)).blk (by simp) H5.out.2.2.2)
            have k18 := fun w' (h : Keep [] w7 w') => (hr7.row.keep h (by simp)).k18
            have c18 := hr7.row.k18
            have f18 := hr7.row.free 18
            have hk7' := H5.out.2.2.1.trans (HK6.out.trans hk7)
            have hp7 := (HK6.out.trans hk7).blk (by simp) H5.out.2.1
            have p7 := (Keep.refl [gl] w7).setCell (p := ⟨gl, 18, none⟩) (.inl (by simp)) (.int .i64 (q2 : Int))
            have HREL := Lib.hid (And.intro (hr7.setLast q2) (And.intro (p7.blk (by simp; omega) hp7) (hk7'.trans' p7 (fun b hb => by rw [List.mem_singleton.1 hb]; exact .inr HGL.out))))
            simp at l2
            clear hk7 hr7 hk7' hp7 p7
            rcases hmx with ⟨hlt, rfl⟩ | ⟨hlt, rfl⟩
            case' inl => have y5 : (q : Int) < (q2 : Int) := by omega
            case' inr => have y5 : ¬ (q2 : Int) < (st : Int) := by omega
            all_goals
              (repeat (first | (refine his_q rfl rfl (fun K hK => ?_); apply Exists.intro; refine ⟨fun w' hC => ?_, ?_⟩; ((try simp [Sg.upd] at hC); go_simp <;> rfl); go_simp; refine hK _ _ ?_; clear hK K) | (refine his_s rfl (fun K hK => ?_); go_simp; refine hK _ _ ?_; clear hK K)))
              (refine his_last rfl (by kernel_rfl) rfl (fun K hK => ?_); go_simp)
              refine hK _ _ ?_
              clear hK K
              refine his_nil ?_
              clear l2 k18 c18 f18
              go_wp2
              go_roundw
              case rel => exact ⟨n + 1, q2, by go_num, by omega, hq4, HREL.out.1, HREL.out.2.1, HREL.out.2.2, by have := HST.out; rw [HQ3.out] at this; exact this.symm⟩
              case measure => simp [intOf]; omega
          iterate 2
            · go_wp2
              go_roundw
              case rel => exact ⟨n + 1, q, by go_num, by omega, hq2, H5.out.1.keep HK6.out (by simp), HK6.out.blk (by simp) H5.out.2.1, H5.out.2.2.1.trans HK6.out, HST.out.symm⟩
              case measure => simp [intOf]; omega
        · rw [if_neg hg, if_pos hz] at hstep
          have HST := Lib.hid hstep
          clear hstep hg hz
          go_wp2_with fail
          rw [HW5.out]
          clear HW5
          go_wp2
          go_roundw
          case rel => exact ⟨n + 1, q, by go_num, by omega, hq2, H5.out.1, H5.out.2.1, H5.out.2.2.1, HST.out.symm⟩
          case measure => simp [intOf]; omega
        · rw [if_neg hg, if_neg (by rw [← hc]; exact h0)] at hstep
          have d1 : ((code : Int) == 5) = false := beq_false_of_ne (by omega)
          have d2 : ((code : Int) != 0) = true := bne_iff_ne.2 (by omega)
          have d3 : ((code : Int) == 0) = false := beq_false_of_ne (by omega)
          have d4 : ¬ ((code : Int) = 5) := by omega
          have d5 : ¬ ((code : Int) = 0) := by omega
          have HST := Lib.hid (And.intro hstep (And.intro h0 hc))
          clear hstep hg hc h0 h5
          go_wp2_with fail
          refine bodyPost_ret (results_tmp2 rfl _ _ _) rfl ⟨by rw [HW5.out]; exact H5.out.2.2.1, .inr ⟨code, rfl, .inr (.inr ⟨HON.out, HL3.out, HST.out.2.1, ?_⟩)⟩⟩
          rw [HND.out.1, HND.out.2.1, HQ.out, HST.out.1]
          exact HST.out.2.2
end Go.Proofs.Ytjkjiabfhhnngaa
