import Derived.Test.YtncenlnbdebamaaPlanRefFitNo
import Derived.Test.YtncenlnbdebamaaPlanRefFit
import Derived.Test.YtncenlnbdebamaaPlanRefPack
import Derived.Test.YtncenlnbdebamaaHist
/-! The walk of the law PlanFits. -/
namespace Go.Proofs.Ytncenlnbdebamaa
open Go.RowKit Sg

theorem refFit_any (p : Pl) (w : World) : Calls Try.prog 24 #[p.v] w fun e w' => e = .returned (.tuple (if p.Fits then #[p.lay, .int .i64 0] else #[lay8 0 0 0 0 0 0 0 0, .int .i64 12])) ∧ Keep [] w w' := by
  by_cases h : p.Within
  · exact refFit_yes p h w
  · rw [if_neg (fun h' => h h'.1)]
    exact refFit_no p h w

set_option maxRecDepth 100000 in
set_option maxHeartbeats 1000000 in
set_option maxHeartbeats 4000000 in
theorem planFitsWalk (W : World) (p : Pl) (hp : p.In) :
    Calls Try.prog 8 #[p.v] W fun e W' => e = .returned (.bool true) ∧ Below W.heap.size W W' := by
  have hO := of06_any p
  have hF := fit_any p
  have hR := refFit_any p
  have hP := planPack_any p hp.2.2.2.2.2.2.2
  have hRP := refPlanPack_any p hp.2.2.2.2.2.2.2
  have hL := p.pack_len
  obtain ⟨l1, l2, l3, l4, l5, l6, l7, l8, cd, hrv⟩ : ∃ a b c d e f g h k : Int, (if p.Fits then #[p.lay, .int .i64 0] else #[lay8 0 0 0 0 0 0 0 0, .int .i64 12]) = #[lay8 a b c d e f g h, .int .i64 k] := by
    by_cases hf : p.Fits
    · rw [if_pos hf]; exact ⟨_, _, _, _, _, _, _, _, _, rfl⟩
    · rw [if_neg hf]; exact ⟨_, _, _, _, _, _, _, _, _, rfl⟩
  rw [hrv] at hF hR
  clear hrv
  generalize p.pack = L at hP hRP hL
  obtain ⟨sec, size, reg, rs, lg, dep, mem, seed⟩ := p
  simp only [Pl.v, lay8] at *
  clear hp
  go_enter Try.func8, Try.ntmps8
  go_wp2_with fail
  refine (hO _).mono ?_
  rintro e w2 ⟨rfl, hk2⟩
  go_wp2_with fail
  refine (hF _).mono ?_
  rintro e w3 ⟨rfl, hk3⟩
  have hkk := hk2.trans hk3
  have hK3 := ((Keep.refl [] W).alloc _).trans hkk
  have hb0 := hkk.blk (by simp) (heap_alloc_new W _)
  have n3 : W.heap.size < w3.heap.size := (Array.getElem?_eq_some_iff.1 hb0).1
  have n1 : ¬ W.heap.size = w3.heap.size := by omega
  have n2 : ¬ w3.heap.size = W.heap.size := by omega
  have g0 := cell_of_row w3 _ 0 _ _ _ hb0
  have g1 := cell_of_row w3 _ 1 _ _ _ hb0
  have g2 := cell_of_row w3 _ 2 _ _ _ hb0
  have g3 := cell_of_row w3 _ 3 _ _ _ hb0
  have g4 := cell_of_row w3 _ 4 _ _ _ hb0
  have g5 := cell_of_row w3 _ 5 _ _ _ hb0
  have g6 := cell_of_row w3 _ 6 _ _ _ hb0
  have g7 := cell_of_row w3 _ 7 _ _ _ hb0
  simp at g0 g1 g2 g3 g4 g5 g6 g7
  clear hk2 hk3 hkk hF
  have HB0 := Lib.hid hb0
  have HO := Lib.hid hO
  have HP := Lib.hid hP
  have HRP := Lib.hid hRP
  clear hb0 hO hP hRP
  go_wp2_with fail
  refine (hR _).mono ?_
  rintro e w4 ⟨rfl, hk4⟩
  clear hR g0 g1 g2 g3 g4 g5 g6 g7
  go_wp2_with fail
  have hkw := (Keep.refl [] w4).alloc (.cells #[.int .i64 l1, .int .i64 l2, .int .i64 l3, .int .i64 l4, .int .i64 l5, .int .i64 l6, .int .i64 l7, .int .i64 l8] 53)
  refine wp_region_his [] [26, 27, 30, 35] (fun k => if k = 28 then 28 else if k = 31 then 31 else 0) (by kernel_rfl) (by kernel_rfl) ?_
  intro w5 hk5 _
  have bw := hk5.blk (by simp) (heap_alloc_new w4 _)
  have bx := (hk4.trans (hkw.trans hk5)).blk (by simp) (heap_alloc_new w3 _)
  have bp := (((Keep.refl [] w3).alloc _).trans (hk4.trans (hkw.trans hk5))).blk (by simp) HB0.out
  have hK5 := (hK3.trans ((Keep.refl [] w3).alloc _)).trans (hk4.trans (hkw.trans hk5))
  have ckw := fun i w' (h : Keep [] w5 w') => cell_of_row w' _ i _ _ _ (h.blk (by simp) bw)
  have ckx := fun i w' (h : Keep [] w5 w') => cell_of_row w' _ i _ _ _ (h.blk (by simp) bx)
  have ckp := fun i w' (h : Keep [] w5 w') => cell_of_row w' _ i _ _ _ (h.blk (by simp) bp)
  have w_0 := ckw 0
  have w_1 := ckw 1
  have w_2 := ckw 2
  have w_3 := ckw 3
  have w_4 := ckw 4
  have w_5 := ckw 5
  have w_6 := ckw 6
  have w_7 := ckw 7
  have x_0 := ckx 0
  have x_1 := ckx 1
  have x_2 := ckx 2
  have x_3 := ckx 3
  have x_4 := ckx 4
  have x_5 := ckx 5
  have x_6 := ckx 6
  have x_7 := ckx 7
  have p_0 := ckp 0
  have p_1 := ckp 1
  have p_2 := ckp 2
  have p_3 := ckp 3
  have p_4 := ckp 4
  have p_5 := ckp 5
  have p_6 := ckp 6
  have p_7 := ckp 7
  clear ckw ckx ckp bw bx bp HB0 hk4 hk5 hkw n1 n2 n3
  simp at w_0 w_1 w_2 w_3 w_4 w_5 w_6 w_7 x_0 x_1 x_2 x_3 x_4 x_5 x_6 x_7 p_0 p_1 p_2 p_3 p_4 p_5 p_6 p_7
  (repeat (first | (refine his_q rfl rfl (fun K hK => ?_); apply Exists.intro; refine ⟨fun w' hC => ?_, ?_⟩; ((try simp [Sg.upd] at hC); go_simp <;> rfl); go_simp; refine hK _ _ ?_; clear hK K) | (refine his_s rfl (fun K hK => ?_); go_simp; refine hK _ _ ?_; clear hK K)))
  (refine his_l rfl rfl (fun K hK => ?_); go_simp)
  refine (HO.out _).mono ?_
  rintro x w6 ⟨rfl, hk6⟩
  refine hK _ _ hk6 ?_
  clear hK K
  (refine his_l rfl rfl (fun K hK => ?_); go_simp)
  refine (HP.out _).mono ?_
  rintro x w7 ⟨v7, rfl, ho7, hk7⟩
  have hb7 := ho7.bytes (by omega)
  have hq7 : ∀ w', Keep [] w7 w' → Sem.run Try.prog (convert 36 9 v7) w' = .ok (.string ⟨L.toArray⟩) w' := fun w' h => run_str (P := Try.prog) 36 9 5 Try.underlying36 Try.underlying5 Try.underlying9 (hb7.keep h (by simp))
  refine hK _ _ hk7 ?_
  clear hK K ho7 hb7
  (repeat (first | (refine his_q rfl rfl (fun K hK => ?_); apply Exists.intro; refine ⟨fun w' hC => ?_, ?_⟩; ((try simp [Sg.upd] at hC); go_simp <;> rfl); go_simp; refine hK _ _ ?_; clear hK K) | (refine his_s rfl (fun K hK => ?_); go_simp; refine hK _ _ ?_; clear hK K)))
  (refine his_l rfl rfl (fun K hK => ?_); go_simp)
  refine (HRP.out _).mono ?_
  rintro x w8 ⟨v8, rfl, ho8, hk8⟩
  have hb8 := ho8.bytes (by omega)
  have hq8 : ∀ w', Keep [] w8 w' → Sem.run Try.prog (convert 36 9 v8) w' = .ok (.string ⟨L.toArray⟩) w' := fun w' h => run_str (P := Try.prog) 36 9 5 Try.underlying36 Try.underlying5 Try.underlying9 (hb8.keep h (by simp))
  refine hK _ _ hk8 ?_
  clear hK K ho8 hb8
  (repeat (first | (refine his_q rfl rfl (fun K hK => ?_); apply Exists.intro; refine ⟨fun w' hC => ?_, ?_⟩; ((try simp [Sg.upd] at hC); go_simp <;> rfl); go_simp; refine hK _ _ ?_; clear hK K) | (refine his_s rfl (fun K hK => ?_); go_simp; refine hK _ _ ?_; clear hK K)))
  (refine his_l rfl rfl (fun K hK => ?_); go_simp)
  refine (awake06_any _).mono ?_
  rintro x w9 ⟨rfl, hk9⟩
  refine hK _ _ hk9 ?_
  clear hK K
  (repeat (first | (refine his_q rfl rfl (fun K hK => ?_); apply Exists.intro; refine ⟨fun w' hC => ?_, ?_⟩; ((try simp [Sg.upd] at hC); go_simp <;> rfl); go_simp; refine hK _ _ ?_; clear hK K) | (refine his_s rfl (fun K hK => ?_); go_simp; refine hK _ _ ?_; clear hK K)))
  refine his_nil ?_
  go_wp2
  all_goals
    go_ret
    exact ⟨rfl, (hK5.trans (hk6.trans (hk7.trans (hk8.trans hk9)))).below (Nat.le_refl _) (by simp)⟩
end Go.Proofs.Ytncenlnbdebamaa
