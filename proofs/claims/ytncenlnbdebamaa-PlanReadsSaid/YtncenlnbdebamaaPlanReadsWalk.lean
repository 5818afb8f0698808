import Derived.Test.YtncenlnbdebamaaPlanRefUnpack
import Derived.Test.YtncenlnbdebamaaOpen
/-! The walk of the law PlanReads. -/
namespace Go.Proofs.Ytncenlnbdebamaa
open Go.RowKit Sg
set_option linter.unusedSimpArgs false

theorem unp_both (l : List UInt8) : ∃ (p : Pl) (cd : Int), (∀ x w, Bytes w x l → Calls Try.prog 22 #[x] w fun e w' => e = .returned (.tuple #[p.v, .int .i64 cd]) ∧ Keep [] w w') ∧
    (∀ x w, Bytes w x l → Calls Try.prog 23 #[x] w fun e w' => e = .returned (.tuple #[p.v, .int .i64 cd]) ∧ Keep [] w w') := by
  by_cases h : l.length = 26
  · by_cases hf : (of26 l).Fits
    · refine ⟨of26 l, 0, fun x w hx => ?_, fun x w hx => ?_⟩
      · have c := planUnpack_yes x l w hx h
        rw [if_pos hf] at c
        exact c
      · have c := refPlanUnpack_yes x l w hx h
        rw [if_pos hf] at c
        exact c
    · refine ⟨⟨0, 0, 0, 0, 0, 0, 0, 0⟩, 12, fun x w hx => ?_, fun x w hx => ?_⟩
      · have c := planUnpack_yes x l w hx h
        rw [if_neg hf] at c
        exact c
      · have c := refPlanUnpack_yes x l w hx h
        rw [if_neg hf] at c
        exact c
  · exact ⟨⟨0, 0, 0, 0, 0, 0, 0, 0⟩, 5, fun x w hx => planUnpack_no x l w hx h, fun x w hx => refPlanUnpack_no x l w hx h⟩

set_option maxRecDepth 100000 in
set_option maxHeartbeats 1000000 in
set_option maxHeartbeats 4000000 in
theorem planReadsWalk (W : World) (v0 : Value) (l0 : List UInt8) (b0 : Bytes W v0 l0) :
    Calls Try.prog 7 #[v0] W fun e W' => e = .returned (.bool true) ∧ Below W.heap.size W W' := by
  obtain ⟨ao, cap, rfl, hlc, hm, hcap⟩ := b0.form
  by_cases hl : 100 < l0.length
  · have hl' : (100 : Int) < (l0.length : Int) := by omega
    go_enter Try.func7, Try.ntmps7
    go_wp2
    go_ret
    exact ⟨rfl, (Keep.refl [] W).below (Nat.le_refl _) (by simp)⟩
  · have hl' : ¬ (100 : Int) < (l0.length : Int) := by omega
    obtain ⟨p, cd, hU, hR⟩ := unp_both l0
    have hO := of06_any p
    have HU := Lib.hid hU
    have HR := Lib.hid hR
    clear hU hR
    have ho := OwnB.empty W W.heap.size 5 (Nat.le_refl _)
    have hC1 := (Keep.refl [] W).alloc (.cells #[] 5)
    obtain ⟨sec, size, reg, rs, lg, dep, mem, seed⟩ := p
    simp only [Pl.v] at *
    have HO := Lib.hid hO
    clear hO
    go_enter Try.func7, Try.ntmps7
    go_wp2_with (refine wpList_append_bytes rfl (.tmp 11) (.tmp 12) 36 5 rfl W.heap.size Try.underlying36 (by kernel_rfl) (v := .slice (some ⟨W.heap.size, 0, none⟩) 0 0) (src := .slice ao l0.length cap) rfl rfl ho (b0.keep hC1 (by simp)) (by simp; omega) hC1.size ?_)
    intro v4 w4 ho4 hk4
    have hC4 : Keep [] W w4 := hC1.trans' hk4 (by intro k hk; simp [Value.ownBlock] at hk; subst hk; exact .inr (Nat.le_refl _))
    clear hk4
    go_wp2_with fail
    refine (HU.out _ _ (ho4.bytes (by omega))).mono ?_
    rintro e w5 ⟨rfl, hk5⟩
    have hC5 := (hC4.trans hk5).alloc (.cells #[.int .i64 sec, .int .i64 size, .int .i64 reg, .int .i64 rs, .int .i64 lg, .int .i64 dep, .int .i64 mem, .int .u64 (seed : Int)] 30)
    have hX := heap_alloc_new w5 (.cells #[.int .i64 sec, .int .i64 size, .int .i64 reg, .int .i64 rs, .int .i64 lg, .int .i64 dep, .int .i64 mem, .int .u64 (seed : Int)] 30)
    go_wp2_with fail
    refine (HR.out _ _ (b0.keep hC5 (by simp))).mono ?_
    rintro e w6 ⟨rfl, hk6⟩
    have hX6 := hk6.blk (by simp) hX
    have hC6 := hC5.trans hk6
    have hK7 := (Keep.refl [] w6).alloc (.cells #[.int .i64 sec, .int .i64 size, .int .i64 reg, .int .i64 rs, .int .i64 lg, .int .i64 dep, .int .i64 mem, .int .u64 (seed : Int)] 24)
    have hY := heap_alloc_new w6 (.cells #[.int .i64 sec, .int .i64 size, .int .i64 reg, .int .i64 rs, .int .i64 lg, .int .i64 dep, .int .i64 mem, .int .u64 (seed : Int)] 24)
    clear hX hk6 hk5 ho hC1 ho4
    go_wp2_with fail
    refine wp_region_his [] [2, 10] (fun _ => 0) (by kernel_rfl) (by kernel_rfl) ?_
    intro w7 hk7 _
    have bx := (hK7.trans hk7).blk (by simp) hX6
    have bp := hk7.blk (by simp) hY
    have hK5 := hC6.trans (hK7.trans hk7)
    have ckx := fun i w' (h : Keep [] w7 w') => cell_of_row w' _ i _ _ _ (h.blk (by simp) bx)
    have ckp := fun i w' (h : Keep [] w7 w') => cell_of_row w' _ i _ _ _ (h.blk (by simp) bp)
    have x_0 := ckx 0
    have x_1 := ckx 1
    have x_2 := ckx 2
    have x_3 := ckx 3
    have x_4 := ckx 4
    have x_5 := ckx 5
    have x_6 := ckx 6
    have x_7 := ckx 7
    have p_0 := ckp 0
    have p_1 := ckp 1
    have p_2 := ckp 2
    have p_3 := ckp 3
    have p_4 := ckp 4
    have p_5 := ckp 5
    have p_6 := ckp 6
    have p_7 := ckp 7
    clear ckx ckp bx bp hk7 hK7 hY hX6
    simp at x_0 x_1 x_2 x_3 x_4 x_5 x_6 x_7 p_0 p_1 p_2 p_3 p_4 p_5 p_6 p_7
    (repeat (first | (refine his_q rfl rfl (fun K hK => ?_); apply Exists.intro; refine ⟨fun w' hC => ?_, ?_⟩; ((try simp [Sg.upd] at hC); go_simp <;> rfl); go_simp; refine hK _ _ ?_; clear hK K) | (refine his_s rfl (fun K hK => ?_); go_simp; refine hK _ _ ?_; clear hK K)))
    (refine his_l rfl rfl (fun K hK => ?_); go_simp)
    refine (HO.out _).mono ?_
    rintro x w8 ⟨rfl, hk8⟩
    refine hK _ _ hk8 ?_
    clear hK K
    (repeat (first | (refine his_q rfl rfl (fun K hK => ?_); apply Exists.intro; refine ⟨fun w' hC => ?_, ?_⟩; ((try simp [Sg.upd] at hC); go_simp <;> rfl); go_simp; refine hK _ _ ?_; clear hK K) | (refine his_s rfl (fun K hK => ?_); go_simp; refine hK _ _ ?_; clear hK K)))
    (refine his_l rfl rfl (fun K hK => ?_); go_simp)
    refine (awake06_any _).mono ?_
    rintro x w9 ⟨rfl, hk9⟩
    refine hK _ _ hk9 ?_
    clear hK K
    (repeat (first | (refine his_q rfl rfl (fun K hK => ?_); apply Exists.intro; refine ⟨fun w' hC => ?_, ?_⟩; ((try simp [Sg.upd] at hC); go_simp <;> rfl); go_simp; refine hK _ _ ?_; clear hK K) | (refine his_s rfl (fun K hK => ?_); go_simp; refine hK _ _ ?_; clear hK K)))
    refine his_nil ?_
    go_wp2
    all_goals
      go_ret
      exact ⟨rfl, (hK5.trans (hk8.trans hk9)).below (Nat.le_refl _) (by simp)⟩
end Go.Proofs.Ytncenlnbdebamaa
