import Derived.Test.YtijljdcpajjhhaaSuperNil1
/-! The walk of the law SuperNil, joined. -/
namespace Go.Proofs.Ytijljdcpajjhhaa
open Go.RowKit Go.Shelf Sg Go.Sort Go.Proofs
attribute [local go_sem] Oper.semAt_some
set_option linter.unusedSimpArgs false
set_option linter.unusedVariables false

set_option maxRecDepth 100000 in
set_option maxHeartbeats 1000000 in
set_option maxHeartbeats 4000000 in
theorem superNilWalk (W : World) (gen : Int) (hwf : (Lit.int .i64 gen).wf = true) :
    Calls Try.prog 13 #[.int .i64 gen] W fun e W' => e = .returned (.bool true) ∧ Below W.heap.size W W' := by
  have hin := i64_in hwf
  obtain ⟨G, hG⟩ : ∃ G, max gen 1 = G := ⟨_, rfl⟩
  have hG1 : 1 ≤ G := by omega
  have hG2 : G ≤ 9223372036854775807 := by omega
  have hfine : Fine ⟨pl10, G, 0, 0, 0, 1, 0, 0⟩ := fine_small _ _ _ _ _ _ _ (by unfold Hd.Ok; refine ⟨hG1, ?_⟩; show (0 ≤ (0 : Int) ∧ (0 : Int) ≤ 2147483647) ∧ 0 ≤ (0 : Int) ∧ (0 ≤ (0 : Int) ∧ (0 : Int) ≤ 2) ∧ 1 ≤ (1 : Int) ∧ 0 ≤ (0 : Int) ∧ 0 ≤ (0 : Int) ∧ (0 : Int) ≤ 281474976710656; decide) (by unfold Hd.In; refine ⟨pl10_in, ⟨by show (_ : Int) ≤ G; omega, hG2⟩, ?_⟩; simp only; decide)
  obtain ⟨m, hm⟩ : ∃ m : Dev, ((Dev.new 60 96).arm 1).act = m := ⟨_, rfl⟩
  have hsy : ((Dev.new 60 96).arm 1).sync = (m, 4) := by rw [← hm]; rfl
  have hdn : m.down = true := by rw [← hm]; rfl
  have hn : m.n = 60 := by rw [← hm]; rfl
  have hz : m.sz = 96 := by rw [← hm]; rfl
  have hac : m.acts ≤ 1000000000 := by rw [← hm]; show 0 + 1 ≤ _; decide
  have hld : hload m = (hd0, 4) := by unfold hload; rw [if_pos hdn]
  have hrow := down_row hdn
  have cN : Calls Try.prog 15 #[.int .i64 60, .int .i64 96] W _ := newDev_any 60 96 (by decide) W
  have cO := fun w => of10_any ⟨pl10, G, 0, 0, 0, 1, 0, 0⟩ w
  have cX := fun w => save_nil ⟨pl10, G, 0, 0, 0, 1, 0, 0⟩ w
  have cY := fun w D g (hd : DV w D g m) => hsave_any w D g m hd hac ⟨pl10, G, 0, 0, 0, 1, 0, 0⟩ hfine.seed hG2
  have cY2 : ∀ w D g, DV w D g m → Calls Try.prog 68 #[.pointer (some ⟨g, 0, none⟩), Hd.v ⟨pl10, G, 0, 0, 0, 1, 0, 0⟩] w fun e w' => e = .returned (.int .i64 4) ∧ ∃ D', DV w' D' g m ∧ Grew w D D' ∧ Keep D w w' := fun w D g hd => by
    have h1 := cY w D g hd
    rw [down_save hdn hd.1 hfine hn hz] at h1
    exact h1
  have cL := fun w D g (hd : DV w D g m) => load_any w D g m hd hac
  have cH := fun w D g (hd : DV w D g m) => heads_any w D g m hd hac
  rw [hld] at cL
  rw [hrow] at cH
  simp only [Hd.v, Hd.cells, pl10, hd0, Int.ofNat_eq_natCast, Int.natCast_zero, show ((0 : Nat) : Int) = 0 from rfl] at cO cX cY2 cL
  have cZ := load_nil W
  simp only [Hd.v, Hd.cells, hd0, show ((0 : Nat) : Int) = 0 from rfl] at cZ
  have CO := Lib.hid cO
  have CX := Lib.hid cX
  have CY := Lib.hid cY2
  have CL := Lib.hid cL
  have CH := Lib.hid cH
  have HG := Lib.hid hG
  have HSY := Lib.hid hsy
  clear hwf cO cX cY cY2 cL cH hG hsy hm hdn hn hz hac hld hrow hfine
  go_enter Try.func13, Try.ntmps13
  go_wp2_with fail
  refine cZ.mono ?_
  rintro e w1 ⟨rfl, k1⟩
  clear cZ cN
  have hk1 := k1.alloc (.cells #[.int .i64 0, .int .i64 0, .int .i64 0, .int .i64 0, .int .i64 0, .int .i64 0, .int .i64 0, .int .u64 0, .int .i64 0, .int .i64 0, .int .i64 0, .int .i64 0, .int .i64 0, .int .i64 0, .int .i64 0] 123)
  go_wp2_with fail
  refine (show ∀ w : World, Calls Try.prog 15 #[.int .i64 60, .int .i64 96] w _ from fun w => newDev_any 60 96 (by decide) w) _ |>.mono ?_
  rintro e w2 ⟨g, D, rfl, hD, k2, hf⟩
  have hk2 := hk1.trans k2
  have hf2 : ∀ b ∈ D, W.heap.size ≤ b := fun b hb => Nat.le_trans hk1.size (hf b hb)
  clear hk1 k2 k1 hf
  have HK2 := Lib.hid hk2
  have HF2 := Lib.hid hf2
  clear hk2 hf2
  go_wp2_with fail
  refine (arm_any _ D g _ hD 1 (by decide)).mono ?_
  rintro e w3 ⟨rfl, hD3, k3⟩
  have hk3 := HK2.out.trans' k3 (fun b hb => .inr (HF2.out b hb))
  have HK3 := Lib.hid hk3
  clear hk3 k3 hD
  go_wp2_with fail
  refine (sync_any _ D g _ hD3 (by decide)).mono ?_
  rw [HSY.out]
  rintro e w4 ⟨rfl, D4, hD4, hG4, k4⟩
  obtain ⟨hk4, hf4⟩ := dev_step HK3.out HF2.out hG4 k4
  have HK4 := Lib.hid hk4
  have HF4 := Lib.hid hf4
  clear hk4 hf4 hG4 k4 hD3 HK2 HK3 HF2
  go_wp2_with fail
  refine (CL.out _ D4 g hD4).mono ?_
  rintro e w5 ⟨rfl, k5⟩
  have hA5 := (Keep.refl [] w5).alloc (.cells #[.int .i64 0, .int .i64 0, .int .i64 0, .int .i64 0, .int .i64 0, .int .i64 0, .int .i64 0, .int .u64 0, .int .i64 0, .int .i64 0, .int .i64 0, .int .i64 0, .int .i64 0, .int .i64 0, .int .i64 0] 123)
  have HK5 := Lib.hid ((HK4.out.trans k5).trans hA5)
  have hD5 := (hD4.keep k5 (by simp)).keep hA5 (by simp)
  have HD5 := Lib.hid hD5
  clear hA5 hD5 hD4 k5 HK4
  go_wp2_with fail
  refine (small10_any _).mono ?_
  rintro e w6 ⟨rfl, k6⟩
  have HD6 := Lib.hid (HD5.out.keep k6 (by simp))
  have HK6 := Lib.hid (HK5.out.trans k6)
  clear k6 HD5 HK5
  go_wp2_with fail
  rw [HG.out]
  refine (CO.out _).mono ?_
  rintro e w7 ⟨rfl, k7⟩
  have hA7 := (Keep.refl [] w7).alloc (.cells #[.int .i64 60, .int .i64 96, .int .i64 3, .int .i64 2, .int .i64 4, .int .i64 2, .int .i64 8, .int .u64 0, .int .i64 G, .int .i64 0, .int .i64 0, .int .i64 0, .int .i64 1, .int .i64 0, .int .i64 0] 123)
  have hb7 := heap_alloc_new w7 (.cells #[.int .i64 60, .int .i64 96, .int .i64 3, .int .i64 2, .int .i64 4, .int .i64 2, .int .i64 8, .int .u64 0, .int .i64 G, .int .i64 0, .int .i64 0, .int .i64 0, .int .i64 1, .int .i64 0, .int .i64 0] 123)
  have HD7 := Lib.hid ((HD6.out.keep k7 (by simp)).keep hA7 (by simp))
  have HK7 := Lib.hid ((HK6.out.trans k7).trans hA7)
  have HB7 := Lib.hid hb7
  clear hA7 hb7 k7 HD6 HK6
  go_wp2_with (refine wpList_load_row rfl 123 (.tmp 9) rfl w7.heap.size rfl 123 _ _ _ HB7.out Try.underlying123 rfl (by kernel_rfl) ?_)
  refine (CX.out _).mono ?_
  rintro e w8 ⟨rfl, k8⟩
  have HB8 := Lib.hid (k8.blk (by simp) HB7.out)
  have HD8 := Lib.hid (HD7.out.keep k8 (by simp))
  have HK8 := Lib.hid (HK7.out.trans k8)
  clear k8 HB7 HD7 HK7
  have p0 := cell_of_row _ _ 0 _ _ _ HB8.out
  have p1 := cell_of_row _ _ 1 _ _ _ HB8.out
  have p2 := cell_of_row _ _ 2 _ _ _ HB8.out
  have p3 := cell_of_row _ _ 3 _ _ _ HB8.out
  have p4 := cell_of_row _ _ 4 _ _ _ HB8.out
  have p5 := cell_of_row _ _ 5 _ _ _ HB8.out
  have p6 := cell_of_row _ _ 6 _ _ _ HB8.out
  have p7 := cell_of_row _ _ 7 _ _ _ HB8.out
  have p8 := cell_of_row _ _ 8 _ _ _ HB8.out
  have p9 := cell_of_row _ _ 9 _ _ _ HB8.out
  have p10 := cell_of_row _ _ 10 _ _ _ HB8.out
  have p11 := cell_of_row _ _ 11 _ _ _ HB8.out
  have p12 := cell_of_row _ _ 12 _ _ _ HB8.out
  have p13 := cell_of_row _ _ 13 _ _ _ HB8.out
  have p14 := cell_of_row _ _ 14 _ _ _ HB8.out
  simp at p0 p1 p2 p3 p4 p5 p6 p7 p8 p9 p10 p11 p12 p13 p14
  go_wp2_with fail
  clear p0 p1 p2 p3 p4 p5 p6 p7 p8 p9 p10 p11 p12 p13 p14
  refine (CY.out _ D4 g HD8.out).mono ?_
  rintro e w9 ⟨rfl, D9, hD9, hG9, k9⟩
  obtain ⟨hk9, hf9⟩ := dev_step HK8.out HF4.out hG9 k9
  have HK9 := Lib.hid hk9
  have HD9 := Lib.hid hD9
  clear hk9 hf9 hG9 k9 hD9 HB8 HD8 HK8
  go_wp2_with fail
  refine (heads_nil _).mono ?_
  rintro e w10 ⟨rfl, k10⟩
  have HD10 := Lib.hid (HD9.out.keep k10 (by simp))
  have HK10 := Lib.hid (HK9.out.trans k10)
  clear k10 HD9 HK9
  go_wp2_with fail
  refine (CH.out _ D9 g HD10.out).mono ?_
  rintro e w11 ⟨v, rfl, hr, -, k11⟩
  have HK11 := Lib.hid (HK10.out.trans k11)
  obtain ⟨va, vc, rfl⟩ : ∃ a c, v = .slice a 0 c := by
    rcases hr with ⟨-, rfl⟩ | ⟨blk, cap, rfl, -⟩
    · exact ⟨_, _, rfl⟩
    · exact ⟨_, _, rfl⟩
  clear hr k11 HK10 HD10
  go_wp2_with fail
  refine (awake10_any _).mono ?_
  rintro e w12 ⟨rfl, k12⟩
  have HK12 := Lib.hid (HK11.out.trans k12)
  clear k12
  go_wp2
  go_ret
  exact ⟨rfl, HK12.out.below (Nat.le_refl _) (by simp)⟩
end Go.Proofs.Ytijljdcpajjhhaa
