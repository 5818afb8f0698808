import Derived.Test.YtijljdcpajjhhaaSuperSet
import Derived.Test.YtijljdcpajjhhaaSuperNil1
import Derived.Deep.CutRange
import Derived.RegionTactic
/-! The walk of the law SuperNewest. -/
namespace Go.Proofs.Ytijljdcpajjhhaa
open Go.RowKit Go.Shelf Sg Go.Sort Go.Proofs
attribute [local go_sem] Oper.semAt_some
set_option linter.unusedSimpArgs false
set_option linter.unusedVariables false

set_option maxRecDepth 100000 in
set_option maxHeartbeats 1000000 in
set_option maxHeartbeats 8000000 in
theorem superNewestWalk (W : World) (a0 : Int) (w0 : (Lit.int .u16 a0).wf = true) (b0 : Int) (w1 : (Lit.int .u16 b0).wf = true) (h : Hd) (hI : h.In) : Calls Try.prog 11 #[.int .u16 a0, .int .u16 b0, h.v] W fun e W' => e = .returned (.bool true) ∧ Below W.heap.size W W' := by
  obtain ⟨a, rfl, ha⟩ := u16_nat w0
  obtain ⟨b, rfl, hb⟩ := u16_nat w1
  clear w0 w1
  obtain ⟨⟨sec, size, reg, rs, lg, dep, mem, seed⟩, gen, page, stamp, hdep, log, hreg, time⟩ := h
  obtain ⟨-, -, i2, i3, i4, i5, i6, i7⟩ := hI
  simp only at i2 i3 i4 i5 i6 i7
  obtain ⟨gx, hgx⟩ : ∃ g : Int, 2 * (a : Int) + 1 = g := ⟨_, rfl⟩
  obtain ⟨gy, hgy⟩ : ∃ g : Int, 2 * (b : Int) + 2 = g := ⟨_, rfl⟩
  have hinx : Hd.In ⟨pl10, gx, page, stamp, hdep, log, hreg, time⟩ := ⟨pl10_in, ⟨by show (_ : Int) ≤ gx; omega, by show gx ≤ _; omega⟩, i2, i3, i4, i5, i6, i7⟩
  have hiny : Hd.In ⟨pl10, gy, page, stamp, hdep, log, hreg, time⟩ := ⟨pl10_in, ⟨by show (_ : Int) ≤ gy; omega, by show gy ≤ _; omega⟩, i2, i3, i4, i5, i6, i7⟩
  have hoxy : Hd.Ok ⟨pl10, gx, page, stamp, hdep, log, hreg, time⟩ → Hd.Ok ⟨pl10, gy, page, stamp, hdep, log, hreg, time⟩ := fun o => ⟨by show 1 ≤ gy; omega, o.2⟩
  have hw1 : IntKind.i64.wrap (a : Int) = (a : Int) := i64_wrap_nat (by omega)
  have hw2 : IntKind.i64.wrap (2 * (a : Int)) = 2 * (a : Int) := i64_wrap (by omega) (by omega)
  have hw3 : IntKind.i64.wrap (2 * (a : Int) + 1) = gx := by rw [i64_wrap (by omega) (by omega)]; exact hgx
  have hw4 : IntKind.i64.wrap (b : Int) = (b : Int) := i64_wrap_nat (by omega)
  have hw5 : IntKind.i64.wrap (2 * (b : Int)) = 2 * (b : Int) := i64_wrap (by omega) (by omega)
  have hw6 : IntKind.i64.wrap (2 * (b : Int) + 2) = gy := by rw [i64_wrap (by omega) (by omega)]; exact hgy
  have HG := Lib.hid (And.intro hgx (And.intro hgy (And.intro ha hb)))
  have HI := Lib.hid (And.intro hinx (And.intro hiny hoxy))
  clear i2 i3 i4 i5 i6 i7 hgx hgy ha hb hinx hiny hoxy
  have HB := Lib.hid (heap_alloc_new W (.cells #[.int .i64 sec, .int .i64 size, .int .i64 reg, .int .i64 rs, .int .i64 lg, .int .i64 dep, .int .i64 mem, .int .u64 (seed : Int), .int .i64 gen, .int .i64 page, .int .i64 stamp, .int .i64 hdep, .int .i64 log, .int .i64 hreg, .int .i64 time] 118))
  have HK := Lib.hid ((Keep.refl [] W).alloc (.cells #[.int .i64 sec, .int .i64 size, .int .i64 reg, .int .i64 rs, .int .i64 lg, .int .i64 dep, .int .i64 mem, .int .u64 (seed : Int), .int .i64 gen, .int .i64 page, .int .i64 stamp, .int .i64 hdep, .int .i64 log, .int .i64 hreg, .int .i64 time] 118))
  simp only [Hd.v, Hd.cells]
  go_enter Try.func11, Try.ntmps11
  go_wp2_with fail
  go_cut [7, 8] from 16 to 18 (fun s7 s8 wx => ∃ b7 b8 : Nat, s7 = .pointer (some ⟨b7, 0, none⟩) ∧ s8 = .pointer (some ⟨b8, 0, none⟩) ∧ Hid (b7 ≠ b8) ∧ Hid (W.heap.size ≤ b7 ∧ W.heap.size ≤ b8) ∧ Hid (wx.heap[b7]? = some (.cells #[.int .i64 sec, .int .i64 size, .int .i64 reg, .int .i64 rs, .int .i64 lg, .int .i64 dep, .int .i64 mem, .int .u64 (seed : Int), .int .i64 gen, .int .i64 page, .int .i64 stamp, .int .i64 hdep, .int .i64 log, .int .i64 hreg, .int .i64 time] 118 (0, 0))) ∧ Hid (wx.heap[b8]? = some (.cells #[.int .i64 sec, .int .i64 size, .int .i64 reg, .int .i64 rs, .int .i64 lg, .int .i64 dep, .int .i64 mem, .int .u64 (seed : Int), .int .i64 gen, .int .i64 page, .int .i64 stamp, .int .i64 hdep, .int .i64 log, .int .i64 hreg, .int .i64 time] 118 (0, 0))) ∧ Hid (Keep [] W wx))
  case first =>
   as_aux_lemma =>
    have G1 := Lib.hid ((((Keep.refl [] ((W.alloc (.cells #[.int .i64 sec, .int .i64 size, .int .i64 reg, .int .i64 rs, .int .i64 lg, .int .i64 dep, .int .i64 mem, .int .u64 (seed : Int), .int .i64 gen, .int .i64 page, .int .i64 stamp, .int .i64 hdep, .int .i64 log, .int .i64 hreg, .int .i64 time] 118)).alloc (.cells #[.int .i64 sec, .int .i64 size, .int .i64 reg, .int .i64 rs, .int .i64 lg, .int .i64 dep, .int .i64 mem, .int .u64 (seed : Int), .int .i64 gen, .int .i64 page, .int .i64 stamp, .int .i64 hdep, .int .i64 log, .int .i64 hreg, .int .i64 time] 118))).alloc (.cells #[.int .i64 sec, .int .i64 size, .int .i64 reg, .int .i64 rs, .int .i64 lg, .int .i64 dep, .int .i64 mem, .int .u64 (seed : Int), .int .i64 gen, .int .i64 page, .int .i64 stamp, .int .i64 hdep, .int .i64 log, .int .i64 hreg, .int .i64 time] 118))).blk (by simp) (heap_alloc_new (W.alloc (.cells #[.int .i64 sec, .int .i64 size, .int .i64 reg, .int .i64 rs, .int .i64 lg, .int .i64 dep, .int .i64 mem, .int .u64 (seed : Int), .int .i64 gen, .int .i64 page, .int .i64 stamp, .int .i64 hdep, .int .i64 log, .int .i64 hreg, .int .i64 time] 118)) (.cells #[.int .i64 sec, .int .i64 size, .int .i64 reg, .int .i64 rs, .int .i64 lg, .int .i64 dep, .int .i64 mem, .int .u64 (seed : Int), .int .i64 gen, .int .i64 page, .int .i64 stamp, .int .i64 hdep, .int .i64 log, .int .i64 hreg, .int .i64 time] 118)))
    have G2 := Lib.hid (heap_alloc_new ((W.alloc (.cells #[.int .i64 sec, .int .i64 size, .int .i64 reg, .int .i64 rs, .int .i64 lg, .int .i64 dep, .int .i64 mem, .int .u64 (seed : Int), .int .i64 gen, .int .i64 page, .int .i64 stamp, .int .i64 hdep, .int .i64 log, .int .i64 hreg, .int .i64 time] 118)).alloc (.cells #[.int .i64 sec, .int .i64 size, .int .i64 reg, .int .i64 rs, .int .i64 lg, .int .i64 dep, .int .i64 mem, .int .u64 (seed : Int), .int .i64 gen, .int .i64 page, .int .i64 stamp, .int .i64 hdep, .int .i64 log, .int .i64 hreg, .int .i64 time] 118)) (.cells #[.int .i64 sec, .int .i64 size, .int .i64 reg, .int .i64 rs, .int .i64 lg, .int .i64 dep, .int .i64 mem, .int .u64 (seed : Int), .int .i64 gen, .int .i64 page, .int .i64 stamp, .int .i64 hdep, .int .i64 log, .int .i64 hreg, .int .i64 time] 118))
    have GK := Lib.hid ((((Keep.refl [] W).alloc (.cells #[.int .i64 sec, .int .i64 size, .int .i64 reg, .int .i64 rs, .int .i64 lg, .int .i64 dep, .int .i64 mem, .int .u64 (seed : Int), .int .i64 gen, .int .i64 page, .int .i64 stamp, .int .i64 hdep, .int .i64 log, .int .i64 hreg, .int .i64 time] 118)).alloc (.cells #[.int .i64 sec, .int .i64 size, .int .i64 reg, .int .i64 rs, .int .i64 lg, .int .i64 dep, .int .i64 mem, .int .u64 (seed : Int), .int .i64 gen, .int .i64 page, .int .i64 stamp, .int .i64 hdep, .int .i64 log, .int .i64 hreg, .int .i64 time] 118)).alloc (.cells #[.int .i64 sec, .int .i64 size, .int .i64 reg, .int .i64 rs, .int .i64 lg, .int .i64 dep, .int .i64 mem, .int .u64 (seed : Int), .int .i64 gen, .int .i64 page, .int .i64 stamp, .int .i64 hdep, .int .i64 log, .int .i64 hreg, .int .i64 time] 118)).drew
    have s1 : (W.alloc (.cells #[.int .i64 sec, .int .i64 size, .int .i64 reg, .int .i64 rs, .int .i64 lg, .int .i64 dep, .int .i64 mem, .int .u64 (seed : Int), .int .i64 gen, .int .i64 page, .int .i64 stamp, .int .i64 hdep, .int .i64 log, .int .i64 hreg, .int .i64 time] 118)).heap.size = W.heap.size + 1 := World.size_alloc _ _
    have s2 : ((W.alloc (.cells #[.int .i64 sec, .int .i64 size, .int .i64 reg, .int .i64 rs, .int .i64 lg, .int .i64 dep, .int .i64 mem, .int .u64 (seed : Int), .int .i64 gen, .int .i64 page, .int .i64 stamp, .int .i64 hdep, .int .i64 log, .int .i64 hreg, .int .i64 time] 118)).alloc (.cells #[.int .i64 sec, .int .i64 size, .int .i64 reg, .int .i64 rs, .int .i64 lg, .int .i64 dep, .int .i64 mem, .int .u64 (seed : Int), .int .i64 gen, .int .i64 page, .int .i64 stamp, .int .i64 hdep, .int .i64 log, .int .i64 hreg, .int .i64 time] 118)).heap.size = W.heap.size + 1 + 1 := by rw [World.size_alloc, World.size_alloc]
    rw [s1] at G1
    rw [s2] at G2
    clear s1 s2
    have N1 := Lib.hid (by omega : W.heap.size + 1 ≠ W.heap.size + 1 + 1)
    have N2 := Lib.hid (by omega : W.heap.size + 1 + 1 ≠ W.heap.size + 1)
    have M1 := Lib.hid (⟨by omega, by omega⟩ : W.heap.size ≤ W.heap.size + 1 ∧ W.heap.size ≤ W.heap.size + 1 + 1)
    have M2 := Lib.hid (⟨by omega, by omega⟩ : W.heap.size ≤ W.heap.size + 1 + 1 ∧ W.heap.size ≤ W.heap.size + 1)
    clear hw1 hw2 hw3 hw4 hw5 hw6 HG HI
    go_region
    all_goals
      go_wp2_with fail
      go_meet
      case rel => first | exact ⟨_, _, rfl, rfl, N1, M1, G1, G2, GK⟩ | exact ⟨_, _, rfl, rfl, N2, M2, G2, G1, GK⟩
  case rest =>
  obtain ⟨b7, b8, rfl, rfl, hne, hge, h7, h8, hk⟩ := hcut
  go_wp2_with fail
  refine (small10_any _).mono ?_
  rintro e w1 ⟨rfl, k1⟩
  go_wp2_with fail
  refine (small10_any _).mono ?_
  rintro e w2 ⟨rfl, k2⟩
  have h72 := k2.blk (by simp) (k1.blk (by simp) h7.out)
  have h82 := k2.blk (by simp) (k1.blk (by simp) h8.out)
  have HK2 := Lib.hid ((hk.out.trans k1).trans k2)
  clear k1 k2 h7 h8 hk
  have hn := hne.out
  have hn' : ¬ b8 = b7 := fun e => hne.out e.symm
  have p0 := cell_of_row _ _ 0 _ _ _ h72
  have q0 := cell_of_row _ _ 0 _ _ _ h82
  have e0 := frozen_of_row w2 _ 0 _ _ h72
  have f0 := frozen_of_row w2 _ 0 _ _ h82
  have p1 := cell_of_row _ _ 1 _ _ _ h72
  have q1 := cell_of_row _ _ 1 _ _ _ h82
  have e1 := frozen_of_row w2 _ 1 _ _ h72
  have f1 := frozen_of_row w2 _ 1 _ _ h82
  have p2 := cell_of_row _ _ 2 _ _ _ h72
  have q2 := cell_of_row _ _ 2 _ _ _ h82
  have e2 := frozen_of_row w2 _ 2 _ _ h72
  have f2 := frozen_of_row w2 _ 2 _ _ h82
  have p3 := cell_of_row _ _ 3 _ _ _ h72
  have q3 := cell_of_row _ _ 3 _ _ _ h82
  have e3 := frozen_of_row w2 _ 3 _ _ h72
  have f3 := frozen_of_row w2 _ 3 _ _ h82
  have p4 := cell_of_row _ _ 4 _ _ _ h72
  have q4 := cell_of_row _ _ 4 _ _ _ h82
  have e4 := frozen_of_row w2 _ 4 _ _ h72
  have f4 := frozen_of_row w2 _ 4 _ _ h82
  have p5 := cell_of_row _ _ 5 _ _ _ h72
  have q5 := cell_of_row _ _ 5 _ _ _ h82
  have e5 := frozen_of_row w2 _ 5 _ _ h72
  have f5 := frozen_of_row w2 _ 5 _ _ h82
  have p6 := cell_of_row _ _ 6 _ _ _ h72
  have q6 := cell_of_row _ _ 6 _ _ _ h82
  have e6 := frozen_of_row w2 _ 6 _ _ h72
  have f6 := frozen_of_row w2 _ 6 _ _ h82
  have p7 := cell_of_row _ _ 7 _ _ _ h72
  have q7 := cell_of_row _ _ 7 _ _ _ h82
  have e7 := frozen_of_row w2 _ 7 _ _ h72
  have f7 := frozen_of_row w2 _ 7 _ _ h82
  have p8 := cell_of_row _ _ 8 _ _ _ h72
  have q8 := cell_of_row _ _ 8 _ _ _ h82
  have e8 := frozen_of_row w2 _ 8 _ _ h72
  have f8 := frozen_of_row w2 _ 8 _ _ h82
  simp at p0 q0 p1 q1 p2 q2 p3 q3 p4 q4 p5 q5 p6 q6 p7 q7 p8 q8
  have hA1 := setP_same h72 (.int .i64 60) (.int .i64 96) (.int .i64 3) (.int .i64 2) (.int .i64 4) (.int .i64 2) (.int .i64 8) (.int .u64 0)
  have hB1 : (setP w2 b7 (.int .i64 60) (.int .i64 96) (.int .i64 3) (.int .i64 2) (.int .i64 4) (.int .i64 2) (.int .i64 8) (.int .u64 0)).heap[b8]? = _ := ((setP_keep (Keep.refl [b7] w2) (.inl (by simp)) (.int .i64 60) (.int .i64 96) (.int .i64 3) (.int .i64 2) (.int .i64 4) (.int .i64 2) (.int .i64 8) (.int .u64 0)).blk (by simpa using hn') h82)
  have hB2 := setP_same hB1 (.int .i64 60) (.int .i64 96) (.int .i64 3) (.int .i64 2) (.int .i64 4) (.int .i64 2) (.int .i64 8) (.int .u64 0)
  have hA2 : (setP (setP w2 b7 (.int .i64 60) (.int .i64 96) (.int .i64 3) (.int .i64 2) (.int .i64 4) (.int .i64 2) (.int .i64 8) (.int .u64 0)) b8 (.int .i64 60) (.int .i64 96) (.int .i64 3) (.int .i64 2) (.int .i64 4) (.int .i64 2) (.int .i64 8) (.int .u64 0)).heap[b7]? = _ := ((setP_keep (Keep.refl [b8] _) (.inl (by simp)) (.int .i64 60) (.int .i64 96) (.int .i64 3) (.int .i64 2) (.int .i64 4) (.int .i64 2) (.int .i64 8) (.int .u64 0)).blk (by simpa using hn) hA1)
  have hA3 := heap_setCell_same _ b7 8 _ _ (.int .i64 gx) hA2
  simp only [List.setIfInBounds_toArray, List.set_cons_zero, List.set_cons_succ] at hA3
  have hB3 : ((setP (setP w2 b7 (.int .i64 60) (.int .i64 96) (.int .i64 3) (.int .i64 2) (.int .i64 4) (.int .i64 2) (.int .i64 8) (.int .u64 0)) b8 (.int .i64 60) (.int .i64 96) (.int .i64 3) (.int .i64 2) (.int .i64 4) (.int .i64 2) (.int .i64 8) (.int .u64 0)).setCell ⟨b7, 8, none⟩ (.int .i64 gx)).heap[b8]? = _ := (Keep.refl [b7] _).setCell (.inl (by simp)) _ |>.blk (by simpa using hn') hB2
  have hB4 := heap_setCell_same _ b8 8 _ _ (.int .i64 gy) hB3
  simp only [List.setIfInBounds_toArray, List.set_cons_zero, List.set_cons_succ] at hB4
  have hA4 : (((setP (setP w2 b7 (.int .i64 60) (.int .i64 96) (.int .i64 3) (.int .i64 2) (.int .i64 4) (.int .i64 2) (.int .i64 8) (.int .u64 0)) b8 (.int .i64 60) (.int .i64 96) (.int .i64 3) (.int .i64 2) (.int .i64 4) (.int .i64 2) (.int .i64 8) (.int .u64 0)).setCell ⟨b7, 8, none⟩ (.int .i64 gx)).setCell ⟨b8, 8, none⟩ (.int .i64 gy)).heap[b7]? = _ := (Keep.refl [b8] _).setCell (.inl (by simp)) _ |>.blk (by simpa using hn) hA3
  have hK4 : Keep [] W (((setP (setP w2 b7 (.int .i64 60) (.int .i64 96) (.int .i64 3) (.int .i64 2) (.int .i64 4) (.int .i64 2) (.int .i64 8) (.int .u64 0)) b8 (.int .i64 60) (.int .i64 96) (.int .i64 3) (.int .i64 2) (.int .i64 4) (.int .i64 2) (.int .i64 8) (.int .u64 0)).setCell ⟨b7, 8, none⟩ (.int .i64 gx)).setCell ⟨b8, 8, none⟩ (.int .i64 gy)) := ((setP_keep (setP_keep HK2.out (.inr hge.out.1) (.int .i64 60) (.int .i64 96) (.int .i64 3) (.int .i64 2) (.int .i64 4) (.int .i64 2) (.int .i64 8) (.int .u64 0)) (.inr hge.out.2) (.int .i64 60) (.int .i64 96) (.int .i64 3) (.int .i64 2) (.int .i64 4) (.int .i64 2) (.int .i64 8) (.int .u64 0)).setCell (.inr hge.out.1) _).setCell (.inr hge.out.2) _
  have HA4 := Lib.hid hA4
  have HB4 := Lib.hid hB4
  have HK4 := Lib.hid hK4
  clear h72 h82 hA1 hB1 hB2 hA2 hA3 hB3 hB4 hA4 hK4 HK2
  go_wp2_with fail
  clear p0 q0 e0 f0 p1 q1 e1 f1 p2 q2 e2 f2 p3 q3 e3 f3 p4 q4 e4 f4 p5 q5 e5 f5 p6 q6 e6 f6 p7 q7 e7 f7 p8 q8 e8 f8 hn hn' hge hne HB HK
  change Calls _ _ _ (((setP (setP w2 b7 (.int .i64 60) (.int .i64 96) (.int .i64 3) (.int .i64 2) (.int .i64 4) (.int .i64 2) (.int .i64 8) (.int .u64 0)) b8 (.int .i64 60) (.int .i64 96) (.int .i64 3) (.int .i64 2) (.int .i64 4) (.int .i64 2) (.int .i64 8) (.int .u64 0)).setCell ⟨b7, 8, none⟩ (.int .i64 gx)).setCell ⟨b8, 8, none⟩ (.int .i64 gy)) _
  generalize (((setP (setP w2 b7 (.int .i64 60) (.int .i64 96) (.int .i64 3) (.int .i64 2) (.int .i64 4) (.int .i64 2) (.int .i64 8) (.int .u64 0)) b8 (.int .i64 60) (.int .i64 96) (.int .i64 3) (.int .i64 2) (.int .i64 4) (.int .i64 2) (.int .i64 8) (.int .u64 0)).setCell ⟨b7, 8, none⟩ (.int .i64 gx)).setCell ⟨b8, 8, none⟩ (.int .i64 gy)) = w4 at HA4 HB4 HK4 ⊢
  clear hw1 hw2 hw3 hw4 hw5 hw6
  refine (show Calls Try.prog 15 #[.int .i64 60, .int .i64 96] _ _ from newDev_any 60 96 (by decide) _).mono ?_
  rintro e wA ⟨g, D, rfl, hD, kA, hf⟩
  have HA5 := Lib.hid (kA.blk (by simp) HA4.out)
  have HB5 := Lib.hid (kA.blk (by simp) HB4.out)
  have HK5 := Lib.hid (HK4.out.trans kA)
  have HD5 := Lib.hid hD
  have HF5 := Lib.hid (fun b hb => Nat.le_trans HK4.out.size (hf b hb) : ∀ b ∈ D, W.heap.size ≤ b)
  have HN5 := Lib.hid (fun b hb e => by have h1 := hf b hb; have h2 := (Array.getElem?_eq_some_iff.1 HA4.out).1; omega : ∀ b ∈ D, b ≠ b7)
  have HN6 := Lib.hid (fun b hb e => by have h1 := hf b hb; have h2 := (Array.getElem?_eq_some_iff.1 HB4.out).1; omega : ∀ b ∈ D, b ≠ b8)
  clear hD kA hf HA4 HB4 HK4
  have cOx := fun w => of10_any ⟨pl10, gx, page, stamp, hdep, log, hreg, time⟩ w
  have cOy := fun w => of10_any ⟨pl10, gy, page, stamp, hdep, log, hreg, time⟩ w
  simp only [Hd.v, Hd.cells, pl10, show ((0 : Nat) : Int) = 0 from rfl] at cOx cOy
  have COX := Lib.hid cOx
  have COY := Lib.hid cOy
  clear cOx cOy
  have c0 : (Dev.new 60 96).acts ≤ 1000000000 := by show (0 : Nat) ≤ _; decide
  by_cases hok : Hd.Ok ⟨pl10, gx, page, stamp, hdep, log, hreg, time⟩
  case neg =>
   as_aux_lemma =>
    have hcode : Hd.code ⟨pl10, gx, page, stamp, hdep, log, hreg, time⟩ = 1 := by unfold Hd.code; rw [if_pos pl10_fits, if_neg hok]
    have hsv : hsave (Dev.new 60 96) ⟨pl10, gx, page, stamp, hdep, log, hreg, time⟩ = (Dev.new 60 96, 1) := by unfold hsave; rw [if_pos (by rw [hcode]; decide), hcode]
    have cS := fun w D g (hd : DV w D g (Dev.new 60 96)) => hsave_any w D g (Dev.new 60 96) hd c0 ⟨pl10, gx, page, stamp, hdep, log, hreg, time⟩ (by show (0 : Nat) < _; decide) HI.out.1.2.1.2
    rw [hsv] at cS
    simp only [Hd.v, Hd.cells, pl10, show ((0 : Nat) : Int) = 0 from rfl] at cS
    have CS := Lib.hid cS
    clear cS hok hcode hsv
    go_wp2_with (refine wpList_load_row rfl 118 (.tmp 7) rfl b7 rfl 118 _ _ _ HA5.out Try.underlying118 rfl (by kernel_rfl) ?_)
    refine (COX.out _).mono ?_
    rintro e wB ⟨rfl, kB⟩
    go_wp2_with fail
    refine (CS.out _ D g (HD5.out.keep kB (by simp))).mono ?_
    rintro e wC ⟨rfl, D', hD', hG', kC⟩
    obtain ⟨hkC, -⟩ := dev_step (HK5.out.trans kB) HF5.out hG' kC
    have HKC := Lib.hid hkC
    clear kB hD' hG' kC hkC
    go_wp2_with fail
    refine (awake10_any _).mono ?_
    rintro e wD ⟨rfl, kD⟩
    have HKD := Lib.hid (HKC.out.trans kD)
    clear kD
    go_wp2
    go_ret
    exact ⟨rfl, HKD.out.below (Nat.le_refl _) (by simp)⟩
  have fx : Fine ⟨pl10, gx, page, stamp, hdep, log, hreg, time⟩ := fine_small _ _ _ _ _ _ _ hok HI.out.1
  have fy : Fine ⟨pl10, gy, page, stamp, hdep, log, hreg, time⟩ := fine_small _ _ _ _ _ _ _ (HI.out.2.2 hok) HI.out.2.1
  obtain ⟨t1, m1, a1, a2, a3, a4, a5, a6, a7⟩ := save_up up_new fx
  obtain ⟨t2, m2, d1, d2, d3, d4, d5, d6, d7⟩ := save_up a4 fy
  obtain ⟨t3, m3, e1, e2, e3, e4, e5, e6, e7⟩ := save_up d4 fx
  obtain ⟨hgx, hgy, hla, hlb⟩ := HG.out
  simp only at a1 d1 e1
  obtain rfl : t1 = 1 := by omega
  obtain rfl : t2 = 0 := by omega
  obtain rfl : t3 = 1 := by omega
  have hrow2 := hdRow_two d6 (by rw [d7 1 (by decide) (by decide)]; exact a6)
  have hrow3 := hdRow_two (x := ⟨pl10, gx, page, stamp, hdep, log, hreg, time⟩) (y := ⟨pl10, gy, page, stamp, hdep, log, hreg, time⟩) (by rw [e7 0 (by decide) (by decide)]; exact d6) e6
  obtain ⟨X, Y, hins, hmax, hlt⟩ : ∃ X Y : Hd, insSorted [⟨pl10, gy, page, stamp, hdep, log, hreg, time⟩, ⟨pl10, gx, page, stamp, hdep, log, hreg, time⟩] = [X, Y] ∧ max gx gy = X.gen ∧ Y.gen < X.gen := by
    unfold insSorted
    simp only
    by_cases hc : gy < gx
    · rw [if_pos hc]
      exact ⟨_, _, rfl, by simp only; omega, hc⟩
    · rw [if_neg hc]
      exact ⟨_, _, rfl, by simp only; omega, by simp only; omega⟩
  have hl2 := hload_up d4.dn (x := X) (r := [Y]) (by rw [hrow2]; exact hins)
  have hl3 := hload_up e4.dn (x := X) (r := [Y]) (by rw [hrow3]; exact hins)
  have cS1 := fun w D g hd => hsave_any w D g (Dev.new 60 96) hd c0 ⟨pl10, gx, page, stamp, hdep, log, hreg, time⟩ fx.seed HI.out.1.2.1.2
  have cS2 := fun w D g hd => hsave_any w D g m1 hd (by rw [a5]; exact (by decide : 0 + 1 ≤ 1000000000)) ⟨pl10, gy, page, stamp, hdep, log, hreg, time⟩ fy.seed HI.out.2.1.2.1.2
  have q2 : m2.acts ≤ 1000000000 := by rw [d5, a5]; exact (by decide : 0 + 1 + 1 ≤ 1000000000)
  have q3 : m3.acts ≤ 1000000000 := by rw [e5, d5, a5]; exact (by decide : 0 + 1 + 1 + 1 ≤ 1000000000)
  have cL2 := fun w D g hd => load_any w D g m2 hd q2
  have cS3 := fun w D g hd => hsave_any w D g m2 hd q2 ⟨pl10, gx, page, stamp, hdep, log, hreg, time⟩ fx.seed HI.out.1.2.1.2
  have cL3 := fun w D g hd => load_any w D g m3 hd q3
  have cH3 := fun w D g hd => heads_any w D g m3 hd q3
  rw [a3] at cS1
  rw [d3] at cS2
  rw [e3] at cS3
  rw [hl2] at cL2
  rw [hl3] at cL3
  rw [hrow3, hins] at cH3
  have CH := Lib.hid cH3
  clear cH3
  have hX8 : X.cells[8]? = some (.int .i64 X.gen) := rfl
  have hY8 : Y.cells[8]? = some (.int .i64 Y.gen) := rfl
  obtain ⟨gA, hgA⟩ : ∃ gA, X.gen = gA := ⟨_, rfl⟩
  obtain ⟨gB, hgB⟩ : ∃ gB, Y.gen = gB := ⟨_, rfl⟩
  rw [hgA] at hmax hlt hX8
  rw [hgB] at hlt hY8
  have HX8 := Lib.hid hX8
  have HY8 := Lib.hid hY8
  have hv : X.v = .agg #[.int .i64 X.p.sec, .int .i64 X.p.size, .int .i64 X.p.reg, .int .i64 X.p.rs, .int .i64 X.p.lg, .int .i64 X.p.dep, .int .i64 X.p.mem, .int .u64 (X.p.seed : Int), .int .i64 gA, .int .i64 X.page, .int .i64 X.stamp, .int .i64 X.dep, .int .i64 X.log, .int .i64 X.reg, .int .i64 X.time] := by rw [← hgA]; rfl
  rw [hv] at cL2 cL3
  simp only [Hd.v, Hd.cells, pl10, show ((0 : Nat) : Int) = 0 from rfl] at cS1 cS2 cS3
  have CS1 := Lib.hid cS1
  have CS2 := Lib.hid cS2
  have CS3 := Lib.hid cS3
  have CL2 := Lib.hid cL2
  have CL3 := Lib.hid cL3
  clear cS1 cS2 cS3 cL2 cL3 hv hgA hgB hX8 hY8 hins hl2 hl3 hrow2 hrow3 q2 q3 a1 a2 a3 a4 a5 a6 a7 d1 d2 d3 d4 d5 d6 d7 e1 e2 e3 e4 e5 e6 e7 fx fy hok hgx hgy hla hlb c0 HI HG
  go_wp2_with (refine wpList_load_row rfl 118 (.tmp 7) rfl b7 rfl 118 _ _ _ HA5.out Try.underlying118 rfl (by kernel_rfl) ?_)
  refine (COX.out _).mono ?_
  rintro e wB ⟨rfl, kB⟩
  go_wp2_with fail
  refine (CS1.out _ D g (HD5.out.keep kB (by simp))).mono ?_
  rintro e wC ⟨rfl, D6, hD6, hG6, kC⟩
  obtain ⟨hkC, hfC⟩ := dev_step (HK5.out.trans kB) HF5.out hG6 kC
  have HA6 := Lib.hid (kC.blk (fun h => HN5.out _ h rfl) (kB.blk (by simp) HA5.out))
  have HB6 := Lib.hid (kC.blk (fun h => HN6.out _ h rfl) (kB.blk (by simp) HB5.out))
  have HN7 := Lib.hid (fun b hb => (hG6.2 b hb).elim (HN5.out b) (fun h1 e => by have h2 := (Array.getElem?_eq_some_iff.1 HA5.out).1; have := kB.size; omega) : ∀ b ∈ D6, b ≠ b7)
  have HN8 := Lib.hid (fun b hb => (hG6.2 b hb).elim (HN6.out b) (fun h1 e => by have h2 := (Array.getElem?_eq_some_iff.1 HB5.out).1; have := kB.size; omega) : ∀ b ∈ D6, b ≠ b8)
  have HK6 := Lib.hid hkC
  have HF6 := Lib.hid hfC
  have HD6 := Lib.hid hD6
  clear kB hD6 hG6 kC hkC hfC HK5 HF5 HA5 HB5 HN5 HN6 HD5
  have p0 := cell_of_row _ _ 0 _ _ _ HB6.out
  have p1 := cell_of_row _ _ 1 _ _ _ HB6.out
  have p2 := cell_of_row _ _ 2 _ _ _ HB6.out
  have p3 := cell_of_row _ _ 3 _ _ _ HB6.out
  have p4 := cell_of_row _ _ 4 _ _ _ HB6.out
  have p5 := cell_of_row _ _ 5 _ _ _ HB6.out
  have p6 := cell_of_row _ _ 6 _ _ _ HB6.out
  have p7 := cell_of_row _ _ 7 _ _ _ HB6.out
  have p8 := cell_of_row _ _ 8 _ _ _ HB6.out
  have p9 := cell_of_row _ _ 9 _ _ _ HB6.out
  have p10 := cell_of_row _ _ 10 _ _ _ HB6.out
  have p11 := cell_of_row _ _ 11 _ _ _ HB6.out
  have p12 := cell_of_row _ _ 12 _ _ _ HB6.out
  have p13 := cell_of_row _ _ 13 _ _ _ HB6.out
  have p14 := cell_of_row _ _ 14 _ _ _ HB6.out
  simp at p0 p1 p2 p3 p4 p5 p6 p7 p8 p9 p10 p11 p12 p13 p14
  go_wp2_with fail
  clear p0 p1 p2 p3 p4 p5 p6 p7 p8 p9 p10 p11 p12 p13 p14
  refine (COY.out _).mono ?_
  rintro e wD ⟨rfl, kD⟩
  go_wp2_with fail
  refine (CS2.out _ D6 g (HD6.out.keep kD (by simp))).mono ?_
  rintro e wE ⟨rfl, D7, hD7, hG7, kE⟩
  obtain ⟨hkE, hfE⟩ := dev_step (HK6.out.trans kD) HF6.out hG7 kE
  have HA7 := Lib.hid (kE.blk (fun h => HN7.out _ h rfl) (kD.blk (by simp) HA6.out))
  have HB7 := Lib.hid (kE.blk (fun h => HN8.out _ h rfl) (kD.blk (by simp) HB6.out))
  have HN9 := Lib.hid (fun b hb => (hG7.2 b hb).elim (HN7.out b) (fun h1 e => by have h2 := (Array.getElem?_eq_some_iff.1 HA6.out).1; have := kD.size; omega) : ∀ b ∈ D7, b ≠ b7)
  have HN10 := Lib.hid (fun b hb => (hG7.2 b hb).elim (HN8.out b) (fun h1 e => by have h2 := (Array.getElem?_eq_some_iff.1 HB6.out).1; have := kD.size; omega) : ∀ b ∈ D7, b ≠ b8)
  have HK7 := Lib.hid hkE
  have HF7 := Lib.hid hfE
  have HD7 := Lib.hid hD7
  clear kD hD7 hG7 kE hkE hfE HK6 HF6 HA6 HB6 HN7 HN8 HD6
  go_wp2_with fail
  refine (CL2.out _ D7 g HD7.out).mono ?_
  rintro e wF ⟨rfl, kF⟩
  have hAF := (Keep.refl [] wF).alloc (.cells #[.int .i64 X.p.sec, .int .i64 X.p.size, .int .i64 X.p.reg, .int .i64 X.p.rs, .int .i64 X.p.lg, .int .i64 X.p.dep, .int .i64 X.p.mem, .int .u64 (X.p.seed : Int), .int .i64 gA, .int .i64 X.page, .int .i64 X.stamp, .int .i64 X.dep, .int .i64 X.log, .int .i64 X.reg, .int .i64 X.time] 123)
  have HX9 := Lib.hid (heap_alloc_new wF (.cells #[.int .i64 X.p.sec, .int .i64 X.p.size, .int .i64 X.p.reg, .int .i64 X.p.rs, .int .i64 X.p.lg, .int .i64 X.p.dep, .int .i64 X.p.mem, .int .u64 (X.p.seed : Int), .int .i64 gA, .int .i64 X.page, .int .i64 X.stamp, .int .i64 X.dep, .int .i64 X.log, .int .i64 X.reg, .int .i64 X.time] 123))
  have HD8 := Lib.hid ((HD7.out.keep kF (by simp)).keep hAF (by simp))
  have HA8 := Lib.hid ((kF.trans hAF).blk (by simp) HA7.out)
  have HB8 := Lib.hid ((kF.trans hAF).blk (by simp) HB7.out)
  have HK8 := Lib.hid ((HK7.out.trans kF).trans hAF)
  have HN11 := Lib.hid (fun b hb => Nat.ne_of_lt ((HD7.out.keep kF (by simp)).lt b hb) : ∀ b ∈ D7, b ≠ wF.heap.size)
  clear kF hAF HD7 HA7 HB7 HK7
  have p0 := cell_of_row _ _ 0 _ _ _ HA8.out
  have p1 := cell_of_row _ _ 1 _ _ _ HA8.out
  have p2 := cell_of_row _ _ 2 _ _ _ HA8.out
  have p3 := cell_of_row _ _ 3 _ _ _ HA8.out
  have p4 := cell_of_row _ _ 4 _ _ _ HA8.out
  have p5 := cell_of_row _ _ 5 _ _ _ HA8.out
  have p6 := cell_of_row _ _ 6 _ _ _ HA8.out
  have p7 := cell_of_row _ _ 7 _ _ _ HA8.out
  have p8 := cell_of_row _ _ 8 _ _ _ HA8.out
  have p9 := cell_of_row _ _ 9 _ _ _ HA8.out
  have p10 := cell_of_row _ _ 10 _ _ _ HA8.out
  have p11 := cell_of_row _ _ 11 _ _ _ HA8.out
  have p12 := cell_of_row _ _ 12 _ _ _ HA8.out
  have p13 := cell_of_row _ _ 13 _ _ _ HA8.out
  have p14 := cell_of_row _ _ 14 _ _ _ HA8.out
  simp at p0 p1 p2 p3 p4 p5 p6 p7 p8 p9 p10 p11 p12 p13 p14
  go_wp2_with fail
  clear p0 p1 p2 p3 p4 p5 p6 p7 p8 p9 p10 p11 p12 p13 p14
  refine (COX.out _).mono ?_
  rintro e wG ⟨rfl, kG⟩
  go_wp2_with fail
  refine (CS3.out _ D7 g (HD8.out.keep kG (by simp))).mono ?_
  rintro e wH ⟨rfl, D8, hD8, hG8, kH⟩
  obtain ⟨hkH, hfH⟩ := dev_step (HK8.out.trans kG) HF7.out hG8 kH
  have HA9 := Lib.hid (kH.blk (fun h => HN9.out _ h rfl) (kG.blk (by simp) HA8.out))
  have HB9 := Lib.hid (kH.blk (fun h => HN10.out _ h rfl) (kG.blk (by simp) HB8.out))
  have HXA := Lib.hid (kH.blk (fun h => HN11.out _ h rfl) (kG.blk (by simp) HX9.out))
  have HK9 := Lib.hid hkH
  have HD9 := Lib.hid hD8
  clear kG hD8 hG8 kH hkH hfH HK8 HF7 HA8 HB8 HX9 HN9 HN10 HN11 HD8
  go_wp2_with fail
  refine (CL3.out _ D8 g HD9.out).mono ?_
  rintro e wI ⟨rfl, kI⟩
  have hAI := (Keep.refl [] wI).alloc (.cells #[.int .i64 X.p.sec, .int .i64 X.p.size, .int .i64 X.p.reg, .int .i64 X.p.rs, .int .i64 X.p.lg, .int .i64 X.p.dep, .int .i64 X.p.mem, .int .u64 (X.p.seed : Int), .int .i64 gA, .int .i64 X.page, .int .i64 X.stamp, .int .i64 X.dep, .int .i64 X.log, .int .i64 X.reg, .int .i64 X.time] 123)
  have HYA := Lib.hid (heap_alloc_new wI (.cells #[.int .i64 X.p.sec, .int .i64 X.p.size, .int .i64 X.p.reg, .int .i64 X.p.rs, .int .i64 X.p.lg, .int .i64 X.p.dep, .int .i64 X.p.mem, .int .u64 (X.p.seed : Int), .int .i64 gA, .int .i64 X.page, .int .i64 X.stamp, .int .i64 X.dep, .int .i64 X.log, .int .i64 X.reg, .int .i64 X.time] 123))
  have HDA := Lib.hid ((HD9.out.keep kI (by simp)).keep hAI (by simp))
  have HAA := Lib.hid ((kI.trans hAI).blk (by simp) HA9.out)
  have HBA := Lib.hid ((kI.trans hAI).blk (by simp) HB9.out)
  have HXB := Lib.hid ((kI.trans hAI).blk (by simp) HXA.out)
  have HKA := Lib.hid ((HK9.out.trans kI).trans hAI)
  clear kI hAI HD9 HA9 HB9 HXA HK9
  go_wp2_with fail
  refine (CH.out _ D8 g HDA.out).mono ?_
  rintro e wJ ⟨v, rfl, hr, -, kJ⟩
  obtain ⟨blk, cap, rfl, hc0⟩ := hr.cells (i := 0) (x := X) rfl
  obtain ⟨blk', cap', hv', hc1⟩ := hr.cells (i := 1) (x := Y) rfl
  cases hv'
  have r0 := hc0 8 _ HX8.out
  have r1 := hc1 8 _ HY8.out
  simp only [Nat.one_mul, Nat.zero_mul, Nat.zero_add, Nat.reduceAdd, Nat.reduceMul] at r0 r1
  simp only [List.length_cons, List.length_nil, Nat.zero_add, Nat.reduceAdd]
  have hAB := kJ.blk (by simp) HAA.out
  have hBB := kJ.blk (by simp) HBA.out
  have hXB := kJ.blk (by simp) HXB.out
  have hYB := kJ.blk (by simp) HYA.out
  have HKB := Lib.hid (HKA.out.trans kJ)
  have HR0 := Lib.hid r0
  have HR1 := Lib.hid r1
  have HAB := Lib.hid hAB
  have HBB := Lib.hid hBB
  have HXC := Lib.hid hXB
  have HYB := Lib.hid hYB
  clear hr hc0 hc1 kJ r0 r1 hAB hBB hXB hYB HAA HBA HXB HYA HKA HDA
  as_aux_lemma =>
    go_wp2_with fail
    refine wp_region_his [] [42] (fun _ => 0) (by kernel_rfl) (by kernel_rfl) ?_
    intro wK hkK hh
    clear hh
    have x8b := fun w' (h' : Keep [] wK w') => cell_of_row w' _ 8 _ _ _ ((hkK.trans h').blk (by simp) HAB.out)
    have y8b := fun w' (h' : Keep [] wK w') => cell_of_row w' _ 8 _ _ _ ((hkK.trans h').blk (by simp) HBB.out)
    have r0 := fun w' (h' : Keep [] wK w') => (hkK.trans h').cell (by simp) HR0.out
    have r1 := fun w' (h' : Keep [] wK w') => (hkK.trans h').cell (by simp) HR1.out
    have x0 := fun w' (h' : Keep [] wK w') => cell_of_row w' _ 0 _ _ _ ((hkK.trans h').blk (by simp) HXC.out)
    have y0 := fun w' (h' : Keep [] wK w') => cell_of_row w' _ 0 _ _ _ ((hkK.trans h').blk (by simp) HYB.out)
    have x1 := fun w' (h' : Keep [] wK w') => cell_of_row w' _ 1 _ _ _ ((hkK.trans h').blk (by simp) HXC.out)
    have y1 := fun w' (h' : Keep [] wK w') => cell_of_row w' _ 1 _ _ _ ((hkK.trans h').blk (by simp) HYB.out)
    have x2 := fun w' (h' : Keep [] wK w') => cell_of_row w' _ 2 _ _ _ ((hkK.trans h').blk (by simp) HXC.out)
    have y2 := fun w' (h' : Keep [] wK w') => cell_of_row w' _ 2 _ _ _ ((hkK.trans h').blk (by simp) HYB.out)
    have x3 := fun w' (h' : Keep [] wK w') => cell_of_row w' _ 3 _ _ _ ((hkK.trans h').blk (by simp) HXC.out)
    have y3 := fun w' (h' : Keep [] wK w') => cell_of_row w' _ 3 _ _ _ ((hkK.trans h').blk (by simp) HYB.out)
    have x4 := fun w' (h' : Keep [] wK w') => cell_of_row w' _ 4 _ _ _ ((hkK.trans h').blk (by simp) HXC.out)
    have y4 := fun w' (h' : Keep [] wK w') => cell_of_row w' _ 4 _ _ _ ((hkK.trans h').blk (by simp) HYB.out)
    have x5 := fun w' (h' : Keep [] wK w') => cell_of_row w' _ 5 _ _ _ ((hkK.trans h').blk (by simp) HXC.out)
    have y5 := fun w' (h' : Keep [] wK w') => cell_of_row w' _ 5 _ _ _ ((hkK.trans h').blk (by simp) HYB.out)
    have x6 := fun w' (h' : Keep [] wK w') => cell_of_row w' _ 6 _ _ _ ((hkK.trans h').blk (by simp) HXC.out)
    have y6 := fun w' (h' : Keep [] wK w') => cell_of_row w' _ 6 _ _ _ ((hkK.trans h').blk (by simp) HYB.out)
    have x7 := fun w' (h' : Keep [] wK w') => cell_of_row w' _ 7 _ _ _ ((hkK.trans h').blk (by simp) HXC.out)
    have y7 := fun w' (h' : Keep [] wK w') => cell_of_row w' _ 7 _ _ _ ((hkK.trans h').blk (by simp) HYB.out)
    have x8 := fun w' (h' : Keep [] wK w') => cell_of_row w' _ 8 _ _ _ ((hkK.trans h').blk (by simp) HXC.out)
    have y8 := fun w' (h' : Keep [] wK w') => cell_of_row w' _ 8 _ _ _ ((hkK.trans h').blk (by simp) HYB.out)
    have x9 := fun w' (h' : Keep [] wK w') => cell_of_row w' _ 9 _ _ _ ((hkK.trans h').blk (by simp) HXC.out)
    have y9 := fun w' (h' : Keep [] wK w') => cell_of_row w' _ 9 _ _ _ ((hkK.trans h').blk (by simp) HYB.out)
    have x10 := fun w' (h' : Keep [] wK w') => cell_of_row w' _ 10 _ _ _ ((hkK.trans h').blk (by simp) HXC.out)
    have y10 := fun w' (h' : Keep [] wK w') => cell_of_row w' _ 10 _ _ _ ((hkK.trans h').blk (by simp) HYB.out)
    have x11 := fun w' (h' : Keep [] wK w') => cell_of_row w' _ 11 _ _ _ ((hkK.trans h').blk (by simp) HXC.out)
    have y11 := fun w' (h' : Keep [] wK w') => cell_of_row w' _ 11 _ _ _ ((hkK.trans h').blk (by simp) HYB.out)
    have x12 := fun w' (h' : Keep [] wK w') => cell_of_row w' _ 12 _ _ _ ((hkK.trans h').blk (by simp) HXC.out)
    have y12 := fun w' (h' : Keep [] wK w') => cell_of_row w' _ 12 _ _ _ ((hkK.trans h').blk (by simp) HYB.out)
    have x13 := fun w' (h' : Keep [] wK w') => cell_of_row w' _ 13 _ _ _ ((hkK.trans h').blk (by simp) HXC.out)
    have y13 := fun w' (h' : Keep [] wK w') => cell_of_row w' _ 13 _ _ _ ((hkK.trans h').blk (by simp) HYB.out)
    have x14 := fun w' (h' : Keep [] wK w') => cell_of_row w' _ 14 _ _ _ ((hkK.trans h').blk (by simp) HXC.out)
    have y14 := fun w' (h' : Keep [] wK w') => cell_of_row w' _ 14 _ _ _ ((hkK.trans h').blk (by simp) HYB.out)
    simp at x8b y8b x0 y0 x1 y1 x2 y2 x3 y3 x4 y4 x5 y5 x6 y6 x7 y7 x8 y8 x9 y9 x10 y10 x11 y11 x12 y12 x13 y13 x14 y14
    have HKC := Lib.hid (HKB.out.trans hkK)
    clear hkK
    (repeat (first | (refine his_q rfl rfl (fun K hK => ?_); apply Exists.intro; refine ⟨fun w' hC => ?_, ?_⟩; ((try simp [Sg.upd] at hC); go_simp <;> rfl); go_simp; refine hK _ _ ?_; clear hK K) | (refine his_s rfl (fun K hK => ?_); go_simp; refine hK _ _ ?_; clear hK K)))
    (refine his_l rfl rfl (fun K hK => ?_); go_simp)
    refine (awake10_any _).mono ?_
    rintro x wL ⟨rfl, kL⟩
    refine hK _ _ kL ?_
    clear hK K
    (repeat (first | (refine his_q rfl rfl (fun K hK => ?_); apply Exists.intro; refine ⟨fun w' hC => ?_, ?_⟩; ((try simp [Sg.upd] at hC); go_simp <;> rfl); go_simp; refine hK _ _ ?_; clear hK K) | (refine his_s rfl (fun K hK => ?_); go_simp; refine hK _ _ ?_; clear hK K)))
    refine his_nil ?_
    clear x8b y8b r0 r1 x0 y0 x1 y1 x2 y2 x3 y3 x4 y4 x5 y5 x6 y6 x7 y7 x8 y8 x9 y9 x10 y10 x11 y11 x12 y12 x13 y13 x14 y14
    have HKD := Lib.hid (HKC.out.trans kL)
    go_wp2
    go_ret
    exact ⟨rfl, HKD.out.below (Nat.le_refl _) (by simp)⟩
end Go.Proofs.Ytijljdcpajjhhaa
