import Derived.Test.YtijljdcpajjhhaaSuperRef2
import Derived.Test.YtijljdcpajjhhaaFloat
import Derived.Deep.CutRange
/-! The walk of the law SuperPacks. -/
namespace Go.Proofs.Ytijljdcpajjhhaa
open Go.RowKit Go.Shelf Sg Go.Sort Go.Proofs
attribute [local go_sem] Oper.semAt_some
set_option linter.unusedSimpArgs false
set_option linter.unusedVariables false

set_option maxRecDepth 100000 in
set_option maxHeartbeats 1000000 in
set_option maxHeartbeats 8000000 in
theorem superPacksWalk (W : World) (h : Hd) (hI : h.In) (v1 : Value) (l : List UInt8) (b1 : Bytes W v1 l) : Calls Try.prog 9 #[h.v, v1] W fun e W' => e = .returned (.bool true) ∧ Below W.heap.size W W' := by
  have hs : h.p.seed < 18446744073709551616 := hI.1.2.2.2.2.2.2.2
  obtain ⟨ao, cap, rfl, hlc, hm, hcap⟩ := b1.form
  by_cases hl : 200 < l.length
  · have hl' : (200 : Int) < (l.length : Int) := by omega
    obtain ⟨⟨sec, size, reg, rs, lg, dep, mem, seed⟩, gen, page, stamp, hdep, log, hreg, time⟩ := h
    simp only [Hd.v, Hd.cells] at *
    go_enter Try.func9, Try.ntmps9
    go_wp2
    go_ret
    exact ⟨rfl, ((Keep.refl [] W).alloc _).below (Nat.le_refl _) (by simp)⟩
  have hl' : ¬ (200 : Int) < (l.length : Int) := by omega
  have cO := fun w => of10_any h w
  have cP := fun w => hpack_any h hs w
  have cQ := fun w => refhPack_any h hs w
  obtain ⟨R, hR⟩ : ∃ R : Hd, (if Un63 h.gen l then of63 h.gen l else hd0) = R := ⟨_, rfl⟩
  obtain ⟨kd, hkd⟩ : ∃ kd : Int, (if Un63 h.gen l then (0 : Int) else 5) = kd := ⟨_, rfl⟩
  have cU : ∀ x w, Bytes w x l → Calls Try.prog 64 #[.int .i64 h.gen, x] w fun e w' => e = .returned (.tuple #[R.v, .int .i64 kd]) ∧ Keep [] w w' := fun x w hx => by
    refine (hunpack_any h.gen x l w hx).mono ?_
    rintro e w' ⟨rfl, k⟩
    refine ⟨?_, k⟩
    rw [← hR, ← hkd]
    by_cases hu : Un63 h.gen l <;> simp [hu]
  have cV : ∀ x w, Bytes w x l → Calls Try.prog 65 #[.int .i64 h.gen, x] w fun e w' => e = .returned (.tuple #[R.v, .int .i64 kd]) ∧ Keep [] w w' := fun x w hx => by
    refine (refhUnpack_any h.gen x l w hx).mono ?_
    rintro e w' ⟨rfl, k⟩
    refine ⟨?_, k⟩
    rw [← hR, ← hkd]
    by_cases hu : Un63 h.gen l <;> simp [hu]
  have cR := fun w => of10_any R w
  obtain ⟨PK, hPK⟩ : ∃ PK, (if h.code = 0 then h.pack else []) = PK := ⟨_, rfl⟩
  have hpl : PK.length ≤ 63 := by
    rw [← hPK]
    split
    · rw [h.pack_len]; omega
    · simp
  rw [hPK] at cP cQ
  obtain ⟨cd, hcd⟩ : ∃ cd, h.code = cd := ⟨_, rfl⟩
  rw [hcd] at cP cQ
  clear hcd hPK hR hkd hI hs
  obtain ⟨⟨sec, size, reg, rs, lg, dep, mem, seed⟩, gen, page, stamp, hdep, log, hreg, time⟩ := h
  obtain ⟨⟨sec', size', reg', rs', lg', dep', mem', seed'⟩, gen', page', stamp', hdep', log', hreg', time'⟩ := R
  simp only [Hd.v, Hd.cells] at *
  have hb := fun w' (h : Keep [] W w') => b1.keep h (by simp)
  have CO := Lib.hid cO
  have CP := Lib.hid cP
  have CQ := Lib.hid cQ
  have CU := Lib.hid cU
  have CV := Lib.hid cV
  have CR := Lib.hid cR
  have HPL := Lib.hid hpl
  have HB := Lib.hid hb
  have hA := heap_alloc_new W (.cells #[.int .i64 sec, .int .i64 size, .int .i64 reg, .int .i64 rs, .int .i64 lg, .int .i64 dep, .int .i64 mem, .int .u64 (seed : Int), .int .i64 gen, .int .i64 page, .int .i64 stamp, .int .i64 hdep, .int .i64 log, .int .i64 hreg, .int .i64 time] 118)
  have HA := Lib.hid hA
  have HK := Lib.hid ((Keep.refl [] W).alloc (.cells #[.int .i64 sec, .int .i64 size, .int .i64 reg, .int .i64 rs, .int .i64 lg, .int .i64 dep, .int .i64 mem, .int .u64 (seed : Int), .int .i64 gen, .int .i64 page, .int .i64 stamp, .int .i64 hdep, .int .i64 log, .int .i64 hreg, .int .i64 time] 118))
  clear cO cP cQ cU cV cR hpl hb hA b1
  go_enter Try.func9, Try.ntmps9
  go_wp2_with (refine wpList_load_row rfl 118 (.tmp 2) rfl W.heap.size rfl 118 _ _ _ HA.out Try.underlying118 rfl (by kernel_rfl) ?_)
  refine (CO.out _).mono ?_
  rintro e w2 ⟨rfl, k2⟩
  go_wp2_with fail
  refine (CP.out _).mono ?_
  rintro e w3 ⟨v3, rfl, o3, k3⟩
  have HK3 := Lib.hid ((HK.out.trans k2).trans k3)
  have HA3 := Lib.hid (k3.blk (by simp) (k2.blk (by simp) HA.out))
  have HO3 := Lib.hid (o3.bytes (by have := HPL.out; omega))
  clear k2 k3 o3 HK HA
  go_wp2_with (refine wpList_load_row rfl 118 (.tmp 2) rfl W.heap.size rfl 118 _ _ _ HA3.out Try.underlying118 rfl (by kernel_rfl) ?_)
  refine (CQ.out _).mono ?_
  rintro e w4 ⟨v4, rfl, o4, k4⟩
  have HK4 := Lib.hid (HK3.out.trans k4)
  have HA4 := Lib.hid (k4.blk (by simp) HA3.out)
  have HO3' := Lib.hid (HO3.out.keep k4 (by simp))
  have HO4 := Lib.hid (o4.bytes (by have := HPL.out; omega))
  clear k4 o4 HK3 HA3 HO3
  go_wp2_with fail
  go_cut [9, 10] from 27 to 36 (fun s9 s10 wx => ∃ blk : Nat, s9 = .pointer (some ⟨blk, 0, none⟩) ∧ s10 = .int .i64 kd ∧ Hid (wx.heap[blk]? = some (.cells #[.int .i64 sec', .int .i64 size', .int .i64 reg', .int .i64 rs', .int .i64 lg', .int .i64 dep', .int .i64 mem', .int .u64 (seed' : Int), .int .i64 gen', .int .i64 page', .int .i64 stamp', .int .i64 hdep', .int .i64 log', .int .i64 hreg', .int .i64 time'] 123 (0, 0))) ∧ Hid (Keep [] w4 wx))
  case first =>
    refine wp_region_flo (Since w4) (Since.tr w4) (Since.rf w4) 9 _ [2, 4, 5, 10] (fun _ => 0) (by kernel_rfl) rfl (by kernel_rfl) ?_
    intro w5 hk5 hh5
    have q8 := fun w' (h' : Since w4 w5 w') => cell_of_row w' _ 8 _ _ _ ((h' hk5).blk (by simp) HA4.out)
    simp at q8
    have hs5 : w4.heap.size ≤ w5.heap.size := hk5.size
    clear hh5
    (repeat (first | (refine flo_q (by kernel_rfl) (by kernel_rfl) (by kernel_rfl) rfl (fun K hK => ?_); apply Exists.intro; refine ⟨fun w' hC => ?_, ?_⟩; ((try simp [Sg.upd] at hC); go_simp <;> rfl); go_simp; refine hK _ _ ?_; clear hK K) | (refine flo_s (by kernel_rfl) (by kernel_rfl) rfl (fun K hK => ?_); go_simp; refine hK _ _ ?_; clear hK K) | refine flo_skip rfl ?_))
    refine flo_two (by kernel_rfl) (by kernel_rfl) (by kernel_rfl) (by kernel_rfl) rfl rfl (fun K hK => ?_) (fun K hK => ?_)
    · skip
      go_simp
      have hA6 := (Keep.refl [] w5).alloc (.cells #[.int .i64 0, .int .i64 0, .int .i64 0, .int .i64 0, .int .i64 0, .int .i64 0, .int .i64 0, .int .u64 0, .int .i64 0, .int .i64 0, .int .i64 0, .int .i64 0, .int .i64 0, .int .i64 0, .int .i64 0] 123)
      have hX6 := heap_alloc_new w5 (.cells #[.int .i64 0, .int .i64 0, .int .i64 0, .int .i64 0, .int .i64 0, .int .i64 0, .int .i64 0, .int .u64 0, .int .i64 0, .int .i64 0, .int .i64 0, .int .i64 0, .int .i64 0, .int .i64 0, .int .i64 0] 123)
      refine hK _ _ (fun x => x.trans hA6) ?_
      clear hK K
      have hS6 := hk5.trans hA6
      have hlt6 : w4.heap.size ≤ w5.heap.size := hk5.size
      generalize w5.alloc (.cells #[.int .i64 0, .int .i64 0, .int .i64 0, .int .i64 0, .int .i64 0, .int .i64 0, .int .i64 0, .int .u64 0, .int .i64 0, .int .i64 0, .int .i64 0, .int .i64 0, .int .i64 0, .int .i64 0, .int .i64 0] 123) = w6 at *
      refine flo_l (by kernel_rfl) (by kernel_rfl) rfl (fun K hK => ?_)
      go_simp
      have hA7 := (Keep.refl [] w6).alloc (.cells #[] 5)
      have ho7 := OwnB.empty w6 w6.heap.size 5 (Nat.le_refl _)
      refine hK _ _ (fun x => x.trans hA7) ?_
      clear hK K
      have hS7 := hS6.trans hA7
      have hX7 := hA7.blk (by simp) hX6
      have hsz7 : w6.heap.size ≤ (w6.alloc (.cells #[] 5)).heap.size := hA7.size
      generalize w6.alloc (.cells #[] 5) = w7 at *
      have hge7 : w5.heap.size ≤ w6.heap.size := by have := (Array.getElem?_eq_some_iff.1 hX6).1; omega
      have hne7 : ¬ w5.heap.size = w6.heap.size := by have := (Array.getElem?_eq_some_iff.1 hX6).1; omega
      (repeat (first | (refine flo_q (by kernel_rfl) (by kernel_rfl) (by kernel_rfl) rfl (fun K hK => ?_); apply Exists.intro; refine ⟨fun w' hC => ?_, ?_⟩; ((try simp [Sg.upd] at hC); go_simp <;> rfl); go_simp; refine hK _ _ ?_; clear hK K) | (refine flo_s (by kernel_rfl) (by kernel_rfl) rfl (fun K hK => ?_); go_simp; refine hK _ _ ?_; clear hK K) | refine flo_skip rfl ?_))
      refine flo_l (by kernel_rfl) (by kernel_rfl) rfl (fun K hK => ?_)
      obtain ⟨v8, w8, hrun8, ho8, hk8, -⟩ := run_append_bytes (P := Try.prog) w6.heap.size (t := 30) (ty := 30) (e := 5) Try.underlying30 (by kernel_rfl) (w := w7) (v := .slice (some ⟨w6.heap.size, 0, none⟩) 0 0) (src := .slice ao l.length cap) ho7 (HB.out _ (HK4.out.trans hS7)) (by simp; omega) (Nat.le_trans hsz7 (Keep.refl [] w7).size)
      have hS8 : Keep [] w4 w8 := hS7.trans' hk8 (by intro b hb; simp [Value.ownBlock] at hb; subst hb; exact .inr (Nat.le_trans hlt6 hge7))
      have hX8 := hk8.blk (by simp [Value.ownBlock]; exact (by exact hne7)) hX7
      have hG8 : Since w4 w7 w8 := fun _ => hS8
      refine loudly_append_run (.tmp 30) (.tmp 31) 30 rfl (v := .slice (some ⟨w6.heap.size, 0, none⟩) 0 0) (src := .slice ao l.length cap) (w' := w8) rfl rfl hrun8 ?_
      refine hK _ _ hG8 ?_
      clear hK K hG8 hrun8 hk8
      refine flo_l (by kernel_rfl) (by kernel_rfl) rfl (fun K hK => ?_)
      go_simp
      refine (CU.out _ _ (ho8.bytes (by simp; omega))).mono ?_
      rintro x w9 ⟨rfl, k9⟩
      refine hK _ _ (fun x => x.trans k9) ?_
      clear hK K
      have hS9 := hS8.trans k9
      have hX9 := k9.blk (by simp) hX8
      (repeat (first | (refine flo_q (by kernel_rfl) (by kernel_rfl) (by kernel_rfl) rfl (fun K hK => ?_); apply Exists.intro; refine ⟨fun w' hC => ?_, ?_⟩; ((try simp [Sg.upd] at hC); go_simp <;> rfl); go_simp; refine hK _ _ ?_; clear hK K) | (refine flo_s (by kernel_rfl) (by kernel_rfl) rfl (fun K hK => ?_); go_simp; refine hK _ _ ?_; clear hK K) | refine flo_skip rfl ?_))
      refine flo_l (by kernel_rfl) (by kernel_rfl) rfl (fun K hK => ?_)
      refine loudly_store_row 123 (.tmp 9) (.tmp 34) rfl w5.heap.size #[.int .i64 sec', .int .i64 size', .int .i64 reg', .int .i64 rs', .int .i64 lg', .int .i64 dep', .int .i64 mem', .int .u64 (seed' : Int), .int .i64 gen', .int .i64 page', .int .i64 stamp', .int .i64 hdep', .int .i64 log', .int .i64 hreg', .int .i64 time'] rfl rfl 123 _ hX9 (by kernel_rfl) (by rfl) (by kernel_rfl) ?_
      refine hK _ _ (fun x => Keep.setRow x (g := w5.heap.size) (.inr hlt6) #[.int .i64 sec', .int .i64 size', .int .i64 reg', .int .i64 rs', .int .i64 lg', .int .i64 dep', .int .i64 mem', .int .u64 (seed' : Int), .int .i64 gen', .int .i64 page', .int .i64 stamp', .int .i64 hdep', .int .i64 log', .int .i64 hreg', .int .i64 time']) ?_
      clear hK K
      have hR10 := Lib.hid (setRow_heap _ _ _ #[.int .i64 sec', .int .i64 size', .int .i64 reg', .int .i64 rs', .int .i64 lg', .int .i64 dep', .int .i64 mem', .int .u64 (seed' : Int), .int .i64 gen', .int .i64 page', .int .i64 stamp', .int .i64 hdep', .int .i64 log', .int .i64 hreg', .int .i64 time'] _ _ hX9)
      have hS10 := Lib.hid (Keep.setRow hS9 (g := w5.heap.size) (.inr hlt6) #[.int .i64 sec', .int .i64 size', .int .i64 reg', .int .i64 rs', .int .i64 lg', .int .i64 dep', .int .i64 mem', .int .u64 (seed' : Int), .int .i64 gen', .int .i64 page', .int .i64 stamp', .int .i64 hdep', .int .i64 log', .int .i64 hreg', .int .i64 time'])
      (repeat (first | (refine flo_q (by kernel_rfl) (by kernel_rfl) (by kernel_rfl) rfl (fun K hK => ?_); apply Exists.intro; refine ⟨fun w' hC => ?_, ?_⟩; ((try simp [Sg.upd] at hC); go_simp <;> rfl); go_simp; refine hK _ _ ?_; clear hK K) | (refine flo_s (by kernel_rfl) (by kernel_rfl) rfl (fun K hK => ?_); go_simp; refine hK _ _ ?_; clear hK K) | refine flo_skip rfl ?_))
      refine flo_nil ?_
      clear q8
      go_wp2_with fail
      go_meet
      case rel => exact ⟨_, rfl, rfl, hR10.out, hS10.out⟩
    · skip
      go_simp
      have hA11 := (Keep.refl [] w5).alloc (.cells #[] 5)
      have ho11 := OwnB.empty w5 w5.heap.size 5 (Nat.le_refl _)
      refine hK _ _ (fun x => x.trans hA11) ?_
      clear hK K
      have hS11 := hk5.trans hA11
      have hz11 : Hid ((w5.alloc (.cells #[] 5)).heap.size = w5.heap.size + 1) := Lib.hid (World.size_alloc _ _)
      have hsz11 : w5.heap.size ≤ (w5.alloc (.cells #[] 5)).heap.size := hA11.size
      generalize w5.alloc (.cells #[] 5) = w11 at *
      (repeat (first | (refine flo_q (by kernel_rfl) (by kernel_rfl) (by kernel_rfl) rfl (fun K hK => ?_); apply Exists.intro; refine ⟨fun w' hC => ?_, ?_⟩; ((try simp [Sg.upd] at hC); go_simp <;> rfl); go_simp; refine hK _ _ ?_; clear hK K) | (refine flo_s (by kernel_rfl) (by kernel_rfl) rfl (fun K hK => ?_); go_simp; refine hK _ _ ?_; clear hK K) | refine flo_skip rfl ?_))
      refine flo_two (by kernel_rfl) (by kernel_rfl) (by kernel_rfl) (by kernel_rfl) rfl rfl (fun K hK => ?_) (fun K hK => ?_)
      · skip
        go_simp
        have hA12 := (Keep.refl [] w11).alloc (.cells #[.int .i64 0, .int .i64 0, .int .i64 0, .int .i64 0, .int .i64 0, .int .i64 0, .int .i64 0, .int .u64 0, .int .i64 0, .int .i64 0, .int .i64 0, .int .i64 0, .int .i64 0, .int .i64 0, .int .i64 0] 123)
        have hX12 := heap_alloc_new w11 (.cells #[.int .i64 0, .int .i64 0, .int .i64 0, .int .i64 0, .int .i64 0, .int .i64 0, .int .i64 0, .int .u64 0, .int .i64 0, .int .i64 0, .int .i64 0, .int .i64 0, .int .i64 0, .int .i64 0, .int .i64 0] 123)
        refine hK _ _ (fun x => x.trans hA12) ?_
        clear hK K
        have hS12 := hS11.trans hA12
        have hlt12 : w4.heap.size ≤ w11.heap.size := hS11.size
        have ho12 := ho11.keep hA12 (by simp)
        generalize w11.alloc (.cells #[.int .i64 0, .int .i64 0, .int .i64 0, .int .i64 0, .int .i64 0, .int .i64 0, .int .i64 0, .int .u64 0, .int .i64 0, .int .i64 0, .int .i64 0, .int .i64 0, .int .i64 0, .int .i64 0, .int .i64 0] 123) = w12 at *
        have hne12 : ¬ w11.heap.size = w5.heap.size := by have := hlt12; have := hsz11; have h := hz11.out; omega
        refine flo_l (by kernel_rfl) (by kernel_rfl) rfl (fun K hK => ?_)
        obtain ⟨v13, w13, hrun13, ho13, hk13, -⟩ := run_append_bytes (P := Try.prog) w5.heap.size (t := 30) (ty := 30) (e := 5) Try.underlying30 (by kernel_rfl) (w := w12) (v := .slice (some ⟨w5.heap.size, 0, none⟩) 0 0) (src := .slice ao l.length cap) ho12 (HB.out _ (HK4.out.trans hS12)) (by simp; omega) (Nat.le_trans (by have := (Array.getElem?_eq_some_iff.1 hX12).1; omega) (Keep.refl [] w12).size)
        have hS13 : Keep [] w4 w13 := hS12.trans' hk13 (by intro b hb; simp [Value.ownBlock] at hb; subst hb; exact .inr hs5)
        have hX13 := hk13.blk (by simp [Value.ownBlock]; exact (by exact hne12)) hX12
        have hG13 : Since w4 w12 w13 := fun _ => hS13
        refine loudly_append_run (.tmp 30) (.tmp 31) 30 rfl (v := .slice (some ⟨w5.heap.size, 0, none⟩) 0 0) (src := .slice ao l.length cap) (w' := w13) rfl rfl hrun13 ?_
        refine hK _ _ hG13 ?_
        clear hK K hG13 hrun13 hk13
        refine flo_l (by kernel_rfl) (by kernel_rfl) rfl (fun K hK => ?_)
        go_simp
        refine (CU.out _ _ (ho13.bytes (by simp; omega))).mono ?_
        rintro x w14 ⟨rfl, k14⟩
        refine hK _ _ (fun x => x.trans k14) ?_
        clear hK K
        have hS14 := hS13.trans k14
        have hX14 := k14.blk (by simp) hX13
        (repeat (first | (refine flo_q (by kernel_rfl) (by kernel_rfl) (by kernel_rfl) rfl (fun K hK => ?_); apply Exists.intro; refine ⟨fun w' hC => ?_, ?_⟩; ((try simp [Sg.upd] at hC); go_simp <;> rfl); go_simp; refine hK _ _ ?_; clear hK K) | (refine flo_s (by kernel_rfl) (by kernel_rfl) rfl (fun K hK => ?_); go_simp; refine hK _ _ ?_; clear hK K) | refine flo_skip rfl ?_))
        refine flo_l (by kernel_rfl) (by kernel_rfl) rfl (fun K hK => ?_)
        refine loudly_store_row 123 (.tmp 9) (.tmp 34) rfl w11.heap.size #[.int .i64 sec', .int .i64 size', .int .i64 reg', .int .i64 rs', .int .i64 lg', .int .i64 dep', .int .i64 mem', .int .u64 (seed' : Int), .int .i64 gen', .int .i64 page', .int .i64 stamp', .int .i64 hdep', .int .i64 log', .int .i64 hreg', .int .i64 time'] rfl rfl 123 _ hX14 (by kernel_rfl) (by rfl) (by kernel_rfl) ?_
        refine hK _ _ (fun x => Keep.setRow x (g := w11.heap.size) (.inr hlt12) #[.int .i64 sec', .int .i64 size', .int .i64 reg', .int .i64 rs', .int .i64 lg', .int .i64 dep', .int .i64 mem', .int .u64 (seed' : Int), .int .i64 gen', .int .i64 page', .int .i64 stamp', .int .i64 hdep', .int .i64 log', .int .i64 hreg', .int .i64 time']) ?_
        clear hK K
        have hR15 := Lib.hid (setRow_heap _ _ _ #[.int .i64 sec', .int .i64 size', .int .i64 reg', .int .i64 rs', .int .i64 lg', .int .i64 dep', .int .i64 mem', .int .u64 (seed' : Int), .int .i64 gen', .int .i64 page', .int .i64 stamp', .int .i64 hdep', .int .i64 log', .int .i64 hreg', .int .i64 time'] _ _ hX14)
        have hS15 := Lib.hid (Keep.setRow hS14 (g := w11.heap.size) (.inr hlt12) #[.int .i64 sec', .int .i64 size', .int .i64 reg', .int .i64 rs', .int .i64 lg', .int .i64 dep', .int .i64 mem', .int .u64 (seed' : Int), .int .i64 gen', .int .i64 page', .int .i64 stamp', .int .i64 hdep', .int .i64 log', .int .i64 hreg', .int .i64 time'])
        (repeat (first | (refine flo_q (by kernel_rfl) (by kernel_rfl) (by kernel_rfl) rfl (fun K hK => ?_); apply Exists.intro; refine ⟨fun w' hC => ?_, ?_⟩; ((try simp [Sg.upd] at hC); go_simp <;> rfl); go_simp; refine hK _ _ ?_; clear hK K) | (refine flo_s (by kernel_rfl) (by kernel_rfl) rfl (fun K hK => ?_); go_simp; refine hK _ _ ?_; clear hK K) | refine flo_skip rfl ?_))
        refine flo_nil ?_
        clear q8
        go_wp2_with fail
        go_meet
        case rel => exact ⟨_, rfl, rfl, hR15.out, hS15.out⟩
      · skip
        obtain ⟨v16, w16, hrun16, ho16, hk16, -⟩ := run_append_bytes (P := Try.prog) w5.heap.size (t := 30) (ty := 30) (e := 5) Try.underlying30 (by kernel_rfl) (w := w11) (v := .slice (some ⟨w5.heap.size, 0, none⟩) 0 0) (src := .slice ao l.length cap) ho11 (HB.out _ (HK4.out.trans hS11)) (by simp; omega) (Nat.le_trans hsz11 (Keep.refl [] w11).size)
        have hS16 : Keep [] w4 w16 := hS11.trans' hk16 (by intro b hb; simp [Value.ownBlock] at hb; subst hb; exact .inr hs5)
        have hG16 : Since w4 w11 w16 := fun _ => hS16
        refine loudly_append_run (.tmp 30) (.tmp 31) 30 rfl (v := .slice (some ⟨w5.heap.size, 0, none⟩) 0 0) (src := .slice ao l.length cap) (w' := w16) rfl rfl hrun16 ?_
        refine hK _ _ hG16 ?_
        clear hK K hG16 hrun16 hk16
        refine flo_two (by kernel_rfl) (by kernel_rfl) (by kernel_rfl) (by kernel_rfl) rfl rfl (fun K hK => ?_) (fun K hK => ?_)
        · skip
          go_simp
          have hA17 := (Keep.refl [] w16).alloc (.cells #[.int .i64 0, .int .i64 0, .int .i64 0, .int .i64 0, .int .i64 0, .int .i64 0, .int .i64 0, .int .u64 0, .int .i64 0, .int .i64 0, .int .i64 0, .int .i64 0, .int .i64 0, .int .i64 0, .int .i64 0] 123)
          have hX17 := heap_alloc_new w16 (.cells #[.int .i64 0, .int .i64 0, .int .i64 0, .int .i64 0, .int .i64 0, .int .i64 0, .int .i64 0, .int .u64 0, .int .i64 0, .int .i64 0, .int .i64 0, .int .i64 0, .int .i64 0, .int .i64 0, .int .i64 0] 123)
          refine hK _ _ (fun x => x.trans hA17) ?_
          clear hK K
          have hS17 := hS16.trans hA17
          have hlt17 : w4.heap.size ≤ w16.heap.size := hS16.size
          have ho17 := ho16.keep hA17 (by simp)
          generalize w16.alloc (.cells #[.int .i64 0, .int .i64 0, .int .i64 0, .int .i64 0, .int .i64 0, .int .i64 0, .int .i64 0, .int .u64 0, .int .i64 0, .int .i64 0, .int .i64 0, .int .i64 0, .int .i64 0, .int .i64 0, .int .i64 0] 123) = w17 at *
          refine flo_l (by kernel_rfl) (by kernel_rfl) rfl (fun K hK => ?_)
          go_simp
          refine (CU.out _ _ (ho17.bytes (by simp; omega))).mono ?_
          rintro x w18 ⟨rfl, k18⟩
          refine hK _ _ (fun x => x.trans k18) ?_
          clear hK K
          have hS18 := hS17.trans k18
          have hX18 := k18.blk (by simp) hX17
          (repeat (first | (refine flo_q (by kernel_rfl) (by kernel_rfl) (by kernel_rfl) rfl (fun K hK => ?_); apply Exists.intro; refine ⟨fun w' hC => ?_, ?_⟩; ((try simp [Sg.upd] at hC); go_simp <;> rfl); go_simp; refine hK _ _ ?_; clear hK K) | (refine flo_s (by kernel_rfl) (by kernel_rfl) rfl (fun K hK => ?_); go_simp; refine hK _ _ ?_; clear hK K) | refine flo_skip rfl ?_))
          refine flo_l (by kernel_rfl) (by kernel_rfl) rfl (fun K hK => ?_)
          refine loudly_store_row 123 (.tmp 9) (.tmp 34) rfl w16.heap.size #[.int .i64 sec', .int .i64 size', .int .i64 reg', .int .i64 rs', .int .i64 lg', .int .i64 dep', .int .i64 mem', .int .u64 (seed' : Int), .int .i64 gen', .int .i64 page', .int .i64 stamp', .int .i64 hdep', .int .i64 log', .int .i64 hreg', .int .i64 time'] rfl rfl 123 _ hX18 (by kernel_rfl) (by rfl) (by kernel_rfl) ?_
          refine hK _ _ (fun x => Keep.setRow x (g := w16.heap.size) (.inr hlt17) #[.int .i64 sec', .int .i64 size', .int .i64 reg', .int .i64 rs', .int .i64 lg', .int .i64 dep', .int .i64 mem', .int .u64 (seed' : Int), .int .i64 gen', .int .i64 page', .int .i64 stamp', .int .i64 hdep', .int .i64 log', .int .i64 hreg', .int .i64 time']) ?_
          clear hK K
          have hR19 := Lib.hid (setRow_heap _ _ _ #[.int .i64 sec', .int .i64 size', .int .i64 reg', .int .i64 rs', .int .i64 lg', .int .i64 dep', .int .i64 mem', .int .u64 (seed' : Int), .int .i64 gen', .int .i64 page', .int .i64 stamp', .int .i64 hdep', .int .i64 log', .int .i64 hreg', .int .i64 time'] _ _ hX18)
          have hS19 := Lib.hid (Keep.setRow hS18 (g := w16.heap.size) (.inr hlt17) #[.int .i64 sec', .int .i64 size', .int .i64 reg', .int .i64 rs', .int .i64 lg', .int .i64 dep', .int .i64 mem', .int .u64 (seed' : Int), .int .i64 gen', .int .i64 page', .int .i64 stamp', .int .i64 hdep', .int .i64 log', .int .i64 hreg', .int .i64 time'])
          (repeat (first | (refine flo_q (by kernel_rfl) (by kernel_rfl) (by kernel_rfl) rfl (fun K hK => ?_); apply Exists.intro; refine ⟨fun w' hC => ?_, ?_⟩; ((try simp [Sg.upd] at hC); go_simp <;> rfl); go_simp; refine hK _ _ ?_; clear hK K) | (refine flo_s (by kernel_rfl) (by kernel_rfl) rfl (fun K hK => ?_); go_simp; refine hK _ _ ?_; clear hK K) | refine flo_skip rfl ?_))
          refine flo_nil ?_
          clear q8
          go_wp2_with fail
          go_meet
          case rel => exact ⟨_, rfl, rfl, hR19.out, hS19.out⟩
        · skip
          go_simp
          refine (CU.out _ _ (ho16.bytes (by simp; omega))).mono ?_
          rintro x w20 ⟨rfl, k20⟩
          refine hK _ _ (fun x => x.trans k20) ?_
          clear hK K
          have hS20 := hS16.trans k20
          (repeat (first | (refine flo_q (by kernel_rfl) (by kernel_rfl) (by kernel_rfl) rfl (fun K hK => ?_); apply Exists.intro; refine ⟨fun w' hC => ?_, ?_⟩; ((try simp [Sg.upd] at hC); go_simp <;> rfl); go_simp; refine hK _ _ ?_; clear hK K) | (refine flo_s (by kernel_rfl) (by kernel_rfl) rfl (fun K hK => ?_); go_simp; refine hK _ _ ?_; clear hK K) | refine flo_skip rfl ?_))
          refine flo_w (by kernel_rfl) (by kernel_rfl) (by kernel_rfl) rfl (fun K hK => ?_)
          go_simp
          have hA21 := (Keep.refl [] w20).alloc (.cells #[.int .i64 0, .int .i64 0, .int .i64 0, .int .i64 0, .int .i64 0, .int .i64 0, .int .i64 0, .int .u64 0, .int .i64 0, .int .i64 0, .int .i64 0, .int .i64 0, .int .i64 0, .int .i64 0, .int .i64 0] 123)
          have hX21 := heap_alloc_new w20 (.cells #[.int .i64 0, .int .i64 0, .int .i64 0, .int .i64 0, .int .i64 0, .int .i64 0, .int .i64 0, .int .u64 0, .int .i64 0, .int .i64 0, .int .i64 0, .int .i64 0, .int .i64 0, .int .i64 0, .int .i64 0] 123)
          refine hK _ _ (fun x => x.trans hA21) ?_
          clear hK K
          have hS21 := hS20.trans hA21
          have hlt21 : w4.heap.size ≤ w20.heap.size := hS20.size
          generalize w20.alloc (.cells #[.int .i64 0, .int .i64 0, .int .i64 0, .int .i64 0, .int .i64 0, .int .i64 0, .int .i64 0, .int .u64 0, .int .i64 0, .int .i64 0, .int .i64 0, .int .i64 0, .int .i64 0, .int .i64 0, .int .i64 0] 123) = w21 at *
          refine flo_l (by kernel_rfl) (by kernel_rfl) rfl (fun K hK => ?_)
          refine loudly_store_row 123 (.tmp 9) (.tmp 34) rfl w20.heap.size #[.int .i64 sec', .int .i64 size', .int .i64 reg', .int .i64 rs', .int .i64 lg', .int .i64 dep', .int .i64 mem', .int .u64 (seed' : Int), .int .i64 gen', .int .i64 page', .int .i64 stamp', .int .i64 hdep', .int .i64 log', .int .i64 hreg', .int .i64 time'] rfl rfl 123 _ hX21 (by kernel_rfl) (by rfl) (by kernel_rfl) ?_
          refine hK _ _ (fun x => Keep.setRow x (g := w20.heap.size) (.inr hlt21) #[.int .i64 sec', .int .i64 size', .int .i64 reg', .int .i64 rs', .int .i64 lg', .int .i64 dep', .int .i64 mem', .int .u64 (seed' : Int), .int .i64 gen', .int .i64 page', .int .i64 stamp', .int .i64 hdep', .int .i64 log', .int .i64 hreg', .int .i64 time']) ?_
          clear hK K
          have hR22 := Lib.hid (setRow_heap _ _ _ #[.int .i64 sec', .int .i64 size', .int .i64 reg', .int .i64 rs', .int .i64 lg', .int .i64 dep', .int .i64 mem', .int .u64 (seed' : Int), .int .i64 gen', .int .i64 page', .int .i64 stamp', .int .i64 hdep', .int .i64 log', .int .i64 hreg', .int .i64 time'] _ _ hX21)
          have hS22 := Lib.hid (Keep.setRow hS21 (g := w20.heap.size) (.inr hlt21) #[.int .i64 sec', .int .i64 size', .int .i64 reg', .int .i64 rs', .int .i64 lg', .int .i64 dep', .int .i64 mem', .int .u64 (seed' : Int), .int .i64 gen', .int .i64 page', .int .i64 stamp', .int .i64 hdep', .int .i64 log', .int .i64 hreg', .int .i64 time'])
          (repeat (first | (refine flo_q (by kernel_rfl) (by kernel_rfl) (by kernel_rfl) rfl (fun K hK => ?_); apply Exists.intro; refine ⟨fun w' hC => ?_, ?_⟩; ((try simp [Sg.upd] at hC); go_simp <;> rfl); go_simp; refine hK _ _ ?_; clear hK K) | (refine flo_s (by kernel_rfl) (by kernel_rfl) rfl (fun K hK => ?_); go_simp; refine hK _ _ ?_; clear hK K) | refine flo_skip rfl ?_))
          refine flo_nil ?_
          clear q8
          go_wp2_with fail
          go_meet
          case rel => exact ⟨_, rfl, rfl, hR22.out, hS22.out⟩
  case rest =>
  obtain ⟨blk, rfl, rfl, HX9', hk49⟩ := hcut
  replace hk49 := hk49.out
  have HX9 := Lib.hid HX9'.out
  have HK9 := Lib.hid (HK4.out.trans hk49)
  have HA9 := Lib.hid (hk49.blk (by simp) HA4.out)
  have HB9 := Lib.hid (HO3'.out.keep hk49 (by simp))
  have HO9 := Lib.hid (HO4.out.keep hk49 (by simp))
  clear hk49 HX9' HK4 HA4 HO3' HO4
  have q8 := cell_of_row _ _ 8 _ _ _ HA9.out
  simp at q8
  go_wp2_with fail
  refine (CV.out _ _ (HB.out _ HK9.out)).mono ?_
  rintro e w10 ⟨rfl, k10⟩
  have hA10 := (Keep.refl [] w10).alloc (.cells #[.int .i64 sec', .int .i64 size', .int .i64 reg', .int .i64 rs', .int .i64 lg', .int .i64 dep', .int .i64 mem', .int .u64 (seed' : Int), .int .i64 gen', .int .i64 page', .int .i64 stamp', .int .i64 hdep', .int .i64 log', .int .i64 hreg', .int .i64 time'] 118)
  have HY10 := Lib.hid (heap_alloc_new w10 (.cells #[.int .i64 sec', .int .i64 size', .int .i64 reg', .int .i64 rs', .int .i64 lg', .int .i64 dep', .int .i64 mem', .int .u64 (seed' : Int), .int .i64 gen', .int .i64 page', .int .i64 stamp', .int .i64 hdep', .int .i64 log', .int .i64 hreg', .int .i64 time'] 118))
  have HX10 := Lib.hid ((k10.trans hA10).blk (by simp) HX9.out)
  have HK10 := Lib.hid (HK9.out.trans (k10.trans hA10))
  have HB10 := Lib.hid (HB9.out.keep (k10.trans hA10) (by simp))
  have HO10 := Lib.hid (HO9.out.keep (k10.trans hA10) (by simp))
  clear k10 hA10 q8 HX9 HK9 HB9 HO9 HA9
  go_wp2_with fail
  refine wp_region_his [] [13, 22] (fun _ => 0) (by kernel_rfl) (by kernel_rfl) ?_
  intro w6 hk6 hh6
  clear hh6
  have hA6 := hk6.blk (by simp) HX10.out
  have hB6 := hk6.blk (by simp) HY10.out
  have HK6 := Lib.hid (HK10.out.trans hk6)
  have s3 : ∀ w', Keep [] w6 w' → Sem.run Try.prog (convert 30 9 v3) w' = .ok (.string ⟨PK.toArray⟩) w' := fun w' h => run_str (P := Try.prog) 30 9 5 Try.underlying30 Try.underlying5 Try.underlying9 (HB10.out.keep (hk6.trans h) (by simp))
  have s4 : ∀ w', Keep [] w6 w' → Sem.run Try.prog (convert 30 9 v4) w' = .ok (.string ⟨PK.toArray⟩) w' := fun w' h => run_str (P := Try.prog) 30 9 5 Try.underlying30 Try.underlying5 Try.underlying9 (HO10.out.keep (hk6.trans h) (by simp))
  have x0 := fun w' (h' : Keep [] w6 w') => cell_of_row w' _ 0 _ _ _ (h'.blk (by simp) hA6)
  have x1 := fun w' (h' : Keep [] w6 w') => cell_of_row w' _ 1 _ _ _ (h'.blk (by simp) hA6)
  have x2 := fun w' (h' : Keep [] w6 w') => cell_of_row w' _ 2 _ _ _ (h'.blk (by simp) hA6)
  have x3 := fun w' (h' : Keep [] w6 w') => cell_of_row w' _ 3 _ _ _ (h'.blk (by simp) hA6)
  have x4 := fun w' (h' : Keep [] w6 w') => cell_of_row w' _ 4 _ _ _ (h'.blk (by simp) hA6)
  have x5 := fun w' (h' : Keep [] w6 w') => cell_of_row w' _ 5 _ _ _ (h'.blk (by simp) hA6)
  have x6 := fun w' (h' : Keep [] w6 w') => cell_of_row w' _ 6 _ _ _ (h'.blk (by simp) hA6)
  have x7 := fun w' (h' : Keep [] w6 w') => cell_of_row w' _ 7 _ _ _ (h'.blk (by simp) hA6)
  have x8 := fun w' (h' : Keep [] w6 w') => cell_of_row w' _ 8 _ _ _ (h'.blk (by simp) hA6)
  have x9 := fun w' (h' : Keep [] w6 w') => cell_of_row w' _ 9 _ _ _ (h'.blk (by simp) hA6)
  have x10 := fun w' (h' : Keep [] w6 w') => cell_of_row w' _ 10 _ _ _ (h'.blk (by simp) hA6)
  have x11 := fun w' (h' : Keep [] w6 w') => cell_of_row w' _ 11 _ _ _ (h'.blk (by simp) hA6)
  have x12 := fun w' (h' : Keep [] w6 w') => cell_of_row w' _ 12 _ _ _ (h'.blk (by simp) hA6)
  have x13 := fun w' (h' : Keep [] w6 w') => cell_of_row w' _ 13 _ _ _ (h'.blk (by simp) hA6)
  have x14 := fun w' (h' : Keep [] w6 w') => cell_of_row w' _ 14 _ _ _ (h'.blk (by simp) hA6)
  simp at x0 x1 x2 x3 x4 x5 x6 x7 x8 x9 x10 x11 x12 x13 x14
  have y0 := fun w' (h' : Keep [] w6 w') => cell_of_row w' _ 0 _ _ _ (h'.blk (by simp) hB6)
  have y1 := fun w' (h' : Keep [] w6 w') => cell_of_row w' _ 1 _ _ _ (h'.blk (by simp) hB6)
  have y2 := fun w' (h' : Keep [] w6 w') => cell_of_row w' _ 2 _ _ _ (h'.blk (by simp) hB6)
  have y3 := fun w' (h' : Keep [] w6 w') => cell_of_row w' _ 3 _ _ _ (h'.blk (by simp) hB6)
  have y4 := fun w' (h' : Keep [] w6 w') => cell_of_row w' _ 4 _ _ _ (h'.blk (by simp) hB6)
  have y5 := fun w' (h' : Keep [] w6 w') => cell_of_row w' _ 5 _ _ _ (h'.blk (by simp) hB6)
  have y6 := fun w' (h' : Keep [] w6 w') => cell_of_row w' _ 6 _ _ _ (h'.blk (by simp) hB6)
  have y7 := fun w' (h' : Keep [] w6 w') => cell_of_row w' _ 7 _ _ _ (h'.blk (by simp) hB6)
  have y8 := fun w' (h' : Keep [] w6 w') => cell_of_row w' _ 8 _ _ _ (h'.blk (by simp) hB6)
  have y9 := fun w' (h' : Keep [] w6 w') => cell_of_row w' _ 9 _ _ _ (h'.blk (by simp) hB6)
  have y10 := fun w' (h' : Keep [] w6 w') => cell_of_row w' _ 10 _ _ _ (h'.blk (by simp) hB6)
  have y11 := fun w' (h' : Keep [] w6 w') => cell_of_row w' _ 11 _ _ _ (h'.blk (by simp) hB6)
  have y12 := fun w' (h' : Keep [] w6 w') => cell_of_row w' _ 12 _ _ _ (h'.blk (by simp) hB6)
  have y13 := fun w' (h' : Keep [] w6 w') => cell_of_row w' _ 13 _ _ _ (h'.blk (by simp) hB6)
  have y14 := fun w' (h' : Keep [] w6 w') => cell_of_row w' _ 14 _ _ _ (h'.blk (by simp) hB6)
  simp at y0 y1 y2 y3 y4 y5 y6 y7 y8 y9 y10 y11 y12 y13 y14
  clear hA6 hB6 hk6
  (repeat (first | (refine his_q rfl rfl (fun K hK => ?_); apply Exists.intro; refine ⟨fun w' hC => ?_, ?_⟩; ((try simp [Sg.upd] at hC); go_simp <;> rfl); go_simp; refine hK _ _ ?_; clear hK K) | (refine his_s rfl (fun K hK => ?_); go_simp; refine hK _ _ ?_; clear hK K)))
  (refine his_l rfl rfl (fun K hK => ?_); go_simp)
  refine (CR.out _).mono ?_
  rintro x w11 ⟨rfl, k11⟩
  refine hK _ _ k11 ?_
  clear hK K
  (repeat (first | (refine his_q rfl rfl (fun K hK => ?_); apply Exists.intro; refine ⟨fun w' hC => ?_, ?_⟩; ((try simp [Sg.upd] at hC); go_simp <;> rfl); go_simp; refine hK _ _ ?_; clear hK K) | (refine his_s rfl (fun K hK => ?_); go_simp; refine hK _ _ ?_; clear hK K)))
  (refine his_l rfl rfl (fun K hK => ?_); go_simp)
  refine (awake10_any _).mono ?_
  rintro x w12 ⟨rfl, k12⟩
  refine hK _ _ k12 ?_
  clear hK K
  (repeat (first | (refine his_q rfl rfl (fun K hK => ?_); apply Exists.intro; refine ⟨fun w' hC => ?_, ?_⟩; ((try simp [Sg.upd] at hC); go_simp <;> rfl); go_simp; refine hK _ _ ?_; clear hK K) | (refine his_s rfl (fun K hK => ?_); go_simp; refine hK _ _ ?_; clear hK K)))
  refine his_nil ?_
  clear x0 y0 x1 y1 x2 y2 x3 y3 x4 y4 x5 y5 x6 y6 x7 y7 x8 y8 x9 y9 x10 y10 x11 y11 x12 y12 x13 y13 x14 y14 s3 s4
  have HK12 := Lib.hid ((HK6.out.trans k11).trans k12)
  go_wp2
  go_ret
  exact ⟨rfl, HK12.out.below (Nat.le_refl _) (by simp)⟩
end Go.Proofs.Ytijljdcpajjhhaa
