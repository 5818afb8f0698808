import Derived.Test.YtijljdcpajjhhaaSuperB
/-! The walk of the law SuperBack. -/
namespace Go.Proofs.Ytijljdcpajjhhaa
open Go.RowKit Go.Shelf Sg Go.Sort Go.Proofs
attribute [local go_sem] Oper.semAt_some
set_option linter.unusedSimpArgs false
set_option linter.unusedVariables false

set_option maxRecDepth 100000 in
set_option maxHeartbeats 1000000 in
set_option maxHeartbeats 4000000 in
theorem superBackWalk (W : World) (h : Hd) (hI : h.In) : Calls Try.prog 10 #[h.v] W fun e W' => e = .returned (.bool true) ∧ Below W.heap.size W W' := by
  have hs : h.p.seed < 18446744073709551616 := hI.1.2.2.2.2.2.2.2
  have cO := fun w => of10_any h w
  have cP := fun w => hpack_any h hs w
  have cU : h.code = 0 → ∀ x w, Bytes w x h.pack → Calls Try.prog 64 #[.int .i64 h.gen, x] w fun e w' => e = .returned (.tuple #[h.v, .int .i64 0]) ∧ Keep [] w w' := fun hc x w hx => by
    have hb := of63_pack h hc hs hI
    refine (hunpack_any h.gen x h.pack w hx).mono ?_
    rintro e w' ⟨rfl, k⟩
    rw [if_pos ⟨h.pack_len, by rw [hb]; exact hc⟩, hb]
    exact ⟨rfl, k⟩
  have hpl := h.pack_len
  generalize h.pack = PK at *
  obtain ⟨cd, hcd⟩ : ∃ cd, h.code = cd := ⟨_, rfl⟩
  rw [hcd] at cP cU
  clear hcd hI hs
  obtain ⟨⟨sec, size, reg, rs, lg, dep, mem, seed⟩, gen, page, stamp, hdep, log, hreg, time⟩ := h
  simp only [Hd.v, Hd.cells] at *
  have CO := Lib.hid cO
  have CP := Lib.hid cP
  have CU := Lib.hid cU
  have HPL := Lib.hid hpl
  have hA := heap_alloc_new W (.cells #[.int .i64 sec, .int .i64 size, .int .i64 reg, .int .i64 rs, .int .i64 lg, .int .i64 dep, .int .i64 mem, .int .u64 (seed : Int), .int .i64 gen, .int .i64 page, .int .i64 stamp, .int .i64 hdep, .int .i64 log, .int .i64 hreg, .int .i64 time] 118)
  have HA := Lib.hid hA
  have HK := Lib.hid ((Keep.refl [] W).alloc (.cells #[.int .i64 sec, .int .i64 size, .int .i64 reg, .int .i64 rs, .int .i64 lg, .int .i64 dep, .int .i64 mem, .int .u64 (seed : Int), .int .i64 gen, .int .i64 page, .int .i64 stamp, .int .i64 hdep, .int .i64 log, .int .i64 hreg, .int .i64 time] 118))
  clear cO cP cU hpl hA
  go_enter Try.func10, Try.ntmps10
  go_wp2_with (refine wpList_load_row rfl 118 (.tmp 1) rfl W.heap.size rfl 118 _ _ _ HA.out Try.underlying118 rfl (by kernel_rfl) ?_)
  refine (CO.out _).mono ?_
  rintro e w2 ⟨rfl, k2⟩
  go_wp2_with fail
  refine (CP.out _).mono ?_
  rintro e w3 ⟨v3, rfl, o3, k3⟩
  have hk3 := HK.out.trans (k2.trans k3)
  have hA3 := (k2.trans k3).blk (by simp) HA.out
  have HK3 := Lib.hid hk3
  have HA3 := Lib.hid hA3
  clear hk3 hA3 k2 k3
  by_cases hz : cd = 0
  · subst hz
    rw [if_pos rfl] at o3
    have hb3 := o3.bytes (by have := HPL.out; omega)
    obtain ⟨va, vc, rfl, -⟩ := hb3.form
    obtain ⟨n, hn⟩ : ∃ n, PK.length = n := ⟨_, rfl⟩
    have hn63 : n = 63 := by rw [← hn]; exact HPL.out
    rw [hn] at hb3 ⊢
    have c8 := cell_of_row _ _ 8 _ _ _ HA3.out
    simp at c8
    have HB3 := Lib.hid hb3
    have hz63 : (n : Int) = 63 := by omega
    clear o3 hb3 hn hn63
    go_wp2_with fail
    refine (CU.out (by trivial) _ _ HB3.out).mono ?_
    rintro e w4 ⟨rfl, k4⟩
    have hA5 := heap_alloc_new w4 (.cells #[.int .i64 sec, .int .i64 size, .int .i64 reg, .int .i64 rs, .int .i64 lg, .int .i64 dep, .int .i64 mem, .int .u64 (seed : Int), .int .i64 gen, .int .i64 page, .int .i64 stamp, .int .i64 hdep, .int .i64 log, .int .i64 hreg, .int .i64 time] 123)
    have hK5 := (Keep.refl [] w4).alloc (.cells #[.int .i64 sec, .int .i64 size, .int .i64 reg, .int .i64 rs, .int .i64 lg, .int .i64 dep, .int .i64 mem, .int .u64 (seed : Int), .int .i64 gen, .int .i64 page, .int .i64 stamp, .int .i64 hdep, .int .i64 log, .int .i64 hreg, .int .i64 time] 123)
    have hA4 := hK5.blk (by simp) (k4.blk (by simp) HA3.out)
    have HK5 := Lib.hid ((HK3.out.trans k4).trans hK5)
    have HA5 := Lib.hid hA5
    have HA4 := Lib.hid hA4
    clear hA5 hK5 hA4 k4 c8
    go_wp2_with fail
    refine wp_region_his [] [5, 14] (fun _ => 0) (by kernel_rfl) (by kernel_rfl) ?_
    intro w6 hk6 hh6
    clear hh6
    have hA6 := hk6.blk (by simp) HA5.out
    have hB6 := hk6.blk (by simp) HA4.out
    have HK6 := Lib.hid (HK5.out.trans hk6)
    have x0 := fun w' (h' : Keep [] w6 w') => cell_of_row w' _ 0 _ _ _ (h'.blk (by simp) hA6)
    have x1 := fun w' (h' : Keep [] w6 w') => cell_of_row w' _ 1 _ _ _ (h'.blk (by simp) hA6)
    have x2 := fun w' (h' : Keep [] w6 w') => cell_of_row w' _ 2 _ _ _ (h'.blk (by simp) hA6)
    have x3 := fun w' (h' : Keep [] w6 w') => cell_of_row w' _ 3 _ _ _ (h'.blk (by simp) hA6)
    have x4 := fun w' (h' : Keep [] w6 w') => cell_of_row w' _ 4 _ _ _ (h'.blk (by simp) hA6)
    have x5 := fun w' (h' : Keep [] w6 w') => cell_of_row w' _ 5 _ _ _ (h'.blk (by simp) hA6)
    have x6 := fun w' (h' : Keep [] w6 w') => cell_of_row w' _ 6 _ _ _ (h'.blk (by simp) hA6)
    have x7 := fun w' (h' : Keep [] w6 w') => cell_of_row w' _ 7 _ _ _ (h'.blk (by simp) hA6)
    have x8 := fun w' (h' : Keep [] w6 w') => cell_of_row w' _ 8 _ _ _ (h'.blk (by simp) hA6)
    have x9 := fun w' (h' : Keep [] w6 w') => cell_of_row w' _ 9 _ _ _ (h'.blk (by simp) hA6)
    have x10 := fun w' (h' : Keep [] w6 w') => cell_of_row w' _ 10 _ _ _ (h'.blk (by simp) hA6)
    have x11 := fun w' (h' : Keep [] w6 w') => cell_of_row w' _ 11 _ _ _ (h'.blk (by simp) hA6)
    have x12 := fun w' (h' : Keep [] w6 w') => cell_of_row w' _ 12 _ _ _ (h'.blk (by simp) hA6)
    have x13 := fun w' (h' : Keep [] w6 w') => cell_of_row w' _ 13 _ _ _ (h'.blk (by simp) hA6)
    have x14 := fun w' (h' : Keep [] w6 w') => cell_of_row w' _ 14 _ _ _ (h'.blk (by simp) hA6)
    simp at x0 x1 x2 x3 x4 x5 x6 x7 x8 x9 x10 x11 x12 x13 x14
    have y0 := fun w' (h' : Keep [] w6 w') => cell_of_row w' _ 0 _ _ _ (h'.blk (by simp) hB6)
    have y1 := fun w' (h' : Keep [] w6 w') => cell_of_row w' _ 1 _ _ _ (h'.blk (by simp) hB6)
    have y2 := fun w' (h' : Keep [] w6 w') => cell_of_row w' _ 2 _ _ _ (h'.blk (by simp) hB6)
    have y3 := fun w' (h' : Keep [] w6 w') => cell_of_row w' _ 3 _ _ _ (h'.blk (by simp) hB6)
    have y4 := fun w' (h' : Keep [] w6 w') => cell_of_row w' _ 4 _ _ _ (h'.blk (by simp) hB6)
    have y5 := fun w' (h' : Keep [] w6 w') => cell_of_row w' _ 5 _ _ _ (h'.blk (by simp) hB6)
    have y6 := fun w' (h' : Keep [] w6 w') => cell_of_row w' _ 6 _ _ _ (h'.blk (by simp) hB6)
    have y7 := fun w' (h' : Keep [] w6 w') => cell_of_row w' _ 7 _ _ _ (h'.blk (by simp) hB6)
    have y8 := fun w' (h' : Keep [] w6 w') => cell_of_row w' _ 8 _ _ _ (h'.blk (by simp) hB6)
    have y9 := fun w' (h' : Keep [] w6 w') => cell_of_row w' _ 9 _ _ _ (h'.blk (by simp) hB6)
    have y10 := fun w' (h' : Keep [] w6 w') => cell_of_row w' _ 10 _ _ _ (h'.blk (by simp) hB6)
    have y11 := fun w' (h' : Keep [] w6 w') => cell_of_row w' _ 11 _ _ _ (h'.blk (by simp) hB6)
    have y12 := fun w' (h' : Keep [] w6 w') => cell_of_row w' _ 12 _ _ _ (h'.blk (by simp) hB6)
    have y13 := fun w' (h' : Keep [] w6 w') => cell_of_row w' _ 13 _ _ _ (h'.blk (by simp) hB6)
    have y14 := fun w' (h' : Keep [] w6 w') => cell_of_row w' _ 14 _ _ _ (h'.blk (by simp) hB6)
    simp at y0 y1 y2 y3 y4 y5 y6 y7 y8 y9 y10 y11 y12 y13 y14
    clear hA6 hB6 hk6
    (repeat (first | (refine his_q rfl rfl (fun K hK => ?_); apply Exists.intro; refine ⟨fun w' hC => ?_, ?_⟩; ((try simp [Sg.upd] at hC); go_simp <;> rfl); go_simp; refine hK _ _ ?_; clear hK K) | (refine his_s rfl (fun K hK => ?_); go_simp; refine hK _ _ ?_; clear hK K)))
    (refine his_l rfl rfl (fun K hK => ?_); go_simp)
    refine (CO.out _).mono ?_
    rintro x w7 ⟨rfl, k7⟩
    refine hK _ _ k7 ?_
    clear hK K
    (repeat (first | (refine his_q rfl rfl (fun K hK => ?_); apply Exists.intro; refine ⟨fun w' hC => ?_, ?_⟩; ((try simp [Sg.upd] at hC); go_simp <;> rfl); go_simp; refine hK _ _ ?_; clear hK K) | (refine his_s rfl (fun K hK => ?_); go_simp; refine hK _ _ ?_; clear hK K)))
    (refine his_l rfl rfl (fun K hK => ?_); go_simp)
    refine (awake10_any _).mono ?_
    rintro x w8 ⟨rfl, k8⟩
    refine hK _ _ k8 ?_
    clear hK K
    (repeat (first | (refine his_q rfl rfl (fun K hK => ?_); apply Exists.intro; refine ⟨fun w' hC => ?_, ?_⟩; ((try simp [Sg.upd] at hC); go_simp <;> rfl); go_simp; refine hK _ _ ?_; clear hK K) | (refine his_s rfl (fun K hK => ?_); go_simp; refine hK _ _ ?_; clear hK K)))
    refine his_nil ?_
    clear x0 y0 x1 y1 x2 y2 x3 y3 x4 y4 x5 y5 x6 y6 x7 y7 x8 y8 x9 y9 x10 y10 x11 y11 x12 y12 x13 y13 x14 y14
    have HK8 := Lib.hid ((HK6.out.trans k7).trans k8)
    go_wp2
    go_ret
    exact ⟨rfl, HK8.out.below (Nat.le_refl _) (by simp)⟩
  · rw [if_neg hz] at o3
    have hz' : (cd != 0) = true := by simpa using hz
    obtain ⟨va, vc, rfl⟩ : ∃ a c, v3 = .slice a 0 c := by
      have hb := o3.bytes (by decide)
      obtain ⟨a, c, rfl, -⟩ := hb.form
      exact ⟨a, c, rfl⟩
    clear o3 hz
    go_wp2_with fail
    refine (awake10_any _).mono ?_
    rintro e w4 ⟨rfl, k4⟩
    have HK4 := Lib.hid (HK3.out.trans k4)
    go_wp2
    go_ret
    exact ⟨rfl, HK4.out.below (Nat.le_refl _) (by simp)⟩
end Go.Proofs.Ytijljdcpajjhhaa
