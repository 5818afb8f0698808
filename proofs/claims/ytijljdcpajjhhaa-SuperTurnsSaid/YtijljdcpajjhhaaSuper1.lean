import Derived.Test.YtijljdcpajjhhaaSuperDef
import Derived.Outline
/-! The walks of super's right, Pack, fits. -/
namespace Go.Proofs.Ytijljdcpajjhhaa
open Go.RowKit Go.Shelf Sg
attribute [local go_sem] Oper.semAt_some
set_option linter.unusedSimpArgs false
set_option linter.unusedVariables false

def Hd.oks (h : Hd) : List Bool := [decide (1 ≤ h.gen), decide (0 ≤ h.page ∧ h.page ≤ 2147483647), decide (0 ≤ h.stamp), decide (0 ≤ h.dep ∧ h.dep ≤ h.p.dep), decide (1 ≤ h.log), decide (0 ≤ h.reg), decide (0 ≤ h.time ∧ h.time ≤ 281474976710656)]
theorem Hd.ok_iff (h : Hd) : h.Ok ↔ ∀ k, k < 7 → h.oks.getD k false = true := by
  constructor
  · rintro ⟨h0, h1, h2, h3, h4, h5, h6⟩ k hk
    rcases (by omega : k = 0 ∨ k = 1 ∨ k = 2 ∨ k = 3 ∨ k = 4 ∨ k = 5 ∨ k = 6) with rfl | rfl | rfl | rfl | rfl | rfl | rfl
    · exact decide_eq_true h0
    · exact decide_eq_true h1
    · exact decide_eq_true h2
    · exact decide_eq_true h3
    · exact decide_eq_true h4
    · exact decide_eq_true h5
    · exact decide_eq_true h6
  · intro h
    exact ⟨of_decide_eq_true (h 0 (by omega)), of_decide_eq_true (h 1 (by omega)), of_decide_eq_true (h 2 (by omega)), of_decide_eq_true (h 3 (by omega)), of_decide_eq_true (h 4 (by omega)), of_decide_eq_true (h 5 (by omega)), of_decide_eq_true (h 6 (by omega))⟩
theorem ret_bool2 {a b : Bool} (h : a = b) : Ending.returned (.bool a) = .returned (.bool b) := by rw [h]
theorem index3 (a b c : Int) (k : Nat) (hk : k < 3) : ∀ w, Sem.run Try.prog (Instr.index 200 (.agg #[.int .i64 a, .int .i64 b, .int .i64 c]) (.int .i64 (k : Int))) w = .ok (.int .i64 ([a, b, c].getD k 0)) w := by
  rcases (by omega : k = 0 ∨ k = 1 ∨ k = 2) with rfl | rfl | rfl <;> intro w <;> kernel_rfl
theorem index7b (b0 b1 b2 b3 b4 b5 b6 : Bool) (k : Nat) (hk : k < 7) : ∀ w, Sem.run Try.prog (Instr.index 243 (.agg #[.bool b0, .bool b1, .bool b2, .bool b3, .bool b4, .bool b5, .bool b6]) (.int .i64 (k : Int))) w = .ok (.bool ([b0, b1, b2, b3, b4, b5, b6].getD k false)) w := by
  rcases (by omega : k = 0 ∨ k = 1 ∨ k = 2 ∨ k = 3 ∨ k = 4 ∨ k = 5 ∨ k = 6) with rfl | rfl | rfl | rfl | rfl | rfl | rfl <;> intro w <;> kernel_rfl

set_option maxRecDepth 100000 in
set_option maxHeartbeats 1000000 in
set_option maxHeartbeats 4000000 in
theorem hright_any (h : Hd) (w : World) : Calls Try.prog 108 #[h.v] w fun x w' => x = .returned (.int .i64 h.code) ∧ Keep [] w w' := by
  have hF := fit_one h.p
  have hok := h.ok_iff
  have hoks : h.oks = [decide (1 ≤ h.gen), decide (0 ≤ h.page ∧ h.page ≤ 2147483647), decide (0 ≤ h.stamp), decide (0 ≤ h.dep ∧ h.dep ≤ h.p.dep), decide (1 ≤ h.log), decide (0 ≤ h.reg), decide (0 ≤ h.time ∧ h.time ≤ 281474976710656)] := rfl
  obtain ⟨bs, hbs⟩ : ∃ bs, h.oks = bs := ⟨_, rfl⟩
  rw [hbs] at hok hoks
  have hcd : h.code = if h.p.Fits then (if h.Ok then 0 else 1) else 12 := rfl
  obtain ⟨cd, hcode⟩ : ∃ cd, h.code = cd := ⟨_, rfl⟩
  rw [hcode] at hcd ⊢
  obtain ⟨F, hFF⟩ : ∃ F : Bool, decide h.p.Fits = F := ⟨_, rfl⟩
  have e1 : (if h.p.Fits then (0 : Int) else 12) = if F = true then 0 else 12 := by rw [← hFF]; simp
  rw [e1] at hF
  have k1 : F = false → cd = 12 := fun e => by rw [e, decide_eq_false_iff_not] at hFF; rw [hcd, if_neg hFF]
  have k2 : F = true → (∀ k, k < 7 → bs.getD k false = true) → cd = 0 := fun e a => by rw [e, decide_eq_true_eq] at hFF; rw [hcd, if_pos hFF, if_pos (hok.2 a)]
  have k3 : F = true → ∀ k, k < 7 → bs.getD k false = false → cd = 1 := fun e k hk a => by rw [e, decide_eq_true_eq] at hFF; rw [hcd, if_pos hFF, if_neg (fun o => by rw [hok.1 o k hk] at a; cases a)]
  clear hcd hcode hFF e1 hok hbs
  obtain ⟨⟨sec, size, reg, rs, lg, dep, mem, seed⟩, gen, page, stamp, hdep, log, hreg, time⟩ := h
  simp only [Hd.v, Hd.cells, Pl.v, lay8] at *
  have K1 := Lib.hid k1
  have K2 := Lib.hid k2
  have K3 := Lib.hid k3
  have HBS := Lib.hid hoks
  have hA := heap_alloc_new w (.cells #[.int .i64 sec, .int .i64 size, .int .i64 reg, .int .i64 rs, .int .i64 lg, .int .i64 dep, .int .i64 mem, .int .u64 (seed : Int), .int .i64 gen, .int .i64 page, .int .i64 stamp, .int .i64 hdep, .int .i64 log, .int .i64 hreg, .int .i64 time] 123)
  have hK := (Keep.refl [] w).alloc (.cells #[.int .i64 sec, .int .i64 size, .int .i64 reg, .int .i64 rs, .int .i64 lg, .int .i64 dep, .int .i64 mem, .int .u64 (seed : Int), .int .i64 gen, .int .i64 page, .int .i64 stamp, .int .i64 hdep, .int .i64 log, .int .i64 hreg, .int .i64 time] 123)
  have HA := Lib.hid hA
  have HK := Lib.hid hK
  clear k1 k2 k3 hoks hA hK
  obtain ⟨a, b, c, d, e, f, g, hh, hF⟩ := hF (w.alloc (.cells #[.int .i64 sec, .int .i64 size, .int .i64 reg, .int .i64 rs, .int .i64 lg, .int .i64 dep, .int .i64 mem, .int .u64 (seed : Int), .int .i64 gen, .int .i64 page, .int .i64 stamp, .int .i64 hdep, .int .i64 log, .int .i64 hreg, .int .i64 time] 123))
  go_enter Try.func108, Try.ntmps108
  go_wp2_with fail
  refine hF.mono ?_
  rintro x w2 ⟨rfl, hk2⟩
  have hA2 := hk2.blk (by simp) HA.out
  have hK2 := HK.out.trans hk2
  clear hF hk2
  cases F with
  | false =>
    have hc := Lib.hid (K1.out rfl)
    clear hA2
    have hk3 := hK2.alloc (.cells #[.int .i64 a, .int .i64 b, .int .i64 c, .int .i64 d, .int .i64 e, .int .i64 f, .int .i64 g, .int .i64 hh] 174)
    have HK3 := Lib.hid hk3
    clear hk3 hK2
    go_wp2
    go_ret
    exact ⟨by rw [hc.out]; rfl, HK3.out⟩
  | true =>
    have hk3 := hK2.alloc (.cells #[.int .i64 a, .int .i64 b, .int .i64 c, .int .i64 d, .int .i64 e, .int .i64 f, .int .i64 g, .int .i64 hh] 174)
    have hA3 := ((Keep.refl [] w2).alloc (.cells #[.int .i64 a, .int .i64 b, .int .i64 c, .int .i64 d, .int .i64 e, .int .i64 f, .int .i64 g, .int .i64 hh] 174)).blk (by simp) hA2
    have c5 := cell_of_row _ _ 5 _ _ _ hA3
    have c8 := cell_of_row _ _ 8 _ _ _ hA3
    have c9 := cell_of_row _ _ 9 _ _ _ hA3
    have c10 := cell_of_row _ _ 10 _ _ _ hA3
    have c11 := cell_of_row _ _ 11 _ _ _ hA3
    have c12 := cell_of_row _ _ 12 _ _ _ hA3
    have c13 := cell_of_row _ _ 13 _ _ _ hA3
    have c14 := cell_of_row _ _ 14 _ _ _ hA3
    simp at c5 c8 c9 c10 c11 c12 c13 c14
    have HK3 := Lib.hid hk3
    clear hk3 hK2 hA2 hA3
    obtain ⟨b0, hb0⟩ : ∃ b, decide (1 ≤ gen) = b := ⟨_, rfl⟩
    obtain ⟨b1, hb1⟩ : ∃ b, decide (0 ≤ page ∧ page ≤ 2147483647) = b := ⟨_, rfl⟩
    obtain ⟨b2, hb2⟩ : ∃ b, decide (0 ≤ stamp) = b := ⟨_, rfl⟩
    obtain ⟨b3, hb3⟩ : ∃ b, decide (0 ≤ hdep ∧ hdep ≤ dep) = b := ⟨_, rfl⟩
    obtain ⟨b4, hb4⟩ : ∃ b, decide (1 ≤ log) = b := ⟨_, rfl⟩
    obtain ⟨b5, hb5⟩ : ∃ b, decide (0 ≤ hreg) = b := ⟨_, rfl⟩
    obtain ⟨b6, hb6⟩ : ∃ b, decide (0 ≤ time ∧ time ≤ 281474976710656) = b := ⟨_, rfl⟩
    have hbs : bs = [b0, b1, b2, b3, b4, b5, b6] := by rw [HBS.out, hb0, hb1, hb2, hb3, hb4, hb5, hb6]
    have HB := Lib.hid hbs
    have B0 := Lib.hid hb0
    have B1 := Lib.hid hb1
    have B2 := Lib.hid hb2
    have B3 := Lib.hid hb3
    have B4 := Lib.hid hb4
    have B5 := Lib.hid hb5
    have B6 := Lib.hid hb6
    clear hb0 hb1 hb2 hb3 hb4 hb5 hb6 hbs
    go_upto_region 4 with fail
    go_cut [59, 58] from 16 to 59 (fun s59 s58 wx => s59 = .int .i64 0 ∧ s58 = .agg #[.bool b0, .bool b1, .bool b2, .bool b3, .bool b4, .bool b5, .bool b6] ∧ Hid (Keep [] w wx))
    case first =>
      by_cases z1 : 0 ≤ page <;> by_cases z2 : 0 ≤ hdep <;> by_cases z3 : 0 ≤ time <;>
      (go_wp2_with fail
       go_meet
       refine ⟨rfl, ?_, HK3.out⟩
       rw [← B0.out, ← B1.out, ← B2.out, ← B3.out, ← B4.out, ← B5.out, ← B6.out]
       simp [z1, z2, z3]
       try omega)
    case rest =>
    obtain ⟨rfl, rfl, HKc⟩ := hcut
    have hI := index7b b0 b1 b2 b3 b4 b5 b6
    rw [← HB.out] at hI
    have HI := Lib.hid hI
    clear hI c5 c8 c9 c10 c11 c12 c13 c14
    go_wp2_with fail
    go_loopw [59] (fun i wr => ∃ k : Nat, k ≤ 7 ∧ i = .int .i64 k ∧ Hid (Keep [] w wr) ∧ Hid (∀ j, j < k → bs.getD j false = true)) (fun i _ => 7 - (intOf i).toNat)
    case atStart => exact ⟨0, by omega, rfl, HKc, by intro j hj; omega⟩
    case round =>
      obtain ⟨k, hk7, rfl, HKr, hR⟩ := hrel
      by_cases hlt : k < 7
      · have hi := HI.out k hlt
        have hlt' : (k : Int) < 7 := by omega
        obtain ⟨x, hx⟩ : ∃ x, bs.getD k false = x := ⟨_, rfl⟩
        rw [hx] at hi
        have HX := Lib.hid hx
        clear hx
        cases x with
        | false =>
          have hc := Lib.hid (K3.out trivial k hlt HX.out)
          go_wp2
          try rw [Exit.noGoto_ret]
          go_ret
          exact ⟨by rw [hc.out]; rfl, HKr.out⟩
        | true =>
          go_wp2
          go_roundw
          case rel =>
            refine ⟨k + 1, by omega, by go_num, HKr, fun j hj => ?_⟩
            rcases (by omega : j < k ∨ j = k) with h | rfl
            · exact hR.out j h
            · exact HX.out
          case measure => simp [intOf]; omega
      · obtain rfl : k = 7 := by omega
        have hc := Lib.hid (K2.out trivial hR.out)
        go_wp2
        try rw [Exit.noGoto_ret]
        go_ret
        exact ⟨by rw [hc.out]; rfl, HKr.out⟩

set_option maxRecDepth 100000 in
set_option maxHeartbeats 1000000 in
theorem hfits_any (h : Hd) (w : World) (D : List Nat) (g : Nat) (m : Dev) (hd : DV w D g m) : Calls Try.prog 118 #[h.v, .pointer (some ⟨g, 0, none⟩)] w fun x w' => x = .returned (.bool (decide (h.p.sec = m.n ∧ h.p.size = m.sz))) ∧ Keep [] w w' := by
  obtain ⟨⟨sec, size, reg, rs, lg, dep, mem, seed⟩, gen, page, stamp, hdep, log, hreg, time⟩ := h
  simp only [Hd.v, Hd.cells]
  have hA := heap_alloc_new w (.cells #[.int .i64 sec, .int .i64 size, .int .i64 reg, .int .i64 rs, .int .i64 lg, .int .i64 dep, .int .i64 mem, .int .u64 (seed : Int), .int .i64 gen, .int .i64 page, .int .i64 stamp, .int .i64 hdep, .int .i64 log, .int .i64 hreg, .int .i64 time] 123)
  have hK := (Keep.refl [] w).alloc (.cells #[.int .i64 sec, .int .i64 size, .int .i64 reg, .int .i64 rs, .int .i64 lg, .int .i64 dep, .int .i64 mem, .int .u64 (seed : Int), .int .i64 gen, .int .i64 page, .int .i64 stamp, .int .i64 hdep, .int .i64 log, .int .i64 hreg, .int .i64 time] 123)
  have hd1 := hd.keep hK (by simp)
  obtain ⟨F, hF⟩ : ∃ F : Bool, decide (sec = (m.n : Int) ∧ size = (m.sz : Int)) = F := ⟨_, rfl⟩
  rw [hF]
  have HF := Lib.hid hF
  clear hF
  have hKq : ∀ w', Keep [] (w.alloc (.cells #[.int .i64 sec, .int .i64 size, .int .i64 reg, .int .i64 rs, .int .i64 lg, .int .i64 dep, .int .i64 mem, .int .u64 (seed : Int), .int .i64 gen, .int .i64 page, .int .i64 stamp, .int .i64 hdep, .int .i64 log, .int .i64 hreg, .int .i64 time] 123)) w' → DV w' D g m := fun w' k => hd1.keep k (by simp)
  have HA := Lib.hid hA
  have HK := Lib.hid hK
  have HD := Lib.hid hKq
  clear hA hK hd hd1 hKq
  go_enter Try.func118, Try.ntmps118
  go_wp2_with fail
  by_cases z1 : sec = m.n
  · subst z1
    refine wp_region_his [] [] (fun _ => 0) (by kernel_rfl) (by kernel_rfl) ?_
    intro w1 hk1 hh1
    clear hh1
    have hA1 := hk1.blk (by simp) HA.out
    have q0 := fun w' (h' : Keep [] w1 w') => cell_of_row w' _ 0 _ _ _ (h'.blk (by simp) hA1)
    have q1 := fun w' (h' : Keep [] w1 w') => cell_of_row w' _ 1 _ _ _ (h'.blk (by simp) hA1)
    simp at q0 q1
    have HK1 := Lib.hid hk1
    clear hA1 hk1
    (repeat (first | (refine his_q rfl rfl (fun K hK => ?_); apply Exists.intro; refine ⟨fun w' hC => ?_, ?_⟩; ((try simp [Sg.upd] at hC); go_simp <;> rfl); go_simp; refine hK _ _ ?_; clear hK K) | (refine his_s rfl (fun K hK => ?_); go_simp; refine hK _ _ ?_; clear hK K)))
    refine his_c rfl rfl (.int .i64 (m.n : Int)) (fun K hK => ?_)
    refine ⟨fun w' hC => Yields.call 89 #[.pointer (some ⟨g, 0, none⟩)] ?_ (by kernel_rfl) ?_, ?_⟩
    · go_simp
    · have hC' : Keep [] w1 w' := hC
      exact sectors_any w' D g m (HD.out w' (HK1.out.trans hC'))
    go_simp
    refine hK _ _ ?_
    clear hK K
    (repeat (first | (refine his_q rfl rfl (fun K hK => ?_); apply Exists.intro; refine ⟨fun w' hC => ?_, ?_⟩; ((try simp [Sg.upd] at hC); go_simp <;> rfl); go_simp; refine hK _ _ ?_; clear hK K) | (refine his_s rfl (fun K hK => ?_); go_simp; refine hK _ _ ?_; clear hK K)))
    refine his_c rfl rfl (.int .i64 (m.sz : Int)) (fun K hK => ?_)
    refine ⟨fun w' hC => Yields.call 79 #[.pointer (some ⟨g, 0, none⟩)] ?_ (by kernel_rfl) ?_, ?_⟩
    · go_simp
    · have hC' : Keep [] w1 w' := hC
      exact size_dev_any w' D g m (HD.out w' (HK1.out.trans hC'))
    go_simp
    refine hK _ _ ?_
    clear hK K
    (repeat (first | (refine his_q rfl rfl (fun K hK => ?_); apply Exists.intro; refine ⟨fun w' hC => ?_, ?_⟩; ((try simp [Sg.upd] at hC); go_simp <;> rfl); go_simp; refine hK _ _ ?_; clear hK K) | (refine his_s rfl (fun K hK => ?_); go_simp; refine hK _ _ ?_; clear hK K)))
    refine his_nil ?_
    clear q0 q1
    go_wp2
    go_ret
    exact ⟨ret_bool2 (by rw [← HF.out]; simp; rfl), HK.out.trans HK1.out⟩
  · have z2 : (sec == (m.n : Int)) = false := by simp [z1]
    refine wp_region_his [] [] (fun _ => 0) (by kernel_rfl) (by kernel_rfl) ?_
    intro w1 hk1 hh1
    clear hh1
    have hA1 := hk1.blk (by simp) HA.out
    have q0 := fun w' (h' : Keep [] w1 w') => cell_of_row w' _ 0 _ _ _ (h'.blk (by simp) hA1)
    have q1 := fun w' (h' : Keep [] w1 w') => cell_of_row w' _ 1 _ _ _ (h'.blk (by simp) hA1)
    simp at q0 q1
    have HK1 := Lib.hid hk1
    clear hA1 hk1
    (repeat (first | (refine his_q rfl rfl (fun K hK => ?_); apply Exists.intro; refine ⟨fun w' hC => ?_, ?_⟩; ((try simp [Sg.upd] at hC); go_simp <;> rfl); go_simp; refine hK _ _ ?_; clear hK K) | (refine his_s rfl (fun K hK => ?_); go_simp; refine hK _ _ ?_; clear hK K)))
    refine his_c rfl rfl (.int .i64 (m.n : Int)) (fun K hK => ?_)
    refine ⟨fun w' hC => Yields.call 89 #[.pointer (some ⟨g, 0, none⟩)] ?_ (by kernel_rfl) ?_, ?_⟩
    · go_simp
    · have hC' : Keep [] w1 w' := hC
      exact sectors_any w' D g m (HD.out w' (HK1.out.trans hC'))
    go_simp
    refine hK _ _ ?_
    clear hK K
    (repeat (first | (refine his_q rfl rfl (fun K hK => ?_); apply Exists.intro; refine ⟨fun w' hC => ?_, ?_⟩; ((try simp [Sg.upd] at hC); go_simp <;> rfl); go_simp; refine hK _ _ ?_; clear hK K) | (refine his_s rfl (fun K hK => ?_); go_simp; refine hK _ _ ?_; clear hK K)))
    refine his_nil ?_
    clear q0 q1
    go_wp2
    go_ret
    exact ⟨ret_bool2 (by rw [← HF.out]; simp [z1]), HK.out.trans HK1.out⟩

set_option maxRecDepth 100000 in
set_option maxHeartbeats 1000000 in
set_option maxHeartbeats 4000000 in
theorem hpack_any (h : Hd) (hs : h.p.seed < 18446744073709551616) (w : World) : Calls Try.prog 61 #[h.v] w fun e w' => ∃ v', e = .returned (.tuple #[v', .int .i64 h.code]) ∧ OwnB w' w.heap.size 5 v' (if h.code = 0 then h.pack else []) ∧ Keep [] w w' := by
  have hR := hright_any h
  have hP := planPack_any h.p hs
  have hpk : h.pack = pk 8 [h.log, h.reg, h.time] (((h.p.pack ++ le (un h.page) 4) ++ le (un h.stamp) 8) ++ le (un h.dep) 1) := rfl
  have hpl := h.p.pack_len
  obtain ⟨rc, hrc⟩ : ∃ rc, h.code = rc := ⟨_, rfl⟩
  rw [hrc] at hR ⊢
  clear hrc
  obtain ⟨PK, hPK⟩ : ∃ PK, h.pack = PK := ⟨_, rfl⟩
  rw [hPK] at hpk ⊢
  clear hPK
  generalize h.p.pack = pp at hpk hpl hP
  obtain ⟨RES, hRES⟩ : ∃ RES, (if rc = 0 then PK else []) = RES := ⟨_, rfl⟩
  rw [hRES]
  have HRES := Lib.hid hRES
  clear hRES
  obtain ⟨⟨sec, size, reg, rs, lg, dep, mem, seed⟩, gen, page, stamp, hdep, log, hreg, time⟩ := h
  simp only [Hd.v, Hd.cells, Pl.v] at *
  have HPK := Lib.hid hpk
  have HP := Lib.hid hP
  have HPL := Lib.hid hpl
  have hI := index3 log hreg time
  have HI := Lib.hid hI
  clear hpk hP hpl hI
  have hA := heap_alloc_new w (.cells #[.int .i64 sec, .int .i64 size, .int .i64 reg, .int .i64 rs, .int .i64 lg, .int .i64 dep, .int .i64 mem, .int .u64 (seed : Int), .int .i64 gen, .int .i64 page, .int .i64 stamp, .int .i64 hdep, .int .i64 log, .int .i64 hreg, .int .i64 time] 123)
  have hK := (Keep.refl [] w).alloc (.cells #[.int .i64 sec, .int .i64 size, .int .i64 reg, .int .i64 rs, .int .i64 lg, .int .i64 dep, .int .i64 mem, .int .u64 (seed : Int), .int .i64 gen, .int .i64 page, .int .i64 stamp, .int .i64 hdep, .int .i64 log, .int .i64 hreg, .int .i64 time] 123)
  have hR1 := hR (w.alloc (.cells #[.int .i64 sec, .int .i64 size, .int .i64 reg, .int .i64 rs, .int .i64 lg, .int .i64 dep, .int .i64 mem, .int .u64 (seed : Int), .int .i64 gen, .int .i64 page, .int .i64 stamp, .int .i64 hdep, .int .i64 log, .int .i64 hreg, .int .i64 time] 123))
  have g0 := cell_of_row _ _ 0 _ _ _ hA
  have g1 := cell_of_row _ _ 1 _ _ _ hA
  have g2 := cell_of_row _ _ 2 _ _ _ hA
  have g3 := cell_of_row _ _ 3 _ _ _ hA
  have g4 := cell_of_row _ _ 4 _ _ _ hA
  have g5 := cell_of_row _ _ 5 _ _ _ hA
  have g6 := cell_of_row _ _ 6 _ _ _ hA
  have g7 := cell_of_row _ _ 7 _ _ _ hA
  have g8 := cell_of_row _ _ 8 _ _ _ hA
  have g9 := cell_of_row _ _ 9 _ _ _ hA
  have g10 := cell_of_row _ _ 10 _ _ _ hA
  have g11 := cell_of_row _ _ 11 _ _ _ hA
  have g12 := cell_of_row _ _ 12 _ _ _ hA
  have g13 := cell_of_row _ _ 13 _ _ _ hA
  have g14 := cell_of_row _ _ 14 _ _ _ hA
  simp at g0 g1 g2 g3 g4 g5 g6 g7 g8 g9 g10 g11 g12 g13 g14
  have HA := Lib.hid hA
  have HK := Lib.hid hK
  clear hA hK hR
  go_enter Try.func61, Try.ntmps61
  go_wp2_with fail
  refine hR1.mono ?_
  rintro x w2 ⟨rfl, hk2⟩
  have hA2 := hk2.blk (by simp) HA.out
  have hK2 := HK.out.trans hk2
  clear hR1 g0 g1 g2 g3 g4 g5 g6 g7 g8 g9 g10 g11 g12 g13 g14 hk2
  have HK2 := Lib.hid hK2
  have HA2 := Lib.hid hA2
  clear hK2 hA2
  by_cases hz : rc = 0
  · subst hz
    have q1 := un_wrap page
    have q2 := un_wrap stamp
    have q3 := un_wrap hdep
    go_wp2_with fail
    refine (newWriter_any 63 (by omega) _).mono ?_
    rintro x w3 ⟨g, rfl, s3⟩
    have hA3 := s3.1.blk (by simp) HA2.out
    have g0 := cell_of_row _ _ 0 _ _ _ hA3
    have g1 := cell_of_row _ _ 1 _ _ _ hA3
    have g2 := cell_of_row _ _ 2 _ _ _ hA3
    have g3 := cell_of_row _ _ 3 _ _ _ hA3
    have g4 := cell_of_row _ _ 4 _ _ _ hA3
    have g5 := cell_of_row _ _ 5 _ _ _ hA3
    have g6 := cell_of_row _ _ 6 _ _ _ hA3
    have g7 := cell_of_row _ _ 7 _ _ _ hA3
    simp at g0 g1 g2 g3 g4 g5 g6 g7
    go_wp2_with fail
    refine (HP.out _).mono ?_
    rintro x w4 ⟨v4, rfl, o4, k4⟩
    have hA4 := k4.blk (by simp) hA3
    have s4 := s3.keep k4
    clear g0 g1 g2 g3 g4 g5 g6 g7 hA3 s3
    go_wp2_with fail
    refine (raw_any _ g 63 _ _ pp _ s4 (o4.bytes (by rw [HPL.out]; decide)) (by have := HPL.out; simp; omega)).mono ?_
    rintro x w5 ⟨rfl, s5⟩
    have hA5 := s5.1.blk (by simp) HA2.out
    have g9 := cell_of_row _ _ 9 _ _ _ hA5
    simp at g9
    clear s4 o4 hA4
    go_wp2_with fail
    refine (putNumber_any _ g 63 _ (un page) 4 (un_lt _) (by omega) _ s5 (by have := HPL.out; simp; omega)).mono ?_
    rintro x w6 ⟨rfl, s6⟩
    have hA6 := s6.1.blk (by simp) HA2.out
    have g10 := cell_of_row _ _ 10 _ _ _ hA6
    simp at g10
    clear s5 g9 hA5
    go_wp2_with fail
    refine (putNumber_any _ g 63 _ (un stamp) 8 (un_lt _) (by omega) _ s6 (by have := HPL.out; simp [le_len]; omega)).mono ?_
    rintro x w7 ⟨rfl, s7⟩
    have hA7 := s7.1.blk (by simp) HA2.out
    have g11 := cell_of_row _ _ 11 _ _ _ hA7
    simp at g11
    clear s6 g10 hA6
    go_wp2_with fail
    refine (putNumber_any _ g 63 _ (un hdep) 1 (un_lt _) (by omega) _ s7 (by have := HPL.out; simp [le_len]; omega)).mono ?_
    rintro x w8 ⟨rfl, s8⟩
    have hA8 := s8.1.blk (by simp) HA2.out
    have g12 := cell_of_row _ _ 12 _ _ _ hA8
    have g13 := cell_of_row _ _ 13 _ _ _ hA8
    have g14 := cell_of_row _ _ 14 _ _ _ hA8
    simp at g12 g13 g14
    clear s7 g11 hA7 hA8
    have HL0 : Hid (((([] ++ pp) ++ le (un page) 4) ++ le (un stamp) 8) ++ le (un hdep) 1 = ((pp ++ le (un page) 4) ++ le (un stamp) 8) ++ le (un hdep) 1) := by show _ = _; simp
    rw [HL0.out] at s8
    have HLL : Hid ((((pp ++ le (un page) 4) ++ le (un stamp) 8) ++ le (un hdep) 1).length = 39) := by have := HPL.out; show _ = _; simp [le_len]; omega
    have HPK2 := HPK
    generalize ((pp ++ le (un page) 4) ++ le (un stamp) 8) ++ le (un hdep) 1 = X0 at s8 HLL HPK2
    go_wp2_with fail
    go_loopw [43] (fun i wr => ∃ k : Nat, k ≤ 3 ∧ i = .int .i64 k ∧ WS w2 wr g 63 (pk 8 ([log, hreg, time].take k) X0)) (fun i _ => 3 - (intOf i).toNat)
    case atStart => exact ⟨0, by omega, rfl, s8⟩
    case round =>
      obtain ⟨k, hk, rfl, sk⟩ := hrel
      by_cases hlt : k < 3
      · have hi := HI.out k hlt
        obtain ⟨n, hn⟩ : ∃ n, [log, hreg, time].getD k 0 = n := ⟨_, rfl⟩
        rw [hn] at hi
        have hq := un_wrap n
        have hnext : Hid (pk 8 ([log, hreg, time].take k) X0 ++ le (un n) 8 = pk 8 ([log, hreg, time].take (k + 1)) X0) := by
          show _ = _
          rw [List.take_succ_eq_append_getElem (by simpa using hlt), pk_snoc]
          congr 3
          rw [← hn]
          simp [List.getD_eq_getElem?_getD, hlt]
        have hlen : (pk 8 ([log, hreg, time].take k) X0).length + 8 ≤ 63 := by rw [pk_len, List.length_take, HLL.out]; simp; omega
        clear hn
        generalize pk 8 ([log, hreg, time].take k) X0 = xs at sk hnext hlen
        have hlt' : (k : Int) < 3 := by omega
        go_wp2_with fail
        refine (putNumber_any _ g 63 xs (un n) 8 (un_lt n) (by omega) _ sk hlen).mono ?_
        rintro x w9 ⟨rfl, s9⟩
        rw [hnext.out] at s9
        go_wp2_with fail
        go_roundw
        case rel => exact ⟨k + 1, by omega, by go_num, s9⟩
        case measure => simp [intOf]; omega
      · have htk : [log, hreg, time].take k = [log, hreg, time] := List.take_of_length_le (by simp; omega)
        rw [htk, ← HPK2.out] at sk
        have hge : ¬ (k : Int) < 3 := by omega
        go_wp2_with fail
        refine (wbytes_any _ g 63 _ _ sk).mono ?_
        rintro x w12 ⟨v', rfl, ho, hk12, hk12'⟩
        go_wp2_with fail
        refine bodyPost_ret (results_tmp2 rfl _ _ _) rfl ?_
        exact ⟨v', rfl, by rw [← HRES.out, if_pos (by trivial)]; exact ho.base (HK2.out.trans sk.1).size, HK2.out.trans hk12⟩
  · have hz' : (rc != 0) = true := by simpa using hz
    go_wp2
    refine bodyPost_ret (results_tmp2 rfl _ _ _) rfl ?_
    exact ⟨_, rfl, by rw [← HRES.out, if_neg hz]; exact OwnB.nil _ _ _, HK2.out⟩
end Go.Proofs.Ytijljdcpajjhhaa
