import Derived.Test.YtjkjiabfhhnngaaWheelAw
import Derived.Test.YtjkjiabfhhnngaaWActs
import Derived.Test.YtjkjiabfhhnngaaWOnceM
/-! The walk of the law WheelOnce. -/
namespace Go.Proofs.Ytjkjiabfhhnngaa
open Go.RowKit Go.Shelf Sg
set_option linter.unusedSimpArgs false
set_option linter.unusedVariables false

set_option maxRecDepth 100000 in
set_option maxHeartbeats 1000000 in
set_option maxHeartbeats 8000000 in
theorem wheelOnceWalk (W : World) (vl : Value) (l : List WAct) (hl : WActs W vl l) :
    Calls Try.prog 8 #[vl] W fun e W' => e = .returned (.bool true) ∧ Below W.heap.size W W' := by
  obtain ⟨ao, cap, rfl, hlc, -, -⟩ := hl.form
  have HS := Lib.hid hl
  clear hl
  have cN := newWheel_any W
  by_cases hlen : 100 < l.length
  · have hlen' : (100 : Int) < (l.length : Int) := by omega
    go_enter Try.func8, Try.ntmps8
    go_wp2
    go_ret
    exact ⟨rfl, Below.refl _ _⟩
  have hlen' : ¬ (100 : Int) < (l.length : Int) := by omega
  go_enter Try.func8, Try.ntmps8
  go_wp2_with fail
  refine cN.mono ?_
  clear cN
  rintro e w1 ⟨g, D, rfl, hv1, hD, hk1⟩
  have HLD := Lib.hid (And.intro hv1.lt hD)
  have H1 := Lib.hid (And.intro hv1 hk1)
  have hs1 := hk1.size
  clear hv1 hk1 hD
  go_wp2
  go_loopw [4] (fun i wr => ∃ (j : Nat) (m : Wm), j ≤ l.length ∧ i = .int .i64 j ∧ Hid (WV wr D g m) ∧ Hid (Wo j m) ∧ Hid (Keep [] W wr) ∧ w1.heap.size ≤ wr.heap.size) (fun i _ => l.length - (intOf i).toNat)
  case atStart => exact ⟨0, Wm.new, by omega, rfl, Lib.hid H1.out.1, Lib.hid ⟨rfl, by simp [Wm.new], by simp [Wm.new]⟩, Lib.hid H1.out.2, Nat.le_refl _⟩
  case round =>
    obtain ⟨j, m, hj, rfl, HV, HO, HW, hsz⟩ := hrel
    by_cases hlt : j < l.length
    · obtain ⟨b, o, rfl, hcs⟩ := HS.out.spot hlt
      have hok := HS.out.each hlt
      obtain ⟨q, hq⟩ : ∃ q, l[j] = q := ⟨_, rfl⟩
      rw [hq] at hcs hok
      have hcs' : ∀ w', Keep [] wr w' → _ := fun w' h' => hcs w' (HW.out.trans h')
      obtain ⟨a, ha1, ha2, hae⟩ := tick_once q.n
      go_upto_region 7 with fail
      refine wp_region_his [] [15] (fun _ => 0) (by kernel_rfl) (by kernel_rfl) ?_
      intro wx hkx hhx
      clear hhx
      have q1 := fun w' (h' : Keep [] wx w') => (hcs' w' (hkx.trans h')).2.1
      have q2 := fun w' (h' : Keep [] wx w') => (hcs' w' (hkx.trans h')).2.2.1
      (repeat (first | (refine his_q rfl rfl (fun K hK => ?_); apply Exists.intro; refine ⟨fun w' hC => ?_, ?_⟩; ((try simp [Sg.upd] at hC); go_simp <;> rfl); go_simp; refine hK _ _ ?_; clear hK K) | (refine his_s rfl (fun K hK => ?_); go_simp; refine hK _ _ ?_; clear hK K)))
      have hput := put_any wx D g m (HV.out.keep hkx (by simp)) q.num a (i64_wf hok.s1 hok.s2) (by have := HO.out.l; omega)
      refine his_last rfl (by kernel_rfl) rfl (fun K hK => ?_)
      go_simp
      try rw [hae]
      refine hput.mono ?_
      clear hput
      rintro e w3 ⟨rfl, hv3, hk3⟩
      refine hK _ _ ?_
      clear hK K
      refine his_nil ?_
      try simp only [Act.put]
      have H3 := Lib.hid (And.intro hv3 (And.intro (HO.out.put q.num a ha1 ha2) (And.intro ((HW.out.trans hkx).trans' hk3 (fun b hb => .inr (HLD.out.2 b hb))) (show w1.heap.size ≤ w3.heap.size by have := hkx.size; have := hk3.size; omega))))
      clear hv3 hkx hk3 q1 q2 hcs hcs' hok HV HO HW
      go_wp2
      go_roundw
      case rel => exact ⟨j + 1, _, by omega, by go_num, Lib.hid H3.out.1, Lib.hid H3.out.2.1, Lib.hid H3.out.2.2.1, H3.out.2.2.2⟩
      case measure => simp [intOf]; omega
    · clear H1
      have hln := len_any wr D g m HV.out
      obtain ⟨L, hL⟩ : ∃ L, m.ths = L := ⟨_, rfl⟩
      have h0 := HO.out.t
      rw [hL] at hln
      have hv0 : WV wr D g { time := 0, ths := L.drop 0 } := by
        rw [List.drop_zero, ← hL, ← h0]
        exact HV.out
      have hwf := HV.out.1
      have hord := hwf.ord
      have hnd := hwf.nd
      have hr := HO.out.r
      have hL100 := HO.out.l
      rw [hL] at hord hnd hr hL100
      have HM := Lib.hid (And.intro hord (And.intro hnd (And.intro hr (show L.length ≤ 100 by omega))))
      have HV0 := Lib.hid hv0
      clear hwf hord hnd hr hL100 hv0 h0 hL HV HO
      go_wp2_with fail
      refine hln.mono ?_
      clear hln
      rintro e w3 ⟨rfl, rfl⟩
      go_wp2
      go_loopw [5, 6, 7] (fun vn vt ti wr => ∃ (t j2 : Nat), t ≤ 300 ∧ j2 ≤ L.length ∧ ti = .int .i64 ((t + 1 : Nat) : Int) ∧ vn = .int .i64 ((L.length - j2 : Nat) : Int) ∧ Hid (WV wr D g { time := t, ths := L.drop j2 } ∧ (∀ p ∈ L.drop j2, t < p.2) ∧ RowE intE 1 3 wr w1.heap.size vt ((L.take j2).map (·.1)) ∧ Keep [] W wr ∧ w1.heap.size ≤ wr.heap.size)) (fun _ _ ti _ => 301 - (intOf ti).toNat)
      case atStart => exact ⟨0, 0, by omega, by omega, rfl, rfl, HV0.out, fun p hp => (HM.out.2.2.1 p hp).1, RowE.nil, HW.out, hsz⟩
      case round =>
        clear HV0 HW hsz
        obtain ⟨t, j2, ht, hj2, rfl, rfl, HR⟩ := hrel
        have hL100 : L.length ≤ 100 := HM.out.2.2.2
        by_cases hlt3 : t < 300
        · obtain ⟨va0, vc0, e7⟩ := HR.out.2.2.1.form
          rw [show ((L.take j2).map (·.1)).length = j2 by simp; omega] at e7
          subst e7
          obtain ⟨c, hc, hgo, hdue, hlater⟩ := go_once t (L.drop j2) (HM.out.1.sublist (List.drop_sublist _ _)) HR.out.2.1 (by omega)
          have hg1 : Calls Try.prog 65 #[.pointer (some ⟨g, 0, none⟩), .int .i64 1] wr _ := go_any wr D g _ HR.out.1 1 (by decide)
          rw [hgo, List.drop_drop] at hg1
          rw [List.length_drop] at hc
          have ht1 : ((t + 1 : Nat) : Int) ≤ 300 := by omega
          clear hgo
          go_wp2_with fail
          refine hg1.mono ?_
          clear hg1
          rintro e w4 ⟨v4, rfl, hr4, hv4, hk4⟩
          have htm := time_any w4 D g _ hv4
          simp only at htm
          obtain ⟨a4, c4, rfl⟩ := hr4.form
          rw [List.length_take, List.length_drop, Nat.min_eq_left hc] at *
          go_wp2_with fail
          refine htm.mono ?_
          clear htm
          rintro e w5 ⟨rfl, rfl⟩
          have hH : Hid (WV w4 D g { time := t + 1, ths := L.drop (j2 + c) } ∧ RowE intE 1 3 w4 w1.heap.size (.slice va0 j2 vc0) ((L.take (j2 + 0)).map (·.1)) ∧ RowE dueE 2 128 w4 w1.heap.size (.slice a4 c c4) ((L.drop j2).take c) ∧ Keep [] W w4 ∧ w1.heap.size ≤ w4.heap.size) := Lib.hid ⟨hv4, HR.out.2.2.1.keep hk4 (fun b hb hm => by
            have h5 := (HR.out.2.2.1.lt b hb).1
            have h6 := HLD.out.1 b hm
            omega), hr4.lower HR.out.2.2.2.2, HR.out.2.2.2.1.trans' hk4 (fun b hb => .inr (HLD.out.2 b hb)), by have := HR.out.2.2.2.2; have := hk4.size; omega⟩
          have HLT := Lib.hid hlater
          have HDU := Lib.hid hdue
          clear hr4 hv4 hk4 hlater hdue HR
          go_wp2
          go_loopw [5, 6, 10] (fun vn vt vi wr => ∃ (i : Nat), i ≤ c ∧ vi = .int .i64 (i : Int) ∧ vn = .int .i64 ((L.length - (j2 + i) : Nat) : Int) ∧ Hid (WV wr D g { time := t + 1, ths := L.drop (j2 + c) } ∧ RowE intE 1 3 wr w1.heap.size vt ((L.take (j2 + i)).map (·.1)) ∧ RowE dueE 2 128 wr w1.heap.size (.slice a4 c c4) ((L.drop j2).take c) ∧ Keep [] W wr ∧ w1.heap.size ≤ wr.heap.size)) (fun _ _ vi _ => c - (intOf vi).toNat)
          case atStart => exact ⟨0, by omega, rfl, rfl, hH⟩
          case round =>
            clear hH
            obtain ⟨i, hi, rfl, rfl, HI⟩ := hrel
            by_cases hltc : i < c
            · obtain ⟨va, vc, e7⟩ := HI.out.2.1.form
              rw [show ((L.take (j2 + i)).map (·.1)).length = j2 + i by simp; omega] at e7
              subst e7
              have hji : j2 + i < L.length := by omega
              obtain ⟨g4, rfl, hg4, q4⟩ := RowE.cells dueLies HI.out.2.2.1 (i := i) (by simp; omega)
              have hat : (((L.drop j2).take c)[i]'(by simp; omega)) = L[j2 + i] := by simp
              rw [hat] at q4
              have hL2 : L[j2 + i].2 = t + 1 := HDU.out _ (by
                rw [← hat]
                exact List.getElem_mem _)
              obtain ⟨n, hn⟩ : ∃ n, L[j2 + i].1 = n := ⟨_, rfl⟩
              have x0 := q4 0 (.int .i64 n) (by rw [← hn]; rfl)
              have x1 := q4 1 (.int .i64 ((t + 1 : Nat) : Int)) (by rw [← hL2]; rfl)
              have HQ := Lib.hid (And.intro hn (And.intro hL2 q4))
              clear hat hL2 hn q4
              rw [Nat.add_zero] at x0
              have hHI : Hid (WV _ D g { time := t + 1, ths := L.drop (j2 + c) } ∧ RowE intE 1 3 _ w1.heap.size (.slice va (j2 + i) vc) ((L.take (j2 + i)).map (·.1)) ∧ RowE dueE 2 128 _ w1.heap.size (.slice (some ⟨g4, 0, none⟩) c c4) ((L.drop j2).take c) ∧ Keep [] W _ ∧ w1.heap.size ≤ _) := Lib.hid HI.out
              go_wp2
              clear HI
              go_loopw [11] (fun vk wr => ∃ (k : Nat), k ≤ j2 + i ∧ vk = .int .i64 (k : Int) ∧ Hid (WV wr D g { time := t + 1, ths := L.drop (j2 + c) } ∧ RowE intE 1 3 wr w1.heap.size (.slice va (j2 + i) vc) ((L.take (j2 + i)).map (·.1)) ∧ RowE dueE 2 128 wr w1.heap.size (.slice (some ⟨g4, 0, none⟩) c c4) ((L.drop j2).take c) ∧ Keep [] W wr ∧ w1.heap.size ≤ wr.heap.size)) (fun vk _ => j2 + i - (intOf vk).toNat)
              case atStart => exact ⟨0, by omega, rfl, hHI⟩
              case round =>
                clear hHI x0 x1
                obtain ⟨k, hk, rfl, HI⟩ := hrel
                obtain ⟨g4', e4, -, q4⟩ := RowE.cells dueLies HI.out.2.2.1 (i := i) (by simp; omega)
                injection e4 with e4
                injection e4 with e4
                subst e4
                rw [show (((L.drop j2).take c)[i]'(by simp; omega)) = L[j2 + i] by simp] at q4
                have x0 := q4 0 (.int .i64 n) (by rw [← HQ.out.1]; rfl)
                rw [Nat.add_zero] at x0
                by_cases hkl : k < j2 + i
                · obtain ⟨gt, rfl, hgt, qt⟩ := RowE.cells intLies HI.out.2.1 (i := k) (by simp; omega)
                  rw [show (((L.take (j2 + i)).map (·.1))[k]'(by simp; omega)) = L[k].1 by simp] at qt
                  obtain ⟨n2, hn2⟩ : ∃ n2, L[k].1 = n2 := ⟨_, rfl⟩
                  have y0 := qt 0 (.int .i64 n2) (by rw [← hn2]; rfl)
                  simp only [Nat.mul_one, Nat.add_zero] at y0
                  have hne : n2 ≠ n := by
                    rw [← hn2, ← HQ.out.1]
                    exact nd_at HM.out.2.1 (by omega) hji hkl
                  clear qt q4 hn2
                  go_upto_region 24 with fail
                  refine wp_region_his [] [] (fun _ => 0) (by kernel_rfl) (by kernel_rfl) ?_
                  intro wx hkx hhx
                  have q1 := fun w' (h' : Keep [] wx w') => (hkx.trans h').cell (by simp) x0
                  have q2 := fun w' (h' : Keep [] wx w') => (hkx.trans h').cell (by simp) y0
                  (repeat (first | (refine his_q rfl rfl (fun K hK => ?_); apply Exists.intro; refine ⟨fun w' hC => ?_, ?_⟩; ((try simp [Sg.upd] at hC); go_simp <;> rfl); go_simp; refine hK _ _ ?_; clear hK K) | (refine his_s rfl (fun K hK => ?_); go_simp; refine hK _ _ ?_; clear hK K)))
                  refine his_nil ?_
                  have H3 := Lib.hid (And.intro (HI.out.1.keep hkx (by simp)) (And.intro (HI.out.2.1.keep hkx (by simp)) (And.intro (HI.out.2.2.1.keep hkx (by simp)) (And.intro (HI.out.2.2.2.1.trans hkx) (Nat.le_trans HI.out.2.2.2.2 hkx.size)))))
                  clear q1 q2 x0 y0 HI hhx hkx
                  go_wp2
                  go_roundw
                  case rel => exact ⟨k + 1, by omega, by go_num, H3⟩
                  case measure => simp [intOf]; omega
                · clear q4
                  obtain ⟨cs4, hb4⟩ := (HI.out.2.2.1.lt g4 rfl).2.2
                  have hne4 := HI.out.2.1.ne hb4 (by decide)
                  have hA5 := (Keep.refl [] wr).alloc (.cells (intE n).toArray 3)
                  obtain ⟨v5, w5, hrun, hO5, hk5, hloc⟩ := run_append_one (P := Try.prog) (ty := 35) intLies Try.underlying35 int_infoF rfl (by decide) (by decide) w1.heap.size (HI.out.2.1.keep hA5 (by simp)) wr.heap.size n (heap_alloc_new wr _) (by simp; omega) (by have := HI.out.2.2.2.2; have := hA5.size; omega)
                  obtain ⟨va', vc', e7⟩ := hO5.form
                  have htk : (L.take (j2 + i)).map (·.1) ++ [n] = (L.take (j2 + (i + 1))).map (·.1) := by
                    rw [← HQ.out.1, show j2 + (i + 1) = j2 + i + 1 by omega, List.take_succ_eq_append_getElem hji, List.map_append]
                    rfl
                  rw [htk] at hO5 e7
                  rw [show ((L.take (j2 + (i + 1))).map (·.1)).length = j2 + (i + 1) by simp; omega] at e7
                  subst e7
                  have hk45 := (hA5.mono (T := (Value.slice va (j2 + i) vc).ownBlock.toList) (by simp)).trans hk5
                  have hown : ∀ b ∈ (Value.slice va (j2 + i) vc).ownBlock.toList, w1.heap.size ≤ b ∧ b ≠ g4 := fun b hb => by
                    rw [Option.mem_toList] at hb
                    exact ⟨(HI.out.2.1.lt b hb).1, fun e => hne4 (by rw [hb, e])⟩
                  have H5 : Hid (WV w5 D g { time := t + 1, ths := L.drop (j2 + c) } ∧ RowE intE 1 3 w5 w1.heap.size (.slice va' (j2 + (i + 1)) vc') ((L.take (j2 + (i + 1))).map (·.1)) ∧ RowE dueE 2 128 w5 w1.heap.size (.slice (some ⟨g4, 0, none⟩) c c4) ((L.drop j2).take c) ∧ Keep [] W w5 ∧ w1.heap.size ≤ w5.heap.size) := Lib.hid ⟨HI.out.1.keep hk45 (fun b hb hm => by
                      have h5 := (hown b hb).1
                      have h6 := HLD.out.1 b hm
                      omega), hO5, HI.out.2.2.1.keep hk45 (fun b hb hm => by
                      simp [Value.ownBlock] at hb
                      exact (hown b hm).2 hb.symm), HI.out.2.2.2.1.trans' hk45 (fun b hb => .inr (by have := (hown b hb).1; omega)), Nat.le_trans HI.out.2.2.2.2 hk45.size⟩
                  have HRN := Lib.hid hrun
                  have hnn : IntKind.i64.wrap (((L.length - (j2 + i) : Nat) : Int) - 1) = ((L.length - (j2 + (i + 1)) : Nat) : Int) := by rw [i64_wrap (by omega) (by omega)]; omega
                  clear hrun hO5 hk5 hloc hA5 hk45 hown hne4 hb4 htk HI
                  go_wp2_with (at_builtin; refine wpList_append_run rfl (.tmp 86) (.tmp 92) 35 rfl (w' := w5) rfl rfl HRN.out ?_)
                  go_roundw
                  case rel => exact ⟨i + 1, by omega, by go_num, by first | rfl | exact congrArg _ hnn | rw [hnn], H5⟩
                  case measure => simp [intOf]; omega
            · have hic : i = c := by omega
              subst hic
              have HF := Lib.hid (And.intro HI.out.1 (And.intro HLT.out (And.intro HI.out.2.1 HI.out.2.2.2)))
              clear HDU HI
              go_wp2
              go_roundw
              case rel => exact ⟨t + 1, j2 + i, by omega, by omega, by go_num, rfl, by rw [← List.drop_drop]; rw [List.drop_drop]; exact Lib.hid ⟨HF.out.1, by rw [← List.drop_drop]; exact HF.out.2.1, HF.out.2.2⟩⟩
              case measure => simp [intOf]; omega
        · have ht3 : t = 300 := by omega
          subst ht3
          have hnil : L.drop j2 = [] := by
            cases hd : L.drop j2 with
            | nil => rfl
            | cons p r =>
              have h1 := HR.out.2.1 p (by rw [hd]; exact List.mem_cons_self)
              have h2 := (HM.out.2.2.1 p ((List.drop_sublist j2 L).subset (by rw [hd]; exact List.mem_cons_self))).2
              omega
          have hjL : L.length - j2 = 0 := by
            have := congrArg List.length hnil
            simpa using this
          rw [hjL]
          have hln := len_any _ D g _ HR.out.1
          rw [hnil] at hln
          have HK := Lib.hid HR.out.2.2.2.1
          clear HR HM
          go_wp2_with fail
          refine hln.mono ?_
          clear hln
          rintro e w6 ⟨rfl, rfl⟩
          go_wp2_with fail
          refine (awake24_any _).mono ?_
          rintro e w7 ⟨rfl, hk7⟩
          have HZ := Lib.hid (HK.out.trans hk7)
          clear hk7
          go_wp2
          go_ret
          exact ⟨rfl, HZ.out.below (Nat.le_refl _) (by simp)⟩
end Go.Proofs.Ytjkjiabfhhnngaa
