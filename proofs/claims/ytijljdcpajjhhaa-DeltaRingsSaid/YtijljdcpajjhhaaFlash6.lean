import Derived.Test.YtijljdcpajjhhaaFlash5
/-! The walk of flash's Sync. -/
namespace Go.Proofs.Ytijljdcpajjhhaa
open Go.RowKit Sg
set_option linter.unusedSimpArgs false
set_option linter.unusedVariables false

theorem looseFold_succ {ls : List (Nat × List UInt8)} {f : List (List UInt8)} {j : Nat} (hj : j < ls.length) :
    (ls.take (j + 1)).foldl (fun f p => f.set p.1 p.2) f = ((ls.take j).foldl (fun f p => f.set p.1 p.2) f).set ls[j].1 ls[j].2 := by
  rw [List.take_succ_eq_append_getElem hj, List.foldl_append]
  rfl

set_option maxRecDepth 100000 in
set_option maxHeartbeats 1000000 in
set_option maxHeartbeats 4000000 in
theorem sync_any (w : World) (D : List Nat) (g : Nat) (m : Dev) (h : DV w D g m) (hacts : m.acts ≤ 1000000000) :
    Calls Try.prog 42 #[.pointer (some ⟨g, 0, none⟩)] w fun e w' => e = .returned (.int .i64 (m.sync.2 : Int)) ∧ ∃ D', DV w' D' g m.sync.1 ∧ Grew w D D' ∧ Keep D w w' := by
  cases hdown : m.down with
  | true =>
    have e1 : m.sync = (m, 4) := by simp [Dev.sync, hdown]
    rw [e1]
    obtain ⟨fm, pm, lv, hrow⟩ := h.row
    have c7 := hrow.c7
    rw [hdown] at c7
    have H := Lib.hid h
    clear h hrow e1
    go_enter Try.func42, Try.ntmps42
    go_wp2
    go_ret
    exact ⟨rfl, D, H.out, Grew.refl _ _, Keep.refl _ _⟩
  | false =>
    obtain ⟨hw, fm, pm, lv, fv, pv, h⟩ := h
    have hact := act_any w g m fm pm lv h.row hacts hw.ar
    have c7 := h.rowD.c7
    rw [hdown] at c7
    cases hdn : m.act.down with
    | true =>
      have e1 : m.sync = (m.act, 4) := by simp [Dev.sync, hdown, hdn]
      rw [e1]
      rw [hdn] at hact
      have H := Lib.hid h
      clear h e1
      go_enter Try.func42, Try.ntmps42
      go_wp2_with fail
      refine hact.mono ?_
      rintro e w2 ⟨rfl, hr2, hk2, hs2⟩
      go_wp2
      go_ret
      have h := H.out
      exact ⟨rfl, D, ⟨hw.act, fm, pm, lv, fv, pv, h.turn2 hk2 (CellsOf.one h.row (by decide)) hr2 rfl rfl rfl rfl (h.loose.move hk2 (NotT.row h.row (by decide)) (NotT.row h.row (by decide)) (fun _ h => h)) (fun _ h => h) (fun b hb => by rw [hs2]; exact h.lt b hb)⟩, Grew.refl _ _, hk2.mono (fun b hb => by rw [List.mem_singleton] at hb; rw [hb]; exact h.inG)⟩
    | false =>
      have e1 : m.sync = (m.synced, 0) := by simp [Dev.sync, hdown, hdn]
      rw [e1]
      rw [hdn] at hact
      obtain ⟨la, lc, rfl⟩ := h.loose.form
      have hll : m.loose.length ≤ 1000000000 := Nat.le_trans hw.ll hacts
      have H := Lib.hid h
      have HDn := Lib.hid hdn
      clear h e1 hdn
      go_enter Try.func42, Try.ntmps42
      go_wp2_with fail
      refine hact.mono ?_
      rintro e w2 ⟨rfl, hr2, hk2, hs2⟩
      have h := H.out
      have h2 : DevAt w2 D g m.act fm pm (.slice la m.loose.length lc) fv pv := h.turn2 hk2 (CellsOf.one h.row (by decide)) hr2 rfl rfl rfl rfl (h.loose.move hk2 (NotT.row h.row (by decide)) (NotT.row h.row (by decide)) (fun _ h => h)) (fun _ h => h) (fun b hb => by rw [hs2]; exact h.lt b hb)
      have hKD : Keep D w w2 := hk2.mono (fun b hb => by rw [List.mem_singleton] at hb; rw [hb]; exact h.inG)
      have c3 := hr2.c3
      clear h hact c7 hr2 hk2 hs2
      go_wp2
      go_loopw [22] (fun i wr => ∃ (j : Nat) (fv' : Nat → Option Value) (D' : List Nat), j ≤ m.loose.length ∧ i = .int .i64 j ∧ Hid (DevAt wr D' g { m.act with fast := (m.loose.take j).foldl (fun f p => f.set p.1 p.2) m.fast } fm pm (.slice la m.loose.length lc) fv' pv) ∧ Hid (Grew w D D') ∧ Hid (Keep D w wr)) (fun i _ => m.loose.length - (intOf i).toNat)
      case atStart => exact ⟨0, fv, D, by omega, rfl, h2, Grew.refl _ _, hKD⟩
      case round =>
        obtain ⟨j, fv', D', hj, rfl, HD, HG, HK⟩ := hrel
        by_cases hlt : j < m.loose.length
        · have h3 := HD.out
          obtain ⟨b, cap, v, e1, a0, a1, ho, hoD, hbD, hcap1, hcap2⟩ := LooseV.at (ls := m.loose) h3.loose j hlt
          obtain rfl : la = some ⟨b, 0, none⟩ := by injection e1
          obtain ⟨hp1, hp2⟩ := hw.ls m.loose[j] (List.getElem_mem hlt)
          have hbv := ho.bytes (by have := hw.s2; omega)
          obtain ⟨va, vc, rfl, -⟩ := hbv.form
          rw [hp2] at hbv a1
          have s2 := hw.s2
          have n2 := hw.n2
          have hA := (Keep.refl [] wr).alloc (.cells #[.int .i64 (m.loose[j].1 : Int), .slice va m.sz vc] 156)
          have hB := heap_alloc_new wr (.cells #[.int .i64 (m.loose[j].1 : Int), .slice va m.sz vc] 156)
          have HB := Lib.hid hB
          have HA := Lib.hid hA
          have HV := Lib.hid hbv
          have H3 := Lib.hid h3
          have HLT := Lib.hid hlt
          clear e1 ho hoD hB hA h3 hbv
          go_wp2_with fail
          refine wp_region_his [] [9, 10] (fun _ => 0) (by kernel_rfl) (by kernel_rfl) ?_
          intro w5 hk5 hh
          clear hh
          have hk35 : Keep [] wr w5 := HA.out.trans hk5
          have h5 := H3.out.rowD.keep hk35 (by simp)
          have hB5 := hk5.blk (by simp) HB.out
          have q2 := fun w' (h' : Keep [] w5 w') => h'.cell (p := ⟨g, 2, none⟩) (by simp) h5.c2
          have qB0 := fun w' (h' : Keep [] w5 w') => cell_of_row w' _ 0 _ _ _ (h'.blk (by simp) hB5)
          have qB1 := fun w' (h' : Keep [] w5 w') => cell_of_row w' _ 1 _ _ _ (h'.blk (by simp) hB5)
          simp at qB0 qB1
          clear h5 hB5 a0 a1
          (repeat (first | (refine his_q rfl rfl (fun K hK => ?_); apply Exists.intro; refine ⟨fun w' hC => ?_, ?_⟩; ((try simp [Sg.upd] at hC); go_simp <;> rfl); go_simp; refine hK _ _ ?_; clear hK K) | (refine his_s rfl (fun K hK => ?_); go_simp; refine hK _ _ ?_; clear hK K)))
          (refine his_l rfl rfl (fun K hK => ?_); go_simp)
          refine (clone_any _ m.loose[j].2 _ (HV.out.keep hk35 (by simp))).mono ?_
          rintro x w6 ⟨v6, rfl, ho6, hk6⟩
          refine hK _ _ hk6 ?_
          clear hK K
          have h3 := H3.out
          have hk36 := hk35.trans hk6
          obtain ⟨w7, hrun, hM, hk7, hs7⟩ := (h3.fast.keep hk36 (by simp)).store Try.underlying3 Try.underlying147 m.loose[j].1 hp1 (show m.n ≤ 1000000000 by omega) v6
          have HR := Lib.hid hrun
          clear hrun
          refine his_last rfl (by kernel_rfl) rfl (fun K hK => ?_)
          refine loudly_mapUpdate_run (.tmp 29) (.tmp 32) (.tmp 35) 147 rfl (mv := .map (some fm)) (xv := .int .i64 (m.loose[j].1 : Int)) (yv := v6) (w' := w7) rfl rfl rfl HR.out ?_
          refine hK _ _ ?_
          clear hK K q2 qB0 qB1
          refine his_nil ?_
          have hk37 : Keep [fm] wr w7 := (hk36.mono (by simp)).trans hk7
          have hm6 : MapV Try.prog 3 w6 fm m.n fv' := h3.fast.keep hk36 (by simp)
          have ho7 : OwnB w7 0 5 v6 m.loose[j].2 := ownB_move (ho6.base (Nat.zero_le _)) hk7 (NotT.map hm6)
          have hD' : ∀ b ∈ D', b ∈ D' ++ newer wr w7 := fun b hb => List.mem_append_left _ hb
          have hin : inD (D' ++ newer wr w7) v6 := fun b hb => by
            refine List.mem_append_right _ (mem_newer.2 ⟨?_, ownsRow_lt ho7 hb⟩)
            have := hk35.size
            rcases ho6.2 with ⟨rfl, -⟩ | ⟨g', cap', cur, rfl, h1, -⟩
            · simp [Value.ownBlock] at hb
            · simp [Value.ownBlock] at hb
              omega
          have hnew := h3.fastTurn (m' := { m.act with fast := (m.loose.take (j + 1)).foldl (fun f p => f.set p.1 p.2) m.fast }) hk37 hD' (fun b hb => by
            rcases List.mem_append.1 hb with h | h
            · exact Nat.lt_of_lt_of_le (h3.lt b h) hk37.size
            · exact (mem_newer.1 h).2) hM ho7 hin (by rw [looseFold_succ HLT.out]; rfl)
          have hG : Grew w D (D' ++ newer wr w7) := HG.out.trans (Grew.newer wr w7 D') HK.out.size
          have hKK : Keep D w w7 := keep_bump HK.out hk37 (fun b hb => by
            rw [List.mem_singleton] at hb
            rw [hb]
            exact HG.out.2 _ h3.inF)
          clear hin hD' ho7 hm6 hk37 hM hk7 hs7 ho6 hk6 hk36 h3 hk35 hk5
          go_wp2
          go_roundw
          case rel => exact ⟨j + 1, _, _, HLT.out, by go_num, hnew, hG, hKK⟩
          case measure => have := HLT.out; simp [intOf]; omega
        · have h3 := HD.out
          have hr3 := h3.rowD
          have c3 := hr3.c3
          have f3 := hr3.free 3
          have hks : Keep [g] wr (wr.setCell ⟨g, 3, none⟩ (.slice none 0 0)) := (Keep.refl _ _).setCell (.inl (by simp)) _
          have e2 : m.loose.take j = m.loose := List.take_of_length_le (by omega)
          have hfin : DevAt (wr.setCell ⟨g, 3, none⟩ (.slice none 0 0)) D' g m.synced fm pm (.slice none 0 0) fv' pv := by
            rw [e2] at h3 hr3
            exact h3.turn2 hks (CellsOf.one h3.row (by decide)) ((hr3.set 3 (.slice none 0 0)).trans (by simp [devCells, Dev.synced])) rfl rfl rfl rfl ⟨[], World.ownsRow_nil _ _ _ _, fun b hb => by simp [Value.ownBlock] at hb, rfl, fun i v l h => by simp at h⟩ (fun _ h => h) (fun b hb => by simpa using h3.lt b hb)
          have hKK : Keep D w (wr.setCell ⟨g, 3, none⟩ (.slice none 0 0)) := keep_bump HK.out hks (fun b hb => by
            rw [List.mem_singleton] at hb
            rw [hb]
            exact HG.out.2 _ h3.inG)
          have HF := Lib.hid hfin
          clear h3 hr3 hfin hks e2
          go_wp2
          go_ret
          exact ⟨rfl, D', ⟨hw.synced, fm, pm, _, _, _, HF.out⟩, HG.out, hKK⟩
end Go.Proofs.Ytijljdcpajjhhaa
