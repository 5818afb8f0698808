import Derived.Test.YtjkjiabfhhnngaaLeafFoul2
import Derived.Test.YtjkjiabfhhnngaaStormDev
import Derived.Test.YtjkjiabfhhnngaaRegLaw
/-! The walk of the law's foul: if it says no, each sector that is a leaf was given. -/
namespace Go.Proofs.Ytjkjiabfhhnngaa
open Go.RowKit Go.Shelf Sg
set_option linter.unusedSimpArgs false
set_option linter.unusedVariables false

set_option maxRecDepth 100000 in
set_option maxHeartbeats 1000000 in
set_option maxHeartbeats 4000000 in
theorem foul11_any (w : World) (D : List Nat) (g : Nat) (m : Dev) (h : DV w D g m) (hdn : m.down = false) (hacts : m.acts ≤ 1000000000) :
    Calls Try.prog 57 #[.pointer (some ⟨g, 0, none⟩)] w fun e w' => ∃ b : Bool, e = .returned (.bool b) ∧ (b = false → Clean m) ∧ Keep [] w w' := by
  have HH := Lib.hid h
  obtain ⟨N, hN⟩ : ∃ N, m.n = N := ⟨_, rfl⟩
  have hNb : N ≤ 16384 := by rw [← hN]; exact h.1.n2
  have HN := Lib.hid hN
  have HDN := Lib.hid hdn
  clear hN h hdn
  go_enter Try.func57, Try.ntmps57
  go_wp2
  go_loopw [3] (fun i wr => ∃ k : Nat, k ≤ N ∧ i = .int .i64 k ∧ Hid (∀ a, a < k → LeafOk (m.get a) → m.get a ∈ m.pasts (a : Int)) ∧ Hid (Keep [] w wr)) (fun i _ => N - (intOf i).toNat)
  case atStart => exact ⟨0, by omega, rfl, Lib.hid (fun a ha => by omega), Lib.hid (Keep.refl _ _)⟩
  case round =>
    obtain ⟨k, hk, rfl, HC, HK⟩ := hrel
    rename World => wr2
    have hDr := HH.out.keep HK.out (by simp)
    have cS := sectors_any wr2 D g m hDr
    rw [HN.out] at cS
    by_cases hkN : k < N
    · have hki : (k : Int) < (N : Int) := by omega
      have hru := read_up HDN.out (n := k) (by rw [HN.out]; exact hkN)
      have hlen : (m.get k).length = m.sz := Dev.get_length hDr.1 (by rw [HN.out]; exact hkN)
      have s1 := hDr.1.s1
      have s2 := hDr.1.s2
      have cR := read_any wr2 D g m hDr hacts (k : Int)
      have cP := fun w' (h' : Keep [] wr2 w') => past_any w' D g m (hDr.keep h' (by simp)) hacts (k : Int)
      rw [hru] at cR
      have hpo := pasts_ok hDr.1 (k : Int)
      obtain ⟨bl, hbl⟩ : ∃ bl, m.get k = bl := ⟨_, rfl⟩
      rw [hbl] at cR hlen
      have HBL := Lib.hid hbl
      have CP := Lib.hid cP
      have hl96 : 96 ≤ bl.length ∧ bl.length ≤ 512 := by omega
      have HLEN := Lib.hid hlen
      have hs512 : m.sz ≤ 512 := s2
      clear hDr cP hru hbl hlen s1 s2
      go_wp2_with fail
      refine cS.mono ?_
      rintro e w5 ⟨rfl, rfl⟩
      clear cS
      go_wp2_with fail
      refine cR.mono ?_
      rintro e w6 ⟨v6, rfl, ho6, hk6⟩
      clear cR
      obtain ⟨va6, vc6, rfl⟩ := ownsRow_form ho6
      have hb6 := ho6.bytes (by omega)
      have cRR := refRead_in _ bl w6 hb6 (by omega)
      have HB6 := Lib.hid (And.intro hb6 hk6)
      clear ho6 hb6 hk6
      go_wp2_with fail
      refine cRR.mono ?_
      rintro e w8 ⟨hk8', hor⟩
      clear cRR
      obtain ⟨y0, y1, y2, ys, fc, rfl, HY⟩ : ∃ y0 y1 y2 ys fc, e = .returned (.tuple #[.agg #[.int .i64 y0, .int .i64 y1, .int .i64 y2, .string ys], .int .i64 fc]) ∧
          Hid ((LeafOk bl ∧ fc = 0) ∨ (¬ LeafOk bl ∧ fc = 5)) := by
        rcases hor with ⟨h1, h2⟩ | ⟨h1, h2⟩
        · exact ⟨_, _, _, _, _, h2, .inl ⟨h1, rfl⟩⟩
        · exact ⟨0, 0, 0, _, 5, h2, .inr ⟨h1, rfl⟩⟩
      have hA8 := (Keep.refl [] w8).alloc (.cells #[.int .i64 y0, .int .i64 y1, .int .i64 y2, .string ys] 67)
      have HK9 := Lib.hid (And.intro (HK.out.trans (HB6.out.2.trans (hk8'.trans hA8))) (hk8'.trans hA8))
      clear hor hk8' hA8
      rcases HY.out with ⟨hok, rfl⟩ | ⟨hno, rfl⟩
      · have HOK := Lib.hid hok
        have cP := CP.out (w8.alloc (.cells #[.int .i64 y0, .int .i64 y1, .int .i64 y2, .string ys] 67)) (HB6.out.2.trans HK9.out.2)
        obtain ⟨lst, hlst⟩ : ∃ lst, m.pasts (k : Int) = lst := ⟨_, rfl⟩
        rw [hlst] at cP hpo
        have hpoB := hpo.1
        have HPO := Lib.hid hpo
        have hbx6 := HB6.out.1.keep HK9.out.2 (by simp)
        have HBX := Lib.hid hbx6
        clear HY hok hpo hbx6 CP
        go_wp2_with fail
        refine cP.mono ?_
        rintro e w10 ⟨v10, rfl, ho10, hk10⟩
        clear cP
        obtain ⟨a10, c10, rfl⟩ := ho10.form
        obtain ⟨M, hM⟩ : ∃ M, lst.length = M := ⟨_, rfl⟩
        rw [hM]
        have hMb : M ≤ 1000000001 := by have := hpoB; omega
        have HM := Lib.hid hM
        have HO10 := Lib.hid (And.intro ho10 hk10)
        have HLS := Lib.hid hlst
        clear hM ho10 hk10 hlst hpoB
        go_wp2
        go_loopw [8, 10] (fun gv i wr => ∃ (j2 : Nat) (gb : Bool), j2 ≤ M ∧ i = .int .i64 j2 ∧ gv = .bool gb ∧ Hid (gb = true ↔ bl ∈ lst.take j2) ∧ Hid (Keep [] w10 wr)) (fun _ i _ => M - (intOf i).toNat)
        case atStart => exact ⟨0, false, by omega, rfl, rfl, Lib.hid (by simp), Lib.hid (Keep.refl _ _)⟩
        case round =>
          obtain ⟨j2, gb, hj2, rfl, rfl, HG, HK2⟩ := hrel
          rename World => wr3
          by_cases hjM : j2 < M
          · have hjMi : (j2 : Int) < (M : Int) := by omega
            obtain ⟨gbk, u, rfl, hcell, hob⟩ := pastO_at (HO10.out.1.keep HK2.out (by simp)) (j := j2) (by rw [HM.out]; omega)
            obtain ⟨x, hx⟩ : ∃ x, lst[j2]'(by rw [HM.out]; omega) = x := ⟨_, rfl⟩
            rw [hx] at hob
            have hxl : x.length = m.sz := HPO.out.2 x (by rw [← hx]; exact List.getElem_mem _)
            have hbx := hob.bytes (by omega)
            have hbb := (HBX.out.keep HO10.out.2 (by simp)).keep HK2.out (by simp)
            obtain ⟨ua, uc, rfl, -⟩ := hbx.form
            have hgt : (gb = true ∨ x = bl) ↔ bl ∈ lst.take (j2 + 1) := by
              rw [List.take_succ_eq_append_getElem (by rw [HM.out]; omega), hx, List.mem_append, List.mem_singleton, ← HG.out]
              exact or_congr Iff.rfl eq_comm
            have HGT := Lib.hid hgt
            have HXC := Lib.hid (And.intro hcell (And.intro hbx hbb))
            clear hgt hob hbx hbb hcell hx hxl
            go_upto_region 14 with fail
            refine wp_region_his [] [] (fun _ => 0) (by kernel_rfl) (by kernel_rfl) ?_
            intro w11 hk11 hh
            clear hh
            have y1 := fun w' (h' : Keep [] w11 w') => (hk11.trans h').cell (by simp) HXC.out.1
            have q1 := fun w' (h' : Keep [] w11 w') => run_str (P := Try.prog) 42 9 5 Try.underlying42 Try.underlying5 Try.underlying9 (HXC.out.2.1.keep (hk11.trans h') (by simp))
            have q2 := fun w' (h' : Keep [] w11 w') => run_str (P := Try.prog) 42 9 5 Try.underlying42 Try.underlying5 Try.underlying9 (HXC.out.2.2.keep (hk11.trans h') (by simp))
            have hK11 := Lib.hid (HK2.out.trans hk11)
            clear hk11
            cases gb with
            | true =>
              (repeat (first | (refine his_q rfl rfl (fun K hK => ?_); apply Exists.intro; refine ⟨fun w' hC => ?_, ?_⟩; ((try simp [Sg.upd] at hC); go_simp <;> rfl); go_simp; refine hK _ _ ?_; clear hK K) | (refine his_s rfl (fun K hK => ?_); go_simp; refine hK _ _ ?_; clear hK K)))
              refine his_nil ?_
              clear y1 q1 q2
              go_wp2
              go_roundw
              case rel => exact ⟨j2 + 1, true, by omega, by go_num, rfl, Lib.hid (iff_of_true rfl (HGT.out.1 (.inl rfl))), hK11⟩
              case measure => simp [intOf]; omega
            | false =>
              by_cases hxb : x = bl
              · have hq : (x == bl) = true := by simpa using hxb
                have HXB := Lib.hid hxb
                clear hxb
                (repeat (first | (refine his_q rfl rfl (fun K hK => ?_); apply Exists.intro; refine ⟨fun w' hC => ?_, ?_⟩; ((try simp [Sg.upd] at hC); go_simp <;> rfl); go_simp; refine hK _ _ ?_; clear hK K) | (refine his_s rfl (fun K hK => ?_); go_simp; refine hK _ _ ?_; clear hK K)))
                refine his_nil ?_
                clear y1 q1 q2
                go_wp2
                go_roundw
                case rel => exact ⟨j2 + 1, true, by omega, by go_num, rfl, Lib.hid (iff_of_true rfl (HGT.out.1 (.inr HXB.out))), hK11⟩
                case measure => simp [intOf]; omega
              · have hq : (x == bl) = false := by simpa using hxb
                have HXB := Lib.hid hxb
                clear hxb
                (repeat (first | (refine his_q rfl rfl (fun K hK => ?_); apply Exists.intro; refine ⟨fun w' hC => ?_, ?_⟩; ((try simp [Sg.upd] at hC); go_simp <;> rfl); go_simp; refine hK _ _ ?_; clear hK K) | (refine his_s rfl (fun K hK => ?_); go_simp; refine hK _ _ ?_; clear hK K)))
                refine his_nil ?_
                clear y1 q1 q2
                go_wp2
                go_roundw
                case rel => exact ⟨j2 + 1, false, by omega, by go_num, rfl, Lib.hid (iff_of_false (by simp) (fun h => (HGT.out.2 h).elim (fun h => by cases h) HXB.out)), hK11⟩
                case measure => simp [intOf]; omega
          · have hjMi : ¬ (j2 : Int) < (M : Int) := by omega
            have hall : gb = true ↔ bl ∈ m.pasts (k : Int) := by
              have h1 := HG.out
              rw [List.take_of_length_le (by rw [HM.out]; omega)] at h1
              rw [HLS.out]
              exact h1
            have HALL := Lib.hid hall
            have HKA := Lib.hid (HK9.out.1.trans (HO10.out.2.trans HK2.out))
            clear hall
            cases gb with
            | true =>
              go_wp2
              go_roundw
              case rel =>
                refine ⟨k + 1, by omega, by go_num, Lib.hid (fun a ha hok => ?_), HKA⟩
                by_cases hak : a = k
                · subst hak
                  rw [HBL.out]
                  exact HALL.out.1 rfl
                · exact HC.out a (by omega) hok
              case measure => simp [intOf]; omega
            | false =>
              go_wp2
              go_ret
              exact .inr ⟨rfl, HKA.out⟩
      · have HNO := Lib.hid hno
        clear hno HY
        go_wp2
        go_roundw
        case rel =>
          refine ⟨k + 1, by omega, by go_num, Lib.hid (fun a ha hok => ?_), Lib.hid HK9.out.1⟩
          by_cases hak : a = k
          · subst hak
            rw [HBL.out] at hok
            exact absurd hok HNO.out
          · exact HC.out a (by omega) hok
        case measure => simp [intOf]; omega
    · have hki : ¬ (k : Int) < (N : Int) := by omega
      clear hDr
      go_wp2_with fail
      refine cS.mono ?_
      rintro e w5 ⟨rfl, rfl⟩
      clear cS
      go_wp2
      go_ret
      exact ⟨false, rfl, fun _ a ha hok => HC.out a (by rw [HN.out] at ha; omega) hok, HK.out⟩
end Go.Proofs.Ytjkjiabfhhnngaa
