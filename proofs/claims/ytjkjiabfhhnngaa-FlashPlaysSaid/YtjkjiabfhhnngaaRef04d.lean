import Derived.Test.YtjkjiabfhhnngaaRef04b
/-! The document's device: a crash. -/
namespace Go.Proofs.Ytjkjiabfhhnngaa
open Go.RowKit Sg
set_option linter.unusedSimpArgs false
set_option linter.unusedVariables false

theorem torn_snoc (sz : Nat) (fates : List Int) (p : Nat × List UInt8) : ∀ (l : List (Nat × List UInt8)) (f : List (List UInt8)) (i : Nat), torn sz fates f i (l ++ [p]) = tear sz fates (torn sz fates f i l) (i + l.length) p
  | [], f, i => rfl
  | q :: l, f, i => by
    rw [List.cons_append]
    show torn sz fates (tear sz fates f i q) (i + 1) (l ++ [p]) = _
    rw [torn_snoc sz fates p l _ (i + 1)]
    show tear sz fates (torn sz fates (tear sz fates f i q) (i + 1) l) _ p = tear sz fates (torn sz fates (tear sz fates f i q) (i + 1) l) _ p
    rw [List.length_cons, show i + 1 + l.length = i + (l.length + 1) by omega]
theorem tmod_fix (x P : Int) (hP : 0 < P) : (if x.tmod P < 0 then x.tmod P + P else x.tmod P) = x % P := by
  rcases Int.le_total 0 x with h | h
  · have e : x.tmod P = x % P := Int.tmod_eq_emod_of_nonneg h
    have h1 := Int.emod_nonneg x (show P ≠ 0 by omega)
    rw [e, if_neg (by omega)]
  · have e := Int.neg_tmod x P
    have h1 : (-x).tmod P = (-x) % P := Int.tmod_eq_emod_of_nonneg (by omega)
    have h3 := Int.emod_nonneg (-x) (show P ≠ 0 by omega)
    have h4 := Int.emod_lt_of_pos (-x) hP
    have h6 := Int.mul_ediv_add_emod (-x) P
    obtain ⟨r, hr⟩ : ∃ r, (-x) % P = r := ⟨_, rfl⟩
    obtain ⟨q, hq⟩ : ∃ q, (-x) / P = q := ⟨_, rfl⟩
    rw [hr] at h1 h3 h4 h6
    rw [hq] at h6
    have h2 : x.tmod P = -r := by omega
    rw [h2]
    by_cases h0 : r = 0
    · subst h0
      have e1 : x = 0 + P * (-q) := by rw [Int.mul_neg]; omega
      have h5 : x % P = 0 := by rw [e1, Int.add_mul_emod_self_left]; rfl
      rw [h5]
      simp
    · have e1 : x = (P - r) + P * (-q - 1) := by rw [Int.mul_sub, Int.mul_neg, Int.mul_one]; omega
      have h5 : x % P = P - r := by rw [e1, Int.add_mul_emod_self_left, Int.emod_eq_of_lt (by omega) (by omega)]
      rw [h5, if_pos (by omega)]
      omega
theorem fate_tmod {fates : List Int} {sz i : Nat} (h : i < fates.length) : (if fates[i].tmod ((sz : Int) + 1) < 0 then fates[i].tmod ((sz : Int) + 1) + ((sz : Int) + 1) else fates[i].tmod ((sz : Int) + 1)) = (fate fates sz i : Int) := by
  have h2 := Int.emod_nonneg fates[i] (show (sz : Int) + 1 ≠ 0 by omega)
  have e : (fate fates sz i : Int) = fates[i] % ((sz : Int) + 1) := by
    unfold fate
    rw [if_pos h, List.getD_eq_getElem?_getD, List.getElem?_eq_getElem h]
    show (((fates[i]).emod ((sz : Int) + 1)).toNat : Int) = fates[i] % ((sz : Int) + 1)
    have : (fates[i]).emod ((sz : Int) + 1) = fates[i] % ((sz : Int) + 1) := rfl
    omega
  rw [e]
  exact tmod_fix _ _ (by omega)

theorem ext_join (a b : List UInt8) (k : Nat) : (⟨a.toArray⟩ : ByteArray).extract 0 k ++ (⟨b.toArray⟩ : ByteArray).extract k (⟨b.toArray⟩ : ByteArray).size = ⟨(a.take k ++ b.drop k).toArray⟩ := by
  apply ByteArray.ext
  rw [ByteArray.data_append, ByteArray.data_extract, ByteArray.data_extract]
  apply Array.ext'
  simp [ByteArray.size, List.extract_eq_take_drop]
  exact List.take_of_length_le (by rw [List.length_drop]; omega)

set_option maxRecDepth 100000 in
set_option maxHeartbeats 1000000 in
set_option maxHeartbeats 8000000 in
theorem refCrash4_any (m : Dev) (hwf : m.Wf) (hacts : m.acts ≤ 100000) (fv lv pv : Value) (w : World) (P : Nat → Prop) (HP : Hid (∀ b, w.heap.size ≤ b → P b)) (hv : RDV P w fv lv pv m) (cv : Value) (fates : List Int) (hf : Ints w cv fates) :
    Calls Try.prog 25 #[.agg (d4cells m fv lv pv), cv] w fun e w' => ∃ fv' lv' pv', e = .returned (.agg (d4cells (m.crash fates) fv' lv' pv')) ∧ RDV P w' fv' lv' pv' (m.crash fates) ∧ Keep [] w w' := by
  obtain ⟨ca, cc, rfl, -⟩ := hf.form
  have HF := Lib.hid hf
  clear hf
  have hll := hwf.ll
  have hn1 := hwf.n1
  have hn2 := hwf.n2
  have hfl := hwf.fl
  have har := hwf.ar
  obtain ⟨fa, fc, rfl⟩ := hv.fast.form
  obtain ⟨la, lc, rfl⟩ := hv.loose.form
  obtain ⟨vs, hpr, hvl, hvp⟩ := hv.past
  obtain ⟨pa, pc, rfl⟩ := hpr.form
  obtain ⟨N, hN⟩ : ∃ N, m.fast.length = N := ⟨_, rfl⟩
  obtain ⟨L, hL⟩ : ∃ L, m.loose.length = L := ⟨_, rfl⟩
  obtain ⟨PN, hPN⟩ : ∃ PN, vs.length = PN := ⟨_, rfl⟩
  have hmn : m.n = N := by rw [← hfl, hN]
  have HV := Lib.hid (And.intro hv (And.intro hN (And.intro hL (And.intro hmn (And.intro hPN (And.intro hpr (And.intro hvl hvp)))))))
  have hLb : L ≤ 100000 := by omega
  have hNb : N ≤ 16384 := by omega
  have hN1 : 1 ≤ N := by omega
  obtain ⟨B, hB⟩ : ∃ B, w.heap.size = B := ⟨_, rfl⟩
  have HB := Lib.hid hB
  have hA0 : ((w.alloc (.cells (d4cells m (.slice fa N fc) (.slice la L lc) (.slice pa PN pc)) 33)).alloc (.cells z4cells 33)).heap[B]? = some (.cells (d4cells m (.slice fa N fc) (.slice la L lc) (.slice pa PN pc)) 33 (0, 0)) := by
    rw [← hB]
    exact ((Keep.refl [] _).alloc _).blk (by simp) (heap_alloc_new w _)
  have hR0 : ((w.alloc (.cells (d4cells m (.slice fa N fc) (.slice la L lc) (.slice pa PN pc)) 33)).alloc (.cells z4cells 33)).heap[B + 1]? = some (.cells z4cells 33 (0, 0)) := by
    rw [← hB]
    exact heap_alloc2_new w _ _
  have hK0 : Keep [] w ((w.alloc (.cells (d4cells m (.slice fa N fc) (.slice la L lc) (.slice pa PN pc)) 33)).alloc (.cells z4cells 33)) := ((Keep.refl [] w).alloc _).alloc _
  rw [hN, hL, hPN]
  have hsz := hwf.s2
  simp only [d4cells, z4cells] at hA0 hR0 hK0 ⊢
  have HWF := Lib.hid hwf
  have hBw : B + 2 ≤ ((w.alloc (.cells #[.int .i64 (m.sz : Int), .slice fa N fc, .slice la L lc, .slice pa PN pc, .int .i64 (m.armed : Int), .int .i64 (m.acts : Int), .bool m.down] 33)).alloc (.cells #[.int .i64 0, .slice none 0 0, .slice none 0 0, .slice none 0 0, .int .i64 0, .int .i64 0, .bool false] 33)).heap.size := by rw [World.size_alloc, World.size_alloc, hB]; omega
  clear hv hpr hvl hvp hN hL hmn hPN hfl hll hn1 hn2
  go_enter Try.func25, Try.ntmps25
  go_upto_region 1 with fail
  clear hB
  generalize (w.alloc (.cells #[.int .i64 (m.sz : Int), .slice fa N fc, .slice la L lc, .slice pa PN pc, .int .i64 (m.armed : Int), .int .i64 (m.acts : Int), .bool m.down] 33)).alloc (.cells #[.int .i64 0, .slice none 0 0, .slice none 0 0, .slice none 0 0, .int .i64 0, .int .i64 0, .bool false] 33) = w4 at *
  have kA5 := (Keep.refl [] w4).alloc (.cells #[] 9)
  have lit5 : SRow4 (w4.alloc (.cells #[] 9)) w4.heap.size (.slice (some ⟨w4.heap.size, 0, none⟩) 0 0) [] := row_lit (enc := s4enc) (k := 1) (t := 9) w4 [] (by simp) rfl
  have fo5 := HV.out.1.fast.keep (hK0.trans kA5) (by simp)
  rw [HV.out.2.1] at fo5
  obtain ⟨v6, w6, hrun6, ho6, hk6, hl6⟩ := run_append_row (P := Try.prog) (ty := 29) s4lies Try.underlying29 s4_info rfl (by decide) (by decide) w4.heap.size lit5 fo5 (by simp; rw [HV.out.2.1]; omega) kA5.size
  rw [List.nil_append] at ho6
  obtain ⟨a6, c6', rfl⟩ := ho6.form
  rw [HV.out.2.1] at hrun6 ho6
  obtain ⟨g6, rfl, hg6, -⟩ := RowE.cells s4lies ho6 (i := 0) (by rw [HV.out.2.1]; omega)
  have k46 : Keep [] w4 w6 := kA5.trans' hk6 (fun b hb => .inr (by simp [Value.ownBlock] at hb; omega))
  have e5 := cell_of_row _ _ 1 _ _ _ (kA5.blk (by simp) hA0)
  have e6 := cell_of_row _ _ 1 _ _ _ (k46.blk (by simp) hA0)
  have f6 := frozen_of_row w6 B 1 _ _ (k46.blk (by simp) hA0)
  simp at e5 e6
  have HR6 := Lib.hid hrun6
  have H6 := Lib.hid (And.intro ho6 (And.intro k46 hg6))
  have H4 := Lib.hid (And.intro hA0 (And.intro hR0 hK0))
  clear hrun6 ho6 hk6 hl6 k46 kA5 lit5 fo5 hA0 hR0 hK0 hg6
  go_upto_region 2 with (at_builtin; refine wpList_append_run rfl (.tmp 8) (.tmp 10) 29 rfl (w' := w6) rfl rfl HR6.out ?_)
  clear e5 e6 f6 HR6
  have hA7 := heap_setCell_same w6 B 1 _ _ (.slice (some ⟨g6, 0, none⟩) N c6') (H6.out.2.1.blk (by simp) H4.out.1)
  simp only [List.setIfInBounds_toArray, List.set_cons_zero, List.set_cons_succ] at hA7
  have k67 : Keep [B] w6 (w6.setCell ⟨B, 1, none⟩ (.slice (some ⟨g6, 0, none⟩) N c6')) := (Keep.refl _ _).setCell (.inl (by simp)) _
  have hR7 := k67.blk (by simp) (H6.out.2.1.blk (by simp) H4.out.2.1)
  have hK7 : Keep [] w (w6.setCell ⟨B, 1, none⟩ (.slice (some ⟨g6, 0, none⟩) N c6')) := (H4.out.2.2.trans H6.out.2.1).trans' k67 (fun b hb => .inr (by have := HB.out; simp at hb; omega))
  have ho7 := H6.out.1.keep k67 (fun b hb hm => by have := (H6.out.1.lt b hb).1; simp at hm; omega)
  have hs7 : (w6.setCell ⟨B, 1, none⟩ (.slice (some ⟨g6, 0, none⟩) N c6')).heap.size = w6.heap.size := World.size_setCell _ _ _
  generalize w6.setCell ⟨B, 1, none⟩ (.slice (some ⟨g6, 0, none⟩) N c6') = w7 at *
  have hg6lt := (ho7.lt g6 rfl).2.1
  have hg6B : B + 2 ≤ g6 := by have := H6.out.2.2; omega
  have H7 := Lib.hid (And.intro hA7 (And.intro hR7 (And.intro hK7 ho7)))
  clear hA7 hR7 hK7 ho7 k67 hs7
  have zw1 : IntKind.i64.wrap ((m.sz : Int) + 1) = (m.sz : Int) + 1 := i64_wrap (by omega) (by omega)
  go_wp2
  go_loopw [5] (fun i wr => ∃ j : Nat, j ≤ L ∧ i = .int .i64 (j : Int) ∧ Hid (Keep [g6] w7 wr) ∧ Hid (SRow4 wr w4.heap.size (.slice (some ⟨g6, 0, none⟩) N c6') (torn m.sz fates m.fast 0 (m.loose.take j)))) (fun i _ => L - (intOf i).toNat)
  case atStart => exact ⟨0, by omega, rfl, Lib.hid (Keep.refl _ _), Lib.hid H7.out.2.2.2⟩
  case round =>
    obtain ⟨j, hj, rfl, HK, HO⟩ := hrel
    rename World => wr
    have hkwr : Keep [] w wr := H7.out.2.2.1.trans' HK.out (fun b hb => .inr (by have := HB.out; simp at hb; omega))
    have hAr := HK.out.blk (by simp; omega) H7.out.1
    have d0 := cell_of_row wr _ 0 _ _ _ hAr
    have d2 := cell_of_row wr _ 2 _ _ _ hAr
    simp at d0 d2
    by_cases hjL : j < L
    · have hji : (j : Int) < (L : Int) := by omega
      have hjl : j < m.loose.length := by rw [HV.out.2.2.1]; exact hjL
      obtain ⟨FL, hFL⟩ : ∃ FL, fates.length = FL := ⟨_, rfl⟩
      have HFL := Lib.hid hFL
      rw [hFL]
      have hcf := HF.out.keep hkwr (by simp)
      obtain ⟨fk, hfk⟩ : ∃ fk, fate fates m.sz j = fk := ⟨_, rfl⟩
      have hfkle : fk ≤ m.sz := by rw [← hfk]; exact fate_le _ _ _
      have HFK := Lib.hid hfk
      have HCF := Lib.hid hcf
      have HAR := Lib.hid hAr
      have HKWR := Lib.hid hkwr
      clear hFL hfk hcf hAr hkwr
      go_upto_if 23 with fail
      go_cut [6] from 23 to 38 (fun s wx => s = .int .i64 (fk : Int) ∧ Hid (Keep [] wr wx))
      case first =>
        by_cases hjf : j < FL
        · have hjfi : (j : Int) < (FL : Int) := by omega
          have hjf2 : j < fates.length := by rw [HFL.out]; exact hjf
          obtain ⟨cb, co, rfl, -, hcc⟩ := HCF.out.spot (by omega)
          have hft := fate_tmod (sz := m.sz) hjf2
          rw [HFK.out] at hft
          have hrange := HF.out.range _ (List.getElem_mem hjf2)
          obtain ⟨x, hx⟩ : ∃ x, fates[j] = x := ⟨_, rfl⟩
          rw [hx] at hft hrange
          obtain ⟨q, hq⟩ : ∃ q, x.tmod ((m.sz : Int) + 1) = q := ⟨_, rfl⟩
          have hq1 := Int.tmod_lt_of_pos x (show (0 : Int) < (m.sz : Int) + 1 by omega)
          have hq2 := Int.lt_tmod_of_pos x (show (0 : Int) < (m.sz : Int) + 1 by omega)
          rw [hq] at hft hq1 hq2
          have zw2 : IntKind.i64.wrap q = q := i64_wrap (by omega) (by omega)
          have zw3 : IntKind.i64.wrap (q + ((m.sz : Int) + 1)) = q + ((m.sz : Int) + 1) := i64_wrap (by omega) (by omega)
          have hne : ((m.sz : Int) + 1 == 0) = false := beq_false_of_ne (by omega)
          have hne' : ¬ (m.sz : Int) + 1 = 0 := by omega
          go_upto_region 7 with fail
          refine wp_region_his [] [] (fun _ => 0) (by kernel_rfl) (by kernel_rfl) ?_
          intro w8 hk8 hh
          clear hh
          have u0 := fun w' (h' : Keep [] w8 w') => cell_of_row w' _ 0 _ _ _ ((hk8.trans h').blk (by simp) HAR.out)
          have y0 : ∀ w', Keep [] w8 w' → w'.cell? ⟨cb, co + j, none⟩ = some (.int .i64 x) := fun w' h' => (hk8.trans h').cell (by simp) (by rw [hcc j hjf2, hx])
          simp at u0
          (repeat (first | (refine his_q rfl rfl (fun K hK => ?_); apply Exists.intro; refine ⟨fun w' hC => ?_, ?_⟩; ((try simp [Sg.upd] at hC); go_simp <;> rfl); go_simp; refine hK _ _ ?_; clear hK K) | (refine his_s rfl (fun K hK => ?_); go_simp; refine hK _ _ ?_; clear hK K)))
          refine his_nil ?_
          have HK8 := Lib.hid hk8
          have e0 := u0 w8 (Keep.refl _ _)
          clear u0 y0 d0 d2 hcc hx hjf2 hk8
          by_cases hqn : q < 0
          · rw [if_pos hqn] at hft
            have HFT := Lib.hid hft
            clear hft
            go_wp2_with fail
            go_meet
            case rel => exact ⟨by rw [HFT.out], HK8⟩
          · rw [if_neg hqn] at hft
            have HFT := Lib.hid hft
            clear hft
            go_wp2_with fail
            go_meet
            case rel => exact ⟨by rw [HFT.out], HK8⟩
        · have hjfi : ¬ (j : Int) < (FL : Int) := by omega
          have hz : fk = 0 := by
            rw [← HFK.out]
            unfold fate
            rw [if_neg (by rw [HFL.out]; exact hjf)]
          have HZ := Lib.hid hz
          clear hz
          go_wp2_with fail
          go_meet
          case rel => exact ⟨by rw [HZ.out]; rfl, Lib.hid (Keep.refl _ _)⟩
      case rest =>
      obtain ⟨rfl, HKC⟩ := hcut
      have hpw := HWF.out.ls m.loose[j] (List.getElem_mem hjl)
      have hst := torn_snoc m.sz fates m.loose[j] (m.loose.take j) m.fast 0
      rw [← List.take_succ_eq_append_getElem hjl, List.length_take, Nat.min_eq_left (by omega), Nat.zero_add] at hst
      have hlr := HV.out.1.loose.keep (HKWR.out.trans HKC.out) (by simp)
      obtain ⟨gl, rfl, -, hcl⟩ := RowE.cells w4lies hlr hjl
      obtain ⟨p, hp⟩ : ∃ p, m.loose[j] = p := ⟨_, rfl⟩
      rw [hp] at hcl hst hpw
      obtain ⟨pk, pb⟩ := p
      have y0 := hcl 0 _ rfl
      have y1 := hcl 1 _ rfl
      simp only [Nat.add_zero] at y0
      have c2 := cell_of_row wc _ 2 _ _ _ (HKC.out.blk (by simp) HAR.out)
      simp at c2
      have hpkN : pk < N := by have := hpw.1; have h2 := HV.out.2.2.2.1; simp only at this; omega
      have hpl : pb.length = m.sz := hpw.2
      have HPL := Lib.hid hpl
      have HST := Lib.hid hst
      clear hst hpw hlr hcl hp hpl d0 d2
      go_upto_region 11 with fail
      have hbox := heap_alloc_new wc (.cells #[.int .i64 (pk : Int), .string ⟨pb.toArray⟩] 181)
      have kbox := (Keep.refl [] wc).alloc (.cells #[.int .i64 (pk : Int), .string ⟨pb.toArray⟩] 181)
      clear y0 y1 c2
      refine wp_region_his [] [18] (fun _ => 0) (by kernel_rfl) (by kernel_rfl) ?_
      intro w9 hk9 hh
      clear hh
      have hkr9 := HKC.out.trans (kbox.trans hk9)
      have u1 := fun w' (h' : Keep [] w9 w') => cell_of_row w' _ 1 _ _ _ ((hkr9.trans h').blk (by simp) HAR.out)
      have b0 := fun w' (h' : Keep [] w9 w') => cell_of_row w' _ 0 _ _ _ ((hk9.trans h').blk (by simp) hbox)
      have b1 := fun w' (h' : Keep [] w9 w') => cell_of_row w' _ 1 _ _ _ ((hk9.trans h').blk (by simp) hbox)
      simp at u1 b0 b1
      have ho9 := HO.out.keep hkr9 (by simp)
      have htl : (torn m.sz fates m.fast 0 (m.loose.take j)).length = N := by
        have h1 := (torn_lens (n := m.n) fates (m.loose.take j) m.fast 0 ⟨HWF.out.fl, HWF.out.fs⟩ (fun q hq => HWF.out.ls q (List.take_subset _ _ hq))).1
        rw [h1, HV.out.2.2.2.1]
      have htk := (torn_lens (n := m.n) fates (m.loose.take j) m.fast 0 ⟨HWF.out.fl, HWF.out.fs⟩ (fun q hq => HWF.out.ls q (List.take_subset _ _ hq))).2 pk (by rw [htl]; exact hpkN)
      obtain ⟨sv, hsv⟩ : ∃ sv, (torn m.sz fates m.fast 0 (m.loose.take j))[pk]'(by rw [htl]; exact hpkN) = sv := ⟨_, rfl⟩
      have z0 : ∀ w', Keep [] w9 w' → w'.cell? ⟨g6, pk * 1 + 0, none⟩ = some (.string ⟨sv.toArray⟩) := fun w' h' => by
        obtain ⟨g', e', -, hc⟩ := RowE.cells s4lies (ho9.keep h' (by simp)) (i := pk) (by rw [htl]; exact hpkN)
        cases e'
        rw [hsv] at hc
        exact hc 0 _ rfl
      simp only [Nat.mul_one, Nat.add_zero] at z0
      rw [hsv] at htk
      have hpki : (pk : Int) < (N : Int) := by omega
      have hpk0 : (0 : Int) ≤ (pk : Int) := by omega
      have hfki : (fk : Int) ≤ (m.sz : Int) := by omega
      have hfk0 : (0 : Int) ≤ (fk : Int) := by omega
      obtain ⟨PB, hPB⟩ : ∃ PB : ByteArray, ⟨pb.toArray⟩ = PB := ⟨_, rfl⟩
      obtain ⟨SV, hSV⟩ : ∃ SV : ByteArray, ⟨sv.toArray⟩ = SV := ⟨_, rfl⟩
      rw [hPB] at b1
      rw [hSV] at z0
      have hs1 : (fk : Int) ≤ (PB.size : Int) := by rw [← hPB]; show (fk : Int) ≤ ((pb.toArray.size : Nat) : Int); rw [List.size_toArray, HPL.out]; exact hfki
      have hs2 : (fk : Int) ≤ (SV.size : Int) := by rw [← hSV]; show (fk : Int) ≤ ((sv.toArray.size : Nat) : Int); rw [List.size_toArray, htk]; exact hfki
      have HPB := Lib.hid (And.intro hPB hSV)
      clear hPB hSV
      have hx1 : (PB.extract 0 fk).size ≤ 512 := by rw [ByteArray.size_extract]; omega
      have hx2 : (SV.extract fk SV.size).size ≤ 512 := by rw [ByteArray.size_extract]; have h1 := congrArg ByteArray.size HPB.out.2; simp only [ByteArray.size_mk', List.size_toArray] at h1; omega
      obtain ⟨XA, hXA⟩ : ∃ x, PB.extract 0 fk = x := ⟨_, rfl⟩
      obtain ⟨XB, hXB⟩ : ∃ x, SV.extract fk SV.size = x := ⟨_, rfl⟩
      rw [hXA] at hx1
      rw [hXB] at hx2
      have hx3 : ¬ 9223372036854775807 < XA.size + XB.size := by omega
      have hjoin : XA ++ XB = ⟨(pb.take fk ++ sv.drop fk).toArray⟩ := by
        rw [← hXA, ← hXB, ← HPB.out.1, ← HPB.out.2]
        exact ext_join _ _ _
      have hstep : torn m.sz fates m.fast 0 (m.loose.take (j + 1)) = (torn m.sz fates m.fast 0 (m.loose.take j)).set pk (pb.take fk ++ sv.drop fk) := by
        rw [HST.out]
        unfold tear
        simp only [HFK.out]
        rw [List.getD_eq_getElem?_getD, List.getElem?_eq_getElem (by rw [htl]; exact hpkN), hsv]
        rfl
      have zf : w9.frozen? ⟨g6, pk, none⟩ = false := by
        obtain ⟨-, hcs⟩ := ho9
        rcases hcs with ⟨e1, -⟩ | ⟨g', cap, cur, e1, -, hg, -⟩
        · cases e1
        · cases e1
          exact frozen_of_row _ _ _ _ _ hg
      have zz := z0 w9 (Keep.refl _ _)
      have hset := row_set1 s4lies ho9 (j := pk) (by rw [htl]; exact hpkN) (x := pb.take fk ++ sv.drop fk) (u := .string ⟨(pb.take fk ++ sv.drop fk).toArray⟩) rfl
      rw [← hstep, ← hjoin] at hset
      have HSET := Lib.hid hset
      have HK9 := Lib.hid (HK.out.trans (hkr9.mono (by simp)))
      clear hset hjoin hstep ho9 htl htk hsv hkr9 hbox kbox
      (repeat (first | (refine his_q rfl rfl (fun K hK => ?_); apply Exists.intro; refine ⟨fun w' hC => ?_, ?_⟩; ((try simp [Sg.upd] at hC); go_simp <;> rfl); go_simp; refine hK _ _ ?_; clear hK K) | (refine his_s rfl (fun K hK => ?_); go_simp; refine hK _ _ ?_; clear hK K)))
      (refine his_last rfl (by kernel_rfl) rfl (fun K hK => ?_); go_simp)
      refine hK _ _ ?_
      clear hK K hXA hXB
      refine his_nil ?_
      clear u1 b0 b1 z0 zf zz
      go_wp2
      go_roundw
      case rel => exact ⟨j + 1, by omega, by go_num, Lib.hid (HK9.out.setCell (.inl (by simp)) _), HSET⟩
      case measure => simp [intOf]; omega
    · have hji : ¬ (j : Int) < (L : Int) := by omega
      have hje : m.loose.take j = m.loose := List.take_of_length_le (by rw [HV.out.2.2.1]; omega)
      rw [hje] at HO
      have f2 := frozen_of_row wr B 2 _ _ hAr
      have f4 := frozen_of_row wr B 4 _ _ hAr
      have f6 := frozen_of_row wr B 6 _ _ hAr
      have d4 := cell_of_row wr _ 4 _ _ _ hAr
      have d6 := cell_of_row wr _ 6 _ _ _ hAr
      simp at d4 d6
      have HAR := Lib.hid hAr
      have HKWR := Lib.hid hkwr
      clear hje hAr hkwr
      go_upto_region 13 with fail
      clear d0 d2 d4 d6 f2 f4 f6
      have hA9 := heap_setCell_same _ B 6 _ _ (.bool false) (heap_setCell_same _ B 4 _ _ (.int .i64 0) (heap_setCell_same wr B 2 _ _ (.slice none 0 0) HAR.out))
      simp only [List.setIfInBounds_toArray, List.set_cons_zero, List.set_cons_succ] at hA9
      have k9 : Keep [B] wr (((wr.setCell ⟨B, 2, none⟩ (.slice none 0 0)).setCell ⟨B, 4, none⟩ (.int .i64 0)).setCell ⟨B, 6, none⟩ (.bool false)) := (((Keep.refl _ _).setCell (.inl (by simp)) _).setCell (.inl (by simp)) _).setCell (.inl (by simp)) _
      have hR9 := k9.blk (by simp) (HK.out.blk (by simp; omega) H7.out.2.1)
      have hK9 : Keep [] w (((wr.setCell ⟨B, 2, none⟩ (.slice none 0 0)).setCell ⟨B, 4, none⟩ (.int .i64 0)).setCell ⟨B, 6, none⟩ (.bool false)) := HKWR.out.trans' k9 (fun b hb => .inr (by have := HB.out; simp at hb; omega))
      have ho9 := HO.out.keep k9 (fun b hb hm => by simp [Value.ownBlock] at hb; simp at hm; omega)
      generalize ((wr.setCell ⟨B, 2, none⟩ (.slice none 0 0)).setCell ⟨B, 4, none⟩ (.int .i64 0)).setCell ⟨B, 6, none⟩ (.bool false) = w9 at *
      have c0 := cell_of_row w9 _ 0 _ _ _ hA9
      have c1 := cell_of_row w9 _ 1 _ _ _ hA9
      have c2 := cell_of_row w9 _ 2 _ _ _ hA9
      have c3 := cell_of_row w9 _ 3 _ _ _ hA9
      have c4 := cell_of_row w9 _ 4 _ _ _ hA9
      have c5 := cell_of_row w9 _ 5 _ _ _ hA9
      have c6 := cell_of_row w9 _ 6 _ _ _ hA9
      simp at c0 c1 c2 c3 c4 c5 c6
      have HR9 := Lib.hid hR9
      have H9 := Lib.hid (And.intro hK9 ho9)
      clear hA9 k9 hR9 hK9 ho9
      go_wp2_with (refine wpList_store_row rfl 33 (.tmp 4) (.tmp 65) rfl (B + 1) #[.int .i64 (m.sz : Int), .slice (some ⟨g6, 0, none⟩) N c6', .slice none 0 0, .slice pa PN pc, .int .i64 0, .int .i64 (m.acts : Int), .bool false] rfl rfl 33 _ HR9.out (by kernel_rfl) (by rfl) (by kernel_rfl) ?_)
      refine bodyPost_ret (results_cell_row rfl _ _ (B + 1) 33 _ _ _ rfl (setRow_heap _ _ _ _ _ _ HR9.out) Try.underlying33 rfl (by kernel_rfl)) rfl ?_
      have k10 : Keep [B + 1] w9 (w9.setRow (B + 1) #[.int .i64 (m.sz : Int), .slice (some ⟨g6, 0, none⟩) N c6', .slice none 0 0, .slice pa PN pc, .int .i64 0, .int .i64 (m.acts : Int), .bool false]) := (Keep.refl _ _).setRow (.inl (by simp)) _
      have hk10 := H9.out.1.trans' k10 (fun b hb => .inr (by have := HB.out; simp at hb; omega))
      have ho10 := H9.out.2.keep k10 (fun b hb hm => by simp [Value.ownBlock] at hb; simp at hm; omega)
      have h := (HV.out.1.keep hk10).past
      rw [HV.out.2.2.2.2.1] at h
      exact ⟨.slice (some ⟨g6, 0, none⟩) N c6', .slice none 0 0, .slice pa PN pc, rfl, ⟨ho10.lower (Nat.zero_le _), RowE.nil, h, fun b hb => HP.out b (by have h1 := (ho10.lt b hb).1; have h2 := HB.out; omega), fun b hb => (by cases hb), by have h1 := HV.out.1.pP; rw [HV.out.2.2.2.2.1] at h1; exact h1⟩, hk10⟩
end Go.Proofs.Ytjkjiabfhhnngaa
