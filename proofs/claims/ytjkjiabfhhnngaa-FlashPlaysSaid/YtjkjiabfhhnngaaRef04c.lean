import Derived.Test.YtjkjiabfhhnngaaRef04b
/-! The document's device: a sync. -/
namespace Go.Proofs.Ytjkjiabfhhnngaa
open Go.RowKit Sg
set_option linter.unusedSimpArgs false
set_option linter.unusedVariables false

def setAll (f : List (List UInt8)) (l : List (Nat × List UInt8)) : List (List UInt8) := l.foldl (fun f p => f.set p.1 p.2) f
theorem setAll_snoc (f : List (List UInt8)) (l : List (Nat × List UInt8)) (p : Nat × List UInt8) : setAll f (l ++ [p]) = (setAll f l).set p.1 p.2 := by simp [setAll]
theorem setAll_len (f : List (List UInt8)) : ∀ (l : List (Nat × List UInt8)), (setAll f l).length = f.length := by
  intro l
  unfold setAll
  induction l generalizing f with
  | nil => rfl
  | cons p l ih => rw [List.foldl_cons, ih, List.length_set]

set_option maxRecDepth 100000 in
set_option maxHeartbeats 1000000 in
set_option maxHeartbeats 8000000 in
theorem refSync4_any (m : Dev) (hwf : m.Wf) (hacts : m.acts ≤ 100000) (fv lv pv : Value) (w : World) (P : Nat → Prop) (HP : Hid (∀ b, w.heap.size ≤ b → P b)) (hv : RDV P w fv lv pv m) :
    Calls Try.prog 20 #[.agg (d4cells m fv lv pv)] w fun e w' => ∃ fv' lv' pv', e = .returned (.tuple #[.agg (d4cells m.sync.1 fv' lv' pv'), .int .i64 (m.sync.2 : Int)]) ∧ RDV P w' fv' lv' pv' m.sync.1 ∧ Keep [] w w' := by
  have hll := hwf.ll
  have hn1 := hwf.n1
  have hn2 := hwf.n2
  have hfl := hwf.fl
  have har := hwf.ar
  obtain ⟨fa, fc, rfl⟩ := hv.fast.form
  obtain ⟨la, lc, rfl⟩ := hv.loose.form
  obtain ⟨vs, hpr, hvl, hvp⟩ := hv.past
  obtain ⟨pa, pc, rfl⟩ := hpr.form
  obtain ⟨N, hN⟩ : ∃ N, m.fast.length = N := ⟨_, rfl⟩
  obtain ⟨L, hL⟩ : ∃ L, m.loose.length = L := ⟨_, rfl⟩
  obtain ⟨PN, hPN⟩ : ∃ PN, vs.length = PN := ⟨_, rfl⟩
  have hmn : m.n = N := by rw [← hfl, hN]
  have HV := Lib.hid (And.intro hv (And.intro hN (And.intro hL (And.intro hmn (And.intro hPN (And.intro hpr (And.intro hvl hvp)))))))
  have hLb : L ≤ 100000 := by omega
  have hNb : N ≤ 16384 := by omega
  have hN1 : 1 ≤ N := by omega
  obtain ⟨B, hB⟩ : ∃ B, w.heap.size = B := ⟨_, rfl⟩
  have HB := Lib.hid hB
  have hA0 : ((w.alloc (.cells (d4cells m (.slice fa N fc) (.slice la L lc) (.slice pa PN pc)) 33)).alloc (.cells z4cells 33)).heap[B]? = some (.cells (d4cells m (.slice fa N fc) (.slice la L lc) (.slice pa PN pc)) 33 (0, 0)) := by
    rw [← hB]
    exact ((Keep.refl [] _).alloc _).blk (by simp) (heap_alloc_new w _)
  have hR0 : ((w.alloc (.cells (d4cells m (.slice fa N fc) (.slice la L lc) (.slice pa PN pc)) 33)).alloc (.cells z4cells 33)).heap[B + 1]? = some (.cells z4cells 33 (0, 0)) := by
    rw [← hB]
    exact heap_alloc2_new w _ _
  have hK0 : Keep [] w ((w.alloc (.cells (d4cells m (.slice fa N fc) (.slice la L lc) (.slice pa PN pc)) 33)).alloc (.cells z4cells 33)) := ((Keep.refl [] w).alloc _).alloc _
  rw [hN, hL, hPN]
  simp only [d4cells, z4cells] at hA0 hR0 hK0 ⊢
  clear hv hpr hvl hvp hN hL hmn hPN hfl hll hn1 hn2 hB
  cases hd : m.down with
  | true =>
    have e : m.sync = (m, 4) := by unfold Dev.sync; rw [if_pos hd]
    rw [e]
    simp only [hd]
    have HD := Lib.hid hd
    rw [hd] at hK0
    have HK0 := Lib.hid hK0
    clear hd e hA0 hR0 hK0
    go_enter Try.func20, Try.ntmps20
    go_wp2
    refine bodyPost_ret (results_cell_tmp_row rfl _ _ (w.heap.size + 1) 33 _ _ _ rfl (heap_alloc2_new _ _ _) Try.underlying33 rfl (by kernel_rfl)) rfl ?_
    refine ⟨_, _, _, rfl, ?_, ((Keep.refl [] w).alloc _).alloc _⟩
    have h := HV.out.1.keep (((Keep.refl [] w).alloc (.cells (d4cells m (.slice fa N fc) (.slice la L lc) (.slice pa PN pc)) 33)).alloc (.cells (d4cells m (.slice fa N fc) (.slice la L lc) (.slice pa PN pc)) 33))
    rw [HV.out.2.1, HV.out.2.2.1, HV.out.2.2.2.2.1] at h
    simp only [d4cells, HD.out] at h
    exact h
  | false =>
    rw [hd] at hA0 hK0 hR0
    have HK0 := Lib.hid (And.intro hK0 (And.intro hA0 hR0))
    have HDN := Lib.hid hd
    have HWF := Lib.hid hwf
    have cAct := fun w' => act4_any m har (by omega) fa la pa N fc L lc PN pc w'
    simp only [d4cells] at cAct
    rw [HDN.out] at cAct
    have hmz : m.act.sz = m.sz := rfl
    obtain ⟨ar1, har1⟩ : ∃ x, m.act.armed = x := ⟨_, rfl⟩
    obtain ⟨ac1, hac1⟩ : ∃ x, m.act.acts = x := ⟨_, rfl⟩
    obtain ⟨dn1, hdn1⟩ : ∃ x, m.act.down = x := ⟨_, rfl⟩
    rw [hmz, har1, hac1, hdn1] at cAct
    have e : m.sync = if dn1 = true then (m.act, 4) else (m.synced, 0) := by
      unfold Dev.sync
      rw [if_neg (by rw [HDN.out]; simp), hdn1]
    have HE := Lib.hid e
    have HWR := Lib.hid (And.intro har1 (And.intro hac1 hdn1))
    clear hA0 hR0 hK0 hd e har1 hac1 hdn1 hmz
    go_enter Try.func20, Try.ntmps20
    go_wp2_with fail
    refine (cAct _).mono ?_
    clear cAct
    rintro e w3 ⟨rfl, k3⟩
    have hwB : w.heap.size = B := HB.out
    rw [hwB]
    have HA3 := Lib.hid (k3.blk (by simp) HK0.out.2.1)
    have HR3 := Lib.hid (k3.blk (by simp) HK0.out.2.2)
    have HK3 := Lib.hid (HK0.out.1.trans k3)
    clear k3 hwB
    go_upto_region 4 with (refine wpList_store_row rfl 33 (.tmp 1) (.tmp 9) rfl B #[.int .i64 (m.sz : Int), .slice fa N fc, .slice la L lc, .slice pa PN pc, .int .i64 (ar1 : Int), .int .i64 (ac1 : Int), .bool dn1] rfl rfl 33 _ HA3.out (by kernel_rfl) (by rfl) (by kernel_rfl) ?_)
    have hA4 := setRow_heap w3 B _ #[.int .i64 (m.sz : Int), .slice fa N fc, .slice la L lc, .slice pa PN pc, .int .i64 (ar1 : Int), .int .i64 (ac1 : Int), .bool dn1] _ _ HA3.out
    have hR4 := (setRow_other w3 B (B + 1) #[.int .i64 (m.sz : Int), .slice fa N fc, .slice la L lc, .slice pa PN pc, .int .i64 (ar1 : Int), .int .i64 (ac1 : Int), .bool dn1] (by omega)).trans HR3.out
    have hK4 := HK3.out.setRow (g := B) (.inr (by rw [HB.out]; exact Nat.le_refl _)) #[.int .i64 (m.sz : Int), .slice fa N fc, .slice la L lc, .slice pa PN pc, .int .i64 (ar1 : Int), .int .i64 (ac1 : Int), .bool dn1]
    generalize w3.setRow B #[.int .i64 (m.sz : Int), .slice fa N fc, .slice la L lc, .slice pa PN pc, .int .i64 (ar1 : Int), .int .i64 (ac1 : Int), .bool dn1] = w4 at *
    have hBw : B + 2 ≤ w4.heap.size := by have := (Array.getElem?_eq_some_iff.1 hR4).1; omega
    have c0 := cell_of_row w4 _ 0 _ _ _ hA4
    have c1 := cell_of_row w4 _ 1 _ _ _ hA4
    have c2 := cell_of_row w4 _ 2 _ _ _ hA4
    have c3 := cell_of_row w4 _ 3 _ _ _ hA4
    have c4 := cell_of_row w4 _ 4 _ _ _ hA4
    have c5 := cell_of_row w4 _ 5 _ _ _ hA4
    have c6 := cell_of_row w4 _ 6 _ _ _ hA4
    simp at c0 c1 c2 c3 c4 c5 c6
    cases dn1 with
    | true =>
      have HR4 := Lib.hid hR4
      have HK4 := Lib.hid hK4
      clear hA4 hR4 hK4
      go_wp2_with (refine wpList_store_row rfl 33 (.tmp 2) (.tmp 12) rfl (B + 1) #[.int .i64 (m.sz : Int), .slice fa N fc, .slice la L lc, .slice pa PN pc, .int .i64 (ar1 : Int), .int .i64 (ac1 : Int), .bool true] rfl rfl 33 _ HR4.out (by kernel_rfl) (by rfl) (by kernel_rfl) ?_)
      refine bodyPost_ret (results_cell_tmp_row rfl _ _ (B + 1) 33 _ _ _ rfl (setRow_heap _ _ _ _ _ _ HR4.out) Try.underlying33 rfl (by kernel_rfl)) rfl ?_
      have hk5 := HK4.out.setRow (g := B + 1) (.inr (by rw [HB.out]; omega)) #[.int .i64 (m.sz : Int), .slice fa N fc, .slice la L lc, .slice pa PN pc, .int .i64 (ar1 : Int), .int .i64 (ac1 : Int), .bool true]
      have h := HV.out.1.keep hk5
      rw [HV.out.2.1, HV.out.2.2.1, HV.out.2.2.2.2.1] at h
      have hse : m.sync = (m.act, 4) := by
        have h1 := HE.out
        simpa using h1
      rw [hse]
      refine ⟨_, _, _, ?_, ⟨h.fast, h.loose, h.past, h.fP, h.lP, h.pP⟩, hk5⟩
      simp only [d4cells, HWR.out.1, HWR.out.2.1, HWR.out.2.2]
      rfl
    | false =>
      have kA5 := (Keep.refl [] w4).alloc (.cells #[] 9)
      have lit5 : SRow4 (w4.alloc (.cells #[] 9)) w4.heap.size (.slice (some ⟨w4.heap.size, 0, none⟩) 0 0) [] := row_lit (enc := s4enc) (k := 1) (t := 9) w4 [] (by simp) rfl
      have fo5 := HV.out.1.fast.keep (hK4.trans kA5) (by simp)
      rw [HV.out.2.1] at fo5
      obtain ⟨v6, w6, hrun6, ho6, hk6, hl6⟩ := run_append_row (P := Try.prog) (ty := 29) s4lies Try.underlying29 s4_info rfl (by decide) (by decide) w4.heap.size lit5 fo5 (by simp; rw [HV.out.2.1]; omega) kA5.size
      rw [List.nil_append] at ho6
      obtain ⟨a6, c6', rfl⟩ := ho6.form
      rw [HV.out.2.1] at hrun6 ho6
      obtain ⟨g6, rfl, hg6, -⟩ := RowE.cells s4lies ho6 (i := 0) (by rw [HV.out.2.1]; omega)
      have k46 : Keep [] w4 w6 := kA5.trans' hk6 (fun b hb => .inr (by simp [Value.ownBlock] at hb; omega))
      have e5 := cell_of_row _ _ 1 _ _ _ (kA5.blk (by simp) hA4)
      have e6 := cell_of_row _ _ 1 _ _ _ (k46.blk (by simp) hA4)
      have f6 := frozen_of_row w6 B 1 _ _ (k46.blk (by simp) hA4)
      simp at e5 e6
      have HR6 := Lib.hid hrun6
      have H6 := Lib.hid (And.intro ho6 (And.intro k46 hg6))
      have H4 := Lib.hid (And.intro hA4 (And.intro hR4 hK4))
      clear hrun6 ho6 hk6 hl6 k46 kA5 lit5 fo5 hA4 hR4 hK4 hg6
      go_upto_region 7 with (at_builtin; refine wpList_append_run rfl (.tmp 13) (.tmp 15) 29 rfl (w' := w6) rfl rfl HR6.out ?_)
      clear c0 c1 c2 c3 c4 c5 c6 e5 e6 f6 HR6
      have hA7 := heap_setCell_same w6 B 1 _ _ (.slice (some ⟨g6, 0, none⟩) N c6') (H6.out.2.1.blk (by simp) H4.out.1)
      simp only [List.setIfInBounds_toArray, List.set_cons_zero, List.set_cons_succ] at hA7
      have k67 : Keep [B] w6 (w6.setCell ⟨B, 1, none⟩ (.slice (some ⟨g6, 0, none⟩) N c6')) := (Keep.refl _ _).setCell (.inl (by simp)) _
      have hR7 := k67.blk (by simp) (H6.out.2.1.blk (by simp) H4.out.2.1)
      have hK7 : Keep [] w (w6.setCell ⟨B, 1, none⟩ (.slice (some ⟨g6, 0, none⟩) N c6')) := (H4.out.2.2.trans H6.out.2.1).trans' k67 (fun b hb => .inr (by have := HB.out; simp at hb; omega))
      have ho7 := H6.out.1.keep k67 (fun b hb hm => by have := (H6.out.1.lt b hb).1; simp at hm; omega)
      have hs7 : (w6.setCell ⟨B, 1, none⟩ (.slice (some ⟨g6, 0, none⟩) N c6')).heap.size = w6.heap.size := World.size_setCell _ _ _
      generalize w6.setCell ⟨B, 1, none⟩ (.slice (some ⟨g6, 0, none⟩) N c6') = w7 at *
      have hg6lt := (ho7.lt g6 rfl).2.1
      have hg6B : B + 2 ≤ g6 := by have := H6.out.2.2; omega
      have H7 := Lib.hid (And.intro hA7 (And.intro hR7 (And.intro hK7 ho7)))
      clear hA7 hR7 hK7 ho7 k67 hs7
      go_wp2
      go_loopw [4] (fun i wr => ∃ j : Nat, j ≤ L ∧ i = .int .i64 (j : Int) ∧ Hid (Keep [g6] w7 wr) ∧ Hid (SRow4 wr w4.heap.size (.slice (some ⟨g6, 0, none⟩) N c6') (setAll m.fast (m.loose.take j)))) (fun i _ => L - (intOf i).toNat)
      case atStart => exact ⟨0, by omega, rfl, Lib.hid (Keep.refl _ _), Lib.hid H7.out.2.2.2⟩
      case round =>
        obtain ⟨j, hj, rfl, HK, HO⟩ := hrel
        rename World => wr
        have hkwr : Keep [] w wr := H7.out.2.2.1.trans' HK.out (fun b hb => .inr (by have := HB.out; simp at hb; omega))
        have hAr := HK.out.blk (by simp; omega) H7.out.1
        have d2 := cell_of_row wr _ 2 _ _ _ hAr
        simp at d2
        by_cases hjL : j < L
        · have hji : (j : Int) < (L : Int) := by omega
          have hjl : j < m.loose.length := by rw [HV.out.2.2.1]; exact hjL
          have hpw := HWF.out.ls m.loose[j] (List.getElem_mem hjl)
          obtain ⟨p, hp⟩ : ∃ p, m.loose[j] = p := ⟨_, rfl⟩
          have hst := setAll_snoc m.fast (m.loose.take j) m.loose[j]
          rw [← List.take_succ_eq_append_getElem hjl] at hst
          have hlr := HV.out.1.loose.keep hkwr (by simp)
          obtain ⟨gl, rfl, -, -⟩ := RowE.cells w4lies hlr hjl
          go_upto_region 10 with fail
          refine wp_region_his [] [15] (fun _ => 0) (by kernel_rfl) (by kernel_rfl) ?_
          intro w8 hk8 hh
          clear hh
          have u1 := fun w' (h' : Keep [] w8 w') => cell_of_row w' _ 1 _ _ _ ((hk8.trans h').blk (by simp) hAr)
          have u2 := fun w' (h' : Keep [] w8 w') => cell_of_row w' _ 2 _ _ _ ((hk8.trans h').blk (by simp) hAr)
          simp at u1 u2
          have y0 : ∀ w', Keep [] w8 w' → w'.cell? ⟨gl, j * 2 + 0, none⟩ = some (.int .i64 (m.loose[j].1 : Int)) := fun w' h' => by
            obtain ⟨g', e', -, hc⟩ := RowE.cells w4lies (hlr.keep (hk8.trans h') (by simp)) hjl
            cases e'
            exact hc 0 _ rfl
          have y1 : ∀ w', Keep [] w8 w' → w'.cell? ⟨gl, j * 2 + 1, none⟩ = some (.string ⟨m.loose[j].2.toArray⟩) := fun w' h' => by
            obtain ⟨g', e', -, hc⟩ := RowE.cells w4lies (hlr.keep (hk8.trans h') (by simp)) hjl
            cases e'
            exact hc 1 _ rfl
          rw [hp] at y0 y1 hst hpw
          obtain ⟨pk, pb⟩ := p
          simp only [Nat.add_zero] at y0 y1
          have hpkN : pk < N := by have := hpw.1; have h2 := HV.out.2.2.2.1; simp only at this; omega
          have hpki : (pk : Int) < (N : Int) := by omega
          have hpk0 : (0 : Int) ≤ (pk : Int) := by omega
          have ho8 := HO.out.keep hk8 (by simp)
          have hsl : (setAll m.fast (m.loose.take j)).length = N := by rw [setAll_len, HV.out.2.1]
          obtain ⟨g', e', -, hcc⟩ := RowE.cells s4lies ho8 (i := pk) (by rw [hsl]; exact hpkN)
          cases e'
          have z0 := hcc 0 _ rfl
          simp only [Nat.mul_one, Nat.add_zero] at z0
          have zf : w8.frozen? ⟨g6, pk, none⟩ = false := by
            obtain ⟨-, hcs⟩ := ho8
            rcases hcs with ⟨e1, -⟩ | ⟨g', cap, cur, e1, -, hg, -⟩
            · cases e1
            · cases e1
              exact frozen_of_row _ _ _ _ _ hg
          have hset := row_set1 s4lies ho8 (j := pk) (by rw [hsl]; exact hpkN) (x := pb) (u := .string ⟨pb.toArray⟩) rfl
          have hst' : setAll m.fast (m.loose.take (j + 1)) = (setAll m.fast (m.loose.take j)).set pk pb := hst
          rw [← hst'] at hset
          have HSET := Lib.hid hset
          have HK8 := Lib.hid (HK.out.trans (hk8.mono (by simp)))
          obtain ⟨sv, hsv⟩ : ∃ sv, (setAll m.fast (m.loose.take j))[pk]'(by rw [hsl]; exact hpkN) = sv := ⟨_, rfl⟩
          rw [hsv] at z0
          clear hset hst hst' hpw hp hlr hcc ho8 hsl hsv hk8 hkwr hAr d2
          (repeat (first | (refine his_q rfl rfl (fun K hK => ?_); apply Exists.intro; refine ⟨fun w' hC => ?_, ?_⟩; ((try simp [Sg.upd] at hC); go_simp <;> rfl); go_simp; refine hK _ _ ?_; clear hK K) | (refine his_s rfl (fun K hK => ?_); go_simp; refine hK _ _ ?_; clear hK K)))
          (refine his_last rfl (by kernel_rfl) rfl (fun K hK => ?_); go_simp)
          refine hK _ _ ?_
          clear hK K
          refine his_nil ?_
          clear u1 u2 y0 y1 z0 zf
          go_wp2
          go_roundw
          case rel => exact ⟨j + 1, by omega, by go_num, Lib.hid (HK8.out.setCell (.inl (by simp)) _), HSET⟩
          case measure => simp [intOf]; omega
        · have hji : ¬ (j : Int) < (L : Int) := by omega
          have hje : m.loose.take j = m.loose := List.take_of_length_le (by rw [HV.out.2.2.1]; omega)
          rw [hje] at HO
          have e2 := cell_of_row wr _ 2 _ _ _ hAr
          have f2 := frozen_of_row wr B 2 _ _ hAr
          simp at e2
          have HAR := Lib.hid hAr
          have HKWR := Lib.hid hkwr
          clear hje hAr hkwr
          go_upto_region 12 with fail
          have hA9 := heap_setCell_same wr B 2 _ _ (.slice none 0 0) HAR.out
          simp only [List.setIfInBounds_toArray, List.set_cons_zero, List.set_cons_succ] at hA9
          have k9 : Keep [B] wr (wr.setCell ⟨B, 2, none⟩ (.slice none 0 0)) := (Keep.refl _ _).setCell (.inl (by simp)) _
          have hR9 := k9.blk (by simp) (HK.out.blk (by simp; omega) H7.out.2.1)
          have hK9 : Keep [] w (wr.setCell ⟨B, 2, none⟩ (.slice none 0 0)) := HKWR.out.trans' k9 (fun b hb => .inr (by have := HB.out; simp at hb; omega))
          have ho9 := HO.out.keep k9 (fun b hb hm => by simp [Value.ownBlock] at hb; simp at hm; omega)
          clear e2 f2 d2
          generalize wr.setCell ⟨B, 2, none⟩ (.slice none 0 0) = w9 at *
          have c0 := cell_of_row w9 _ 0 _ _ _ hA9
          have c1 := cell_of_row w9 _ 1 _ _ _ hA9
          have c2 := cell_of_row w9 _ 2 _ _ _ hA9
          have c3 := cell_of_row w9 _ 3 _ _ _ hA9
          have c4 := cell_of_row w9 _ 4 _ _ _ hA9
          have c5 := cell_of_row w9 _ 5 _ _ _ hA9
          have c6 := cell_of_row w9 _ 6 _ _ _ hA9
          simp at c0 c1 c2 c3 c4 c5 c6
          have HR9 := Lib.hid hR9
          have H9 := Lib.hid (And.intro hK9 ho9)
          clear hA9 k9 hR9 hK9 ho9
          go_wp2_with (refine wpList_store_row rfl 33 (.tmp 2) (.tmp 41) rfl (B + 1) #[.int .i64 (m.sz : Int), .slice (some ⟨g6, 0, none⟩) N c6', .slice none 0 0, .slice pa PN pc, .int .i64 (ar1 : Int), .int .i64 (ac1 : Int), .bool false] rfl rfl 33 _ HR9.out (by kernel_rfl) (by rfl) (by kernel_rfl) ?_)
          refine bodyPost_ret (results_cell_tmp_row rfl _ _ (B + 1) 33 _ _ _ rfl (setRow_heap _ _ _ _ _ _ HR9.out) Try.underlying33 rfl (by kernel_rfl)) rfl ?_
          have k10 : Keep [B + 1] w9 (w9.setRow (B + 1) #[.int .i64 (m.sz : Int), .slice (some ⟨g6, 0, none⟩) N c6', .slice none 0 0, .slice pa PN pc, .int .i64 (ar1 : Int), .int .i64 (ac1 : Int), .bool false]) := (Keep.refl _ _).setRow (.inl (by simp)) _
          have hk10 : Keep [] w (w9.setRow (B + 1) #[.int .i64 (m.sz : Int), .slice (some ⟨g6, 0, none⟩) N c6', .slice none 0 0, .slice pa PN pc, .int .i64 (ar1 : Int), .int .i64 (ac1 : Int), .bool false]) := H9.out.1.trans' k10 (fun b hb => .inr (by have := HB.out; simp at hb; omega))
          have ho10 := H9.out.2.keep k10 (fun b hb hm => by simp [Value.ownBlock] at hb; simp at hm; omega)
          have h := (HV.out.1.keep hk10).past
          rw [HV.out.2.2.2.2.1] at h
          have hact : m.synced.armed = ar1 ∧ m.synced.acts = ac1 ∧ m.synced.down = false ∧ m.synced.sz = m.sz := ⟨HWR.out.1, HWR.out.2.1, HWR.out.2.2, rfl⟩
          rw [HE.out, if_neg (by simp)]
          refine ⟨.slice (some ⟨g6, 0, none⟩) N c6', .slice none 0 0, .slice pa PN pc, ?_, ⟨ho10.lower (Nat.zero_le _), RowE.nil, h, fun b hb => HP.out b (by have h1 := (ho10.lt b hb).1; have h2 := HB.out; omega), fun b hb => (by cases hb), by have h1 := HV.out.1.pP; rw [HV.out.2.2.2.2.1] at h1; exact h1⟩, hk10⟩
          simp only [d4cells, hact.1, hact.2.1, hact.2.2.1, hact.2.2.2]
          rfl
end Go.Proofs.Ytjkjiabfhhnngaa
