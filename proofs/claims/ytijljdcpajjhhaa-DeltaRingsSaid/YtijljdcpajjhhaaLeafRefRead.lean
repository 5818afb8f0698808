import Derived.Test.YtijljdcpajjhhaaLeafRead
/-! The walk of the document's Read of a leaf. -/
namespace Go.Proofs.Ytijljdcpajjhhaa
open Go.RowKit Go.Shelf Sg
set_option linter.unusedSimpArgs false

def leafS0 : Value := .agg #[.int .i64 0, .int .i64 0, .int .i64 0, .string ByteArray.empty]

set_option maxRecDepth 100000 in
set_option maxHeartbeats 1000000 in
theorem refRead_size (x : Value) (l : List UInt8) (w : World) (hx : Bytes w x l) (hl : ¬ (96 ≤ l.length ∧ l.length ≤ 512)) : Calls Try.prog 24 #[x] w fun e w' => e = .returned (.tuple #[leafS0, .int .i64 3]) ∧ Keep [] w w' := by
  obtain ⟨ao, cap, rfl, hlc, hm, hcap⟩ := hx.form
  have hA := heap_alloc_new w (.cells #[.int .i64 0, .int .i64 0, .int .i64 0, .string ByteArray.empty] 29)
  by_cases h1 : l.length < 96
  · have h1' : (l.length : Int) < 96 := by omega
    go_enter Try.func24, Try.ntmps24
    go_wp2
    exact bodyPost_ret (results_cell_tmp_row rfl _ _ w.heap.size 29 _ _ _ rfl hA Try.underlying29 rfl (by kernel_rfl)) rfl ⟨rfl, (Keep.refl [] w).alloc _⟩
  · have h1' : ¬ (l.length : Int) < 96 := by omega
    have h2 : (512 : Int) < (l.length : Int) := by omega
    go_enter Try.func24, Try.ntmps24
    go_wp2
    exact bodyPost_ret (results_cell_tmp_row rfl _ _ w.heap.size 29 _ _ _ rfl hA Try.underlying29 rfl (by kernel_rfl)) rfl ⟨rfl, (Keep.refl [] w).alloc _⟩

theorem wrap64_15 {n : Nat} (h : n < 65536) : IntKind.i64.wrap (15 + (n : Int)) = 15 + (n : Int) ∧ RowKit.wrap64 (15 + (n : Int)) = 15 + (n : Int) := by
  have q : IntKind.i64.wrap (15 + (n : Int)) = 15 + (n : Int) := i64_wrap (by omega) (by omega)
  exact ⟨q, by rw [← wrap64_eq]; exact q⟩
theorem wrap64_63 {n : Nat} (h : n ≤ 9223372036854775807) : RowKit.wrap64 (n : Int) = (n : Int) ∧ IntKind.i64.wrap (n : Int) = (n : Int) := by
  have q : RowKit.wrap64 (n : Int) = (n : Int) := by unfold RowKit.wrap64; omega
  exact ⟨q, by rw [wrap64_eq]; exact q⟩
theorem leOf_one (l : List UInt8) (h : 0 < l.length) : ((l[0]'h).toNat) = leOf (l.take 1) := by
  cases l with
  | nil => simp at h
  | cons a t => simp [leOf]

set_option maxRecDepth 100000 in
set_option maxHeartbeats 1000000 in
set_option maxHeartbeats 8000000 in
theorem refRead_in (x : Value) (l : List UInt8) (w : World) (hx : Bytes w x l) (hl : 96 ≤ l.length ∧ l.length ≤ 512) : Calls Try.prog 24 #[x] w fun e w' => Keep [] w w' ∧
    ((LeafOk l ∧ e = .returned (.tuple #[.agg #[.int .i64 (lk l : Int), .int .i64 (lp l : Int), .int .i64 (ls l : Int), .string ⟨(ll l).toArray⟩], .int .i64 0])) ∨ (¬ LeafOk l ∧ e = .returned (.tuple #[leafS0, .int .i64 5]))) := by
  obtain ⟨ao, cap, rfl, hlc, hm, hcap⟩ := hx.form
  obtain ⟨b, o, rfl, hb, hc⟩ := hx.spot (by omega)
  have hOK : LeafOk l ↔ (ln l + 19 ≤ l.length ∧ ls l ≤ 9223372036854775807 ∧ lcode l.length (lk l) (lp l) (ls l) (ln l) = 0 ∧ lbuild l.length (lk l) (lp l) (ls l) (ll l) = l) := ⟨fun h => h.2, fun h => ⟨hl, h⟩⟩
  have c0 := hc 0 (by omega)
  rw [leOf_one l (by omega)] at c0
  have c0' : ∀ w', Keep [w.heap.size + 1] w w' → w'.cell? ⟨b, o, none⟩ = some (.int .u8 (lk l : Int)) := fun w' h => h.cell (by simp; omega) c0
  have a1 : lk l < 256 := take_lt l 1
  have a2 : ln l < 65536 := take_lt (l.drop 1) 2
  have a3 : lp l < 4294967296 := take_lt (l.drop 3) 4
  have a4 : ls l < 18446744073709551616 := take_lt (l.drop 7) 8
  have hkx : ∀ w', Keep [w.heap.size + 1] w w' → Bytes w' (.slice (some ⟨b, o, none⟩) l.length cap) l := fun w' h => hx.keep h (by intro b' h1 h2; simp [Value.ownBlock] at h1 h2; omega)
  have hn : ∀ w', Keep [w.heap.size + 1] w w' → Calls Try.prog 85 #[.slice (some ⟨b, o + 1, none⟩) 2 (cap - 1)] w' (fun e w'' => e = .returned (.int .u64 (ln l : Int)) ∧ w' = w'') := fun w' h => refOf_any _ _ w' ((hkx w' h).sub (f := 1) (t := 3) (by omega) (by omega) (by omega)) (by rw [List.length_take]; omega)
  have hs : ∀ w', Keep [w.heap.size + 1] w w' → Calls Try.prog 85 #[.slice (some ⟨b, o + 7, none⟩) 8 (cap - 7)] w' (fun e w'' => e = .returned (.int .u64 (ls l : Int)) ∧ w' = w'') := fun w' h => refOf_any _ _ w' ((hkx w' h).sub (f := 7) (t := 15) (by omega) (by omega) (by omega)) (by rw [List.length_take]; omega)
  have hp : ∀ w', Keep [w.heap.size + 1] w w' → Calls Try.prog 85 #[.slice (some ⟨b, o + 3, none⟩) 4 (cap - 3)] w' (fun e w'' => e = .returned (.int .u64 (lp l : Int)) ∧ w' = w'') := fun w' h => refOf_any _ _ w' ((hkx w' h).sub (f := 3) (t := 7) (by omega) (by omega) (by omega)) (by rw [List.length_take]; omega)
  have hll : ll l = (l.drop 15).take (ln l) := rfl
  have hq : ∀ w', Keep [w.heap.size + 1] w w' → ln l + 19 ≤ l.length → Sem.run Try.prog (convert 30 9 (.slice (some ⟨b, o + 15, none⟩) (15 + ln l - 15) (cap - 15))) w' = .ok (.string ⟨(ll l).toArray⟩) w' := by
    intro w' h hn
    have hsub := (hkx w' h).sub (f := 15) (t := 15 + ln l) (by omega) (by omega) (by omega)
    rw [show 15 + ln l - 15 = ln l by omega] at hsub ⊢
    exact run_str (P := Try.prog) 30 9 5 Try.underlying30 Try.underlying5 Try.underlying9 hsub
  have z0 : ¬ (l.length : Int) < 96 := by omega
  have z0' : ¬ (512 : Int) < (l.length : Int) := by omega
  have z1 : ¬ cap = 1 := by omega
  have z7 : ¬ cap = 7 := by omega
  have z3 : ¬ cap = 3 := by omega
  have z15 : ¬ cap = 15 := by omega
  have y3 : (3 : Int) ≤ (cap : Int) := by omega
  have y15 : (15 : Int) ≤ (cap : Int) := by omega
  have y7 : (7 : Int) ≤ (cap : Int) := by omega
  have x0 : 0 < l.length := by omega
  have u := wrap64_small (Nat.lt_trans a1 (by decide))
  have u' := wrap64_small (Nat.lt_trans a2 (by decide))
  have u'' := wrap64_small a3
  have hll2 : (ll l).length = min (ln l) (l.length - 15) := by rw [hll, List.length_take, List.length_drop]
  obtain ⟨F, hF⟩ : ∃ F : Prop, F = LeafOk l := ⟨_, rfl⟩
  rw [← hF] at hOK ⊢
  clear hkx hc hF hll
  generalize ll l = LD at *
  generalize lk l = kn at *
  generalize lp l = pn at *
  generalize ls l = sn at *
  generalize ln l = nn at *
  have hK0 := (Keep.refl [] w).alloc (.cells #[.int .i64 0, .int .i64 0, .int .i64 0, .string ByteArray.empty] 29)
  have hA := heap_alloc_new w (.cells #[.int .i64 0, .int .i64 0, .int .i64 0, .string ByteArray.empty] 29)
  have HOK := Lib.hid hOK
  have HS := Lib.hid hs
  have HP := Lib.hid hp
  have HN := Lib.hid hn
  have HQ := Lib.hid hq
  have HC0 := Lib.hid c0'
  have HLL2 := Lib.hid hll2
  clear hOK hs hp hn hq c0' c0 hll2
  have HU := Lib.hid (And.intro u (And.intro u' u''))
  clear u u' u''
  by_cases hnn : l.length < nn + 19
  · have e1 : (l.length : Int) - 19 < (nn : Int) := by omega
    obtain ⟨⟨u1, u2⟩, ⟨u3, u4⟩, u5, u6⟩ := HU.out
    go_enter Try.func24, Try.ntmps24
    go_wp2_with fail
    refine (HN.out _ (hK0.mono (by simp))).mono ?_
    rintro e w1 ⟨rfl, rfl⟩
    go_wp2_with fail
    refine (HS.out _ (hK0.mono (by simp))).mono ?_
    rintro e w1 ⟨rfl, rfl⟩
    go_wp2
    refine bodyPost_ret (results_cell_tmp_row rfl _ _ w.heap.size 29 _ _ _ rfl hA Try.underlying29 rfl (by kernel_rfl)) rfl ⟨hK0, .inr ⟨fun h => ?_, rfl⟩⟩
    exact absurd (HOK.out.1 h).1 (Nat.not_le.2 hnn)
  · have e1 : ¬ (l.length : Int) - 19 < (nn : Int) := by omega
    by_cases hsn : 9223372036854775807 < sn
    · have e2 : (9223372036854775807 : Int) < (sn : Int) := by omega
      obtain ⟨⟨u1, u2⟩, ⟨u3, u4⟩, u5, u6⟩ := HU.out
      go_enter Try.func24, Try.ntmps24
      go_wp2_with fail
      refine (HN.out _ (hK0.mono (by simp))).mono ?_
      rintro e w1 ⟨rfl, rfl⟩
      go_wp2_with fail
      refine (HS.out _ (hK0.mono (by simp))).mono ?_
      rintro e w1 ⟨rfl, rfl⟩
      go_wp2
      refine bodyPost_ret (results_cell_tmp_row rfl _ _ w.heap.size 29 _ _ _ rfl hA Try.underlying29 rfl (by kernel_rfl)) rfl ⟨hK0, .inr ⟨fun h => ?_, rfl⟩⟩
      exact absurd (HOK.out.1 h).2.1 (Nat.not_le.2 hsn)
    · have e2 : ¬ (9223372036854775807 : Int) < (sn : Int) := by omega
      have hb15 : (15 : Int) + (nn : Int) ≤ (cap : Int) := by omega
      have hb15' : (15 : Int) + (nn : Int) ≤ (l.length : Int) := by omega
      have hn0 : (0 : Int) ≤ 15 + (nn : Int) := by omega
      have hn15 : (15 : Int) ≤ 15 + (nn : Int) := by omega
      have hnat : ((15 : Int) + (nn : Int)).toNat = 15 + nn := by omega
      have hLD : LD.length = nn := by rw [HLL2.out]; omega
      have hnn' : nn + 19 ≤ l.length := by omega
      have hsn' : sn ≤ 9223372036854775807 := by omega
      have hsize : (⟨LD.toArray⟩ : ByteArray).size = LD.length := by simp [ByteArray.size]
      have hB := fun W => refBuild_any (l.length : Int) (kn : Int) (pn : Int) (sn : Int) (by omega) (by omega) ⟨LD.toArray⟩ (by rw [hsize, hLD]; omega) W
      rw [hsize, hLD] at hB
      simp only [Int.toNat_natCast] at hB
      obtain ⟨rc, hrc⟩ : ∃ rc, lcode (l.length : Int) (kn : Int) (pn : Int) (sn : Int) nn = rc := ⟨_, rfl⟩
      rw [hrc] at hB
      have hlen : (lbuild l.length kn pn sn LD).length = l.length := lbuild_len _ _ _ _ _ hl.1 (by rw [hLD]; exact hnn')
      have HB := Lib.hid hB
      have HRC := Lib.hid hrc
      have HLN := Lib.hid hlen
      have hq := fun w' h => HQ.out w' h hnn'
      rw [show 15 + nn - 15 = nn by omega] at hq
      have HLDD := Lib.hid hLD
      have HNN := Lib.hid (And.intro hnn' hsn')
      have W15 := Lib.hid (wrap64_15 a2)
      have WSN := Lib.hid (wrap64_63 hsn')
      clear hB hrc hlen hLD hsize hnn' hsn' HQ
      obtain ⟨u3, u4⟩ := HU.out.2.1
      have c0 := HC0.out
      have G : ∀ {w1 w' : World}, Keep [] w w1 → Keep [w.heap.size + 1] w1 w' → Keep [w.heap.size + 1] w w' := fun h k => (h.mono (by simp)).trans k
      go_enter Try.func24, Try.ntmps24
      go_wp2_with fail
      refine (HN.out _ (hK0.mono (by simp))).mono ?_
      rintro e w1 ⟨rfl, rfl⟩
      go_wp2_with fail
      clear u3 u4
      refine (HS.out _ (hK0.mono (by simp))).mono ?_
      rintro e w1 ⟨rfl, rfl⟩
      go_wp2_with fail
      refine wp_region_his [w.heap.size + 1] [16, 17] (fun _ => 0) (by kernel_rfl) (by kernel_rfl) ?_
      intro w1 hk1 hh1
      have hs1 : w1.heap.size = w.heap.size + 1 := by rw [hh1]; simp
      clear hh1
      have hA1 := hk1.blk (by simp) hA
      have hK1 := hK0.trans hk1
      have c1 := fun w' (h : Keep [w.heap.size + 1] w1 w') => c0 w' (G hK1 h)
      have q1 := fun w' (h : Keep [w.heap.size + 1] w1 w') => hq w' (G hK1 h)
      clear hk1 hA hK0 c0 hq
      obtain ⟨u1, u2⟩ := HU.out.1
      obtain ⟨u5, u6⟩ := HU.out.2.2
      obtain ⟨q15, q15'⟩ := W15.out
      obtain ⟨us, us'⟩ := WSN.out
      (repeat (first | (refine his_q rfl rfl (fun K hK => ?_); apply Exists.intro; refine ⟨fun w' hC => ?_, ?_⟩; ((try simp [Sg.upd] at hC); go_simp <;> rfl); go_simp; refine hK _ _ ?_; clear hK K) | (refine his_s rfl (fun K hK => ?_); go_simp; refine hK _ _ ?_; clear hK K)))
      refine his_c rfl rfl (.int .u64 (pn : Int)) (fun K hK => ?_)
      refine ⟨fun w' hC => Yields.call _ _ ?_ (by kernel_rfl) (HP.out w' (G hK1 hC)), ?_⟩
      · go_simp
      go_simp
      refine hK _ _ ?_
      clear hK K
      (repeat (first | (refine his_q rfl rfl (fun K hK => ?_); apply Exists.intro; refine ⟨fun w' hC => ?_, ?_⟩; ((try simp [Sg.upd] at hC); go_simp <;> rfl); go_simp; refine hK _ _ ?_; clear hK K) | (refine his_s rfl (fun K hK => ?_); go_simp; refine hK _ _ ?_; clear hK K)))
      refine his_l rfl rfl (fun K hK => ?_)
      go_simp
      refine hK _ _ ((Keep.refl _ _).alloc _) ?_
      clear hK K
      have hP := heap_alloc_new w1 (.cells #[.int .i64 0, .int .i64 0, .int .i64 0, .string ⟨#[]⟩] 29)
      rw [hs1] at hP
      have hA2 := (((Keep.refl [] w1).alloc (.cells #[.int .i64 0, .int .i64 0, .int .i64 0, .string ⟨#[]⟩] 29))).blk (by simp) hA1
      refine his_l rfl rfl (fun K hK => ?_)
      refine loudly_store_row 29 (.tmp 6) (.tmp 50) rfl (w.heap.size + 1) #[.int .i64 (kn : Int), .int .i64 (pn : Int), .int .i64 (sn : Int), .string ⟨LD.toArray⟩] rfl rfl 29 _ hP (by kernel_rfl) (by rfl) (by kernel_rfl) ?_
      refine hK _ _ ((Keep.refl _ _).setRow (.inl (by simp)) _) ?_
      clear hK K
      refine his_nil ?_
      have hA3 : ((w1.alloc (.cells #[.int .i64 0, .int .i64 0, .int .i64 0, .string ⟨#[]⟩] 29)).setRow (w.heap.size + 1) #[.int .i64 (kn : Int), .int .i64 (pn : Int), .int .i64 (sn : Int), .string ⟨LD.toArray⟩]).heap[w.heap.size]? = _ := (setRow_other _ _ _ _ (by simp)).trans hA2
      have hP3 := setRow_heap _ _ _ #[.int .i64 (kn : Int), .int .i64 (pn : Int), .int .i64 (sn : Int), .string ⟨LD.toArray⟩] _ _ hP
      have hK3 : Keep [] w ((w1.alloc (.cells #[.int .i64 0, .int .i64 0, .int .i64 0, .string ⟨#[]⟩] 29)).setRow (w.heap.size + 1) #[.int .i64 (kn : Int), .int .i64 (pn : Int), .int .i64 (sn : Int), .string ⟨LD.toArray⟩]) := (hK1.alloc _).setRow (.inr (by simp)) _
      clear hP hA2 hA1 hK1 hs1 c1 q1 u1 u2 u5 u6 q15 q15' us us' G
      generalize (w1.alloc (.cells #[.int .i64 0, .int .i64 0, .int .i64 0, .string ⟨#[]⟩] 29)).setRow (w.heap.size + 1) #[.int .i64 (kn : Int), .int .i64 (pn : Int), .int .i64 (sn : Int), .string ⟨LD.toArray⟩] = w3 at hA3 hP3 hK3 ⊢
      have g0 := cell_of_row w3 _ 0 _ _ _ hP3
      have g1 := cell_of_row w3 _ 1 _ _ _ hP3
      have g2 := cell_of_row w3 _ 2 _ _ _ hP3
      have g3 := cell_of_row w3 _ 3 _ _ _ hP3
      simp at g0 g1 g2 g3
      go_wp2_with fail
      refine (HB.out _).mono ?_
      rintro e w4 ⟨v4, rfl, o4, k4⟩
      have hA4 := k4.blk (by simp) hA3
      have hP4 := k4.blk (by simp) hP3
      have hK4 := hK3.trans k4
      have hx4 := hx.keep hK4 (by simp)
      clear hA3 hP3 hK3 k4 g0 g1 g2 g3
      have qx := run_str (P := Try.prog) 30 9 5 Try.underlying30 Try.underlying5 Try.underlying9 hx4
      by_cases hz : rc = 0
      · subst hz
        rw [if_pos rfl] at o4
        have q4 := run_str (P := Try.prog) 30 9 5 Try.underlying30 Try.underlying5 Try.underlying9 (o4.bytes (by rw [HLN.out]; exact hm))
        by_cases hEq : lbuild l.length kn pn sn LD = l
        · have hF : F := HOK.out.2 ⟨HNN.out.1, HNN.out.2, HRC.out, hEq⟩
          rw [hEq] at q4
          have g0 := cell_of_row w4 _ 0 _ _ _ hP4
          have g1 := cell_of_row w4 _ 1 _ _ _ hP4
          have g2 := cell_of_row w4 _ 2 _ _ _ hP4
          have g3 := cell_of_row w4 _ 3 _ _ _ hP4
          simp at g0 g1 g2 g3
          clear o4 hx4 hx hEq
          go_wp2_with (first | (refine wpList_load_row rfl 29 (.tmp 6) rfl (w.heap.size + 1) rfl 29 _ _ _ hP4 Try.underlying29 rfl (by kernel_rfl) ?_) | (refine wpList_store_row rfl 29 (.tmp 2) _ rfl w.heap.size _ rfl rfl 29 _ hA4 (by kernel_rfl) (by rfl) (by kernel_rfl) ?_))
          exact bodyPost_ret (results_cell_tmp_row rfl _ _ w.heap.size 29 _ _ _ rfl (setRow_heap _ _ _ _ _ _ hA4) Try.underlying29 rfl (by kernel_rfl)) rfl ⟨hK4.setRow (.inr (Nat.le_refl _)) _, .inl ⟨hF, rfl⟩⟩
        · have HEq := Lib.hid hEq
          obtain ⟨L4, hL4⟩ : ∃ L, lbuild l.length kn pn sn LD = L := ⟨_, rfl⟩
          rw [hL4] at q4 hEq
          have hne : (L4 == l) = false := by simpa using hEq
          have hne2 : (L4 != l) = true := by simpa using hEq
          clear o4 hx4 hx hL4 
          go_wp2_with (refine wpList_store_row rfl 29 (.tmp 2) _ rfl w.heap.size _ rfl rfl 29 _ hA4 (by kernel_rfl) (by rfl) (by kernel_rfl) ?_)
          refine bodyPost_ret (results_cell_tmp_row rfl _ _ w.heap.size 29 #[.int .i64 0, .int .i64 0, .int .i64 0, .string ByteArray.empty] _ _ rfl (setRow_heap _ _ _ _ _ _ hA4) Try.underlying29 rfl (by kernel_rfl)) rfl ⟨hK4.setRow (.inr (Nat.le_refl _)) _, .inr ⟨fun h => ?_, rfl⟩⟩
          exact HEq.out (HOK.out.1 h).2.2.2
      · have hz' : (rc != 0) = true := by simpa using hz
        have HZ := Lib.hid hz
        clear o4 hx4 hx hz
        go_wp2_with (refine wpList_store_row rfl 29 (.tmp 2) _ rfl w.heap.size _ rfl rfl 29 _ hA4 (by kernel_rfl) (by rfl) (by kernel_rfl) ?_)
        refine bodyPost_ret (results_cell_tmp_row rfl _ _ w.heap.size 29 #[.int .i64 0, .int .i64 0, .int .i64 0, .string ByteArray.empty] _ _ rfl (setRow_heap _ _ _ _ _ _ hA4) Try.underlying29 rfl (by kernel_rfl)) rfl ⟨hK4.setRow (.inr (Nat.le_refl _)) _, .inr ⟨fun h => ?_, rfl⟩⟩
        exact HZ.out (HRC.out.symm.trans (HOK.out.1 h).2.2.1)
end Go.Proofs.Ytijljdcpajjhhaa
