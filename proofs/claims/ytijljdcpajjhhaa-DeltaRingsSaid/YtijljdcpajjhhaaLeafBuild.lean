import Derived.Test.YtijljdcpajjhhaaGen
import Derived.Test.YtijljdcpajjhhaaLeafRoom
import Derived.Test.YtijljdcpajjhhaaHist
import Derived.Test.YtijljdcpajjhhaaCrcSum1
import Derived.Deep.CutRange
/-! What a leaf's sector is; the walks of leaf's may, Room, right, Build. -/
namespace Go.Proofs.Ytijljdcpajjhhaa
open Go.RowKit Go.Shelf Sg
set_option linter.unusedSimpArgs false

/-- why there is no sector -/
def lcode (size k p s : Int) (n : Nat) : Int := if ¬ (96 ≤ size ∧ size ≤ 512) then 3 else if k < 1 ∨ 4 < k ∨ p < 0 ∨ 2147483647 < p ∨ s < 0 then 1 else if size - 19 < (n : Int) then 9 else 0
theorem lcode_zero {size k p s : Int} {n : Nat} (h : lcode size k p s n = 0) : (96 ≤ size ∧ size ≤ 512) ∧ (1 ≤ k ∧ k ≤ 4) ∧ (0 ≤ p ∧ p ≤ 2147483647) ∧ 0 ≤ s ∧ (n : Int) ≤ size - 19 := by
  unfold lcode at h
  split at h
  · omega
  · split at h
    · omega
    · split at h <;> omega
/-- all but the check -/
def lbody (size k p s : Nat) (l : List UInt8) : List UInt8 := (((((([] ++ le k 1) ++ le l.length 2) ++ le p 4) ++ le s 8) ++ l) ++ List.replicate (size - 19 - l.length) 0)
def lbuild (size k p s : Nat) (l : List UInt8) : List UInt8 := lbody size k p s l ++ le (Crc.sum (nats (lbody size k p s l))) 4
theorem lbody_len (size k p s : Nat) (l : List UInt8) (h1 : 96 ≤ size) (h : l.length + 19 ≤ size) : (lbody size k p s l).length = size - 4 := by simp [lbody, le_len]; omega
theorem lbuild_len (size k p s : Nat) (l : List UInt8) (h1 : 96 ≤ size) (h : l.length + 19 ≤ size) : (lbuild size k p s l).length = size := by rw [lbuild, List.length_append, lbody_len size k p s l h1 h, le_len]; omega
theorem sum_lt (l : List UInt8) : Crc.sum (nats l) < 4294967296 := by unfold Crc.sum; omega

set_option maxRecDepth 100000 in
set_option maxHeartbeats 1000000 in
theorem lright_any (size k p s : Int) (v : Value) (l : List UInt8) (w : World) (hv : Bytes w v l) :
    Calls Try.prog 126 #[.agg #[.int .i64 k, .int .i64 p, .int .i64 s, v], .int .i64 size] w fun x w' => x = .returned (.int .i64 (lcode size k p s l.length)) ∧ Keep [] w w' := by
  obtain ⟨va, vc, rfl, -, hvm, -⟩ := hv.form
  have hK := (Keep.refl [] w).alloc (.cells #[.int .i64 k, .int .i64 p, .int .i64 s, .slice va l.length vc] 39)
  obtain ⟨n, hn⟩ : ∃ n, l.length = n := ⟨_, rfl⟩
  rw [hn] at hvm hK ⊢
  clear hn hv
  have hM := leafMay_any size
  by_cases h0 : ¬ (96 ≤ size ∧ size ≤ 512)
  · rw [show lcode size k p s n = 3 by rw [lcode, if_pos h0]]
    rw [decide_eq_false h0] at hM
    clear h0
    go_enter Try.func126, Try.ntmps126
    go_wp2_with fail
    refine (hM _).mono ?_
    rintro e w1 ⟨rfl, rfl⟩
    go_wp2
    go_ret
    exact ⟨rfl, hK⟩
  have h0' : 96 ≤ size ∧ size ≤ 512 := by omega
  rw [decide_eq_true h0'] at hM
  have hR := room_any size
  rw [if_pos h0'] at hR
  by_cases h1 : k < 1
  · rw [show lcode size k p s n = 1 by rw [lcode, if_neg h0, if_pos (by omega)]]
    clear h0 h0' hR
    go_enter Try.func126, Try.ntmps126
    go_wp2_with fail
    refine (hM _).mono ?_
    rintro e w1 ⟨rfl, rfl⟩
    go_wp2
    go_ret
    exact ⟨rfl, hK⟩
  by_cases h2 : 4 < k
  · rw [show lcode size k p s n = 1 by rw [lcode, if_neg h0, if_pos (by omega)]]
    clear h0 h0' hR
    go_enter Try.func126, Try.ntmps126
    go_wp2_with fail
    refine (hM _).mono ?_
    rintro e w1 ⟨rfl, rfl⟩
    go_wp2
    go_ret
    exact ⟨rfl, hK⟩
  by_cases h3 : p < 0
  · rw [show lcode size k p s n = 1 by rw [lcode, if_neg h0, if_pos (by omega)]]
    clear h0 h0' hR
    go_enter Try.func126, Try.ntmps126
    go_wp2_with fail
    refine (hM _).mono ?_
    rintro e w1 ⟨rfl, rfl⟩
    go_wp2
    go_ret
    exact ⟨rfl, hK⟩
  by_cases h4 : 2147483647 < p
  · rw [show lcode size k p s n = 1 by rw [lcode, if_neg h0, if_pos (by omega)]]
    clear h0 h0' hR
    go_enter Try.func126, Try.ntmps126
    go_wp2_with fail
    refine (hM _).mono ?_
    rintro e w1 ⟨rfl, rfl⟩
    go_wp2
    go_ret
    exact ⟨rfl, hK⟩
  by_cases h5 : s < 0
  · rw [show lcode size k p s n = 1 by rw [lcode, if_neg h0, if_pos (by omega)]]
    clear h0 h0' hR
    go_enter Try.func126, Try.ntmps126
    go_wp2_with fail
    refine (hM _).mono ?_
    rintro e w1 ⟨rfl, rfl⟩
    go_wp2
    go_ret
    exact ⟨rfl, hK⟩
  have hcode : lcode size k p s n = if size - 19 < (n : Int) then 9 else 0 := by rw [lcode, if_neg h0, if_neg (by omega)]
  rw [hcode]
  obtain ⟨b1, b2⟩ := h0'
  clear h0 hcode
  have hA := heap_alloc_new w (.cells #[.int .i64 k, .int .i64 p, .int .i64 s, .slice va n vc] 39)
  by_cases h6 : size - 19 < (n : Int)
  · rw [if_pos h6]
    go_enter Try.func126, Try.ntmps126
    go_wp2_with fail
    refine (hM _).mono ?_
    rintro e w1 ⟨rfl, rfl⟩
    go_wp2_with fail
    refine wp_region_his [] [] (fun _ => 0) (by kernel_rfl) (by kernel_rfl) ?_
    intro w1 hk1 _
    have c3 := fun w' (h : Keep [] w1 w') => cell_of_row w' _ 3 _ _ _ (h.blk (by simp) (hk1.blk (by simp) hA))
    simp at c3
    have hK1 := hK.trans hk1
    clear hk1 hA hK
    (repeat (first | (refine his_q rfl rfl (fun K hK => ?_); apply Exists.intro; refine ⟨fun w' hC => ?_, ?_⟩; ((try simp [Sg.upd] at hC); go_simp <;> rfl); go_simp; refine hK _ _ ?_; clear hK K) | (refine his_s rfl (fun K hK => ?_); go_simp; refine hK _ _ ?_; clear hK K)))
    refine his_c rfl rfl (.int .i64 (size - 19)) (fun K hK => ?_)
    refine ⟨fun w' hC => Yields.call _ _ ?_ (by kernel_rfl) (hR w'), ?_⟩
    · go_simp
    go_simp
    refine hK _ _ ?_
    clear hK K
    (repeat (first | (refine his_q rfl rfl (fun K hK => ?_); apply Exists.intro; refine ⟨fun w' hC => ?_, ?_⟩; ((try simp [Sg.upd] at hC); go_simp <;> rfl); go_simp; refine hK _ _ ?_; clear hK K) | (refine his_s rfl (fun K hK => ?_); go_simp; refine hK _ _ ?_; clear hK K)))
    refine his_nil ?_
    go_wp2
    go_ret
    exact ⟨rfl, hK1⟩
  · rw [if_neg h6]
    go_enter Try.func126, Try.ntmps126
    go_wp2_with fail
    refine (hM _).mono ?_
    rintro e w1 ⟨rfl, rfl⟩
    go_wp2_with fail
    refine wp_region_his [] [] (fun _ => 0) (by kernel_rfl) (by kernel_rfl) ?_
    intro w1 hk1 _
    have c3 := fun w' (h : Keep [] w1 w') => cell_of_row w' _ 3 _ _ _ (h.blk (by simp) (hk1.blk (by simp) hA))
    simp at c3
    have hK1 := hK.trans hk1
    clear hk1 hA hK
    (repeat (first | (refine his_q rfl rfl (fun K hK => ?_); apply Exists.intro; refine ⟨fun w' hC => ?_, ?_⟩; ((try simp [Sg.upd] at hC); go_simp <;> rfl); go_simp; refine hK _ _ ?_; clear hK K) | (refine his_s rfl (fun K hK => ?_); go_simp; refine hK _ _ ?_; clear hK K)))
    refine his_c rfl rfl (.int .i64 (size - 19)) (fun K hK => ?_)
    refine ⟨fun w' hC => Yields.call _ _ ?_ (by kernel_rfl) (hR w'), ?_⟩
    · go_simp
    go_simp
    refine hK _ _ ?_
    clear hK K
    (repeat (first | (refine his_q rfl rfl (fun K hK => ?_); apply Exists.intro; refine ⟨fun w' hC => ?_, ?_⟩; ((try simp [Sg.upd] at hC); go_simp <;> rfl); go_simp; refine hK _ _ ?_; clear hK K) | (refine his_s rfl (fun K hK => ?_); go_simp; refine hK _ _ ?_; clear hK K)))
    refine his_nil ?_
    go_wp2
    go_ret
    exact ⟨rfl, hK1⟩

set_option maxRecDepth 100000 in
set_option maxHeartbeats 1000000 in
set_option maxHeartbeats 4000000 in
theorem lbuild_any (size k p s : Int) (hs : s ≤ 9223372036854775807) (v : Value) (l : List UInt8) (w : World) (hv : Bytes w v l) :
    Calls Try.prog 78 #[.int .i64 size, .agg #[.int .i64 k, .int .i64 p, .int .i64 s, v]] w fun x w' => ∃ v', x = .returned (.tuple #[v', .int .i64 (lcode size k p s l.length)]) ∧
      OwnB w' w.heap.size 5 v' (if lcode size k p s l.length = 0 then lbuild size.toNat k.toNat p.toNat s.toNat l else []) ∧ Keep [] w w' := by
  obtain ⟨va, vc, rfl, -, hvm, -⟩ := hv.form
  have hK := (Keep.refl [] w).alloc (.cells #[.int .i64 k, .int .i64 p, .int .i64 s, .slice va l.length vc] 39)
  have hr := lright_any size k p s _ l _ (hv.keep hK (by simp))
  have hA := heap_alloc_new w (.cells #[.int .i64 k, .int .i64 p, .int .i64 s, .slice va l.length vc] 39)
  obtain ⟨rc, hrc⟩ : ∃ rc, lcode size k p s l.length = rc := ⟨_, rfl⟩
  rw [hrc] at hr ⊢
  by_cases hz : rc = 0
  · subst hz
    obtain ⟨⟨b1, b2⟩, ⟨b3, b4⟩, ⟨b5, b6⟩, b7, b8⟩ := lcode_zero hrc
    rw [if_pos rfl]
    clear hrc
    have hR := room_any size
    rw [if_pos ⟨b1, b2⟩] at hR
    obtain ⟨sz, rfl⟩ : ∃ n : Nat, size = (n : Int) := ⟨size.toNat, by omega⟩
    obtain ⟨kn, rfl⟩ : ∃ n : Nat, k = (n : Int) := ⟨k.toNat, by omega⟩
    obtain ⟨pn, rfl⟩ : ∃ n : Nat, p = (n : Int) := ⟨p.toNat, by omega⟩
    simp only [Int.toNat_natCast]
    obtain ⟨sn, hsn⟩ : ∃ n : Nat, s = (n : Int) := ⟨s.toNat, by omega⟩
    have hs64 : sn < 18446744073709551616 := by omega
    rw [hsn, Int.toNat_natCast]
    subst hsn
    have q1 : IntKind.u64.wrap (kn : Int) = (kn : Int) := by rw [u64_wrap]; omega
    have q2 : IntKind.u64.wrap (l.length : Int) = (l.length : Int) := by rw [u64_wrap]; omega
    have q3 : IntKind.u64.wrap (pn : Int) = (pn : Int) := by rw [u64_wrap]; omega
    have q4 : IntKind.u64.wrap (sn : Int) = (sn : Int) := by rw [u64_wrap]; omega
    go_enter Try.func78, Try.ntmps78
    go_wp2_with fail
    refine hr.mono ?_
    rintro x w2 ⟨rfl, hk2⟩
    have hb2 := hk2.blk (by simp) hA
    have hK2 := hK.trans hk2
    have c0 := cell_of_row w2 _ 0 _ _ _ hb2
    have c1 := cell_of_row w2 _ 1 _ _ _ hb2
    have c2 := cell_of_row w2 _ 2 _ _ _ hb2
    have c3 := cell_of_row w2 _ 3 _ _ _ hb2
    simp at c0 c1 c2 c3
    have hv2 := hv.keep hK2 (by simp)
    clear hk2 hb2 hr hK hA hv
    go_wp2_with fail
    refine (newWriter_any sz (by omega) _).mono ?_
    rintro x w4 ⟨g, rfl, hw4⟩
    have d0 := hw4.1.cell (by simp) c0
    go_wp2_with fail
    refine (putNumber_any _ g sz _ kn 1 (by omega) (by omega) _ hw4 (by simp; omega)).mono ?_
    rintro x w5 ⟨rfl, hw5⟩
    have d3 := hw5.1.cell (by simp) c3
    clear hw4 d0
    go_wp2_with fail
    refine (putNumber_any _ g sz _ l.length 2 (by omega) (by omega) _ hw5 (by simp [le_len]; omega)).mono ?_
    rintro x w6 ⟨rfl, hw6⟩
    have d1 := hw6.1.cell (by simp) c1
    clear hw5 d3
    go_wp2_with fail
    refine (putNumber_any _ g sz _ pn 4 (by omega) (by omega) _ hw6 (by simp [le_len]; omega)).mono ?_
    rintro x w7 ⟨rfl, hw7⟩
    have d2 := hw7.1.cell (by simp) c2
    clear hw6 d1
    go_wp2_with fail
    refine (putNumber_any _ g sz _ sn 8 hs64 (by omega) _ hw7 (by simp [le_len]; omega)).mono ?_
    rintro x w8 ⟨rfl, hw8⟩
    have d3 := hw8.1.cell (by simp) c3
    clear hw7 d2
    go_wp2_with fail
    refine (raw_any _ g sz _ _ l _ hw8 (hv2.keep hw8.1 (by simp)) (by simp [le_len]; omega)).mono ?_
    rintro x w9 ⟨rfl, hw9⟩
    clear hw8 d3
    go_wp2_with fail
    refine wp_region_hisG (Since w2) (Since.tr w2) (Since.rf w2) [7, 8] (fun _ => 0) (by kernel_rfl) (by kernel_rfl) ?_
    intro w10 hk10 hh
    clear hh
    have hw10 := hw9.keep hk10
    have c3' : ∀ w', Since w2 w10 w' → w'.cell? ⟨w.heap.size, 3, none⟩ = some (.slice va l.length vc) := fun w' h => (h hw10.1).cell (by simp) c3
    have q6 : (sz : Int) - 19 - (l.length : Int) = ((sz - 19 - l.length : Nat) : Int) := by omega
    obtain ⟨m, hm⟩ : ∃ m, sz - 19 - l.length = m := ⟨_, rfl⟩
    rw [hm] at q6
    have q7 : IntKind.i64.wrap (m : Int) = (m : Int) := i64_wrap_nat (by omega)
    have hB : lbody sz kn pn sn l = (((((([] ++ le kn 1) ++ le l.length 2) ++ le pn 4) ++ le sn 8) ++ l) ++ List.replicate m 0) := by rw [← hm]; rfl
    have hBl := lbody_len sz kn pn sn l (by omega) (by omega)
    have hfin : lbuild sz kn pn sn l = lbody sz kn pn sn l ++ le (Crc.sum (nats (lbody sz kn pn sn l))) 4 := rfl
    generalize lbody sz kn pn sn l = B at hB hBl hfin
    have HM := Lib.hid hm
    have HB := Lib.hid hB
    have HFIN := Lib.hid hfin
    clear hm hB hfin
    clear hw9 hk10
    (repeat (first | (refine his_q rfl rfl (fun K hK => ?_); apply Exists.intro; refine ⟨fun w' hC => ?_, ?_⟩; ((try simp [Sg.upd] at hC); go_simp <;> rfl); go_simp; refine hK _ _ ?_; clear hK K) | (refine his_s rfl (fun K hK => ?_); go_simp; refine hK _ _ ?_; clear hK K)))
    refine his_c rfl rfl (.int .i64 ((sz : Int) - 19)) (fun K hK => ?_)
    refine ⟨fun w' hC => Yields.call _ _ ?_ (by kernel_rfl) (hR w'), ?_⟩
    · go_simp
    go_simp
    refine hK _ _ ?_
    clear hK K
    (repeat (first | (refine his_q rfl rfl (fun K hK => ?_); apply Exists.intro; refine ⟨fun w' hC => ?_, ?_⟩; ((try simp [Sg.upd] at hC); go_simp <;> rfl); go_simp; refine hK _ _ ?_; clear hK K) | (refine his_s rfl (fun K hK => ?_); go_simp; refine hK _ _ ?_; clear hK K)))
    refine his_l rfl rfl (fun K hK => ?_)
    refine loudly_make (.tmp 47) (.tmp 47) 30 5 rfl w10.heap.size Try.underlying30 (by kernel_rfl) .i64 .i64 (n := m) rfl rfl (by omega) (Nat.le_refl _) ?_
    intro w11 ho11 hk11 _
    refine hK _ _ (fun h => h.trans hk11) ?_
    clear hK K
    (refine his_l rfl rfl (fun K hK => ?_); go_simp)
    refine (raw_any _ g sz _ _ (List.replicate m 0) w11 (hw10.keep hk11) (ho11.bytes (by simp; omega)) (by simp [le_len]; omega)).mono ?_
    rintro x w12 ⟨rfl, hw12⟩
    rw [← HB.out] at hw12
    refine hK _ _ (fun _ => hw12.1) ?_
    clear hK K hw10 ho11 hk11 c3' q6 q7
    refine his_nil ?_
    go_wp2_with fail
    refine (wbytes_any _ g sz _ _ hw12).mono ?_
    rintro x w13 ⟨v13, rfl, ho13, hk13, hk13'⟩
    have hw13 := hw12.keep hk13'
    have hS := sum_any v13 B w13 (ho13.bytes (by omega))
    have hS32 := sum_lt B
    generalize Crc.sum (nats B) = S at hS hS32 HFIN
    have q8 : IntKind.u64.wrap (S : Int) = (S : Int) := by rw [u64_wrap]; omega
    clear hw12 ho13 hk13 hk13'
    go_wp2_with fail
    refine hS.mono ?_
    rintro x w14 ⟨rfl, hk14⟩
    have hw14 := hw13.keep hk14
    clear hw13 hk14
    go_wp2_with fail
    refine (putNumber_any _ g sz _ S 4 (by omega) (by omega) _ hw14 (by omega)).mono ?_
    rintro x w15 ⟨rfl, hw15⟩
    rw [← HFIN.out] at hw15
    clear hw14
    go_wp2_with fail
    refine (wbytes_any _ g sz _ _ hw15).mono ?_
    rintro x w16 ⟨v', rfl, ho, hk16, -⟩
    go_wp2_with fail
    refine bodyPost_ret (results_tmp2 rfl _ _ _) rfl ?_
    exact ⟨v', rfl, ho.base (hK2.trans hw15.1).size, hK2.trans hk16⟩
  · rw [if_neg hz]
    have hz' : (rc != 0) = true := by simpa using hz
    clear hrc
    go_enter Try.func78, Try.ntmps78
    go_wp2_with fail
    refine hr.mono ?_
    rintro x w2 ⟨rfl, hk2⟩
    go_wp2_with fail
    refine bodyPost_ret (results_tmp2 rfl _ _ _) rfl ?_
    exact ⟨_, rfl, OwnB.nil _ _ _, hK.trans hk2⟩
end Go.Proofs.Ytijljdcpajjhhaa
