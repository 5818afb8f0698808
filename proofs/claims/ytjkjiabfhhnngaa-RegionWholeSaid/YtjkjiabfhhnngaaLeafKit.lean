import Derived.Test.YtjkjiabfhhnngaaGen
import Derived.Test.YtjkjiabfhhnngaaLeafRoom
import Derived.Test.YtjkjiabfhhnngaaHist
import Derived.Test.YtjkjiabfhhnngaaCrcKit
import Derived.Deep.CutRange
/-! What a leaf's sector is; the walks of leaf's may, Room, right, Build. -/
namespace Go.Proofs.Ytjkjiabfhhnngaa
open Go.RowKit Go.Shelf Sg
set_option linter.unusedSimpArgs false

/-- why there is no sector -/
def lcode (size k p s : Int) (n : Nat) : Int := if ¬ (96 ≤ size ∧ size ≤ 512) then 3 else if k < 1 ∨ 4 < k ∨ p < 0 ∨ 2147483647 < p ∨ s < 0 then 1 else if size - 19 < (n : Int) then 9 else 0
theorem lcode_zero {size k p s : Int} {n : Nat} (h : lcode size k p s n = 0) : (96 ≤ size ∧ size ≤ 512) ∧ (1 ≤ k ∧ k ≤ 4) ∧ (0 ≤ p ∧ p ≤ 2147483647) ∧ 0 ≤ s ∧ (n : Int) ≤ size - 19 := by
  unfold lcode at h
  split at h
  · omega
  · split at h
    · omega
    · split at h <;> omega
/-- all but the check -/
def lbody (size k p s : Nat) (l : List UInt8) : List UInt8 := (((((([] ++ le k 1) ++ le l.length 2) ++ le p 4) ++ le s 8) ++ l) ++ List.replicate (size - 19 - l.length) 0)
def lbuild (size k p s : Nat) (l : List UInt8) : List UInt8 := lbody size k p s l ++ le (Crc.sum (nats (lbody size k p s l))) 4
theorem lbody_len (size k p s : Nat) (l : List UInt8) (h1 : 96 ≤ size) (h : l.length + 19 ≤ size) : (lbody size k p s l).length = size - 4 := by simp [lbody, le_len]; omega
theorem lbuild_len (size k p s : Nat) (l : List UInt8) (h1 : 96 ≤ size) (h : l.length + 19 ≤ size) : (lbuild size k p s l).length = size := by rw [lbuild, List.length_append, lbody_len size k p s l h1 h, le_len]; omega
theorem sum_lt (l : List UInt8) : Crc.sum (nats l) < 4294967296 := by unfold Crc.sum; omega

set_option maxRecDepth 100000 in
set_option maxHeartbeats 1000000 in
theorem lright_any (size k p s : Int) (v : Value) (l : List UInt8) (w : World) (hv : Bytes w v l) :
    Calls Try.prog 133 #[.agg #[.int .i64 k, .int .i64 p, .int .i64 s, v], .int .i64 size] w fun x w' => x = .returned (.int .i64 (lcode size k p s l.length)) ∧ Keep [] w w' := by
  obtain ⟨va, vc, rfl, -, hvm, -⟩ := hv.form
  have hK := (Keep.refl [] w).alloc (.cells #[.int .i64 k, .int .i64 p, .int .i64 s, .slice va l.length vc] 74)
  obtain ⟨n, hn⟩ : ∃ n, l.length = n := ⟨_, rfl⟩
  rw [hn] at hvm hK ⊢
  clear hn hv
  have hM := leafMay_any size
  by_cases h0 : ¬ (96 ≤ size ∧ size ≤ 512)
  · rw [show lcode size k p s n = 3 by rw [lcode, if_pos h0]]
    rw [decide_eq_false h0] at hM
    clear h0
    go_enter Try.func133, Try.ntmps133
    go_wp2_with fail
    refine (hM _).mono ?_
    rintro e w1 ⟨rfl, rfl⟩
    go_wp2
    go_ret
    exact ⟨rfl, hK⟩
  have h0' : 96 ≤ size ∧ size ≤ 512 := by omega
  rw [decide_eq_true h0'] at hM
  have hR := room_any size
  rw [if_pos h0'] at hR
  by_cases h1 : k < 1
  · rw [show lcode size k p s n = 1 by rw [lcode, if_neg h0, if_pos (by omega)]]
    clear h0 h0' hR
    go_enter Try.func133, Try.ntmps133
    go_wp2_with fail
    refine (hM _).mono ?_
    rintro e w1 ⟨rfl, rfl⟩
    go_wp2
    go_ret
    exact ⟨rfl, hK⟩
  by_cases h2 : 4 < k
  · rw [show lcode size k p s n = 1 by rw [lcode, if_neg h0, if_pos (by omega)]]
    clear h0 h0' hR
    go_enter Try.func133, Try.ntmps133
    go_wp2_with fail
    refine (hM _).mono ?_
    rintro e w1 ⟨rfl, rfl⟩
    go_wp2
    go_ret
    exact ⟨rfl, hK⟩
  by_cases h3 : p < 0
  · rw [show lcode size k p s n = 1 by rw [lcode, if_neg h0, if_pos (by omega)]]
    clear h0 h0' hR
    go_enter Try.func133, Try.ntmps133
    go_wp2_with fail
    refine (hM _).mono ?_
    rintro e w1 ⟨rfl, rfl⟩
    go_wp2
    go_ret
    exact ⟨rfl, hK⟩
  by_cases h4 : 2147483647 < p
  · rw [show lcode size k p s n = 1 by rw [lcode, if_neg h0, if_pos (by omega)]]
    clear h0 h0' hR
    go_enter Try.func133, Try.ntmps133
    go_wp2_with fail
    refine (hM _).mono ?_
    rintro e w1 ⟨rfl, rfl⟩
    go_wp2
    go_ret
    exact ⟨rfl, hK⟩
  by_cases h5 : s < 0
  · rw [show lcode size k p s n = 1 by rw [lcode, if_neg h0, if_pos (by omega)]]
    clear h0 h0' hR
    go_enter Try.func133, Try.ntmps133
    go_wp2_with fail
    refine (hM _).mono ?_
    rintro e w1 ⟨rfl, rfl⟩
    go_wp2
    go_ret
    exact ⟨rfl, hK⟩
  have hcode : lcode size k p s n = if size - 19 < (n : Int) then 9 else 0 := by rw [lcode, if_neg h0, if_neg (by omega)]
  rw [hcode]
  obtain ⟨b1, b2⟩ := h0'
  clear h0 hcode
  have hA := heap_alloc_new w (.cells #[.int .i64 k, .int .i64 p, .int .i64 s, .slice va n vc] 74)
  by_cases h6 : size - 19 < (n : Int)
  · rw [if_pos h6]
    go_enter Try.func133, Try.ntmps133
    go_wp2_with fail
    refine (hM _).mono ?_
    rintro e w1 ⟨rfl, rfl⟩
    go_wp2_with fail
    refine wp_region_his [] [] (fun _ => 0) (by kernel_rfl) (by kernel_rfl) ?_
    intro w1 hk1 _
    have c3 := fun w' (h : Keep [] w1 w') => cell_of_row w' _ 3 _ _ _ (h.blk (by simp) (hk1.blk (by simp) hA))
    simp at c3
    have hK1 := hK.trans hk1
    clear hk1 hA hK
    (repeat (first | (refine his_q rfl rfl (fun K hK => ?_); apply Exists.intro; refine ⟨fun w' hC => ?_, ?_⟩; ((try simp [Sg.upd] at hC); go_simp <;> rfl); go_simp; refine hK _ _ ?_; clear hK K) | (refine his_s rfl (fun K hK => ?_); go_simp; refine hK _ _ ?_; clear hK K)))
    refine his_c rfl rfl (.int .i64 (size - 19)) (fun K hK => ?_)
    refine ⟨fun w' hC => Yields.call _ _ ?_ (by kernel_rfl) (hR w'), ?_⟩
    · go_simp
    go_simp
    refine hK _ _ ?_
    clear hK K
    (repeat (first | (refine his_q rfl rfl (fun K hK => ?_); apply Exists.intro; refine ⟨fun w' hC => ?_, ?_⟩; ((try simp [Sg.upd] at hC); go_simp <;> rfl); go_simp; refine hK _ _ ?_; clear hK K) | (refine his_s rfl (fun K hK => ?_); go_simp; refine hK _ _ ?_; clear hK K)))
    refine his_nil ?_
    go_wp2
    go_ret
    exact ⟨rfl, hK1⟩
  · rw [if_neg h6]
    go_enter Try.func133, Try.ntmps133
    go_wp2_with fail
    refine (hM _).mono ?_
    rintro e w1 ⟨rfl, rfl⟩
    go_wp2_with fail
    refine wp_region_his [] [] (fun _ => 0) (by kernel_rfl) (by kernel_rfl) ?_
    intro w1 hk1 _
    have c3 := fun w' (h : Keep [] w1 w') => cell_of_row w' _ 3 _ _ _ (h.blk (by simp) (hk1.blk (by simp) hA))
    simp at c3
    have hK1 := hK.trans hk1
    clear hk1 hA hK
    (repeat (first | (refine his_q rfl rfl (fun K hK => ?_); apply Exists.intro; refine ⟨fun w' hC => ?_, ?_⟩; ((try simp [Sg.upd] at hC); go_simp <;> rfl); go_simp; refine hK _ _ ?_; clear hK K) | (refine his_s rfl (fun K hK => ?_); go_simp; refine hK _ _ ?_; clear hK K)))
    refine his_c rfl rfl (.int .i64 (size - 19)) (fun K hK => ?_)
    refine ⟨fun w' hC => Yields.call _ _ ?_ (by kernel_rfl) (hR w'), ?_⟩
    · go_simp
    go_simp
    refine hK _ _ ?_
    clear hK K
    (repeat (first | (refine his_q rfl rfl (fun K hK => ?_); apply Exists.intro; refine ⟨fun w' hC => ?_, ?_⟩; ((try simp [Sg.upd] at hC); go_simp <;> rfl); go_simp; refine hK _ _ ?_; clear hK K) | (refine his_s rfl (fun K hK => ?_); go_simp; refine hK _ _ ?_; clear hK K)))
    refine his_nil ?_
    go_wp2
    go_ret
    exact ⟨rfl, hK1⟩

set_option maxRecDepth 100000 in
set_option maxHeartbeats 1000000 in
set_option maxHeartbeats 4000000 in
theorem lbuild_any (size k p s : Int) (hs : s ≤ 9223372036854775807) (v : Value) (l : List UInt8) (w : World) (hv : Bytes w v l) :
    Calls Try.prog 101 #[.int .i64 size, .agg #[.int .i64 k, .int .i64 p, .int .i64 s, v]] w fun x w' => ∃ v', x = .returned (.tuple #[v', .int .i64 (lcode size k p s l.length)]) ∧
      OwnB w' w.heap.size 5 v' (if lcode size k p s l.length = 0 then lbuild size.toNat k.toNat p.toNat s.toNat l else []) ∧ Keep [] w w' := by
  obtain ⟨va, vc, rfl, -, hvm, -⟩ := hv.form
  have hK := (Keep.refl [] w).alloc (.cells #[.int .i64 k, .int .i64 p, .int .i64 s, .slice va l.length vc] 74)
  have hr := lright_any size k p s _ l _ (hv.keep hK (by simp))
  have hA := heap_alloc_new w (.cells #[.int .i64 k, .int .i64 p, .int .i64 s, .slice va l.length vc] 74)
  obtain ⟨rc, hrc⟩ : ∃ rc, lcode size k p s l.length = rc := ⟨_, rfl⟩
  rw [hrc] at hr ⊢
  by_cases hz : rc = 0
  · subst hz
    obtain ⟨⟨b1, b2⟩, ⟨b3, b4⟩, ⟨b5, b6⟩, b7, b8⟩ := lcode_zero hrc
    rw [if_pos rfl]
    clear hrc
    have hR := room_any size
    rw [if_pos ⟨b1, b2⟩] at hR
    obtain ⟨sz, rfl⟩ : ∃ n : Nat, size = (n : Int) := ⟨size.toNat, by omega⟩
    obtain ⟨kn, rfl⟩ : ∃ n : Nat, k = (n : Int) := ⟨k.toNat, by omega⟩
    obtain ⟨pn, rfl⟩ : ∃ n : Nat, p = (n : Int) := ⟨p.toNat, by omega⟩
    simp only [Int.toNat_natCast]
    obtain ⟨sn, hsn⟩ : ∃ n : Nat, s = (n : Int) := ⟨s.toNat, by omega⟩
    have hs64 : sn < 18446744073709551616 := by omega
    rw [hsn, Int.toNat_natCast]
    subst hsn
    have q1 : IntKind.u64.wrap (kn : Int) = (kn : Int) := by rw [u64_wrap]; omega
    have q2 : IntKind.u64.wrap (l.length : Int) = (l.length : Int) := by rw [u64_wrap]; omega
    have q3 : IntKind.u64.wrap (pn : Int) = (pn : Int) := by rw [u64_wrap]; omega
    have q4 : IntKind.u64.wrap (sn : Int) = (sn : Int) := by rw [u64_wrap]; omega
    go_enter Try.func101, Try.ntmps101
    go_wp2_with fail
    refine hr.mono ?_
    rintro x w2 ⟨rfl, hk2⟩
    have hb2 := hk2.blk (by simp) hA
    have hK2 := hK.trans hk2
    have c0 := cell_of_row w2 _ 0 _ _ _ hb2
    have c1 := cell_of_row w2 _ 1 _ _ _ hb2
    have c2 := cell_of_row w2 _ 2 _ _ _ hb2
    have c3 := cell_of_row w2 _ 3 _ _ _ hb2
    simp at c0 c1 c2 c3
    have hv2 := hv.keep hK2 (by simp)
    clear hk2 hb2 hr hK hA hv
    go_wp2_with fail
    refine (newWriter_any sz (by omega) _).mono ?_
    rintro x w4 ⟨g, rfl, hw4⟩
    have d0 := hw4.1.cell (by simp) c0
    go_wp2_with fail
    refine (putNumber_any _ g sz _ kn 1 (by omega) (by omega) _ hw4 (by simp; omega)).mono ?_
    rintro x w5 ⟨rfl, hw5⟩
    have d3 := hw5.1.cell (by simp) c3
    clear hw4 d0
    go_wp2_with fail
    refine (putNumber_any _ g sz _ l.length 2 (by omega) (by omega) _ hw5 (by simp [le_len]; omega)).mono ?_
    rintro x w6 ⟨rfl, hw6⟩
    have d1 := hw6.1.cell (by simp) c1
    clear hw5 d3
    go_wp2_with fail
    refine (putNumber_any _ g sz _ pn 4 (by omega) (by omega) _ hw6 (by simp [le_len]; omega)).mono ?_
    rintro x w7 ⟨rfl, hw7⟩
    have d2 := hw7.1.cell (by simp) c2
    clear hw6 d1
    go_wp2_with fail
    refine (putNumber_any _ g sz _ sn 8 hs64 (by omega) _ hw7 (by simp [le_len]; omega)).mono ?_
    rintro x w8 ⟨rfl, hw8⟩
    have d3 := hw8.1.cell (by simp) c3
    clear hw7 d2
    go_wp2_with fail
    refine (raw_any _ g sz _ _ l _ hw8 (hv2.keep hw8.1 (by simp)) (by simp [le_len]; omega)).mono ?_
    rintro x w9 ⟨rfl, hw9⟩
    clear hw8 d3
    go_wp2_with fail
    refine wp_region_hisG (Since w2) (Since.tr w2) (Since.rf w2) [7, 8] (fun _ => 0) (by kernel_rfl) (by kernel_rfl) ?_
    intro w10 hk10 hh
    clear hh
    have hw10 := hw9.keep hk10
    have c3' : ∀ w', Since w2 w10 w' → w'.cell? ⟨w.heap.size, 3, none⟩ = some (.slice va l.length vc) := fun w' h => (h hw10.1).cell (by simp) c3
    have q6 : (sz : Int) - 19 - (l.length : Int) = ((sz - 19 - l.length : Nat) : Int) := by omega
    obtain ⟨m, hm⟩ : ∃ m, sz - 19 - l.length = m := ⟨_, rfl⟩
    rw [hm] at q6
    have q7 : IntKind.i64.wrap (m : Int) = (m : Int) := i64_wrap_nat (by omega)
    have hB : lbody sz kn pn sn l = (((((([] ++ le kn 1) ++ le l.length 2) ++ le pn 4) ++ le sn 8) ++ l) ++ List.replicate m 0) := by rw [← hm]; rfl
    have hBl := lbody_len sz kn pn sn l (by omega) (by omega)
    have hfin : lbuild sz kn pn sn l = lbody sz kn pn sn l ++ le (Crc.sum (nats (lbody sz kn pn sn l))) 4 := rfl
    generalize lbody sz kn pn sn l = B at hB hBl hfin
    have HM := Lib.hid hm
    have HB := Lib.hid hB
    have HFIN := Lib.hid hfin
    clear hm hB hfin
    clear hw9 hk10
    (repeat (first | (refine his_q rfl rfl (fun K hK => ?_); apply Exists.intro; refine ⟨fun w' hC => ?_, ?_⟩; ((try simp [Sg.upd] at hC); go_simp <;> rfl); go_simp; refine hK _ _ ?_; clear hK K) | (refine his_s rfl (fun K hK => ?_); go_simp; refine hK _ _ ?_; clear hK K)))
    refine his_c rfl rfl (.int .i64 ((sz : Int) - 19)) (fun K hK => ?_)
    refine ⟨fun w' hC => Yields.call _ _ ?_ (by kernel_rfl) (hR w'), ?_⟩
    · go_simp
    go_simp
    refine hK _ _ ?_
    clear hK K
    (repeat (first | (refine his_q rfl rfl (fun K hK => ?_); apply Exists.intro; refine ⟨fun w' hC => ?_, ?_⟩; ((try simp [Sg.upd] at hC); go_simp <;> rfl); go_simp; refine hK _ _ ?_; clear hK K) | (refine his_s rfl (fun K hK => ?_); go_simp; refine hK _ _ ?_; clear hK K)))
    refine his_l rfl rfl (fun K hK => ?_)
    refine loudly_make (.tmp 47) (.tmp 47) 42 5 rfl w10.heap.size Try.underlying42 (by kernel_rfl) .i64 .i64 (n := m) rfl rfl (by omega) (Nat.le_refl _) ?_
    intro w11 ho11 hk11 _
    refine hK _ _ (fun h => h.trans hk11) ?_
    clear hK K
    (refine his_l rfl rfl (fun K hK => ?_); go_simp)
    refine (raw_any _ g sz _ _ (List.replicate m 0) w11 (hw10.keep hk11) (ho11.bytes (by simp; omega)) (by simp [le_len]; omega)).mono ?_
    rintro x w12 ⟨rfl, hw12⟩
    rw [← HB.out] at hw12
    refine hK _ _ (fun _ => hw12.1) ?_
    clear hK K hw10 ho11 hk11 c3' q6 q7
    refine his_nil ?_
    go_wp2_with fail
    refine (wbytes_any _ g sz _ _ hw12).mono ?_
    rintro x w13 ⟨v13, rfl, ho13, hk13, hk13'⟩
    have hw13 := hw12.keep hk13'
    have hS := sum_any v13 B w13 (ho13.bytes (by omega))
    have hS32 := sum_lt B
    generalize Crc.sum (nats B) = S at hS hS32 HFIN
    have q8 : IntKind.u64.wrap (S : Int) = (S : Int) := by rw [u64_wrap]; omega
    clear hw12 ho13 hk13 hk13'
    go_wp2_with fail
    refine hS.mono ?_
    rintro x w14 ⟨rfl, hk14⟩
    have hw14 := hw13.keep hk14
    clear hw13 hk14
    go_wp2_with fail
    refine (putNumber_any _ g sz _ S 4 (by omega) (by omega) _ hw14 (by omega)).mono ?_
    rintro x w15 ⟨rfl, hw15⟩
    rw [← HFIN.out] at hw15
    clear hw14
    go_wp2_with fail
    refine (wbytes_any _ g sz _ _ hw15).mono ?_
    rintro x w16 ⟨v', rfl, ho, hk16, -⟩
    go_wp2_with fail
    refine bodyPost_ret (results_tmp2 rfl _ _ _) rfl ?_
    exact ⟨v', rfl, ho.base (hK2.trans hw15.1).size, hK2.trans hk16⟩
  · rw [if_neg hz]
    have hz' : (rc != 0) = true := by simpa using hz
    clear hrc
    go_enter Try.func101, Try.ntmps101
    go_wp2_with fail
    refine hr.mono ?_
    rintro x w2 ⟨rfl, hk2⟩
    go_wp2_with fail
    refine bodyPost_ret (results_tmp2 rfl _ _ _) rfl ?_
    exact ⟨_, rfl, OwnB.nil _ _ _, hK.trans hk2⟩
end Go.Proofs.Ytjkjiabfhhnngaa

/-! The walks of the document's Build of a leaf, of the laws' of and told, of bytes.Equal. -/
namespace Go.Proofs.Ytjkjiabfhhnngaa
open Go.RowKit Go.Shelf Sg
set_option linter.unusedSimpArgs false

def sliceLen : Value → Nat
  | .slice _ n _ => n
  | _ => 0

set_option maxRecDepth 100000 in
set_option maxHeartbeats 1000000 in
theorem equal_any (x y : Value) (a b : List UInt8) (w : World) (hx : Bytes w x a) (hy : Bytes w y b) : Calls Try.prog 103 #[x, y] w fun e w' => e = .returned (.bool (decide (a = b))) ∧ w = w' := by
  have q1 := run_str (P := Try.prog) 42 9 5 Try.underlying42 Try.underlying5 Try.underlying9 hx
  have q2 := run_str (P := Try.prog) 42 9 5 Try.underlying42 Try.underlying5 Try.underlying9 hy
  obtain ⟨ax, cx, rfl, -⟩ := hx.form
  obtain ⟨ay, cy, rfl, -⟩ := hy.form
  have hd : decide (a = b) = (a == b) := by by_cases h : a = b <;> simp [h]
  rw [hd]
  clear hx hy hd
  go_enter Try.func103, Try.ntmps103
  go_wp2
  go_ret
  exact ⟨rfl, rfl⟩

theorem nu4 (a b c : Int) (v : Value) (hv : ∀ n : Int, v ≠ .int .u8 n) : ∀ (i : Nat) (x : Value), (#[Value.int .i64 a, Value.int .i64 b, Value.int .i64 c, v] : Array Value)[i]? = some x → ∀ n : Int, x ≠ Value.int .u8 n := by
  intro i x hx n e
  subst e
  match i, hx with
  | 0, h => simp at h
  | 1, h => simp at h
  | 2, h => simp at h
  | 3, h => simp at h; exact hv _ h
  | i + 4, h => simp at h

set_option maxRecDepth 100000 in
set_option maxHeartbeats 1000000 in
theorem of05_any (k p s : Int) (ls : ByteArray) (hl : ls.size ≤ 140737488355328) (w : World) :
    Calls Try.prog 41 #[.agg #[.int .i64 k, .int .i64 p, .int .i64 s, .string ls]] w fun x w' => ∃ v, x = .returned (.agg #[.int .i64 k, .int .i64 p, .int .i64 s, v]) ∧ Bytes w' v ls.data.toList ∧ Keep [] w w' := by
  go_enter Try.func41, Try.ntmps41
  go_wp2_with (refine wpList_of_string rfl (.tmp 10) 9 42 5 rfl Try.underlying9 Try.underlying42 Try.underlying5 rfl hl ?_)
  intro v1 w1 hb1 hk1
  have hB := hk1.blk (by simp) (heap_alloc2_new w _ _)
  have hK := (((Keep.refl [] w).alloc _).alloc _).trans hk1
  obtain ⟨ao1, cap1, hv1, -⟩ := hb1.form
  subst hv1
  rw [show ls.data.toList.length = ls.size by rw [Array.length_toList]; rfl] at hb1
  go_wp2_with (refine wpList_store_row rfl 74 (.tmp 2) _ rfl (w.heap.size + 1) _ rfl rfl 74 _ hB (by kernel_rfl) (by rfl) (by kernel_rfl) ?_)
  refine bodyPost_ret (results_cell_row rfl _ _ (w.heap.size + 1) 74 _ _ _ rfl (setRow_heap _ _ _ _ _ _ hB) Try.underlying74 rfl (by kernel_rfl)) rfl ⟨_, rfl, ?_, hK.setRow (.inr (by omega)) _⟩
  exact (bytes_setRow hb1 (fun h => hb1.ne_row h hB (nu4 0 0 0 _ (by intro n h; cases h))) _)

set_option maxRecDepth 100000 in
set_option maxHeartbeats 1000000 in
theorem told05_any (k p s : Int) (v : Value) (l : List UInt8) (w : World) (hv : Bytes w v l) :
    Calls Try.prog 45 #[.agg #[.int .i64 k, .int .i64 p, .int .i64 s, v], .agg #[.int .i64 k, .int .i64 p, .int .i64 s, .string ⟨l.toArray⟩]] w fun x w' => x = .returned (.bool true) ∧ Keep [] w w' := by
  obtain ⟨va, vc, rfl, -⟩ := hv.form
  have q : ∀ w', Keep [] w w' → Sem.run Try.prog (convert 42 9 (.slice va l.length vc)) w' = .ok (.string ⟨l.toArray⟩) w' := fun w' h => run_str (P := Try.prog) 42 9 5 Try.underlying42 Try.underlying5 Try.underlying9 (hv.keep h (by simp))
  have hK := ((Keep.refl [] w).alloc (.cells #[.int .i64 k, .int .i64 p, .int .i64 s, .slice va l.length vc] 74)).alloc (.cells #[.int .i64 k, .int .i64 p, .int .i64 s, .string ⟨l.toArray⟩] 67)
  have q2 := q _ hK
  clear q hv
  go_enter Try.func45, Try.ntmps45
  go_wp2
  go_ret
  exact ⟨rfl, hK⟩

set_option maxRecDepth 100000 in
set_option maxHeartbeats 1000000 in
set_option maxHeartbeats 4000000 in
theorem refBuild_any (size k p s : Int) (hs : s ≤ 9223372036854775807) (hs1 : -9223372036854775808 ≤ size ∧ size ≤ 9223372036854775807) (ls : ByteArray) (hls : ls.size ≤ 100000) (w : World) :
    Calls Try.prog 39 #[.int .i64 size, .agg #[.int .i64 k, .int .i64 p, .int .i64 s, .string ls]] w fun x w' => ∃ v', x = .returned (.tuple #[v', .int .i64 (lcode size k p s ls.size)]) ∧
      OwnB w' w.heap.size 5 v' (if lcode size k p s ls.size = 0 then lbuild size.toNat k.toNat p.toNat s.toNat ls.data.toList else []) ∧ Keep [] w w' := by
  have hK := (Keep.refl [] w).alloc (.cells #[.int .i64 k, .int .i64 p, .int .i64 s, .string ls] 67)
  have lk : ls.data.toList.length = ls.size := by rw [Array.length_toList]; rfl
  by_cases h0 : size < 96
  · rw [show lcode size k p s ls.size = 3 by rw [lcode, if_pos (by omega)]]
    go_enter Try.func39, Try.ntmps39
    go_wp2
    refine bodyPost_ret (results_tmp2 rfl _ _ _) rfl ?_
    exact ⟨_, rfl, OwnB.nil _ _ _, hK⟩
  by_cases h1 : 512 < size
  · rw [show lcode size k p s ls.size = 3 by rw [lcode, if_pos (by omega)]]
    go_enter Try.func39, Try.ntmps39
    go_wp2
    refine bodyPost_ret (results_tmp2 rfl _ _ _) rfl ?_
    exact ⟨_, rfl, OwnB.nil _ _ _, hK⟩
  by_cases h2 : k < 1
  · rw [show lcode size k p s ls.size = 1 by rw [lcode, if_neg (by omega), if_pos (by omega)]]
    go_enter Try.func39, Try.ntmps39
    go_wp2
    refine bodyPost_ret (results_tmp2 rfl _ _ _) rfl ?_
    exact ⟨_, rfl, OwnB.nil _ _ _, hK⟩
  by_cases h3 : 4 < k
  · rw [show lcode size k p s ls.size = 1 by rw [lcode, if_neg (by omega), if_pos (by omega)]]
    go_enter Try.func39, Try.ntmps39
    go_wp2
    refine bodyPost_ret (results_tmp2 rfl _ _ _) rfl ?_
    exact ⟨_, rfl, OwnB.nil _ _ _, hK⟩
  by_cases h4 : p < 0
  · rw [show lcode size k p s ls.size = 1 by rw [lcode, if_neg (by omega), if_pos (by omega)]]
    go_enter Try.func39, Try.ntmps39
    go_wp2
    refine bodyPost_ret (results_tmp2 rfl _ _ _) rfl ?_
    exact ⟨_, rfl, OwnB.nil _ _ _, hK⟩
  by_cases h5 : 2147483647 < p
  · rw [show lcode size k p s ls.size = 1 by rw [lcode, if_neg (by omega), if_pos (by omega)]]
    go_enter Try.func39, Try.ntmps39
    go_wp2
    refine bodyPost_ret (results_tmp2 rfl _ _ _) rfl ?_
    exact ⟨_, rfl, OwnB.nil _ _ _, hK⟩
  by_cases h6 : s < 0
  · rw [show lcode size k p s ls.size = 1 by rw [lcode, if_neg (by omega), if_pos (by omega)]]
    go_enter Try.func39, Try.ntmps39
    go_wp2
    refine bodyPost_ret (results_tmp2 rfl _ _ _) rfl ?_
    exact ⟨_, rfl, OwnB.nil _ _ _, hK⟩
  by_cases h7 : size - 19 < (ls.size : Int)
  · rw [show lcode size k p s ls.size = 9 by rw [lcode, if_neg (by omega), if_neg (by omega), if_pos (by omega)]]
    go_enter Try.func39, Try.ntmps39
    go_wp2
    refine bodyPost_ret (results_tmp2 rfl _ _ _) rfl ?_
    exact ⟨_, rfl, OwnB.nil _ _ _, hK⟩
  rw [show lcode size k p s ls.size = 0 by rw [lcode, if_neg (by omega), if_neg (by omega), if_neg (by omega)], if_pos rfl]
  obtain ⟨sz, rfl⟩ : ∃ n : Nat, size = (n : Int) := ⟨size.toNat, by omega⟩
  obtain ⟨kn, rfl⟩ : ∃ n : Nat, k = (n : Int) := ⟨k.toNat, by omega⟩
  obtain ⟨pn, rfl⟩ : ∃ n : Nat, p = (n : Int) := ⟨p.toNat, by omega⟩
  obtain ⟨sn, rfl⟩ : ∃ n : Nat, s = (n : Int) := ⟨s.toNat, by omega⟩
  simp only [Int.toNat_natCast]
  have q1 : IntKind.u64.wrap (kn : Int) = (kn : Int) := by rw [u64_wrap]; omega
  have q2 : IntKind.u64.wrap (ls.size : Int) = (ls.size : Int) := by rw [u64_wrap]; omega
  have q3 : IntKind.u64.wrap (pn : Int) = (pn : Int) := by rw [u64_wrap]; omega
  have q4 : IntKind.u64.wrap (sn : Int) = (sn : Int) := by rw [u64_wrap]; omega
  have hA1 := heap_alloc_new w (.cells #[.int .i64 (kn : Int), .int .i64 (pn : Int), .int .i64 (sn : Int), .string ls] 67)
  have hBl := lbody_len sz kn pn sn ls.data.toList (by omega) (by omega)
  obtain ⟨m, hm⟩ : ∃ m, sz - 19 - ls.size = m := ⟨_, rfl⟩
  have hB : lbody sz kn pn sn ls.data.toList = (le kn 1 ++ (le ls.size 2 ++ (le pn 4 ++ (le sn 8 ++ ls.data.toList)))) ++ List.replicate m 0 := by rw [← hm, lbody, lk, List.nil_append]; simp only [List.append_assoc]
  have hX : (le kn 1 ++ (le ls.size 2 ++ (le pn 4 ++ (le sn 8 ++ ls.data.toList)))).length = 15 + ls.size := by simp only [List.length_append, le_len, lk]; omega
  have hfin : lbuild sz kn pn sn ls.data.toList = lbody sz kn pn sn ls.data.toList ++ le (Crc.sum (nats (lbody sz kn pn sn ls.data.toList))) 4 := rfl
  generalize lbody sz kn pn sn ls.data.toList = B at hB hBl hfin
  have HB := Lib.hid hB
  have HFIN := Lib.hid hfin
  have HX := Lib.hid hX
  have HM := Lib.hid hm
  clear hB hfin hX hm
  go_enter Try.func39, Try.ntmps39
  go_wp2_with fail
  refine (refNumber_any kn 1 (by omega) (by omega) _).mono ?_
  rintro x w1 ⟨v1, rfl, on1, k1⟩
  have hA2 := k1.blk (by simp) hA1
  have hK2 := hK.trans k1
  have ho2 := on1.base (base' := w.heap.size) (by simp)
  clear hA1 hK k1 on1
  have g3 := cell_of_row w1 _ 3 _ _ _ hA2
  simp at g3
  go_wp2_with fail
  refine (refNumber_any ls.size 2 (by omega) (by omega) _).mono ?_
  rintro x w3 ⟨v3, rfl, on3, k3⟩
  have hA3 := k3.blk (by simp) hA2
  have hK3 := hK2.trans k3
  have ho3 := ho2.keep k3 (by simp)
  clear hA2 hK2 ho2 k3 g3
  go_wp2_with (refine wpList_append_bytes rfl (.tmp 47) (.tmp 52) 42 5 rfl w.heap.size Try.underlying42 (by kernel_rfl) rfl rfl ho3 (on3.bytes (by rw [le_len]; omega)) (by simp only [List.length_append, List.length_nil, le_len]; omega) hK3.size ?_)
  intro v4 w4 ho4 k4
  have hA4 := k4.blk (fun h => (ho3.ne_row hA3 (by decide)) (by simpa using h)) hA3
  have hK4 := own_grow ho3 hK3 k4
  clear hA3 hK3 ho3 on3 k4
  have g1 := cell_of_row w4 _ 1 _ _ _ hA4
  simp at g1
  go_wp2_with fail
  refine (refNumber_any pn 4 (by omega) (by omega) _).mono ?_
  rintro x w5 ⟨v5, rfl, on5, k5⟩
  have hA5 := k5.blk (by simp) hA4
  have hK5 := hK4.trans k5
  have ho5 := ho4.keep k5 (by simp)
  clear hA4 hK4 ho4 k5 g1
  go_wp2_with (refine wpList_append_bytes rfl (.tmp 54) (.tmp 58) 42 5 rfl w.heap.size Try.underlying42 (by kernel_rfl) rfl rfl ho5 (on5.bytes (by rw [le_len]; omega)) (by simp only [List.length_append, List.length_nil, le_len]; omega) hK5.size ?_)
  intro v6 w6 ho6 k6
  have hA6 := k6.blk (fun h => (ho5.ne_row hA5 (by decide)) (by simpa using h)) hA5
  have hK6 := own_grow ho5 hK5 k6
  clear hA5 hK5 ho5 on5 k6
  have g2 := cell_of_row w6 _ 2 _ _ _ hA6
  simp at g2
  go_wp2_with fail
  refine (refNumber_any sn 8 (by omega) (by omega) _).mono ?_
  rintro x w7 ⟨v7, rfl, on7, k7⟩
  have hA7 := k7.blk (by simp) hA6
  have hK7 := hK6.trans k7
  have ho7 := ho6.keep k7 (by simp)
  clear hA6 hK6 ho6 k7 g2
  go_wp2_with (refine wpList_append_bytes rfl (.tmp 60) (.tmp 64) 42 5 rfl w.heap.size Try.underlying42 (by kernel_rfl) rfl rfl ho7 (on7.bytes (by rw [le_len]; omega)) (by simp only [List.length_append, List.length_nil, le_len]; omega) hK7.size ?_)
  intro v8 w8 ho8 k8
  have hA8 := k8.blk (fun h => (ho7.ne_row hA7 (by decide)) (by simpa using h)) hA7
  have hK8 := own_grow ho7 hK7 k8
  clear hA7 hK7 ho7 on7 k8
  have g3 := cell_of_row w8 _ 3 _ _ _ hA8
  simp at g3
  go_wp2_with (refine wpList_of_string rfl (.tmp 68) 9 42 5 rfl Try.underlying9 Try.underlying42 Try.underlying5 rfl (show ls.size ≤ 140737488355328 by omega) ?_)
  intro v9 w9 hb9 k9
  have hK9 := hK8.trans k9
  have ho9 := ho8.keep k9 (by simp)
  clear hA8 hK8 ho8 k9 g3
  go_wp2_with (refine wpList_append_bytes rfl (.tmp 66) (.tmp 69) 42 5 rfl w.heap.size Try.underlying42 (by kernel_rfl) rfl rfl ho9 hb9 (by simp only [List.length_append, List.length_nil, le_len, lk]; omega) hK9.size ?_)
  intro v10 w10 ho10 k10
  have hK10 := own_grow ho9 hK9 k10
  clear hK9 ho9 hb9 k10
  go_wp2_with fail
  have hx10 := HX.out
  have hB' := HB.out
  obtain ⟨X, hX'⟩ : ∃ X, (le kn 1 ++ (le ls.size 2 ++ (le pn 4 ++ (le sn 8 ++ ls.data.toList)))) = X := ⟨_, rfl⟩
  rw [hX'] at ho10 hx10 hB'
  clear HB hX'
  have HB := Lib.hid hB'
  clear hB'
  go_loopw [6] (fun v wr => ∃ j : Nat, j ≤ m ∧ OwnB wr w.heap.size 5 v (X ++ List.replicate j 0) ∧ Keep [] w wr) (fun v _ => sz - sliceLen v)
  case atStart => exact ⟨0, by omega, by simpa using ho10, hK10⟩
  case round =>
    obtain ⟨j, hj, hoj, hKj⟩ := hrel
    have hlen : (X ++ List.replicate j (0 : UInt8)).length = 15 + ls.size + j := by rw [List.length_append, List.length_replicate, hx10]
    have hm' := HM.out
    have hfm := (hoj.bytes (by rw [hlen]; omega)).form
    rw [hlen] at hfm
    obtain ⟨ao, cap, rfl, hcp, hmm, -⟩ := hfm
    by_cases hlt : j < m
    · have t1 : ((15 + ls.size + j : Nat) : Int) < (sz : Int) - 4 := by omega
      have hb1 := bytes_one wr 0 0 rfl (0, 0)
      have ho' := hoj.keep ((Keep.refl [] wr).alloc (.cells #[.int .u8 0] 5)) (by simp)
      have hK' := hKj.alloc (.cells #[.int .u8 0] 5)
      go_wp2_with (refine wpList_append_bytes rfl (.tmp 76) (.tmp 77) 42 5 rfl w.heap.size Try.underlying42 (by kernel_rfl) rfl rfl ho' hb1 (by rw [hlen]; simp; omega) hK'.size ?_)
      intro v12 w12 ho12 k12
      have hK12 := own_grow ho' hK' k12
      have hb12 := (ho12.bytes (by simp only [List.length_append, List.length_replicate, hx10, List.length_cons, List.length_nil]; omega)).form
      obtain ⟨ao2, cap2, rfl, -⟩ := hb12
      clear ho' hb1 hK' k12
      go_wp2_with fail
      go_roundw
      case rel => exact ⟨j + 1, by omega, by rw [List.replicate_succ']; simpa only [List.append_assoc] using ho12, hK12⟩
      case measure => simp [sliceLen]; omega
    · obtain rfl : j = m := by omega
      have t1 : ¬ ((15 + ls.size + j : Nat) : Int) < (sz : Int) - 4 := by omega
      rw [← HB.out] at hoj
      have hS := refSum_any _ B wr (hoj.bytes (by rw [hBl]; omega))
      have hS32 := sum_lt B
      generalize Crc.sum (nats B) = S at hS hS32 HFIN
      have q8 : IntKind.u64.wrap (S : Int) = (S : Int) := by rw [u64_wrap]; omega
      clear hm'
      go_wp2_with fail
      refine hS.mono ?_
      rintro x w14 ⟨rfl, rfl⟩
      go_wp2_with fail
      refine (refNumber_any S 4 (by omega) (by omega) _).mono ?_
      rintro x w15 ⟨v15, rfl, on15, k15⟩
      have ho15 := hoj.keep k15 (by simp)
      have hK15 := hKj.trans k15
      clear hoj hKj k15
      go_wp2_with (refine wpList_append_bytes rfl (.tmp 81) (.tmp 84) 42 5 rfl w.heap.size Try.underlying42 (by kernel_rfl) rfl rfl ho15 (on15.bytes (by rw [le_len]; omega)) (by rw [le_len]; omega) hK15.size ?_)
      intro v16 w16 ho16 k16
      have hK16 := own_grow ho15 hK15 k16
      rw [← HFIN.out] at ho16
      go_wp2_with fail
      refine bodyPost_ret (results_tmp2 rfl _ _ _) rfl ?_
      exact ⟨_, rfl, ho16, hK16⟩
end Go.Proofs.Ytjkjiabfhhnngaa


/-! The walk of leaf's Read. -/
namespace Go.Proofs.Ytjkjiabfhhnngaa
open Go.RowKit Go.Shelf Sg
set_option linter.unusedSimpArgs false

theorem _root_.Sg.RS_setCell {W w : World} {g b : Nat} {xs : List UInt8} {bad : Bool} {cs : Array Value} {t : TypeId} {fr : Nat × Nat} (h : RS W w g xs bad) (hb : w.heap[b]? = some (.cells cs t fr)) (hne : g ≠ b) (hW : W.heap.size ≤ b)
    (hcs : ∀ (i : Nat) (x : Value), cs[i]? = some x → ∀ n : Int, x ≠ Value.int .u8 n) (j : Nat) (u : Value) : RS W (w.setCell ⟨b, j, none⟩ u) g xs bad := by
  obtain ⟨h1, h2, v, h3, h4, h5⟩ := h
  exact ⟨h1.setCell (.inr hW) _, h2, v, (Below.heap_setCell _ _ _ _ (show g ≠ b from hne)).trans h3, h4.setCell (fun hl => h4.ne_row hl hb hcs) _, h5⟩

/-- what a leaf's sector reads as -/
def lk (l : List UInt8) : Nat := leOf (l.take 1)
def ln (l : List UInt8) : Nat := leOf ((l.drop 1).take 2)
def lp (l : List UInt8) : Nat := leOf ((l.drop 3).take 4)
def ls (l : List UInt8) : Nat := leOf ((l.drop 7).take 8)
def ll (l : List UInt8) : List UInt8 := (l.drop 15).take (ln l)
def LeafOk (l : List UInt8) : Prop := (96 ≤ l.length ∧ l.length ≤ 512) ∧ ln l + 19 ≤ l.length ∧ ls l ≤ 9223372036854775807 ∧ lcode l.length (lk l) (lp l) (ls l) (ln l) = 0 ∧ lbuild l.length (lk l) (lp l) (ls l) (ll l) = l
instance (l : List UInt8) : Decidable (LeafOk l) := by unfold LeafOk; infer_instance
def lerr (l : List UInt8) : Int := if LeafOk l then 0 else if 96 ≤ l.length ∧ l.length ≤ 512 then 5 else 3
def leaf0 : Value := .agg #[.int .i64 0, .int .i64 0, .int .i64 0, .slice none 0 0]

theorem wrap64_small {n : Nat} (h : n < 4294967296) : RowKit.wrap64 (n : Int) = (n : Int) ∧ IntKind.i64.wrap (n : Int) = (n : Int) := ⟨by unfold RowKit.wrap64; omega, i64_wrap_nat (by omega)⟩
theorem wrap64_eq (n : Int) : IntKind.i64.wrap n = RowKit.wrap64 n := by
  simp only [IntKind.wrap, IntKind.bits, IntKind.signed, RowKit.wrap64]
  simp
  split <;> omega
theorem wrap64_u64 {n : Nat} {si : Int} (h : RowKit.wrap64 (n : Int) = si) (hn : n < 18446744073709551616) : IntKind.i64.wrap (n : Int) = si ∧ (-9223372036854775808 ≤ si ∧ si ≤ 9223372036854775807) ∧ (n ≤ 9223372036854775807 → si = n) ∧ (0 ≤ si → n ≤ 9223372036854775807) := by
  rw [wrap64_eq]
  subst h
  refine ⟨rfl, ?_, ?_, ?_⟩ <;> unfold RowKit.wrap64 <;> omega

set_option maxRecDepth 100000 in
set_option maxHeartbeats 1000000 in
set_option maxHeartbeats 4000000 in
theorem leafRead_size (x : Value) (l : List UInt8) (w : World) (hx : Bytes w x l) (hl : ¬ (96 ≤ l.length ∧ l.length ≤ 512)) : Calls Try.prog 104 #[x] w fun e w' => e = .returned (.tuple #[leaf0, .int .i64 3]) ∧ Keep [] w w' := by
  obtain ⟨ao, cap, rfl, hlc, hm, hcap⟩ := hx.form
  have hM := leafMay_any (l.length : Int)
  rw [decide_eq_false (by omega)] at hM
  have hA := heap_alloc_new w (.cells #[.int .i64 0, .int .i64 0, .int .i64 0, .slice none 0 0] 74)
  go_enter Try.func104, Try.ntmps104
  go_wp2_with fail
  refine (hM _).mono ?_
  rintro e w1 ⟨rfl, rfl⟩
  go_wp2
  exact bodyPost_ret (results_cell_tmp_row rfl _ _ w.heap.size 74 _ _ _ rfl hA Try.underlying74 rfl (by kernel_rfl)) rfl ⟨rfl, (Keep.refl [] w).alloc _⟩

set_option maxRecDepth 100000 in
set_option maxHeartbeats 1000000 in
set_option maxHeartbeats 4000000 in
theorem leafRead_in (x : Value) (l : List UInt8) (w : World) (hx : Bytes w x l) (hl : 96 ≤ l.length ∧ l.length ≤ 512) : Calls Try.prog 104 #[x] w fun e w' => Keep [] w w' ∧
    ((LeafOk l ∧ ∃ v, e = .returned (.tuple #[.agg #[.int .i64 (lk l : Int), .int .i64 (lp l : Int), .int .i64 (ls l : Int), v], .int .i64 0]) ∧ Bytes w' v (ll l)) ∨ (¬ LeafOk l ∧ e = .returned (.tuple #[leaf0, .int .i64 5]))) := by
  obtain ⟨ao, cap, rfl, hlc, hm, hcap⟩ := hx.form
  have hM := leafMay_any (l.length : Int)
  rw [decide_eq_true (by omega)] at hM
  have hOK : LeafOk l ↔ (ln l + 19 ≤ l.length ∧ ls l ≤ 9223372036854775807 ∧ lcode l.length (lk l) (lp l) (ls l) (ln l) = 0 ∧ lbuild l.length (lk l) (lp l) (ls l) (ll l) = l) := ⟨fun h => h.2, fun h => ⟨hl, h⟩⟩
  have hll : ll l = (l.drop 15).take (ln l) := rfl
  have a1 : lk l < 256 := take_lt l 1
  have a2 : ln l < 65536 := take_lt (l.drop 1) 2
  have a3 : lp l < 4294967296 := take_lt (l.drop 3) 4
  have a4 : ls l < 18446744073709551616 := take_lt (l.drop 7) 8
  have r1 : rdN (l, false) 1 = (lk l, l.drop 1, false) := rdN_eq (by simp; omega)
  have r2 : rdN (l.drop 1, false) 2 = (ln l, l.drop 3, false) := by rw [rdN_eq (by simp; omega)]; simp only [List.drop_drop, ln]
  have r3 : rdN (l.drop 3, false) 4 = (lp l, l.drop 7, false) := by rw [rdN_eq (by simp; omega)]; simp only [List.drop_drop, lp]
  have r4 : rdN (l.drop 7, false) 8 = (ls l, l.drop 15, false) := by rw [rdN_eq (by simp; omega)]; simp only [List.drop_drop, ls]
  have hdl : (l.drop 15).length = l.length - 15 := by rw [List.length_drop]
  obtain ⟨F, hF⟩ : ∃ F : Prop, F = LeafOk l := ⟨_, rfl⟩
  rw [← hF] at hOK ⊢
  generalize ll l = LD at *
  generalize lk l = kn at *
  generalize lp l = pn at *
  generalize ls l = sn at *
  generalize ln l = nn at *
  obtain ⟨si, hsi⟩ : ∃ si, RowKit.wrap64 (sn : Int) = si := ⟨_, rfl⟩
  obtain ⟨hsi', hs1, hs2, hs3⟩ := wrap64_u64 hsi a4
  have HS2 := Lib.hid hs2
  have HS3 := Lib.hid hs3
  have HOK := Lib.hid hOK
  obtain ⟨u1, u2⟩ := wrap64_small (Nat.lt_trans a1 (by decide))
  obtain ⟨u3, u4⟩ := wrap64_small (Nat.lt_trans a2 (by decide))
  obtain ⟨u5, u6⟩ := wrap64_small a3
  clear hOK hs2 hs3 hF
  obtain ⟨hs11, hs12⟩ := hs1
  have hK0 := (Keep.refl [] w).alloc (.cells #[.int .i64 0, .int .i64 0, .int .i64 0, .slice none 0 0] 74)
  have hA := heap_alloc_new w (.cells #[.int .i64 0, .int .i64 0, .int .i64 0, .slice none 0 0] 74)
  go_enter Try.func104, Try.ntmps104
  go_wp2_with fail
  refine (hM _).mono ?_
  rintro e w0 ⟨rfl, rfl⟩
  go_wp2_with fail
  refine (newReader_any _ l _ (hx.keep hK0 (by simp)) (by omega)).mono ?_
  rintro e w1 ⟨g, rfl, s1⟩
  have hA1 := s1.1.blk (by simp) hA
  have hg1 : g < w1.heap.size := by obtain ⟨_, _, _, h, _⟩ := s1; exact (Array.getElem?_eq_some_iff.1 h).1
  have hsz1 : w.heap.size + 1 ≤ w1.heap.size := by have := s1.1.size; simpa using this
  have hX := heap_alloc_new w1 (.cells #[.int .i64 0, .int .i64 0, .int .i64 0, .slice none 0 0] 74)
  have s1' := s1.keep ((Keep.refl [] w1).alloc (.cells #[.int .i64 0, .int .i64 0, .int .i64 0, .slice none 0 0] 74))
  have hne : g ≠ w1.heap.size := by omega
  have hWX : (w.alloc (.cells #[.int .i64 0, .int .i64 0, .int .i64 0, .slice none 0 0] 74)).heap.size ≤ w1.heap.size := by simp; omega
  have hslot : ∀ (a : Option Addr) (n c : Nat) (m : Int), Value.slice a n c ≠ .int .u8 m := by intro a n c m h; cases h
  have hwX : w.heap.size < w1.heap.size := by omega
  clear s1 hA hK0 hg1 hsz1 hM
  have fin5 : ∀ w', Keep [] w w' → w'.heap[w.heap.size]? = some (.cells #[.int .i64 0, .int .i64 0, .int .i64 0, .slice none 0 0] 74) → ¬ F → True := fun _ _ _ _ => trivial
  clear fin5
  go_wp2_with fail
  have c := readNumber_any _ _ g (l, false) s1' 1 (by omega)
  rw [r1] at c
  refine c.mono ?_
  clear c s1' r1
  rintro e w2 ⟨rfl, s2, k2⟩
  have hX2 := k2.blk (by simp; omega) hX
  have f2 := frozen_of_row w2 _ 0 _ _ hX2
  have g2 := cell_of_row w2 _ 0 _ _ _ hX2
  simp at g2
  have s2' := RS_setCell s2 hX2 hne hWX (nu4 0 0 0 _ (hslot _ _ _)) 0 (.int .i64 (kn : Int))
  have hX2' := heap_setCell_same w2 w1.heap.size 0 _ _ (.int .i64 (kn : Int)) hX2
  simp at hX2'
  have HXX2 := Lib.hid hX2'
  have S2 := Lib.hid s2'
  clear s2 s2' k2 hX hX2 hX2'
  go_wp2_with fail
  have c := readNumber_any _ _ g (l.drop 1, false) S2.out 2 (by omega)
  rw [r2] at c
  refine c.mono ?_
  clear c S2 r2 f2 g2
  rintro e w3 ⟨rfl, s3, k3⟩
  have hX3 := k3.blk (by simp; omega) HXX2.out
  clear HXX2 k3
  go_wp2_with fail
  have c := readNumber_any _ _ g (l.drop 3, false) s3 4 (by omega)
  rw [r3] at c
  refine c.mono ?_
  clear c s3 r3
  rintro e w4 ⟨rfl, s4, k4⟩
  have hX4 := k4.blk (by simp; omega) hX3
  have f4 := frozen_of_row w4 _ 1 _ _ hX4
  have g4 := cell_of_row w4 _ 1 _ _ _ hX4
  simp at g4
  have s4' := RS_setCell s4 hX4 hne hWX (nu4 (kn : Int) 0 0 _ (hslot _ _ _)) 1 (.int .i64 (pn : Int))
  have hX4' := heap_setCell_same w4 w1.heap.size 1 _ _ (.int .i64 (pn : Int)) hX4
  simp at hX4'
  have HXX4 := Lib.hid hX4'
  have S4 := Lib.hid s4'
  clear s4 s4' k4 hX3 hX4 hX4'
  go_wp2_with fail
  have c := readNumber_any _ _ g (l.drop 7, false) S4.out 8 (by omega)
  rw [r4] at c
  refine c.mono ?_
  clear c S4 r4 f4 g4
  rintro e w5 ⟨rfl, s5, k5⟩
  have hX5 := k5.blk (by simp; omega) HXX4.out
  have f5 := frozen_of_row w5 _ 2 _ _ hX5
  have g5 := cell_of_row w5 _ 2 _ _ _ hX5
  simp at g5
  have s5' := RS_setCell s5 hX5 hne hWX (nu4 (kn : Int) (pn : Int) 0 _ (hslot _ _ _)) 2 (.int .i64 si)
  have hX5' := heap_setCell_same w5 w1.heap.size 2 _ _ (.int .i64 si) hX5
  simp at hX5'
  have HXX5 := Lib.hid hX5'
  have S5 := Lib.hid s5'
  clear s5 s5' k5 hX5 hX5' HXX4
  go_wp2_with fail
  have c := readRaw_any _ _ g (l.drop 15, false) S5.out nn
  obtain ⟨r5, hr5⟩ : ∃ r, rdR (l.drop 15, false) nn = r := ⟨_, rfl⟩
  rw [hr5] at c
  refine c.mono ?_
  clear c S5 f5 g5
  rintro e w6 ⟨v6, rfl, o6, s6, k6⟩
  have hl6 : r5.1.length ≤ nn := by rw [← hr5]; exact rdR_len _ _
  have hX6 := k6.blk (by simp; omega) HXX5.out
  have f6 := frozen_of_row w6 _ 3 _ _ hX6
  have g6 := cell_of_row w6 _ 3 _ _ _ hX6
  simp at g6
  have b6 := o6.bytes (Nat.le_trans hl6 (Nat.le_trans (Nat.le_of_lt a2) (by decide)))
  obtain ⟨a6, c6, rfl, -⟩ := b6.form
  have s6' := RS_setCell s6 hX6 hne hWX (nu4 (kn : Int) (pn : Int) si _ (hslot _ _ _)) 3 (.slice a6 r5.1.length c6)
  have b6' := b6.setCell (p := ⟨w1.heap.size, 3, none⟩) (fun h => b6.ne_row h hX6 (nu4 (kn : Int) (pn : Int) si _ (hslot _ _ _))) (.slice a6 r5.1.length c6)
  have hX6' := heap_setCell_same w6 w1.heap.size 3 _ _ (.slice a6 r5.1.length c6) hX6
  simp at hX6'
  have hA6 := (s6'.1).blk (by simp) (heap_alloc_new w (.cells #[.int .i64 0, .int .i64 0, .int .i64 0, .slice none 0 0] 74))
  have hK6 := ((Keep.refl [] w).alloc (.cells #[.int .i64 0, .int .i64 0, .int .i64 0, .slice none 0 0] 74)).trans s6'.1
  have hx6 := hx.keep hK6 (by simp)
  have HXX6 := Lib.hid hX6'
  have HA6 := Lib.hid hA6
  have S6 := Lib.hid s6'
  have B6 := Lib.hid b6'
  clear s6 s6' k6 hX6 hX6' b6 b6' o6 hA6 HXX5 hA1
  go_wp2_with fail
  refine (bad_any _ _ g _ _ S6.out).mono ?_
  rintro e w7 ⟨rfl, rfl⟩
  by_cases hbad : nn ≤ l.length - 15
  · have e5 : r5 = (LD, (l.drop 15).drop nn, false) := by rw [← hr5, rdR_eq (by rw [hdl]; exact hbad), ← hll]
    subst e5
    have hLD : LD.length = nn := by rw [hll, List.length_take, hdl]; exact Nat.min_eq_left hbad
    have hx7 : w6.heap.size = w6.heap.size := rfl
    have R7 := HXX6.out
    have A7 := HA6.out
    have b7 := B6.out
    simp only at R7 A7 b7 hK6 hx6
    clear HXX6 HA6 B6 S6 hx7 hr5 hl6
    generalize w6.setCell ⟨w1.heap.size, 3, none⟩ (.slice a6 LD.length c6) = w7 at R7 A7 b7 hK6 hx6 ⊢
    have hR := lright_any (l.length : Int) (kn : Int) (pn : Int) si _ LD w7 b7
    obtain ⟨rc, hrc⟩ : ∃ rc, lcode (l.length : Int) (kn : Int) (pn : Int) si LD.length = rc := ⟨_, rfl⟩
    rw [hrc] at hR
    have HDL := Lib.hid hdl
    have HLL := Lib.hid hll
    clear hdl hll
    have g0 := cell_of_row w7 _ 0 _ _ _ R7
    have g1 := cell_of_row w7 _ 1 _ _ _ R7
    have g2 := cell_of_row w7 _ 2 _ _ _ R7
    have g3 := cell_of_row w7 _ 3 _ _ _ R7
    simp at g0 g1 g2 g3
    have HLD := Lib.hid hLD
    clear hLD
    by_cases hz : rc = 0
    · subst hz
      obtain rfl : si = (sn : Int) := HS2.out (HS3.out (lcode_zero hrc).2.2.2.1)
      have hsn := HS3.out (lcode_zero hrc).2.2.2.1
      have hln : nn + 19 ≤ l.length := by have := (lcode_zero hrc).2.2.2.2; rw [HLD.out] at this; omega
      have HRC := Lib.hid hrc
      clear hrc
      go_wp2_with fail
      refine hR.mono ?_
      rintro e w8 ⟨rfl, k8⟩
      have hK8 := hK6.trans k8
      have R8 := k8.blk (by simp) R7
      have A8 := k8.blk (by simp) A7
      have b8 := b7.keep k8 (by simp)
      have hx8 := hx6.keep k8 (by simp)
      clear R7 A7 b7 hx6 hK6 k8 g0 g1 g2 g3 hR
      have g0 := cell_of_row w8 _ 0 _ _ _ R8
      have g1 := cell_of_row w8 _ 1 _ _ _ R8
      have g2 := cell_of_row w8 _ 2 _ _ _ R8
      have g3 := cell_of_row w8 _ 3 _ _ _ R8
      simp at g0 g1 g2 g3
      have hB := lbuild_any (l.length : Int) (kn : Int) (pn : Int) (sn : Int) hs12 _ LD w8 b8
      rw [HRC.out, if_pos rfl] at hB
      simp only [Int.toNat_natCast] at hB
      go_wp2_with fail
      refine hB.mono ?_
      rintro e w9 ⟨v9, rfl, o9, k9⟩
      have hK9 := hK8.trans k9
      have R9 := k9.blk (by simp) R8
      have A9 := k9.blk (by simp) A8
      have b9 := b8.keep k9 (by simp)
      have hx9 := hx8.keep k9 (by simp)
      have hlen : (lbuild l.length kn pn sn LD).length = l.length := lbuild_len _ _ _ _ _ hl.1 (by rw [HLD.out]; exact hln)
      have hE := equal_any v9 _ _ l w9 (o9.bytes (by rw [hlen]; exact hm)) hx9
      by_cases hEq : lbuild l.length kn pn sn LD = l
      · rw [decide_eq_true hEq] at hE
        have hF : F := HOK.out.2 ⟨hln, hsn, by rw [← HLD.out]; exact HRC.out, hEq⟩
        clear R8 A8 b8 hx8 hK8 k9 g0 g1 g2 g3 hB hEq o9 hlen hx9
        have g0 := cell_of_row w9 _ 0 _ _ _ R9
        have g1 := cell_of_row w9 _ 1 _ _ _ R9
        have g2 := cell_of_row w9 _ 2 _ _ _ R9
        have g3 := cell_of_row w9 _ 3 _ _ _ R9
        simp at g0 g1 g2 g3
        go_wp2_with fail
        refine hE.mono ?_
        rintro e w10 ⟨rfl, rfl⟩
        go_wp2_with (first | (refine wpList_load_row rfl 74 (.tmp 5) rfl w1.heap.size rfl 74 _ _ _ R9 Try.underlying74 rfl (by kernel_rfl) ?_) | (refine wpList_store_row rfl 74 (.tmp 2) _ rfl w.heap.size _ rfl rfl 74 _ A9 (by kernel_rfl) (by rfl) (by kernel_rfl) ?_))
        refine bodyPost_ret (results_cell_tmp_row rfl _ _ w.heap.size 74 _ _ _ rfl (setRow_heap _ _ _ _ _ _ A9) Try.underlying74 rfl (by kernel_rfl)) rfl ⟨hK9.setRow (.inr (Nat.le_refl _)) _, .inl ⟨hF, _, rfl, ?_⟩⟩
        exact bytes_setRow b9 (fun h => b9.ne_row h A9 (nu4 0 0 0 _ (hslot _ _ _))) _
      · rw [decide_eq_false hEq] at hE
        have HEq := Lib.hid hEq
        clear R8 A8 b8 hx8 hK8 k9 g0 g1 g2 g3 hB hEq o9 hlen hx9
        go_wp2_with fail
        refine hE.mono ?_
        rintro e w10 ⟨rfl, rfl⟩
        go_wp2_with (refine wpList_store_row rfl 74 (.tmp 2) _ rfl w.heap.size _ rfl rfl 74 _ A9 (by kernel_rfl) (by rfl) (by kernel_rfl) ?_)
        refine bodyPost_ret (results_cell_tmp_row rfl _ _ w.heap.size 74 #[.int .i64 0, .int .i64 0, .int .i64 0, .slice none 0 0] _ _ rfl (setRow_heap _ _ _ _ _ _ A9) Try.underlying74 rfl (by kernel_rfl)) rfl ⟨hK9.setRow (.inr (Nat.le_refl _)) _, .inr ⟨fun h => ?_, rfl⟩⟩
        exact HEq.out (HOK.out.1 h).2.2.2
    · have hz' : (rc != 0) = true := by simpa using hz
      have HRC := Lib.hid hrc
      have HZ := Lib.hid hz
      clear hrc hz
      go_wp2_with fail
      refine hR.mono ?_
      rintro e w8 ⟨rfl, k8⟩
      have hK8 := hK6.trans k8
      have A8 := k8.blk (by simp) A7
      clear R7 A7 b7 hx6 hK6 k8 g0 g1 g2 g3 hR
      go_wp2_with (refine wpList_store_row rfl 74 (.tmp 2) _ rfl w.heap.size _ rfl rfl 74 _ A8 (by kernel_rfl) (by rfl) (by kernel_rfl) ?_)
      refine bodyPost_ret (results_cell_tmp_row rfl _ _ w.heap.size 74 #[.int .i64 0, .int .i64 0, .int .i64 0, .slice none 0 0] _ _ rfl (setRow_heap _ _ _ _ _ _ A8) Try.underlying74 rfl (by kernel_rfl)) rfl ⟨hK8.setRow (.inr (Nat.le_refl _)) _, .inr ⟨fun h => ?_, rfl⟩⟩
      have h4 := HOK.out.1 h
      apply HZ.out
      rw [← HRC.out, HLD.out, HS2.out h4.2.1]
      exact h4.2.2.1
  · have e5 : r5 = ([], [], true) := by rw [← hr5]; exact if_neg (by rw [hdl]; exact hbad)
    subst e5
    go_wp2_with (refine wpList_store_row rfl 74 (.tmp 2) _ rfl w.heap.size _ rfl rfl 74 _ HA6.out (by kernel_rfl) (by rfl) (by kernel_rfl) ?_)
    refine bodyPost_ret (results_cell_tmp_row rfl _ _ w.heap.size 74 #[.int .i64 0, .int .i64 0, .int .i64 0, .slice none 0 0] _ _ rfl (setRow_heap _ _ _ _ _ _ HA6.out) Try.underlying74 rfl (by kernel_rfl)) rfl ⟨hK6.setRow (.inr (Nat.le_refl _)) _, .inr ⟨fun h => ?_, rfl⟩⟩
    exact hbad (Nat.le_sub_of_add_le (Nat.le_trans (Nat.add_le_add_left (show 15 ≤ 19 by decide) nn) (HOK.out.1 h).1))
end Go.Proofs.Ytjkjiabfhhnngaa

/-! The walk of the document's Read of a leaf. -/
namespace Go.Proofs.Ytjkjiabfhhnngaa
open Go.RowKit Go.Shelf Sg
set_option linter.unusedSimpArgs false

def leafS0 : Value := .agg #[.int .i64 0, .int .i64 0, .int .i64 0, .string ByteArray.empty]

set_option maxRecDepth 100000 in
set_option maxHeartbeats 1000000 in
theorem refRead_size (x : Value) (l : List UInt8) (w : World) (hx : Bytes w x l) (hl : ¬ (96 ≤ l.length ∧ l.length ≤ 512)) : Calls Try.prog 44 #[x] w fun e w' => e = .returned (.tuple #[leafS0, .int .i64 3]) ∧ Keep [] w w' := by
  obtain ⟨ao, cap, rfl, hlc, hm, hcap⟩ := hx.form
  have hA := heap_alloc_new w (.cells #[.int .i64 0, .int .i64 0, .int .i64 0, .string ByteArray.empty] 67)
  by_cases h1 : l.length < 96
  · have h1' : (l.length : Int) < 96 := by omega
    go_enter Try.func44, Try.ntmps44
    go_wp2
    exact bodyPost_ret (results_cell_tmp_row rfl _ _ w.heap.size 67 _ _ _ rfl hA Try.underlying67 rfl (by kernel_rfl)) rfl ⟨rfl, (Keep.refl [] w).alloc _⟩
  · have h1' : ¬ (l.length : Int) < 96 := by omega
    have h2 : (512 : Int) < (l.length : Int) := by omega
    go_enter Try.func44, Try.ntmps44
    go_wp2
    exact bodyPost_ret (results_cell_tmp_row rfl _ _ w.heap.size 67 _ _ _ rfl hA Try.underlying67 rfl (by kernel_rfl)) rfl ⟨rfl, (Keep.refl [] w).alloc _⟩

theorem wrap64_15 {n : Nat} (h : n < 65536) : IntKind.i64.wrap (15 + (n : Int)) = 15 + (n : Int) ∧ RowKit.wrap64 (15 + (n : Int)) = 15 + (n : Int) := by
  have q : IntKind.i64.wrap (15 + (n : Int)) = 15 + (n : Int) := i64_wrap (by omega) (by omega)
  exact ⟨q, by rw [← wrap64_eq]; exact q⟩
theorem wrap64_63 {n : Nat} (h : n ≤ 9223372036854775807) : RowKit.wrap64 (n : Int) = (n : Int) ∧ IntKind.i64.wrap (n : Int) = (n : Int) := by
  have q : RowKit.wrap64 (n : Int) = (n : Int) := by unfold RowKit.wrap64; omega
  exact ⟨q, by rw [wrap64_eq]; exact q⟩
theorem leOf_one (l : List UInt8) (h : 0 < l.length) : ((l[0]'h).toNat) = leOf (l.take 1) := by
  cases l with
  | nil => simp at h
  | cons a t => simp [leOf]

set_option maxRecDepth 100000 in
set_option maxHeartbeats 1000000 in
set_option maxHeartbeats 8000000 in
theorem refRead_in (x : Value) (l : List UInt8) (w : World) (hx : Bytes w x l) (hl : 96 ≤ l.length ∧ l.length ≤ 512) : Calls Try.prog 44 #[x] w fun e w' => Keep [] w w' ∧
    ((LeafOk l ∧ e = .returned (.tuple #[.agg #[.int .i64 (lk l : Int), .int .i64 (lp l : Int), .int .i64 (ls l : Int), .string ⟨(ll l).toArray⟩], .int .i64 0])) ∨ (¬ LeafOk l ∧ e = .returned (.tuple #[leafS0, .int .i64 5]))) := by
  obtain ⟨ao, cap, rfl, hlc, hm, hcap⟩ := hx.form
  obtain ⟨b, o, rfl, hb, hc⟩ := hx.spot (by omega)
  have hOK : LeafOk l ↔ (ln l + 19 ≤ l.length ∧ ls l ≤ 9223372036854775807 ∧ lcode l.length (lk l) (lp l) (ls l) (ln l) = 0 ∧ lbuild l.length (lk l) (lp l) (ls l) (ll l) = l) := ⟨fun h => h.2, fun h => ⟨hl, h⟩⟩
  have c0 := hc 0 (by omega)
  rw [leOf_one l (by omega)] at c0
  have c0' : ∀ w', Keep [w.heap.size + 1] w w' → w'.cell? ⟨b, o, none⟩ = some (.int .u8 (lk l : Int)) := fun w' h => h.cell (by simp; omega) c0
  have a1 : lk l < 256 := take_lt l 1
  have a2 : ln l < 65536 := take_lt (l.drop 1) 2
  have a3 : lp l < 4294967296 := take_lt (l.drop 3) 4
  have a4 : ls l < 18446744073709551616 := take_lt (l.drop 7) 8
  have hkx : ∀ w', Keep [w.heap.size + 1] w w' → Bytes w' (.slice (some ⟨b, o, none⟩) l.length cap) l := fun w' h => hx.keep h (by intro b' h1 h2; simp [Value.ownBlock] at h1 h2; omega)
  have hn : ∀ w', Keep [w.heap.size + 1] w w' → Calls Try.prog 105 #[.slice (some ⟨b, o + 1, none⟩) 2 (cap - 1)] w' (fun e w'' => e = .returned (.int .u64 (ln l : Int)) ∧ w' = w'') := fun w' h => refOf_any _ _ w' ((hkx w' h).sub (f := 1) (t := 3) (by omega) (by omega) (by omega)) (by rw [List.length_take]; omega)
  have hs : ∀ w', Keep [w.heap.size + 1] w w' → Calls Try.prog 105 #[.slice (some ⟨b, o + 7, none⟩) 8 (cap - 7)] w' (fun e w'' => e = .returned (.int .u64 (ls l : Int)) ∧ w' = w'') := fun w' h => refOf_any _ _ w' ((hkx w' h).sub (f := 7) (t := 15) (by omega) (by omega) (by omega)) (by rw [List.length_take]; omega)
  have hp : ∀ w', Keep [w.heap.size + 1] w w' → Calls Try.prog 105 #[.slice (some ⟨b, o + 3, none⟩) 4 (cap - 3)] w' (fun e w'' => e = .returned (.int .u64 (lp l : Int)) ∧ w' = w'') := fun w' h => refOf_any _ _ w' ((hkx w' h).sub (f := 3) (t := 7) (by omega) (by omega) (by omega)) (by rw [List.length_take]; omega)
  have hll : ll l = (l.drop 15).take (ln l) := rfl
  have hq : ∀ w', Keep [w.heap.size + 1] w w' → ln l + 19 ≤ l.length → Sem.run Try.prog (convert 42 9 (.slice (some ⟨b, o + 15, none⟩) (15 + ln l - 15) (cap - 15))) w' = .ok (.string ⟨(ll l).toArray⟩) w' := by
    intro w' h hn
    have hsub := (hkx w' h).sub (f := 15) (t := 15 + ln l) (by omega) (by omega) (by omega)
    rw [show 15 + ln l - 15 = ln l by omega] at hsub ⊢
    exact run_str (P := Try.prog) 42 9 5 Try.underlying42 Try.underlying5 Try.underlying9 hsub
  have z0 : ¬ (l.length : Int) < 96 := by omega
  have z0' : ¬ (512 : Int) < (l.length : Int) := by omega
  have z1 : ¬ cap = 1 := by omega
  have z7 : ¬ cap = 7 := by omega
  have z3 : ¬ cap = 3 := by omega
  have z15 : ¬ cap = 15 := by omega
  have y3 : (3 : Int) ≤ (cap : Int) := by omega
  have y15 : (15 : Int) ≤ (cap : Int) := by omega
  have y7 : (7 : Int) ≤ (cap : Int) := by omega
  have x0 : 0 < l.length := by omega
  have u := wrap64_small (Nat.lt_trans a1 (by decide))
  have u' := wrap64_small (Nat.lt_trans a2 (by decide))
  have u'' := wrap64_small a3
  have hll2 : (ll l).length = min (ln l) (l.length - 15) := by rw [hll, List.length_take, List.length_drop]
  obtain ⟨F, hF⟩ : ∃ F : Prop, F = LeafOk l := ⟨_, rfl⟩
  rw [← hF] at hOK ⊢
  clear hkx hc hF hll
  generalize ll l = LD at *
  generalize lk l = kn at *
  generalize lp l = pn at *
  generalize ls l = sn at *
  generalize ln l = nn at *
  have hK0 := (Keep.refl [] w).alloc (.cells #[.int .i64 0, .int .i64 0, .int .i64 0, .string ByteArray.empty] 67)
  have hA := heap_alloc_new w (.cells #[.int .i64 0, .int .i64 0, .int .i64 0, .string ByteArray.empty] 67)
  have HOK := Lib.hid hOK
  have HS := Lib.hid hs
  have HP := Lib.hid hp
  have HN := Lib.hid hn
  have HQ := Lib.hid hq
  have HC0 := Lib.hid c0'
  have HLL2 := Lib.hid hll2
  clear hOK hs hp hn hq c0' c0 hll2
  have HU := Lib.hid (And.intro u (And.intro u' u''))
  clear u u' u''
  by_cases hnn : l.length < nn + 19
  · have e1 : (l.length : Int) - 19 < (nn : Int) := by omega
    obtain ⟨⟨u1, u2⟩, ⟨u3, u4⟩, u5, u6⟩ := HU.out
    go_enter Try.func44, Try.ntmps44
    go_wp2_with fail
    refine (HN.out _ (hK0.mono (by simp))).mono ?_
    rintro e w1 ⟨rfl, rfl⟩
    go_wp2_with fail
    refine (HS.out _ (hK0.mono (by simp))).mono ?_
    rintro e w1 ⟨rfl, rfl⟩
    go_wp2
    refine bodyPost_ret (results_cell_tmp_row rfl _ _ w.heap.size 67 _ _ _ rfl hA Try.underlying67 rfl (by kernel_rfl)) rfl ⟨hK0, .inr ⟨fun h => ?_, rfl⟩⟩
    exact absurd (HOK.out.1 h).1 (Nat.not_le.2 hnn)
  · have e1 : ¬ (l.length : Int) - 19 < (nn : Int) := by omega
    by_cases hsn : 9223372036854775807 < sn
    · have e2 : (9223372036854775807 : Int) < (sn : Int) := by omega
      obtain ⟨⟨u1, u2⟩, ⟨u3, u4⟩, u5, u6⟩ := HU.out
      go_enter Try.func44, Try.ntmps44
      go_wp2_with fail
      refine (HN.out _ (hK0.mono (by simp))).mono ?_
      rintro e w1 ⟨rfl, rfl⟩
      go_wp2_with fail
      refine (HS.out _ (hK0.mono (by simp))).mono ?_
      rintro e w1 ⟨rfl, rfl⟩
      go_wp2
      refine bodyPost_ret (results_cell_tmp_row rfl _ _ w.heap.size 67 _ _ _ rfl hA Try.underlying67 rfl (by kernel_rfl)) rfl ⟨hK0, .inr ⟨fun h => ?_, rfl⟩⟩
      exact absurd (HOK.out.1 h).2.1 (Nat.not_le.2 hsn)
    · have e2 : ¬ (9223372036854775807 : Int) < (sn : Int) := by omega
      have hb15 : (15 : Int) + (nn : Int) ≤ (cap : Int) := by omega
      have hb15' : (15 : Int) + (nn : Int) ≤ (l.length : Int) := by omega
      have hn0 : (0 : Int) ≤ 15 + (nn : Int) := by omega
      have hn15 : (15 : Int) ≤ 15 + (nn : Int) := by omega
      have hnat : ((15 : Int) + (nn : Int)).toNat = 15 + nn := by omega
      have hLD : LD.length = nn := by rw [HLL2.out]; omega
      have hnn' : nn + 19 ≤ l.length := by omega
      have hsn' : sn ≤ 9223372036854775807 := by omega
      have hsize : (⟨LD.toArray⟩ : ByteArray).size = LD.length := by simp [ByteArray.size]
      have hB := fun W => refBuild_any (l.length : Int) (kn : Int) (pn : Int) (sn : Int) (by omega) (by omega) ⟨LD.toArray⟩ (by rw [hsize, hLD]; omega) W
      rw [hsize, hLD] at hB
      simp only [Int.toNat_natCast] at hB
      obtain ⟨rc, hrc⟩ : ∃ rc, lcode (l.length : Int) (kn : Int) (pn : Int) (sn : Int) nn = rc := ⟨_, rfl⟩
      rw [hrc] at hB
      have hlen : (lbuild l.length kn pn sn LD).length = l.length := lbuild_len _ _ _ _ _ hl.1 (by rw [hLD]; exact hnn')
      have HB := Lib.hid hB
      have HRC := Lib.hid hrc
      have HLN := Lib.hid hlen
      have hq := fun w' h => HQ.out w' h hnn'
      rw [show 15 + nn - 15 = nn by omega] at hq
      have HLDD := Lib.hid hLD
      have HNN := Lib.hid (And.intro hnn' hsn')
      have W15 := Lib.hid (wrap64_15 a2)
      have WSN := Lib.hid (wrap64_63 hsn')
      clear hB hrc hlen hLD hsize hnn' hsn' HQ
      obtain ⟨u3, u4⟩ := HU.out.2.1
      have c0 := HC0.out
      have G : ∀ {w1 w' : World}, Keep [] w w1 → Keep [w.heap.size + 1] w1 w' → Keep [w.heap.size + 1] w w' := fun h k => (h.mono (by simp)).trans k
      go_enter Try.func44, Try.ntmps44
      go_wp2_with fail
      refine (HN.out _ (hK0.mono (by simp))).mono ?_
      rintro e w1 ⟨rfl, rfl⟩
      go_wp2_with fail
      clear u3 u4
      refine (HS.out _ (hK0.mono (by simp))).mono ?_
      rintro e w1 ⟨rfl, rfl⟩
      go_wp2_with fail
      refine wp_region_his [w.heap.size + 1] [16, 17] (fun _ => 0) (by kernel_rfl) (by kernel_rfl) ?_
      intro w1 hk1 hh1
      have hs1 : w1.heap.size = w.heap.size + 1 := by rw [hh1]; simp
      clear hh1
      have hA1 := hk1.blk (by simp) hA
      have hK1 := hK0.trans hk1
      have c1 := fun w' (h : Keep [w.heap.size + 1] w1 w') => c0 w' (G hK1 h)
      have q1 := fun w' (h : Keep [w.heap.size + 1] w1 w') => hq w' (G hK1 h)
      clear hk1 hA hK0 c0 hq
      obtain ⟨u1, u2⟩ := HU.out.1
      obtain ⟨u5, u6⟩ := HU.out.2.2
      obtain ⟨q15, q15'⟩ := W15.out
      obtain ⟨us, us'⟩ := WSN.out
      (repeat (first | (refine his_q rfl rfl (fun K hK => ?_); apply Exists.intro; refine ⟨fun w' hC => ?_, ?_⟩; ((try simp [Sg.upd] at hC); go_simp <;> rfl); go_simp; refine hK _ _ ?_; clear hK K) | (refine his_s rfl (fun K hK => ?_); go_simp; refine hK _ _ ?_; clear hK K)))
      refine his_c rfl rfl (.int .u64 (pn : Int)) (fun K hK => ?_)
      refine ⟨fun w' hC => Yields.call _ _ ?_ (by kernel_rfl) (HP.out w' (G hK1 hC)), ?_⟩
      · go_simp
      go_simp
      refine hK _ _ ?_
      clear hK K
      (repeat (first | (refine his_q rfl rfl (fun K hK => ?_); apply Exists.intro; refine ⟨fun w' hC => ?_, ?_⟩; ((try simp [Sg.upd] at hC); go_simp <;> rfl); go_simp; refine hK _ _ ?_; clear hK K) | (refine his_s rfl (fun K hK => ?_); go_simp; refine hK _ _ ?_; clear hK K)))
      refine his_l rfl rfl (fun K hK => ?_)
      go_simp
      refine hK _ _ ((Keep.refl _ _).alloc _) ?_
      clear hK K
      have hP := heap_alloc_new w1 (.cells #[.int .i64 0, .int .i64 0, .int .i64 0, .string ⟨#[]⟩] 67)
      rw [hs1] at hP
      have hA2 := (((Keep.refl [] w1).alloc (.cells #[.int .i64 0, .int .i64 0, .int .i64 0, .string ⟨#[]⟩] 67))).blk (by simp) hA1
      refine his_l rfl rfl (fun K hK => ?_)
      refine loudly_store_row 67 (.tmp 6) (.tmp 50) rfl (w.heap.size + 1) #[.int .i64 (kn : Int), .int .i64 (pn : Int), .int .i64 (sn : Int), .string ⟨LD.toArray⟩] rfl rfl 67 _ hP (by kernel_rfl) (by rfl) (by kernel_rfl) ?_
      refine hK _ _ ((Keep.refl _ _).setRow (.inl (by simp)) _) ?_
      clear hK K
      refine his_nil ?_
      have hA3 : ((w1.alloc (.cells #[.int .i64 0, .int .i64 0, .int .i64 0, .string ⟨#[]⟩] 67)).setRow (w.heap.size + 1) #[.int .i64 (kn : Int), .int .i64 (pn : Int), .int .i64 (sn : Int), .string ⟨LD.toArray⟩]).heap[w.heap.size]? = _ := (setRow_other _ _ _ _ (by simp)).trans hA2
      have hP3 := setRow_heap _ _ _ #[.int .i64 (kn : Int), .int .i64 (pn : Int), .int .i64 (sn : Int), .string ⟨LD.toArray⟩] _ _ hP
      have hK3 : Keep [] w ((w1.alloc (.cells #[.int .i64 0, .int .i64 0, .int .i64 0, .string ⟨#[]⟩] 67)).setRow (w.heap.size + 1) #[.int .i64 (kn : Int), .int .i64 (pn : Int), .int .i64 (sn : Int), .string ⟨LD.toArray⟩]) := (hK1.alloc _).setRow (.inr (by simp)) _
      clear hP hA2 hA1 hK1 hs1 c1 q1 u1 u2 u5 u6 q15 q15' us us' G
      generalize (w1.alloc (.cells #[.int .i64 0, .int .i64 0, .int .i64 0, .string ⟨#[]⟩] 67)).setRow (w.heap.size + 1) #[.int .i64 (kn : Int), .int .i64 (pn : Int), .int .i64 (sn : Int), .string ⟨LD.toArray⟩] = w3 at hA3 hP3 hK3 ⊢
      have g0 := cell_of_row w3 _ 0 _ _ _ hP3
      have g1 := cell_of_row w3 _ 1 _ _ _ hP3
      have g2 := cell_of_row w3 _ 2 _ _ _ hP3
      have g3 := cell_of_row w3 _ 3 _ _ _ hP3
      simp at g0 g1 g2 g3
      go_wp2_with fail
      refine (HB.out _).mono ?_
      rintro e w4 ⟨v4, rfl, o4, k4⟩
      have hA4 := k4.blk (by simp) hA3
      have hP4 := k4.blk (by simp) hP3
      have hK4 := hK3.trans k4
      have hx4 := hx.keep hK4 (by simp)
      clear hA3 hP3 hK3 k4 g0 g1 g2 g3
      have qx := run_str (P := Try.prog) 42 9 5 Try.underlying42 Try.underlying5 Try.underlying9 hx4
      by_cases hz : rc = 0
      · subst hz
        rw [if_pos rfl] at o4
        have q4 := run_str (P := Try.prog) 42 9 5 Try.underlying42 Try.underlying5 Try.underlying9 (o4.bytes (by rw [HLN.out]; exact hm))
        by_cases hEq : lbuild l.length kn pn sn LD = l
        · have hF : F := HOK.out.2 ⟨HNN.out.1, HNN.out.2, HRC.out, hEq⟩
          rw [hEq] at q4
          have g0 := cell_of_row w4 _ 0 _ _ _ hP4
          have g1 := cell_of_row w4 _ 1 _ _ _ hP4
          have g2 := cell_of_row w4 _ 2 _ _ _ hP4
          have g3 := cell_of_row w4 _ 3 _ _ _ hP4
          simp at g0 g1 g2 g3
          clear o4 hx4 hx hEq
          go_wp2_with (first | (refine wpList_load_row rfl 67 (.tmp 6) rfl (w.heap.size + 1) rfl 67 _ _ _ hP4 Try.underlying67 rfl (by kernel_rfl) ?_) | (refine wpList_store_row rfl 67 (.tmp 2) _ rfl w.heap.size _ rfl rfl 67 _ hA4 (by kernel_rfl) (by rfl) (by kernel_rfl) ?_))
          exact bodyPost_ret (results_cell_tmp_row rfl _ _ w.heap.size 67 _ _ _ rfl (setRow_heap _ _ _ _ _ _ hA4) Try.underlying67 rfl (by kernel_rfl)) rfl ⟨hK4.setRow (.inr (Nat.le_refl _)) _, .inl ⟨hF, rfl⟩⟩
        · have HEq := Lib.hid hEq
          obtain ⟨L4, hL4⟩ : ∃ L, lbuild l.length kn pn sn LD = L := ⟨_, rfl⟩
          rw [hL4] at q4 hEq
          have hne : (L4 == l) = false := by simpa using hEq
          have hne2 : (L4 != l) = true := by simpa using hEq
          clear o4 hx4 hx hL4 
          go_wp2_with (refine wpList_store_row rfl 67 (.tmp 2) _ rfl w.heap.size _ rfl rfl 67 _ hA4 (by kernel_rfl) (by rfl) (by kernel_rfl) ?_)
          refine bodyPost_ret (results_cell_tmp_row rfl _ _ w.heap.size 67 #[.int .i64 0, .int .i64 0, .int .i64 0, .string ByteArray.empty] _ _ rfl (setRow_heap _ _ _ _ _ _ hA4) Try.underlying67 rfl (by kernel_rfl)) rfl ⟨hK4.setRow (.inr (Nat.le_refl _)) _, .inr ⟨fun h => ?_, rfl⟩⟩
          exact HEq.out (HOK.out.1 h).2.2.2
      · have hz' : (rc != 0) = true := by simpa using hz
        have HZ := Lib.hid hz
        clear o4 hx4 hx hz
        go_wp2_with (refine wpList_store_row rfl 67 (.tmp 2) _ rfl w.heap.size _ rfl rfl 67 _ hA4 (by kernel_rfl) (by rfl) (by kernel_rfl) ?_)
        refine bodyPost_ret (results_cell_tmp_row rfl _ _ w.heap.size 67 #[.int .i64 0, .int .i64 0, .int .i64 0, .string ByteArray.empty] _ _ rfl (setRow_heap _ _ _ _ _ _ hA4) Try.underlying67 rfl (by kernel_rfl)) rfl ⟨hK4.setRow (.inr (Nat.le_refl _)) _, .inr ⟨fun h => ?_, rfl⟩⟩
        exact HZ.out (HRC.out.symm.trans (HOK.out.1 h).2.2.1)
end Go.Proofs.Ytjkjiabfhhnngaa

/-! What is built is read; the walk of the laws' awake. -/
namespace Go.Proofs.Ytjkjiabfhhnngaa
open Go.RowKit Go.Shelf Sg
set_option linter.unusedSimpArgs false

theorem lbuild_flat (size k p s : Nat) (l : List UInt8) : lbuild size k p s l = le k 1 ++ (le l.length 2 ++ (le p 4 ++ (le s 8 ++ (l ++ (List.replicate (size - 19 - l.length) 0 ++ le (Crc.sum (nats (lbody size k p s l))) 4))))) := by
  simp [lbuild, lbody]
theorem leaf_back (size k p s : Nat) (l : List UInt8) (h : lcode size k p s l.length = 0) (hs : s ≤ 9223372036854775807) :
    lk (lbuild size k p s l) = k ∧ ln (lbuild size k p s l) = l.length ∧ lp (lbuild size k p s l) = p ∧ ls (lbuild size k p s l) = s ∧ ll (lbuild size k p s l) = l ∧ LeafOk (lbuild size k p s l) ∧ (lbuild size k p s l).length = size := by
  obtain ⟨⟨b1, b2⟩, ⟨b3, b4⟩, ⟨b5, b6⟩, b7, b8⟩ := lcode_zero h
  have hlen := lbuild_len size k p s l (by omega) (by omega)
  have hf := lbuild_flat size k p s l
  obtain ⟨L, hL⟩ : ∃ L, lbuild size k p s l = L := ⟨_, rfl⟩
  rw [hL] at hlen hf ⊢
  have t1 : L.take 1 = le k 1 := by rw [hf, List.take_left' (le_len _ _)]
  have d1 : L.drop 1 = le l.length 2 ++ (le p 4 ++ (le s 8 ++ (l ++ (List.replicate (size - 19 - l.length) 0 ++ le (Crc.sum (nats (lbody size k p s l))) 4)))) := by rw [hf, List.drop_left' (le_len _ _)]
  have d3 : L.drop 3 = le p 4 ++ (le s 8 ++ (l ++ (List.replicate (size - 19 - l.length) 0 ++ le (Crc.sum (nats (lbody size k p s l))) 4))) := by rw [show 3 = 1 + 2 from rfl, ← List.drop_drop, d1, List.drop_left' (le_len _ _)]
  have d7 : L.drop 7 = le s 8 ++ (l ++ (List.replicate (size - 19 - l.length) 0 ++ le (Crc.sum (nats (lbody size k p s l))) 4)) := by rw [show 7 = 3 + 4 from rfl, ← List.drop_drop, d3, List.drop_left' (le_len _ _)]
  have d15 : L.drop 15 = l ++ (List.replicate (size - 19 - l.length) 0 ++ le (Crc.sum (nats (lbody size k p s l))) 4) := by rw [show 15 = 7 + 8 from rfl, ← List.drop_drop, d7, List.drop_left' (le_len _ _)]
  have e1 : lk L = k := by rw [lk, t1, leOf_le]; exact Nat.mod_eq_of_lt (by omega)
  have e2 : ln L = l.length := by rw [ln, d1, List.take_left' (le_len _ _), leOf_le]; exact Nat.mod_eq_of_lt (by omega)
  have e3 : lp L = p := by rw [lp, d3, List.take_left' (le_len _ _), leOf_le]; exact Nat.mod_eq_of_lt (by omega)
  have e4 : ls L = s := by rw [ls, d7, List.take_left' (le_len _ _), leOf_le]; exact Nat.mod_eq_of_lt (by omega)
  have e5 : ll L = l := by rw [ll, e2, d15, List.take_left' rfl]
  refine ⟨e1, e2, e3, e4, e5, ⟨⟨by omega, by omega⟩, by omega, by omega, ?_, ?_⟩, hlen⟩
  · rw [hlen, e1, e2, e3, e4]; exact h
  · rw [hlen, e1, e3, e4, e5]; exact hL

theorem lb96 : (lbuild 96 2 5 7 [104, 105])[0]? = some 2 ∧ (lbuild 96 2 5 7 [104, 105])[1]? = some 2 ∧ (lbuild 96 2 5 7 [104, 105])[3]? = some 5 ∧ (lbuild 96 2 5 7 [104, 105])[7]? = some 7 ∧ (lbuild 96 2 5 7 [104, 105])[15]? = some 104 := by
  rw [lbuild_flat]
  refine ⟨rfl, rfl, rfl, rfl, rfl⟩

theorem bytes_two (w : World) (a b : UInt8) (c d : Int) (hc : c = (a.toNat : Int)) (hd : d = (b.toNat : Int)) (fr : Nat × Nat) : Bytes (w.alloc (.cells #[.int .u8 c, .int .u8 d] 5 fr)) (.slice (some ⟨w.heap.size, 0, none⟩) 2 2) [a, b] := by
  subst hc hd
  exact Bytes.row (l := [a, b]) (cap := 2) (World.alloc_heap_new w _) (by intro i hi; have : i < 2 := hi; match i, this with | 0, _ => rfl | 1, _ => rfl) (by simp) ⟨by decide, by simp⟩
theorem cell_at {w : World} {b o : Nat} {l : List UInt8} (hc : ∀ i (h : i < l.length), w.cell? ⟨b, o + i, none⟩ = some (.int .u8 (l[i].toNat : Int))) (i : Nat) (x : UInt8) (h : l[i]? = some x) : w.cell? ⟨b, o + i, none⟩ = some (.int .u8 (x.toNat : Int)) := by
  obtain ⟨hi, hx⟩ := List.getElem?_eq_some_iff.1 h
  rw [hc i hi, hx]

set_option maxRecDepth 100000 in
set_option maxHeartbeats 1000000 in
set_option maxHeartbeats 4000000 in
theorem awake05_any (w : World) : Calls Try.prog 46 #[] w fun e w' => e = .returned (.bool true) ∧ Keep [] w w' := by
  have kc := fun (w : World) (C : Array Value) (n c : Nat) => Lib.run_convert_bytes_const (P := Try.prog) w 42 5 C n c Try.underlying42 Try.underlying5
  have hR := room_any 96
  rw [if_pos (by omega), show (96 : Int) - 19 = 77 from rfl] at hR
  obtain ⟨f0, f1, f3, f7, f15⟩ := lb96
  obtain ⟨e1, e2, e3, e4, e5, hok, hlen⟩ := leaf_back 96 2 5 7 [104, 105] (by rfl) (by decide)
  have hB := lbuild_any 96 2 5 7 (by decide) _ _ _ (bytes_two w 104 105 104 105 rfl rfl (2, 3))
  rw [if_pos (by rfl), show lcode 96 2 5 7 [(104 : UInt8), 105].length = 0 from rfl] at hB
  simp only [show (96 : Int).toNat = 96 from rfl, show (2 : Int).toNat = 2 from rfl, show (5 : Int).toNat = 5 from rfl, show (7 : Int).toNat = 7 from rfl] at hB
  generalize lbuild 96 2 5 7 [104, 105] = L at hB f0 f1 f3 f7 f15 e1 e2 e3 e4 e5 hok hlen
  have hK0 := (Keep.refl [] w).alloc (.cells #[.int .u8 104, .int .u8 105] 5 (2, 3))
  have HOK := Lib.hid hok
  have H5 := Lib.hid e5
  have H1 := Lib.hid e1
  have H3 := Lib.hid e3
  have H4 := Lib.hid e4
  have HL := Lib.hid hlen
  have F0 := Lib.hid f0
  have F1 := Lib.hid f1
  have F3 := Lib.hid f3
  have F7 := Lib.hid f7
  have F15 := Lib.hid f15
  clear hok e1 e2 e3 e4 e5 hlen f0 f1 f3 f7 f15
  go_enter Try.func46, Try.ntmps46
  go_wp2_with fail
  refine hB.mono ?_
  rintro e w1 ⟨v1, rfl, o1, k1⟩
  have hK1 := hK0.trans k1
  clear hB kc k1 hK0
  have b1 := o1.bytes (by rw [HL.out]; decide)
  have hRd := leafRead_in v1 L w1 b1 (by rw [HL.out]; decide)
  go_wp2_with fail
  refine hRd.mono ?_
  rintro e w2 ⟨k2, hor⟩
  obtain ⟨v2, rfl, b2⟩ : ∃ v, e = .returned (.tuple #[.agg #[.int .i64 2, .int .i64 5, .int .i64 7, v], .int .i64 0]) ∧ Bytes w2 v [104, 105] := by
    rcases hor with ⟨-, v, h1, h2⟩ | ⟨h, -⟩
    · rw [H1.out, H3.out, H4.out] at h1
      rw [H5.out] at h2
      exact ⟨v, h1, h2⟩
    · exact absurd HOK.out h
  have hK2 := hK1.trans k2
  have b1' := b1.keep k2 (by simp)
  obtain ⟨ao, cap, rfl, -⟩ := b2.form
  have hk3 := (Keep.refl [] w2).alloc (.cells #[.int .i64 2, .int .i64 5, .int .i64 7, .slice ao [(104 : UInt8), 105].length cap] 74)
  have b1'' := b1'.keep hk3 (by simp)
  have q := run_str (P := Try.prog) 42 9 5 Try.underlying42 Try.underlying5 Try.underlying9 (b2.keep hk3 (by simp))
  obtain ⟨ab, cb, rfl, hcb, -⟩ := b1''.form
  obtain ⟨bb, ob, rfl, -, hc⟩ := b1''.spot (by rw [HL.out]; decide)
  have c0 := cell_at hc 0 2 F0.out
  have c1 := cell_at hc 1 2 F1.out
  have c3 := cell_at hc 3 5 F3.out
  have c7 := cell_at hc 7 7 F7.out
  have c15 := cell_at hc 15 104 F15.out
  rw [HL.out] at hcb
  have hL96 := HL.out
  rw [hL96]
  clear hRd hor b1 b1' b1'' b2 o1 k2 hK1 hc hk3 hL96
  simp at c0 c1 c3 c7 c15 q
  go_wp2_with fail
  refine (hR _).mono ?_
  rintro e w3 ⟨rfl, rfl⟩
  go_wp2_with fail
  go_ret
  exact ⟨rfl, hK2.alloc _⟩
end Go.Proofs.Ytjkjiabfhhnngaa
