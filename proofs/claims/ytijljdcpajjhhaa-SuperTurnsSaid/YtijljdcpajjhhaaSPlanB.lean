import Derived.Test.YtijljdcpajjhhaaSPlanA
import Derived.Test.YtijljdcpajjhhaaPlanRefFit
import Derived.Test.YtijljdcpajjhhaaPlanRefFitNo
import Derived.Test.YtijljdcpajjhhaaHist
/-! The walks of plan's Unpack and of the document's. -/
namespace Go.Proofs.Ytijljdcpajjhhaa
open Go.RowKit Sg
set_option linter.unusedSimpArgs false
set_option linter.unusedVariables false

theorem refFit_any (p : Pl) (w : World) : Calls Try.prog 111 #[p.v] w fun e w' => e = .returned (.tuple (if p.Fits then #[p.lay, .int .i64 0] else #[lay8 0 0 0 0 0 0 0 0, .int .i64 12])) ∧ Keep [] w w' := by
  by_cases h : p.Within
  · exact refFit_yes p h w
  · rw [if_neg (fun h' => h h'.1)]
    exact refFit_no p h w


def pn (l : List UInt8) (k : Nat) : Nat := leOf ((l.drop (8 + 2 * k)).take 2)
/-- the plan that 26 bytes are -/
def of26 (l : List UInt8) : Pl := ⟨leOf (l.take 4), leOf ((l.drop 4).take 4), pn l 0, pn l 1, pn l 2, pn l 3, pn l 4, leOf ((l.drop 18).take 8)⟩
def plan0 : Value := .agg #[.int .i64 0, .int .i64 0, .int .i64 0, .int .i64 0, .int .i64 0, .int .i64 0, .int .i64 0, .int .u64 0]
def unp (l : List UInt8) : Array Value := if l.length = 26 then (if (of26 l).Fits then #[(of26 l).v, .int .i64 0] else #[plan0, .int .i64 12]) else #[plan0, .int .i64 5]
/-- the plan's cells when k of the five are read -/
def prow (l : List UInt8) (k : Nat) : Array Value := #[.int .i64 (leOf (l.take 4) : Int), .int .i64 (leOf ((l.drop 4).take 4) : Int), .int .i64 (if 0 < k then (pn l 0 : Int) else 0), .int .i64 (if 1 < k then (pn l 1 : Int) else 0), .int .i64 (if 2 < k then (pn l 2 : Int) else 0), .int .i64 (if 3 < k then (pn l 3 : Int) else 0), .int .i64 (if 4 < k then (pn l 4 : Int) else 0), .int .u64 0]
theorem prow_set (l : List UInt8) (k : Nat) (hk : k < 5) : (prow l k).setIfInBounds (2 + k) (.int .i64 (pn l k : Int)) = prow l (k + 1) := by
  rcases (by omega : k = 0 ∨ k = 1 ∨ k = 2 ∨ k = 3 ∨ k = 4) with rfl | rfl | rfl | rfl | rfl <;> simp [prow]
theorem prow_get (l : List UInt8) (k : Nat) (hk : k < 5) : (prow l k)[2 + k]? = some (.int .i64 0) := by
  rcases (by omega : k = 0 ∨ k = 1 ∨ k = 2 ∨ k = 3 ∨ k = 4) with rfl | rfl | rfl | rfl | rfl <;> simp [prow]
theorem prow_zero (l : List UInt8) : prow l 0 = #[.int .i64 (leOf (l.take 4) : Int), .int .i64 (leOf ((l.drop 4).take 4) : Int), .int .i64 0, .int .i64 0, .int .i64 0, .int .i64 0, .int .i64 0, .int .u64 0] := by simp [prow]
theorem prow_all (l : List UInt8) : prow l 5 = #[.int .i64 (leOf (l.take 4) : Int), .int .i64 (leOf ((l.drop 4).take 4) : Int), .int .i64 (pn l 0 : Int), .int .i64 (pn l 1 : Int), .int .i64 (pn l 2 : Int), .int .i64 (pn l 3 : Int), .int .i64 (pn l 4 : Int), .int .u64 0] := by simp [prow]
theorem prow_nu (l : List UInt8) (k : Nat) : ∀ (i : Nat) (x : Value), (prow l k)[i]? = some x → ∀ n : Int, x ≠ Value.int .u8 n := by
  intro i x hx n e
  subst e
  rcases (by omega : i = 0 ∨ i = 1 ∨ i = 2 ∨ i = 3 ∨ i = 4 ∨ i = 5 ∨ i = 6 ∨ i = 7 ∨ 8 ≤ i) with rfl | rfl | rfl | rfl | rfl | rfl | rfl | rfl | h
  case inr.inr.inr.inr.inr.inr.inr.inr => rw [Array.getElem?_eq_none (by simp [prow]; omega)] at hx; cases hx
  all_goals simp [prow] at hx
theorem pn_lt (l : List UInt8) (k : Nat) : pn l k < 65536 := by
  have h := leOf_lt ((l.drop (8 + 2 * k)).take 2)
  have h2 : ((l.drop (8 + 2 * k)).take 2).length ≤ 2 := List.length_take_le _ _
  have : (256 : Nat) ^ ((l.drop (8 + 2 * k)).take 2).length ≤ 256 ^ 2 := Nat.pow_le_pow_right (by omega) h2
  unfold pn
  omega
theorem ptr_index (b : Nat) (k : Nat) (hk : k < 5) : ∀ w, Sem.run Try.prog (Instr.index 248 (.agg #[.pointer (some ⟨b, 2, none⟩), .pointer (some ⟨b, 3, none⟩), .pointer (some ⟨b, 4, none⟩), .pointer (some ⟨b, 5, none⟩), .pointer (some ⟨b, 6, none⟩)]) (.int .i64 (k : Int))) w = .ok (.pointer (some ⟨b, 2 + k, none⟩)) w := by
  rcases (by omega : k = 0 ∨ k = 1 ∨ k = 2 ∨ k = 3 ∨ k = 4) with rfl | rfl | rfl | rfl | rfl <;> intro w <;> kernel_rfl
theorem fit_one (p : Pl) (w : World) : ∃ a b c d e f g h : Int, Calls Try.prog 88 #[p.v] w fun x w' => x = .returned (.tuple #[lay8 a b c d e f g h, .int .i64 (if p.Fits then 0 else 12)]) ∧ Keep [] w w' := by
  by_cases hf : p.Fits
  · refine ⟨2, 2 + p.lg, p.page, p.sec - p.page, p.per, (p.room - 10) / 20, p.tree, p.rs * p.room, (fit_any p w).mono ?_⟩
    rintro x w' ⟨rfl, hk⟩
    rw [if_pos hf, if_pos hf]
    exact ⟨rfl, hk⟩
  · refine ⟨0, 0, 0, 0, 0, 0, 0, 0, (fit_any p w).mono ?_⟩
    rintro x w' ⟨rfl, hk⟩
    rw [if_neg hf, if_neg hf]
    exact ⟨rfl, hk⟩

set_option maxRecDepth 100000 in
set_option maxHeartbeats 1000000 in
set_option maxHeartbeats 4000000 in
theorem planUnpack_no (x : Value) (l : List UInt8) (w : World) (hx : Bytes w x l) (hl : l.length ≠ 26) : Calls Try.prog 114 #[x] w fun e w' => e = .returned (.tuple #[plan0, .int .i64 5]) ∧ Keep [] w w' := by
  obtain ⟨ao, cap, rfl, hlc, hm, hcap⟩ := hx.form
  have hq : ((l.length : Int) != 26) = true := by simp; omega
  have hA := heap_alloc_new w (.cells #[.int .i64 0, .int .i64 0, .int .i64 0, .int .i64 0, .int .i64 0, .int .i64 0, .int .i64 0, .int .u64 0] 60)
  go_enter Try.func114, Try.ntmps114
  go_wp2
  exact bodyPost_ret (results_cell_tmp_row rfl _ _ w.heap.size 60 _ _ _ rfl hA Try.underlying60 rfl (by kernel_rfl)) rfl ⟨rfl, (Keep.refl [] w).alloc _⟩

set_option maxRecDepth 100000 in
set_option maxHeartbeats 1000000 in
set_option maxHeartbeats 4000000 in
theorem planUnpack_yes (x : Value) (l : List UInt8) (w : World) (hx : Bytes w x l) (hl : l.length = 26) : Calls Try.prog 114 #[x] w fun e w' => e = .returned (.tuple (if (of26 l).Fits then #[(of26 l).v, .int .i64 0] else #[plan0, .int .i64 12])) ∧ Keep [] w w' := by
  obtain ⟨ao, cap, rfl, hlc, hm, hcap⟩ := hx.form
  have hF := fit_one (of26 l)
  have hv : (of26 l).v = .agg #[.int .i64 (leOf (l.take 4) : Int), .int .i64 (leOf ((l.drop 4).take 4) : Int), .int .i64 (pn l 0 : Int), .int .i64 (pn l 1 : Int), .int .i64 (pn l 2 : Int), .int .i64 (pn l 3 : Int), .int .i64 (pn l 4 : Int), .int .u64 (leOf ((l.drop 18).take 8) : Int)] := rfl
  rw [hv] at hF ⊢
  obtain ⟨F, hFF⟩ : ∃ F : Bool, decide (of26 l).Fits = F := ⟨_, rfl⟩
  have e1 : (if (of26 l).Fits then (0 : Int) else 12) = if F = true then 0 else 12 := by rw [← hFF]; simp
  have e2 : (if (of26 l).Fits then #[Value.agg #[.int .i64 (leOf (l.take 4) : Int), .int .i64 (leOf ((l.drop 4).take 4) : Int), .int .i64 (pn l 0 : Int), .int .i64 (pn l 1 : Int), .int .i64 (pn l 2 : Int), .int .i64 (pn l 3 : Int), .int .i64 (pn l 4 : Int), .int .u64 (leOf ((l.drop 18).take 8) : Int)], .int .i64 0] else #[plan0, .int .i64 12]) = if F = true then #[Value.agg #[.int .i64 (leOf (l.take 4) : Int), .int .i64 (leOf ((l.drop 4).take 4) : Int), .int .i64 (pn l 0 : Int), .int .i64 (pn l 1 : Int), .int .i64 (pn l 2 : Int), .int .i64 (pn l 3 : Int), .int .i64 (pn l 4 : Int), .int .u64 (leOf ((l.drop 18).take 8) : Int)], .int .i64 0] else #[plan0, .int .i64 12] := by rw [← hFF]; simp
  rw [e1] at hF
  rw [e2]
  clear e1 e2 hFF hv
  have q26 : Hid (l.length = 26) := hl
  have hq : ((l.length : Int) != 26) = false := by simp; omega
  have hs := prow_set l
  have hg := prow_get l
  have hnu := prow_nu l
  have h0 := prow_zero l
  have h5 := prow_all l
  have hpn := pn_lt l
  have a1 := take_lt l 4
  have a2 := take_lt (l.drop 4) 4
  have a3 := take_lt (l.drop 18) 8
  have r1 : rdN (l, false) 4 = (leOf (l.take 4), l.drop 4, false) := rdN_eq (by simp; omega)
  have r2 : rdN (l.drop 4, false) 4 = (leOf ((l.drop 4).take 4), l.drop 8, false) := by rw [rdN_eq (by simp; omega)]; simp only [List.drop_drop]
  have r3 : ∀ k, k < 5 → rdN (l.drop (8 + 2 * k), false) 2 = (pn l k, l.drop (8 + 2 * (k + 1)), false) := by
    intro k hk
    rw [rdN_eq (by simp; omega)]; simp only [List.drop_drop, pn]
    rw [show 8 + 2 * k + 2 = 8 + 2 * (k + 1) by omega]
  have r4 : rdN (l.drop 18, false) 8 = (leOf ((l.drop 18).take 8), (l.drop 18).drop 8, false) := rdN_eq (by simp; omega)
  obtain ⟨R, hR⟩ : ∃ R, prow l = R := ⟨_, rfl⟩
  rw [hR] at hs hg h0 h5 hnu
  obtain ⟨pf, hpf⟩ : ∃ pf, pn l = pf := ⟨_, rfl⟩
  rw [hpf] at hs hpn r3 h5 hF ⊢
  obtain ⟨n1, hn1⟩ : ∃ n, leOf (l.take 4) = n := ⟨_, rfl⟩
  rw [hn1] at h0 h5 a1 r1 hF ⊢
  obtain ⟨n2, hn2⟩ : ∃ n, leOf ((l.drop 4).take 4) = n := ⟨_, rfl⟩
  rw [hn2] at h0 h5 a2 r2 hF ⊢
  obtain ⟨n3, hn3⟩ : ∃ n, leOf ((l.drop 18).take 8) = n := ⟨_, rfl⟩
  rw [hn3] at a3 r4 hF ⊢
  clear hR hpf hn1 hn2 hn3
  simp only [Nat.reducePow] at a1 a2 a3
  have q1 : RowKit.wrap64 (n1 : Int) = (n1 : Int) := by unfold RowKit.wrap64; omega
  have q1' : IntKind.i64.wrap (n1 : Int) = (n1 : Int) := i64_wrap_nat (by omega)
  have q2 : RowKit.wrap64 (n2 : Int) = (n2 : Int) := by unfold RowKit.wrap64; omega
  have q2' : IntKind.i64.wrap (n2 : Int) = (n2 : Int) := i64_wrap_nat (by omega)
  have HS := Lib.hid hs
  have HG := Lib.hid hg
  have HNU := Lib.hid hnu
  have H0 := Lib.hid h0
  have H5 := Lib.hid h5
  have HPN := Lib.hid hpn
  have R3 := Lib.hid r3
  have HF := Lib.hid hF
  clear hs hg h0 h5 hpn r3 hF hl hnu
  have hK0 := (Keep.refl [] w).alloc (.cells #[.int .i64 0, .int .i64 0, .int .i64 0, .int .i64 0, .int .i64 0, .int .i64 0, .int .i64 0, .int .u64 0] 60)
  have hA := heap_alloc_new w (.cells #[.int .i64 0, .int .i64 0, .int .i64 0, .int .i64 0, .int .i64 0, .int .i64 0, .int .i64 0, .int .u64 0] 60)
  go_enter Try.func114, Try.ntmps114
  go_wp2_with fail
  refine (newReader_any _ l _ (hx.keep hK0 (by simp)) (by have := q26.out; omega)).mono ?_
  rintro e w1 ⟨g, rfl, s1⟩
  go_wp2_with fail
  have c := readNumber_any _ w1 g (l, false) s1 4 (by omega)
  rw [r1] at c
  refine c.mono ?_
  clear c s1
  rintro e w2 ⟨rfl, s2, -⟩
  go_wp2_with fail
  have c := readNumber_any _ w2 g (l.drop 4, false) s2 4 (by omega)
  rw [r2] at c
  refine c.mono ?_
  clear c s2 r1 r2 hx
  rintro e w3 ⟨rfl, s3, -⟩
  have hA3 := s3.1.blk (by simp) hA
  have hg3 : g < w3.heap.size := by obtain ⟨_, _, _, h, _⟩ := s3; exact (Array.getElem?_eq_some_iff.1 h).1
  have s4 := s3.keep ((Keep.refl [] w3).alloc (.cells #[.int .i64 n1, .int .i64 n2, .int .i64 0, .int .i64 0, .int .i64 0, .int .i64 0, .int .i64 0, .int .u64 0] 60))
  have hP := heap_alloc_new w3 (.cells #[.int .i64 n1, .int .i64 n2, .int .i64 0, .int .i64 0, .int .i64 0, .int .i64 0, .int .i64 0, .int .u64 0] 60)
  have hI := ptr_index w3.heap.size
  have HI := Lib.hid hI
  have hw3 : w.heap.size + 1 ≤ w3.heap.size := by have := s3.1.size; simpa using this
  clear hI s3 hA
  go_wp2_with fail
  go_loopw [29] (fun i wr => ∃ k : Nat, k ≤ 5 ∧ i = .int .i64 k ∧ RS (w.alloc (.cells #[.int .i64 0, .int .i64 0, .int .i64 0, .int .i64 0, .int .i64 0, .int .i64 0, .int .i64 0, .int .u64 0] 60)) wr g (l.drop (8 + 2 * k)) false ∧ wr.heap[w3.heap.size]? = some (.cells (R k) 60 (0, 0))) (fun i _ => 5 - (intOf i).toNat)
  case atStart => exact ⟨0, by omega, rfl, s4, by rw [H0.out]; exact hP⟩
  case round =>
    obtain ⟨k, hk, rfl, sk, hPk⟩ := hrel
    clear s4 hP
    by_cases hlt : k < 5
    · have hi := HI.out k hlt
      have hlt' : (k : Int) < 5 := by omega
      have hr3 := R3.out k hlt
      obtain ⟨n, hn⟩ : ∃ n, pf k = n := ⟨_, rfl⟩
      have hset := HS.out k hlt
      have hlt16 := HPN.out k
      rw [hn] at hr3 hset hlt16
      have u1 := (small_wrap hlt16).1
      have u2 := (small_wrap hlt16).2
      have hget := HG.out k hlt
      clear hn
      have HSET := Lib.hid hset
      clear hset
      go_wp2_with fail
      have c := readNumber_any _ wr g (l.drop (8 + 2 * k), false) sk 2 (by omega)
      rw [hr3] at c
      refine c.mono ?_
      clear c sk hr3
      rintro e w5 ⟨rfl, s5, k5⟩
      have hP5 := k5.blk (by simp; omega) hPk
      have gk := cell_of_row w5 _ (2 + k) _ _ _ hP5
      rw [hget] at gk
      have fk := frozen_of_row w5 _ (2 + k) _ _ hP5
      have hP6 := heap_setCell_same w5 w3.heap.size (2 + k) _ _ (.int .i64 (n : Int)) hP5
      rw [HSET.out] at hP6
      have s6 : RS (w.alloc (.cells #[.int .i64 0, .int .i64 0, .int .i64 0, .int .i64 0, .int .i64 0, .int .i64 0, .int .i64 0, .int .u64 0] 60)) (w5.setCell ⟨w3.heap.size, 2 + k, none⟩ (.int .i64 (n : Int))) g (l.drop (8 + 2 * (k + 1))) false := by
        obtain ⟨z1, z2, v, z3, z4, z5⟩ := s5
        refine ⟨z1.setCell (.inr (by simp; omega)) _, z2, v, (Below.heap_setCell _ _ _ _ (by simp; omega)).trans z3, z4.setCell (fun hne => z4.ne_row hne hP5 (HNU.out k)) _, z5⟩
      have HP6 := Lib.hid hP6
      have S6 := Lib.hid s6
      clear hP6 s6 hP5 hget hPk k5
      go_wp2_with fail
      go_roundw
      case rel => exact ⟨k + 1, by omega, by go_num, S6.out, HP6.out⟩
      case measure => simp [intOf]; omega
    · obtain rfl : k = 5 := by omega
      have e18 : (l.drop (8 + 2 * 5)) = l.drop 18 := rfl
      rw [e18] at sk
      rw [H5.out] at hPk
      go_wp2_with fail
      have c := readNumber_any _ wr g (l.drop 18, false) sk 8 (by omega)
      rw [r4] at c
      refine c.mono ?_
      clear c
      rintro e w5 ⟨rfl, s5, k5⟩
      have hP5 := k5.blk (by simp; omega) hPk
      have g0 := cell_of_row w5 _ 0 _ _ _ hP5
      have g1 := cell_of_row w5 _ 1 _ _ _ hP5
      have g2 := cell_of_row w5 _ 2 _ _ _ hP5
      have g3 := cell_of_row w5 _ 3 _ _ _ hP5
      have g4 := cell_of_row w5 _ 4 _ _ _ hP5
      have g5 := cell_of_row w5 _ 5 _ _ _ hP5
      have g6 := cell_of_row w5 _ 6 _ _ _ hP5
      have g7 := cell_of_row w5 _ 7 _ _ _ hP5
      have f7 := frozen_of_row w5 _ 7 _ _ hP5
      simp at g0 g1 g2 g3 g4 g5 g6 g7
      have hP6 := heap_setCell_same w5 w3.heap.size 7 _ _ (.int .u64 (n3 : Int)) hP5
      simp at hP6
      have hK6 := s5.1.setCell (p := ⟨w3.heap.size, 7, none⟩) (.inr (by simp; omega)) (.int .u64 (n3 : Int))
      have HP6 := Lib.hid hP6
      clear hP6 hP5 hPk s5 sk k5
      cases F with
      | true =>
        obtain ⟨la, lb, lc, ld, le', lf, lg', lh, hFc⟩ := HF.out (w5.setCell ⟨w3.heap.size, 7, none⟩ (.int .u64 (n3 : Int)))
        simp only [lay8, if_true, Bool.false_eq_true, if_false] at hFc ⊢
        go_wp2_with fail
        refine hFc.mono ?_
        rintro e w7 ⟨rfl, k7⟩
        have hK7 := hK6.trans k7
        have hA7 := hK7.blk (by simp) (heap_alloc_new w _)
        have hP7 := k7.blk (by simp) HP6.out
        have n7 : w3.heap.size < w7.heap.size := (Array.getElem?_eq_some_iff.1 hP7).1
        have hA8 := fun o => (heap_alloc_old w7 o w.heap.size (by omega)).trans hA7
        have hP8 := fun o => (heap_alloc_old w7 o _ n7).trans hP7
        have hK8 := fun o => (hK0.trans hK7).alloc o
        clear g0 g1 g2 g3 g4 g5 g6 g7 f7
        have HA8 := Lib.hid hA8
        have HP8 := Lib.hid hP8
        clear hA8 hP8 hA7 hP7 hFc
        go_wp2_with (first | (refine wpList_load_row rfl 60 (.tmp 5) rfl w3.heap.size rfl 60 _ _ _ (HP8.out _) Try.underlying60 rfl (by kernel_rfl) ?_) | (refine wpList_store_row rfl 60 (.tmp 2) _ rfl w.heap.size #[.int .i64 (n1 : Int), .int .i64 (n2 : Int), .int .i64 (pf 0 : Int), .int .i64 (pf 1 : Int), .int .i64 (pf 2 : Int), .int .i64 (pf 3 : Int), .int .i64 (pf 4 : Int), .int .u64 (n3 : Int)] rfl rfl 60 _ (HA8.out _) (by kernel_rfl) (by rfl) (by kernel_rfl) ?_))
        exact bodyPost_ret (results_cell_tmp_row rfl _ _ w.heap.size 60 #[.int .i64 (n1 : Int), .int .i64 (n2 : Int), .int .i64 (pf 0 : Int), .int .i64 (pf 1 : Int), .int .i64 (pf 2 : Int), .int .i64 (pf 3 : Int), .int .i64 (pf 4 : Int), .int .u64 (n3 : Int)] _ _ rfl (setRow_heap _ _ _ _ _ _ (HA8.out _)) Try.underlying60 rfl (by kernel_rfl)) rfl ⟨rfl, (hK8 _).setRow (.inr (Nat.le_refl _)) _⟩
      | false =>
        obtain ⟨la, lb, lc, ld, le', lf, lg', lh, hFc⟩ := HF.out (w5.setCell ⟨w3.heap.size, 7, none⟩ (.int .u64 (n3 : Int)))
        simp only [lay8, if_true, Bool.false_eq_true, if_false] at hFc ⊢
        go_wp2_with fail
        refine hFc.mono ?_
        rintro e w7 ⟨rfl, k7⟩
        have hK7 := hK6.trans k7
        have hA7 := hK7.blk (by simp) (heap_alloc_new w _)
        have hP7 := k7.blk (by simp) HP6.out
        have n7 : w3.heap.size < w7.heap.size := (Array.getElem?_eq_some_iff.1 hP7).1
        have hA8 := fun o => (heap_alloc_old w7 o w.heap.size (by omega)).trans hA7
        have hP8 := fun o => (heap_alloc_old w7 o _ n7).trans hP7
        have hK8 := fun o => (hK0.trans hK7).alloc o
        clear g0 g1 g2 g3 g4 g5 g6 g7 f7
        have HA8 := Lib.hid hA8
        have HP8 := Lib.hid hP8
        clear hA8 hP8 hA7 hP7 hFc
        go_wp2_with (first | (refine wpList_load_row rfl 60 (.tmp 5) rfl w3.heap.size rfl 60 _ _ _ (HP8.out _) Try.underlying60 rfl (by kernel_rfl) ?_) | (refine wpList_store_row rfl 60 (.tmp 2) _ rfl w.heap.size #[.int .i64 0, .int .i64 0, .int .i64 0, .int .i64 0, .int .i64 0, .int .i64 0, .int .i64 0, .int .u64 0] rfl rfl 60 _ (HA8.out _) (by kernel_rfl) (by rfl) (by kernel_rfl) ?_))
        exact bodyPost_ret (results_cell_tmp_row rfl _ _ w.heap.size 60 #[.int .i64 0, .int .i64 0, .int .i64 0, .int .i64 0, .int .i64 0, .int .i64 0, .int .i64 0, .int .u64 0] _ _ rfl (setRow_heap _ _ _ _ _ _ (HA8.out _)) Try.underlying60 rfl (by kernel_rfl)) rfl ⟨rfl, (hK8 _).setRow (.inr (Nat.le_refl _)) _⟩


set_option maxRecDepth 100000 in
set_option maxHeartbeats 1000000 in
theorem refAt_any (b o n cap : Nat) (l : List UInt8) (w : World) (hx : Bytes w (.slice (some ⟨b, o, none⟩) n cap) l) (f t : Nat) (h1 : f < t) (h2 : t ≤ l.length) (h3 : t ≤ f + 4) : Calls Try.prog 143 #[.slice (some ⟨b, o, none⟩) n cap, .int .i64 f, .int .i64 t] w fun e w' => e = .returned (.int .i64 (leOf ((l.drop f).take (t - f)) : Int)) ∧ w = w' := by
  obtain ⟨_, _, e, h4, h5, h6⟩ := hx.form
  cases e
  have hs := hx.sub (f := f) (t := t) (by omega) (by omega) h2
  have hlt := take_lt (l.drop f) (t - f)
  have hle : (256 : Nat) ^ (t - f) ≤ 256 ^ 4 := Nat.pow_le_pow_right (by omega) (by omega)
  simp only [Nat.reducePow] at hle
  have hlen : ((l.drop f).take (t - f)).length ≤ 8 := by rw [List.length_take]; omega
  have c := refOf_any _ _ w hs hlen
  generalize leOf ((l.drop f).take (t - f)) = m at c hlt ⊢
  have q1 : RowKit.wrap64 (m : Int) = (m : Int) := by unfold RowKit.wrap64; omega
  have q2 : IntKind.i64.wrap (m : Int) = (m : Int) := i64_wrap_nat (by omega)
  have z1 : (f : Int) ≤ (t : Int) := by omega
  have z2 : (t : Int) ≤ (cap : Int) := by omega
  have z3 : ¬ cap = f := by omega
  clear hs hlen hle hlt hx
  go_enter Try.func143, Try.ntmps143
  go_wp2_with fail
  refine c.mono ?_
  rintro e w1 ⟨rfl, rfl⟩
  go_wp2_with fail
  go_ret
  exact ⟨rfl, rfl⟩

theorem reffit_one (p : Pl) (w : World) : ∃ a b c d e f g h : Int, Calls Try.prog 111 #[p.v] w fun x w' => x = .returned (.tuple #[lay8 a b c d e f g h, .int .i64 (if p.Fits then 0 else 12)]) ∧ Keep [] w w' := by
  by_cases hf : p.Fits
  · refine ⟨2, 2 + p.lg, p.page, p.sec - p.page, p.per, (p.room - 10) / 20, p.tree, p.rs * p.room, (refFit_any p w).mono ?_⟩
    rintro x w' ⟨rfl, hk⟩
    rw [if_pos hf, if_pos hf]
    exact ⟨rfl, hk⟩
  · refine ⟨0, 0, 0, 0, 0, 0, 0, 0, (refFit_any p w).mono ?_⟩
    rintro x w' ⟨rfl, hk⟩
    rw [if_neg hf, if_neg hf]
    exact ⟨rfl, hk⟩

set_option maxRecDepth 100000 in
set_option maxHeartbeats 1000000 in
theorem refPlanUnpack_no (x : Value) (l : List UInt8) (w : World) (hx : Bytes w x l) (hl : l.length ≠ 26) : Calls Try.prog 117 #[x] w fun e w' => e = .returned (.tuple #[plan0, .int .i64 5]) ∧ Keep [] w w' := by
  obtain ⟨ao, cap, rfl, hlc, hm, hcap⟩ := hx.form
  have hq : ((l.length : Int) != 26) = true := by simp; omega
  have hA := heap_alloc_new w (.cells #[.int .i64 0, .int .i64 0, .int .i64 0, .int .i64 0, .int .i64 0, .int .i64 0, .int .i64 0, .int .u64 0] 116)
  go_enter Try.func117, Try.ntmps117
  go_wp2
  exact bodyPost_ret (results_cell_tmp_row rfl _ _ w.heap.size 116 _ _ _ rfl hA Try.underlying116 rfl (by kernel_rfl)) rfl ⟨rfl, (Keep.refl [] w).alloc _⟩

set_option maxRecDepth 100000 in
set_option maxHeartbeats 1000000 in
set_option maxHeartbeats 4000000 in
theorem refPlanUnpack_yes (x : Value) (l : List UInt8) (w : World) (hx : Bytes w x l) (hl : l.length = 26) : Calls Try.prog 117 #[x] w fun e w' => e = .returned (.tuple (if (of26 l).Fits then #[(of26 l).v, .int .i64 0] else #[plan0, .int .i64 12])) ∧ Keep [] w w' := by
  obtain ⟨ao, cap, rfl, hlc, hm, hcap⟩ := hx.form
  have hF := reffit_one (of26 l)
  have hv : (of26 l).v = .agg #[.int .i64 (leOf (l.take 4) : Int), .int .i64 (leOf ((l.drop 4).take 4) : Int), .int .i64 (pn l 0 : Int), .int .i64 (pn l 1 : Int), .int .i64 (pn l 2 : Int), .int .i64 (pn l 3 : Int), .int .i64 (pn l 4 : Int), .int .u64 (leOf ((l.drop 18).take 8) : Int)] := rfl
  rw [hv] at hF ⊢
  obtain ⟨F, hFF⟩ : ∃ F : Bool, decide (of26 l).Fits = F := ⟨_, rfl⟩
  have e1 : (if (of26 l).Fits then (0 : Int) else 12) = if F = true then 0 else 12 := by rw [← hFF]; simp
  have e2 : (if (of26 l).Fits then #[Value.agg #[.int .i64 (leOf (l.take 4) : Int), .int .i64 (leOf ((l.drop 4).take 4) : Int), .int .i64 (pn l 0 : Int), .int .i64 (pn l 1 : Int), .int .i64 (pn l 2 : Int), .int .i64 (pn l 3 : Int), .int .i64 (pn l 4 : Int), .int .u64 (leOf ((l.drop 18).take 8) : Int)], .int .i64 0] else #[plan0, .int .i64 12]) = if F = true then #[Value.agg #[.int .i64 (leOf (l.take 4) : Int), .int .i64 (leOf ((l.drop 4).take 4) : Int), .int .i64 (pn l 0 : Int), .int .i64 (pn l 1 : Int), .int .i64 (pn l 2 : Int), .int .i64 (pn l 3 : Int), .int .i64 (pn l 4 : Int), .int .u64 (leOf ((l.drop 18).take 8) : Int)], .int .i64 0] else #[plan0, .int .i64 12] := by rw [← hFF]; simp
  rw [e1] at hF
  rw [e2]
  clear e1 e2 hFF hv
  obtain ⟨b, o, rfl, hb, -⟩ := hx.spot (by omega)
  have hkx : ∀ w', Keep [w.heap.size + 1] (w.alloc (.cells #[.int .i64 0, .int .i64 0, .int .i64 0, .int .i64 0, .int .i64 0, .int .i64 0, .int .i64 0, .int .u64 0] 116)) w' → Bytes w' (.slice (some ⟨b, o, none⟩) l.length cap) l := fun w' h => hx.keep ((((Keep.refl [] w).alloc _).mono (by simp)).trans h) (by intro b' h1 h2; simp [Value.ownBlock] at h1 h2; omega)
  have hat := fun f t w' h => refAt_any b o _ cap l w' (hkx w' h) f t
  have c_n1 : ∀ w', Keep [w.heap.size + 1] (w.alloc (.cells #[.int .i64 0, .int .i64 0, .int .i64 0, .int .i64 0, .int .i64 0, .int .i64 0, .int .i64 0, .int .u64 0] 116)) w' → Calls Try.prog 143 #[.slice (some ⟨b, o, none⟩) l.length cap, .int .i64 0, .int .i64 4] w' (fun e w'' => e = .returned (.int .i64 (leOf (l.take 4) : Int)) ∧ w' = w'') := fun w' h => hat 0 4 w' h (by omega) (by omega) (by omega)
  have c_n2 : ∀ w', Keep [w.heap.size + 1] (w.alloc (.cells #[.int .i64 0, .int .i64 0, .int .i64 0, .int .i64 0, .int .i64 0, .int .i64 0, .int .i64 0, .int .u64 0] 116)) w' → Calls Try.prog 143 #[.slice (some ⟨b, o, none⟩) l.length cap, .int .i64 4, .int .i64 8] w' (fun e w'' => e = .returned (.int .i64 (leOf ((l.drop 4).take 4) : Int)) ∧ w' = w'') := fun w' h => hat 4 8 w' h (by omega) (by omega) (by omega)
  have c_p0 : ∀ w', Keep [w.heap.size + 1] (w.alloc (.cells #[.int .i64 0, .int .i64 0, .int .i64 0, .int .i64 0, .int .i64 0, .int .i64 0, .int .i64 0, .int .u64 0] 116)) w' → Calls Try.prog 143 #[.slice (some ⟨b, o, none⟩) l.length cap, .int .i64 8, .int .i64 10] w' (fun e w'' => e = .returned (.int .i64 (pn l 0 : Int)) ∧ w' = w'') := fun w' h => hat 8 10 w' h (by omega) (by omega) (by omega)
  have c_p1 : ∀ w', Keep [w.heap.size + 1] (w.alloc (.cells #[.int .i64 0, .int .i64 0, .int .i64 0, .int .i64 0, .int .i64 0, .int .i64 0, .int .i64 0, .int .u64 0] 116)) w' → Calls Try.prog 143 #[.slice (some ⟨b, o, none⟩) l.length cap, .int .i64 10, .int .i64 12] w' (fun e w'' => e = .returned (.int .i64 (pn l 1 : Int)) ∧ w' = w'') := fun w' h => hat 10 12 w' h (by omega) (by omega) (by omega)
  have c_p2 : ∀ w', Keep [w.heap.size + 1] (w.alloc (.cells #[.int .i64 0, .int .i64 0, .int .i64 0, .int .i64 0, .int .i64 0, .int .i64 0, .int .i64 0, .int .u64 0] 116)) w' → Calls Try.prog 143 #[.slice (some ⟨b, o, none⟩) l.length cap, .int .i64 12, .int .i64 14] w' (fun e w'' => e = .returned (.int .i64 (pn l 2 : Int)) ∧ w' = w'') := fun w' h => hat 12 14 w' h (by omega) (by omega) (by omega)
  have c_p3 : ∀ w', Keep [w.heap.size + 1] (w.alloc (.cells #[.int .i64 0, .int .i64 0, .int .i64 0, .int .i64 0, .int .i64 0, .int .i64 0, .int .i64 0, .int .u64 0] 116)) w' → Calls Try.prog 143 #[.slice (some ⟨b, o, none⟩) l.length cap, .int .i64 14, .int .i64 16] w' (fun e w'' => e = .returned (.int .i64 (pn l 3 : Int)) ∧ w' = w'') := fun w' h => hat 14 16 w' h (by omega) (by omega) (by omega)
  have c_p4 : ∀ w', Keep [w.heap.size + 1] (w.alloc (.cells #[.int .i64 0, .int .i64 0, .int .i64 0, .int .i64 0, .int .i64 0, .int .i64 0, .int .i64 0, .int .u64 0] 116)) w' → Calls Try.prog 143 #[.slice (some ⟨b, o, none⟩) l.length cap, .int .i64 16, .int .i64 18] w' (fun e w'' => e = .returned (.int .i64 (pn l 4 : Int)) ∧ w' = w'') := fun w' h => hat 16 18 w' h (by omega) (by omega) (by omega)
  have hsub : ∀ w', Keep [w.heap.size + 1] (w.alloc (.cells #[.int .i64 0, .int .i64 0, .int .i64 0, .int .i64 0, .int .i64 0, .int .i64 0, .int .i64 0, .int .u64 0] 116)) w' → Calls Try.prog 85 #[.slice (some ⟨b, o + 18, none⟩) (26 - 18) (cap - 18)] w' (fun e w'' => e = .returned (.int .u64 (leOf ((l.drop 18).take 8) : Int)) ∧ w' = w'') := fun w' h => refOf_any _ _ w' ((hkx w' h).sub (f := 18) (t := 26) (by omega) (by omega) (by omega)) (by rw [List.length_take]; omega)
  have z2 : (26 : Int) ≤ (cap : Int) := by omega
  have z3 : ¬ cap = 18 := by omega
  have z4 : (26 : Int) ≤ (l.length : Int) := by omega
  have hq : ((l.length : Int) != 26) = false := by simp; omega
  obtain ⟨n1, hn1⟩ : ∃ n, leOf (l.take 4) = n := ⟨_, rfl⟩
  rw [hn1] at c_n1 hF ⊢
  clear hn1
  obtain ⟨n2, hn2⟩ : ∃ n, leOf ((l.drop 4).take 4) = n := ⟨_, rfl⟩
  rw [hn2] at c_n2 hF ⊢
  clear hn2
  obtain ⟨p0, hp0⟩ : ∃ n, pn l 0 = n := ⟨_, rfl⟩
  rw [hp0] at c_p0 hF ⊢
  clear hp0
  obtain ⟨p1, hp1⟩ : ∃ n, pn l 1 = n := ⟨_, rfl⟩
  rw [hp1] at c_p1 hF ⊢
  clear hp1
  obtain ⟨p2, hp2⟩ : ∃ n, pn l 2 = n := ⟨_, rfl⟩
  rw [hp2] at c_p2 hF ⊢
  clear hp2
  obtain ⟨p3, hp3⟩ : ∃ n, pn l 3 = n := ⟨_, rfl⟩
  rw [hp3] at c_p3 hF ⊢
  clear hp3
  obtain ⟨p4, hp4⟩ : ∃ n, pn l 4 = n := ⟨_, rfl⟩
  rw [hp4] at c_p4 hF ⊢
  clear hp4
  obtain ⟨n3, hn3⟩ : ∃ n, leOf ((l.drop 18).take 8) = n := ⟨_, rfl⟩
  rw [hn3] at hsub hF ⊢
  clear hn3 hkx hat hx hl
  have HF := Lib.hid hF
  have C_n1 := Lib.hid c_n1
  have C_n2 := Lib.hid c_n2
  have C_p0 := Lib.hid c_p0
  have C_p1 := Lib.hid c_p1
  have C_p2 := Lib.hid c_p2
  have C_p3 := Lib.hid c_p3
  have C_p4 := Lib.hid c_p4
  have HSUB := Lib.hid hsub
  clear hF hsub c_n1 c_n2 c_p0 c_p1 c_p2 c_p3 c_p4
  have hA := heap_alloc_new w (.cells #[.int .i64 0, .int .i64 0, .int .i64 0, .int .i64 0, .int .i64 0, .int .i64 0, .int .i64 0, .int .u64 0] 116)
  have hK0 := (Keep.refl [] w).alloc (.cells #[.int .i64 0, .int .i64 0, .int .i64 0, .int .i64 0, .int .i64 0, .int .i64 0, .int .i64 0, .int .u64 0] 116)
  go_enter Try.func117, Try.ntmps117
  go_wp2_with fail
  refine wp_region_his [w.heap.size + 1] [18, 19] (fun _ => 0) (by kernel_rfl) (by kernel_rfl) ?_
  intro w1 hk1 hh1
  have hA1 := hk1.blk (by simp) hA
  have hK1 := hK0.trans hk1
  have hk1' : Keep [w.heap.size + 1] (w.alloc (.cells #[.int .i64 0, .int .i64 0, .int .i64 0, .int .i64 0, .int .i64 0, .int .i64 0, .int .i64 0, .int .u64 0] 116)) w1 := hk1.mono (by simp)
  have hs1 : w1.heap.size = w.heap.size + 1 := by rw [hh1]; simp
  have G : ∀ {w'}, Keep [w.heap.size + 1] w1 w' → Keep [w.heap.size + 1] (w.alloc (.cells #[.int .i64 0, .int .i64 0, .int .i64 0, .int .i64 0, .int .i64 0, .int .i64 0, .int .i64 0, .int .u64 0] 116)) w' := fun h => hk1'.trans h
  clear hA hh1 hk1 hK0
  (repeat (first | (refine his_q rfl rfl (fun K hK => ?_); apply Exists.intro; refine ⟨fun w' hC => ?_, ?_⟩; ((try simp [Sg.upd] at hC); go_simp <;> rfl); go_simp; refine hK _ _ ?_; clear hK K) | (refine his_s rfl (fun K hK => ?_); go_simp; refine hK _ _ ?_; clear hK K)))
  refine his_c rfl rfl (.int .i64 (n1 : Int)) (fun K hK => ?_)
  refine ⟨fun w' hC => Yields.call _ _ ?_ (by kernel_rfl) (C_n1.out w' (G hC)), ?_⟩
  · go_simp
  go_simp
  refine hK _ _ ?_
  clear hK K
  (repeat (first | (refine his_q rfl rfl (fun K hK => ?_); apply Exists.intro; refine ⟨fun w' hC => ?_, ?_⟩; ((try simp [Sg.upd] at hC); go_simp <;> rfl); go_simp; refine hK _ _ ?_; clear hK K) | (refine his_s rfl (fun K hK => ?_); go_simp; refine hK _ _ ?_; clear hK K)))
  refine his_c rfl rfl (.int .i64 (n2 : Int)) (fun K hK => ?_)
  refine ⟨fun w' hC => Yields.call _ _ ?_ (by kernel_rfl) (C_n2.out w' (G hC)), ?_⟩
  · go_simp
  go_simp
  refine hK _ _ ?_
  clear hK K
  (repeat (first | (refine his_q rfl rfl (fun K hK => ?_); apply Exists.intro; refine ⟨fun w' hC => ?_, ?_⟩; ((try simp [Sg.upd] at hC); go_simp <;> rfl); go_simp; refine hK _ _ ?_; clear hK K) | (refine his_s rfl (fun K hK => ?_); go_simp; refine hK _ _ ?_; clear hK K)))
  refine his_c rfl rfl (.int .i64 (p0 : Int)) (fun K hK => ?_)
  refine ⟨fun w' hC => Yields.call _ _ ?_ (by kernel_rfl) (C_p0.out w' (G hC)), ?_⟩
  · go_simp
  go_simp
  refine hK _ _ ?_
  clear hK K
  (repeat (first | (refine his_q rfl rfl (fun K hK => ?_); apply Exists.intro; refine ⟨fun w' hC => ?_, ?_⟩; ((try simp [Sg.upd] at hC); go_simp <;> rfl); go_simp; refine hK _ _ ?_; clear hK K) | (refine his_s rfl (fun K hK => ?_); go_simp; refine hK _ _ ?_; clear hK K)))
  refine his_c rfl rfl (.int .i64 (p1 : Int)) (fun K hK => ?_)
  refine ⟨fun w' hC => Yields.call _ _ ?_ (by kernel_rfl) (C_p1.out w' (G hC)), ?_⟩
  · go_simp
  go_simp
  refine hK _ _ ?_
  clear hK K
  (repeat (first | (refine his_q rfl rfl (fun K hK => ?_); apply Exists.intro; refine ⟨fun w' hC => ?_, ?_⟩; ((try simp [Sg.upd] at hC); go_simp <;> rfl); go_simp; refine hK _ _ ?_; clear hK K) | (refine his_s rfl (fun K hK => ?_); go_simp; refine hK _ _ ?_; clear hK K)))
  refine his_c rfl rfl (.int .i64 (p2 : Int)) (fun K hK => ?_)
  refine ⟨fun w' hC => Yields.call _ _ ?_ (by kernel_rfl) (C_p2.out w' (G hC)), ?_⟩
  · go_simp
  go_simp
  refine hK _ _ ?_
  clear hK K
  (repeat (first | (refine his_q rfl rfl (fun K hK => ?_); apply Exists.intro; refine ⟨fun w' hC => ?_, ?_⟩; ((try simp [Sg.upd] at hC); go_simp <;> rfl); go_simp; refine hK _ _ ?_; clear hK K) | (refine his_s rfl (fun K hK => ?_); go_simp; refine hK _ _ ?_; clear hK K)))
  refine his_c rfl rfl (.int .i64 (p3 : Int)) (fun K hK => ?_)
  refine ⟨fun w' hC => Yields.call _ _ ?_ (by kernel_rfl) (C_p3.out w' (G hC)), ?_⟩
  · go_simp
  go_simp
  refine hK _ _ ?_
  clear hK K
  (repeat (first | (refine his_q rfl rfl (fun K hK => ?_); apply Exists.intro; refine ⟨fun w' hC => ?_, ?_⟩; ((try simp [Sg.upd] at hC); go_simp <;> rfl); go_simp; refine hK _ _ ?_; clear hK K) | (refine his_s rfl (fun K hK => ?_); go_simp; refine hK _ _ ?_; clear hK K)))
  refine his_c rfl rfl (.int .i64 (p4 : Int)) (fun K hK => ?_)
  refine ⟨fun w' hC => Yields.call _ _ ?_ (by kernel_rfl) (C_p4.out w' (G hC)), ?_⟩
  · go_simp
  go_simp
  refine hK _ _ ?_
  clear hK K
  (repeat (first | (refine his_q rfl rfl (fun K hK => ?_); apply Exists.intro; refine ⟨fun w' hC => ?_, ?_⟩; ((try simp [Sg.upd] at hC); go_simp <;> rfl); go_simp; refine hK _ _ ?_; clear hK K) | (refine his_s rfl (fun K hK => ?_); go_simp; refine hK _ _ ?_; clear hK K)))
  refine his_c rfl rfl (.int .u64 (n3 : Int)) (fun K hK => ?_)
  refine ⟨fun w' hC => Yields.call _ _ ?_ (by kernel_rfl) (HSUB.out w' (G hC)), ?_⟩
  · go_simp
  go_simp
  refine hK _ _ ?_
  clear hK K
  (repeat (first | (refine his_q rfl rfl (fun K hK => ?_); apply Exists.intro; refine ⟨fun w' hC => ?_, ?_⟩; ((try simp [Sg.upd] at hC); go_simp <;> rfl); go_simp; refine hK _ _ ?_; clear hK K) | (refine his_s rfl (fun K hK => ?_); go_simp; refine hK _ _ ?_; clear hK K)))
  (refine his_l rfl rfl (fun K hK => ?_); go_simp)
  refine hK _ _ ((Keep.refl _ _).alloc _) ?_
  clear hK K
  have hP := heap_alloc_new w1 (.cells #[.int .i64 0, .int .i64 0, .int .i64 0, .int .i64 0, .int .i64 0, .int .i64 0, .int .i64 0, .int .u64 0] 116)
  rw [hs1] at hP
  have hA2 := (((Keep.refl [] w1).alloc (.cells #[.int .i64 0, .int .i64 0, .int .i64 0, .int .i64 0, .int .i64 0, .int .i64 0, .int .i64 0, .int .u64 0] 116))).blk (by simp) hA1
  refine his_l rfl rfl (fun K hK => ?_)
  refine loudly_store_row 116 (.tmp 4) (.tmp 28) rfl (w.heap.size + 1) #[.int .i64 (n1 : Int), .int .i64 (n2 : Int), .int .i64 (p0 : Int), .int .i64 (p1 : Int), .int .i64 (p2 : Int), .int .i64 (p3 : Int), .int .i64 (p4 : Int), .int .u64 (n3 : Int)] rfl rfl 116 _ hP (by kernel_rfl) (by rfl) (by kernel_rfl) ?_
  refine hK _ _ ((Keep.refl _ _).setRow (.inl (by simp)) _) ?_
  clear hK K
  refine his_nil ?_
  have hA3 : ((w1.alloc (.cells #[.int .i64 0, .int .i64 0, .int .i64 0, .int .i64 0, .int .i64 0, .int .i64 0, .int .i64 0, .int .u64 0] 116)).setRow (w.heap.size + 1) #[.int .i64 (n1 : Int), .int .i64 (n2 : Int), .int .i64 (p0 : Int), .int .i64 (p1 : Int), .int .i64 (p2 : Int), .int .i64 (p3 : Int), .int .i64 (p4 : Int), .int .u64 (n3 : Int)]).heap[w.heap.size]? = _ := (setRow_other _ _ _ _ (by omega)).trans hA2
  have hP3 := setRow_heap _ _ _ #[.int .i64 (n1 : Int), .int .i64 (n2 : Int), .int .i64 (p0 : Int), .int .i64 (p1 : Int), .int .i64 (p2 : Int), .int .i64 (p3 : Int), .int .i64 (p4 : Int), .int .u64 (n3 : Int)] _ _ hP
  have hK3 : Keep [] w ((w1.alloc (.cells #[.int .i64 0, .int .i64 0, .int .i64 0, .int .i64 0, .int .i64 0, .int .i64 0, .int .i64 0, .int .u64 0] 116)).setRow (w.heap.size + 1) #[.int .i64 (n1 : Int), .int .i64 (n2 : Int), .int .i64 (p0 : Int), .int .i64 (p1 : Int), .int .i64 (p2 : Int), .int .i64 (p3 : Int), .int .i64 (p4 : Int), .int .u64 (n3 : Int)]) := (hK1.alloc _).setRow (.inr (by omega)) _
  clear hP hA2 hA1 hK1 hk1' hs1 G HSUB C_n1 C_n2 C_p0 C_p1 C_p2 C_p3 C_p4
  generalize (w1.alloc (.cells #[.int .i64 0, .int .i64 0, .int .i64 0, .int .i64 0, .int .i64 0, .int .i64 0, .int .i64 0, .int .u64 0] 116)).setRow (w.heap.size + 1) #[.int .i64 (n1 : Int), .int .i64 (n2 : Int), .int .i64 (p0 : Int), .int .i64 (p1 : Int), .int .i64 (p2 : Int), .int .i64 (p3 : Int), .int .i64 (p4 : Int), .int .u64 (n3 : Int)] = w3 at hA3 hP3 hK3 ⊢
  have g0 := cell_of_row w3 _ 0 _ _ _ hP3
  have g1 := cell_of_row w3 _ 1 _ _ _ hP3
  have g2 := cell_of_row w3 _ 2 _ _ _ hP3
  have g3 := cell_of_row w3 _ 3 _ _ _ hP3
  have g4 := cell_of_row w3 _ 4 _ _ _ hP3
  have g5 := cell_of_row w3 _ 5 _ _ _ hP3
  have g6 := cell_of_row w3 _ 6 _ _ _ hP3
  have g7 := cell_of_row w3 _ 7 _ _ _ hP3
  simp at g0 g1 g2 g3 g4 g5 g6 g7
  obtain ⟨la, lb, lc, ld, le', lf, lg', lh, hFc⟩ := HF.out w3
  cases F with
  | true =>
    simp only [lay8, if_true, Bool.false_eq_true, if_false] at hFc ⊢
    go_wp2_with fail
    refine hFc.mono ?_
    rintro e w7 ⟨rfl, k7⟩
    have hA7 := k7.blk (by simp) hA3
    have hP7 := k7.blk (by simp) hP3
    have hK8 := fun o => (hK3.trans k7).alloc o
    have n7 : w.heap.size + 1 < w7.heap.size := (Array.getElem?_eq_some_iff.1 hP7).1
    have hA8 := fun o => (heap_alloc_old w7 o w.heap.size (by omega)).trans hA7
    have hP8 := fun o => (heap_alloc_old w7 o _ n7).trans hP7
    have HA8 := Lib.hid hA8
    have HP8 := Lib.hid hP8
    clear hA8 hP8 hA7 hP7 hFc g0 g1 g2 g3 g4 g5 g6 g7 hA3 hP3
    go_wp2_with (first | (refine wpList_load_row rfl 116 (.tmp 4) rfl (w.heap.size + 1) rfl 116 _ _ _ (HP8.out _) Try.underlying116 rfl (by kernel_rfl) ?_) | (refine wpList_store_row rfl 116 (.tmp 2) _ rfl w.heap.size #[.int .i64 (n1 : Int), .int .i64 (n2 : Int), .int .i64 (p0 : Int), .int .i64 (p1 : Int), .int .i64 (p2 : Int), .int .i64 (p3 : Int), .int .i64 (p4 : Int), .int .u64 (n3 : Int)] rfl rfl 116 _ (HA8.out _) (by kernel_rfl) (by rfl) (by kernel_rfl) ?_))
    exact bodyPost_ret (results_cell_tmp_row rfl _ _ w.heap.size 116 #[.int .i64 (n1 : Int), .int .i64 (n2 : Int), .int .i64 (p0 : Int), .int .i64 (p1 : Int), .int .i64 (p2 : Int), .int .i64 (p3 : Int), .int .i64 (p4 : Int), .int .u64 (n3 : Int)] _ _ rfl (setRow_heap _ _ _ _ _ _ (HA8.out _)) Try.underlying116 rfl (by kernel_rfl)) rfl ⟨rfl, (hK8 _).setRow (.inr (Nat.le_refl _)) _⟩
  | false =>
    simp only [lay8, if_true, Bool.false_eq_true, if_false] at hFc ⊢
    go_wp2_with fail
    refine hFc.mono ?_
    rintro e w7 ⟨rfl, k7⟩
    have hA7 := k7.blk (by simp) hA3
    have hP7 := k7.blk (by simp) hP3
    have hK8 := fun o => (hK3.trans k7).alloc o
    have n7 : w.heap.size + 1 < w7.heap.size := (Array.getElem?_eq_some_iff.1 hP7).1
    have hA8 := fun o => (heap_alloc_old w7 o w.heap.size (by omega)).trans hA7
    have hP8 := fun o => (heap_alloc_old w7 o _ n7).trans hP7
    have HA8 := Lib.hid hA8
    have HP8 := Lib.hid hP8
    clear hA8 hP8 hA7 hP7 hFc g0 g1 g2 g3 g4 g5 g6 g7 hA3 hP3
    go_wp2_with (first | (refine wpList_load_row rfl 116 (.tmp 4) rfl (w.heap.size + 1) rfl 116 _ _ _ (HP8.out _) Try.underlying116 rfl (by kernel_rfl) ?_) | (refine wpList_store_row rfl 116 (.tmp 2) _ rfl w.heap.size #[.int .i64 0, .int .i64 0, .int .i64 0, .int .i64 0, .int .i64 0, .int .i64 0, .int .i64 0, .int .u64 0] rfl rfl 116 _ (HA8.out _) (by kernel_rfl) (by rfl) (by kernel_rfl) ?_))
    exact bodyPost_ret (results_cell_tmp_row rfl _ _ w.heap.size 116 #[.int .i64 0, .int .i64 0, .int .i64 0, .int .i64 0, .int .i64 0, .int .i64 0, .int .i64 0, .int .u64 0] _ _ rfl (setRow_heap _ _ _ _ _ _ (HA8.out _)) Try.underlying116 rfl (by kernel_rfl)) rfl ⟨rfl, (hK8 _).setRow (.inr (Nat.le_refl _)) _⟩

theorem pack_flat (p : Pl) : p.pack = le (un p.sec) 4 ++ (le (un p.size) 4 ++ (le (un p.reg) 2 ++ (le (un p.rs) 2 ++ (le (un p.lg) 2 ++ (le (un p.dep) 2 ++ (le (un p.mem) 2 ++ le p.seed 8)))))) := by
  simp [Pl.pack, pk]
theorem of26_pack (p : Pl) (hw : p.Within) (hs : p.seed < 18446744073709551616) : of26 p.pack = p := by
  have h := pack_flat p
  generalize p.pack = L at h ⊢
  obtain ⟨sec, size, reg, rs, lg, dep, mem, seed⟩ := p
  obtain ⟨⟨b1, b2⟩, ⟨b3, b4⟩, ⟨b5, b6⟩, ⟨b7, b8⟩, ⟨b9, b10⟩, ⟨b11, b12⟩, b13, b14⟩ := hw
  simp only at *
  have s1 := un_small (n := sec) (by omega) (by omega)
  have s2 := un_small (n := size) (by omega) (by omega)
  have s3 := un_small (n := reg) (by omega) (by omega)
  have s4 := un_small (n := rs) (by omega) (by omega)
  have s5 := un_small (n := lg) (by omega) (by omega)
  have s6 := un_small (n := dep) (by omega) (by omega)
  have s7 := un_small (n := mem) (by omega) (by omega)
  have t0 : L.take 4 = le (un sec) 4 := by rw [h, List.take_left' (le_len _ _)]
  have d4 : L.drop 4 = le (un size) 4 ++ (le (un reg) 2 ++ (le (un rs) 2 ++ (le (un lg) 2 ++ (le (un dep) 2 ++ (le (un mem) 2 ++ le seed 8))))) := by rw [h, List.drop_left' (le_len _ _)]
  have d8 : L.drop (8 + 2 * 0) = le (un reg) 2 ++ (le (un rs) 2 ++ (le (un lg) 2 ++ (le (un dep) 2 ++ (le (un mem) 2 ++ le seed 8)))) := by rw [show 8 + 2 * 0 = 4 + 4 from rfl, ← List.drop_drop, d4, List.drop_left' (le_len _ _)]
  have d10 : L.drop (8 + 2 * 1) = le (un rs) 2 ++ (le (un lg) 2 ++ (le (un dep) 2 ++ (le (un mem) 2 ++ le seed 8))) := by rw [show 8 + 2 * 1 = (8 + 2 * 0) + 2 from rfl, ← List.drop_drop, d8, List.drop_left' (le_len _ _)]
  have d12 : L.drop (8 + 2 * 2) = le (un lg) 2 ++ (le (un dep) 2 ++ (le (un mem) 2 ++ le seed 8)) := by rw [show 8 + 2 * 2 = (8 + 2 * 1) + 2 from rfl, ← List.drop_drop, d10, List.drop_left' (le_len _ _)]
  have d14 : L.drop (8 + 2 * 3) = le (un dep) 2 ++ (le (un mem) 2 ++ le seed 8) := by rw [show 8 + 2 * 3 = (8 + 2 * 2) + 2 from rfl, ← List.drop_drop, d12, List.drop_left' (le_len _ _)]
  have d16 : L.drop (8 + 2 * 4) = le (un mem) 2 ++ le seed 8 := by rw [show 8 + 2 * 4 = (8 + 2 * 3) + 2 from rfl, ← List.drop_drop, d14, List.drop_left' (le_len _ _)]
  have d18 : L.drop 18 = le seed 8 := by rw [show 18 = (8 + 2 * 4) + 2 from rfl, ← List.drop_drop, d16, List.drop_left' (le_len _ _)]
  unfold of26 pn
  rw [t0, d4, d8, d10, d12, d14, d16, d18]
  simp only [List.take_left' (le_len _ _), List.take_of_length_le (Nat.le_of_eq (le_len seed 8)), leOf_le, Nat.reducePow]
  rw [s1.2.1, s2.2.1, s3.1, s4.1, s5.1, s6.1, s7.1, s1.2.2, s2.2.2, s3.2.2, s4.2.2, s5.2.2, s6.2.2, s7.2.2, Nat.mod_eq_of_lt hs]

end Go.Proofs.Ytijljdcpajjhhaa
