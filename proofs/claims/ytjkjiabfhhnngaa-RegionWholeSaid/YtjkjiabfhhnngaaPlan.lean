import Derived.Test.YtjkjiabfhhnngaaProg
import Derived.Test.YtjkjiabfhhnngaaBase
import Derived.Test.YtjkjiabfhhnngaaNum
import Derived.Lib.Hide
import Derived.Test.YtjkjiabfhhnngaaLeafRoom
import Derived.Deep.CutRange
/-! Plans and their bounds. -/
namespace Go.Proofs.Ytjkjiabfhhnngaa
open Go.RowKit Sg

structure Pl where
  (sec size reg rs lg dep mem : Int)
  seed : Nat

def Pl.v (p : Pl) : Value := .agg #[.int .i64 p.sec, .int .i64 p.size, .int .i64 p.reg, .int .i64 p.rs, .int .i64 p.lg, .int .i64 p.dep, .int .i64 p.mem, .int .u64 (p.seed : Int)]
def Pl.In (p : Pl) : Prop := (-9223372036854775808 ≤ p.sec ∧ p.sec ≤ 9223372036854775807) ∧ (-9223372036854775808 ≤ p.size ∧ p.size ≤ 9223372036854775807) ∧ (-9223372036854775808 ≤ p.reg ∧ p.reg ≤ 9223372036854775807) ∧ (-9223372036854775808 ≤ p.rs ∧ p.rs ≤ 9223372036854775807) ∧ (-9223372036854775808 ≤ p.lg ∧ p.lg ≤ 9223372036854775807) ∧ (-9223372036854775808 ≤ p.dep ∧ p.dep ≤ 9223372036854775807) ∧ (-9223372036854775808 ≤ p.mem ∧ p.mem ≤ 9223372036854775807) ∧ p.seed < 18446744073709551616
def Pl.Within (p : Pl) : Prop := (96 ≤ p.size ∧ p.size ≤ 512) ∧ (1 ≤ p.sec ∧ p.sec ≤ 16384) ∧ (3 ≤ p.reg ∧ p.reg ≤ 64) ∧ (1 ≤ p.rs ∧ p.rs ≤ 32) ∧ (4 ≤ p.lg ∧ p.lg ≤ 256) ∧ (0 ≤ p.dep ∧ p.dep ≤ 8) ∧ (8 ≤ p.mem ∧ p.mem ≤ 256)
instance (p : Pl) : Decidable p.Within := by unfold Pl.Within; infer_instance

def Pl.bounds (p : Pl) : Array Value := #[.int .i64 p.size, .int .i64 96, .int .i64 512, .int .i64 p.sec, .int .i64 1, .int .i64 16384, .int .i64 p.reg, .int .i64 3, .int .i64 64, .int .i64 p.rs, .int .i64 1, .int .i64 32, .int .i64 p.lg, .int .i64 4, .int .i64 256, .int .i64 p.dep, .int .i64 0, .int .i64 8, .int .i64 p.mem, .int .i64 8, .int .i64 256]

set_option maxRecDepth 100000 in
set_option maxHeartbeats 400000 in
theorem bounds_any (p : Pl) (w : World) : Calls Try.prog 160 #[p.v] w fun e w' => e = .returned (.agg p.bounds) ∧ Keep [] w w' := by
  obtain ⟨sec, size, reg, rs, lg, dep, mem, seed⟩ := p
  obtain ⟨B, hB⟩ : ∃ B, Pl.bounds ⟨sec, size, reg, rs, lg, dep, mem, seed⟩ = B := ⟨_, rfl⟩
  rw [hB]
  simp only [Pl.v]
  obtain ⟨Z, hZ⟩ : ∃ Z : Array Value, Z = #[.int .i64 0, .int .i64 0, .int .i64 0, .int .i64 0, .int .i64 0, .int .i64 0, .int .i64 0, .int .i64 0, .int .i64 0, .int .i64 0, .int .i64 0, .int .i64 0, .int .i64 0, .int .i64 0, .int .i64 0, .int .i64 0, .int .i64 0, .int .i64 0, .int .i64 0, .int .i64 0, .int .i64 0] := ⟨_, rfl⟩
  have hz : ∀ w, Sem.run Try.prog (zeroValue 272) w = .ok (.agg Z) w := fun _ => by rw [hZ]; kernel_rfl
  have hzs : Z.size = 21 := by rw [hZ]; rfl
  have hbs : B.size = 21 := by rw [← hB]; rfl
  have hba : B.all (·.oneCell') = true := by rw [← hB]; kernel_rfl
  have HZ := Lib.hid hZ
  clear hZ
  go_enter Try.func160, Try.ntmps160
  go_wp2_with (first | (refine wpList_build_to rfl 272 _ rfl B (by rw [← hB]; kernel_rfl) ?_) | (refine wpList_store_row rfl 272 _ _ rfl (w.heap.size + 1) B rfl rfl 272 Z (heap_alloc2_new _ _ _) (by rw [hbs]; kernel_rfl) (by rw [hzs, hbs]) hba ?_))
  exact bodyPost_ret (results_cell_row rfl _ _ (w.heap.size + 1) 272 B _ _ rfl (setRow_heap _ _ _ _ _ _ (heap_alloc2_new _ _ _)) Try.underlying272 rfl (by rw [hbs]; kernel_rfl)) rfl ⟨rfl, (((Keep.refl [] w).alloc _).alloc _).setRow (.inr (by omega)) _⟩

def Pl.row (p : Pl) (k : Nat) : Int × Int × Int := [(p.size, (96 : Int), (512 : Int)), (p.sec, 1, 16384), (p.reg, 3, 64), (p.rs, 1, 32), (p.lg, 4, 256), (p.dep, 0, 8), (p.mem, 8, 256)].getD k (0, 0, 0)
theorem row_index (p : Pl) (k : Nat) (hk : k < 7) : ∀ w, Sem.run Try.prog (Instr.index 272 (.agg p.bounds) (.int .i64 (k : Int))) w = .ok (.agg #[.int .i64 (p.row k).1, .int .i64 (p.row k).2.1, .int .i64 (p.row k).2.2]) w := by
  rcases (by omega : k = 0 ∨ k = 1 ∨ k = 2 ∨ k = 3 ∨ k = 4 ∨ k = 5 ∨ k = 6) with rfl | rfl | rfl | rfl | rfl | rfl | rfl <;> intro w <;> kernel_rfl
theorem within_iff (p : Pl) : p.Within ↔ ∀ j, j < 7 → (p.row j).2.1 ≤ (p.row j).1 ∧ (p.row j).1 ≤ (p.row j).2.2 := by
  constructor
  · intro h j hj
    obtain ⟨h0, h1, h2, h3, h4, h5, h6⟩ := h
    rcases (by omega : j = 0 ∨ j = 1 ∨ j = 2 ∨ j = 3 ∨ j = 4 ∨ j = 5 ∨ j = 6) with rfl | rfl | rfl | rfl | rfl | rfl | rfl
    · exact h0
    · exact h1
    · exact h2
    · exact h3
    · exact h4
    · exact h5
    · exact h6
  · intro h
    exact ⟨h 0 (by omega), h 1 (by omega), h 2 (by omega), h 3 (by omega), h 4 (by omega), h 5 (by omega), h 6 (by omega)⟩

set_option maxRecDepth 100000 in
set_option maxHeartbeats 1000000 in
theorem within_any (p : Pl) (w : World) : Calls Try.prog 145 #[p.v] w fun e w' => e = .returned (.bool (decide p.Within)) ∧ Keep [] w w' := by
  have hB := bounds_any p
  have hI := row_index p
  have hW := within_iff p
  obtain ⟨r, hr⟩ : ∃ r, p.row = r := ⟨_, rfl⟩
  obtain ⟨bs, hbs⟩ : ∃ bs, p.bounds = bs := ⟨_, rfl⟩
  rw [hr] at hW hI
  rw [hbs] at hB hI
  obtain ⟨d, hd⟩ : ∃ d, decide p.Within = d := ⟨_, rfl⟩
  have hd2 : d = true ↔ (∀ j, j < 7 → (r j).2.1 ≤ (r j).1 ∧ (r j).1 ≤ (r j).2.2) := by
    rw [← hd, decide_eq_true_eq]; exact hW
  rw [hd]
  clear hr hbs hW hd
  obtain ⟨sec, size, reg, rs, lg, dep, mem, seed⟩ := p
  have HD := Lib.hid hd2
  have HI := Lib.hid hI
  clear hd2 hI
  simp only [Pl.v] at hB ⊢
  go_enter Try.func145, Try.ntmps145
  go_wp2_with fail
  go_step3
  go_wp2_with fail
  go_step3
  go_wp2_with fail
  refine (hB _).mono ?_
  clear hB
  rintro e w2 ⟨rfl, hk⟩
  have hk2 := ((Keep.refl [] w).alloc _).trans hk
  clear hk
  go_wp2
  go_loopw [3, 8] (fun g i wr => Keep [] w wr ∧ g = .bool true ∧ ∃ k : Nat, k ≤ 7 ∧ i = .int .i64 k ∧ Hid (∀ j, j < k → (r j).2.1 ≤ (r j).1 ∧ (r j).1 ≤ (r j).2.2)) (fun _ i _ => 7 - (intOf i).toNat)
  case atStart => exact ⟨hk2, rfl, 0, by omega, rfl, by intro j hj; omega⟩
  case round =>
    obtain ⟨hkeep, rfl, k, hk7, rfl, hR⟩ := hrel
    by_cases hlt : k < 7
    · have hi := HI.out k hlt
      obtain ⟨x, hx⟩ : ∃ x, r k = x := ⟨_, rfl⟩
      rw [hx] at hi
      obtain ⟨n, lo, up⟩ := x
      have HX := Lib.hid hx
      clear hx
      simp only at hi
      by_cases h1 : n < lo
      · have hdf : Hid (d = false) := by
          cases d with
          | false => rfl
          | true =>
            have := HD.out.1 rfl k hlt
            rw [HX.out] at this
            simp only at this
            omega
        go_wp2
        try rw [Exit.noGoto_ret]
        go_ret
        exact ⟨by rw [hdf.out]; rfl, hkeep.alloc _⟩
      · by_cases h2 : up < n
        · have hdf : Hid (d = false) := by
            cases d with
            | false => rfl
            | true =>
              have := HD.out.1 rfl k hlt
              rw [HX.out] at this
              simp only at this
              omega
          go_wp2
          try rw [Exit.noGoto_ret]
          go_ret
          exact ⟨by rw [hdf.out]; rfl, hkeep.alloc _⟩
        · go_wp2
          go_roundw
          case rel =>
            refine ⟨hkeep.alloc _, rfl, k + 1, by omega, by go_num, fun j hj => ?_⟩
            rcases (by omega : j < k ∨ j = k) with h | rfl
            · exact hR.out j h
            · rw [HX.out]; exact ⟨by simpa using h1, by simpa using h2⟩
          case measure => simp [intOf]; omega
    · obtain rfl : k = 7 := by omega
      have hdt : Hid (d = true) := HD.out.2 hR.out
      go_wp2
      try rw [Exit.noGoto_ret]
      go_ret
      exact ⟨by rw [hdt.out]; rfl, hkeep⟩

end Go.Proofs.Ytjkjiabfhhnngaa

/-! What plan.Fit computes. -/
namespace Go.Proofs.Ytjkjiabfhhnngaa
open Go.RowKit Sg

/-! ### Fit -/
def Pl.room (p : Pl) : Int := p.size - 19
def Pl.per (p : Pl) : Int := p.room / 12
def Pl.many (p : Pl) : Int := 2 ^ p.dep.toNat
def Pl.page (p : Pl) : Int := 2 + p.lg + p.reg * p.rs
def Pl.tree (p : Pl) : Int := 1 + (p.many + p.per - 1) / p.per + p.many
def Pl.Fits (p : Pl) : Prop := p.Within ∧ p.many ≤ p.per * p.per ∧ 3 * p.tree + 4 ≤ p.sec - p.page
instance (p : Pl) : Decidable p.Fits := by unfold Pl.Fits; infer_instance
def lay8 (a b c d e f g h : Int) : Value := .agg #[.int .i64 a, .int .i64 b, .int .i64 c, .int .i64 d, .int .i64 e, .int .i64 f, .int .i64 g, .int .i64 h]
def Pl.lay (p : Pl) : Value := lay8 2 (2 + p.lg) p.page (p.sec - p.page) p.per ((p.room - 10) / 20) p.tree (p.rs * p.room)

theorem many_of (d : Int) (h0 : 0 ≤ d) (h1 : d ≤ 8) : 1 ≤ (2 : Int) ^ d.toNat ∧ (2 : Int) ^ d.toNat ≤ 256 := by
  rcases (by omega : d = 0 ∨ d = 1 ∨ d = 2 ∨ d = 3 ∨ d = 4 ∨ d = 5 ∨ d = 6 ∨ d = 7 ∨ d = 8) with rfl | rfl | rfl | rfl | rfl | rfl | rfl | rfl | rfl <;> decide

set_option maxRecDepth 100000 in
set_option maxHeartbeats 8000000 in
theorem fit_any (p : Pl) (w : World) : Calls Try.prog 107 #[p.v] w fun e w' => e = .returned (.tuple (if p.Fits then #[p.lay, .int .i64 0] else #[lay8 0 0 0 0 0 0 0 0, .int .i64 12])) ∧ Keep [] w w' := by
  have hW := within_any p
  by_cases hw : p.Within
  · have hroom := room_any p.size
    rw [if_pos hw.1] at hroom
    rw [decide_eq_true hw] at hW
    obtain ⟨M, hM⟩ : ∃ M, p.many = M := ⟨_, rfl⟩
    have hm1 := many_of p.dep hw.2.2.2.2.2.1.1 hw.2.2.2.2.2.1.2
    have hM' : (2 : Int) ^ p.dep.toNat = M := hM
    rw [hM'] at hm1
    have HF : p.Fits ↔ (M ≤ p.per * p.per ∧ 3 * p.tree + 4 ≤ p.sec - p.page) := ⟨fun h => hM ▸ h.2, fun h => ⟨hw, hM.symm ▸ h⟩⟩
    have HL : p.lay = lay8 2 (2 + p.lg) p.page (p.sec - p.page) p.per ((p.room - 10) / 20) p.tree (p.rs * p.room) := rfl
    unfold Pl.tree Pl.page at HF HL
    rw [hM] at HF HL
    obtain ⟨L, hL⟩ : ∃ L, p.lay = L := ⟨_, rfl⟩
    obtain ⟨F, hF⟩ : ∃ F : Bool, decide p.Fits = F := ⟨_, rfl⟩
    have HF' : F = decide (M ≤ p.per * p.per ∧ 3 * (1 + (M + p.per - 1) / p.per + M) + 4 ≤ p.sec - (2 + p.lg + p.reg * p.rs)) := by rw [← hF]; exact decide_eq_decide.2 HF
    have hgoal : (if p.Fits then #[p.lay, .int .i64 0] else #[lay8 0 0 0 0 0 0 0 0, .int .i64 12]) = (if F = true then #[L, .int .i64 0] else #[lay8 0 0 0 0 0 0 0 0, .int .i64 12]) := by
      rw [← hL, ← hF]; simp
    rw [hgoal]
    rw [hL] at HL
    obtain ⟨RV, hrv⟩ : ∃ RV, (if F = true then #[L, Value.int .i64 0] else #[lay8 0 0 0 0 0 0 0 0, .int .i64 12]) = RV := ⟨_, rfl⟩
    rw [hrv]
    have HRV := Lib.hid hrv
    clear hrv
    clear hgoal HF hF hL hM
    obtain ⟨⟨b1, b2⟩, ⟨b3, b4⟩, ⟨b5, b6⟩, ⟨b7, b8⟩, ⟨b9, b10⟩, ⟨b11, b12⟩, b13, b14⟩ := id hw
    clear hw
    unfold Pl.per Pl.room at HF' HL
    obtain ⟨sec, size, reg, rs, lg, dep, mem, seed⟩ := p
    simp only at *
    obtain ⟨rm, hrm⟩ : ∃ rm, size - 19 = rm := ⟨_, rfl⟩
    rw [hrm] at HF' HL hroom
    obtain ⟨per, hper⟩ : ∃ per, rm / 12 = per := ⟨_, rfl⟩
    rw [hper] at HF' HL
    obtain ⟨m, hm⟩ : ∃ m, reg * rs = m := ⟨_, rfl⟩
    rw [hm] at HF' HL
    obtain ⟨R, hR⟩ : ∃ R, rs * rm = R := ⟨_, rfl⟩
    rw [hR] at HL
    obtain ⟨pp, hpp⟩ : ∃ pp, per * per = pp := ⟨_, rfl⟩
    rw [hpp] at HF'
    obtain ⟨q, hq⟩ : ∃ q, (M + per - 1) / per = q := ⟨_, rfl⟩
    rw [hq] at HF' HL
    obtain ⟨sl, hsl⟩ : ∃ sl, (rm - 10) / 20 = sl := ⟨_, rfl⟩
    rw [hsl] at HL
    have c1 : 77 ≤ rm ∧ rm ≤ 493 := by omega
    have c2 : 6 ≤ per ∧ per ≤ 41 := by omega
    have c3 := mul_in (a := reg) (b := rs) (A := 64) (B := 32) (by omega) b6 (by omega) b8
    rw [hm] at c3
    have c4 := mul_in (a := rs) (b := rm) (A := 32) (B := 493) (by omega) b8 (by omega) c1.2
    rw [hR] at c4
    have c5 := mul_in (a := per) (b := per) (A := 41) (B := 41) (by omega) c2.2 (by omega) c2.2
    rw [hpp] at c5
    have c6 : 0 ≤ q ∧ q ≤ 300 := by
      rw [← hq]
      refine ⟨Int.ediv_nonneg (by omega) (by omega), ?_⟩
      exact Int.le_trans (Int.ediv_le_self _ (by omega)) (by omega)
    have t1 : rm.tdiv 12 = per := by rw [Int.tdiv_eq_ediv_of_nonneg (by omega)]; exact hper
    have t2 : (rm - 10).tdiv 20 = sl := by rw [Int.tdiv_eq_ediv_of_nonneg (by omega)]; exact hsl
    have t3 : (M + per - 1).tdiv per = q := by rw [Int.tdiv_eq_ediv_of_nonneg (by omega)]; exact hq
    have c7 : 3 ≤ sl ∧ sl ≤ 24 := by omega
    obtain ⟨d1, d2⟩ := hm1
    obtain ⟨c11, c12⟩ := c1
    obtain ⟨c21, c22⟩ := c2
    obtain ⟨c31, c32⟩ := c3
    obtain ⟨c41, c42⟩ := c4
    obtain ⟨c51, c52⟩ := c5
    obtain ⟨c61, c62⟩ := c6
    obtain ⟨c71, c72⟩ := c7
    simp only [Int.reduceMul] at c32 c42 c52
    have HFF := Lib.hid HF'
    have HLL := Lib.hid HL
    have HRM := Lib.hid hrm
    clear HF' HL hrm
    simp only [Pl.v] at hW ⊢
    have c8 : per ≠ 0 := by omega
    go_enter Try.func107, Try.ntmps107
    go_wp2_with fail
    refine (hW _).mono ?_
    rintro e w2 ⟨rfl, hk⟩
    have hk2 := (((Keep.refl [] w).alloc _).alloc _).trans hk
    have hb1 := hk.blk (by simp) (heap_alloc2_old w _ _)
    have hb2 := hk.blk (by simp) (heap_alloc2_new w _ _)
    have hlt : w.heap.size + 1 < w2.heap.size := (Array.getElem?_eq_some_iff.1 hb2).1
    have g0 := cell_of_row w2 _ 0 _ _ _ hb1
    have g1 := cell_of_row w2 _ 1 _ _ _ hb1
    have g2 := cell_of_row w2 _ 2 _ _ _ hb1
    have g3 := cell_of_row w2 _ 3 _ _ _ hb1
    have g4 := cell_of_row w2 _ 4 _ _ _ hb1
    have g5 := cell_of_row w2 _ 5 _ _ _ hb1
    have g6 := cell_of_row w2 _ 6 _ _ _ hb1
    have n1 : ¬ w.heap.size = w2.heap.size := by omega
    have n2 : ¬ w2.heap.size = w.heap.size := by omega
    have n3 : w.heap.size < w2.heap.size := by omega
    clear hk hb1 hW
    simp at g0 g1 g2 g3 g4 g5 g6
    have HBA : ∀ o, (w2.alloc o).heap[w.heap.size + 1]? = _ := fun o => (heap_alloc_old w2 o hlt).trans hb2
    clear hb2
    go_wp2_with fail
    refine (hroom _).mono ?_
    rintro e w3 ⟨rfl, rfl⟩
    go_upto_region 10 with fail
    by_cases hA : pp < M
    · go_wp2_with (refine wpList_store_row rfl 203 (.tmp 2) _ rfl (w.heap.size + 1) #[.int .i64 0, .int .i64 0, .int .i64 0, .int .i64 0, .int .i64 0, .int .i64 0, .int .i64 0, .int .i64 0] rfl rfl 203 _ (HBA _) (by kernel_rfl) (by rfl) (by kernel_rfl) ?_)
      refine bodyPost_ret (results_cell_tmp_row rfl _ _ (w.heap.size + 1) 203 #[.int .i64 0, .int .i64 0, .int .i64 0, .int .i64 0, .int .i64 0, .int .i64 0, .int .i64 0, .int .i64 0] _ _ rfl (setRow_heap _ _ _ _ _ _ (HBA _)) Try.underlying203 rfl (by kernel_rfl)) rfl ⟨?_, (hk2.alloc _).setRow (.inr (by omega)) _⟩
      have hf : F = false := by rw [HFF.out]; exact decide_eq_false (fun h => by omega)
      rw [← HRV.out, hf]
      rfl
    · by_cases hB : sec - (2 + lg + m) < 3 * (1 + q + M) + 4
      · go_wp2_with (refine wpList_store_row rfl 203 (.tmp 2) _ rfl (w.heap.size + 1) #[.int .i64 0, .int .i64 0, .int .i64 0, .int .i64 0, .int .i64 0, .int .i64 0, .int .i64 0, .int .i64 0] rfl rfl 203 _ (HBA _) (by kernel_rfl) (by rfl) (by kernel_rfl) ?_)
        refine bodyPost_ret (results_cell_tmp_row rfl _ _ (w.heap.size + 1) 203 #[.int .i64 0, .int .i64 0, .int .i64 0, .int .i64 0, .int .i64 0, .int .i64 0, .int .i64 0, .int .i64 0] _ _ rfl (setRow_heap _ _ _ _ _ _ (HBA _)) Try.underlying203 rfl (by kernel_rfl)) rfl ⟨?_, (hk2.alloc _).setRow (.inr (by omega)) _⟩
        have hf : F = false := by rw [HFF.out]; exact decide_eq_false (fun h => by omega)
        rw [← HRV.out, hf]
        rfl
      · go_wp2_with (refine wpList_store_row rfl 203 (.tmp 2) _ rfl (w.heap.size + 1) #[.int .i64 2, .int .i64 (2 + lg), .int .i64 (2 + lg + m), .int .i64 (sec - (2 + lg + m)), .int .i64 per, .int .i64 sl, .int .i64 (1 + q + M), .int .i64 R] rfl rfl 203 _ (HBA _) (by kernel_rfl) (by rfl) (by kernel_rfl) ?_)
        refine bodyPost_ret (results_cell_tmp_row rfl _ _ (w.heap.size + 1) 203 #[.int .i64 2, .int .i64 (2 + lg), .int .i64 (2 + lg + m), .int .i64 (sec - (2 + lg + m)), .int .i64 per, .int .i64 sl, .int .i64 (1 + q + M), .int .i64 R] _ _ rfl (setRow_heap _ _ _ _ _ _ (HBA _)) Try.underlying203 rfl (by kernel_rfl)) rfl ⟨?_, (hk2.alloc _).setRow (.inr (by omega)) _⟩
        have hf : F = true := by rw [HFF.out]; exact decide_eq_true ⟨by omega, by omega⟩
        rw [← HRV.out, hf, HLL.out]
        rfl
  · have hnf : ¬ p.Fits := fun h => hw h.1
    rw [if_neg hnf]
    rw [decide_eq_false hw] at hW
    clear hnf hw
    obtain ⟨sec, size, reg, rs, lg, dep, mem, seed⟩ := p
    simp only [Pl.v] at hW ⊢
    go_enter Try.func107, Try.ntmps107
    go_wp2_with fail
    refine (hW _).mono ?_
    rintro e w2 ⟨rfl, hk⟩
    have hk2 := (((Keep.refl [] w).alloc _).alloc _).trans hk
    have hb2 := hk.blk (by simp) (heap_alloc2_new w _ _)
    clear hk hW
    go_wp2_with (refine wpList_store_row rfl 203 (.tmp 2) _ rfl (w.heap.size + 1) #[.int .i64 0, .int .i64 0, .int .i64 0, .int .i64 0, .int .i64 0, .int .i64 0, .int .i64 0, .int .i64 0] rfl rfl 203 _ hb2 (by kernel_rfl) (by rfl) (by kernel_rfl) ?_)
    refine bodyPost_ret (results_cell_tmp_row rfl _ _ (w.heap.size + 1) 203 #[.int .i64 0, .int .i64 0, .int .i64 0, .int .i64 0, .int .i64 0, .int .i64 0, .int .i64 0, .int .i64 0] _ _ rfl (setRow_heap _ _ _ _ _ _ hb2) Try.underlying203 rfl (by kernel_rfl)) rfl ⟨rfl, hk2.setRow (.inr (by omega)) _⟩

end Go.Proofs.Ytjkjiabfhhnngaa
