import Derived.Test.YtcmkcegnfddccaaPlanBounds
import Derived.Deep.CutRange
/-! What plan.Fit computes. -/
namespace Go.Proofs.Ytcmkcegnfddccaa
open Go.RowKit Sg

/-! ### Fit -/
def Pl.room (p : Pl) : Int := p.size - 19
def Pl.per (p : Pl) : Int := p.room / 12
def Pl.many (p : Pl) : Int := 2 ^ p.dep.toNat
def Pl.page (p : Pl) : Int := 2 + p.lg + p.reg * p.rs
def Pl.tree (p : Pl) : Int := 1 + (p.many + p.per - 1) / p.per + p.many
def Pl.Fits (p : Pl) : Prop := p.Within ∧ p.many ≤ p.per * p.per ∧ 3 * p.tree + 4 ≤ p.sec - p.page
instance (p : Pl) : Decidable p.Fits := by unfold Pl.Fits; infer_instance
def lay8 (a b c d e f g h : Int) : Value := .agg #[.int .i64 a, .int .i64 b, .int .i64 c, .int .i64 d, .int .i64 e, .int .i64 f, .int .i64 g, .int .i64 h]
def Pl.lay (p : Pl) : Value := lay8 2 (2 + p.lg) p.page (p.sec - p.page) p.per ((p.room - 10) / 20) p.tree (p.rs * p.room)

theorem many_of (d : Int) (h0 : 0 ≤ d) (h1 : d ≤ 8) : 1 ≤ (2 : Int) ^ d.toNat ∧ (2 : Int) ^ d.toNat ≤ 256 := by
  rcases (by omega : d = 0 ∨ d = 1 ∨ d = 2 ∨ d = 3 ∨ d = 4 ∨ d = 5 ∨ d = 6 ∨ d = 7 ∨ d = 8) with rfl | rfl | rfl | rfl | rfl | rfl | rfl | rfl | rfl <;> decide

set_option maxRecDepth 100000 in
set_option maxHeartbeats 8000000 in
theorem fit_any (p : Pl) (w : World) : Calls Try.prog 108 #[p.v] w fun e w' => e = .returned (.tuple (if p.Fits then #[p.lay, .int .i64 0] else #[lay8 0 0 0 0 0 0 0 0, .int .i64 12])) ∧ Keep [] w w' := by
  have hW := within_any p
  by_cases hw : p.Within
  · have hroom := room_any p.size
    rw [if_pos hw.1] at hroom
    rw [decide_eq_true hw] at hW
    obtain ⟨M, hM⟩ : ∃ M, p.many = M := ⟨_, rfl⟩
    have hm1 := many_of p.dep hw.2.2.2.2.2.1.1 hw.2.2.2.2.2.1.2
    have hM' : (2 : Int) ^ p.dep.toNat = M := hM
    rw [hM'] at hm1
    have HF : p.Fits ↔ (M ≤ p.per * p.per ∧ 3 * p.tree + 4 ≤ p.sec - p.page) := ⟨fun h => hM ▸ h.2, fun h => ⟨hw, hM.symm ▸ h⟩⟩
    have HL : p.lay = lay8 2 (2 + p.lg) p.page (p.sec - p.page) p.per ((p.room - 10) / 20) p.tree (p.rs * p.room) := rfl
    unfold Pl.tree Pl.page at HF HL
    rw [hM] at HF HL
    obtain ⟨L, hL⟩ : ∃ L, p.lay = L := ⟨_, rfl⟩
    obtain ⟨F, hF⟩ : ∃ F : Bool, decide p.Fits = F := ⟨_, rfl⟩
    have HF' : F = decide (M ≤ p.per * p.per ∧ 3 * (1 + (M + p.per - 1) / p.per + M) + 4 ≤ p.sec - (2 + p.lg + p.reg * p.rs)) := by rw [← hF]; exact decide_eq_decide.2 HF
    have hgoal : (if p.Fits then #[p.lay, .int .i64 0] else #[lay8 0 0 0 0 0 0 0 0, .int .i64 12]) = (if F = true then #[L, .int .i64 0] else #[lay8 0 0 0 0 0 0 0 0, .int .i64 12]) := by
      rw [← hL, ← hF]; simp
    rw [hgoal]
    rw [hL] at HL
    obtain ⟨RV, hrv⟩ : ∃ RV, (if F = true then #[L, Value.int .i64 0] else #[lay8 0 0 0 0 0 0 0 0, .int .i64 12]) = RV := ⟨_, rfl⟩
    rw [hrv]
    have HRV := Lib.hid hrv
    clear hrv
    clear hgoal HF hF hL hM
    obtain ⟨⟨b1, b2⟩, ⟨b3, b4⟩, ⟨b5, b6⟩, ⟨b7, b8⟩, ⟨b9, b10⟩, ⟨b11, b12⟩, b13, b14⟩ := id hw
    clear hw
    unfold Pl.per Pl.room at HF' HL
    obtain ⟨sec, size, reg, rs, lg, dep, mem, seed⟩ := p
    simp only at *
    obtain ⟨rm, hrm⟩ : ∃ rm, size - 19 = rm := ⟨_, rfl⟩
    rw [hrm] at HF' HL hroom
    obtain ⟨per, hper⟩ : ∃ per, rm / 12 = per := ⟨_, rfl⟩
    rw [hper] at HF' HL
    obtain ⟨m, hm⟩ : ∃ m, reg * rs = m := ⟨_, rfl⟩
    rw [hm] at HF' HL
    obtain ⟨R, hR⟩ : ∃ R, rs * rm = R := ⟨_, rfl⟩
    rw [hR] at HL
    obtain ⟨pp, hpp⟩ : ∃ pp, per * per = pp := ⟨_, rfl⟩
    rw [hpp] at HF'
    obtain ⟨q, hq⟩ : ∃ q, (M + per - 1) / per = q := ⟨_, rfl⟩
    rw [hq] at HF' HL
    obtain ⟨sl, hsl⟩ : ∃ sl, (rm - 10) / 20 = sl := ⟨_, rfl⟩
    rw [hsl] at HL
    have c1 : 77 ≤ rm ∧ rm ≤ 493 := by omega
    have c2 : 6 ≤ per ∧ per ≤ 41 := by omega
    have c3 := mul_in (a := reg) (b := rs) (A := 64) (B := 32) (by omega) b6 (by omega) b8
    rw [hm] at c3
    have c4 := mul_in (a := rs) (b := rm) (A := 32) (B := 493) (by omega) b8 (by omega) c1.2
    rw [hR] at c4
    have c5 := mul_in (a := per) (b := per) (A := 41) (B := 41) (by omega) c2.2 (by omega) c2.2
    rw [hpp] at c5
    have c6 : 0 ≤ q ∧ q ≤ 300 := by
      rw [← hq]
      refine ⟨Int.ediv_nonneg (by omega) (by omega), ?_⟩
      exact Int.le_trans (Int.ediv_le_self _ (by omega)) (by omega)
    have t1 : rm.tdiv 12 = per := by rw [Int.tdiv_eq_ediv_of_nonneg (by omega)]; exact hper
    have t2 : (rm - 10).tdiv 20 = sl := by rw [Int.tdiv_eq_ediv_of_nonneg (by omega)]; exact hsl
    have t3 : (M + per - 1).tdiv per = q := by rw [Int.tdiv_eq_ediv_of_nonneg (by omega)]; exact hq
    have c7 : 3 ≤ sl ∧ sl ≤ 24 := by omega
    obtain ⟨d1, d2⟩ := hm1
    obtain ⟨c11, c12⟩ := c1
    obtain ⟨c21, c22⟩ := c2
    obtain ⟨c31, c32⟩ := c3
    obtain ⟨c41, c42⟩ := c4
    obtain ⟨c51, c52⟩ := c5
    obtain ⟨c61, c62⟩ := c6
    obtain ⟨c71, c72⟩ := c7
    simp only [Int.reduceMul] at c32 c42 c52
    have HFF := Lib.hid HF'
    have HLL := Lib.hid HL
    have HRM := Lib.hid hrm
    clear HF' HL hrm
    simp only [Pl.v] at hW ⊢
    have c8 : per ≠ 0 := by omega
    go_enter Try.func108, Try.ntmps108
    go_wp2_with fail
    refine (hW _).mono ?_
    rintro e w2 ⟨rfl, hk⟩
    have hk2 := (((Keep.refl [] w).alloc _).alloc _).trans hk
    have hb1 := hk.blk (by simp) (heap_alloc2_old w _ _)
    have hb2 := hk.blk (by simp) (heap_alloc2_new w _ _)
    have hlt : w.heap.size + 1 < w2.heap.size := (Array.getElem?_eq_some_iff.1 hb2).1
    have g0 := cell_of_row w2 _ 0 _ _ _ hb1
    have g1 := cell_of_row w2 _ 1 _ _ _ hb1
    have g2 := cell_of_row w2 _ 2 _ _ _ hb1
    have g3 := cell_of_row w2 _ 3 _ _ _ hb1
    have g4 := cell_of_row w2 _ 4 _ _ _ hb1
    have g5 := cell_of_row w2 _ 5 _ _ _ hb1
    have g6 := cell_of_row w2 _ 6 _ _ _ hb1
    have n1 : ¬ w.heap.size = w2.heap.size := by omega
    have n2 : ¬ w2.heap.size = w.heap.size := by omega
    have n3 : w.heap.size < w2.heap.size := by omega
    clear hk hb1 hW
    simp at g0 g1 g2 g3 g4 g5 g6
    have HBA : ∀ o, (w2.alloc o).heap[w.heap.size + 1]? = _ := fun o => (heap_alloc_old w2 o hlt).trans hb2
    clear hb2
    go_wp2_with fail
    refine (hroom _).mono ?_
    rintro e w3 ⟨rfl, rfl⟩
    go_upto_region 10 with fail
    by_cases hA : pp < M
    · go_wp2_with (refine wpList_store_row rfl 188 (.tmp 2) _ rfl (w.heap.size + 1) #[.int .i64 0, .int .i64 0, .int .i64 0, .int .i64 0, .int .i64 0, .int .i64 0, .int .i64 0, .int .i64 0] rfl rfl 188 _ (HBA _) (by kernel_rfl) (by rfl) (by kernel_rfl) ?_)
      refine bodyPost_ret (results_cell_tmp_row rfl _ _ (w.heap.size + 1) 188 #[.int .i64 0, .int .i64 0, .int .i64 0, .int .i64 0, .int .i64 0, .int .i64 0, .int .i64 0, .int .i64 0] _ _ rfl (setRow_heap _ _ _ _ _ _ (HBA _)) Try.underlying188 rfl (by kernel_rfl)) rfl ⟨?_, (hk2.alloc _).setRow (.inr (by omega)) _⟩
      have hf : F = false := by rw [HFF.out]; exact decide_eq_false (fun h => by omega)
      rw [← HRV.out, hf]
      rfl
    · by_cases hB : sec - (2 + lg + m) < 3 * (1 + q + M) + 4
      · go_wp2_with (refine wpList_store_row rfl 188 (.tmp 2) _ rfl (w.heap.size + 1) #[.int .i64 0, .int .i64 0, .int .i64 0, .int .i64 0, .int .i64 0, .int .i64 0, .int .i64 0, .int .i64 0] rfl rfl 188 _ (HBA _) (by kernel_rfl) (by rfl) (by kernel_rfl) ?_)
        refine bodyPost_ret (results_cell_tmp_row rfl _ _ (w.heap.size + 1) 188 #[.int .i64 0, .int .i64 0, .int .i64 0, .int .i64 0, .int .i64 0, .int .i64 0, .int .i64 0, .int .i64 0] _ _ rfl (setRow_heap _ _ _ _ _ _ (HBA _)) Try.underlying188 rfl (by kernel_rfl)) rfl ⟨?_, (hk2.alloc _).setRow (.inr (by omega)) _⟩
        have hf : F = false := by rw [HFF.out]; exact decide_eq_false (fun h => by omega)
        rw [← HRV.out, hf]
        rfl
      · go_wp2_with (refine wpList_store_row rfl 188 (.tmp 2) _ rfl (w.heap.size + 1) #[.int .i64 2, .int .i64 (2 + lg), .int .i64 (2 + lg + m), .int .i64 (sec - (2 + lg + m)), .int .i64 per, .int .i64 sl, .int .i64 (1 + q + M), .int .i64 R] rfl rfl 188 _ (HBA _) (by kernel_rfl) (by rfl) (by kernel_rfl) ?_)
        refine bodyPost_ret (results_cell_tmp_row rfl _ _ (w.heap.size + 1) 188 #[.int .i64 2, .int .i64 (2 + lg), .int .i64 (2 + lg + m), .int .i64 (sec - (2 + lg + m)), .int .i64 per, .int .i64 sl, .int .i64 (1 + q + M), .int .i64 R] _ _ rfl (setRow_heap _ _ _ _ _ _ (HBA _)) Try.underlying188 rfl (by kernel_rfl)) rfl ⟨?_, (hk2.alloc _).setRow (.inr (by omega)) _⟩
        have hf : F = true := by rw [HFF.out]; exact decide_eq_true ⟨by omega, by omega⟩
        rw [← HRV.out, hf, HLL.out]
        rfl
  · have hnf : ¬ p.Fits := fun h => hw h.1
    rw [if_neg hnf]
    rw [decide_eq_false hw] at hW
    clear hnf hw
    obtain ⟨sec, size, reg, rs, lg, dep, mem, seed⟩ := p
    simp only [Pl.v] at hW ⊢
    go_enter Try.func108, Try.ntmps108
    go_wp2_with fail
    refine (hW _).mono ?_
    rintro e w2 ⟨rfl, hk⟩
    have hk2 := (((Keep.refl [] w).alloc _).alloc _).trans hk
    have hb2 := hk.blk (by simp) (heap_alloc2_new w _ _)
    clear hk hW
    go_wp2_with (refine wpList_store_row rfl 188 (.tmp 2) _ rfl (w.heap.size + 1) #[.int .i64 0, .int .i64 0, .int .i64 0, .int .i64 0, .int .i64 0, .int .i64 0, .int .i64 0, .int .i64 0] rfl rfl 188 _ hb2 (by kernel_rfl) (by rfl) (by kernel_rfl) ?_)
    refine bodyPost_ret (results_cell_tmp_row rfl _ _ (w.heap.size + 1) 188 #[.int .i64 0, .int .i64 0, .int .i64 0, .int .i64 0, .int .i64 0, .int .i64 0, .int .i64 0, .int .i64 0] _ _ rfl (setRow_heap _ _ _ _ _ _ hb2) Try.underlying188 rfl (by kernel_rfl)) rfl ⟨rfl, hk2.setRow (.inr (by omega)) _⟩

end Go.Proofs.Ytcmkcegnfddccaa
