import Derived.Test.YtijljdcpajjhhaaPlan
/-! What the document's Fit computes. -/
namespace Go.Proofs.Ytijljdcpajjhhaa
open Go.RowKit Sg

theorem ceil_of {M per k : Int} (hp : 0 < per) (h1 : M ≤ k * per) (h2 : k * per < M + per) : (M + per - 1) / per = k := by
  apply Int.le_antisymm
  · have : (M + per - 1) / per < k + 1 := (Int.ediv_lt_iff_lt_mul hp).2 (by rw [Int.add_mul]; omega)
    omega
  · exact (Int.le_ediv_iff_mul_le hp).2 (by omega)
theorem heap_alloc3_new (w : World) (A B C : Obj) : (((w.alloc A).alloc B).alloc C).heap[w.heap.size + 2]? = some C := by
  have h := heap_alloc_new ((w.alloc A).alloc B) C
  simpa using h
theorem pow_succ2 (k : Nat) : (2 : Int) ^ k * 2 = 2 ^ (k + 1) := by rw [Int.pow_succ]

set_option maxRecDepth 100000 in
set_option maxHeartbeats 1000000 in
set_option maxHeartbeats 8000000 in
theorem refFit_yes (p : Pl) (hw : p.Within) (w : World) : Calls Try.prog 111 #[p.v] w fun e w' => e = .returned (.tuple (if p.Fits then #[p.lay, .int .i64 0] else #[lay8 0 0 0 0 0 0 0 0, .int .i64 12])) ∧ Keep [] w w' := by
  obtain ⟨M, hM⟩ : ∃ M, p.many = M := ⟨_, rfl⟩
  have hm1 := many_of p.dep hw.2.2.2.2.2.1.1 hw.2.2.2.2.2.1.2
  have hM' : (2 : Int) ^ p.dep.toNat = M := hM
  rw [hM'] at hm1
  have HF : p.Fits ↔ (M ≤ p.per * p.per ∧ 3 * p.tree + 4 ≤ p.sec - p.page) := ⟨fun h => hM ▸ h.2, fun h => ⟨hw, hM.symm ▸ h⟩⟩
  have HL : p.lay = lay8 2 (2 + p.lg) p.page (p.sec - p.page) p.per ((p.room - 10) / 20) p.tree (p.rs * p.room) := rfl
  unfold Pl.tree Pl.page at HF HL
  rw [hM] at HF HL
  obtain ⟨L, hL⟩ : ∃ L, p.lay = L := ⟨_, rfl⟩
  obtain ⟨F, hF⟩ : ∃ F : Bool, decide p.Fits = F := ⟨_, rfl⟩
  have HF' : F = decide (M ≤ p.per * p.per ∧ 3 * (1 + (M + p.per - 1) / p.per + M) + 4 ≤ p.sec - (2 + p.lg + p.reg * p.rs)) := by rw [← hF]; exact decide_eq_decide.2 HF
  have hgoal : (if p.Fits then #[p.lay, .int .i64 0] else #[lay8 0 0 0 0 0 0 0 0, .int .i64 12]) = (if F = true then #[L, .int .i64 0] else #[lay8 0 0 0 0 0 0 0 0, .int .i64 12]) := by
    rw [← hL, ← hF]; simp
  rw [hgoal]
  rw [hL] at HL
  obtain ⟨RV, hrv⟩ : ∃ RV, (if F = true then #[L, Value.int .i64 0] else #[lay8 0 0 0 0 0 0 0 0, .int .i64 12]) = RV := ⟨_, rfl⟩
  rw [hrv]
  have HRV := Lib.hid hrv
  clear hrv
  clear hgoal HF hF hL hM
  obtain ⟨⟨b1, b2⟩, ⟨b3, b4⟩, ⟨b5, b6⟩, ⟨b7, b8⟩, ⟨b9, b10⟩, ⟨b11, b12⟩, b13, b14⟩ := id hw
  clear hw
  unfold Pl.per Pl.room at HF' HL
  obtain ⟨sec, size, reg, rs, lg, dep, mem, seed⟩ := p
  simp only at *
  obtain ⟨rm, hrm⟩ : ∃ rm, size - 19 = rm := ⟨_, rfl⟩
  rw [hrm] at HF' HL
  obtain ⟨per, hper⟩ : ∃ per, rm / 12 = per := ⟨_, rfl⟩
  rw [hper] at HF' HL
  obtain ⟨m, hm⟩ : ∃ m, reg * rs = m := ⟨_, rfl⟩
  rw [hm] at HF' HL
  obtain ⟨R, hR⟩ : ∃ R, rs * rm = R := ⟨_, rfl⟩
  rw [hR] at HL
  obtain ⟨pp, hpp⟩ : ∃ pp, per * per = pp := ⟨_, rfl⟩
  rw [hpp] at HF'
  obtain ⟨q, hq⟩ : ∃ q, (M + per - 1) / per = q := ⟨_, rfl⟩
  rw [hq] at HF' HL
  obtain ⟨sl, hsl⟩ : ∃ sl, (rm - 10) / 20 = sl := ⟨_, rfl⟩
  rw [hsl] at HL
  have c1 : 77 ≤ rm ∧ rm ≤ 493 := by omega
  have c2 : 6 ≤ per ∧ per ≤ 41 := by omega
  have c3 := mul_in (a := reg) (b := rs) (A := 64) (B := 32) (by omega) b6 (by omega) b8
  rw [hm] at c3
  have c4 := mul_in (a := rs) (b := rm) (A := 32) (B := 493) (by omega) b8 (by omega) c1.2
  rw [hR] at c4
  have c5 := mul_in (a := per) (b := per) (A := 41) (B := 41) (by omega) c2.2 (by omega) c2.2
  rw [hpp] at c5
  have t1 : rm.tdiv 12 = per := by rw [Int.tdiv_eq_ediv_of_nonneg (by omega)]; exact hper
  have t2 : (rm - 10).tdiv 20 = sl := by rw [Int.tdiv_eq_ediv_of_nonneg (by omega)]; exact hsl
  have c7 : 3 ≤ sl ∧ sl ≤ 24 := by omega
  obtain ⟨d1, d2⟩ := hm1
  obtain ⟨c11, c12⟩ := c1
  obtain ⟨c21, c22⟩ := c2
  obtain ⟨c31, c32⟩ := c3
  obtain ⟨c41, c42⟩ := c4
  obtain ⟨c51, c52⟩ := c5
  obtain ⟨c71, c72⟩ := c7
  simp only [Int.reduceMul] at c32 c42 c52
  have HFF := Lib.hid HF'
  have HLL := Lib.hid HL
  have HQ := Lib.hid hq
  have HMM := Lib.hid hM'
  clear HF' HL hq hM'
  obtain ⟨D, rfl⟩ : ∃ D : Nat, dep = (D : Int) := ⟨dep.toNat, by omega⟩
  simp only [Pl.v]
  have c8 : per ≠ 0 := by omega
  have n0 : ¬ size < 96 := by omega
  have n1 : ¬ 512 < size := by omega
  have n2 : ¬ sec < 1 := by omega
  have n3 : ¬ 16384 < sec := by omega
  have n4 : ¬ reg < 3 := by omega
  have n5 : ¬ 64 < reg := by omega
  have n6 : ¬ rs < 1 := by omega
  have n7 : ¬ 32 < rs := by omega
  have n8 : ¬ lg < 4 := by omega
  have n9 : ¬ 256 < lg := by omega
  have n10 : ¬ (D : Int) < 0 := by omega
  have n11 : ¬ 8 < (D : Int) := by omega
  have n12 : ¬ mem < 8 := by omega
  have n13 : ¬ 256 < mem := by omega
  go_enter Try.func111, Try.ntmps111
  go_wp2_with fail
  go_loop [5, 6] (fun x i => ∃ (k : Nat) (mm : Int), k ≤ D ∧ i = .int .i64 (k : Int) ∧ x = .int .i64 mm ∧ 1 ≤ mm ∧ mm ≤ 256 ∧ Hid (mm = 2 ^ k)) (fun _ i => D - (intOf i).toNat)
  case atStart => exact ⟨0, 1, by omega, rfl, rfl, by omega, by omega, rfl⟩
  case round =>
    obtain ⟨k, mm, hk, rfl, rfl, e1, e2, hmm⟩ := hrel
    by_cases hlt : k < D
    · have hlt' : (k : Int) < (D : Int) := by omega
      have hb := many_of ((k + 1 : Nat) : Int) (by omega) (by omega)
      rw [Int.toNat_natCast, ← pow_succ2, ← hmm.out] at hb
      obtain ⟨hb1, hb2⟩ := hb
      go_wp2_with fail
      go_round
      case rel => exact ⟨k + 1, mm * 2, by omega, by go_num, rfl, hb1, hb2, by show mm * 2 = _; rw [hmm.out, pow_succ2]⟩
      case measure => simp [intOf]; omega
    · obtain rfl : k = D := by omega
      have hMM : mm = M := by rw [hmm.out, ← HMM.out, Int.toNat_natCast]
      subst hMM
      go_wp2_with fail
      go_loopw [8] (fun n wr => ∃ (k : Nat) (nn : Int), n = .int .i64 nn ∧ 0 ≤ nn ∧ nn < mm + per ∧ (k : Int) ≤ nn ∧ Hid (nn = k * per) ∧ Keep [] w wr ∧ wr.heap[w.heap.size + 1]? = some (.cells #[.int .i64 0, .int .i64 0, .int .i64 0, .int .i64 0, .int .i64 0, .int .i64 0, .int .i64 0, .int .i64 0] 202 (0, 0)) ∧
        wr.heap[w.heap.size + 2]? = some (.cells #[.int .i64 2, .int .i64 (2 + lg), .int .i64 (2 + lg + m), .int .i64 (sec - (2 + lg + m)), .int .i64 per, .int .i64 sl, .int .i64 (1 + mm + (k : Int)), .int .i64 R] 202 (0, 0))) (fun n _ => 400 - (intOf n).toNat)
      case atStart =>
        refine ⟨0, 0, rfl, by omega, by omega, by omega, by simp [Hid], ((((Keep.refl [] w).alloc _).alloc _).alloc _), ?_, ?_⟩
        · exact (heap_alloc_old _ _ (by simp)).trans (heap_alloc2_new _ _ _)
        · rw [show (1 + mm + ((0 : Nat) : Int)) = 1 + mm by omega]
          exact heap_alloc3_new _ _ _ _
      case round =>
        obtain ⟨k, nn, rfl, f1, f2, f3, hnn, hK, hA1, hA2⟩ := hrel
        have g4 := cell_of_row wr _ 4 _ _ _ hA2
        have g6 := cell_of_row wr _ 6 _ _ _ hA2
        have z6 := frozen_of_row wr _ 6 _ _ hA2
        simp at g4 g6
        by_cases hlt : nn < mm
        · have hb3 := heap_setCell_same wr (w.heap.size + 2) 6 _ _ (.int .i64 (1 + mm + k + 1)) hA2
          have hb4 : (wr.setCell ⟨w.heap.size + 2, 6, none⟩ (.int .i64 (1 + mm + k + 1))).heap[w.heap.size + 1]? = _ := (Below.heap_setCell _ _ _ _ (by simp)).trans hA1
          have HB3 := Lib.hid hb3
          have HB4 := Lib.hid hb4
          clear hb3 hb4 hA1 hA2
          go_wp2_with fail
          go_roundw
          case rel =>
            refine ⟨k + 1, nn + per, rfl, by omega, by omega, by omega, ?_, hK.setCell (.inr (show w.heap.size ≤ w.heap.size + 2 by omega)) _, HB4.out, ?_⟩
            · show nn + per = _
              rw [hnn.out]; push_cast; rw [Int.add_mul]; omega
            · rw [show (1 + mm + ((k + 1 : Nat) : Int)) = 1 + mm + k + 1 by omega]
              exact HB3.out
          case measure => simp [intOf]; omega
        · have hqk : q = k := by rw [← HQ.out]; exact ceil_of (by omega) (by rw [← hnn.out]; omega) (by rw [← hnn.out]; omega)
          subst hqk
          have g3 := cell_of_row wr _ 3 _ _ _ hA2
          simp at g3
          by_cases hA : pp < mm
          · go_wp2_with (refine wpList_store_row rfl 202 (.tmp 2) _ rfl (w.heap.size + 1) #[.int .i64 0, .int .i64 0, .int .i64 0, .int .i64 0, .int .i64 0, .int .i64 0, .int .i64 0, .int .i64 0] rfl rfl 202 _ hA1 (by kernel_rfl) (by rfl) (by kernel_rfl) ?_)
            refine bodyPost_ret (results_cell_tmp_row rfl _ _ (w.heap.size + 1) 202 #[.int .i64 0, .int .i64 0, .int .i64 0, .int .i64 0, .int .i64 0, .int .i64 0, .int .i64 0, .int .i64 0] _ _ rfl (setRow_heap _ _ _ _ _ _ hA1) Try.underlying202 rfl (by kernel_rfl)) rfl ⟨?_, hK.setRow (.inr (by omega)) _⟩
            have hf : F = false := by rw [HFF.out]; exact decide_eq_false (fun h => by omega)
            rw [← HRV.out, hf]
            rfl
          · by_cases hB : sec - (2 + lg + m) < 3 * (1 + mm + (k : Int)) + 4
            · go_wp2_with (refine wpList_store_row rfl 202 (.tmp 2) _ rfl (w.heap.size + 1) #[.int .i64 0, .int .i64 0, .int .i64 0, .int .i64 0, .int .i64 0, .int .i64 0, .int .i64 0, .int .i64 0] rfl rfl 202 _ hA1 (by kernel_rfl) (by rfl) (by kernel_rfl) ?_)
              refine bodyPost_ret (results_cell_tmp_row rfl _ _ (w.heap.size + 1) 202 #[.int .i64 0, .int .i64 0, .int .i64 0, .int .i64 0, .int .i64 0, .int .i64 0, .int .i64 0, .int .i64 0] _ _ rfl (setRow_heap _ _ _ _ _ _ hA1) Try.underlying202 rfl (by kernel_rfl)) rfl ⟨?_, hK.setRow (.inr (by omega)) _⟩
              have hf : F = false := by rw [HFF.out]; exact decide_eq_false (fun h => by omega)
              rw [← HRV.out, hf]
              rfl
            · have hrow : Hid (wr.heap[w.heap.size + 2]? = _) := hA2
              go_wp2_with (first | (refine wpList_load_row rfl 202 (.tmp 7) rfl (w.heap.size + 2) rfl 202 _ _ _ hA2 Try.underlying202 rfl (by kernel_rfl) ?_) | (refine wpList_store_row rfl 202 (.tmp 2) _ rfl (w.heap.size + 1) #[.int .i64 2, .int .i64 (2 + lg), .int .i64 (2 + lg + m), .int .i64 (sec - (2 + lg + m)), .int .i64 per, .int .i64 sl, .int .i64 (1 + mm + (k : Int)), .int .i64 R] rfl rfl 202 _ hA1 (by kernel_rfl) (by rfl) (by kernel_rfl) ?_))
              refine bodyPost_ret (results_cell_tmp_row rfl _ _ (w.heap.size + 1) 202 #[.int .i64 2, .int .i64 (2 + lg), .int .i64 (2 + lg + m), .int .i64 (sec - (2 + lg + m)), .int .i64 per, .int .i64 sl, .int .i64 (1 + mm + (k : Int)), .int .i64 R] _ _ rfl (setRow_heap _ _ _ _ _ _ hA1) Try.underlying202 rfl (by kernel_rfl)) rfl ⟨?_, hK.setRow (.inr (by omega)) _⟩
              have hf : F = true := by rw [HFF.out]; exact decide_eq_true ⟨by omega, by omega⟩
              rw [← HRV.out, hf, HLL.out, show 1 + (k : Int) + mm = 1 + mm + k by omega]
              rfl
end Go.Proofs.Ytijljdcpajjhhaa
