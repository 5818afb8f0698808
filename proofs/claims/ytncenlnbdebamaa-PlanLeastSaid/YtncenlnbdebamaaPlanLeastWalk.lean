import Derived.Test.YtncenlnbdebamaaPlanPartsWalk
/-! The walk of the law PlanLeast. -/
namespace Go.Proofs.Ytncenlnbdebamaa
open Go.RowKit Sg

set_option maxRecDepth 100000 in
set_option maxHeartbeats 1000000 in
theorem planLeastWalk (W : World) (p : Pl) (_ : p.In) :
    Calls Try.prog 4 #[p.v] W fun e W' => e = .returned (.bool true) ∧ Below W.heap.size W W' := by
  have hO := of06_any p
  have hF := fit_any p
  by_cases hf : p.Fits
  · rw [if_pos hf] at hF
    obtain ⟨m, pg, per, sl, tree, R, hm, hpg, hlay, k1, k2, k3, k4, k5, k6, k7, k8, k9, k10, k11, hw, hs⟩ := fits_names hf
    obtain ⟨-, ⟨b3, b4⟩, -, -, ⟨b9, b10⟩, -, -⟩ := id hw
    rw [hlay] at hF
    have hs1 := hs (pg + 3 * tree + 4) ⟨by omega, by omega⟩
    have hs2 := hs (pg + 3 * tree + 4 - 1) ⟨by omega, by omega⟩
    have hF2 := fit_any (Pl.mk (pg + 3 * tree + 4) p.size p.reg p.rs p.lg p.dep p.mem p.seed)
    have hO2 := of06_any (Pl.mk (pg + 3 * tree + 4) p.size p.reg p.rs p.lg p.dep p.mem p.seed)
    have hF3 := fit_any (Pl.mk (pg + 3 * tree + 4 - 1) p.size p.reg p.rs p.lg p.dep p.mem p.seed)
    have hO3 := of06_any (Pl.mk (pg + 3 * tree + 4 - 1) p.size p.reg p.rs p.lg p.dep p.mem p.seed)
    rw [if_pos (hs1.1.2 (by omega)), hs1.2] at hF2
    rw [if_neg (fun h => by have := hs2.1.1 h; omega)] at hF3
    clear hs1 hs2 hs hlay hw hf
    obtain ⟨sec, size, reg, rs, lg, dep, mem, seed⟩ := p
    simp only [Pl.v, lay8] at *
    have e3 : pg + 3 * tree + 4 - pg = 3 * tree + 4 := by omega
    rw [e3] at hF2
    have hb1 : 0 ≤ sec - pg ∧ sec - pg ≤ 16384 := by omega
    have hb2 : 9 ≤ pg ∧ pg ≤ 16384 := by omega
    have hb3 : 4 ≤ pg + 3 * tree + 4 ∧ pg + 3 * tree + 4 ≤ 16384 := by omega
    have hb4 : 4 ≤ pg + 3 * tree + 4 - 1 ∧ pg + 3 * tree + 4 - 1 ≤ 16384 := by omega
    obtain ⟨s1, hs1⟩ : ∃ s, pg + 3 * tree + 4 = s := ⟨_, rfl⟩
    rw [hs1] at hb3 hb4 hF2 hO2 hF3 hO3
    obtain ⟨s2, hs2⟩ : ∃ s, s1 - 1 = s := ⟨_, rfl⟩
    rw [hs2] at hb4 hF3 hO3
    clear e3
    go_enter Try.func4, Try.ntmps4
    go_wp2_with fail
    refine (hO _).mono ?_
    rintro e w2 ⟨rfl, hk2⟩
    go_wp2_with fail
    refine (hF _).mono ?_
    rintro e w3 ⟨rfl, hk3⟩
    have hkk := hk2.trans hk3
    have hK3 := ((Keep.refl [] W).alloc _).trans hkk
    have hb0 := hkk.blk (by simp) (heap_alloc_new W _)
    have n3 : W.heap.size < w3.heap.size := (Array.getElem?_eq_some_iff.1 hb0).1
    have n1 : ¬ W.heap.size = w3.heap.size := by omega
    have n2 : ¬ w3.heap.size = W.heap.size := by omega
    have g0 := cell_of_row w3 _ 0 _ _ _ hb0
    have g1 := cell_of_row w3 _ 1 _ _ _ hb0
    have g2 := cell_of_row w3 _ 2 _ _ _ hb0
    have g3 := cell_of_row w3 _ 3 _ _ _ hb0
    have g4 := cell_of_row w3 _ 4 _ _ _ hb0
    have g5 := cell_of_row w3 _ 5 _ _ _ hb0
    have g6 := cell_of_row w3 _ 6 _ _ _ hb0
    have g7 := cell_of_row w3 _ 7 _ _ _ hb0
    have gf := frozen_of_row w3 _ 0 _ _ hb0
    simp at g0 g1 g2 g3 g4 g5 g6 g7
    clear hk2 hk3 hkk hO hF
    have HB0 := Lib.hid hb0
    clear hb0
    go_wp2_with fail
    refine (hO2 _).mono ?_
    rintro e w4 ⟨rfl, hk4⟩
    go_wp2_with fail
    refine (hF2 _).mono ?_
    rintro e w5 ⟨rfl, hk5⟩
    have hkk := hk4.trans hk5
    have hx := hkk.blk (by simp) (heap_alloc_new (w3.setCell ⟨W.heap.size, 0, none⟩ (.int .i64 s1)) _)
    have hsz : (w3.setCell ⟨W.heap.size, 0, none⟩ (.int .i64 s1)).heap.size = w3.heap.size := by simp
    rw [hsz] at hx
    have hp := hkk.blk (by simp) ((heap_alloc_old (w3.setCell ⟨W.heap.size, 0, none⟩ (.int .i64 s1)) _ (by rw [hsz]; exact n3)).trans (heap_setCell_same w3 W.heap.size 0 _ _ _ HB0.out))
    have n5 : w3.heap.size < w5.heap.size := (Array.getElem?_eq_some_iff.1 hx).1
    have n6 : W.heap.size < w5.heap.size := by omega
    have n7 : ¬ W.heap.size = w5.heap.size := by omega
    have n8 : ¬ w3.heap.size = w5.heap.size := by omega
    have x6 := cell_of_row w5 _ 6 _ _ _ hx
    have g0 := cell_of_row w5 _ 0 _ _ _ hp
    have g1 := cell_of_row w5 _ 1 _ _ _ hp
    have g2 := cell_of_row w5 _ 2 _ _ _ hp
    have g3 := cell_of_row w5 _ 3 _ _ _ hp
    have g4 := cell_of_row w5 _ 4 _ _ _ hp
    have g5 := cell_of_row w5 _ 5 _ _ _ hp
    have g6 := cell_of_row w5 _ 6 _ _ _ hp
    have g7 := cell_of_row w5 _ 7 _ _ _ hp
    have gf := frozen_of_row w5 _ 0 _ _ hp
    simp at x6 g0 g1 g2 g3 g4 g5 g6 g7
    have hK5 := ((hK3.setCell (p := ⟨W.heap.size, 0, none⟩) (.inr (Nat.le_refl _)) (.int .i64 s1)).alloc _).trans hkk
    have HX := Lib.hid hx
    clear hx hp hkk hk4 hk5 hF2 hO2
    go_wp2_with fail
    refine (hO3 _).mono ?_
    rintro e w6 ⟨rfl, hk6⟩
    go_wp2_with fail
    refine (hF3 _).mono ?_
    rintro e w7 ⟨rfl, hk7⟩
    have hkk := hk6.trans hk7
    have hsz5 : (w5.setCell ⟨W.heap.size, 0, none⟩ (.int .i64 s2)).heap.size = w5.heap.size := by simp
    have hy := hkk.blk (by simp) (heap_alloc_new (w5.setCell ⟨W.heap.size, 0, none⟩ (.int .i64 s2)) _)
    rw [hsz5] at hy
    have hx := hkk.blk (by simp) ((heap_alloc_old (w5.setCell ⟨W.heap.size, 0, none⟩ (.int .i64 s2)) _ (by rw [hsz5]; exact n5)).trans ((heap_setCell_other w5 _ _ _ (by simp; omega)).trans HX.out))
    have n9 : w5.heap.size < w7.heap.size := (Array.getElem?_eq_some_iff.1 hy).1
    have n10 : w3.heap.size < w7.heap.size := by omega
    have y3 := cell_of_row w7 _ 3 _ _ _ hy
    have x6 := cell_of_row w7 _ 6 _ _ _ hx
    simp at x6 y3
    have hK7 := ((hK5.setCell (p := ⟨W.heap.size, 0, none⟩) (.inr (Nat.le_refl _)) (.int .i64 s2)).alloc _).trans hkk
    clear hx hy hkk hk6 hk7 hF3 hO3 g0 g1 g2 g3 g4 g5 g6 g7 gf
    go_wp2_with fail
    refine (awake06_any _).mono ?_
    rintro e w8 ⟨rfl, hk8⟩
    go_wp2_with fail
    go_ret
    exact ⟨rfl, ((hK7.alloc _).trans hk8).below (Nat.le_refl _) (by simp)⟩
  · rw [if_neg hf] at hF
    clear hf
    obtain ⟨sec, size, reg, rs, lg, dep, mem, seed⟩ := p
    simp only [Pl.v, lay8] at *
    go_enter Try.func4, Try.ntmps4
    go_wp2_with fail
    refine (hO _).mono ?_
    rintro e w2 ⟨rfl, hk2⟩
    go_wp2_with fail
    refine (hF _).mono ?_
    rintro e w3 ⟨rfl, hk3⟩
    have hK3 := ((Keep.refl [] W).alloc _).trans (hk2.trans hk3)
    clear hk2 hk3 hO hF
    go_wp2_with fail
    refine (awake06_any _).mono ?_
    rintro e w6 ⟨rfl, hk6⟩
    go_wp2_with fail
    go_ret
    exact ⟨rfl, ((hK3.alloc _).trans hk6).below (Nat.le_refl _) (by simp)⟩
end Go.Proofs.Ytncenlnbdebamaa
