import Derived.Test.YtncenlnbdebamaaPlan
import Derived.Deep.CutRange
/-! The walk of the law PlanParts. -/
namespace Go.Proofs.Ytncenlnbdebamaa
open Go.RowKit Sg

/-- what a fitting plan's layout is, in names -/
theorem fits_names {p : Pl} (h : p.Fits) : ∃ m pg per sl tree R : Int, p.reg * p.rs = m ∧ 2 + p.lg + m = pg ∧ p.lay = lay8 2 (2 + p.lg) pg (p.sec - pg) per sl tree R ∧ 3 * tree + 4 ≤ p.sec - pg ∧ 3 ≤ m ∧ m ≤ 2048 ∧ 6 ≤ per ∧ per ≤ 41 ∧ 3 ≤ sl ∧ sl ≤ 30 ∧ 3 ≤ tree ∧ tree ≤ 600 ∧ 0 ≤ R ∧ R ≤ 15776 ∧ p.Within ∧
    (∀ s : Int, (1 ≤ s ∧ s ≤ 16384) → ((Pl.mk s p.size p.reg p.rs p.lg p.dep p.mem p.seed).Fits ↔ 3 * tree + 4 ≤ s - pg) ∧ (Pl.mk s p.size p.reg p.rs p.lg p.dep p.mem p.seed).lay = lay8 2 (2 + p.lg) pg (s - pg) per sl tree R) := by
  obtain ⟨hw, h1, h2⟩ := h
  obtain ⟨⟨b1, b2⟩, ⟨b3, b4⟩, ⟨b5, b6⟩, ⟨b7, b8⟩, ⟨b9, b10⟩, ⟨b11, b12⟩, b13, b14⟩ := id hw
  have hm := many_of p.dep b11 b12
  have hper : 6 ≤ p.per ∧ p.per ≤ 41 := by unfold Pl.per Pl.room; omega
  have hM : p.many = (2 : Int) ^ p.dep.toNat := rfl
  rw [← hM] at hm
  have hq : 1 ≤ (p.many + p.per - 1) / p.per ∧ (p.many + p.per - 1) / p.per ≤ 300 := by
    refine ⟨(Int.le_ediv_iff_mul_le (by omega)).2 (by omega), ?_⟩
    exact Int.le_trans (Int.ediv_le_self _ (by omega)) (by omega)
  have c3 := mul_in (a := p.reg) (b := p.rs) (A := 64) (B := 32) (by omega) b6 (by omega) b8
  have c4 := mul_in (a := p.rs) (b := p.room) (A := 32) (B := 493) (by omega) b8 (by unfold Pl.room; omega) (by unfold Pl.room; omega)
  have c5 : 3 ≤ p.reg * p.rs := by
    have := Int.mul_le_mul (a := 3) (b := 1) b5 b7 (by omega) (by omega)
    omega
  refine ⟨p.reg * p.rs, p.page, p.per, (p.room - 10) / 20, p.tree, p.rs * p.room, rfl, rfl, rfl, h2, c5, by omega, hper.1, hper.2, by unfold Pl.room; omega, by unfold Pl.room; omega, by unfold Pl.tree; omega, by unfold Pl.tree; omega, c4.1, by omega, hw, fun s hs => ⟨⟨fun h => h.2.2, fun h => ⟨⟨hw.1, hs, hw.2.2⟩, h1, h⟩⟩, rfl⟩⟩

set_option maxRecDepth 100000 in
set_option maxHeartbeats 1000000 in
theorem planPartsWalk (W : World) (p : Pl) (_ : p.In) :
    Calls Try.prog 3 #[p.v] W fun e W' => e = .returned (.bool true) ∧ Below W.heap.size W W' := by
  have hO := of06_any p
  have hF := fit_any p
  by_cases hf : p.Fits
  · rw [if_pos hf] at hF
    obtain ⟨m, pg, per, sl, tree, R, hm, hpg, hlay, k1, k2, k3, k4, k5, k6, k7, k8, k9, k10, k11, hw, hs⟩ := fits_names hf
    obtain ⟨-, ⟨b3, b4⟩, -, -, ⟨b9, b10⟩, -, -⟩ := id hw
    rw [hlay] at hF
    by_cases hlast : p.sec < 16384
    · have hs1 := hs (p.sec + 1) ⟨by omega, by omega⟩
      have hF2 := fit_any (Pl.mk (p.sec + 1) p.size p.reg p.rs p.lg p.dep p.mem p.seed)
      have hO2 := of06_any (Pl.mk (p.sec + 1) p.size p.reg p.rs p.lg p.dep p.mem p.seed)
      rw [if_pos (hs1.1.2 (by omega)), hs1.2] at hF2
      clear hs1 hs hlay hw hf
      obtain ⟨sec, size, reg, rs, lg, dep, mem, seed⟩ := p
      simp only [Pl.v, lay8] at *
      have e1 : pg + (sec - pg) = sec := by omega
      have e2 : ¬ sec - pg < 3 * tree + 4 := by omega
      have e3 : sec + 1 - pg = sec - pg + 1 := by omega
      have e4 : ¬ per < 1 := by omega
      have e5 : ¬ sl < 1 := by omega
      rw [e3] at hF2
      obtain ⟨pgs, hpgs⟩ : ∃ pgs, sec - pg = pgs := ⟨_, rfl⟩
      rw [hpgs] at e1 e2 hF hF2 k1
      have HP := Lib.hid hpgs
      have hb1 : 0 ≤ pgs ∧ pgs ≤ 16384 := by omega
      have hb2 : 9 ≤ pg ∧ pg ≤ 16384 := by omega
      clear hpgs e3
      go_enter Try.func3, Try.ntmps3
      go_wp2_with fail
      refine (hO _).mono ?_
      rintro e w2 ⟨rfl, hk2⟩
      go_wp2_with fail
      refine (hF _).mono ?_
      rintro e w3 ⟨rfl, hk3⟩
      have hkk := hk2.trans hk3
      have hK3 := ((Keep.refl [] W).alloc _).trans hkk
      have hb0 := hkk.blk (by simp) (heap_alloc_new W _)
      have n3 : W.heap.size < w3.heap.size := (Array.getElem?_eq_some_iff.1 hb0).1
      have n1 : ¬ W.heap.size = w3.heap.size := by omega
      have n2 : ¬ w3.heap.size = W.heap.size := by omega
      have g0 := cell_of_row w3 _ 0 _ _ _ hb0
      have g1 := cell_of_row w3 _ 1 _ _ _ hb0
      have g2 := cell_of_row w3 _ 2 _ _ _ hb0
      have g3 := cell_of_row w3 _ 3 _ _ _ hb0
      have g4 := cell_of_row w3 _ 4 _ _ _ hb0
      have g5 := cell_of_row w3 _ 5 _ _ _ hb0
      have g6 := cell_of_row w3 _ 6 _ _ _ hb0
      have g7 := cell_of_row w3 _ 7 _ _ _ hb0
      have gf := frozen_of_row w3 _ 0 _ _ hb0
      simp at g0 g1 g2 g3 g4 g5 g6 g7
      clear hk2 hk3 hkk hO hF
      have HB0 := Lib.hid hb0
      clear hb0
      go_wp2_with fail
      refine (hO2 _).mono ?_
      rintro e w4 ⟨rfl, hk4⟩
      go_wp2_with fail
      refine (hF2 _).mono ?_
      rintro e w5 ⟨rfl, hk5⟩
      have hkk := hk4.trans hk5
      have hx := hkk.blk (by simp) (heap_alloc_new (w3.setCell ⟨W.heap.size, 0, none⟩ (.int .i64 (sec + 1))) _)
      have hsz : (w3.setCell ⟨W.heap.size, 0, none⟩ (.int .i64 (sec + 1))).heap.size = w3.heap.size := by simp
      rw [hsz] at hx
      have n5 : w3.heap.size < w5.heap.size := (Array.getElem?_eq_some_iff.1 hx).1
      have x3 := cell_of_row w5 _ 3 _ _ _ hx
      simp at x3
      have hK5 := ((hK3.setCell (p := ⟨W.heap.size, 0, none⟩) (.inr (Nat.le_refl _)) (.int .i64 (sec + 1))).alloc _).trans hkk
      clear hx hkk hk4 hk5 hF2 hO2 g0 g1 g2 g3 g4 g5 g6 g7 gf
      go_wp2_with fail
      refine (awake06_any _).mono ?_
      rintro e w6 ⟨rfl, hk6⟩
      go_wp2_with fail
      go_ret
      exact ⟨rfl, ((hK5.alloc _).trans hk6).below (Nat.le_refl _) (by simp)⟩
    · clear hs hlay hw hf
      obtain ⟨sec, size, reg, rs, lg, dep, mem, seed⟩ := p
      simp only [Pl.v, lay8] at *
      have e1 : pg + (sec - pg) = sec := by omega
      have e2 : ¬ sec - pg < 3 * tree + 4 := by omega
      have e4 : ¬ per < 1 := by omega
      have e5 : ¬ sl < 1 := by omega
      obtain ⟨pgs, hpgs⟩ : ∃ pgs, sec - pg = pgs := ⟨_, rfl⟩
      rw [hpgs] at e1 e2 hF k1
      have HP := Lib.hid hpgs
      have hb1 : 0 ≤ pgs ∧ pgs ≤ 16384 := by omega
      have hb2 : 9 ≤ pg ∧ pg ≤ 16384 := by omega
      clear hpgs
      go_enter Try.func3, Try.ntmps3
      go_wp2_with fail
      refine (hO _).mono ?_
      rintro e w2 ⟨rfl, hk2⟩
      go_wp2_with fail
      refine (hF _).mono ?_
      rintro e w3 ⟨rfl, hk3⟩
      have hkk := hk2.trans hk3
      have hK3 := ((Keep.refl [] W).alloc _).trans hkk
      have hb0 := hkk.blk (by simp) (heap_alloc_new W _)
      have n3 : W.heap.size < w3.heap.size := (Array.getElem?_eq_some_iff.1 hb0).1
      have n1 : ¬ W.heap.size = w3.heap.size := by omega
      have n2 : ¬ w3.heap.size = W.heap.size := by omega
      have g0 := cell_of_row w3 _ 0 _ _ _ hb0
      have g1 := cell_of_row w3 _ 1 _ _ _ hb0
      have g2 := cell_of_row w3 _ 2 _ _ _ hb0
      have g3 := cell_of_row w3 _ 3 _ _ _ hb0
      have g4 := cell_of_row w3 _ 4 _ _ _ hb0
      have g5 := cell_of_row w3 _ 5 _ _ _ hb0
      have g6 := cell_of_row w3 _ 6 _ _ _ hb0
      have g7 := cell_of_row w3 _ 7 _ _ _ hb0
      have gf := frozen_of_row w3 _ 0 _ _ hb0
      simp at g0 g1 g2 g3 g4 g5 g6 g7
      clear hk2 hk3 hkk hO hF
      have HB0 := Lib.hid hb0
      clear hb0
      go_wp2_with fail
      refine (awake06_any _).mono ?_
      rintro e w6 ⟨rfl, hk6⟩
      go_wp2_with fail
      go_ret
      exact ⟨rfl, ((hK3.alloc _).trans hk6).below (Nat.le_refl _) (by simp)⟩
  · rw [if_neg hf] at hF
    clear hf
    obtain ⟨sec, size, reg, rs, lg, dep, mem, seed⟩ := p
    simp only [Pl.v, lay8] at *
    go_enter Try.func3, Try.ntmps3
    go_wp2_with fail
    refine (hO _).mono ?_
    rintro e w2 ⟨rfl, hk2⟩
    go_wp2_with fail
    refine (hF _).mono ?_
    rintro e w3 ⟨rfl, hk3⟩
    have hK3 := ((Keep.refl [] W).alloc _).trans (hk2.trans hk3)
    clear hk2 hk3 hO hF
    go_wp2_with fail
    refine (awake06_any _).mono ?_
    rintro e w6 ⟨rfl, hk6⟩
    go_wp2_with fail
    go_ret
    exact ⟨rfl, ((hK3.alloc _).trans hk6).below (Nat.le_refl _) (by simp)⟩
end Go.Proofs.Ytncenlnbdebamaa
