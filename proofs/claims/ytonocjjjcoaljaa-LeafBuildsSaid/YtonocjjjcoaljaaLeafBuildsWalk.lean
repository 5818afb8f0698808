import Derived.Test.YtonocjjjcoaljaaLeafLaw
/-! The walk of the law LeafBuilds. -/
namespace Go.Proofs.Ytonocjjjcoaljaa
open Go.RowKit Go.Shelf Sg
set_option linter.unusedSimpArgs false

set_option maxRecDepth 100000 in
set_option maxHeartbeats 1000000 in
set_option maxHeartbeats 4000000 in
theorem leafBuildsWalk (W : World) (a0 : Int) (w0 : (Lit.int .i64 a0).wf = true) (k p s : Int) (ls : ByteArray) (f : s ≤ 9223372036854775807) :
    Calls Try.prog 3 #[.int .i64 a0, .agg #[.int .i64 k, .int .i64 p, .int .i64 s, .string ls]] W fun e W' => e = .returned (.bool true) ∧ Below W.heap.size W W' := by
  have hi := i64_in w0
  have hK0 := (Keep.refl [] W).alloc (.cells #[.int .i64 k, .int .i64 p, .int .i64 s, .string ls] 23)
  have hA := heap_alloc_new W (.cells #[.int .i64 k, .int .i64 p, .int .i64 s, .string ls] 23)
  by_cases h1 : 600 < ls.size
  · go_enter Try.func3, Try.ntmps3
    go_wp2
    go_ret
    exact ⟨rfl, hK0.below (Nat.le_refl _) (by simp)⟩
  have lk' : ls.data.toList.length = ls.size := by rw [Array.length_toList]; rfl
  have hO := of05_any k p s ls (by omega)
  have hB := fun v w hv => lbuild_any a0 k p s f v ls.data.toList w hv
  rw [lk'] at hB
  have hRB := refBuild_any a0 k p s f hi ls (by omega)
  have hR := room_any a0
  have hXl : (if lcode a0 k p s ls.size = 0 then lbuild a0.toNat k.toNat p.toNat s.toNat ls.data.toList else []).length ≤ 140737488355328 := by
    by_cases h : lcode a0 k p s ls.size = 0
    · rw [if_pos h]
      have hz := lcode_zero h
      rw [lbuild_len _ _ _ _ _ (by omega) (by rw [lk']; omega)]
      omega
    · rw [if_neg h]; simp
  generalize (if lcode a0 k p s ls.size = 0 then lbuild a0.toNat k.toNat p.toNat s.toNat ls.data.toList else []) = X at hB hRB hXl
  generalize lcode a0 k p s ls.size = rc at hB hRB
  have HO := Lib.hid hO
  have HB := Lib.hid hB
  have HRB := Lib.hid hRB
  clear hO hB hRB lk'
  by_cases hin : 96 ≤ a0 ∧ a0 ≤ 512
  · rw [if_pos hin] at hR
    obtain ⟨i1, i2⟩ := hin
    have HR := Lib.hid hR
    clear hR
    go_enter Try.func3, Try.ntmps3
    go_wp2_with fail
    refine (HO.out _).mono ?_
    rintro x w2 ⟨v, rfl, bv, k2⟩
    go_wp2_with fail
    refine (HB.out _ _ bv).mono ?_
    rintro x w3 ⟨v3, rfl, o3, k3⟩
    have hK3 := (hK0.trans k2).trans k3
    have hA3 := k3.blk (by simp) (k2.blk (by simp) hA)
    have b3 := o3.bytes hXl
    have g0 := cell_of_row w3 _ 0 _ _ _ hA3
    have g1 := cell_of_row w3 _ 1 _ _ _ hA3
    have g2 := cell_of_row w3 _ 2 _ _ _ hA3
    have g3 := cell_of_row w3 _ 3 _ _ _ hA3
    simp at g0 g1 g2 g3
    clear bv k2 k3 o3 hA hK0 hA3
    go_wp2_with fail
    refine (HRB.out _).mono ?_
    rintro x w4 ⟨v4, rfl, o4, k4⟩
    have hK4 := hK3.trans k4
    have q3 := run_str (P := Try.prog) 24 9 5 Try.underlying24 Try.underlying5 Try.underlying9 (b3.keep k4 (by simp))
    have q4 := run_str (P := Try.prog) 24 9 5 Try.underlying24 Try.underlying5 Try.underlying9 (o4.bytes hXl)
    clear b3 k4 o4 hK3 g0 g1 g2 g3
    go_wp2_with fail
    refine (HR.out _).mono ?_
    rintro x w5 ⟨rfl, rfl⟩
    go_wp2_with fail
    refine (awake05_any _).mono ?_
    rintro x w6 ⟨rfl, k6⟩
    go_wp2_with fail
    go_ret
    exact ⟨rfl, (hK4.trans k6).below (Nat.le_refl _) (by simp)⟩
  · rw [if_neg hin] at hR
    have HR := Lib.hid hR
    clear hR
    by_cases i1 : 96 ≤ a0
    · have i2 : ¬ a0 ≤ 512 := fun h => hin ⟨i1, h⟩
      clear hin
      go_enter Try.func3, Try.ntmps3
      go_wp2_with fail
      refine (HO.out _).mono ?_
      rintro x w2 ⟨v, rfl, bv, k2⟩
      go_wp2_with fail
      refine (HB.out _ _ bv).mono ?_
      rintro x w3 ⟨v3, rfl, o3, k3⟩
      have hK3 := (hK0.trans k2).trans k3
      have hA3 := k3.blk (by simp) (k2.blk (by simp) hA)
      have b3 := o3.bytes hXl
      have g0 := cell_of_row w3 _ 0 _ _ _ hA3
      have g1 := cell_of_row w3 _ 1 _ _ _ hA3
      have g2 := cell_of_row w3 _ 2 _ _ _ hA3
      have g3 := cell_of_row w3 _ 3 _ _ _ hA3
      simp at g0 g1 g2 g3
      clear bv k2 k3 o3 hA hK0 hA3
      go_wp2_with fail
      refine (HRB.out _).mono ?_
      rintro x w4 ⟨v4, rfl, o4, k4⟩
      have hK4 := hK3.trans k4
      have q3 := run_str (P := Try.prog) 24 9 5 Try.underlying24 Try.underlying5 Try.underlying9 (b3.keep k4 (by simp))
      have q4 := run_str (P := Try.prog) 24 9 5 Try.underlying24 Try.underlying5 Try.underlying9 (o4.bytes hXl)
      clear b3 k4 o4 hK3 g0 g1 g2 g3
      go_wp2_with fail
      refine (HR.out _).mono ?_
      rintro x w5 ⟨rfl, rfl⟩
      go_wp2_with fail
      refine (awake05_any _).mono ?_
      rintro x w6 ⟨rfl, k6⟩
      go_wp2_with fail
      go_ret
      exact ⟨rfl, (hK4.trans k6).below (Nat.le_refl _) (by simp)⟩
    · clear hin
      go_enter Try.func3, Try.ntmps3
      go_wp2_with fail
      refine (HO.out _).mono ?_
      rintro x w2 ⟨v, rfl, bv, k2⟩
      go_wp2_with fail
      refine (HB.out _ _ bv).mono ?_
      rintro x w3 ⟨v3, rfl, o3, k3⟩
      have hK3 := (hK0.trans k2).trans k3
      have hA3 := k3.blk (by simp) (k2.blk (by simp) hA)
      have b3 := o3.bytes hXl
      have g0 := cell_of_row w3 _ 0 _ _ _ hA3
      have g1 := cell_of_row w3 _ 1 _ _ _ hA3
      have g2 := cell_of_row w3 _ 2 _ _ _ hA3
      have g3 := cell_of_row w3 _ 3 _ _ _ hA3
      simp at g0 g1 g2 g3
      clear bv k2 k3 o3 hA hK0 hA3
      go_wp2_with fail
      refine (HRB.out _).mono ?_
      rintro x w4 ⟨v4, rfl, o4, k4⟩
      have hK4 := hK3.trans k4
      have q3 := run_str (P := Try.prog) 24 9 5 Try.underlying24 Try.underlying5 Try.underlying9 (b3.keep k4 (by simp))
      have q4 := run_str (P := Try.prog) 24 9 5 Try.underlying24 Try.underlying5 Try.underlying9 (o4.bytes hXl)
      clear b3 k4 o4 hK3 g0 g1 g2 g3
      go_wp2_with fail
      refine (HR.out _).mono ?_
      rintro x w5 ⟨rfl, rfl⟩
      go_wp2_with fail
      refine (awake05_any _).mono ?_
      rintro x w6 ⟨rfl, k6⟩
      go_wp2_with fail
      go_ret
      exact ⟨rfl, (hK4.trans k6).below (Nat.le_refl _) (by simp)⟩
end Go.Proofs.Ytonocjjjcoaljaa
