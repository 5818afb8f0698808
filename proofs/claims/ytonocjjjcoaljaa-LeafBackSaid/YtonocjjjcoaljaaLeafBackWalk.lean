import Derived.Test.YtonocjjjcoaljaaLeafLaw
/-! The walk of the law LeafBack. -/
namespace Go.Proofs.Ytonocjjjcoaljaa
open Go.RowKit Go.Shelf Sg
set_option linter.unusedSimpArgs false

theorem string_eta (ls : ByteArray) : (⟨ls.data.toList.toArray⟩ : ByteArray) = ls := by simp

set_option maxRecDepth 100000 in
set_option maxHeartbeats 1000000 in
set_option maxHeartbeats 4000000 in
theorem leafBackWalk (W : World) (a0 : Int) (w0 : (Lit.int .i64 a0).wf = true) (k p s : Int) (ls : ByteArray) (f : s ≤ 9223372036854775807) :
    Calls Try.prog 5 #[.int .i64 a0, .agg #[.int .i64 k, .int .i64 p, .int .i64 s, .string ls]] W fun e W' => e = .returned (.bool true) ∧ Below W.heap.size W W' := by
  have hi := i64_in w0
  have hK0 := (Keep.refl [] W).alloc (.cells #[.int .i64 k, .int .i64 p, .int .i64 s, .string ls] 23)
  have hA := heap_alloc_new W (.cells #[.int .i64 k, .int .i64 p, .int .i64 s, .string ls] 23)
  by_cases h1 : 600 < ls.size
  · go_enter Try.func5, Try.ntmps5
    go_wp2
    go_ret
    exact ⟨rfl, hK0.below (Nat.le_refl _) (by simp)⟩
  have lk' : ls.data.toList.length = ls.size := by rw [Array.length_toList]; rfl
  have hO := of05_any k p s ls (by omega)
  have hB := fun v w hv => lbuild_any a0 k p s f v ls.data.toList w hv
  rw [lk'] at hB
  obtain ⟨rc, hrc⟩ : ∃ rc, lcode a0 k p s ls.size = rc := ⟨_, rfl⟩
  rw [hrc] at hB
  by_cases hz : rc = 0
  · subst hz
    obtain ⟨z1, z2, z3, z4, z5⟩ := lcode_zero hrc
    obtain ⟨sz, rfl⟩ : ∃ n : Nat, a0 = (n : Int) := ⟨a0.toNat, by omega⟩
    obtain ⟨kn, rfl⟩ : ∃ n : Nat, k = (n : Int) := ⟨k.toNat, by omega⟩
    obtain ⟨pn, rfl⟩ : ∃ n : Nat, p = (n : Int) := ⟨p.toNat, by omega⟩
    obtain ⟨sn, rfl⟩ : ∃ n : Nat, s = (n : Int) := ⟨s.toNat, by omega⟩
    simp only [Int.toNat_natCast, if_true] at hB
    obtain ⟨e1, e2, e3, e4, e5, hok, hlen⟩ := leaf_back sz kn pn sn ls.data.toList (by rw [lk']; exact hrc) (by omega)
    generalize lbuild sz kn pn sn ls.data.toList = L at hB e1 e2 e3 e4 e5 hok hlen
    have hT := told05_any (kn : Int) (pn : Int) (sn : Int)
    have hsz : sz ≤ 512 ∧ 96 ≤ sz := by omega
    have HO := Lib.hid hO
    have HB := Lib.hid hB
    have HT := Lib.hid hT
    have HOK := Lib.hid hok
    have HL := Lib.hid hlen
    have H1 := Lib.hid e1
    have H3 := Lib.hid e3
    have H4 := Lib.hid e4
    have H5 := Lib.hid e5
    have HSZ := Lib.hid hsz
    have hbd := And.intro z1 (And.intro z2 (And.intro z3 z4))
    clear hO hB hT hok hlen e1 e2 e3 e4 e5 hrc hsz z1 z2 z3 z4 z5 hbd hi w0
    go_enter Try.func5, Try.ntmps5
    go_wp2_with fail
    refine (HO.out _).mono ?_
    rintro x w2 ⟨v, rfl, bv, k2⟩
    go_wp2_with fail
    refine (HB.out _ _ bv).mono ?_
    rintro x w3 ⟨v3, rfl, o3, k3⟩
    have hK3 := (hK0.trans k2).trans k3
    have hA3 := k3.blk (by simp) (k2.blk (by simp) hA)
    have b3 := o3.bytes (by rw [HL.out]; have := HSZ.out; omega)
    have hRd := leafRead_in v3 L w3 b3 (by rw [HL.out]; have := HSZ.out; omega)
    have hfm := b3.form
    rw [HL.out] at hfm
    obtain ⟨a3, c3, rfl, -⟩ := hfm
    clear bv k2 k3 o3 hA hK0
    go_wp2_with fail
    refine hRd.mono ?_
    rintro e w4 ⟨k4, hor⟩
    obtain ⟨v4, rfl, b4⟩ : ∃ v, e = .returned (.tuple #[.agg #[.int .i64 (kn : Int), .int .i64 (pn : Int), .int .i64 (sn : Int), v], .int .i64 0]) ∧ Bytes w4 v ls.data.toList := by
      rcases hor with ⟨-, v, h1, h2⟩ | ⟨h, -⟩
      · rw [H1.out, H3.out, H4.out] at h1
        rw [H5.out] at h2
        exact ⟨v, h1, h2⟩
      · exact absurd HOK.out h
    have hK4 := hK3.trans k4
    have hA4 := k4.blk (by simp) hA3
    have n4 : W.heap.size < w4.heap.size := (Array.getElem?_eq_some_iff.1 hA4).1
    have n5 : ¬ W.heap.size = w4.heap.size := by omega
    have g0 := cell_of_row w4 _ 0 _ _ _ hA4
    have g1 := cell_of_row w4 _ 1 _ _ _ hA4
    have g2 := cell_of_row w4 _ 2 _ _ _ hA4
    have g3 := cell_of_row w4 _ 3 _ _ _ hA4
    simp at g0 g1 g2 g3
    obtain ⟨a4, c4, rfl, -⟩ := b4.form
    have hk5 := (Keep.refl [] w4).alloc (.cells #[.int .i64 (kn : Int), .int .i64 (pn : Int), .int .i64 (sn : Int), .slice a4 ls.data.toList.length c4] 29)
    have b5 := b4.keep hk5 (by simp)
    have hTT := HT.out _ _ _ b5
    rw [string_eta ls] at hTT
    clear hRd hor b3 hA3 hK3 k4 b4 hA4 b5
    have lk' : ls.data.toList.length = ls.size := by rw [Array.length_toList]; rfl
    rw [lk'] at hTT hk5 ⊢
    go_wp2_with fail
    refine hTT.mono ?_
    rintro x w6 ⟨rfl, k6⟩
    clear g0 g1 g2 g3
    go_wp2_with fail
    refine (awake05_any _).mono ?_
    rintro x w7 ⟨rfl, k7⟩
    go_wp2_with fail
    go_ret
    exact ⟨rfl, (hK4.trans (hk5.trans (k6.trans k7))).below (Nat.le_refl _) (by simp)⟩
  · rw [if_neg hz] at hB
    have hz' : (rc != 0) = true := by simpa using hz
    have HO := Lib.hid hO
    have HB := Lib.hid hB
    clear hO hB hrc
    go_enter Try.func5, Try.ntmps5
    go_wp2_with fail
    refine (HO.out _).mono ?_
    rintro x w2 ⟨v, rfl, bv, k2⟩
    go_wp2_with fail
    refine (HB.out _ _ bv).mono ?_
    rintro x w3 ⟨v3, rfl, o3, k3⟩
    have hK3 := (hK0.trans k2).trans k3
    obtain ⟨a3, c3, rfl, -⟩ := (o3.bytes (by simp)).form
    go_wp2_with fail
    refine (awake05_any _).mono ?_
    rintro x w7 ⟨rfl, k7⟩
    go_wp2_with fail
    go_ret
    exact ⟨rfl, (hK3.trans k7).below (Nat.le_refl _) (by simp)⟩
end Go.Proofs.Ytonocjjjcoaljaa
