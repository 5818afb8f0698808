import Derived.Test.YtonocjjjcoaljaaLeafTurn
import Derived.BigRegion
import Derived.RegionTactic
/-! The walk of the law LeafTurned. -/
namespace Go.Proofs.Ytonocjjjcoaljaa
open Go.RowKit Go.Shelf Sg
set_option linter.unusedSimpArgs false

theorem heap_alloc3_new (w : World) (A B C : Obj) : (((w.alloc A).alloc B).alloc C).heap[w.heap.size + 1 + 1]? = some C := by
  have h := heap_alloc_new ((w.alloc A).alloc B) C
  simpa using h
theorem heap_alloc3_mid (w : World) (A B C : Obj) : (((w.alloc A).alloc B).alloc C).heap[w.heap.size + 1]? = some B :=
  (heap_alloc_old _ _ _ (by simp)).trans (heap_alloc2_new _ _ _)

set_option maxRecDepth 100000 in
set_option maxHeartbeats 1000000 in
set_option maxHeartbeats 4000000 in
theorem leafTurnedWalk (W : World) (size k p s : Int) (ls : ByteArray) (f : s ≤ 9223372036854775807) (at_ : Nat) (ha : at_ < 65536) (a b c d : UInt8) :
    Calls Try.prog 6 #[.agg #[.int .i64 size, .int .i64 k, .int .i64 p, .int .i64 s, .string ls, .int .u16 at_, .int .u8 (a.toNat : Int), .int .u8 (b.toNat : Int), .int .u8 (c.toNat : Int), .int .u8 (d.toNat : Int)]] W fun e W' => e = .returned (.bool true) ∧ Below W.heap.size W W' := by
  go_enter Try.func6, Try.ntmps6
  go_wp2_with fail
  go_cut [3, 4, 5, 6] from 14 to 21 (fun s3 s4 s5 s6 wx => ∃ A B, s3 = .int .i64 size ∧ s4 = .pointer (some ⟨A, 0, none⟩) ∧ s5 = .int .u16 at_ ∧ s6 = .pointer (some ⟨B, 0, none⟩) ∧ A ≠ B ∧ W.heap.size ≤ A ∧ W.heap.size ≤ B ∧ Keep [] W wx ∧ wx.heap[A]? = some (.cells #[.int .i64 k, .int .i64 p, .int .i64 s, .string ls] 23 (0, 0)) ∧ wx.heap[B]? = some (.cells #[.int .u8 (a.toNat : Int), .int .u8 (b.toNat : Int), .int .u8 (c.toNat : Int), .int .u8 (d.toNat : Int)] 43 (0, 0)))
  case first =>
    go_region
    · go_wp2_with fail
      go_meet
      case rel => exact ⟨_, _, rfl, rfl, rfl, rfl, by omega, by omega, by omega, ((((Keep.refl [] W).alloc _).alloc _).alloc _).drew, heap_alloc3_mid _ _ _ _, heap_alloc3_new _ _ _ _⟩
    · go_wp2_with fail
      go_meet
      case rel => exact ⟨_, _, rfl, rfl, rfl, rfl, by omega, by omega, by omega, ((((Keep.refl [] W).alloc _).alloc _).alloc _).drew, heap_alloc3_new _ _ _ _, heap_alloc3_mid _ _ _ _⟩
  case rest =>
  obtain ⟨A, B, rfl, rfl, rfl, rfl, hAB, hWA, hWB, hK, hA, hB⟩ := hcut
  have g0 := cell_of_row wc _ 0 _ _ _ hA
  have g1 := cell_of_row wc _ 1 _ _ _ hA
  have g2 := cell_of_row wc _ 2 _ _ _ hA
  have g3 := cell_of_row wc _ 3 _ _ _ hA
  simp at g0 g1 g2 g3
  by_cases h1 : 600 < ls.size
  · go_wp2
    go_ret
    exact ⟨rfl, hK.below (Nat.le_refl _) (by simp)⟩
  have lk' : ls.data.toList.length = ls.size := by rw [Array.length_toList]; rfl
  have hO := of05_any k p s ls (by omega)
  have hBd := fun v w hv => lbuild_any size k p s f v ls.data.toList w hv
  rw [lk'] at hBd
  obtain ⟨rc, hrc⟩ : ∃ rc, lcode size k p s ls.size = rc := ⟨_, rfl⟩
  rw [hrc] at hBd
  by_cases hz : rc = 0
  · subst hz
    obtain ⟨z1, z2, z3, z4, z5⟩ := lcode_zero hrc
    obtain ⟨sz, rfl⟩ : ∃ n : Nat, size = (n : Int) := ⟨size.toNat, by omega⟩
    obtain ⟨kn, rfl⟩ : ∃ n : Nat, k = (n : Int) := ⟨k.toNat, by omega⟩
    obtain ⟨pn, rfl⟩ : ∃ n : Nat, p = (n : Int) := ⟨p.toNat, by omega⟩
    obtain ⟨sn, rfl⟩ : ∃ n : Nat, s = (n : Int) := ⟨s.toNat, by omega⟩
    simp only [Int.toNat_natCast, if_true] at hBd
    obtain ⟨-, -, -, -, -, hok, hlen⟩ := leaf_back sz kn pn sn ls.data.toList (by rw [lk']; exact hrc) (by omega)
    generalize lbuild sz kn pn sn ls.data.toList = L at hBd hok hlen
    have hsz : sz ≤ 512 ∧ 96 ≤ sz := by omega
    obtain ⟨kk, hkk⟩ : ∃ q, at_ % (sz - 3) = q := ⟨_, rfl⟩
    have hkl : kk < sz - 3 := by rw [← hkk]; exact Nat.mod_lt _ (by omega)
    have hmod : (at_ : Int).tmod ((sz : Int) - 3) = (kk : Int) := by
      rw [show (sz : Int) - 3 = ((sz - 3 : Nat) : Int) by omega, Int.tmod_eq_emod_of_nonneg (by omega), ← hkk]; rfl
    have hz3 : (sz : Int) - 3 ≠ 0 := by omega
    have t1 : (sz : Int) ≤ 512 := by omega
    have t2 : 96 ≤ (sz : Int) := by omega
    have t3 : ¬ (sz : Int) - 3 = 0 := by omega
    have hz8 : ¬ (sz : Int) < 8 := by omega
    have hk4 : kk + 4 ≤ sz := by omega
    have HO := Lib.hid hO
    have HB := Lib.hid hBd
    have HOK := Lib.hid hok
    have HL := Lib.hid hlen
    have HSZ := Lib.hid hsz
    have HK4 := Lib.hid hk4
    clear hO hBd hok hlen hrc hsz z1 z2 z3 z4 z5 hkk lk' hk4 hkl
    go_wp2_with fail
    refine (HO.out _).mono ?_
    rintro x w2 ⟨v, rfl, bv, k2⟩
    go_wp2_with fail
    refine (HB.out _ _ bv).mono ?_
    rintro x w3 ⟨v3, rfl, o3, k3⟩
    have hk23 := k2.trans k3
    have hK3 := hK.trans hk23
    have hA3 := hk23.blk (by simp) hA
    have hB3 := hk23.blk (by simp) hB
    have o3' := o3.base (base' := W.heap.size) (hK.trans k2).size
    clear bv k2 k3 o3 hA hB g0 g1 g2 g3 hk23 hK
    obtain ⟨g, cap, rfl⟩ : ∃ g cap, v3 = .slice (some ⟨g, 0, none⟩) sz cap := by
      rcases o3'.2 with ⟨-, h0⟩ | ⟨g, cp, cur, rfl, -⟩
      · have := HL.out; have := HSZ.out; omega
      · exact ⟨g, cp, by rw [HL.out]⟩
    have hgB : g ≠ B := by
      have := o3'.ne_row hB3 (by decide)
      simpa [Value.ownBlock] using this
    have hgW : W.heap.size ≤ g := by
      rcases o3'.2 with ⟨h, -⟩ | ⟨g', cp, cur, h, hb, -⟩
      · cases h
      · cases h; exact hb
    go_wp2_with fail
    go_loopw [10, 11] (fun ch i wr => ∃ (j : Nat) (cb : Bool), j ≤ 4 ∧ i = .int .i64 j ∧ ch = .bool cb ∧ Hid (cb = chg [a, b, c, d] j) ∧ Keep [] W wr ∧ OwnB wr W.heap.size 5 (.slice (some ⟨g, 0, none⟩) sz cap) (fl L kk [a, b, c, d] j) ∧ wr.heap[B]? = some (.cells #[.int .u8 (a.toNat : Int), .int .u8 (b.toNat : Int), .int .u8 (c.toNat : Int), .int .u8 (d.toNat : Int)] 43 (0, 0))) (fun _ i _ => 4 - (intOf i).toNat)
    case atStart => exact ⟨0, false, by omega, rfl, rfl, rfl, hK3, o3', hB3⟩
    case round =>
      obtain ⟨j, cb, hj, rfl, rfl, hcb, hKr, hor, hBr⟩ := hrel
      clear hK3 o3' hB3 hA3
      by_cases hlt : j < 4
      · have hk4 := HK4.out
        have hln : (fl L kk [a, b, c, d] j).length = sz := by rw [fl_len]; exact HL.out
        have hM : fl L kk [a, b, c, d] (j + 1) = (fl L kk [a, b, c, d] j).set (kk + j) ((fl L kk [a, b, c, d] j).getD (kk + j) 0 ^^^ [a, b, c, d].getD j 0) := rfl
        have hC : chg [a, b, c, d] (j + 1) = (chg [a, b, c, d] j || ([a, b, c, d].getD j 0 != 0)) := rfl
        rw [← hcb.out] at hC
        generalize fl L kk [a, b, c, d] j = M at hor hln hM
        have hjl : kk + j < M.length := by omega
        have hcell := hor.cell hjl
        have hfree := hor.free (kk + j)
        have hgd : M.getD (kk + j) 0 = M[kk + j] := by rw [List.getD_eq_getElem?_getD, List.getElem?_eq_getElem hjl]; rfl
        rw [hgd] at hM
        have htc : wr.cell? ⟨B, j, none⟩ = some (.int .u8 (([a, b, c, d].getD j 0).toNat : Int)) := by
          rw [cell_of_row wr B j _ _ _ hBr]
          rcases (by omega : j = 0 ∨ j = 1 ∨ j = 2 ∨ j = 3) with rfl | rfl | rfl | rfl <;> rfl
        obtain ⟨t, ht⟩ : ∃ t, [a, b, c, d].getD j 0 = t := ⟨_, rfl⟩
        rw [ht] at hM hC htc
        obtain ⟨m, hm⟩ : ∃ m, M[kk + j] = m := ⟨_, rfl⟩
        rw [hm] at hM hcell
        have hxor := u8_xor_nat m.toNat t.toNat m.toNat_lt t.toNat_lt
        rw [← UInt8.toNat_xor] at hxor
        have hset := hor.setCell hjl (m ^^^ t)
        rw [← hM] at hset
        have hKn : ∀ u, Keep [] W (wr.setCell ⟨g, kk + j, none⟩ u) := fun u => hKr.setCell (.inr hgW) u
        have hBn : ∀ u, (wr.setCell ⟨g, kk + j, none⟩ u).heap[B]? = _ := fun u => (Below.heap_setCell _ _ _ _ (show B ≠ g from fun h => hgB h.symm)).trans hBr
        have q1 : (kk : Int) + (j : Int) < (sz : Int) := by omega
        have q2 : ((kk : Int) + (j : Int)).toNat = kk + j := by omega
        have q3 : (0 : Int) ≤ (kk : Int) + (j : Int) := by omega
        have q4 : IntKind.i64.wrap ((kk : Int) + (j : Int)) = (kk : Int) + (j : Int) := i64_wrap (by omega) (by omega)
        have q5 : (j : Int) < 4 := by omega
        have q6 : kk + j < sz := by omega
        have HC := Lib.hid hC
        have HSET := Lib.hid hset
        have HKN := Lib.hid hKn
        have HBN := Lib.hid hBn
        have HCB := hcb
        clear hC hset hKn hBn hM hgd hm ht hor hBr hln hjl hk4
        go_wp2_with fail
        refine wp_region_still_tail 11 (by kernel_rfl) (by kernel_rfl) ?_
        simp only [List.take_succ_cons, List.take_zero, List.drop_succ_cons, List.drop_zero]
        repeat still_step
        refine wpStill_nil ?_
        change wpList _ _ _ _ _ wr.drew
        have hBg : ¬ B = g := fun h => hgB h.symm
        have hgB' : ¬ g = B := hgB
        have hKf := (HKN.out (.int .u8 ((m.toNat ^^^ t.toNat : Nat) : Int))).drew
        have hOf : OwnB (wr.setCell ⟨g, kk + j, none⟩ (.int .u8 ((m.toNat ^^^ t.toNat : Nat) : Int))).drew W.heap.size 5 (.slice (some ⟨g, 0, none⟩) sz cap) (fl L kk [a, b, c, d] (j + 1)) := by
          have h := HSET.out
          unfold u8v at h
          rw [UInt8.toNat_xor] at h
          exact OwnB.keep h (Keep.refl [] _).drew (by simp)
        have hBf : (wr.setCell ⟨g, kk + j, none⟩ (.int .u8 ((m.toNat ^^^ t.toNat : Nat) : Int))).drew.heap[B]? = _ := HBN.out _
        have HKf := Lib.hid hKf
        have HOf := Lib.hid hOf
        have HBf := Lib.hid hBf
        clear hKf hOf hBf
        cases cb with
        | true =>
          go_wp2_with fail
          go_roundw
          case rel => exact ⟨j + 1, true, by omega, by go_num, rfl, HC.out.symm, HKf.out, HOf.out, HBf.out⟩
          case measure => simp [intOf]; omega
        | false =>
          by_cases ht0 : t = 0
          · have hd0 : ((t.toNat : Int) != 0) = false := by rw [ht0]; rfl
            have hcn : Hid (false = chg [a, b, c, d] (j + 1)) := by show _ = _; rw [HC.out, ht0]; rfl
            clear ht0
            go_wp2_with fail
            go_roundw
            case rel => exact ⟨j + 1, false, by omega, by go_num, rfl, hcn, HKf.out, HOf.out, HBf.out⟩
            case measure => simp [intOf]; omega
          · have htn : t.toNat ≠ 0 := fun h => ht0 (UInt8.toNat_inj.1 (by simpa using h))
            have hd0 : ((t.toNat : Int) != 0) = true := by simpa using htn
            have hcn : Hid (true = chg [a, b, c, d] (j + 1)) := by show _ = _; rw [HC.out]; simp [ht0]
            clear ht0 htn
            go_wp2_with fail
            go_roundw
            case rel => exact ⟨j + 1, true, by omega, by go_num, rfl, hcn, HKf.out, HOf.out, HBf.out⟩
            case measure => simp [intOf]; omega
      · obtain rfl : j = 4 := by omega
        have hln : (fl L kk [a, b, c, d] 4).length = sz := by rw [fl_len]; exact HL.out
        have hsame := fl_same L kk [a, b, c, d] 4
        have hbad := turned_bad L kk a b c d (by rw [HL.out]; exact HK4.out) HOK.out
        rw [← hcb.out] at hsame hbad
        have hOKL := HOK.out
        generalize fl L kk [a, b, c, d] 4 = M at hor hln hsame hbad
        have hbM := hor.bytes (by rw [hln]; have := HSZ.out; omega)
        have hRd := leafRead_in _ M wr hbM (by rw [hln]; have := HSZ.out; omega)
        have hdec : (cb = false ∧ LeafOk M) ∨ (cb = true ∧ ¬ LeafOk M) := by
          cases cb with
          | false => left; exact ⟨rfl, by rw [hsame rfl]; exact hOKL⟩
          | true => right; exact ⟨rfl, fun h => by cases hbad h⟩
        clear hsame hbad hOKL hor hBr hbM
        rcases hdec with ⟨rfl, hM⟩ | ⟨rfl, hM⟩
        · have HM := Lib.hid hM
          clear hM
          go_wp2_with fail
          refine hRd.mono ?_
          rintro e w5 ⟨k5, hor⟩
          obtain ⟨va, vb, vc, ao, vn, vk, rfl⟩ : ∃ (va vb vc : Int) (ao : Option Addr) (vn vk : Nat), e = .returned (.tuple #[.agg #[.int .i64 va, .int .i64 vb, .int .i64 vc, .slice ao vn vk], .int .i64 0]) := by
            rcases hor with ⟨-, v, h1, h2⟩ | ⟨h, -⟩
            · obtain ⟨ao, vk, rfl, -⟩ := h2.form
              exact ⟨_, _, _, _, _, _, h1⟩
            · exact absurd HM.out h
          have hK5 := hKr.trans k5
          clear hRd hor
          go_wp2_with fail
          refine (awake05_any _).mono ?_
          rintro x w7 ⟨rfl, k7⟩
          go_wp2_with fail
          go_ret
          exact ⟨rfl, ((hK5.alloc _).trans k7).below (Nat.le_refl _) (by simp)⟩
        · have HM := Lib.hid hM
          clear hM
          go_wp2_with fail
          refine hRd.mono ?_
          rintro e w5 ⟨k5, hor⟩
          obtain rfl : e = .returned (.tuple #[leaf0, .int .i64 5]) := by
            rcases hor with ⟨h, -⟩ | ⟨-, h⟩
            · exact absurd h HM.out
            · exact h
          have hK5 := hKr.trans k5
          clear hRd hor
          unfold leaf0
          go_wp2_with fail
          refine (awake05_any _).mono ?_
          rintro x w7 ⟨rfl, k7⟩
          go_wp2_with fail
          go_ret
          exact ⟨rfl, ((hK5.alloc _).trans k7).below (Nat.le_refl _) (by simp)⟩
  · rw [if_neg hz] at hBd
    have hz' : (rc != 0) = true := by simpa using hz
    have HO := Lib.hid hO
    have HB := Lib.hid hBd
    clear hO hBd hrc
    go_wp2_with fail
    refine (HO.out _).mono ?_
    rintro x w2 ⟨v, rfl, bv, k2⟩
    go_wp2_with fail
    refine (HB.out _ _ bv).mono ?_
    rintro x w3 ⟨v3, rfl, o3, k3⟩
    have hK3 := (hK.trans k2).trans k3
    clear bv k2 k3 o3 hA hB g0 g1 g2 g3 hK
    go_wp2_with fail
    refine (awake05_any _).mono ?_
    rintro x w7 ⟨rfl, k7⟩
    go_wp2_with fail
    go_ret
    exact ⟨rfl, (hK3.trans k7).below (Nat.le_refl _) (by simp)⟩
end Go.Proofs.Ytonocjjjcoaljaa
