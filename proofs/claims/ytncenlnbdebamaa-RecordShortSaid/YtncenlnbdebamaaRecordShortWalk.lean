import Derived.Test.YtncenlnbdebamaaRecRefPack
import Derived.Test.YtncenlnbdebamaaRecLaw
/-! The walk of the law RecordShort. -/
namespace Go.Proofs.Ytncenlnbdebamaa
open Go.RowKit Sg

set_option maxRecDepth 100000 in
set_option maxHeartbeats 1000000 in
set_option maxHeartbeats 4000000 in
theorem recordShortWalk (W : World) (ks vs : ByteArray) (e : Int) (_ : -9223372036854775808 ≤ e) (_ : e ≤ 9223372036854775807) (a1 : Int) (w1 : (Lit.int .u16 a1).wf = true) :
    Calls Try.prog 9 #[.agg #[.string ks, .string vs, .int .i64 e], .int .u16 a1] W fun x W' => x = .returned (.bool true) ∧ Below W.heap.size W W' := by
  obtain ⟨cu, rfl, hcu⟩ := u16_nat w1
  have hK0 := (Keep.refl [] W).alloc (.cells #[.string ks, .string vs, .int .i64 e] 35)
  by_cases h1 : 200 < ks.size
  · go_enter Try.func9, Try.ntmps9
    go_wp2
    go_ret
    exact ⟨rfl, hK0.below (Nat.le_refl _) (by simp)⟩
  by_cases h2 : 200 < vs.size
  · go_enter Try.func9, Try.ntmps9
    go_wp2
    go_ret
    exact ⟨rfl, hK0.below (Nat.le_refl _) (by simp)⟩
  have lk : ks.data.toList.length = ks.size := by rw [Array.length_toList]; rfl
  have lv : vs.data.toList.length = vs.size := by rw [Array.length_toList]; rfl
  have hO := of09_any ks vs e (by omega) (by omega)
  have hP := fun k v w => rpack_any k v ks.data.toList vs.data.toList e w
  rw [lk, lv] at hP
  by_cases hrc : rcode ks.size vs.size e = 0
  · rw [hrc, if_pos rfl] at hP
    have hcut := fun c h => rpack_cut ks.data.toList vs.data.toList e.toNat c (by omega) (by omega) h
    have hLn := rpack_len ks.data.toList vs.data.toList e.toNat
    generalize rpack ks.data.toList vs.data.toList e.toNat = L at hP hcut hLn
    rw [lk, lv] at hLn hcut
    obtain ⟨n, hn⟩ : ∃ n, L.length = n := ⟨_, rfl⟩
    rw [hn] at hLn
    have hn1 : 0 < n := by omega
    have hn2 : n ≤ 500 := by omega
    have hcut2 : ∀ c, c < n → ¬ (rdAll (L.take c)).ok := fun c h => hcut c (by omega)
    clear hLn hcut
    have hnz : ((n : Int) == 0) = false := beq_false_of_ne (by omega)
    obtain ⟨c, hc⟩ : ∃ c, cu % n = c := ⟨_, rfl⟩
    have hcn : c < n := by rw [← hc]; exact Nat.mod_lt _ (by omega)
    have hmod : (cu : Int).tmod (n : Int) = (c : Int) := by rw [Int.tmod_eq_emod_of_nonneg (by omega), ← hc]; rfl
    have hc1 : (c : Int) < (n : Int) := by omega
    go_enter Try.func9, Try.ntmps9
    go_wp2_with fail
    refine (hO _).mono ?_
    rintro x w2 ⟨k, v, rfl, hbk, hbv, hk2⟩
    go_wp2_with fail
    refine (hP _ _ _ hbk hbv).mono ?_
    rintro x w3 ⟨v5, rfl, ho5, hk3⟩
    have hK3 := (hK0.trans hk2).trans hk3
    have hb5 := ho5.bytes (by omega)
    obtain ⟨ao, cap, rfl, hcap, -⟩ := hb5.form
    rw [hn] at hb5 hcap
    have hc2 : (c : Int) ≤ (cap : Int) := by omega
    have hn0 : ¬ n = 0 := by omega
    have hbt := hb5.take (k := c) (by omega)
    clear hO hP hbk hbv hk2 hk3 ho5
    go_wp2_with fail
    refine (unpack_any _ (L.take c) w3 hbt (by rw [List.length_take]; omega)).mono ?_
    rintro x w4 ⟨hk4, hor⟩
    obtain rfl : x = _ := by
      rcases hor with ⟨h, -⟩ | ⟨-, h⟩
      · exact absurd h (hcut2 c hcn)
      · exact h
    have hK4 := hK3.trans hk4
    clear hor hcut2 hbt hb5
    go_wp2_with fail
    refine (awake09_any _).mono ?_
    rintro x w5 ⟨rfl, hk5⟩
    go_wp2_with fail
    go_ret
    exact ⟨rfl, ((hK4.alloc _).trans hk5).below (Nat.le_refl _) (by simp)⟩
  · obtain ⟨rc, hrc2⟩ : ∃ rc, rcode ks.size vs.size e = rc := ⟨_, rfl⟩
    rw [hrc2] at hrc hP
    rw [if_neg hrc] at hP
    have hz : (rc != 0) = true := by simpa using hrc
    go_enter Try.func9, Try.ntmps9
    go_wp2_with fail
    refine (hO _).mono ?_
    rintro x w2 ⟨k, v, rfl, hbk, hbv, hk2⟩
    go_wp2_with fail
    refine (hP _ _ _ hbk hbv).mono ?_
    rintro x w3 ⟨v5, rfl, ho5, hk3⟩
    have hK3 := (hK0.trans hk2).trans hk3
    obtain ⟨ao, cap, rfl, -⟩ := (ho5.bytes (by simp)).form
    clear hO hP hbk hbv hk2 hk3 ho5
    go_wp2_with fail
    refine (awake09_any _).mono ?_
    rintro x w5 ⟨rfl, hk5⟩
    go_wp2_with fail
    go_ret
    exact ⟨rfl, (hK3.trans hk5).below (Nat.le_refl _) (by simp)⟩
end Go.Proofs.Ytncenlnbdebamaa
