import Derived.Test.YtnpfjpdbfjeegaaCrcSumsWalk
/-! The walk of the law CrcBursts. -/
namespace Go.Proofs.Ytnpfjpdbfjeegaa
open Go.RowKit Go.Shelf Sg

def Burst (l c : List UInt8) (k n i : Nat) : Prop := c.length = l.length ∧ Crc.num (nats c) = Crc.num (nats l) ^^^ (n % 2 ^ (min i (8 * l.length - k))) * 2 ^ k

theorem Burst.zero (l : List UInt8) (k n : Nat) : Burst l l k n 0 := by
  refine ⟨rfl, ?_⟩
  simp [Nat.mod_one]

theorem burst_stay {m k n i : Nat} (h : ¬ (n / 2 ^ i % 2 = 1 ∧ k + i < m)) : n % 2 ^ (min (i + 1) (m - k)) = n % 2 ^ (min i (m - k)) := by
  by_cases h2 : k + i < m
  · have h3 : n / 2 ^ i % 2 = 0 := by
      have : ¬ n / 2 ^ i % 2 = 1 := fun e => h ⟨e, h2⟩
      omega
    rw [Nat.min_eq_left (by omega), Nat.min_eq_left (by omega), mod_step, h3]
    simp
  · rw [Nat.min_eq_right (by omega), Nat.min_eq_right (by omega)]

theorem Burst.stay {l c : List UInt8} {k n i : Nat} (b : Burst l c k n i) (h : ¬ (n / 2 ^ i % 2 = 1 ∧ k + i < 8 * l.length)) : Burst l c k n (i + 1) := by
  refine ⟨b.1, ?_⟩
  rw [burst_stay h]
  exact b.2

theorem nats_set (c : List UInt8) (j : Nat) (x : UInt8) : nats (c.set j x) = (nats c).set j x.toNat := by
  simp [nats, List.map_set]

theorem burst_turn_ne {m k n i : Nat} (h : n / 2 ^ i % 2 = 1) (h2 : k + i < m) : n % 2 ^ (min (i + 1) (m - k)) ≠ 0 := by
  rw [Nat.min_eq_left (by omega), mod_step, h]
  have : 0 < 2 ^ i := Nat.two_pow_pos i
  omega

theorem Burst.turn {l c : List UInt8} {k n i : Nat} (b : Burst l c k n i) (h : n / 2 ^ i % 2 = 1) (h2 : k + i < 8 * l.length) (hj : (k + i) / 8 < c.length) (x : UInt8) (hx : x.toNat = c[(k + i) / 8].toNat ^^^ 2 ^ ((k + i) % 8)) :
    Burst l (c.set ((k + i) / 8) x) k n (i + 1) := by
  refine ⟨by simp [b.1], ?_⟩
  have hj' : (k + i) / 8 < (nats c).length := by simpa [nats] using hj
  have e1 := Crc.num_set (nats c) ((k + i) / 8) ((k + i) % 8) (nats_lt c) hj' (by omega)
  have e2 : (nats c)[(k + i) / 8] = c[(k + i) / 8].toNat := by simp [nats]
  rw [nats_set, hx, ← e2, e1, b.2]
  rw [Nat.min_eq_left (by omega), Nat.min_eq_left (by omega), mod_step, h, Nat.mul_one, show 8 * ((k + i) / 8) + (k + i) % 8 = i + k by omega]
  have e3 : n % 2 ^ i + 2 ^ i = n % 2 ^ i ^^^ 2 ^ i := by
    have hlt := Nat.mod_lt n (Nat.two_pow_pos i)
    have := Nat.two_pow_add_eq_or_of_lt hlt 1
    rw [Nat.mul_one] at this
    rw [Nat.add_comm, this]
    apply Nat.eq_of_testBit_eq
    intro j
    rw [Nat.testBit_or, Nat.testBit_xor, Nat.testBit_two_pow]
    by_cases hji : i = j
    · subst hji
      rw [Nat.testBit_lt_two_pow hlt]
      simp
    · simp [hji]
  rw [e3, Crc.xor_mul_pow, ← Nat.pow_add, Nat.xor_assoc]

theorem Burst.done {l c : List UInt8} {k n : Nat} (b : Burst l c k n 32) (hk : k < 8 * l.length) : Crc.sum (nats c) = Crc.sum (nats l) ↔ n % 2 ^ (min 32 (8 * l.length - k)) = 0 := by
  refine Crc.sum_burst (nats l) (nats c) (nats_lt l) (nats_lt c) (by simp [nats, b.1]) k _ ?_ (by simp [nats]; omega) b.2
  have h2 : 2 ^ (min 32 (8 * l.length - k)) ≤ 2 ^ 32 := Nat.pow_le_pow_right (by decide) (Nat.min_le_left _ _)
  exact Nat.lt_of_lt_of_le (Nat.mod_lt _ (Nat.two_pow_pos _)) h2

theorem burst_at (a : Int) (m : Nat) (h0 : 0 < m) (h1 : m ≤ 1000) : ∃ k : Nat, wrap64 ((IntKind.u64.wrap a).tmod (8 * (m : Int))) = (k : Int) ∧ k < 8 * m := by
  rw [u64_wrap, Int.tmod_eq_emod_of_nonneg (by omega)]
  have h2 := Int.emod_nonneg (a % 18446744073709551616) (show (8 * (m : Int)) ≠ 0 by omega)
  have h3 := Int.emod_lt_of_pos (a % 18446744073709551616) (show 0 < (8 * (m : Int)) by omega)
  generalize (a % 18446744073709551616) % (8 * (m : Int)) = r at h2 h3
  refine ⟨r.toNat, ?_, by omega⟩
  unfold wrap64
  omega

set_option maxRecDepth 100000 in
set_option maxHeartbeats 400000 in
theorem crcBurstsWalk (W : World) (v : Value) (l : List UInt8) (hv : Bytes W v l) (a1 : Int) (w1 : (Lit.int .i64 a1).wf = true) (a2 : Int) (w2 : (Lit.int .u32 a2).wf = true) :
    Calls Try.prog 4 #[v, .int .i64 a1, .int .u32 a2] W fun e W' => e = .returned (.bool true) ∧ Below W.heap.size W W' := by
  obtain ⟨n, rfl, hn⟩ := u32_nat w2
  have hi1 := i64_in w1
  clear w1 w2
  obtain ⟨ao, cap, rfl, hlc, hm, hcap⟩ := hv.form
  by_cases hbig : 1000 < l.length
  · have hne : 0 < l.length := by omega
    go_enter Try.func4, Try.ntmps4
    go_wp2
    go_ret
    exact ⟨rfl, Below.refl _ _⟩
  · by_cases hz : l.length = 0
    · go_enter Try.func4, Try.ntmps4
      go_wp2_with fail
      refine (awake_any _).mono ?_
      rintro e w1 ⟨rfl, hk1⟩
      go_wp2_with fail
      go_ret
      exact ⟨rfl, hk1.below (Nat.le_refl _) (by simp)⟩
    · have hz1 : ((l.length : Int) == 0) = false := beq_false_of_ne (by omega)
      have hz2 : decide (1000 < (l.length : Int)) = false := by simp; omega
      obtain ⟨k, hkk, hkl⟩ := burst_at a1 l.length (by omega) (by omega)
      have hkl' : (k : Int) < 8 * (l.length : Int) := by omega
      go_enter Try.func4, Try.ntmps4
      have ho := OwnB.empty W W.heap.size 5 (Nat.le_refl _)
      have hC1 := (Keep.refl [] W).alloc (.cells #[] 5)
      go_wp2_with (refine wpList_append_bytes rfl (.tmp 27) (.tmp 28) 22 5 rfl W.heap.size Try.underlying22 (by kernel_rfl) (v := .slice (some ⟨W.heap.size, 0, none⟩) 0 0) (src := .slice ao l.length cap) rfl rfl ho (hv.keep hC1 (by simp)) (by simp; omega) hC1.size ?_)
      intro v4 w4 ho4 hk4
      have hC4 : Keep [] W w4 := hC1.trans' hk4 (by intro k hk; simp [Value.ownBlock] at hk; subst hk; exact .inr (Nat.le_refl _))
      clear ho hC1 hk4
      try simp only [List.nil_append] at ho4
      go_wp2_with fail
      have hv4 : ∃ g cap', v4 = .slice (some ⟨g, 0, none⟩) l.length cap' ∧ W.heap.size ≤ g ∧ l.length ≤ cap' ∧ cap' ≤ 9223372036854775807 := by
        rcases ho4.2 with ⟨-, h0⟩ | ⟨g, c', cur, e, hg, -, h1, h2, -⟩
        · exact absurd h0 hz
        · exact ⟨g, c', e, hg, h1, h2⟩
      obtain ⟨g, cap', rfl, hg, hlc', hm'⟩ := hv4
      go_loopw [2, 9, 10] (fun tu ch i wr => ∃ (j t : Nat) (b : Bool) (c : List UInt8), j ≤ 32 ∧ t < 4294967296 ∧ i = .int .i64 j ∧ tu = .int .u32 (t : Int) ∧ Hid (t = n / 2 ^ j) ∧ ch = .bool b ∧ Hid (b = decide (n % 2 ^ (min j (8 * l.length - k)) ≠ 0)) ∧ Hid (Burst l c k n j) ∧ Hid (OwnB wr W.heap.size 5 (.slice (some ⟨g, 0, none⟩) l.length cap') c) ∧ Keep [] W wr) (fun _ _ i _ => 32 - (intOf i).toNat)
      case atStart => exact ⟨0, n, false, l, by omega, hn, rfl, rfl, by simp [Hid], rfl, by simp [Hid, Nat.mod_one], Burst.zero l k n, ho4, hC4⟩
      case round =>
        obtain ⟨j, t, b, c, hj, ht, rfl, rfl, ht2, rfl, hb, hB, hO, hkeep⟩ := hrel
        by_cases hlt : j < 32
        · have hsucc : Hid (t / 2 = n / 2 ^ (j + 1)) := by show _ = _; rw [ht2.out, Nat.pow_succ, Nat.div_div_eq_div_mul]
          obtain ⟨t', ht'⟩ : ∃ t', t / 2 = t' := ⟨_, rfl⟩
          rw [ht'] at hsucc
          have htl' : t' < 4294967296 := by omega
          have hdv : (t : Int).tdiv 2 % 4294967296 = (t' : Int) := by rw [Int.tdiv_eq_ediv_of_nonneg (by omega)]; omega
          by_cases hc : t % 2 = 1 ∧ k + j < 8 * l.length
          · obtain ⟨hc1, hc2⟩ := hc
            have hmd : (t : Int).tmod 2 = 1 := by rw [Int.tmod_eq_emod_of_nonneg (by omega)]; omega
            have hc3 : (k : Int) + (j : Int) < 8 * (l.length : Int) := by omega
            obtain ⟨q, hq⟩ : ∃ q, (k + j) / 8 = q := ⟨_, rfl⟩
            obtain ⟨r, hr⟩ : ∃ r, (k + j) % 8 = r := ⟨_, rfl⟩
            have hr7 : r ≤ 7 := by omega
            have hql : q < l.length := by omega
            have hqc : q < c.length := by rw [hB.out.1]; exact hql
            have hq1 : ((k : Int) + (j : Int)).tdiv 8 = (q : Int) := by rw [Int.tdiv_eq_ediv_of_nonneg (by omega)]; omega
            have hr1 : ((k : Int) + (j : Int)).tmod 8 = (r : Int) := by rw [Int.tmod_eq_emod_of_nonneg (by omega)]; omega
            have hql' : (q : Int) < (l.length : Int) := by omega
            have HQ := Lib.hid hq
            have HR := Lib.hid hr
            clear hq hr
            go_wp2
            go_loop [11, 12] (fun bt i => ∃ s m : Nat, s ≤ r ∧ m ≤ 128 ∧ i = .int .i64 s ∧ bt = .int .u8 (m : Int) ∧ Hid (m = 2 ^ s)) (fun _ i => r - (intOf i).toNat)
            case atStart => exact ⟨0, 1, by omega, by omega, rfl, rfl, rfl⟩
            case round =>
              obtain ⟨s, m, hs, hm1, rfl, rfl, hm2⟩ := hrel
              by_cases hsr : s < r
              · have hm3 : m * 2 = 2 ^ (s + 1) := by rw [hm2.out, Nat.pow_succ]
                have hm4 : m * 2 ≤ 128 := by
                  rw [hm3]
                  exact Nat.le_trans (Nat.pow_le_pow_right (by decide) (show s + 1 ≤ 7 by omega)) (by decide)
                have HM3 := Lib.hid hm3
                clear hm3
                go_wp2
                go_round
                case rel => exact ⟨s + 1, m * 2, by omega, hm4, by go_num, by go_num, HM3⟩
                case measure => simp [intOf]; omega
              · have hm3 : m = 2 ^ r := by rw [hm2.out, show s = r by omega]
                have HM3 := Lib.hid hm3
                clear hm3
                have hcell := hO.out.cell hqc
                have hfree := hO.out.free q
                have hx := c[q].toNat_lt
                have hxor := u8_xor_nat c[q].toNat m (by omega) (by omega)
                have hxl : c[q].toNat ^^^ m < 256 := Nat.xor_lt_two_pow (n := 8) (by omega) (by omega)
                obtain ⟨x, hxx⟩ : ∃ x : UInt8, x.toNat = c[q].toNat ^^^ m := ⟨UInt8.ofNat (c[q].toNat ^^^ m), by rw [UInt8.toNat_ofNat']; exact Nat.mod_eq_of_lt hxl⟩
                have HX := Lib.hid hxx
                rw [← hxx] at hxor
                clear hxx hxl
                go_wp2
                go_roundw
                case rel =>
                  have h1 : n / 2 ^ j % 2 = 1 := by rw [← ht2.out]; exact hc1
                  have hq0 := HQ.out
                  subst hq0
                  refine ⟨j + 1, t', true, c.set ((k + j) / 8) x, by omega, htl', by go_num, by rw [← ht']; rfl, hsucc, rfl, ?_, ?_, ?_, ?_⟩
                  · show true = decide _
                    rw [eq_comm, decide_eq_true_eq]
                    exact burst_turn_ne h1 hc2
                  · refine hB.out.turn h1 hc2 hqc x ?_
                    rw [HX.out, HM3.out, ← HR.out]
                  · exact hO.out.setCell hqc x
                  · exact hkeep.setCell (.inr hg) _
                case measure => simp [intOf]; omega
          · have h1 : ¬ (n / 2 ^ j % 2 = 1 ∧ k + j < 8 * l.length) := by rw [← ht2.out]; exact hc
            have hst := burst_stay h1
            have HB := Lib.hid (hB.out.stay h1)
            have hcond : (((t : Int).tmod 2 == 1) && decide ((k : Int) + (j : Int) < 8 * (l.length : Int))) = false := by
              rw [Int.tmod_eq_emod_of_nonneg (by omega)]
              rcases (by omega : ¬ t % 2 = 1 ∨ ¬ k + j < 8 * l.length) with h | h
              · rw [beq_false_of_ne (by omega)]; rfl
              · rw [decide_eq_false (by omega)]; simp
            have HB2 : Hid (b = decide (n % 2 ^ (min (j + 1) (8 * l.length - k)) ≠ 0)) := by show _ = _; rw [hst]; exact hb.out
            clear hst h1
            have ht01 : (t : Int).tmod 2 = 1 ∨ (t : Int).tmod 2 = 0 := by rw [Int.tmod_eq_emod_of_nonneg (by omega)]; omega
            have hdone : ∀ h : (t : Int).tmod 2 = 1, ¬ (k : Int) + (j : Int) < 8 * (l.length : Int) := by
              intro h
              rw [Int.tmod_eq_emod_of_nonneg (by omega)] at h
              omega
            rcases ht01 with h01 | h01
            · have h02 := hdone h01
              clear hcond hdone hc
              go_wp2
              go_roundw
              case rel => exact ⟨j + 1, t', b, c, by omega, htl', by go_num, by rw [← ht']; rfl, hsucc, rfl, HB2, HB, hO, hkeep⟩
              case measure => simp [intOf]; omega
            · clear hcond hdone hc
              go_wp2
              go_roundw
              case rel => exact ⟨j + 1, t', b, c, by omega, htl', by go_num, by rw [← ht']; rfl, hsucc, rfl, HB2, HB, hO, hkeep⟩
              case measure => simp [intOf]; omega
        · obtain rfl : j = 32 := by omega
          have hfin := hB.out.done hkl
          have hbb := hO.out.bytes (by rw [hB.out.1]; exact hm)
          have hs1 := sum_lt l
          have hb2 := hb.out
          have hch : ((Crc.sum (nats c) : Int) != (Crc.sum (nats l) : Int)) = b := by
            rw [hb2]
            by_cases h : Crc.sum (nats c) = Crc.sum (nats l)
            · rw [h, hfin.1 h]; simp
            · have h2 := mt hfin.2 h
              have h3 : ((Crc.sum (nats c) : Int) == (Crc.sum (nats l) : Int)) = false := beq_false_of_ne (by omega)
              show (!_) = _
              rw [h3]; simp [h2]
          clear hb2 hfin
          go_wp2_with fail
          refine (sum_any _ c _ hbb).mono ?_
          rintro e w2 ⟨rfl, hk2⟩
          have hC2 := hkeep.trans hk2
          clear hbb hk2
          go_wp2_with fail
          refine (sum_any _ l _ (hv.keep hC2 (by simp))).mono ?_
          rintro e w3 ⟨rfl, hk3⟩
          have hC3 := hC2.trans hk3
          clear hk3 hC2
          generalize Crc.sum (nats c) = s1 at hch
          generalize Crc.sum (nats l) = s2 at hch hs1
          go_wp2_with fail
          refine (awake_any _).mono ?_
          rintro e w4 ⟨rfl, hk4⟩
          have hC4 := hC3.trans hk4
          go_wp2_with fail
          go_ret
          exact ⟨rfl, hC4.below (Nat.le_refl _) (by simp)⟩
end Go.Proofs.Ytnpfjpdbfjeegaa
