import Derived.Test.YtpodbekiaagfcaaFlash10
import Derived.Test.YtpodbekiaagfcaaBools
import Derived.Outline
/-! The walk of the law FlashActs. -/
namespace Go.Proofs.Ytpodbekiaagfcaa
open Go.RowKit Sg
set_option linter.unusedSimpArgs false
set_option linter.unusedVariables false

/-- where a device is that goes down at its k-th act, behind i acts that were asked for -/
structure Fa (k i : Nat) (m : Dev) : Prop where
  n : m.n = 1
  sz : m.sz = 96
  acts : m.acts = min i k
  armed : m.armed = k - i
  down : m.down = decide (k ≤ i)
theorem Fa.ready {k i : Nat} {m : Dev} (h : Fa k i m) : m.ready 0 = if k ≤ i then 4 else 0 := by
  unfold Dev.ready
  rw [h.down, h.n]
  by_cases h1 : k ≤ i
  · simp [h1]
  · simp [h1]
theorem Fa.act {k i : Nat} {m : Dev} (h : Fa k i m) (hi : i < k) : Fa k (i + 1) m.act := by
  refine ⟨h.n, h.sz, ?_, ?_, ?_⟩
  · show m.acts + 1 = _
    rw [h.acts]; omega
  · show m.armed - 1 = _
    rw [h.armed]; omega
  · show (if 0 < m.armed then decide (m.armed = 1) else m.down) = _
    rw [h.armed, if_pos (by omega)]
    by_cases h1 : k ≤ i + 1
    · rw [decide_eq_true h1, decide_eq_true (by omega)]
    · rw [decide_eq_false h1, decide_eq_false (by omega)]
theorem Fa.stay {k i : Nat} {m : Dev} (h : Fa k i m) (hi : k ≤ i) : Fa k (i + 1) m := by
  refine ⟨h.n, h.sz, ?_, ?_, ?_⟩
  · rw [h.acts]; omega
  · rw [h.armed]; omega
  · rw [h.down, decide_eq_true hi, decide_eq_true (by omega)]
theorem Fa.same {k i : Nat} {m m' : Dev} (h : Fa k i m) (h1 : m'.n = m.n) (h2 : m'.sz = m.sz) (h3 : m'.acts = m.acts) (h4 : m'.armed = m.armed) (h5 : m'.down = m.down) : Fa k i m' :=
  ⟨h1.trans h.n, h2.trans h.sz, h3.trans h.acts, h4.trans h.armed, h5.trans h.down⟩
theorem Fa.sync {k i : Nat} {m : Dev} (h : Fa k i m) : Fa k (i + 1) m.sync.1 ∧ m.sync.2 = if i + 1 < k then 0 else 4 := by
  unfold Dev.sync
  by_cases h1 : k ≤ i
  · rw [if_pos (by rw [h.down]; simpa using h1)]
    exact ⟨h.stay h1, by rw [if_neg (by omega)]⟩
  · have ha := h.act (by omega)
    rw [if_neg (by rw [h.down]; simpa using h1)]
    by_cases h2 : k ≤ i + 1
    · rw [if_pos (by rw [ha.down]; simpa using h2)]
      exact ⟨ha, by rw [if_neg (by omega)]⟩
    · rw [if_neg (by rw [ha.down]; simpa using h2)]
      exact ⟨ha.same rfl rfl rfl rfl rfl, by rw [if_pos (by omega)]⟩
theorem Fa.put {k i : Nat} {m : Dev} (h : Fa k i m) {l : List UInt8} (hl : l.length = 96) : Fa k (i + 1) (m.put 0 l).1 ∧ (m.put 0 l).2 = if i + 1 < k then 0 else 4 := by
  unfold Dev.put
  have hr := h.ready
  by_cases h1 : k ≤ i
  · rw [if_pos h1] at hr
    rw [if_pos (by rw [hr]; simp)]
    exact ⟨h.stay h1, by rw [hr, if_neg (by omega)]⟩
  · have ha := h.act (by omega)
    rw [if_neg h1] at hr
    rw [if_neg (by rw [hr]; simp), if_neg (by rw [hl, h.sz]; simp)]
    refine ⟨ha.same rfl rfl rfl rfl rfl, ?_⟩
    by_cases h2 : k ≤ i + 1
    · rw [if_pos (by rw [ha.down]; simpa using h2), if_neg (by omega)]
    · rw [if_neg (by rw [ha.down]; simpa using h2), if_pos (by omega)]
theorem Fa.start (k : Nat) (hk : 1 ≤ k) : Fa k 0 ((Dev.new 1 96).arm (k : Int)) := by
  refine ⟨rfl, rfl, by simp [Dev.arm, Dev.new], by simp [Dev.arm], ?_⟩
  show false = _
  rw [decide_eq_false (by omega)]

set_option maxRecDepth 100000 in
set_option maxHeartbeats 1000000 in
set_option maxHeartbeats 8000000 in
theorem flashActsWalk (W : World) (a : Int) (wa : (Lit.int .u8 a).wf = true) (v1 : Value) (l1 : List Bool) (b1 : Bools W v1 l1) :
    Calls Try.prog 4 #[.int .u8 a, v1] W fun e W' => e = .returned (.bool true) ∧ Below W.heap.size W W' := by
  obtain ⟨n, rfl, hn⟩ := u8_nat wa
  obtain ⟨ao1, cap1, rfl, hlc1, hm1, hcap1⟩ := b1.form
  by_cases h1 : 100 < l1.length
  · have h1' : (100 : Int) < (l1.length : Int) := by omega
    go_enter Try.func4, Try.ntmps4
    go_wp2
    go_ret
    exact ⟨rfl, (Keep.refl [] W).below (Nat.le_refl _) (by simp)⟩
  have h1' : ¬ (100 : Int) < (l1.length : Int) := by omega
  obtain ⟨q, hq⟩ : ∃ q, n % 100 = q := ⟨_, rfl⟩
  have e1 : ((n : Int).tmod 100) = (q : Int) := by rw [Int.tmod_eq_emod_of_nonneg (by omega)]; omega
  have hq1 : q < 100 := by omega
  clear hq
  obtain ⟨k, hk⟩ : ∃ k, q + 1 = k := ⟨_, rfl⟩
  have hk1 : 1 ≤ k ∧ k ≤ 100 := by omega
  have e2 : (q : Int) + 1 = (k : Int) := by omega
  clear hk
  have cN : Calls Try.prog 12 #[.int .i64 1, .int .i64 96] W _ := newDev_any 1 96 (by decide) W
  have cF := fun w => (show Calls Try.prog 20 #[.int .u8 (n : Int), .int .i64 96] w _ from (by
    have := full_any (UInt8.ofNat n) 96 (by decide) w
    rw [show ((UInt8.ofNat n).toNat : Int) = (n : Int) by rw [UInt8.toNat_ofNat']; omega] at this
    exact this))
  have HB1 := Lib.hid b1
  have HCF := Lib.hid cF
  clear b1 cF
  go_enter Try.func4, Try.ntmps4
  go_wp2_with fail
  refine cN.mono ?_
  rintro e w1 ⟨g, D, rfl, hD, hk1w, hf⟩
  clear cN
  go_wp2_with fail
  refine (arm_any w1 D g _ hD (k : Int) (by omega)).mono ?_
  rintro e w2 ⟨rfl, hD2, hK2⟩
  obtain ⟨hk2w, hf2⟩ := dev_step hk1w hf (Grew.refl _ _) hK2
  have hFa := Fa.start k hk1.1
  generalize (Dev.new 1 96).arm (k : Int) = m2 at hD2 hFa
  clear hD hk1w hf hK2 e1 e2
  go_wp2
  go_loopw [7] (fun i wr => ∃ (j : Nat) (m : Dev) (D' : List Nat), j ≤ l1.length ∧ i = .int .i64 j ∧ Hid (DV wr D' g m) ∧ Hid (Fa k j m) ∧ Hid (∀ b ∈ D', W.heap.size ≤ b) ∧ Hid (Keep [] W wr)) (fun i _ => l1.length - (intOf i).toNat)
  case atStart => exact ⟨0, m2, D, by omega, rfl, hD2, hFa, hf2, hk2w⟩
  case round =>
    obtain ⟨j, m, D', hj, rfl, HD, HF, HO, HW⟩ := hrel
    have hacts : m.acts ≤ 1000000000 := by rw [HF.out.acts]; omega
    by_cases hlt : j < l1.length
    · obtain ⟨fb, fo, rfl, -, hfc⟩ := (HB1.out.keep HW.out (by simp)).spot (by omega)
      have hfj := hfc j hlt
      obtain ⟨b, hb⟩ : ∃ b, l1[j] = b := ⟨_, rfl⟩
      rw [hb] at hfj
      have hcode : ∀ {c : Nat} {m' : Dev}, Fa k (j + 1) m' → c = (if j + 1 < k then 0 else 4) → (j + 1 < k ∧ c = 0 ∧ m'.down = false) ∨ (¬ j + 1 < k ∧ c = 4 ∧ m'.down = true) := by
        intro c m' hm hc
        by_cases h2 : j + 1 < k
        · exact .inl ⟨h2, by rw [hc, if_pos h2], by rw [hm.down]; exact decide_eq_false (by omega)⟩
        · exact .inr ⟨h2, by rw [hc, if_neg h2], by rw [hm.down]; exact decide_eq_true (by omega)⟩
      clear hfc hb
      cases b with
      | true =>
        obtain ⟨hF', hc⟩ := HF.out.sync
        have hsync := sync_any wr D' g m HD.out hacts
        have hcc := hcode hF' hc
        clear hcode hc
        go_wp2_with fail
        refine hsync.mono ?_
        rintro e w3 ⟨rfl, D3, hD3, hG3, hK3⟩
        obtain ⟨hkw3, hf3⟩ := dev_step HW.out HO.out hG3 hK3
        have hdn := down_any w3 D3 g _ hD3
        clear hsync hG3 hK3
        generalize m.sync.2 = c at *
        generalize m.sync.1 = m' at *
        rcases hcc with ⟨h2, rfl, hd⟩ | ⟨h2, rfl, hd⟩
        · have h2a : (j : Int) < (k : Int) - 1 := by omega
          have h2b : ¬ ((k : Int) - 1 ≤ (j : Int)) := by omega
          rw [hd] at hdn
          go_wp2_with fail
          refine hdn.mono ?_
          rintro e w4 ⟨rfl, rfl⟩
          clear hdn
          go_wp2
          go_roundw
          case rel => exact ⟨j + 1, m', D3, by omega, by go_num, hD3, hF', hf3, hkw3⟩
          case measure => simp [intOf]; omega
        · have h2a : ¬ ((j : Int) < (k : Int) - 1) := by omega
          have h2b : (k : Int) - 1 ≤ (j : Int) := by omega
          rw [hd] at hdn
          go_wp2_with fail
          refine hdn.mono ?_
          rintro e w4 ⟨rfl, rfl⟩
          clear hdn
          go_wp2
          go_roundw
          case rel => exact ⟨j + 1, m', D3, by omega, by go_num, hD3, hF', hf3, hkw3⟩
          case measure => simp [intOf]; omega
      | false =>
        obtain ⟨L, hL⟩ : ∃ L, List.replicate 96 (UInt8.ofNat n) = L := ⟨_, rfl⟩
        have hLl : L.length = 96 := by rw [← hL]; simp
        have hF0 := HCF.out wr
        rw [hL] at hF0
        obtain ⟨hF', hc⟩ := HF.out.put hLl
        have hcc := hcode hF' hc
        clear hcode hc hL
        go_wp2_with fail
        refine hF0.mono ?_
        rintro e w2 ⟨v2, rfl, ho2, hk2⟩
        have hkw2 := HW.out.trans hk2
        have hwr := write_any w2 D' g m (HD.out.keep hk2 (by simp)) hacts 0 v2 L (ho2.bytes (by omega))
        clear hF0 ho2
        go_wp2_with fail
        refine hwr.mono ?_
        rintro e w3 ⟨rfl, D3, hD3, hG3, hK3⟩
        obtain ⟨hkw3, hf3⟩ := dev_step hkw2 HO.out hG3 hK3
        have hdn := down_any w3 D3 g _ hD3
        clear hwr hG3 hK3 hk2 hkw2
        generalize (m.put 0 L).2 = c at *
        generalize (m.put 0 L).1 = m' at *
        rcases hcc with ⟨h2, rfl, hd⟩ | ⟨h2, rfl, hd⟩
        · have h2a : (j : Int) < (k : Int) - 1 := by omega
          have h2b : ¬ ((k : Int) - 1 ≤ (j : Int)) := by omega
          rw [hd] at hdn
          go_wp2_with fail
          refine hdn.mono ?_
          rintro e w4 ⟨rfl, rfl⟩
          clear hdn
          go_wp2
          go_roundw
          case rel => exact ⟨j + 1, m', D3, by omega, by go_num, hD3, hF', hf3, hkw3⟩
          case measure => simp [intOf]; omega
        · have h2a : ¬ ((j : Int) < (k : Int) - 1) := by omega
          have h2b : (k : Int) - 1 ≤ (j : Int) := by omega
          rw [hd] at hdn
          go_wp2_with fail
          refine hdn.mono ?_
          rintro e w4 ⟨rfl, rfl⟩
          clear hdn
          go_wp2
          go_roundw
          case rel => exact ⟨j + 1, m', D3, by omega, by go_num, hD3, hF', hf3, hkw3⟩
          case measure => simp [intOf]; omega
    · have hle : j = l1.length := by omega
      have hact := acts_any wr D' g m HD.out
      rw [HF.out.acts, hle] at hact
      clear hle
      have hor : k < l1.length ∨ k = l1.length ∨ l1.length < k := by omega
      rcases hor with hl | hl | hl
      · rw [show min l1.length k = k by omega] at hact
        have t1 : (k : Int) < (l1.length : Int) := by omega
        have t2 : ¬ (l1.length : Int) ≤ (k : Int) := by omega
        have t3 : ¬ (l1.length : Int) < (k : Int) := by omega
        go_wp2_with fail
        refine hact.mono ?_
        rintro e w4 ⟨rfl, rfl⟩
        clear hact
        go_wp2_with fail
        refine (awake04_any _).mono ?_
        rintro e w5 ⟨rfl, hk5⟩
        go_wp2
        go_ret
        exact ⟨rfl, (HW.out.trans hk5).below (Nat.le_refl _) (by simp)⟩
      · rw [← hl] at hact
        rw [show min k k = k by omega] at hact
        rw [← hl]
        go_wp2_with fail
        refine hact.mono ?_
        rintro e w4 ⟨rfl, rfl⟩
        clear hact
        go_wp2_with fail
        refine (awake04_any _).mono ?_
        rintro e w5 ⟨rfl, hk5⟩
        go_wp2
        go_ret
        exact ⟨rfl, (HW.out.trans hk5).below (Nat.le_refl _) (by simp)⟩
      · rw [show min l1.length k = l1.length by omega] at hact
        have t1 : ¬ (k : Int) < (l1.length : Int) := by omega
        have t2 : (l1.length : Int) ≤ (k : Int) := by omega
        have t3 : (l1.length : Int) < (k : Int) := by omega
        go_wp2_with fail
        refine hact.mono ?_
        rintro e w4 ⟨rfl, rfl⟩
        clear hact
        go_wp2_with fail
        refine (awake04_any _).mono ?_
        rintro e w5 ⟨rfl, hk5⟩
        go_wp2
        go_ret
        exact ⟨rfl, (HW.out.trans hk5).below (Nat.le_refl _) (by simp)⟩
end Go.Proofs.Ytpodbekiaagfcaa
