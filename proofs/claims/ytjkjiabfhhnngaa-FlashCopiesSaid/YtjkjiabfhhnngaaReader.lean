import Derived.Test.YtjkjiabfhhnngaaWire
/-! The walks of wire's reader. -/
namespace Go.Proofs.Ytjkjiabfhhnngaa
open Go.RowKit Sg

/-- a reader at block g, since the world W -/
def RS (W w : World) (g : Nat) (xs : List UInt8) (bad : Bool) : Prop :=
  Keep [] W w ∧ W.heap.size ≤ g ∧ ∃ v, w.heap[g]? = some (.cells #[v, .bool bad] 269 (0, 0)) ∧ Bytes w v xs ∧ xs.length ≤ 1000000
theorem RS.keep {W w w' : World} {g : Nat} {xs : List UInt8} {bad : Bool} (h : RS W w g xs bad) (k : Keep [] w w') : RS W w' g xs bad := by
  obtain ⟨h1, h2, v, h3, h4, h5⟩ := h
  exact ⟨h1.trans k, h2, v, k.blk (by simp) h3, h4.keep k (by simp), h5⟩
theorem reader_no_u8 (a : Nat × Option Addr × Nat) (b : Bool) : ∀ (i : Nat) (x : Value), (#[Value.slice a.2.1 a.1 a.2.2, Value.bool b] : Array Value)[i]? = some x → ∀ n : Int, x ≠ Value.int .u8 n := by
  intro i x hx n e
  subst e
  match i, hx with
  | 0, h => simp at h
  | 1, h => simp at h
  | i + 2, h => simp at h

set_option maxRecDepth 100000 in
set_option maxHeartbeats 1000000 in
theorem newReader_any (v : Value) (l : List UInt8) (w : World) (hv : Bytes w v l) (hl : l.length ≤ 1000000) : Calls Try.prog 141 #[v] w fun e w' => ∃ g, e = .returned (.pointer (some ⟨g, 0, none⟩)) ∧ RS w w' g l false := by
  go_enter Try.func141, Try.ntmps141
  go_wp2_with fail
  refine (clone_any v l w hv).mono ?_
  rintro e w2 ⟨v2, rfl, ho, hk⟩
  have hb := ho.bytes (by omega)
  obtain ⟨ao, cap, rfl, -⟩ := hb.form
  go_wp2_with fail
  go_ret
  exact ⟨_, rfl, hk.alloc _, hk.size, _, heap_alloc_new _ _, hb.keep ((Keep.refl [] _).alloc _) (by simp), hl⟩

set_option maxRecDepth 100000 in
set_option maxHeartbeats 1000000 in
theorem bad_any (W w : World) (g : Nat) (xs : List UInt8) (bad : Bool) (hr : RS W w g xs bad) : Calls Try.prog 144 #[.pointer (some ⟨g, 0, none⟩)] w fun e w' => e = .returned (.bool bad) ∧ w = w' := by
  obtain ⟨hK, hg, v, hb, hv, hl⟩ := hr
  have c1 := cell_of_row w _ 1 _ _ _ hb
  simp at c1
  go_enter Try.func144, Try.ntmps144
  go_wp2
  go_ret
  exact ⟨rfl, rfl⟩

set_option maxRecDepth 100000 in
set_option maxHeartbeats 1000000 in
theorem readRaw_ok (W w : World) (g : Nat) (xs : List UInt8) (bad : Bool) (hr : RS W w g xs bad) (n : Nat) (hn : n ≤ xs.length) :
    Calls Try.prog 143 #[.pointer (some ⟨g, 0, none⟩), .int .i64 n] w fun e w' => ∃ v', e = .returned v' ∧ OwnB w' w.heap.size 5 v' (xs.take n) ∧ RS W w' g (xs.drop n) bad ∧ Keep [g] w w' := by
  obtain ⟨hK, hg, v, hb, hv, hl⟩ := hr
  obtain ⟨ao, cap, rfl, hlc, hm, hcap⟩ := hv.form
  have c0 := cell_of_row w _ 0 _ _ _ hb
  simp at c0
  have hn1 : (n : Int) ≤ (xs.length : Int) := by omega
  have hn2 : (n : Int) ≤ (cap : Int) := by omega
  go_enter Try.func143, Try.ntmps143
  go_wp2_with fail
  refine (clone_any _ (xs.take n) w (hv.take hn)).mono ?_
  rintro e w2 ⟨v2, rfl, ho, hk⟩
  have hb2 := hk.blk (by simp) hb
  have c0 := cell_of_row w2 _ 0 _ _ _ hb2
  have f0 := frozen_of_row w2 _ 0 _ _ hb2
  simp at c0
  have hd := (hv.keep hk (by simp)).drop hn
  by_cases hcn : cap = n
  · rw [if_pos hcn, hcn, Nat.sub_self] at hd
    have hd2 := fun u => hd.setCell (p := ⟨g, 0, none⟩) (fun h => hd.ne_row h hb2 (reader_no_u8 (xs.length, ao, cap) bad)) u
    have hne := ho.ne_row hb2 (by decide)
    have hb3 := heap_setCell_same w2 g 0 _ _ (.slice ao (xs.length - n) 0) hb2
    have HB3 := Lib.hid hb3
    have HD := Lib.hid hd2
    have HO := Lib.hid ho
    clear hb hb2 hb3 hd hd2 hv ho
    go_wp2_with fail
    go_ret
    exact ⟨v2, rfl, ownsRow_setCell_other HO.out hne _, ⟨(hK.trans hk).setCell (.inr hg) _, hg, _, HB3.out, HD.out _, by simp; omega⟩, (hk.mono (by simp)).setCell (.inl (by simp)) _⟩
  · rw [if_neg hcn] at hd
    have hd2 := fun u => hd.setCell (p := ⟨g, 0, none⟩) (fun h => hd.ne_row h hb2 (reader_no_u8 (xs.length, ao, cap) bad)) u
    have hne := ho.ne_row hb2 (by decide)
    have hb3 := heap_setCell_same w2 g 0 _ _ (.slice (ao.map (·.add n)) (xs.length - n) (cap - n)) hb2
    have HB3 := Lib.hid hb3
    have HD := Lib.hid hd2
    have HO := Lib.hid ho
    clear hb hb2 hb3 hd hd2 hv ho
    go_wp2_with fail
    go_ret
    exact ⟨v2, rfl, ownsRow_setCell_other HO.out hne _, ⟨(hK.trans hk).setCell (.inr hg) _, hg, _, HB3.out, HD.out _, by simp; omega⟩, (hk.mono (by simp)).setCell (.inl (by simp)) _⟩

set_option maxRecDepth 100000 in
set_option maxHeartbeats 1000000 in
theorem readRaw_bad (W w : World) (g : Nat) (xs : List UInt8) (bad : Bool) (hr : RS W w g xs bad) (n : Int) (hn : n < 0 ∨ (xs.length : Int) < n) :
    Calls Try.prog 143 #[.pointer (some ⟨g, 0, none⟩), .int .i64 n] w fun e w' => e = .returned (.slice none 0 0) ∧ RS W w' g [] true ∧ Keep [g] w w' := by
  obtain ⟨hK, hg, v, hb, hv, hl⟩ := hr
  obtain ⟨ao, cap, rfl, hlc, hm, hcap⟩ := hv.form
  have c0 := cell_of_row w _ 0 _ _ _ hb
  have c1 := cell_of_row w _ 1 _ _ _ hb
  have f0 := frozen_of_row w _ 0 _ _ hb
  have f1 := frozen_of_row w _ 1 _ _ hb
  simp at c0 c1
  have hb2 := heap_setCell_same _ g 1 _ _ (.bool true) (heap_setCell_same w g 0 _ _ (.slice none 0 0) hb)
  have HB := Lib.hid hb2
  clear hb hb2
  rcases (by omega : n < 0 ∨ (¬ n < 0 ∧ (xs.length : Int) < n)) with h | ⟨h, h2⟩
  all_goals
    go_enter Try.func143, Try.ntmps143
    go_wp2
    go_ret
    exact ⟨rfl, ⟨(hK.setCell (.inr hg) _).setCell (.inr hg) _, hg, _, HB.out, Bytes.nil _, by simp⟩, ((Keep.refl [g] w).setCell (.inl (by simp)) _).setCell (.inl (by simp)) _⟩

/-- the number of bytes, the least first -/
def leOf : List UInt8 → Nat
  | [] => 0
  | x :: l => x.toNat + 256 * leOf l
theorem leOf_lt : ∀ l : List UInt8, leOf l < 256 ^ l.length
  | [] => by simp [leOf]
  | x :: l => by
    have h1 := leOf_lt l
    have h2 := x.toNat_lt
    simp only [leOf, List.length_cons, Nat.pow_succ]
    omega
theorem leOf_snoc : ∀ (l : List UInt8) (x : UInt8), leOf (l ++ [x]) = leOf l + x.toNat * 256 ^ l.length
  | [], x => by simp [leOf]
  | y :: l, x => by
    simp only [List.cons_append, leOf, leOf_snoc l x, List.length_cons, Nat.pow_succ]
    rw [Nat.mul_add]
    have : 256 * (x.toNat * 256 ^ l.length) = x.toNat * (256 ^ l.length * 256) := by ac_rfl
    omega

theorem shl_or (m x j : Nat) (hj : j ≤ 7) (hm : m < 256 ^ j) (hx : x < 256) : bits BinOp.or IntKind.u64 (m : Int) (IntKind.u64.wrap ((x : Int) * 2 ^ (8 * j))) = ((m + x * 256 ^ j : Nat) : Int) ∧ m + x * 256 ^ j < 18446744073709551616 := by
  have hp : 256 ^ j = 2 ^ (8 * j) := by rw [Nat.pow_mul]
  have hle : 2 ^ (8 * j) ≤ 2 ^ 56 := Nat.pow_le_pow_right (by decide) (by omega)
  rw [hp] at hm ⊢
  have hxl : x * 2 ^ (8 * j) + 2 ^ (8 * j) ≤ 256 * 2 ^ (8 * j) := by
    rw [← Nat.succ_mul]
    exact Nat.mul_le_mul_right _ (by omega)
  have e1 : ((x : Int) * 2 ^ (8 * j)) = ((x * 2 ^ (8 * j) : Nat) : Int) := by simp
  have hor : m ||| x * 2 ^ (8 * j) = m + x * 2 ^ (8 * j) := by
    have := Nat.two_pow_add_eq_or_of_lt hm x
    rw [Nat.mul_comm x, Nat.add_comm, this, Nat.or_comm]
  generalize x * 2 ^ (8 * j) = y at *
  generalize 2 ^ (8 * j) = z at *
  rw [e1, u64_wrap]
  have e2 : (y : Int) % 18446744073709551616 = (y : Int) := by omega
  rw [e2, u64_or_nat _ _ (by omega) (by omega), hor]
  exact ⟨rfl, by omega⟩

set_option maxRecDepth 100000 in
set_option maxHeartbeats 1000000 in
theorem readNumber_ok (W w : World) (g : Nat) (xs : List UInt8) (bad : Bool) (hr : RS W w g xs bad) (k : Nat) (hk : k = 1 ∨ k = 2 ∨ k = 4 ∨ k = 8) (hn : k ≤ xs.length) :
    Calls Try.prog 142 #[.pointer (some ⟨g, 0, none⟩), .int .i64 k] w fun e w' => e = .returned (.int .u64 (leOf (xs.take k) : Int)) ∧ RS W w' g (xs.drop k) bad ∧ Keep [g] w w' := by
  have hlen : (xs.take k).length = k := by rw [List.length_take]; omega
  obtain ⟨ys, hys⟩ : ∃ ys, xs.take k = ys := ⟨_, rfl⟩
  rw [hys] at hlen ⊢
  go_enter Try.func142, Try.ntmps142
  go_wp2_with fail
  refine (may_ok k hk w).mono ?_
  rintro e w1 ⟨rfl, rfl⟩
  go_wp2_with fail
  refine (readRaw_ok W w g xs bad hr k hn).mono ?_
  rintro e w2 ⟨v2, rfl, ho, hr2, hkg⟩
  rw [hys] at ho
  have hb := ho.bytes (by omega)
  obtain ⟨ao, cap, rfl, -⟩ := hb.form
  have HY := Lib.hid hys
  have hk8 : ys.length ≤ 8 := by omega
  clear ho hys
  go_wp2
  go_loop [5, 15] (fun x i => ∃ j m : Nat, j ≤ ys.length ∧ m < 18446744073709551616 ∧ x = .int .u64 m ∧ i = .int .i64 j ∧ Hid (m = leOf (ys.take j))) (fun _ i => ys.length - (intOf i).toNat)
  case atStart => exact ⟨0, 0, by omega, by omega, rfl, rfl, by simp [Hid, leOf]⟩
  case round =>
    obtain ⟨j, m, hj, hm, rfl, rfl, hmm⟩ := hrel
    by_cases hlt : j < ys.length
    · obtain ⟨b, o, rfl, -, hc⟩ := hb.spot (by omega)
      have hcj := hc j hlt
      have hx := ys[j].toNat_lt
      have hlt' : (j : Int) < (ys.length : Int) := by omega
      have hml : m < 256 ^ j := by
        have := leOf_lt (ys.take j)
        rw [List.length_take, Nat.min_eq_left (by omega)] at this
        rw [hmm.out]
        exact this
      have hsh := shl_or m ys[j].toNat j (by omega) hml (by omega)
      have hnx : Hid (m + ys[j].toNat * 256 ^ j = leOf (ys.take (j + 1))) := by
        show _ = _
        rw [List.take_succ_eq_append_getElem hlt, leOf_snoc, List.length_take, Nat.min_eq_left (by omega), hmm.out]
      obtain ⟨m', hm'⟩ : ∃ m', m + ys[j].toNat * 256 ^ j = m' := ⟨_, rfl⟩
      rw [hm'] at hsh hnx
      obtain ⟨hs1, hs2⟩ := hsh
      have HS1 := Lib.hid hs1
      clear hs1 hm'
      go_wp2
      go_round
      case rel => exact ⟨j + 1, m', by omega, hs2, by rw [HS1.out], by go_num, hnx⟩
      case measure => simp [intOf]; omega
    · obtain rfl : j = ys.length := by omega
      go_wp2
      go_ret
      refine ⟨?_, hr2, hkg⟩
      have := hmm.out
      rw [List.take_length] at this
      subst this
      rfl

set_option maxRecDepth 100000 in
set_option maxHeartbeats 1000000 in
theorem readNumber_bad (W w : World) (g : Nat) (xs : List UInt8) (bad : Bool) (hr : RS W w g xs bad) (k : Nat) (hk : k = 1 ∨ k = 2 ∨ k = 4 ∨ k = 8) (hn : xs.length < k) :
    Calls Try.prog 142 #[.pointer (some ⟨g, 0, none⟩), .int .i64 k] w fun e w' => e = .returned (.int .u64 0) ∧ RS W w' g [] true ∧ Keep [g] w w' := by
  go_enter Try.func142, Try.ntmps142
  go_wp2_with fail
  refine (may_ok k hk w).mono ?_
  rintro e w1 ⟨rfl, rfl⟩
  go_wp2_with fail
  refine (readRaw_bad W w g xs bad hr k (by omega)).mono ?_
  rintro e w2 ⟨rfl, hr2, hkg⟩
  go_wp2
  go_loop [5, 15] (fun x i => x = .int .u64 0 ∧ i = .int .i64 0) (fun _ _ => 0)
  case atStart => exact ⟨rfl, rfl⟩
  case round =>
    obtain ⟨rfl, rfl⟩ := hrel
    go_wp2
    go_ret
    exact ⟨rfl, hr2, hkg⟩

/-! ### In one -/
def rdN (s : List UInt8 × Bool) (k : Nat) : Nat × List UInt8 × Bool := if k ≤ s.1.length then (leOf (s.1.take k), s.1.drop k, s.2) else (0, [], true)
def rdR (s : List UInt8 × Bool) (n : Nat) : List UInt8 × List UInt8 × Bool := if n ≤ s.1.length then (s.1.take n, s.1.drop n, s.2) else ([], [], true)
theorem rdN_lt (s : List UInt8 × Bool) (k : Nat) : (rdN s k).1 < 256 ^ k := by
  unfold rdN
  split
  · rename_i h
    have := leOf_lt (s.1.take k)
    rw [List.length_take, Nat.min_eq_left h] at this
    exact this
  · exact Nat.pow_pos (by decide)

theorem readNumber_any (W w : World) (g : Nat) (s : List UInt8 × Bool) (hr : RS W w g s.1 s.2) (k : Nat) (hk : k = 1 ∨ k = 2 ∨ k = 4 ∨ k = 8) :
    Calls Try.prog 142 #[.pointer (some ⟨g, 0, none⟩), .int .i64 k] w fun e w' => e = .returned (.int .u64 ((rdN s k).1 : Int)) ∧ RS W w' g (rdN s k).2.1 (rdN s k).2.2 ∧ Keep [g] w w' := by
  by_cases h : k ≤ s.1.length
  · refine (readNumber_ok W w g s.1 s.2 hr k hk h).mono ?_
    rintro e w' ⟨rfl, h2⟩
    rw [show rdN s k = (leOf (s.1.take k), s.1.drop k, s.2) from if_pos h]
    exact ⟨rfl, h2⟩
  · refine (readNumber_bad W w g s.1 s.2 hr k hk (by omega)).mono ?_
    rintro e w' ⟨rfl, h2⟩
    rw [show rdN s k = (0, [], true) from if_neg h]
    exact ⟨rfl, h2⟩
theorem readRaw_any (W w : World) (g : Nat) (s : List UInt8 × Bool) (hr : RS W w g s.1 s.2) (n : Nat) :
    Calls Try.prog 143 #[.pointer (some ⟨g, 0, none⟩), .int .i64 n] w fun e w' => ∃ v', e = .returned v' ∧ OwnB w' w.heap.size 5 v' (rdR s n).1 ∧ RS W w' g (rdR s n).2.1 (rdR s n).2.2 ∧ Keep [g] w w' := by
  by_cases h : n ≤ s.1.length
  · refine (readRaw_ok W w g s.1 s.2 hr n h).mono ?_
    rintro e w' ⟨v', rfl, h2, h3⟩
    rw [show rdR s n = (s.1.take n, s.1.drop n, s.2) from if_pos h]
    exact ⟨v', rfl, h2, h3⟩
  · refine (readRaw_bad W w g s.1 s.2 hr n (by omega)).mono ?_
    rintro e w' ⟨rfl, h2⟩
    rw [show rdR s n = ([], [], true) from if_neg h]
    exact ⟨_, rfl, OwnB.nil _ _ _, h2⟩
end Go.Proofs.Ytjkjiabfhhnngaa
