import Derived.Test.YtcmkcegnfddccaaRecUnpack
/-! What a record's bytes read as: the plain law. -/
namespace Go.Proofs.Ytcmkcegnfddccaa
open Go.RowKit Sg

theorem rdN_eq {s : List UInt8 × Bool} {k : Nat} (h : k ≤ s.1.length) : rdN s k = (leOf (s.1.take k), s.1.drop k, s.2) := if_pos h
theorem rdR_eq {s : List UInt8 × Bool} {n : Nat} (h : n ≤ s.1.length) : rdR s n = (s.1.take n, s.1.drop n, s.2) := if_pos h
theorem rdR_good2 {s : List UInt8 × Bool} {n : Nat} (h : (rdR s n).2.2 = false) : s.2 = false ∧ n ≤ s.1.length := by
  unfold rdR at h
  split at h
  · exact ⟨h, by assumption⟩
  · cases h

/-- enough bytes: what they read as -/
theorem rdAll_eq (l : List UInt8) (kn vn : Nat) (hk : leOf ((l.drop 1).take 1) = kn) (hv : leOf ((l.drop 2).take 2) = vn) (hl : 13 + kn + vn ≤ l.length) :
    rdAll l = ⟨leOf (l.take 1), kn, vn, leOf ((l.drop 4).take 8), leOf ((l.drop (12 + kn + vn)).take 1), (l.drop 12).take kn, (l.drop (12 + kn)).take vn, false⟩ := by
  unfold rdAll
  have e1 : rdN (l, false) 1 = (leOf (l.take 1), l.drop 1, false) := rdN_eq (by simp; omega)
  have e2 : rdN (l.drop 1, false) 1 = (kn, l.drop 2, false) := by rw [rdN_eq (by simp; omega)]; simp only [hk, List.drop_drop]
  have e3 : rdN (l.drop 2, false) 2 = (vn, l.drop 4, false) := by rw [rdN_eq (by simp; omega)]; simp only [hv, List.drop_drop]
  have e4 : rdN (l.drop 4, false) 8 = (leOf ((l.drop 4).take 8), l.drop 12, false) := by rw [rdN_eq (by simp; omega)]; simp only [List.drop_drop]
  have e5 : rdR (l.drop 12, false) kn = ((l.drop 12).take kn, l.drop (12 + kn), false) := by rw [rdR_eq (by simp; omega)]; simp only [List.drop_drop]
  have e6 : rdR (l.drop (12 + kn), false) vn = ((l.drop (12 + kn)).take vn, l.drop (12 + kn + vn), false) := by rw [rdR_eq (by simp; omega)]; simp only [List.drop_drop]
  have e7 : rdN (l.drop (12 + kn + vn), false) 1 = (leOf ((l.drop (12 + kn + vn)).take 1), l.drop (13 + kn + vn), false) := by
    rw [rdN_eq (by simp; omega)]; simp only [List.drop_drop]
    rw [show 12 + kn + vn + 1 = 13 + kn + vn by omega]
  simp only [e1, e2, e3, e4, e5, e6, e7]

/-- read without a fault: enough bytes -/
theorem rdAll_long (l : List UInt8) (h : (rdAll l).bad = false) : 13 + leOf ((l.drop 1).take 1) + leOf ((l.drop 2).take 2) ≤ l.length := by
  unfold rdAll at h
  simp only at h
  have g7 := rdN_good h
  have g6 := rdR_good2 g7.1
  have g5 := rdR_good2 g6.1
  have g4 := rdN_good g5.1
  have g3 := rdN_good g4.1
  have g2 := rdN_good g3.1
  have g1 := rdN_good g2.1
  clear h
  obtain ⟨kn, hk⟩ : ∃ kn, leOf ((l.drop 1).take 1) = kn := ⟨_, rfl⟩
  obtain ⟨vn, hv⟩ : ∃ vn, leOf ((l.drop 2).take 2) = vn := ⟨_, rfl⟩
  rw [hk, hv]
  have a1 : 1 ≤ l.length := g1.2
  have e1 : rdN (l, false) 1 = (leOf (l.take 1), l.drop 1, false) := rdN_eq a1
  simp only [e1] at g2 g3 g4 g5 g6 g7
  have a2 : 1 ≤ (l.drop 1).length := g2.2
  have e2 : rdN (l.drop 1, false) 1 = (kn, l.drop 2, false) := by rw [rdN_eq a2]; simp only [hk, List.drop_drop]
  simp only [e2] at g3 g4 g5 g6 g7
  have a3 : 2 ≤ (l.drop 2).length := g3.2
  have e3 : rdN (l.drop 2, false) 2 = (vn, l.drop 4, false) := by rw [rdN_eq a3]; simp only [hv, List.drop_drop]
  simp only [e3] at g4 g5 g6 g7
  have a4 : 8 ≤ (l.drop 4).length := g4.2
  have e4 : rdN (l.drop 4, false) 8 = (leOf ((l.drop 4).take 8), l.drop 12, false) := by rw [rdN_eq a4]; simp only [List.drop_drop]
  simp only [e4] at g5 g6 g7
  have a5 : kn ≤ (l.drop 12).length := g5.2
  have e5 : rdR (l.drop 12, false) kn = ((l.drop 12).take kn, l.drop (12 + kn), false) := by rw [rdR_eq a5]; simp only [List.drop_drop]
  simp only [e5] at g6 g7
  have a6 : vn ≤ (l.drop (12 + kn)).length := g6.2
  have e6 : rdR (l.drop (12 + kn), false) vn = ((l.drop (12 + kn)).take vn, l.drop (12 + kn + vn), false) := by rw [rdR_eq a6]; simp only [List.drop_drop]
  simp only [e6] at g7
  have a7 : 1 ≤ (l.drop (12 + kn + vn)).length := g7.2
  rw [List.length_drop] at a2 a3 a4 a5 a6 a7
  omega

theorem leOf_le (n : Nat) : ∀ k, leOf (le n k) = n % 256 ^ k
  | 0 => by simp [le, leOf, Nat.mod_one]
  | k + 1 => by
    rw [le, leOf_snoc, leOf_le n k, le_len, UInt8.toNat_ofNat']
    have h1 : n % 256 ^ (k + 1) = n % 256 ^ k + 256 ^ k * (n / 256 ^ k % 256) := by rw [Nat.pow_succ, Nat.mod_mul]
    rw [h1, Nat.mul_comm (256 ^ k)]
    simp

theorem rpack_eq (k v : List UInt8) (e : Nat) : rpack k v e = le 165 1 ++ (le k.length 1 ++ (le v.length 2 ++ (le e 8 ++ (k ++ (v ++ le 90 1))))) := by
  simp [rpack]
theorem cut_take (l : List UInt8) (c i n : Nat) (h : i + n ≤ c) : ((l.take c).drop i).take n = (l.drop i).take n := by
  rw [List.drop_take, List.take_take, Nat.min_eq_left (by omega)]

theorem rpack_parts (k v : List UInt8) (e : Nat) : (rpack k v e).take 1 = le 165 1 ∧ ((rpack k v e).drop 1).take 1 = le k.length 1 ∧ ((rpack k v e).drop 2).take 2 = le v.length 2 ∧ ((rpack k v e).drop 4).take 8 = le e 8 ∧ ((rpack k v e).drop 12).take k.length = k ∧
    ((rpack k v e).drop (12 + k.length)).take v.length = v ∧ ((rpack k v e).drop (12 + k.length + v.length)).take 1 = le 90 1 := by
  have d1 : (rpack k v e).drop 1 = le k.length 1 ++ (le v.length 2 ++ (le e 8 ++ (k ++ (v ++ le 90 1)))) := by rw [rpack_eq, List.drop_left' (le_len _ _)]
  have d2 : (rpack k v e).drop 2 = le v.length 2 ++ (le e 8 ++ (k ++ (v ++ le 90 1))) := by rw [show 2 = 1 + 1 from rfl, ← List.drop_drop, d1, List.drop_left' (le_len _ _)]
  have d4 : (rpack k v e).drop 4 = le e 8 ++ (k ++ (v ++ le 90 1)) := by rw [show 4 = 2 + 2 from rfl, ← List.drop_drop, d2, List.drop_left' (le_len _ _)]
  have d12 : (rpack k v e).drop 12 = k ++ (v ++ le 90 1) := by rw [show 12 = 4 + 8 from rfl, ← List.drop_drop, d4, List.drop_left' (le_len _ _)]
  have dk : (rpack k v e).drop (12 + k.length) = v ++ le 90 1 := by rw [← List.drop_drop, d12, List.drop_left' rfl]
  have dv : (rpack k v e).drop (12 + k.length + v.length) = le 90 1 := by rw [← List.drop_drop, dk, List.drop_left' rfl]
  refine ⟨?_, ?_, ?_, ?_, ?_, ?_, ?_⟩
  · rw [rpack_eq, List.take_left' (le_len _ _)]
  · rw [d1, List.take_left' (le_len _ _)]
  · rw [d2, List.take_left' (le_len _ _)]
  · rw [d4, List.take_left' (le_len _ _)]
  · rw [d12, List.take_left' rfl]
  · rw [dk, List.take_left' rfl]
  · rw [dv, List.take_of_length_le (by rw [le_len]; omega)]

/-- a cut is no record -/
theorem rpack_cut (k v : List UInt8) (e c : Nat) (hk : k.length < 256) (hv : v.length < 65536) (hc : c < 13 + k.length + v.length) : ¬ (rdAll ((rpack k v e).take c)).ok := by
  intro h
  have h1 := rdAll_long _ h.2.2.1
  have h2 : ((rpack k v e).take c).length ≤ c := by rw [List.length_take]; omega
  obtain ⟨-, p1, p2, -⟩ := rpack_parts k v e
  rw [cut_take _ _ _ _ (by omega), cut_take _ _ _ _ (by omega), p1, p2, leOf_le, leOf_le, Nat.mod_eq_of_lt (by omega), Nat.mod_eq_of_lt (by omega)] at h1
  omega

/-- a record with anything behind it is read as it was -/
theorem rpack_back (k v rest : List UInt8) (e : Nat) (hk : k.length < 256) (hv : v.length < 65536) (he : e < 18446744073709551616) :
    rdAll (rpack k v e ++ rest) = ⟨165, k.length, v.length, e, 90, k, v, false⟩ := by
  have hl := rpack_len k v e
  have cut : ∀ i n, i + n ≤ 13 + k.length + v.length → ((rpack k v e ++ rest).drop i).take n = ((rpack k v e).drop i).take n := by
    intro i n h
    rw [List.drop_append_of_le_length (by omega), List.take_append_of_le_length (by rw [List.length_drop]; omega)]
  obtain ⟨p0, p1, p2, p3, p4, p5, p6⟩ := rpack_parts k v e
  have c0 := cut 0 1 (by omega)
  rw [List.drop_zero, List.drop_zero, p0] at c0
  have m1 : leOf (le k.length 1) = k.length := by rw [leOf_le, Nat.mod_eq_of_lt (by omega)]
  have m2 : leOf (le v.length 2) = v.length := by rw [leOf_le, Nat.mod_eq_of_lt (by omega)]
  have m3 : leOf (le e 8) = e := by rw [leOf_le, Nat.mod_eq_of_lt (by omega)]
  rw [rdAll_eq _ k.length v.length (by rw [cut _ _ (by omega), p1, m1]) (by rw [cut _ _ (by omega), p2, m2]) (by rw [List.length_append]; omega)]
  rw [c0, cut _ _ (by omega), p3, m3, cut _ _ (by omega), p6, cut _ _ (by omega), p4, cut _ _ (by omega), p5]
  rfl
end Go.Proofs.Ytcmkcegnfddccaa
