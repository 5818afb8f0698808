import Derived.Test.YtonocjjjcoaljaaLeafLaw
/-! Bits that are turned within 32 in a row: the plain law. -/
namespace Sg.Crc
theorem num_setx : ∀ (l : List Nat) (j x : Nat), (∀ y ∈ l, y < 256) → (hj : j < l.length) → x < 256 → num (l.set j (l[j] ^^^ x)) = num l ^^^ x * 2 ^ (8 * j)
  | y :: l, 0, x, h, _, hx => by
    have hy := h y (by simp)
    have hz : y ^^^ x < 256 := Nat.xor_lt_two_pow (n := 8) hy hx
    simp only [List.set_cons_zero, List.getElem_cons_zero, num, Nat.mul_zero, Nat.pow_zero, Nat.mul_one]
    rw [add_eq_xor _ _ hz, add_eq_xor _ _ hy]
    ac_rfl
  | y :: l, j + 1, x, h, hj, hx => by
    have hy := h y (by simp)
    have ih := num_setx l j x (fun z hz => h z (by simp [hz])) (by simpa using hj) hx
    simp only [List.set_cons_succ, List.getElem_cons_succ, num]
    rw [ih, add_eq_xor _ _ hy, add_eq_xor _ _ hy, xor_mul_pow, Nat.mul_assoc, ← Nat.pow_add, show 8 * (j + 1) = 8 * j + 8 by omega]
    ac_rfl
end Sg.Crc
namespace Go.Proofs.Ytonocjjjcoaljaa
open Go.RowKit Go.Shelf Sg

theorem num_nats : ∀ l : List UInt8, Crc.num (nats l) = leOf l
  | [] => rfl
  | x :: l => by
    show x.toNat + 256 * Crc.num (nats l) = x.toNat + 256 * leOf l
    rw [num_nats l]
theorem xor_all (r : Nat) (hr : r < 4294967296) : r ^^^ (4294967295 - r) = 4294967295 := by
  apply Nat.eq_of_testBit_eq
  intro i
  rw [Nat.testBit_xor, show (4294967295 : Nat) - r = 2 ^ 32 - (r + 1) by omega, Nat.testBit_two_pow_sub_succ hr, show (4294967295 : Nat) = 2 ^ 32 - 1 from rfl, Nat.testBit_two_pow_sub_one]
  by_cases hi : i < 32
  · simp [hi]
  · have : r.testBit i = false := Nat.testBit_lt_two_pow (Nat.lt_of_lt_of_le hr (by
      rw [show (4294967296 : Nat) = 2 ^ 32 from rfl]; exact Nat.pow_le_pow_right (by decide) (by omega)))
    simp [hi, this]
theorem nats_append (a b : List UInt8) : nats (a ++ b) = nats a ++ nats b := List.map_append
/-- bytes with their check behind them leave one number -/
theorem code_res (body M : List UInt8) (h : M = body ++ le (Crc.sum (nats body)) 4) : Crc.bits (8 * M.length) (4294967295 ^^^ Crc.num (nats M)) = Crc.bits 32 4294967295 := by
  have hr := Crc.run_lt (nats body) (n := 4294967295) (by decide) (nats_lt body)
  have h1 := Crc.run_num (nats M) 4294967295 (nats_lt M)
  rw [show (nats M).length = M.length by simp [nats]] at h1
  rw [← h1, h, nats_append, Crc.run_append]
  have hs : Crc.sum (nats body) = 4294967295 - Crc.run 4294967295 (nats body) := rfl
  rw [hs]
  generalize Crc.run 4294967295 (nats body) = r at hr
  rw [Crc.run_num _ _ (nats_lt _), num_nats, leOf_le, show (nats (le (4294967295 - r) 4)).length = 4 by simp [nats, le_len], show (256 : Nat) ^ 4 = 4294967296 from rfl, Nat.mod_eq_of_lt (by omega), xor_all r hr]
theorem code_one (M M' : List UInt8) (k T : Nat) (h : Crc.bits (8 * M.length) (4294967295 ^^^ Crc.num (nats M)) = Crc.bits 32 4294967295) (h' : Crc.bits (8 * M'.length) (4294967295 ^^^ Crc.num (nats M')) = Crc.bits 32 4294967295) (hl : M'.length = M.length)
    (hT : T < 4294967296) (hk : k ≤ M.length) (hn : Crc.num (nats M') = Crc.num (nats M) ^^^ T * 2 ^ (8 * k)) : T = 0 := by
  rw [hl, hn, ← Nat.xor_assoc, Crc.bits_xor, h, show 8 * M.length = 8 * k + (8 * M.length - 8 * k) by omega, Crc.bits_add, Crc.bits_mul] at h'
  refine Crc.bits_inj0 (8 * M.length - 8 * k) hT ?_
  have h3 := congrArg (fun z => Crc.bits 32 4294967295 ^^^ z) h'
  rw [← Nat.xor_assoc, Nat.xor_self, Nat.zero_xor] at h3
  exact h3

def fl (L : List UInt8) (k : Nat) (ts : List UInt8) : Nat → List UInt8
  | 0 => L
  | i + 1 => (fl L k ts i).set (k + i) ((fl L k ts i).getD (k + i) 0 ^^^ ts.getD i 0)
theorem fl_len (L : List UInt8) (k : Nat) (ts : List UInt8) : ∀ i, (fl L k ts i).length = L.length
  | 0 => rfl
  | i + 1 => by rw [fl, List.length_set, fl_len L k ts i]
def chg (ts : List UInt8) : Nat → Bool
  | 0 => false
  | i + 1 => chg ts i || (ts.getD i 0 != 0)
theorem fl_same (L : List UInt8) (k : Nat) (ts : List UInt8) : ∀ i, chg ts i = false → fl L k ts i = L
  | 0, _ => rfl
  | i + 1, h => by
    simp only [chg, Bool.or_eq_false_iff] at h
    have h2 : ts.getD i 0 = 0 := by simpa using h.2
    rw [fl, fl_same L k ts i h.1, h2, UInt8.xor_zero]
    by_cases hk : k + i < L.length
    · rw [List.getD_eq_getElem?_getD, List.getElem?_eq_getElem hk]
      simp
    · rw [List.set_eq_of_length_le (by omega)]
theorem fl_step (L : List UInt8) (k : Nat) (ts : List UInt8) (i : Nat) (h : k + i < L.length) : Crc.num (nats (fl L k ts (i + 1))) = Crc.num (nats (fl L k ts i)) ^^^ (ts.getD i 0).toNat * 2 ^ (8 * (k + i)) := by
  have hl := fl_len L k ts i
  have hj : k + i < (nats (fl L k ts i)).length := by simp [nats]; omega
  have hx := Crc.num_setx (nats (fl L k ts i)) (k + i) (ts.getD i 0).toNat (nats_lt _) hj (ts.getD i 0).toNat_lt
  have e : (nats (fl L k ts i))[k + i] = ((fl L k ts i).getD (k + i) 0).toNat := by
    have hh : k + i < (fl L k ts i).length := by omega
    simp [nats, List.getD_eq_getElem?_getD, hh]
  rw [e] at hx
  rw [← hx, fl]
  congr 1
  simp [nats, List.map_set, UInt8.toNat_xor]
theorem fl_num (L : List UInt8) (k : Nat) (a b c d : UInt8) (h : k + 4 ≤ L.length) : Crc.num (nats (fl L k [a, b, c, d] 4)) = Crc.num (nats L) ^^^ (a.toNat + 256 * (b.toNat + 256 * (c.toNat + 256 * d.toNat))) * 2 ^ (8 * k) := by
  have ha := a.toNat_lt
  have hb := b.toNat_lt
  have hc := c.toNat_lt
  rw [fl_step _ _ _ 3 (by omega), fl_step _ _ _ 2 (by omega), fl_step _ _ _ 1 (by omega), fl_step _ _ _ 0 (by omega)]
  show (((Crc.num (nats L) ^^^ a.toNat * 2 ^ (8 * (k + 0))) ^^^ b.toNat * 2 ^ (8 * (k + 1))) ^^^ c.toNat * 2 ^ (8 * (k + 2))) ^^^ d.toNat * 2 ^ (8 * (k + 3)) = _
  rw [Crc.add_eq_xor _ _ ha, Crc.add_eq_xor _ _ hb, Crc.add_eq_xor _ _ hc]
  simp only [Crc.xor_mul_pow, Nat.mul_assoc, ← Nat.pow_add]
  rw [show 8 * (k + 0) = 8 * k by omega, show 8 * (k + 1) = 8 + 8 * k by omega, show 8 * (k + 2) = 8 + (8 + 8 * k) by omega, show 8 * (k + 3) = 8 + (8 + (8 + 8 * k)) by omega]
  ac_rfl
theorem ok_code {M : List UInt8} (h : LeafOk M) : Crc.bits (8 * M.length) (4294967295 ^^^ Crc.num (nats M)) = Crc.bits 32 4294967295 :=
  code_res _ M h.2.2.2.2.symm
theorem turned_bad (L : List UInt8) (k : Nat) (a b c d : UInt8) (h : k + 4 ≤ L.length) (hL : LeafOk L) (hM : LeafOk (fl L k [a, b, c, d] 4)) : chg [a, b, c, d] 4 = false := by
  have ha := a.toNat_lt
  have hb := b.toNat_lt
  have hc := c.toNat_lt
  have hd := d.toNat_lt
  have hT := code_one L _ k _ (ok_code hL) (ok_code hM) (fl_len _ _ _ _) (by omega) (by omega) (fl_num L k a b c d h)
  have z : a.toNat = 0 ∧ b.toNat = 0 ∧ c.toNat = 0 ∧ d.toNat = 0 := by omega
  have e : ∀ x : UInt8, x.toNat = 0 → x = 0 := fun x hx => UInt8.toNat_inj.1 (by simpa using hx)
  rw [e a z.1, e b z.2.1, e c z.2.2.1, e d z.2.2.2]
  rfl
end Go.Proofs.Ytonocjjjcoaljaa
