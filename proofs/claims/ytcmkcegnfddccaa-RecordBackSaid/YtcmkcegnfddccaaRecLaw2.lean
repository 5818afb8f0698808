import Derived.Test.YtcmkcegnfddccaaRecLaw
/-! Which records bytes begin with: the document's test and the program's are one. -/
namespace Go.Proofs.Ytcmkcegnfddccaa
open Go.RowKit Sg

def qk (l : List UInt8) : Nat := leOf ((l.drop 1).take 1)
def qv (l : List UInt8) : Nat := leOf ((l.drop 2).take 2)
def qe (l : List UInt8) : Nat := leOf ((l.drop 4).take 8)
def qkey (l : List UInt8) : List UInt8 := (l.drop 12).take (qk l)
def qval (l : List UInt8) : List UInt8 := (l.drop (12 + qk l)).take (qv l)
/-- the document's test -/
def RecOk (l : List UInt8) : Prop := 13 + qk l + qv l ≤ l.length ∧ qe l ≤ 281474976710656 ∧ rcode (qk l) (qv l) (qe l) = 0 ∧ rpack (qkey l) (qval l) (qe l) = l.take (13 + qk l + qv l)
instance (l : List UInt8) : Decidable (RecOk l) := by unfold RecOk; infer_instance

theorem le_digit (n : Nat) : ∀ (k : Nat) (x : Nat), le (x + 256 * n) (k + 1) = UInt8.ofNat (x % 256) :: le (x / 256 + n) k := by
  intro k x
  induction k with
  | zero => simp [le]
  | succ k ih =>
    have e : (x + 256 * n) / 256 ^ (k + 1) = (x / 256 + n) / 256 ^ k := by
      rw [show 256 ^ (k + 1) = 256 * 256 ^ k by rw [Nat.pow_succ, Nat.mul_comm], ← Nat.div_div_eq_div_mul, Nat.add_mul_div_left _ _ (by decide)]
    rw [le, ih, le, List.cons_append, e]
theorem le_leOf : ∀ l : List UInt8, le (leOf l) l.length = l
  | [] => rfl
  | x :: l => by
    have hx := x.toNat_lt
    rw [leOf, List.length_cons, le_digit, Nat.mod_eq_of_lt (by omega), Nat.div_eq_of_lt (by omega), Nat.zero_add, le_leOf l]
    congr 1
    exact UInt8.ofNat_toNat
theorem le_piece (l : List UInt8) (i n : Nat) (h : i + n ≤ l.length) : le (leOf ((l.drop i).take n)) n = (l.drop i).take n := by
  have h1 := le_leOf ((l.drop i).take n)
  rw [List.length_take, List.length_drop, Nat.min_eq_left (by omega)] at h1
  exact h1
theorem join_piece (l : List UInt8) (i n m : Nat) : (l.drop i).take n ++ (l.drop (i + n)).take m = (l.drop i).take (n + m) := by
  rw [List.take_add, List.drop_drop]

theorem rec_ok_iff (l : List UInt8) : (rdAll l).ok ↔ RecOk l := by
  constructor
  · intro h
    have hl := rdAll_long l h.2.2.1
    have he := rdAll_eq l (qk l) (qv l) rfl rfl hl
    rw [he] at h
    obtain ⟨h1, h2, -, h4, h5⟩ := h
    simp only at h1 h2 h4 h5
    have hkl : ((l.drop 12).take (qk l)).length = qk l := by rw [List.length_take, List.length_drop]; unfold qk qv at *; omega
    have hvl : ((l.drop (12 + qk l)).take (qv l)).length = qv l := by rw [List.length_take, List.length_drop]; unfold qk qv at *; omega
    rw [hkl, hvl] at h5
    refine ⟨hl, h4, h5, ?_⟩
    have hl' : 13 + qk l + qv l ≤ l.length := hl
    rw [rpack_eq]
    have p0 := le_piece l 0 1 (by omega)
    rw [List.drop_zero, h1] at p0
    have p1 : le (qkey l).length 1 = (l.drop 1).take 1 := by
      rw [show (qkey l).length = qk l from hkl]; exact le_piece l 1 1 (by omega)
    have p2 : le (qval l).length 2 = (l.drop 2).take 2 := by
      rw [show (qval l).length = qv l from hvl]; exact le_piece l 2 2 (by omega)
    have p3 : le (qe l) 8 = (l.drop 4).take 8 := le_piece l 4 8 (by omega)
    have p6 := le_piece l (12 + qk l + qv l) 1 (by omega)
    rw [h2] at p6
    rw [p0, p1, p2, p3, p6]
    show l.take 1 ++ ((l.drop 1).take 1 ++ ((l.drop 2).take 2 ++ ((l.drop 4).take 8 ++ ((l.drop 12).take (qk l) ++ ((l.drop (12 + qk l)).take (qv l) ++ (l.drop (12 + qk l + qv l)).take 1))))) = _
    rw [join_piece, join_piece, join_piece l 4 8, join_piece l 2 2, join_piece l 1 1]
    have := join_piece l 0 1 (1 + (2 + (8 + (qk l + (qv l + 1)))))
    rw [List.drop_zero, Nat.zero_add] at this
    rw [this]
    congr 1
    omega
  · rintro ⟨hl, h2, h3, h4⟩
    have z := rcode_zero h3
    have hkl : (qkey l).length = qk l := by rw [qkey, List.length_take, List.length_drop]; omega
    have hvl : (qval l).length = qv l := by rw [qval, List.length_take, List.length_drop]; omega
    have hb := rpack_back (qkey l) (qval l) (l.drop (13 + qk l + qv l)) (qe l) (by omega) (by omega) (by omega)
    rw [h4, List.take_append_drop] at hb
    rw [hb]
    exact ⟨rfl, rfl, rfl, h2, by simp only; rw [hkl, hvl]; exact h3⟩
theorem rec_ok_fields (l : List UInt8) (h : RecOk l) : (rdAll l).kn = qk l ∧ (rdAll l).vn = qv l ∧ (rdAll l).en = qe l ∧ (rdAll l).k = qkey l ∧ (rdAll l).v = qval l ∧ (qkey l).length = qk l ∧ (qval l).length = qv l := by
  have he := rdAll_eq l (qk l) (qv l) rfl rfl h.1
  have hl := h.1
  rw [he]
  exact ⟨rfl, rfl, rfl, rfl, rfl, by rw [qkey, List.length_take, List.length_drop]; omega, by rw [qval, List.length_take, List.length_drop]; omega⟩
end Go.Proofs.Ytcmkcegnfddccaa
