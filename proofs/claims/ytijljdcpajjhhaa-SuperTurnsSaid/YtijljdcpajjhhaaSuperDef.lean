import Derived.Test.YtijljdcpajjhhaaSPlanB
import Derived.Test.YtijljdcpajjhhaaLeafPut
/-! Heads: their bytes, plain. -/
namespace Go.Proofs.Ytijljdcpajjhhaa
open Go.RowKit Sg
set_option linter.unusedSimpArgs false

theorem le_digit (n : Nat) : ∀ (k : Nat) (x : Nat), le (x + 256 * n) (k + 1) = UInt8.ofNat (x % 256) :: le (x / 256 + n) k := by
  intro k x
  induction k with
  | zero => simp [le]
  | succ k ih =>
    have e : (x + 256 * n) / 256 ^ (k + 1) = (x / 256 + n) / 256 ^ k := by
      rw [show 256 ^ (k + 1) = 256 * 256 ^ k by rw [Nat.pow_succ, Nat.mul_comm], ← Nat.div_div_eq_div_mul, Nat.add_mul_div_left _ _ (by decide)]
    rw [le, ih, le, List.cons_append, e]
theorem le_leOf : ∀ l : List UInt8, le (leOf l) l.length = l
  | [] => rfl
  | x :: l => by
    have hx := x.toNat_lt
    rw [leOf, List.length_cons, le_digit, Nat.mod_eq_of_lt (by omega), Nat.div_eq_of_lt (by omega), Nat.zero_add, le_leOf l]
    congr 1
    exact UInt8.ofNat_toNat
theorem le_piece (l : List UInt8) (i n : Nat) (h : i + n ≤ l.length) : le (leOf ((l.drop i).take n)) n = (l.drop i).take n := by
  have h1 := le_leOf ((l.drop i).take n)
  rw [List.length_take, List.length_drop, Nat.min_eq_left (by omega)] at h1
  exact h1
theorem piece_lt (l : List UInt8) (i n : Nat) : leOf ((l.drop i).take n) < 256 ^ n := take_lt _ n

structure Hd where
  p : Pl
  (gen page stamp dep log reg time : Int)
/-- a head's cells -/
def Hd.cells (h : Hd) : Array Value := #[.int .i64 h.p.sec, .int .i64 h.p.size, .int .i64 h.p.reg, .int .i64 h.p.rs, .int .i64 h.p.lg, .int .i64 h.p.dep, .int .i64 h.p.mem, .int .u64 (h.p.seed : Int), .int .i64 h.gen, .int .i64 h.page, .int .i64 h.stamp, .int .i64 h.dep, .int .i64 h.log, .int .i64 h.reg, .int .i64 h.time]
def Hd.v (h : Hd) : Value := .agg h.cells
def Hd.In (h : Hd) : Prop := h.p.In ∧ (-9223372036854775808 ≤ h.gen ∧ h.gen ≤ 9223372036854775807) ∧ (-9223372036854775808 ≤ h.page ∧ h.page ≤ 9223372036854775807) ∧ (-9223372036854775808 ≤ h.stamp ∧ h.stamp ≤ 9223372036854775807) ∧ (-9223372036854775808 ≤ h.dep ∧ h.dep ≤ 9223372036854775807) ∧ (-9223372036854775808 ≤ h.log ∧ h.log ≤ 9223372036854775807) ∧ (-9223372036854775808 ≤ h.reg ∧ h.reg ≤ 9223372036854775807) ∧ (-9223372036854775808 ≤ h.time ∧ h.time ≤ 9223372036854775807)
def Hd.Ok (h : Hd) : Prop := 1 ≤ h.gen ∧ (0 ≤ h.page ∧ h.page ≤ 2147483647) ∧ 0 ≤ h.stamp ∧ (0 ≤ h.dep ∧ h.dep ≤ h.p.dep) ∧ 1 ≤ h.log ∧ 0 ≤ h.reg ∧ (0 ≤ h.time ∧ h.time ≤ 281474976710656)
instance (h : Hd) : Decidable h.Ok := by unfold Hd.Ok; infer_instance
/-- why a head may not be -/
def Hd.code (h : Hd) : Int := if h.p.Fits then (if h.Ok then 0 else 1) else 12
theorem Hd.code_zero {h : Hd} (hc : h.code = 0) : h.p.Fits ∧ h.Ok := by
  unfold Hd.code at hc
  split at hc
  · split at hc
    · exact ⟨by assumption, by assumption⟩
    · cases hc
  · cases hc
theorem Hd.code_ok {h : Hd} (h1 : h.p.Fits) (h2 : h.Ok) : h.code = 0 := by
  unfold Hd.code
  rw [if_pos h1, if_pos h2]
/-- a head's bytes -/
def Hd.pack (h : Hd) : List UInt8 := (((((h.p.pack ++ le (un h.page) 4) ++ le (un h.stamp) 8) ++ le (un h.dep) 1) ++ le (un h.log) 8) ++ le (un h.reg) 8) ++ le (un h.time) 8
theorem Hd.pack_len (h : Hd) : h.pack.length = 63 := by simp [Hd.pack, Pl.pack_len, le_len]
theorem Hd.pack_flat (h : Hd) : h.pack = h.p.pack ++ (le (un h.page) 4 ++ (le (un h.stamp) 8 ++ (le (un h.dep) 1 ++ (le (un h.log) 8 ++ (le (un h.reg) 8 ++ le (un h.time) 8))))) := by
  simp [Hd.pack]
/-- a number of eight bytes as the program's -/
def sg (n : Nat) : Int := IntKind.i64.wrap (n : Int)
theorem sg_wrap (n : Nat) : RowKit.wrap64 (n : Int) = sg n := by
  unfold sg RowKit.wrap64
  simp [IntKind.wrap, IntKind.bits, IntKind.signed]
  split <;> omega
theorem sg_small {n : Nat} (h : n < 9223372036854775808) : sg n = (n : Int) := i64_wrap_nat (by omega)
theorem sg_neg {n : Nat} (h : ¬ n < 9223372036854775808) (h2 : n < 18446744073709551616) : sg n < 0 := by
  rw [← sg_wrap]
  unfold RowKit.wrap64
  omega
theorem un_nat {n : Nat} (h : n < 18446744073709551616) : un (n : Int) = n := by unfold un; omega
theorem un_sg {n : Nat} (h : n < 18446744073709551616) : un (sg n) = n := by
  rw [← sg_wrap]
  unfold un RowKit.wrap64
  omega
/-- the head of 63 bytes -/
def of63 (gen : Int) (l : List UInt8) : Hd := ⟨of26 (l.take 26), gen, leOf ((l.drop 26).take 4), sg (leOf ((l.drop 30).take 8)), leOf ((l.drop 38).take 1), sg (leOf ((l.drop 39).take 8)), sg (leOf ((l.drop 47).take 8)), sg (leOf ((l.drop 55).take 8))⟩
theorem fits_seed (l : List UInt8) : (of26 l).seed < 18446744073709551616 := by
  have := piece_lt l 18 8
  simp only [Nat.reducePow] at this
  exact this
theorem of63_pack (h : Hd) (hc : h.code = 0) (hs : h.p.seed < 18446744073709551616) (hI : h.In) : of63 h.gen h.pack = h := by
  obtain ⟨hf, o1, ⟨o2, o3⟩, o4, ⟨o5, o6⟩, o7, o8, o9, o10⟩ := Hd.code_zero hc
  have hfl := h.pack_flat
  have hp := of26_pack h.p hf.1 hs
  have hpl := h.p.pack_len
  have hd8 : h.p.dep ≤ 8 := hf.1.2.2.2.2.2.1.2
  obtain ⟨-, -, -, ⟨-, i4⟩, -, i5, i6, -⟩ := hI
  generalize h.pack = L at hfl ⊢
  obtain ⟨p, gen, page, stamp, dep, log, reg, time⟩ := h
  simp only at *
  have t0 : L.take 26 = p.pack := by rw [hfl, List.take_left' hpl]
  have d26 : L.drop 26 = le (un page) 4 ++ (le (un stamp) 8 ++ (le (un dep) 1 ++ (le (un log) 8 ++ (le (un reg) 8 ++ le (un time) 8)))) := by rw [hfl, List.drop_left' hpl]
  have d30 : L.drop 30 = le (un stamp) 8 ++ (le (un dep) 1 ++ (le (un log) 8 ++ (le (un reg) 8 ++ le (un time) 8))) := by rw [show 30 = 26 + 4 from rfl, ← List.drop_drop, d26, List.drop_left' (le_len _ _)]
  have d38 : L.drop 38 = le (un dep) 1 ++ (le (un log) 8 ++ (le (un reg) 8 ++ le (un time) 8)) := by rw [show 38 = 30 + 8 from rfl, ← List.drop_drop, d30, List.drop_left' (le_len _ _)]
  have d39 : L.drop 39 = le (un log) 8 ++ (le (un reg) 8 ++ le (un time) 8) := by rw [show 39 = 38 + 1 from rfl, ← List.drop_drop, d38, List.drop_left' (le_len _ _)]
  have d47 : L.drop 47 = le (un reg) 8 ++ le (un time) 8 := by rw [show 47 = 39 + 8 from rfl, ← List.drop_drop, d39, List.drop_left' (le_len _ _)]
  have d55 : L.drop 55 = le (un time) 8 := by rw [show 55 = 47 + 8 from rfl, ← List.drop_drop, d47, List.drop_left' (le_len _ _)]
  unfold of63
  rw [t0, d26, d30, d38, d39, d47, d55, hp]
  simp only [List.take_left' (le_len _ _), List.take_of_length_le (Nat.le_of_eq (le_len (un time) 8)), leOf_le, Nat.reducePow]
  have e1 : un page % 4294967296 = page.toNat := by unfold un; omega
  have e2 : un dep % 256 = dep.toNat := by unfold un; omega
  have e3 : ∀ x : Int, 0 ≤ x → x ≤ 9223372036854775807 → sg (un x % 18446744073709551616) = x := fun x h0 h1 => by
    rw [← sg_wrap]
    unfold un RowKit.wrap64
    omega
  rw [e1, e2, e3 _ o4 i4, e3 _ (by omega) (by omega), e3 _ o8 (by omega), e3 _ o9 (by omega), Int.toNat_of_nonneg o2, Int.toNat_of_nonneg o5]
theorem drop_cut (l : List UInt8) (i n : Nat) : l.drop i = (l.drop i).take n ++ l.drop (i + n) := by
  rw [← List.drop_drop, List.take_append_drop]
theorem pn_small (l : List UInt8) (k : Nat) : un (pn l k : Int) = pn l k := un_nat (by have := pn_lt l k; omega)
theorem pack_of26 (l : List UInt8) (h : l.length = 26) : (of26 l).pack = l := by
  rw [pack_flat]
  unfold of26
  simp only
  have b0 := piece_lt l 0 4
  have b1 := piece_lt l 4 4
  simp only [List.drop_zero, Nat.reducePow] at b0 b1
  rw [pn_small, pn_small, pn_small, pn_small, pn_small, un_nat (by omega), un_nat (by omega)]
  unfold pn
  have p0 := le_piece l 0 4 (by omega)
  rw [List.drop_zero] at p0
  rw [p0, le_piece l 4 4 (by omega), le_piece l _ 2 (by omega), le_piece l _ 2 (by omega), le_piece l _ 2 (by omega), le_piece l _ 2 (by omega), le_piece l _ 2 (by omega), le_piece l 18 8 (by omega)]
  have c0 := drop_cut l 0 4
  have c1 := drop_cut l 4 4
  have c2 := drop_cut l 8 2
  have c3 := drop_cut l 10 2
  have c4 := drop_cut l 12 2
  have c5 := drop_cut l 14 2
  have c6 := drop_cut l 16 2
  have c7 : (l.drop 18).take 8 = l.drop 18 := List.take_of_length_le (by rw [List.length_drop]; omega)
  simp only [Nat.reduceAdd, Nat.reduceMul, List.drop_zero] at c0 c1 c2 c3 c4 c5 c6 ⊢
  rw [c7, ← c6, ← c5, ← c4, ← c3, ← c2, ← c1, ← c0]
theorem pack_of63 (gen : Int) (l : List UInt8) (h : l.length = 63) : (of63 gen l).pack = l := by
  rw [Hd.pack_flat]
  unfold of63
  simp only
  have b0 := piece_lt l 26 4
  have b1 := piece_lt l 30 8
  have b2 := piece_lt l 38 1
  have b3 := piece_lt l 39 8
  have b4 := piece_lt l 47 8
  have b5 := piece_lt l 55 8
  simp only [Nat.reducePow] at b0 b1 b2 b3 b4 b5
  rw [pack_of26 _ (by rw [List.length_take]; omega), un_nat (by omega), un_nat (by omega), un_sg b1, un_sg b3, un_sg b4, un_sg b5]
  rw [le_piece l 26 4 (by omega), le_piece l 30 8 (by omega), le_piece l 38 1 (by omega), le_piece l 39 8 (by omega), le_piece l 47 8 (by omega), le_piece l 55 8 (by omega)]
  have c0 := drop_cut l 0 26
  have c1 := drop_cut l 26 4
  have c2 := drop_cut l 30 8
  have c3 := drop_cut l 38 1
  have c4 := drop_cut l 39 8
  have c5 := drop_cut l 47 8
  have c7 : (l.drop 55).take 8 = l.drop 55 := List.take_of_length_le (by rw [List.length_drop]; omega)
  simp only [Nat.reduceAdd, List.drop_zero] at c0 c1 c2 c3 c4 c5
  rw [c7, ← c5, ← c4, ← c3, ← c2, ← c1, ← c0]
def hd0 : Hd := ⟨⟨0, 0, 0, 0, 0, 0, 0, 0⟩, 0, 0, 0, 0, 0, 0, 0⟩
/-- which bytes are a head's -/
def Un63 (gen : Int) (l : List UInt8) : Prop := l.length = 63 ∧ (of63 gen l).code = 0
instance (gen : Int) (l : List UInt8) : Decidable (Un63 gen l) := by unfold Un63; infer_instance
/-- the head in a sector, if one is right -/
def hdAt (m : Dev) (t : Nat) : Option Hd :=
  if lgot m t 1 t ∧ ls (m.read t).1 % 2 = t ∧ Un63 (ls (m.read t).1) (ll (m.read t).1) ∧ (of63 (ls (m.read t).1) (ll (m.read t).1)).p.sec = m.n ∧ (of63 (ls (m.read t).1) (ll (m.read t).1)).p.size = m.sz then some (of63 (ls (m.read t).1) (ll (m.read t).1)) else none
def hdRow (m : Dev) : List Hd := (hdAt m 0).toList ++ (hdAt m 1).toList
/-- what a save leaves, and its number -/
def hsave (m : Dev) (h : Hd) : Dev × Int := if h.code ≠ 0 then (m, h.code) else if h.p.sec = m.n ∧ h.p.size = m.sz then lput m (h.gen % 2) 1 (h.gen % 2) h.gen h.pack else (m, 12)
end Go.Proofs.Ytijljdcpajjhhaa
