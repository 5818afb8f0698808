import Derived.Test.YtjkjiabfhhnngaaProg
import Derived.Test.YtjkjiabfhhnngaaBase
import Derived.Lib.Hide
import Derived.Test.YtjkjiabfhhnngaaRange
import Derived.Shelf.Abstract
import Derived.Shelf.RegionOpen
import Derived.OwnWalkIn
import Derived.TacticsInMore
import Derived.LoopNIn
import Derived.LoopIn
import Derived.Lib.SlBytesConst
/-! Plain mathematics of the check (no program in sight). -/
namespace Sg.Crc

/-- one place down -/
def bit (n : Nat) : Nat := n / 2 ^^^ (2197175160 * (n % 2))
/-- k places -/
def bits : Nat → Nat → Nat
  | 0, n => n
  | k + 1, n => bits k (bit n)
def byte (n : Nat) : Nat := bits 8 n
/-- a byte more -/
def step (n x : Nat) : Nat := byte (n ^^^ x)
def run (n : Nat) (l : List Nat) : Nat := l.foldl step n
/-- the check -/
def sum (l : List Nat) : Nat := 4294967295 - run 4294967295 l

theorem bit_lt {n : Nat} (h : n < 4294967296) : bit n < 4294967296 := by
  unfold bit
  refine Nat.xor_lt_two_pow (n := 32) (by omega) ?_
  have : n % 2 = 0 ∨ n % 2 = 1 := by omega
  rcases this with e | e <;> rw [e] <;> omega

theorem bits_lt : ∀ (k : Nat) {n : Nat}, n < 4294967296 → bits k n < 4294967296
  | 0, _, h => h
  | k + 1, _, h => bits_lt k (bit_lt h)

theorem bits_succ : ∀ (k n : Nat), bits (k + 1) n = bit (bits k n)
  | 0, _ => rfl
  | k + 1, n => by
    show bits (k + 1) (bit n) = bit (bits (k + 1) n)
    rw [bits_succ k (bit n)]; rfl

theorem byte_lt {n : Nat} (h : n < 4294967296) : byte n < 4294967296 := bits_lt 8 h

theorem bit_xor (a b : Nat) : bit (a ^^^ b) = bit a ^^^ bit b := by
  unfold bit
  rw [Nat.xor_div_two]
  have h : 2197175160 * ((a ^^^ b) % 2) = 2197175160 * (a % 2) ^^^ 2197175160 * (b % 2) := by
    have e : (a ^^^ b) % 2 = (a % 2) ^^^ (b % 2) := by
      have := Nat.xor_mod_two_pow (a := a) (b := b) (n := 1)
      simpa using this
    rw [e]
    have ha : a % 2 = 0 ∨ a % 2 = 1 := by omega
    have hb : b % 2 = 0 ∨ b % 2 = 1 := by omega
    rcases ha with ha | ha <;> rcases hb with hb | hb <;> rw [ha, hb] <;> simp
  rw [h]
  ac_rfl

theorem bits_xor : ∀ (k a b : Nat), bits k (a ^^^ b) = bits k a ^^^ bits k b
  | 0, _, _ => rfl
  | k + 1, a, b => by show bits k (bit (a ^^^ b)) = bits k (bit a) ^^^ bits k (bit b); rw [bit_xor, bits_xor]

theorem byte_xor (a b : Nat) : byte (a ^^^ b) = byte a ^^^ byte b := bits_xor 8 a b

theorem bit_even (n : Nat) (h : n % 2 = 0) : bit n = n / 2 := by simp [bit, h]

theorem bits_mul : ∀ (k n : Nat), bits k (n * 2 ^ k) = n
  | 0, n => by simp [bits]
  | k + 1, n => by
    show bits k (bit (n * 2 ^ (k + 1))) = n
    rw [bit_even _ (by rw [Nat.pow_succ, ← Nat.mul_assoc]; omega)]
    rw [Nat.pow_succ, ← Nat.mul_assoc, Nat.mul_div_cancel _ (by decide)]
    exact bits_mul k n

/-- the table's way -/
theorem step_table (n x : Nat) (hx : x < 256) : step n x = n / 256 ^^^ byte (n % 256 ^^^ x) := by
  have h : n ^^^ x = (n / 256) * 2 ^ 8 ^^^ (n % 256 ^^^ x) := by
    apply Nat.eq_of_testBit_eq
    intro i
    rw [Nat.testBit_xor, Nat.testBit_xor, Nat.testBit_xor]
    rw [Nat.mul_comm, Nat.testBit_two_pow_mul]
    rw [show (256 : Nat) = 2 ^ 8 from rfl, Nat.testBit_div_two_pow, Nat.testBit_mod_two_pow]
    by_cases hi : i < 8
    · simp [hi, show ¬ 8 ≤ i by omega]
    · have hx' : x.testBit i = false := Nat.testBit_lt_two_pow (Nat.lt_of_lt_of_le hx (by
        rw [show (256 : Nat) = 2 ^ 8 from rfl]; exact Nat.pow_le_pow_right (by decide) (by omega)))
      simp [hi, show 8 ≤ i by omega, hx', show i - 8 + 8 = i by omega]
  unfold step
  rw [h, byte_xor]
  congr 1
  exact bits_mul 8 _

theorem xor_eq_of {a b : Nat} (h : a ^^^ b = 0) : a = b := by
  have := congrArg (· ^^^ b) h
  simpa [Nat.xor_assoc] using this

theorem bit_inj0 {n : Nat} (hn : n < 4294967296) (h : bit n = 0) : n = 0 := by
  unfold bit at h
  replace h := xor_eq_of h
  have : n % 2 = 0 ∨ n % 2 = 1 := by omega
  rcases this with e | e <;> rw [e] at h <;> omega

theorem bits_inj0 : ∀ (k : Nat) {n : Nat}, n < 4294967296 → bits k n = 0 → n = 0
  | 0, _, _, h => h
  | k + 1, _, hn, h => bit_inj0 hn (bits_inj0 k (bit_lt hn) h)

theorem bits_zero : ∀ k, bits k 0 = 0
  | 0 => rfl
  | k + 1 => by show bits k (bit 0) = 0; rw [show bit 0 = 0 from by decide]; exact bits_zero k

theorem run_lt : ∀ (l : List Nat) {n : Nat}, n < 4294967296 → (∀ x ∈ l, x < 256) → run n l < 4294967296
  | [], _, h, _ => h
  | x :: l, n, h, hx => run_lt l (byte_lt (Nat.xor_lt_two_pow (n := 32) h (by have := hx x (by simp); omega))) (fun y hy => hx y (by simp [hy]))

theorem run_append (n : Nat) (a b : List Nat) : run n (a ++ b) = run (run n a) b := by simp [run]

theorem xor_mul_pow (a b k : Nat) : (a ^^^ b) * 2 ^ k = a * 2 ^ k ^^^ b * 2 ^ k := by
  apply Nat.eq_of_testBit_eq
  intro i
  rw [Nat.testBit_xor, Nat.mul_comm, Nat.testBit_two_pow_mul, Nat.mul_comm a, Nat.testBit_two_pow_mul, Nat.mul_comm b, Nat.testBit_two_pow_mul, Nat.testBit_xor]
  by_cases h : k ≤ i <;> simp [h]

/-- bytes as one number, the first byte the lowest -/
def num : List Nat → Nat
  | [] => 0
  | x :: l => x + 256 * num l

theorem add_eq_xor (x m : Nat) (hx : x < 256) : x + 256 * m = x ^^^ m * 2 ^ 8 := by
  apply Nat.eq_of_testBit_eq
  intro i
  rw [Nat.testBit_xor, Nat.mul_comm m, Nat.testBit_two_pow_mul, Nat.add_comm, show (256 : Nat) = 2 ^ 8 from rfl, Nat.testBit_two_pow_mul_add _ hx]
  by_cases hi : i < 8
  · simp [hi, show ¬ 8 ≤ i by omega]
  · have hx' : x.testBit i = false := Nat.testBit_lt_two_pow (Nat.lt_of_lt_of_le hx (by
      rw [show (256 : Nat) = 2 ^ 8 from rfl]; exact Nat.pow_le_pow_right (by decide) (by omega)))
    simp [hi, show 8 ≤ i by omega, hx']

theorem bits_add (j k n : Nat) : bits (j + k) n = bits k (bits j n) := by
  induction j generalizing n with
  | zero => simp [bits]
  | succ j ih => rw [show j + 1 + k = (j + k) + 1 by omega]; exact ih (bit n)

theorem run_num : ∀ (l : List Nat) (n : Nat), (∀ x ∈ l, x < 256) → run n l = bits (8 * l.length) (n ^^^ num l)
  | [], n, _ => by simp [run, num, bits]
  | x :: l, n, h => by
    have hx := h x (by simp)
    have ih := run_num l (step n x) (fun y hy => h y (by simp [hy]))
    show run (step n x) l = _
    rw [ih, List.length_cons, show 8 * (l.length + 1) = 8 + 8 * l.length by omega, bits_add]
    congr 1
    show bits 8 (n ^^^ x) ^^^ num l = bits 8 (n ^^^ (x + 256 * num l))
    rw [add_eq_xor x _ hx, ← Nat.xor_assoc, bits_xor 8 (n ^^^ x), bits_mul]

theorem sum_xor (l : List Nat) (h : ∀ x ∈ l, x < 256) : sum l = 4294967295 ^^^ bits (8 * l.length) 4294967295 ^^^ bits (8 * l.length) (num l) := by
  have hr := run_lt l (n := 4294967295) (by decide) h
  unfold sum
  have e : ∀ r, r < 4294967296 → 4294967295 - r = 4294967295 ^^^ r := by
    intro r hr
    apply Nat.eq_of_testBit_eq
    intro i
    rw [Nat.testBit_xor, show (4294967295 : Nat) - r = 2 ^ 32 - (r + 1) by omega, Nat.testBit_two_pow_sub_succ hr, show (4294967295 : Nat) = 2 ^ 32 - 1 from rfl, Nat.testBit_two_pow_sub_one]
    by_cases hi : i < 32
    · simp [hi]
    · have : r.testBit i = false := Nat.testBit_lt_two_pow (Nat.lt_of_lt_of_le hr (by
        rw [show (4294967296 : Nat) = 2 ^ 32 from rfl]; exact Nat.pow_le_pow_right (by decide) (by omega)))
      simp [hi, this]
  rw [e _ hr, run_num l _ h, bits_xor, Nat.xor_assoc]

theorem num_set : ∀ (l : List Nat) (j r : Nat), (∀ x ∈ l, x < 256) → (hj : j < l.length) → r < 8 → num (l.set j (l[j] ^^^ 2 ^ r)) = num l ^^^ 2 ^ (8 * j + r)
  | x :: l, 0, r, h, _, hr => by
    have hx := h x (by simp)
    have hb : (2 : Nat) ^ r < 2 ^ 8 := Nat.pow_lt_pow_right (by decide) hr
    have hy : x ^^^ 2 ^ r < 256 := Nat.xor_lt_two_pow (n := 8) hx hb
    simp only [List.set_cons_zero, List.getElem_cons_zero, num]
    rw [add_eq_xor _ _ hy, add_eq_xor _ _ hx]
    simp only [Nat.mul_zero, Nat.zero_add]
    ac_rfl
  | x :: l, j + 1, r, h, hj, hr => by
    have hx := h x (by simp)
    have ih := num_set l j r (fun y hy => h y (by simp [hy])) (by simpa using hj) hr
    simp only [List.set_cons_succ, List.getElem_cons_succ, num]
    rw [ih, add_eq_xor _ _ hx, add_eq_xor _ _ hx]
    have e : (num l ^^^ 2 ^ (8 * j + r)) * 2 ^ 8 = num l * 2 ^ 8 ^^^ 2 ^ (8 * (j + 1) + r) := by
      rw [xor_mul_pow, ← Nat.pow_add]
      congr 2; omega
    rw [e]; ac_rfl

/-- bytes that are changed at some of 32 places in a row -/
theorem sum_burst (l c : List Nat) (h : ∀ x ∈ l, x < 256) (hc : ∀ x ∈ c, x < 256) (hl : c.length = l.length) (k T : Nat) (hT : T < 4294967296) (hk : k ≤ 8 * l.length) (hn : num c = num l ^^^ T * 2 ^ k) : sum c = sum l ↔ T = 0 := by
  rw [sum_xor l h, sum_xor c hc, hl, hn, bits_xor]
  have e : bits (8 * l.length) (T * 2 ^ k) = bits (8 * l.length - k) T := by
    rw [show 8 * l.length = k + (8 * l.length - k) by omega, bits_add, bits_mul]; congr 1; omega
  rw [e]
  constructor
  · intro hh
    refine bits_inj0 (8 * l.length - k) hT ?_
    revert hh
    generalize 4294967295 ^^^ bits (8 * l.length) 4294967295 = a
    generalize bits (8 * l.length) (num l) = b
    generalize bits (8 * l.length - k) T = d
    intro hh
    have h3 := congrArg (fun z => (a ^^^ b) ^^^ z) hh
    rw [← Nat.xor_assoc a b d, ← Nat.xor_assoc (a ^^^ b) (a ^^^ b) d, Nat.xor_self, Nat.zero_xor] at h3
    exact h3
  · rintro rfl
    rw [bits_zero, Nat.xor_zero]

theorem num_zip : ∀ (a b : List Nat), a.length = b.length → (∀ x ∈ a, x < 256) → (∀ x ∈ b, x < 256) → num (List.zipWith (· ^^^ ·) a b) = num a ^^^ num b
  | [], [], _, _, _ => rfl
  | x :: a, y :: b, hl, ha, hb => by
    have hx := ha x (by simp)
    have hy := hb y (by simp)
    have ih := num_zip a b (by simpa using hl) (fun z hz => ha z (by simp [hz])) (fun z hz => hb z (by simp [hz]))
    have hz : x ^^^ y < 256 := Nat.xor_lt_two_pow (n := 8) hx hy
    simp only [List.zipWith_cons_cons, num]
    rw [ih, add_eq_xor _ _ hz, add_eq_xor _ _ hx, add_eq_xor _ _ hy, xor_mul_pow]
    ac_rfl

theorem num_zeros (n : Nat) : num (List.replicate n 0) = 0 := by
  induction n with
  | zero => rfl
  | succ n ih => simp [List.replicate_succ, num, ih]

theorem sum_ones (a b : List Nat) (hl : a.length = b.length) (ha : ∀ x ∈ a, x < 256) (hb : ∀ x ∈ b, x < 256) :
    sum a ^^^ sum b = sum (List.zipWith (· ^^^ ·) a b) ^^^ sum (List.replicate a.length 0) := by
  have hz : ∀ x ∈ List.zipWith (· ^^^ ·) a b, x < 256 := by
    intro x hx
    obtain ⟨i, hi, rfl⟩ := List.getElem_of_mem hx
    rw [List.getElem_zipWith]
    exact Nat.xor_lt_two_pow (n := 8) (ha _ (List.getElem_mem _)) (hb _ (List.getElem_mem _))
  rw [sum_xor a ha, sum_xor b hb, sum_xor _ hz, sum_xor _ (by intro x hx; rw [(List.mem_replicate.1 hx).2]; decide), num_zip a b hl ha hb, num_zeros, List.length_zipWith, List.length_replicate, ← hl, Nat.min_self, bits_xor, bits_zero]
  generalize bits (8 * a.length) 4294967295 = c
  generalize bits (8 * a.length) (num a) = d
  generalize bits (8 * a.length) (num b) = e
  apply Nat.eq_of_testBit_eq
  intro i
  simp only [Nat.testBit_xor, Nat.zero_testBit]
  cases (4294967295 : Nat).testBit i <;> cases c.testBit i <;> cases d.testBit i <;> cases e.testBit i <;> rfl

theorem byte_inj {i j : Nat} (hi : i < 256) (hj : j < 256) (h : byte i = byte j) : i = j := by
  have : byte (i ^^^ j) = 0 := by rw [byte_xor, h, Nat.xor_self]
  exact xor_eq_of (bits_inj0 8 (Nat.lt_trans (Nat.xor_lt_two_pow (n := 8) hi hj) (by decide)) this)

end Sg.Crc

/-! The walks of crc.Table, and of the reference's apart, Place and Sum. -/
namespace Go.Proofs.Ytjkjiabfhhnngaa
open Go.RowKit Sg

def zeros256 : Array Value := Array.replicate 256 (.int .u32 0)
/-- the table, its first k places filled -/
def tabTo (k : Nat) : Array Value := ((List.range 256).map fun i => Value.int .u32 (if i < k then (Crc.byte i : Int) else 0)).toArray
def tabAll : Array Value := tabTo 256

theorem tabTo_zero : tabTo 0 = zeros256 := by
  unfold tabTo zeros256
  simp only [Nat.not_lt_zero, if_false]
  apply Array.ext'
  simp [List.map_const']
theorem tabTo_size (k : Nat) : (tabTo k).size = 256 := by simp [tabTo]
theorem tabTo_get (k i : Nat) (h : i < 256) : (tabTo k)[i]? = some (.int .u32 (if i < k then (Crc.byte i : Int) else 0)) := by
  simp [tabTo, h]
theorem tabTo_set (k : Nat) : (tabTo k).setIfInBounds k (.int .u32 (Crc.byte k : Int)) = tabTo (k + 1) := by
  apply Array.ext_getElem?
  intro i
  rw [Array.getElem?_setIfInBounds]
  by_cases hi : i < 256
  · rw [tabTo_get _ _ hi, tabTo_get _ _ hi]
    by_cases e : k = i
    · subst e; simp [tabTo_size, hi]
    · rw [if_neg e]
      have : (i < k) = (i < k + 1) := by apply propext; omega
      simp only [this]
  · have h1 : (tabTo k)[i]? = none := by rw [Array.getElem?_eq_none_iff, tabTo_size]; omega
    have h2 : (tabTo (k + 1))[i]? = none := by rw [Array.getElem?_eq_none_iff, tabTo_size]; omega
    rw [h1, h2]
    split <;> simp [tabTo_size] <;> omega

theorem bit_go (n : Nat) (h : n < 4294967296) : bits BinOp.xor IntKind.u32 ((n : Int) / 2) (2197175160 * bits BinOp.and IntKind.u32 (n : Int) 1 % 4294967296) = (Crc.bit n : Int) := by
  have h1 : bits BinOp.and IntKind.u32 (n : Int) 1 = ((n % 2 : Nat) : Int) := by
    rw [u32_and _ _ (by omega) (by omega) (by omega) (by omega)]
    simp
  rw [h1]
  have h2 : n % 2 = 0 ∨ n % 2 = 1 := by omega
  rw [u32_xor _ _ (by omega) (by omega) (by omega) (by omega)]
  unfold Crc.bit
  congr 1
  have h3 : ((n : Int) / 2).toNat = n / 2 := by omega
  rw [h3]
  rcases h2 with e | e <;> simp [e]

set_option maxRecDepth 100000 in
set_option maxHeartbeats 400000 in
theorem table_any (w : World) : Calls Try.prog 180 #[] w fun e w' => e = .returned (.agg tabAll) ∧ Keep [] w w' := by
  have hz : ∀ w, Sem.run Try.prog (zeroValue 291) w = .ok (.agg zeros256) w := fun _ => by kernel_rfl
  go_enter Try.func180, Try.ntmps180
  go_wp2
  clear hz
  go_loopw [5] (fun i wr => ∃ k : Nat, k ≤ 256 ∧ i = .int .i64 k ∧ Keep [] w wr ∧ wr.heap[w.heap.size]? = some (.cells zeros256 291 (0, 0)) ∧ wr.heap[w.heap.size + 1]? = some (.cells (tabTo k) 291 (0, 0))) (fun i wr => 256 - (intOf i).toNat)
  case atStart => exact ⟨0, by omega, rfl, ((Keep.refl _ _).alloc _).alloc _, heap_alloc2_old _ _ _, by rw [tabTo_zero]; exact heap_alloc2_new _ _ _⟩
  case round =>
    obtain ⟨k, hk, rfl, hkeep, hb0, hb1⟩ := hrel
    by_cases hlt : k < 256
    · have hH0 := Lib.hid hb0
      have hH1 := Lib.hid hb1
      clear hb0 hb1
      go_wp2
      go_loop [10, 3] (fun j n => ∃ i m : Nat, i ≤ 8 ∧ j = .int .i64 i ∧ m < 4294967296 ∧ Hid (Crc.bits (8 - i) m = Crc.byte k) ∧ n = .int .u32 m) (fun i n => 8 - (intOf i).toNat)
      case atStart => exact ⟨0, k, by omega, rfl, by omega, rfl, rfl⟩
      case round =>
        obtain ⟨i, m, hi, rfl, hm, hb, rfl⟩ := hrel
        by_cases hlt8 : i < 8
        · go_wp2
          go_round
          case rel => exact ⟨i + 1, Crc.bit m, by omega, by go_num, Crc.bit_lt hm, by have := hb.out; rw [show 8 - i = (8 - (i + 1)) + 1 by omega] at this; exact this, by rw [bit_go m hm]⟩
          case measure => simp [intOf]; omega
        · have h1 := hH1.out
          have hcell : wr.cell? ⟨w.heap.size + 1, k, none⟩ = some (.int .u32 0) := by rw [cell_of_row _ _ _ _ _ _ h1, tabTo_get _ _ hlt]; simp
          have hfr : wr.frozen? ⟨w.heap.size + 1, k, none⟩ = false := frozen_of_row _ _ _ _ _ h1
          clear h1
          go_wp2
          go_roundw
          case rel =>
            have hmb : m = Crc.byte k := by have := hb.out; rw [show 8 - i = 0 by omega] at this; exact this
            refine ⟨k + 1, by omega, by go_num, hkeep.setCell (.inr (by simp)) _, (heap_setCell_other _ _ _ _ (by simp)).trans hH0.out, ?_⟩
            rw [hmb, ← tabTo_set]
            exact heap_setCell_same _ _ _ _ _ _ hH1.out
          case measure => simp [intOf]; omega
    · obtain rfl : k = 256 := by omega
      go_wp2_with (first | (refine wpList_load_row rfl 291 _ rfl (w.heap.size + 1) rfl 291 (tabTo 256) _ _ hb1 Try.underlying291 rfl (by kernel_rfl) ?_) | (refine wpList_store_row rfl 291 _ _ rfl w.heap.size (tabTo 256) rfl rfl 291 zeros256 hb0 (by kernel_rfl) (by kernel_rfl) (by kernel_rfl) ?_))
      refine bodyPost_ret (results_cell_row rfl _ _ w.heap.size 291 (tabTo 256) _ _ rfl (setRow_heap _ _ _ _ _ _ hb0) Try.underlying291 rfl (by kernel_rfl)) rfl ⟨rfl, hkeep.setRow (.inr (Nat.le_refl _)) _⟩

theorem mod_step (z k : Nat) : z % 2 ^ (k + 1) = z % 2 ^ k + 2 ^ k * (z / 2 ^ k % 2) := by
  rw [Nat.pow_succ, Nat.mod_mul]

set_option maxRecDepth 100000 in
set_option maxHeartbeats 400000 in
theorem apart_any (a b : Nat) (ha : a < 4294967296) (hb : b < 4294967296) (w : World) :
    Calls Try.prog 132 #[.int .i64 a, .int .i64 b] w fun e w' => e = .returned (.int .i64 ((a ^^^ b : Nat) : Int)) ∧ w = w' := by
  go_enter Try.func132, Try.ntmps132
  go_wp2
  go_loop [0, 1, 5, 6] (fun x y o t => ∃ k x' y' o' t' : Nat, k ≤ 32 ∧ x' < 4294967296 ∧ y' < 4294967296 ∧ o' < 4294967296 ∧ t' ≤ 4294967296 ∧ Hid (x' = a / 2 ^ k ∧ y' = b / 2 ^ k ∧ o' = (a ^^^ b) % 2 ^ k ∧ t' = 2 ^ k) ∧ x = .int .i64 x' ∧ y = .int .i64 y' ∧ o = .int .i64 o' ∧ t = .int .i64 t') (fun x y _ _ => (intOf x).toNat + (intOf y).toNat)
  case atStart => exact ⟨0, a, b, 0, 1, by omega, ha, hb, by omega, by omega, ⟨by simp, by simp, by simp [Nat.mod_one], by simp⟩, rfl, rfl, rfl, rfl⟩
  case round =>
    obtain ⟨k, x, y, o, t, hk, hx, hy, ho, ht, hH, rfl, rfl, rfl, rfl⟩ := hrel
    by_cases hpos : 0 < x ∨ 0 < y
    · have hk31 : k < 32 := by
        obtain ⟨e1, e2, _⟩ := hH.out
        by_cases h : k < 32
        · exact h
        · have : k = 32 := by omega
          subst this
          simp at e1 e2
          omega
      have hz : (a ^^^ b) / 2 ^ k % 2 = (x % 2 + y % 2) % 2 := by
        obtain ⟨e1, e2, _⟩ := hH.out
        rw [Nat.xor_div_two_pow, ← e1, ← e2]
        have := Nat.xor_mod_two_pow (a := x) (b := y) (n := 1)
        simp at this
        rw [this]
        have h1 : x % 2 = 0 ∨ x % 2 = 1 := by omega
        have h2 : y % 2 = 0 ∨ y % 2 = 1 := by omega
        rcases h1 with h1 | h1 <;> rcases h2 with h2 | h2 <;> rw [h1, h2] <;> rfl
      have hstep := mod_step (a ^^^ b) k
      rw [hz] at hstep
      have hlt1 : (a ^^^ b) % 2 ^ (k + 1) < 4294967296 := Nat.lt_of_le_of_lt (Nat.mod_le _ _) (Nat.xor_lt_two_pow (n := 32) ha hb)
      have hpow : 2 ^ (k + 1) ≤ 2 ^ 32 := Nat.pow_le_pow_right (by decide) (by omega)
      have HS := Lib.hid hstep
      have HP := Lib.hid hpow
      have HL := Lib.hid hlt1
      clear hz hstep hpow hlt1
      have fin : ∀ o2 : Nat, o2 = o + t * ((x % 2 + y % 2) % 2) → o2 < 4294967296 ∧ 2 * t ≤ 4294967296 ∧ (x / 2 = a / 2 ^ (k + 1) ∧ y / 2 = b / 2 ^ (k + 1) ∧ o2 = (a ^^^ b) % 2 ^ (k + 1) ∧ t * 2 = 2 ^ (k + 1)) := by
        intro o2 h2
        obtain ⟨e1, e2, e3, e4⟩ := hH.out
        have h1 := HS.out
        rw [← e3, ← e4] at h1
        have h3 : o2 = (a ^^^ b) % 2 ^ (k + 1) := by rw [h1, h2]
        have hp := HP.out
        have hl := HL.out
        rw [Nat.pow_succ, ← e4] at hp
        refine ⟨by omega, by omega, ?_, ?_, h3, ?_⟩
        · rw [e1, Nat.div_div_eq_div_mul, Nat.pow_succ]
        · rw [e2, Nat.div_div_eq_div_mul, Nat.pow_succ]
        · rw [e4, Nat.pow_succ]
      have FIN := Lib.hid fin
      clear fin
      by_cases hpar : x % 2 = y % 2
      · by_cases hx0 : 0 < x
        all_goals
          go_wp2
          go_round
          case rel =>
            obtain ⟨f1, f2, f3⟩ := FIN.out o (by rw [show (x % 2 + y % 2) % 2 = 0 by omega]; simp)
            exact ⟨k + 1, x / 2, y / 2, o, t * 2, by omega, by omega, by omega, by omega, by omega, f3, rfl, rfl, rfl, rfl⟩
          case measure => simp [intOf]; omega
      · by_cases hx0 : 0 < x
        all_goals
          go_wp2
          go_round
          case rel =>
            obtain ⟨f1, f2, f3⟩ := FIN.out (o + t) (by rw [show (x % 2 + y % 2) % 2 = 1 by omega]; simp)
            exact ⟨k + 1, x / 2, y / 2, o + t, t * 2, by omega, by omega, by omega, by omega, by omega, f3, rfl, rfl, rfl, rfl⟩
          case measure => simp [intOf]; omega
    · have hx0 : ¬ 0 < x := by omega
      have hy0 : ¬ 0 < y := by omega
      clear hpos
      go_wp2
      go_ret
      obtain ⟨e1, e2, e3, e4⟩ := hH.out
      refine ⟨?_, rfl⟩
      have ea : a < 2 ^ k := by
        have : a / 2 ^ k = 0 := by omega
        exact (Nat.div_eq_zero_iff.1 this).resolve_left (by have := Nat.two_pow_pos k; omega)
      have eb : b < 2 ^ k := by
        have : b / 2 ^ k = 0 := by omega
        exact (Nat.div_eq_zero_iff.1 this).resolve_left (by have := Nat.two_pow_pos k; omega)
      have : o = a ^^^ b := by rw [e3]; exact Nat.mod_eq_of_lt (Nat.xor_lt_two_pow ea eb)
      subst this
      rfl

theorem bit_ref (n : Nat) : (if n % 2 = 1 then n / 2 ^^^ 2197175160 else n / 2) = Crc.bit n := by
  unfold Crc.bit
  have : n % 2 = 0 ∨ n % 2 = 1 := by omega
  rcases this with e | e <;> simp [e]

set_option maxRecDepth 100000 in
set_option maxHeartbeats 400000 in
theorem place_any (n : Nat) (hn : n < 4294967296) (w : World) :
    Calls Try.prog 131 #[.int .i64 n] w fun e w' => e = .returned (.int .i64 (Crc.byte n : Int)) ∧ w = w' := by
  go_enter Try.func131, Try.ntmps131
  go_wp2
  go_loop [0, 3] (fun x j => ∃ i m : Nat, i ≤ 8 ∧ m < 4294967296 ∧ Hid (Crc.bits (8 - i) m = Crc.byte n) ∧ x = .int .i64 m ∧ j = .int .i64 i) (fun _ j => 8 - (intOf j).toNat)
  case atStart => exact ⟨0, n, by omega, hn, rfl, rfl, rfl⟩
  case round =>
    obtain ⟨i, m, hi, hm, hb, rfl, rfl⟩ := hrel
    by_cases hlt : i < 8
    · have hbit := bit_ref m
      have HB := Lib.hid hbit
      clear hbit
      have hl := Crc.bit_lt hm
      by_cases hpar : m % 2 = 1
      · go_wp2_with (go_at_call 132; refine (apart_any (m / 2) 2197175160 (by omega) (by omega) _).mono ?_; rintro e w' ⟨rfl, rfl⟩)
        go_round
        case rel =>
          have := HB.out
          rw [if_pos hpar] at this
          rw [this]
          exact ⟨i + 1, Crc.bit m, by omega, hl, by have := hb.out; rw [show 8 - i = (8 - (i + 1)) + 1 by omega] at this; exact this, rfl, by go_num⟩
        case measure => simp [intOf]; omega
      · go_wp2
        go_round
        case rel =>
          have := HB.out
          rw [if_neg hpar] at this
          exact ⟨i + 1, Crc.bit m, by omega, hl, by have := hb.out; rw [show 8 - i = (8 - (i + 1)) + 1 by omega] at this; exact this, by rw [← this]; rfl, by go_num⟩
        case measure => simp [intOf]; omega
    · go_wp2
      go_ret
      have hmb : m = Crc.byte n := by have := hb.out; rw [show 8 - i = 0 by omega] at this; exact this
      subst hmb
      exact ⟨rfl, rfl⟩

/-- bytes as numbers -/
def nats (l : List UInt8) : List Nat := l.map UInt8.toNat
theorem nats_lt (l : List UInt8) : ∀ x ∈ nats l, x < 256 := by
  intro x hx
  obtain ⟨y, _, rfl⟩ := List.mem_map.1 hx
  exact y.toNat_lt
theorem run_take_succ (l : List UInt8) (k : Nat) (h : k < l.length) (n : Nat) : Crc.run n (nats (l.take (k + 1))) = Crc.byte (Crc.run n (nats (l.take k)) ^^^ l[k].toNat) := by
  rw [List.take_succ_eq_append_getElem h, nats, List.map_append, Crc.run_append]
  rfl

set_option maxRecDepth 100000 in
set_option maxHeartbeats 400000 in
theorem refSum_any (v : Value) (l : List UInt8) (w : World) (hv : Bytes w v l) :
    Calls Try.prog 100 #[v] w fun e w' => e = .returned (.int .i64 (Crc.sum (nats l) : Int)) ∧ w = w' := by
  have hsum : Crc.sum (nats l) = 4294967295 - Crc.run 4294967295 (nats l) := rfl
  have hrl := Crc.run_lt (nats l) (n := 4294967295) (by decide) (nats_lt l)
  have HS := Lib.hid hsum
  clear hsum
  obtain ⟨ao, cap, rfl, -, hm, -⟩ := hv.form
  go_enter Try.func100, Try.ntmps100
  go_wp2
  go_loop [3, 4] (fun x j => ∃ i m : Nat, i ≤ l.length ∧ m < 4294967296 ∧ Hid (m = Crc.run 4294967295 (nats (l.take i))) ∧ x = .int .i64 m ∧ j = .int .i64 i) (fun _ j => l.length - (intOf j).toNat)
  case atStart => exact ⟨0, 4294967295, by omega, by omega, by simp [Hid, nats, Crc.run], rfl, rfl⟩
  case round =>
    obtain ⟨i, m, hi, hmm, hb, rfl, rfl⟩ := hrel
    by_cases hlt : i < l.length
    · obtain ⟨b, o, rfl, -, hc⟩ := hv.spot (by omega)
      have hci := hc i hlt
      have hx := l[i].toNat_lt
      have hxl : m ^^^ l[i].toNat < 4294967296 := Nat.xor_lt_two_pow (n := 32) hmm (by omega)
      have hst := run_take_succ l i hlt 4294967295
      rw [← hb.out] at hst
      have HST := Lib.hid hst
      clear hst hc
      go_wp2_with (first | (go_at_call 132; refine (apart_any m l[i].toNat (by omega) (by omega) _).mono ?_; rintro e w' ⟨rfl, rfl⟩) | (go_at_call 131; refine (place_any (m ^^^ l[i].toNat) hxl _).mono ?_; rintro e w' ⟨rfl, rfl⟩))
      go_round
      case rel => exact ⟨i + 1, _, by omega, Crc.byte_lt hxl, HST.out.symm, rfl, by go_num⟩
      case measure => simp [intOf]; omega
    · go_wp2
      go_ret
      have e1 := hb.out
      rw [List.take_of_length_le (by omega)] at e1
      refine ⟨?_, rfl⟩
      have e2 : (Crc.sum (nats l) : Int) = 4294967295 - (m : Int) := by rw [HS.out, ← e1]; omega
      rw [e2]; rfl
end Go.Proofs.Ytjkjiabfhhnngaa

/-! The iterator of crc.all: it gives the bytes of the pieces, one behind the other. -/
namespace Go.Proofs.Ytjkjiabfhhnngaa
open Go.RowKit Go.Shelf Sg
attribute [local go_sem] Oper.semAt_some

def flat (ps : List (Value × List UInt8)) : List UInt8 := ps.flatMap (·.2)
theorem flat_append (a b : List (Value × List UInt8)) : flat (a ++ b) = flat a ++ flat b := List.flatMap_append
theorem flat_take_succ (ps : List (Value × List UInt8)) (i : Nat) (h : i < ps.length) : flat (ps.take (i + 1)) = flat (ps.take i) ++ ps[i].2 := by
  rw [List.take_succ_eq_append_getElem h, flat_append]
  congr 1
  exact List.append_nil _
theorem flat_pre (ps : List (Value × List UInt8)) (i k : Nat) (h : i < ps.length) (hk : k < ps[i].2.length) : (flat (ps.take i) ++ ps[i].2.take k) ++ [ps[i].2[k]] <+: flat ps := by
  rw [List.append_assoc, ← List.take_succ_eq_append_getElem hk]
  have e : flat ps = flat (ps.take i) ++ (ps[i].2 ++ flat (ps.drop (i + 1))) := by
    have h1 : ps = ps.take (i + 1) ++ ps.drop (i + 1) := (List.take_append_drop _ _).symm
    have h2 : flat ps = flat (ps.take (i + 1) ++ ps.drop (i + 1)) := congrArg flat h1
    rw [h2, flat_append, flat_take_succ ps i h, List.append_assoc]
  rw [e]
  refine (List.prefix_append_right_inj _).2 ?_
  exact (List.take_prefix _ _).trans (List.prefix_append _ _)

set_option maxRecDepth 100000 in
set_option maxHeartbeats 1000000 in
theorem all1_iter (Bn : Nat) (v : Value) (ps : List (Value × List UInt8)) :
    Iter Try.prog 187 #[.pointer (some ⟨Bn, 0, none⟩)] (fun (x : UInt8) args _ => args = #[.int .u8 (x.toNat : Int)]) (flat ps) (fun W => W.cell? ⟨Bn, 0, none⟩ = some v ∧ Pieces W v ps) := by
  intro n l J Jx hJ _ _ hY W h0
  obtain ⟨hcell, hp⟩ := hJ _ _ h0
  obtain ⟨ao, cap, rfl, hl1, hl2, -⟩ := id hp
  have hm : ps.length ≤ 140737488355328 := by omega
  refine callsIn_of_wp Try.func187 rfl trivial ?_
  simp only [Try.ntmps187, List.size_toArray, List.length_cons, List.length_nil, Nat.reduceAdd, Nat.reduceSub, Array.replicate_succ, Array.replicate_zero, List.push_toArray, List.append_toArray, List.nil_append, List.cons_append]
  gi_wp2
  gi_loopw [9] (fun i wr => ∃ k : Nat, k ≤ ps.length ∧ i = .int .i64 k ∧ J (flat (ps.take k)) wr) (fun i _ => ps.length - (intOf i).toNat)
  case atStart => exact ⟨0, by omega, rfl, by simpa [flat] using h0⟩
  case round =>
    obtain ⟨k, hk, rfl, hJk⟩ := hrel
    by_cases hlt : k < ps.length
    · obtain ⟨hcell2, hp2⟩ := hJ _ _ hJk
      obtain ⟨b, o, rfl, -, hc⟩ := hp2.spot (by omega)
      obtain ⟨hck, hbk⟩ := hc k hlt
      obtain ⟨ao2, cap2, hv2, -, hm2, -⟩ := hbk.form
      rw [hv2] at hck
      have HV := Lib.hid hv2
      clear hv2 hc hbk hcell2 hp2
      gi_wp2
      obtain ⟨wo, ho⟩ : ∃ wo, wo = wr := ⟨_, rfl⟩
      subst ho
      gi_loopw [15] (fun i wr => ∃ j : Nat, j ≤ ps[k].2.length ∧ i = .int .i64 j ∧ J (flat (ps.take k) ++ ps[k].2.take j) wr) (fun i _ => ps[k].2.length - (intOf i).toNat)
      case atStart => exact ⟨0, by omega, rfl, by simpa using hJk⟩
      case round =>
        obtain ⟨j, hj, rfl, hJj⟩ := hrel
        by_cases hlt2 : j < ps[k].2.length
        · obtain ⟨hcell2, hp2⟩ := hJ _ _ hJj
          obtain ⟨b', o', e', -, hc⟩ := hp2.spot (by omega)
          cases e'
          obtain ⟨hck2, hbk⟩ := hc k hlt
          rw [HV.out] at hbk
          obtain ⟨b2, o2, rfl, -, hc2⟩ := hbk.spot (by omega)
          have hcj := hc2 j hlt2
          obtain ⟨fn, tmps, assign, body, hy, hR⟩ := hY _ _ _ _ (flat_pre ps k j hlt hlt2) hJj rfl
          have HE : Hid (flat (ps.take k) ++ ps[k].2.take (j + 1) = flat (ps.take k) ++ ps[k].2.take j ++ [ps[k].2[j]]) := by
            show _ = _
            rw [List.append_assoc, ← List.take_succ_eq_append_getElem hlt2]
          have HP := Lib.hid (flat_pre ps k j hlt hlt2)
          clear hcell2 hp2 hc hck2 hbk hc2
          gi_wp2
          refine ⟨wideN _, hR.mono ?_⟩
          rintro e W' (⟨rfl, hJ'⟩ | ⟨rfl, hJx'⟩)
          · gi_wp2
            go_roundw
            case rel => exact ⟨j + 1, by omega, by go_num, by rw [HE.out]; exact hJ'⟩
            case measure => simp [intOf]; omega
          · gi_wp2
            refine bodyPost_ret (results_none rfl _ _ _) rfl ?_
            exact ⟨⟨_, rfl⟩, .inr ⟨_, HP.out, hJx'⟩⟩
        · gi_wp2
          go_roundw
          case rel =>
            refine ⟨k + 1, by omega, by go_num, ?_⟩
            rw [flat_take_succ ps k hlt]
            rw [List.take_of_length_le (show ps[k].2.length ≤ j by omega)] at hJj
            exact hJj
          case measure => simp [intOf]; omega
    · gi_wp2
      go_end0
      rw [List.take_of_length_le (by omega)] at hJk
      exact ⟨⟨_, rfl⟩, .inl hJk⟩

theorem all_any (ao : Option Addr) (n c : Nat) (w : World) : Calls Try.prog 181 #[.slice ao n c] w fun e w' => e = .returned (.func (.func 187) #[] #[.pointer (some ⟨w.heap.size, 0, none⟩)]) ∧ w.alloc (.cells #[.slice ao n c] 56) = w' := by
  go_enter Try.func181, Try.ntmps181
  go_wp2
  go_ret
  exact ⟨rfl, rfl⟩
end Go.Proofs.Ytjkjiabfhhnngaa

/-! The walk of crc.more: the check of more bytes. -/
namespace Go.Proofs.Ytjkjiabfhhnngaa
open Go.RowKit Go.Shelf Sg
attribute [local go_sem] Oper.semAt_some

def neg32 (m : Nat) : Nat := 4294967295 - m
theorem neg32_lt (m : Nat) : neg32 m < 4294967296 := by unfold neg32; omega
theorem neg32_go (m : Nat) (h : m < 4294967296) : bits BinOp.xor IntKind.u32 IntKind.u32.max (m : Int) = (neg32 m : Int) := by
  have e : IntKind.u32.max = 4294967295 := by decide
  rw [e, u32_xor _ _ (by omega) (by omega) (by omega) (by omega)]
  unfold neg32
  congr 1
  show 4294967295 ^^^ m = _
  apply Nat.eq_of_testBit_eq
  intro i
  rw [Nat.testBit_xor, show (4294967295 : Nat) - m = 2 ^ 32 - (m + 1) by omega, Nat.testBit_two_pow_sub_succ h, show (4294967295 : Nat) = 2 ^ 32 - 1 from rfl, Nat.testBit_two_pow_sub_one]
  by_cases hi : i < 32
  · simp [hi]
  · have : m.testBit i = false := Nat.testBit_lt_two_pow (Nat.lt_of_lt_of_le h (by
      rw [show (4294967296 : Nat) = 2 ^ 32 from rfl]; exact Nat.pow_le_pow_right (by decide) (by omega)))
    simp [hi, this]

/-- What the loop's body leaves of its own. -/
def MoreInv (w : World) (T N B : Nat) (v : Value) (n0 : Nat) (pre : List UInt8) (W : World) : Prop :=
  Keep [] w W ∧ W.heap[T]? = some (.cells tabAll 291 (0, 0)) ∧ W.heap[N]? = some (.cells #[.int .u32 (Crc.run n0 (nats pre) : Int)] 117 (0, 0)) ∧ W.heap[B]? = some (.cells #[v] 56 (0, 0))

theorem step_go (m : Nat) (x : UInt8) (hm : m < 4294967296) : ∃ j t m' : Nat, bits BinOp.xor IntKind.u8 (IntKind.u8.wrap (m : Int)) (x.toNat : Int) = (j : Int) ∧ j < 256 ∧ t = Crc.byte j ∧ t < 4294967296 ∧
    bits BinOp.xor IntKind.u32 ((m : Int) / 256) (t : Int) = (m' : Int) ∧ m' = Crc.step m x.toNat ∧ m' < 4294967296 := by
  have hx := x.toNat_lt
  have hj : (m % 256) ^^^ x.toNat < 256 := Nat.xor_lt_two_pow (n := 8) (by omega) (by omega)
  have ht := Crc.byte_lt (n := (m % 256) ^^^ x.toNat) (by omega)
  refine ⟨(m % 256) ^^^ x.toNat, Crc.byte ((m % 256) ^^^ x.toNat), Crc.step m x.toNat, ?_, hj, rfl, ht, ?_, rfl, ?_⟩
  · rw [IntKind.wrap_u8', show ((m : Int) % 256) = ((m % 256 : Nat) : Int) by omega, u8_xor_nat _ _ (by omega) (by omega)]
  · rw [show ((m : Int) / 256) = ((m / 256 : Nat) : Int) by omega, u32_xor_nat _ _ (by omega) (by omega), Crc.step_table _ _ (by omega)]
  · rw [Crc.step_table _ _ (by omega)]
    exact Nat.xor_lt_two_pow (n := 32) (by omega) ht

theorem run_snoc (n : Nat) (l : List UInt8) (x : UInt8) : Crc.run n (nats (l ++ [x])) = Crc.step (Crc.run n (nats l)) x.toNat := by
  simp [nats, Crc.run]

set_option maxRecDepth 100000 in
set_option maxHeartbeats 1000000 in
theorem more_any (s : Nat) (hs : s < 4294967296) (v : Value) (ps : List (Value × List UInt8)) (w : World) (hp : Pieces w v ps) :
    Calls Try.prog 166 #[.int .u32 s, v] w fun e w' => e = .returned (.int .u32 (neg32 (Crc.run (neg32 s) (nats (flat ps))) : Int)) ∧ Keep [] w w' := by
  obtain ⟨ao, cap, rfl, hl1, hl2, -⟩ := id hp
  have hz : ∀ w, Sem.run Try.prog (zeroValue 291) w = .ok (.agg zeros256) w := fun _ => by kernel_rfl
  have hnot := neg32_go s hs
  have hn0 := neg32_lt s
  generalize neg32 s = n0 at hnot hn0 ⊢
  refine calls_of_marks Try.func166 rfl ?_
  simp only [Try.ntmps166, List.size_toArray, List.length_cons, List.length_nil, Nat.reduceAdd, Nat.reduceSub, Array.replicate_succ, Array.replicate_zero, List.push_toArray, List.append_toArray, List.nil_append, List.cons_append]
  go_wp2_with fail
  refine (table_any _).mono ?_
  rintro e w1 ⟨rfl, hk1⟩
  go_wp2_with (refine wpList_store_row rfl 291 _ _ rfl w1.heap.size tabAll rfl rfl 291 zeros256 (heap_alloc_new _ _) (by kernel_rfl) (by kernel_rfl) (by kernel_rfl) ?_; obtain ⟨w2, hw2⟩ : ∃ w2, (w1.alloc (.cells zeros256 291)).setRow w1.heap.size tabAll = w2 := ⟨_, rfl⟩; rw [hw2])
  have hb2 : w2.heap[w1.heap.size]? = some (.cells tabAll 291 (0, 0)) := by rw [← hw2]; exact setRow_heap _ _ _ _ _ _ (heap_alloc_new _ _)
  have hs2 : w2.heap.size = w1.heap.size + 1 := by rw [← hw2]; simp
  have hk2 : Keep [] w w2 := by rw [← hw2]; exact (hk1.alloc _).setRow (.inr hk1.size) _
  clear hw2 hz
  refine (all_any _ _ _ _).mono ?_
  rintro e w3 ⟨rfl, hw3⟩
  have hk3 : Keep [] w w3 := by rw [← hw3]; exact (hk2.alloc _).alloc _
  have hb3 : w3.heap[w1.heap.size]? = some (.cells tabAll 291 (0, 0)) := by rw [← hw3]; exact (((Keep.refl [] w2).alloc _).alloc _).blk (by simp) hb2
  have hc3 : w3.heap[w2.heap.size]? = some (.cells #[.int .u32 n0] 117 (0, 0)) := by rw [← hw3]; exact heap_alloc2_old _ _ _
  have hd3 : w3.heap[w2.heap.size + 1]? = some (.cells #[.slice ao ps.length cap] 56 (0, 0)) := by rw [← hw3]; exact heap_alloc2_new _ _ _
  have hs3 : w3.heap.size = w2.heap.size + 2 := by rw [← hw3]; simp
  clear hw3
  rw [hs2] at hc3 hd3 hs3
  have hT := hk1.size
  go_wp2_with fail
  generalize w1.heap.size = T at *
  refine wp_range (n := 3) (gf := 187) (lb := #[.pointer (some ⟨T + 1 + 1, 0, none⟩)]) rfl (enters_of Try.func187 (by kernel_rfl) rfl)
    (all1_iter (T + 2) (.slice ao ps.length cap) ps) (fun _ _ _ _ _ h => h) (fun _ _ _ h => by rw [h]; rfl)
    (MoreInv w T (T + 1) (T + 2) (.slice ao ps.length cap) n0) (fun _ _ _ => False)
    ?hRd ?hI (fun _ _ _ _ _ h => h) ?h0
    (fun args => { tmps := #[.int .u32 s, .slice ao ps.length cap, undef, undef, .int .u32 0, .pointer (some ⟨T, 0, none⟩), .pointer (some ⟨T + 1, 0, none⟩), args.getD 0 undef, .agg tabAll, .int .u32 s, .int .u32 n0, .slice ao ps.length cap,
      .func (.func 187) #[] #[.pointer (some ⟨T + 1 + 1, 0, none⟩)], args.getD 0 undef, undef, undef, undef, undef, undef, undef, undef, undef, undef, undef, undef], defers := [] })
    ?hassign ?hbody ?hdone ?hstop
  case hRd =>
    rintro pre W ⟨hk, hb, hc, hd⟩
    refine ⟨cell_of_one hd, hp.keep hk ?_ ?_⟩ <;> simp
  case hI =>
    rintro pre W W' k ⟨hk, hb, hc, hd⟩
    exact ⟨hk.ext k (by simp; omega), k.blk (by simp; omega) hb, k.blk (by simp; omega) hc, k.blk (by simp; omega) hd⟩
  case h0 =>
    intro W k
    exact ⟨hk3.trans k, k.blk (by simp) hb3, k.blk (by simp) hc3, k.blk (by simp) hd3⟩
  case hassign =>
    rintro x args W K rfl hK
    gi_wp2
    exact hK
  case hbody =>
    rintro pre x args W hpre ⟨hk, hb, hc, hd⟩ rfl ⟨r, hL⟩ hD
    have hm := Crc.run_lt (nats pre) hn0 (nats_lt pre)
    have hsn := run_snoc n0 pre x
    generalize Crc.run n0 (nats pre) = m at hc hm hsn
    obtain ⟨j, t, m', e1, hj, e2, ht, e3, e4, hm'⟩ := step_go m x hm
    have hc1 := cell_of_one hc
    have hf1 := free_of_one hc
    have hc2 : W.cell? ⟨T, j, none⟩ = some (.int .u32 t) := by rw [cell_of_row _ _ _ _ _ _ hb, tabAll, tabTo_get _ _ hj, e2]; simp [hj]
    have HB := Lib.hid hb
    have HC := Lib.hid hc
    have HD := Lib.hid hd
    have HL := Lib.hid hL
    have HDD := Lib.hid hD
    have HSN := Lib.hid hsn
    have HE2 := Lib.hid e2
    have HE4 := Lib.hid e4
    have HS2 := Lib.hid hs2
    have HS3 := Lib.hid hs3
    clear hb hc hd hL hD hsn e2 e4 hs2 hs3 hb2 hb3 hc3 hd3 hnot
    have hx := x.toNat_lt
    have hj' : (j : Int) < 256 := by omega
    have hmix : Try.prog.follows .mixedOrders = true := by kernel_rfl
    gi_wp2
    refine wpIn_region_tail 9 (by kernel_rfl) ?hQ (by kernel_rfl) (by kernel_rfl) ?_
    case hQ => rintro ⟨_, _, h⟩; exact h
    simp only [List.take_succ_cons, List.take_zero, List.drop_succ_cons, List.drop_zero]
    repeat still_step
    refine wpStill_nil ?_
    go_wp2
    have hs3 := HS3.out
    refine ⟨(heap_setCell_other _ _ _ _ (by simp; omega)).trans (heap_drew W ▸ rfl), (heap_setCell_other _ _ _ _ (by simp; omega)).trans (heap_drew W ▸ rfl), hk.drew.setCell (.inr (by simp; omega)) _, (heap_setCell_other _ _ _ _ (by simp)).trans HB.out, ?_, (heap_setCell_other _ _ _ _ (by simp)).trans HD.out⟩
    rw [HSN.out, ← HE4.out]
    exact one_setCell HC.out
  case hdone =>
    rintro W ⟨hk, hb, hc, hd⟩ hD
    have hm := Crc.run_lt (nats (flat ps)) hn0 (nats_lt _)
    obtain ⟨m, hmm⟩ : ∃ m, m = Crc.run n0 (nats (flat ps)) := ⟨_, rfl⟩
    rw [← hmm] at hc hm
    have HM := Lib.hid hmm
    clear hmm
    have hnot2 := neg32_go m hm
    have hc1 := cell_of_one hc
    go_wp2
    refine leavesM_one hD (results_tmp rfl _ _ _) ⟨by rw [← HM.out]; rfl, hk.putObj (.inr ?_) _⟩
    omega
  case hstop =>
    rintro c pre W _ h
    exact h.elim
end Go.Proofs.Ytjkjiabfhhnngaa

/-! The walks of crc.Add, Sum. -/
namespace Go.Proofs.Ytjkjiabfhhnngaa
open Go.RowKit Go.Shelf Sg

theorem Pieces_one (w : World) (ao : Option Addr) (cap : Nat) (l : List UInt8) (h : Bytes w (.slice ao l.length cap) l) (W : World) (k : Keep [] w W) (g : Nat)
    (hg : W.heap[g]? = some (.cells #[.slice ao l.length cap] 42 (0, 0))) : Pieces W (.slice (some ⟨g, 0, none⟩) 1 1) [(.slice ao l.length cap, l)] := by
  refine ⟨some ⟨g, 0, none⟩, 1, rfl, by simp, ⟨by decide, by simp⟩, by simp, ?_⟩
  intro ad e i hi
  cases e
  obtain rfl : i = 0 := by simpa using hi
  refine ⟨?_, h.keep k (by simp)⟩
  rw [Addr.add_zero']
  exact cell_of_one hg

set_option maxRecDepth 100000 in
set_option maxHeartbeats 400000 in
theorem add_any (s : Nat) (hs : s < 4294967296) (v : Value) (l : List UInt8) (w : World) (hv : Bytes w v l) :
    Calls Try.prog 159 #[.int .u32 s, v] w fun e w' => e = .returned (.int .u32 (neg32 (Crc.run (neg32 s) (nats l)) : Int)) ∧ Keep [] w w' := by
  obtain ⟨ao, cap, rfl, -, hm, -⟩ := hv.form
  go_enter Try.func159, Try.ntmps159
  go_wp2_with fail
  refine (more_any s hs _ _ _ (Pieces_one w ao cap l hv _ ((Keep.refl [] w).alloc _) w.heap.size (heap_alloc_new _ _))).mono ?_
  rintro e w' ⟨rfl, hk⟩
  go_wp2_with fail
  go_ret
  refine ⟨?_, ((Keep.refl [] w).alloc _).trans hk⟩
  have e : flat [(Value.slice ao l.length cap, l)] = l := by simp [flat]
  rw [e]
  rfl

theorem neg_zero : (neg32 0) = 4294967295 := rfl

set_option maxRecDepth 100000 in
set_option maxHeartbeats 400000 in
theorem sum_any (v : Value) (l : List UInt8) (w : World) (hv : Bytes w v l) :
    Calls Try.prog 137 #[v] w fun e w' => e = .returned (.int .u32 (Crc.sum (nats l) : Int)) ∧ Keep [] w w' := by
  obtain ⟨ao, cap, rfl, -, hm, -⟩ := hv.form
  go_enter Try.func137, Try.ntmps137
  go_wp2_with fail
  refine (add_any 0 (by decide) _ l _ hv).mono ?_
  rintro e w' ⟨rfl, hk⟩
  go_wp2_with fail
  go_ret
  exact ⟨rfl, hk⟩

end Go.Proofs.Ytjkjiabfhhnngaa
