/-! Plain mathematics of the check (no program in sight). -/
namespace Sg.Crc

/-- one place down -/
def bit (n : Nat) : Nat := n / 2 ^^^ (2197175160 * (n % 2))
/-- k places -/
def bits : Nat → Nat → Nat
  | 0, n => n
  | k + 1, n => bits k (bit n)
def byte (n : Nat) : Nat := bits 8 n
/-- a byte more -/
def step (n x : Nat) : Nat := byte (n ^^^ x)
def run (n : Nat) (l : List Nat) : Nat := l.foldl step n
/-- the check -/
def sum (l : List Nat) : Nat := 4294967295 - run 4294967295 l

theorem bit_lt {n : Nat} (h : n < 4294967296) : bit n < 4294967296 := by
  unfold bit
  refine Nat.xor_lt_two_pow (n := 32) (by omega) ?_
  have : n % 2 = 0 ∨ n % 2 = 1 := by omega
  rcases this with e | e <;> rw [e] <;> omega

theorem bits_lt : ∀ (k : Nat) {n : Nat}, n < 4294967296 → bits k n < 4294967296
  | 0, _, h => h
  | k + 1, _, h => bits_lt k (bit_lt h)

theorem bits_succ : ∀ (k n : Nat), bits (k + 1) n = bit (bits k n)
  | 0, _ => rfl
  | k + 1, n => by
    show bits (k + 1) (bit n) = bit (bits (k + 1) n)
    rw [bits_succ k (bit n)]; rfl

theorem byte_lt {n : Nat} (h : n < 4294967296) : byte n < 4294967296 := bits_lt 8 h

theorem bit_xor (a b : Nat) : bit (a ^^^ b) = bit a ^^^ bit b := by
  unfold bit
  rw [Nat.xor_div_two]
  have h : 2197175160 * ((a ^^^ b) % 2) = 2197175160 * (a % 2) ^^^ 2197175160 * (b % 2) := by
    have e : (a ^^^ b) % 2 = (a % 2) ^^^ (b % 2) := by
      have := Nat.xor_mod_two_pow (a := a) (b := b) (n := 1)
      simpa using this
    rw [e]
    have ha : a % 2 = 0 ∨ a % 2 = 1 := by omega
    have hb : b % 2 = 0 ∨ b % 2 = 1 := by omega
    rcases ha with ha | ha <;> rcases hb with hb | hb <;> rw [ha, hb] <;> simp
  rw [h]
  ac_rfl

theorem bits_xor : ∀ (k a b : Nat), bits k (a ^^^ b) = bits k a ^^^ bits k b
  | 0, _, _ => rfl
  | k + 1, a, b => by show bits k (bit (a ^^^ b)) = bits k (bit a) ^^^ bits k (bit b); rw [bit_xor, bits_xor]

theorem byte_xor (a b : Nat) : byte (a ^^^ b) = byte a ^^^ byte b := bits_xor 8 a b

theorem bit_even (n : Nat) (h : n % 2 = 0) : bit n = n / 2 := by simp [bit, h]

theorem bits_mul : ∀ (k n : Nat), bits k (n * 2 ^ k) = n
  | 0, n => by simp [bits]
  | k + 1, n => by
    show bits k (bit (n * 2 ^ (k + 1))) = n
    rw [bit_even _ (by rw [Nat.pow_succ, ← Nat.mul_assoc]; omega)]
    rw [Nat.pow_succ, ← Nat.mul_assoc, Nat.mul_div_cancel _ (by decide)]
    exact bits_mul k n

/-- the table's way -/
theorem step_table (n x : Nat) (hx : x < 256) : step n x = n / 256 ^^^ byte (n % 256 ^^^ x) := by
  have h : n ^^^ x = (n / 256) * 2 ^ 8 ^^^ (n % 256 ^^^ x) := by
    apply Nat.eq_of_testBit_eq
    intro i
    rw [Nat.testBit_xor, Nat.testBit_xor, Nat.testBit_xor]
    rw [Nat.mul_comm, Nat.testBit_two_pow_mul]
    rw [show (256 : Nat) = 2 ^ 8 from rfl, Nat.testBit_div_two_pow, Nat.testBit_mod_two_pow]
    by_cases hi : i < 8
    · simp [hi, show ¬ 8 ≤ i by omega]
    · have hx' : x.testBit i = false := Nat.testBit_lt_two_pow (Nat.lt_of_lt_of_le hx (by
        rw [show (256 : Nat) = 2 ^ 8 from rfl]; exact Nat.pow_le_pow_right (by decide) (by omega)))
      simp [hi, show 8 ≤ i by omega, hx', show i - 8 + 8 = i by omega]
  unfold step
  rw [h, byte_xor]
  congr 1
  exact bits_mul 8 _

theorem xor_eq_of {a b : Nat} (h : a ^^^ b = 0) : a = b := by
  have := congrArg (· ^^^ b) h
  simpa [Nat.xor_assoc] using this

theorem bit_inj0 {n : Nat} (hn : n < 4294967296) (h : bit n = 0) : n = 0 := by
  unfold bit at h
  replace h := xor_eq_of h
  have : n % 2 = 0 ∨ n % 2 = 1 := by omega
  rcases this with e | e <;> rw [e] at h <;> omega

theorem bits_inj0 : ∀ (k : Nat) {n : Nat}, n < 4294967296 → bits k n = 0 → n = 0
  | 0, _, _, h => h
  | k + 1, _, hn, h => bit_inj0 hn (bits_inj0 k (bit_lt hn) h)

theorem bits_zero : ∀ k, bits k 0 = 0
  | 0 => rfl
  | k + 1 => by show bits k (bit 0) = 0; rw [show bit 0 = 0 from by decide]; exact bits_zero k

theorem run_lt : ∀ (l : List Nat) {n : Nat}, n < 4294967296 → (∀ x ∈ l, x < 256) → run n l < 4294967296
  | [], _, h, _ => h
  | x :: l, n, h, hx => run_lt l (byte_lt (Nat.xor_lt_two_pow (n := 32) h (by have := hx x (by simp); omega))) (fun y hy => hx y (by simp [hy]))

theorem run_append (n : Nat) (a b : List Nat) : run n (a ++ b) = run (run n a) b := by simp [run]

theorem xor_mul_pow (a b k : Nat) : (a ^^^ b) * 2 ^ k = a * 2 ^ k ^^^ b * 2 ^ k := by
  apply Nat.eq_of_testBit_eq
  intro i
  rw [Nat.testBit_xor, Nat.mul_comm, Nat.testBit_two_pow_mul, Nat.mul_comm a, Nat.testBit_two_pow_mul, Nat.mul_comm b, Nat.testBit_two_pow_mul, Nat.testBit_xor]
  by_cases h : k ≤ i <;> simp [h]

/-- bytes as one number, the first byte the lowest -/
def num : List Nat → Nat
  | [] => 0
  | x :: l => x + 256 * num l

theorem add_eq_xor (x m : Nat) (hx : x < 256) : x + 256 * m = x ^^^ m * 2 ^ 8 := by
  apply Nat.eq_of_testBit_eq
  intro i
  rw [Nat.testBit_xor, Nat.mul_comm m, Nat.testBit_two_pow_mul, Nat.add_comm, show (256 : Nat) = 2 ^ 8 from rfl, Nat.testBit_two_pow_mul_add _ hx]
  by_cases hi : i < 8
  · simp [hi, show ¬ 8 ≤ i by omega]
  · have hx' : x.testBit i = false := Nat.testBit_lt_two_pow (Nat.lt_of_lt_of_le hx (by
      rw [show (256 : Nat) = 2 ^ 8 from rfl]; exact Nat.pow_le_pow_right (by decide) (by omega)))
    simp [hi, show 8 ≤ i by omega, hx']

theorem bits_add (j k n : Nat) : bits (j + k) n = bits k (bits j n) := by
  induction j generalizing n with
  | zero => simp [bits]
  | succ j ih => rw [show j + 1 + k = (j + k) + 1 by omega]; exact ih (bit n)

theorem run_num : ∀ (l : List Nat) (n : Nat), (∀ x ∈ l, x < 256) → run n l = bits (8 * l.length) (n ^^^ num l)
  | [], n, _ => by simp [run, num, bits]
  | x :: l, n, h => by
    have hx := h x (by simp)
    have ih := run_num l (step n x) (fun y hy => h y (by simp [hy]))
    show run (step n x) l = _
    rw [ih, List.length_cons, show 8 * (l.length + 1) = 8 + 8 * l.length by omega, bits_add]
    congr 1
    show bits 8 (n ^^^ x) ^^^ num l = bits 8 (n ^^^ (x + 256 * num l))
    rw [add_eq_xor x _ hx, ← Nat.xor_assoc, bits_xor 8 (n ^^^ x), bits_mul]

theorem sum_xor (l : List Nat) (h : ∀ x ∈ l, x < 256) : sum l = 4294967295 ^^^ bits (8 * l.length) 4294967295 ^^^ bits (8 * l.length) (num l) := by
  have hr := run_lt l (n := 4294967295) (by decide) h
  unfold sum
  have e : ∀ r, r < 4294967296 → 4294967295 - r = 4294967295 ^^^ r := by
    intro r hr
    apply Nat.eq_of_testBit_eq
    intro i
    rw [Nat.testBit_xor, show (4294967295 : Nat) - r = 2 ^ 32 - (r + 1) by omega, Nat.testBit_two_pow_sub_succ hr, show (4294967295 : Nat) = 2 ^ 32 - 1 from rfl, Nat.testBit_two_pow_sub_one]
    by_cases hi : i < 32
    · simp [hi]
    · have : r.testBit i = false := Nat.testBit_lt_two_pow (Nat.lt_of_lt_of_le hr (by
        rw [show (4294967296 : Nat) = 2 ^ 32 from rfl]; exact Nat.pow_le_pow_right (by decide) (by omega)))
      simp [hi, this]
  rw [e _ hr, run_num l _ h, bits_xor, Nat.xor_assoc]

theorem num_set : ∀ (l : List Nat) (j r : Nat), (∀ x ∈ l, x < 256) → (hj : j < l.length) → r < 8 → num (l.set j (l[j] ^^^ 2 ^ r)) = num l ^^^ 2 ^ (8 * j + r)
  | x :: l, 0, r, h, _, hr => by
    have hx := h x (by simp)
    have hb : (2 : Nat) ^ r < 2 ^ 8 := Nat.pow_lt_pow_right (by decide) hr
    have hy : x ^^^ 2 ^ r < 256 := Nat.xor_lt_two_pow (n := 8) hx hb
    simp only [List.set_cons_zero, List.getElem_cons_zero, num]
    rw [add_eq_xor _ _ hy, add_eq_xor _ _ hx]
    simp only [Nat.mul_zero, Nat.zero_add]
    ac_rfl
  | x :: l, j + 1, r, h, hj, hr => by
    have hx := h x (by simp)
    have ih := num_set l j r (fun y hy => h y (by simp [hy])) (by simpa using hj) hr
    simp only [List.set_cons_succ, List.getElem_cons_succ, num]
    rw [ih, add_eq_xor _ _ hx, add_eq_xor _ _ hx]
    have e : (num l ^^^ 2 ^ (8 * j + r)) * 2 ^ 8 = num l * 2 ^ 8 ^^^ 2 ^ (8 * (j + 1) + r) := by
      rw [xor_mul_pow, ← Nat.pow_add]
      congr 2; omega
    rw [e]; ac_rfl

/-- bytes that are changed at some of 32 places in a row -/
theorem sum_burst (l c : List Nat) (h : ∀ x ∈ l, x < 256) (hc : ∀ x ∈ c, x < 256) (hl : c.length = l.length) (k T : Nat) (hT : T < 4294967296) (hk : k ≤ 8 * l.length) (hn : num c = num l ^^^ T * 2 ^ k) : sum c = sum l ↔ T = 0 := by
  rw [sum_xor l h, sum_xor c hc, hl, hn, bits_xor]
  have e : bits (8 * l.length) (T * 2 ^ k) = bits (8 * l.length - k) T := by
    rw [show 8 * l.length = k + (8 * l.length - k) by omega, bits_add, bits_mul]; congr 1; omega
  rw [e]
  constructor
  · intro hh
    refine bits_inj0 (8 * l.length - k) hT ?_
    revert hh
    generalize 4294967295 ^^^ bits (8 * l.length) 4294967295 = a
    generalize bits (8 * l.length) (num l) = b
    generalize bits (8 * l.length - k) T = d
    intro hh
    have h3 := congrArg (fun z => (a ^^^ b) ^^^ z) hh
    rw [← Nat.xor_assoc a b d, ← Nat.xor_assoc (a ^^^ b) (a ^^^ b) d, Nat.xor_self, Nat.zero_xor] at h3
    exact h3
  · rintro rfl
    rw [bits_zero, Nat.xor_zero]

theorem num_zip : ∀ (a b : List Nat), a.length = b.length → (∀ x ∈ a, x < 256) → (∀ x ∈ b, x < 256) → num (List.zipWith (· ^^^ ·) a b) = num a ^^^ num b
  | [], [], _, _, _ => rfl
  | x :: a, y :: b, hl, ha, hb => by
    have hx := ha x (by simp)
    have hy := hb y (by simp)
    have ih := num_zip a b (by simpa using hl) (fun z hz => ha z (by simp [hz])) (fun z hz => hb z (by simp [hz]))
    have hz : x ^^^ y < 256 := Nat.xor_lt_two_pow (n := 8) hx hy
    simp only [List.zipWith_cons_cons, num]
    rw [ih, add_eq_xor _ _ hz, add_eq_xor _ _ hx, add_eq_xor _ _ hy, xor_mul_pow]
    ac_rfl

theorem num_zeros (n : Nat) : num (List.replicate n 0) = 0 := by
  induction n with
  | zero => rfl
  | succ n ih => simp [List.replicate_succ, num, ih]

theorem sum_ones (a b : List Nat) (hl : a.length = b.length) (ha : ∀ x ∈ a, x < 256) (hb : ∀ x ∈ b, x < 256) :
    sum a ^^^ sum b = sum (List.zipWith (· ^^^ ·) a b) ^^^ sum (List.replicate a.length 0) := by
  have hz : ∀ x ∈ List.zipWith (· ^^^ ·) a b, x < 256 := by
    intro x hx
    obtain ⟨i, hi, rfl⟩ := List.getElem_of_mem hx
    rw [List.getElem_zipWith]
    exact Nat.xor_lt_two_pow (n := 8) (ha _ (List.getElem_mem _)) (hb _ (List.getElem_mem _))
  rw [sum_xor a ha, sum_xor b hb, sum_xor _ hz, sum_xor _ (by intro x hx; rw [(List.mem_replicate.1 hx).2]; decide), num_zip a b hl ha hb, num_zeros, List.length_zipWith, List.length_replicate, ← hl, Nat.min_self, bits_xor, bits_zero]
  generalize bits (8 * a.length) 4294967295 = c
  generalize bits (8 * a.length) (num a) = d
  generalize bits (8 * a.length) (num b) = e
  apply Nat.eq_of_testBit_eq
  intro i
  simp only [Nat.testBit_xor, Nat.zero_testBit]
  cases (4294967295 : Nat).testBit i <;> cases c.testBit i <;> cases d.testBit i <;> cases e.testBit i <;> rfl

theorem byte_inj {i j : Nat} (hi : i < 256) (hj : j < 256) (h : byte i = byte j) : i = j := by
  have : byte (i ^^^ j) = 0 := by rw [byte_xor, h, Nat.xor_self]
  exact xor_eq_of (bits_inj0 8 (Nat.lt_trans (Nat.xor_lt_two_pow (n := 8) hi hj) (by decide)) this)

end Sg.Crc
