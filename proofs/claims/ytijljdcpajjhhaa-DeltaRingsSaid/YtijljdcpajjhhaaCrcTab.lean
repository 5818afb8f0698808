import Derived.Test.YtijljdcpajjhhaaProg
import Derived.Test.YtijljdcpajjhhaaBase
import Derived.Test.YtijljdcpajjhhaaCrcMath
import Derived.Lib.Hide
/-! The walks of crc.Table, and of the reference's apart, Place and Sum. -/
namespace Go.Proofs.Ytijljdcpajjhhaa
open Go.RowKit Sg

def zeros256 : Array Value := Array.replicate 256 (.int .u32 0)
/-- the table, its first k places filled -/
def tabTo (k : Nat) : Array Value := ((List.range 256).map fun i => Value.int .u32 (if i < k then (Crc.byte i : Int) else 0)).toArray
def tabAll : Array Value := tabTo 256

theorem tabTo_zero : tabTo 0 = zeros256 := by
  unfold tabTo zeros256
  simp only [Nat.not_lt_zero, if_false]
  apply Array.ext'
  simp [List.map_const']
theorem tabTo_size (k : Nat) : (tabTo k).size = 256 := by simp [tabTo]
theorem tabTo_get (k i : Nat) (h : i < 256) : (tabTo k)[i]? = some (.int .u32 (if i < k then (Crc.byte i : Int) else 0)) := by
  simp [tabTo, h]
theorem tabTo_set (k : Nat) : (tabTo k).setIfInBounds k (.int .u32 (Crc.byte k : Int)) = tabTo (k + 1) := by
  apply Array.ext_getElem?
  intro i
  rw [Array.getElem?_setIfInBounds]
  by_cases hi : i < 256
  · rw [tabTo_get _ _ hi, tabTo_get _ _ hi]
    by_cases e : k = i
    · subst e; simp [tabTo_size, hi]
    · rw [if_neg e]
      have : (i < k) = (i < k + 1) := by apply propext; omega
      simp only [this]
  · have h1 : (tabTo k)[i]? = none := by rw [Array.getElem?_eq_none_iff, tabTo_size]; omega
    have h2 : (tabTo (k + 1))[i]? = none := by rw [Array.getElem?_eq_none_iff, tabTo_size]; omega
    rw [h1, h2]
    split <;> simp [tabTo_size] <;> omega

theorem bit_go (n : Nat) (h : n < 4294967296) : bits BinOp.xor IntKind.u32 ((n : Int) / 2) (2197175160 * bits BinOp.and IntKind.u32 (n : Int) 1 % 4294967296) = (Crc.bit n : Int) := by
  have h1 : bits BinOp.and IntKind.u32 (n : Int) 1 = ((n % 2 : Nat) : Int) := by
    rw [u32_and _ _ (by omega) (by omega) (by omega) (by omega)]
    simp
  rw [h1]
  have h2 : n % 2 = 0 ∨ n % 2 = 1 := by omega
  rw [u32_xor _ _ (by omega) (by omega) (by omega) (by omega)]
  unfold Crc.bit
  congr 1
  have h3 : ((n : Int) / 2).toNat = n / 2 := by omega
  rw [h3]
  rcases h2 with e | e <;> simp [e]

set_option maxRecDepth 100000 in
set_option maxHeartbeats 400000 in
theorem table_any (w : World) : Calls Try.prog 171 #[] w fun e w' => e = .returned (.agg tabAll) ∧ Keep [] w w' := by
  have hz : ∀ w, Sem.run Try.prog (zeroValue 279) w = .ok (.agg zeros256) w := fun _ => by kernel_rfl
  go_enter Try.func171, Try.ntmps171
  go_wp2
  clear hz
  go_loopw [5] (fun i wr => ∃ k : Nat, k ≤ 256 ∧ i = .int .i64 k ∧ Keep [] w wr ∧ wr.heap[w.heap.size]? = some (.cells zeros256 279 (0, 0)) ∧ wr.heap[w.heap.size + 1]? = some (.cells (tabTo k) 279 (0, 0))) (fun i wr => 256 - (intOf i).toNat)
  case atStart => exact ⟨0, by omega, rfl, ((Keep.refl _ _).alloc _).alloc _, heap_alloc2_old _ _ _, by rw [tabTo_zero]; exact heap_alloc2_new _ _ _⟩
  case round =>
    obtain ⟨k, hk, rfl, hkeep, hb0, hb1⟩ := hrel
    by_cases hlt : k < 256
    · have hH0 := Lib.hid hb0
      have hH1 := Lib.hid hb1
      clear hb0 hb1
      go_wp2
      go_loop [10, 3] (fun j n => ∃ i m : Nat, i ≤ 8 ∧ j = .int .i64 i ∧ m < 4294967296 ∧ Hid (Crc.bits (8 - i) m = Crc.byte k) ∧ n = .int .u32 m) (fun i n => 8 - (intOf i).toNat)
      case atStart => exact ⟨0, k, by omega, rfl, by omega, rfl, rfl⟩
      case round =>
        obtain ⟨i, m, hi, rfl, hm, hb, rfl⟩ := hrel
        by_cases hlt8 : i < 8
        · go_wp2
          go_round
          case rel => exact ⟨i + 1, Crc.bit m, by omega, by go_num, Crc.bit_lt hm, by have := hb.out; rw [show 8 - i = (8 - (i + 1)) + 1 by omega] at this; exact this, by rw [bit_go m hm]⟩
          case measure => simp [intOf]; omega
        · have h1 := hH1.out
          have hcell : wr.cell? ⟨w.heap.size + 1, k, none⟩ = some (.int .u32 0) := by rw [cell_of_row _ _ _ _ _ _ h1, tabTo_get _ _ hlt]; simp
          have hfr : wr.frozen? ⟨w.heap.size + 1, k, none⟩ = false := frozen_of_row _ _ _ _ _ h1
          clear h1
          go_wp2
          go_roundw
          case rel =>
            have hmb : m = Crc.byte k := by have := hb.out; rw [show 8 - i = 0 by omega] at this; exact this
            refine ⟨k + 1, by omega, by go_num, hkeep.setCell (.inr (by simp)) _, (heap_setCell_other _ _ _ _ (by simp)).trans hH0.out, ?_⟩
            rw [hmb, ← tabTo_set]
            exact heap_setCell_same _ _ _ _ _ _ hH1.out
          case measure => simp [intOf]; omega
    · obtain rfl : k = 256 := by omega
      go_wp2_with (first | (refine wpList_load_row rfl 279 _ rfl (w.heap.size + 1) rfl 279 (tabTo 256) _ _ hb1 Try.underlying279 rfl (by kernel_rfl) ?_) | (refine wpList_store_row rfl 279 _ _ rfl w.heap.size (tabTo 256) rfl rfl 279 zeros256 hb0 (by kernel_rfl) (by kernel_rfl) (by kernel_rfl) ?_))
      refine bodyPost_ret (results_cell_row rfl _ _ w.heap.size 279 (tabTo 256) _ _ rfl (setRow_heap _ _ _ _ _ _ hb0) Try.underlying279 rfl (by kernel_rfl)) rfl ⟨rfl, hkeep.setRow (.inr (Nat.le_refl _)) _⟩

theorem mod_step (z k : Nat) : z % 2 ^ (k + 1) = z % 2 ^ k + 2 ^ k * (z / 2 ^ k % 2) := by
  rw [Nat.pow_succ, Nat.mod_mul]

set_option maxRecDepth 100000 in
set_option maxHeartbeats 400000 in
theorem apart_any (a b : Nat) (ha : a < 4294967296) (hb : b < 4294967296) (w : World) :
    Calls Try.prog 125 #[.int .i64 a, .int .i64 b] w fun e w' => e = .returned (.int .i64 ((a ^^^ b : Nat) : Int)) ∧ w = w' := by
  go_enter Try.func125, Try.ntmps125
  go_wp2
  go_loop [0, 1, 5, 6] (fun x y o t => ∃ k x' y' o' t' : Nat, k ≤ 32 ∧ x' < 4294967296 ∧ y' < 4294967296 ∧ o' < 4294967296 ∧ t' ≤ 4294967296 ∧ Hid (x' = a / 2 ^ k ∧ y' = b / 2 ^ k ∧ o' = (a ^^^ b) % 2 ^ k ∧ t' = 2 ^ k) ∧ x = .int .i64 x' ∧ y = .int .i64 y' ∧ o = .int .i64 o' ∧ t = .int .i64 t') (fun x y _ _ => (intOf x).toNat + (intOf y).toNat)
  case atStart => exact ⟨0, a, b, 0, 1, by omega, ha, hb, by omega, by omega, ⟨by simp, by simp, by simp [Nat.mod_one], by simp⟩, rfl, rfl, rfl, rfl⟩
  case round =>
    obtain ⟨k, x, y, o, t, hk, hx, hy, ho, ht, hH, rfl, rfl, rfl, rfl⟩ := hrel
    by_cases hpos : 0 < x ∨ 0 < y
    · have hk31 : k < 32 := by
        obtain ⟨e1, e2, _⟩ := hH.out
        by_cases h : k < 32
        · exact h
        · have : k = 32 := by omega
          subst this
          simp at e1 e2
          omega
      have hz : (a ^^^ b) / 2 ^ k % 2 = (x % 2 + y % 2) % 2 := by
        obtain ⟨e1, e2, _⟩ := hH.out
        rw [Nat.xor_div_two_pow, ← e1, ← e2]
        have := Nat.xor_mod_two_pow (a := x) (b := y) (n := 1)
        simp at this
        rw [this]
        have h1 : x % 2 = 0 ∨ x % 2 = 1 := by omega
        have h2 : y % 2 = 0 ∨ y % 2 = 1 := by omega
        rcases h1 with h1 | h1 <;> rcases h2 with h2 | h2 <;> rw [h1, h2] <;> rfl
      have hstep := mod_step (a ^^^ b) k
      rw [hz] at hstep
      have hlt1 : (a ^^^ b) % 2 ^ (k + 1) < 4294967296 := Nat.lt_of_le_of_lt (Nat.mod_le _ _) (Nat.xor_lt_two_pow (n := 32) ha hb)
      have hpow : 2 ^ (k + 1) ≤ 2 ^ 32 := Nat.pow_le_pow_right (by decide) (by omega)
      have HS := Lib.hid hstep
      have HP := Lib.hid hpow
      have HL := Lib.hid hlt1
      clear hz hstep hpow hlt1
      have fin : ∀ o2 : Nat, o2 = o + t * ((x % 2 + y % 2) % 2) → o2 < 4294967296 ∧ 2 * t ≤ 4294967296 ∧ (x / 2 = a / 2 ^ (k + 1) ∧ y / 2 = b / 2 ^ (k + 1) ∧ o2 = (a ^^^ b) % 2 ^ (k + 1) ∧ t * 2 = 2 ^ (k + 1)) := by
        intro o2 h2
        obtain ⟨e1, e2, e3, e4⟩ := hH.out
        have h1 := HS.out
        rw [← e3, ← e4] at h1
        have h3 : o2 = (a ^^^ b) % 2 ^ (k + 1) := by rw [h1, h2]
        have hp := HP.out
        have hl := HL.out
        rw [Nat.pow_succ, ← e4] at hp
        refine ⟨by omega, by omega, ?_, ?_, h3, ?_⟩
        · rw [e1, Nat.div_div_eq_div_mul, Nat.pow_succ]
        · rw [e2, Nat.div_div_eq_div_mul, Nat.pow_succ]
        · rw [e4, Nat.pow_succ]
      have FIN := Lib.hid fin
      clear fin
      by_cases hpar : x % 2 = y % 2
      · by_cases hx0 : 0 < x
        all_goals
          go_wp2
          go_round
          case rel =>
            obtain ⟨f1, f2, f3⟩ := FIN.out o (by rw [show (x % 2 + y % 2) % 2 = 0 by omega]; simp)
            exact ⟨k + 1, x / 2, y / 2, o, t * 2, by omega, by omega, by omega, by omega, by omega, f3, rfl, rfl, rfl, rfl⟩
          case measure => simp [intOf]; omega
      · by_cases hx0 : 0 < x
        all_goals
          go_wp2
          go_round
          case rel =>
            obtain ⟨f1, f2, f3⟩ := FIN.out (o + t) (by rw [show (x % 2 + y % 2) % 2 = 1 by omega]; simp)
            exact ⟨k + 1, x / 2, y / 2, o + t, t * 2, by omega, by omega, by omega, by omega, by omega, f3, rfl, rfl, rfl, rfl⟩
          case measure => simp [intOf]; omega
    · have hx0 : ¬ 0 < x := by omega
      have hy0 : ¬ 0 < y := by omega
      clear hpos
      go_wp2
      go_ret
      obtain ⟨e1, e2, e3, e4⟩ := hH.out
      refine ⟨?_, rfl⟩
      have ea : a < 2 ^ k := by
        have : a / 2 ^ k = 0 := by omega
        exact (Nat.div_eq_zero_iff.1 this).resolve_left (by have := Nat.two_pow_pos k; omega)
      have eb : b < 2 ^ k := by
        have : b / 2 ^ k = 0 := by omega
        exact (Nat.div_eq_zero_iff.1 this).resolve_left (by have := Nat.two_pow_pos k; omega)
      have : o = a ^^^ b := by rw [e3]; exact Nat.mod_eq_of_lt (Nat.xor_lt_two_pow ea eb)
      subst this
      rfl

theorem bit_ref (n : Nat) : (if n % 2 = 1 then n / 2 ^^^ 2197175160 else n / 2) = Crc.bit n := by
  unfold Crc.bit
  have : n % 2 = 0 ∨ n % 2 = 1 := by omega
  rcases this with e | e <;> simp [e]

set_option maxRecDepth 100000 in
set_option maxHeartbeats 400000 in
theorem place_any (n : Nat) (hn : n < 4294967296) (w : World) :
    Calls Try.prog 124 #[.int .i64 n] w fun e w' => e = .returned (.int .i64 (Crc.byte n : Int)) ∧ w = w' := by
  go_enter Try.func124, Try.ntmps124
  go_wp2
  go_loop [0, 3] (fun x j => ∃ i m : Nat, i ≤ 8 ∧ m < 4294967296 ∧ Hid (Crc.bits (8 - i) m = Crc.byte n) ∧ x = .int .i64 m ∧ j = .int .i64 i) (fun _ j => 8 - (intOf j).toNat)
  case atStart => exact ⟨0, n, by omega, hn, rfl, rfl, rfl⟩
  case round =>
    obtain ⟨i, m, hi, hm, hb, rfl, rfl⟩ := hrel
    by_cases hlt : i < 8
    · have hbit := bit_ref m
      have HB := Lib.hid hbit
      clear hbit
      have hl := Crc.bit_lt hm
      by_cases hpar : m % 2 = 1
      · go_wp2_with (go_at_call 125; refine (apart_any (m / 2) 2197175160 (by omega) (by omega) _).mono ?_; rintro e w' ⟨rfl, rfl⟩)
        go_round
        case rel =>
          have := HB.out
          rw [if_pos hpar] at this
          rw [this]
          exact ⟨i + 1, Crc.bit m, by omega, hl, by have := hb.out; rw [show 8 - i = (8 - (i + 1)) + 1 by omega] at this; exact this, rfl, by go_num⟩
        case measure => simp [intOf]; omega
      · go_wp2
        go_round
        case rel =>
          have := HB.out
          rw [if_neg hpar] at this
          exact ⟨i + 1, Crc.bit m, by omega, hl, by have := hb.out; rw [show 8 - i = (8 - (i + 1)) + 1 by omega] at this; exact this, by rw [← this]; rfl, by go_num⟩
        case measure => simp [intOf]; omega
    · go_wp2
      go_ret
      have hmb : m = Crc.byte n := by have := hb.out; rw [show 8 - i = 0 by omega] at this; exact this
      subst hmb
      exact ⟨rfl, rfl⟩

/-- bytes as numbers -/
def nats (l : List UInt8) : List Nat := l.map UInt8.toNat
theorem nats_lt (l : List UInt8) : ∀ x ∈ nats l, x < 256 := by
  intro x hx
  obtain ⟨y, _, rfl⟩ := List.mem_map.1 hx
  exact y.toNat_lt
theorem run_take_succ (l : List UInt8) (k : Nat) (h : k < l.length) (n : Nat) : Crc.run n (nats (l.take (k + 1))) = Crc.byte (Crc.run n (nats (l.take k)) ^^^ l[k].toNat) := by
  rw [List.take_succ_eq_append_getElem h, nats, List.map_append, Crc.run_append]
  rfl

set_option maxRecDepth 100000 in
set_option maxHeartbeats 400000 in
theorem refSum_any (v : Value) (l : List UInt8) (w : World) (hv : Bytes w v l) :
    Calls Try.prog 77 #[v] w fun e w' => e = .returned (.int .i64 (Crc.sum (nats l) : Int)) ∧ w = w' := by
  have hsum : Crc.sum (nats l) = 4294967295 - Crc.run 4294967295 (nats l) := rfl
  have hrl := Crc.run_lt (nats l) (n := 4294967295) (by decide) (nats_lt l)
  have HS := Lib.hid hsum
  clear hsum
  obtain ⟨ao, cap, rfl, -, hm, -⟩ := hv.form
  go_enter Try.func77, Try.ntmps77
  go_wp2
  go_loop [3, 4] (fun x j => ∃ i m : Nat, i ≤ l.length ∧ m < 4294967296 ∧ Hid (m = Crc.run 4294967295 (nats (l.take i))) ∧ x = .int .i64 m ∧ j = .int .i64 i) (fun _ j => l.length - (intOf j).toNat)
  case atStart => exact ⟨0, 4294967295, by omega, by omega, by simp [Hid, nats, Crc.run], rfl, rfl⟩
  case round =>
    obtain ⟨i, m, hi, hmm, hb, rfl, rfl⟩ := hrel
    by_cases hlt : i < l.length
    · obtain ⟨b, o, rfl, -, hc⟩ := hv.spot (by omega)
      have hci := hc i hlt
      have hx := l[i].toNat_lt
      have hxl : m ^^^ l[i].toNat < 4294967296 := Nat.xor_lt_two_pow (n := 32) hmm (by omega)
      have hst := run_take_succ l i hlt 4294967295
      rw [← hb.out] at hst
      have HST := Lib.hid hst
      clear hst hc
      go_wp2_with (first | (go_at_call 125; refine (apart_any m l[i].toNat (by omega) (by omega) _).mono ?_; rintro e w' ⟨rfl, rfl⟩) | (go_at_call 124; refine (place_any (m ^^^ l[i].toNat) hxl _).mono ?_; rintro e w' ⟨rfl, rfl⟩))
      go_round
      case rel => exact ⟨i + 1, _, by omega, Crc.byte_lt hxl, HST.out.symm, rfl, by go_num⟩
      case measure => simp [intOf]; omega
    · go_wp2
      go_ret
      have e1 := hb.out
      rw [List.take_of_length_le (by omega)] at e1
      refine ⟨?_, rfl⟩
      have e2 : (Crc.sum (nats l) : Int) = 4294967295 - (m : Int) := by rw [HS.out, ← e1]; omega
      rw [e2]; rfl
end Go.Proofs.Ytijljdcpajjhhaa
