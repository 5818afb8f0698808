import Derived.Test.YtijljdcpajjhhaaCrcAll
import Derived.Test.YtijljdcpajjhhaaCrcTab
/-! The walk of crc.more: the check of more bytes. -/
namespace Go.Proofs.Ytijljdcpajjhhaa
open Go.RowKit Go.Shelf Sg
attribute [local go_sem] Oper.semAt_some

def neg32 (m : Nat) : Nat := 4294967295 - m
theorem neg32_lt (m : Nat) : neg32 m < 4294967296 := by unfold neg32; omega
theorem neg32_go (m : Nat) (h : m < 4294967296) : bits BinOp.xor IntKind.u32 IntKind.u32.max (m : Int) = (neg32 m : Int) := by
  have e : IntKind.u32.max = 4294967295 := by decide
  rw [e, u32_xor _ _ (by omega) (by omega) (by omega) (by omega)]
  unfold neg32
  congr 1
  show 4294967295 ^^^ m = _
  apply Nat.eq_of_testBit_eq
  intro i
  rw [Nat.testBit_xor, show (4294967295 : Nat) - m = 2 ^ 32 - (m + 1) by omega, Nat.testBit_two_pow_sub_succ h, show (4294967295 : Nat) = 2 ^ 32 - 1 from rfl, Nat.testBit_two_pow_sub_one]
  by_cases hi : i < 32
  · simp [hi]
  · have : m.testBit i = false := Nat.testBit_lt_two_pow (Nat.lt_of_lt_of_le h (by
      rw [show (4294967296 : Nat) = 2 ^ 32 from rfl]; exact Nat.pow_le_pow_right (by decide) (by omega)))
    simp [hi, this]

/-- What the loop's body leaves of its own. -/
def MoreInv (w : World) (T N B : Nat) (v : Value) (n0 : Nat) (pre : List UInt8) (W : World) : Prop :=
  Keep [] w W ∧ W.heap[T]? = some (.cells tabAll 279 (0, 0)) ∧ W.heap[N]? = some (.cells #[.int .u32 (Crc.run n0 (nats pre) : Int)] 222 (0, 0)) ∧ W.heap[B]? = some (.cells #[v] 50 (0, 0))

theorem step_go (m : Nat) (x : UInt8) (hm : m < 4294967296) : ∃ j t m' : Nat, bits BinOp.xor IntKind.u8 (IntKind.u8.wrap (m : Int)) (x.toNat : Int) = (j : Int) ∧ j < 256 ∧ t = Crc.byte j ∧ t < 4294967296 ∧
    bits BinOp.xor IntKind.u32 ((m : Int) / 256) (t : Int) = (m' : Int) ∧ m' = Crc.step m x.toNat ∧ m' < 4294967296 := by
  have hx := x.toNat_lt
  have hj : (m % 256) ^^^ x.toNat < 256 := Nat.xor_lt_two_pow (n := 8) (by omega) (by omega)
  have ht := Crc.byte_lt (n := (m % 256) ^^^ x.toNat) (by omega)
  refine ⟨(m % 256) ^^^ x.toNat, Crc.byte ((m % 256) ^^^ x.toNat), Crc.step m x.toNat, ?_, hj, rfl, ht, ?_, rfl, ?_⟩
  · rw [IntKind.wrap_u8', show ((m : Int) % 256) = ((m % 256 : Nat) : Int) by omega, u8_xor_nat _ _ (by omega) (by omega)]
  · rw [show ((m : Int) / 256) = ((m / 256 : Nat) : Int) by omega, u32_xor_nat _ _ (by omega) (by omega), Crc.step_table _ _ (by omega)]
  · rw [Crc.step_table _ _ (by omega)]
    exact Nat.xor_lt_two_pow (n := 32) (by omega) ht

theorem run_snoc (n : Nat) (l : List UInt8) (x : UInt8) : Crc.run n (nats (l ++ [x])) = Crc.step (Crc.run n (nats l)) x.toNat := by
  simp [nats, Crc.run]

set_option maxRecDepth 100000 in
set_option maxHeartbeats 1000000 in
theorem more_any (s : Nat) (hs : s < 4294967296) (v : Value) (ps : List (Value × List UInt8)) (w : World) (hp : Pieces w v ps) :
    Calls Try.prog 158 #[.int .u32 s, v] w fun e w' => e = .returned (.int .u32 (neg32 (Crc.run (neg32 s) (nats (flat ps))) : Int)) ∧ Keep [] w w' := by
  obtain ⟨ao, cap, rfl, hl1, hl2, -⟩ := id hp
  have hz : ∀ w, Sem.run Try.prog (zeroValue 279) w = .ok (.agg zeros256) w := fun _ => by kernel_rfl
  have hnot := neg32_go s hs
  have hn0 := neg32_lt s
  generalize neg32 s = n0 at hnot hn0 ⊢
  refine calls_of_marks Try.func158 rfl ?_
  simp only [Try.ntmps158, List.size_toArray, List.length_cons, List.length_nil, Nat.reduceAdd, Nat.reduceSub, Array.replicate_succ, Array.replicate_zero, List.push_toArray, List.append_toArray, List.nil_append, List.cons_append]
  go_wp2_with fail
  refine (table_any _).mono ?_
  rintro e w1 ⟨rfl, hk1⟩
  go_wp2_with (refine wpList_store_row rfl 279 _ _ rfl w1.heap.size tabAll rfl rfl 279 zeros256 (heap_alloc_new _ _) (by kernel_rfl) (by kernel_rfl) (by kernel_rfl) ?_; obtain ⟨w2, hw2⟩ : ∃ w2, (w1.alloc (.cells zeros256 279)).setRow w1.heap.size tabAll = w2 := ⟨_, rfl⟩; rw [hw2])
  have hb2 : w2.heap[w1.heap.size]? = some (.cells tabAll 279 (0, 0)) := by rw [← hw2]; exact setRow_heap _ _ _ _ _ _ (heap_alloc_new _ _)
  have hs2 : w2.heap.size = w1.heap.size + 1 := by rw [← hw2]; simp
  have hk2 : Keep [] w w2 := by rw [← hw2]; exact (hk1.alloc _).setRow (.inr hk1.size) _
  clear hw2 hz
  refine (all_any _ _ _ _).mono ?_
  rintro e w3 ⟨rfl, hw3⟩
  have hk3 : Keep [] w w3 := by rw [← hw3]; exact (hk2.alloc _).alloc _
  have hb3 : w3.heap[w1.heap.size]? = some (.cells tabAll 279 (0, 0)) := by rw [← hw3]; exact (((Keep.refl [] w2).alloc _).alloc _).blk (by simp) hb2
  have hc3 : w3.heap[w2.heap.size]? = some (.cells #[.int .u32 n0] 222 (0, 0)) := by rw [← hw3]; exact heap_alloc2_old _ _ _
  have hd3 : w3.heap[w2.heap.size + 1]? = some (.cells #[.slice ao ps.length cap] 50 (0, 0)) := by rw [← hw3]; exact heap_alloc2_new _ _ _
  have hs3 : w3.heap.size = w2.heap.size + 2 := by rw [← hw3]; simp
  clear hw3
  rw [hs2] at hc3 hd3 hs3
  have hT := hk1.size
  go_wp2_with fail
  generalize w1.heap.size = T at *
  refine wp_range (n := 3) (gf := 178) (lb := #[.pointer (some ⟨T + 1 + 1, 0, none⟩)]) rfl (enters_of Try.func178 (by kernel_rfl) rfl)
    (all1_iter (T + 2) (.slice ao ps.length cap) ps) (fun _ _ _ _ _ h => h) (fun _ _ _ h => by rw [h]; rfl)
    (MoreInv w T (T + 1) (T + 2) (.slice ao ps.length cap) n0) (fun _ _ _ => False)
    ?hRd ?hI (fun _ _ _ _ _ h => h) ?h0
    (fun args => { tmps := #[.int .u32 s, .slice ao ps.length cap, undef, undef, .int .u32 0, .pointer (some ⟨T, 0, none⟩), .pointer (some ⟨T + 1, 0, none⟩), args.getD 0 undef, .agg tabAll, .int .u32 s, .int .u32 n0, .slice ao ps.length cap,
      .func (.func 178) #[] #[.pointer (some ⟨T + 1 + 1, 0, none⟩)], args.getD 0 undef, undef, undef, undef, undef, undef, undef, undef, undef, undef, undef, undef], defers := [] })
    ?hassign ?hbody ?hdone ?hstop
  case hRd =>
    rintro pre W ⟨hk, hb, hc, hd⟩
    refine ⟨cell_of_one hd, hp.keep hk ?_ ?_⟩ <;> simp
  case hI =>
    rintro pre W W' k ⟨hk, hb, hc, hd⟩
    exact ⟨hk.ext k (by simp; omega), k.blk (by simp; omega) hb, k.blk (by simp; omega) hc, k.blk (by simp; omega) hd⟩
  case h0 =>
    intro W k
    exact ⟨hk3.trans k, k.blk (by simp) hb3, k.blk (by simp) hc3, k.blk (by simp) hd3⟩
  case hassign =>
    rintro x args W K rfl hK
    gi_wp2
    exact hK
  case hbody =>
    rintro pre x args W hpre ⟨hk, hb, hc, hd⟩ rfl ⟨r, hL⟩ hD
    have hm := Crc.run_lt (nats pre) hn0 (nats_lt pre)
    have hsn := run_snoc n0 pre x
    generalize Crc.run n0 (nats pre) = m at hc hm hsn
    obtain ⟨j, t, m', e1, hj, e2, ht, e3, e4, hm'⟩ := step_go m x hm
    have hc1 := cell_of_one hc
    have hf1 := free_of_one hc
    have hc2 : W.cell? ⟨T, j, none⟩ = some (.int .u32 t) := by rw [cell_of_row _ _ _ _ _ _ hb, tabAll, tabTo_get _ _ hj, e2]; simp [hj]
    have HB := Lib.hid hb
    have HC := Lib.hid hc
    have HD := Lib.hid hd
    have HL := Lib.hid hL
    have HDD := Lib.hid hD
    have HSN := Lib.hid hsn
    have HE2 := Lib.hid e2
    have HE4 := Lib.hid e4
    have HS2 := Lib.hid hs2
    have HS3 := Lib.hid hs3
    clear hb hc hd hL hD hsn e2 e4 hs2 hs3 hb2 hb3 hc3 hd3 hnot
    have hx := x.toNat_lt
    have hj' : (j : Int) < 256 := by omega
    have hmix : Try.prog.follows .mixedOrders = true := by kernel_rfl
    gi_wp2
    refine wpIn_region_tail 9 (by kernel_rfl) ?hQ (by kernel_rfl) (by kernel_rfl) ?_
    case hQ => rintro ⟨_, _, h⟩; exact h
    simp only [List.take_succ_cons, List.take_zero, List.drop_succ_cons, List.drop_zero]
    repeat still_step
    refine wpStill_nil ?_
    go_wp2
    have hs3 := HS3.out
    refine ⟨(heap_setCell_other _ _ _ _ (by simp; omega)).trans (heap_drew W ▸ rfl), (heap_setCell_other _ _ _ _ (by simp; omega)).trans (heap_drew W ▸ rfl), hk.drew.setCell (.inr (by simp; omega)) _, (heap_setCell_other _ _ _ _ (by simp)).trans HB.out, ?_, (heap_setCell_other _ _ _ _ (by simp)).trans HD.out⟩
    rw [HSN.out, ← HE4.out]
    exact one_setCell HC.out
  case hdone =>
    rintro W ⟨hk, hb, hc, hd⟩ hD
    have hm := Crc.run_lt (nats (flat ps)) hn0 (nats_lt _)
    obtain ⟨m, hmm⟩ : ∃ m, m = Crc.run n0 (nats (flat ps)) := ⟨_, rfl⟩
    rw [← hmm] at hc hm
    have HM := Lib.hid hmm
    clear hmm
    have hnot2 := neg32_go m hm
    have hc1 := cell_of_one hc
    go_wp2
    refine leavesM_one hD (results_tmp rfl _ _ _) ⟨by rw [← HM.out]; rfl, hk.putObj (.inr ?_) _⟩
    omega
  case hstop =>
    rintro c pre W _ h
    exact h.elim
end Go.Proofs.Ytijljdcpajjhhaa
