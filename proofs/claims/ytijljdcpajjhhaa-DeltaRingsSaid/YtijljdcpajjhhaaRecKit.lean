import Derived.Test.YtijljdcpajjhhaaGen
import Derived.Test.YtijljdcpajjhhaaWire
import Derived.Lib.SlBytesConst
import Derived.Laws.IdiomStrings
import Derived.Test.YtijljdcpajjhhaaReader
import Derived.Test.YtijljdcpajjhhaaLex
import Derived.Test.YtijljdcpajjhhaaRefOf
import Derived.Test.YtijljdcpajjhhaaHist
import Derived.Test.YtijljdcpajjhhaaRange2
import Derived.Test.YtijljdcpajjhhaaScope
import Derived.Shelf.Abstract
import Derived.Shelf.RegionOpen
import Derived.OwnWalkIn
import Derived.TacticsInMore
import Derived.LoopNIn
import Derived.LoopIn
import Derived.Outline
import Derived.Test.YtijljdcpajjhhaaApp
import Derived.Test.YtijljdcpajjhhaaBase
import Derived.Test.YtijljdcpajjhhaaNum
import Derived.Test.YtijljdcpajjhhaaProg
import Derived.Test.YtijljdcpajjhhaaOpenF
import Derived.WideShapes
import Derived.ChangeArms
/-! The walks of record's Pack, Size, Ended. -/
namespace Go.Proofs.Ytijljdcpajjhhaa
open Go.RowKit Sg

/-- why a record may not be -/
def rcode (k v : Nat) (e : Int) : Int := if k < 1 ∨ 64 < k then 10 else if 4096 < v then 11 else if e < 0 ∨ 281474976710656 < e then 2 else 0
theorem rcode_zero {k v : Nat} {e : Int} (h : rcode k v e = 0) : 1 ≤ k ∧ k ≤ 64 ∧ v ≤ 4096 ∧ 0 ≤ e ∧ e ≤ 281474976710656 := by
  unfold rcode at h
  split at h
  · omega
  · split at h
    · omega
    · split at h <;> omega
/-- a record's bytes -/
def rpack (k v : List UInt8) (e : Nat) : List UInt8 := (((((([] ++ le 165 1) ++ le k.length 1) ++ le v.length 2) ++ le e 8) ++ k) ++ v) ++ le 90 1
theorem rpack_len (k v : List UInt8) (e : Nat) : (rpack k v e).length = 13 + k.length + v.length := by simp [rpack, le_len]; omega

set_option maxRecDepth 100000 in
set_option maxHeartbeats 1000000 in
theorem right_any (k v : Value) (kl vl : List UInt8) (e : Int) (w : World) (hk : Bytes w k kl) (hv : Bytes w v vl) :
    Calls Try.prog 99 #[.agg #[k, v, .int .i64 e]] w fun x w' => x = .returned (.int .i64 (rcode kl.length vl.length e)) ∧ Keep [] w w' := by
  obtain ⟨ka, kc, rfl, -, hkm, -⟩ := hk.form
  obtain ⟨va, vc, rfl, -, hvm, -⟩ := hv.form
  have hK := (Keep.refl [] w).alloc (.cells #[.slice ka kl.length kc, .slice va vl.length vc, .int .i64 e] 111)
  obtain ⟨n, hn⟩ : ∃ n, kl.length = n := ⟨_, rfl⟩
  obtain ⟨m, hm⟩ : ∃ m, vl.length = m := ⟨_, rfl⟩
  rw [hn] at hkm hK ⊢
  rw [hm] at hvm hK ⊢
  clear hn hm hk hv
  by_cases h1 : n < 1
  · rw [show rcode n m e = 10 by simp [rcode]; omega]
    go_enter Try.func99, Try.ntmps99
    go_wp2
    go_ret
    exact ⟨rfl, hK⟩
  by_cases h2 : 64 < n
  · rw [show rcode n m e = 10 by simp [rcode]; omega]
    go_enter Try.func99, Try.ntmps99
    go_wp2
    go_ret
    exact ⟨rfl, hK⟩
  by_cases h3 : 4096 < m
  · rw [show rcode n m e = 11 by rw [rcode, if_neg (by omega), if_pos h3]]
    go_enter Try.func99, Try.ntmps99
    go_wp2
    go_ret
    exact ⟨rfl, hK⟩
  by_cases h4 : e < 0
  · rw [show rcode n m e = 2 by rw [rcode, if_neg (by omega), if_neg h3, if_pos (by omega)]]
    go_enter Try.func99, Try.ntmps99
    go_wp2
    go_ret
    exact ⟨rfl, hK⟩
  by_cases h5 : 281474976710656 < e
  · rw [show rcode n m e = 2 by rw [rcode, if_neg (by omega), if_neg h3, if_pos (by omega)]]
    go_enter Try.func99, Try.ntmps99
    go_wp2
    go_ret
    exact ⟨rfl, hK⟩
  · rw [show rcode n m e = 0 by rw [rcode, if_neg (by omega), if_neg h3, if_neg (by omega)]]
    go_enter Try.func99, Try.ntmps99
    go_wp2
    go_ret
    exact ⟨rfl, hK⟩

set_option maxRecDepth 100000 in
set_option maxHeartbeats 1000000 in
theorem size_any (k v : Int) (w : World) : Calls Try.prog 101 #[.int .i64 k, .int .i64 v] w fun x w' => x = .returned (.int .i64 (if 1 ≤ k ∧ k ≤ 64 ∧ 0 ≤ v ∧ v ≤ 4096 then 13 + k + v else 0)) ∧ w = w' := by
  by_cases h1 : k < 1
  · rw [if_neg (by omega)]
    go_enter Try.func101, Try.ntmps101
    go_wp2
    go_ret
    exact ⟨rfl, rfl⟩
  by_cases h2 : 64 < k
  · rw [if_neg (by omega)]
    go_enter Try.func101, Try.ntmps101
    go_wp2
    go_ret
    exact ⟨rfl, rfl⟩
  by_cases h3 : v < 0
  · rw [if_neg (by omega)]
    go_enter Try.func101, Try.ntmps101
    go_wp2
    go_ret
    exact ⟨rfl, rfl⟩
  by_cases h4 : 4096 < v
  · rw [if_neg (by omega)]
    go_enter Try.func101, Try.ntmps101
    go_wp2
    go_ret
    exact ⟨rfl, rfl⟩
  · rw [if_pos (by omega)]
    go_enter Try.func101, Try.ntmps101
    go_wp2
    go_ret
    exact ⟨rfl, rfl⟩

set_option maxRecDepth 100000 in
set_option maxHeartbeats 1000000 in
theorem rpack_any (k v : Value) (kl vl : List UInt8) (e : Int) (w : World) (hk : Bytes w k kl) (hv : Bytes w v vl) :
    Calls Try.prog 59 #[.agg #[k, v, .int .i64 e]] w fun x w' => ∃ v', x = .returned (.tuple #[v', .int .i64 (rcode kl.length vl.length e)]) ∧ OwnB w' w.heap.size 5 v' (if rcode kl.length vl.length e = 0 then rpack kl vl e.toNat else []) ∧ Keep [] w w' := by
  obtain ⟨ka, kc, rfl, -, hkm, -⟩ := hk.form
  obtain ⟨va, vc, rfl, -, hvm, -⟩ := hv.form
  have hK := (Keep.refl [] w).alloc (.cells #[.slice ka kl.length kc, .slice va vl.length vc, .int .i64 e] 111)
  have hr := right_any _ _ kl vl e _ (hk.keep hK (by simp)) (hv.keep hK (by simp))
  obtain ⟨rc, hrc⟩ : ∃ rc, rcode kl.length vl.length e = rc := ⟨_, rfl⟩
  rw [hrc] at hr ⊢
  have HRC := Lib.hid hrc
  clear hrc
  by_cases hz : rc = 0
  · subst hz
    obtain ⟨a1, a2, a3, a4, a5⟩ := rcode_zero HRC.out
    obtain ⟨en, hen⟩ : ∃ en : Nat, e = (en : Int) := ⟨e.toNat, by omega⟩
    subst hen
    have hsz := size_any (kl.length : Int) (vl.length : Int)
    rw [if_pos (by omega)] at hsz
    have esz : (13 : Int) + (kl.length : Int) + (vl.length : Int) = ((13 + kl.length + vl.length : Nat) : Int) := by omega
    rw [esz] at hsz
    rw [if_pos rfl]
    obtain ⟨lim, hlim⟩ : ∃ lim, 13 + kl.length + vl.length = lim := ⟨_, rfl⟩
    rw [hlim] at hsz
    have q1 : (kl.length : Int) % 18446744073709551616 = (kl.length : Int) := by omega
    have q2 : (vl.length : Int) % 18446744073709551616 = (vl.length : Int) := by omega
    have q3 : IntKind.u64.wrap (en : Int) = (en : Int) := by rw [u64_wrap]; omega
    have q4 : IntKind.u64.wrap (kl.length : Int) = (kl.length : Int) := by rw [u64_wrap]; omega
    have q5 : IntKind.u64.wrap (vl.length : Int) = (vl.length : Int) := by rw [u64_wrap]; omega
    go_enter Try.func59, Try.ntmps59
    go_wp2_with fail
    refine hr.mono ?_
    rintro x w2 ⟨rfl, hk2⟩
    have hb2 := hk2.blk (by simp) (heap_alloc_new w _)
    have hK2 := hK.trans hk2
    have c0 := cell_of_row w2 _ 0 _ _ _ hb2
    have c1 := cell_of_row w2 _ 1 _ _ _ hb2
    have c2 := cell_of_row w2 _ 2 _ _ _ hb2
    simp at c0 c1 c2
    clear hk2 hb2 hr hK
    go_wp2_with fail
    refine (hsz _).mono ?_
    rintro x w3 ⟨rfl, rfl⟩
    go_wp2_with fail
    refine (newWriter_any lim (by omega) _).mono ?_
    rintro x w4 ⟨g, rfl, hw4⟩
    go_wp2_with fail
    refine (putNumber_any _ g lim _ 165 1 (by omega) (by omega) _ hw4 (by simp; omega)).mono ?_
    rintro x w5 ⟨rfl, hw5⟩
    have d0 := hw5.1.cell (by simp) c0
    go_wp2_with fail
    refine (putNumber_any _ g lim _ kl.length 1 (by omega) (by omega) _ hw5 (by simp [le_len]; omega)).mono ?_
    rintro x w6 ⟨rfl, hw6⟩
    have d1 := hw6.1.cell (by simp) c1
    clear hw4 hw5 d0
    go_wp2_with fail
    refine (putNumber_any _ g lim _ vl.length 2 (by omega) (by omega) _ hw6 (by simp [le_len]; omega)).mono ?_
    rintro x w7 ⟨rfl, hw7⟩
    have d2 := hw7.1.cell (by simp) c2
    clear hw6 d1
    go_wp2_with fail
    refine (putNumber_any _ g lim _ en 8 (by omega) (by omega) _ hw7 (by simp [le_len]; omega)).mono ?_
    rintro x w8 ⟨rfl, hw8⟩
    have d0 := hw8.1.cell (by simp) c0
    clear hw7 d2
    go_wp2_with fail
    refine (raw_any _ g lim _ _ kl _ hw8 (hk.keep (hK2.trans hw8.1) (by simp)) (by simp [le_len]; omega)).mono ?_
    rintro x w9 ⟨rfl, hw9⟩
    have d1 := hw9.1.cell (by simp) c1
    clear hw8 d0
    go_wp2_with fail
    refine (raw_any _ g lim _ _ vl _ hw9 (hv.keep (hK2.trans hw9.1) (by simp)) (by simp [le_len]; omega)).mono ?_
    rintro x w10 ⟨rfl, hw10⟩
    clear hw9 d1
    go_wp2_with fail
    refine (putNumber_any _ g lim _ 90 1 (by omega) (by omega) _ hw10 (by simp [le_len]; omega)).mono ?_
    rintro x w11 ⟨rfl, hw11⟩
    clear hw10
    go_wp2_with fail
    refine (wbytes_any _ g lim _ _ hw11).mono ?_
    rintro x w12 ⟨v', rfl, ho, hk12, hk12'⟩
    go_wp2_with fail
    refine bodyPost_ret (results_tmp2 rfl _ _ _) rfl ?_
    exact ⟨v', rfl, ho.base (hK2.trans hw11.1).size, hK2.trans hk12⟩
  · rw [if_neg hz]
    have hz' : (rc != 0) = true := by simpa using hz
    go_enter Try.func59, Try.ntmps59
    go_wp2_with fail
    refine hr.mono ?_
    rintro x w2 ⟨rfl, hk2⟩
    go_wp2_with fail
    refine bodyPost_ret (results_tmp2 rfl _ _ _) rfl ?_
    exact ⟨_, rfl, OwnB.nil _ _ _, hK.trans hk2⟩

theorem rp_kv : rpack [107] [118] 0 = [165, 1, 1, 0, 0, 0, 0, 0, 0, 0, 0, 0, 107, 118, 90] := by decide +kernel

end Go.Proofs.Ytijljdcpajjhhaa

/-! The document's record: its bytes; a record of strings as one of bytes. -/
namespace Go.Proofs.Ytijljdcpajjhhaa
open Go.RowKit Sg

theorem no_u8 (a b : Nat × Option Addr × Nat) (e : Int) : ∀ (i : Nat) (x : Value), (#[Value.slice a.2.1 a.1 a.2.2, Value.slice b.2.1 b.1 b.2.2, Value.int .i64 e] : Array Value)[i]? = some x → ∀ n : Int, x ≠ Value.int .u8 n := by
  intro i x hx n e
  subst e
  match i, hx with
  | 0, h => simp at h
  | 1, h => simp at h
  | 2, h => simp at h
  | i + 3, h => simp at h

end Go.Proofs.Ytijljdcpajjhhaa

/-! The walk of record's Unpack. -/
namespace Go.Proofs.Ytijljdcpajjhhaa
open Go.RowKit Sg

/-- what reading goes through -/
structure Rd where
  (b kn vn en z : Nat)
  (k v : List UInt8)
  (bad : Bool)
def rdAll (l : List UInt8) : Rd :=
  let r1 := rdN (l, false) 1
  let r2 := rdN r1.2 1
  let r3 := rdN r2.2 2
  let r4 := rdN r3.2 8
  let r5 := rdR r4.2 r2.1
  let r6 := rdR r5.2 r3.1
  let r7 := rdN r6.2 1
  ⟨r1.1, r2.1, r3.1, r4.1, r7.1, r5.1, r6.1, r7.2.2⟩
def Rd.ok (r : Rd) : Prop := r.b = 165 ∧ r.z = 90 ∧ r.bad = false ∧ r.en ≤ 281474976710656 ∧ rcode r.k.length r.v.length r.en = 0
instance (r : Rd) : Decidable r.ok := by unfold Rd.ok; infer_instance

theorem ownB_setRow {w : World} {base : Nat} {v : Value} {e : TypeId} {l : List UInt8} (h : OwnB w base e v l) {g : Nat} (hp : v.ownBlock ≠ some g) (cs : Array Value) : OwnB (w.setRow g cs) base e v l :=
  h.keep (S := [g]) ((Keep.refl _ _).setRow (.inl (by simp)) cs) (by intro b hb hm; simp at hm; subst hm; exact hp hb)
theorem own_base {w : World} {base : Nat} {e : TypeId} {v : Value} {l : List UInt8} (h : OwnB w base e v l) {b : Nat} (hb : v.ownBlock = some b) : base ≤ b := by
  rcases h.2 with ⟨rfl, -⟩ | ⟨g, cap, cur, rfl, h1, -⟩
  · simp [Value.ownBlock] at hb
  · simp [Value.ownBlock] at hb
    subst hb
    exact h1

set_option maxRecDepth 100000 in
set_option maxHeartbeats 1000000 in
set_option maxHeartbeats 8000000 in
theorem unpack_any (x : Value) (l : List UInt8) (w : World) (hx : Bytes w x l) (hl : l.length ≤ 1000000) :
    Calls Try.prog 154 #[x] w fun e w' => Keep [] w w' ∧
      (((rdAll l).ok ∧ ∃ k v, e = .returned (.tuple #[.agg #[k, v, .int .i64 ((rdAll l).en : Int)], .int .i64 (13 + (rdAll l).kn + (rdAll l).vn : Int), .int .i64 0]) ∧ OwnB w' w.heap.size 5 k (rdAll l).k ∧ OwnB w' w.heap.size 5 v (rdAll l).v) ∨
       (¬ (rdAll l).ok ∧ e = .returned (.tuple #[.agg #[.slice none 0 0, .slice none 0 0, .int .i64 0], .int .i64 0, .int .i64 5]))) := by
  obtain ⟨r1, h1⟩ : ∃ r, rdN (l, false) 1 = r := ⟨_, rfl⟩
  obtain ⟨r2, h2⟩ : ∃ r, rdN r1.2 1 = r := ⟨_, rfl⟩
  obtain ⟨r3, h3⟩ : ∃ r, rdN r2.2 2 = r := ⟨_, rfl⟩
  obtain ⟨r4, h4⟩ : ∃ r, rdN r3.2 8 = r := ⟨_, rfl⟩
  obtain ⟨r5, h5⟩ : ∃ r, rdR r4.2 r2.1 = r := ⟨_, rfl⟩
  obtain ⟨r6, h6⟩ : ∃ r, rdR r5.2 r3.1 = r := ⟨_, rfl⟩
  obtain ⟨r7, h7⟩ : ∃ r, rdN r6.2 1 = r := ⟨_, rfl⟩
  have hall : rdAll l = ⟨r1.1, r2.1, r3.1, r4.1, r7.1, r5.1, r6.1, r7.2.2⟩ := by
    unfold rdAll
    simp only [h1, h2, h3, h4, h5, h6, h7]
  rw [hall]
  have b1 := rdN_lt (l, false) 1
  have b2 := rdN_lt r1.2 1
  have b3 := rdN_lt r2.2 2
  have b4 := rdN_lt r3.2 8
  have b7 := rdN_lt r6.2 1
  rw [h1] at b1
  rw [h2] at b2
  rw [h3] at b3
  rw [h4] at b4
  rw [h7] at b7
  simp only [Nat.reducePow] at b1 b2 b3 b4 b7
  have q2 : RowKit.wrap64 (r2.1 : Int) = (r2.1 : Int) := by unfold RowKit.wrap64; omega
  have q3 : RowKit.wrap64 (r3.1 : Int) = (r3.1 : Int) := by unfold RowKit.wrap64; omega
  have q2' : IntKind.i64.wrap (r2.1 : Int) = (r2.1 : Int) := i64_wrap_nat (by omega)
  have q3' : IntKind.i64.wrap (r3.1 : Int) = (r3.1 : Int) := i64_wrap_nat (by omega)
  obtain ⟨E, hE⟩ : ∃ E, IntKind.i64.wrap (r4.1 : Int) = E := ⟨_, rfl⟩
  obtain ⟨E2, hE2⟩ : ∃ E, RowKit.wrap64 (r4.1 : Int) = E := ⟨_, rfl⟩
  have hEE : r4.1 ≤ 281474976710656 → E = (r4.1 : Int) := fun h => by rw [← hE]; exact i64_wrap_nat (by omega)
  have HALL := Lib.hid hall
  have hEE2 : r4.1 ≤ 281474976710656 → E2 = (r4.1 : Int) := fun h => by rw [← hE2]; unfold RowKit.wrap64; omega
  have HEE := Lib.hid hEE
  have HEE2 := Lib.hid hEE2
  have l5 := rdR_len r4.2 r2.1
  have l6 := rdR_len r5.2 r3.1
  rw [h5] at l5
  rw [h6] at l6
  clear hall hEE hEE2
  have hK0 := (Keep.refl [] w).alloc (.cells #[.slice none 0 0, .slice none 0 0, .int .i64 0] 111)
  have hA := heap_alloc_new w (.cells #[.slice none 0 0, .slice none 0 0, .int .i64 0] 111)
  go_enter Try.func154, Try.ntmps154
  go_wp2_with fail
  refine (newReader_any x l _ (hx.keep hK0 (by simp)) hl).mono ?_
  rintro e w1 ⟨g, rfl, s1⟩
  go_wp2_with fail
  have c := readNumber_any _ w1 g (l, false) s1 1 (by omega)
  rw [h1] at c
  refine c.mono ?_
  clear c s1
  rintro e w2 ⟨rfl, s2, -⟩
  go_wp2_with fail
  have c := readNumber_any _ w2 g r1.2 s2 1 (by omega)
  rw [h2] at c
  refine c.mono ?_
  clear c s2
  rintro e w3 ⟨rfl, s3, -⟩
  go_wp2_with fail
  have c := readNumber_any _ w3 g r2.2 s3 2 (by omega)
  rw [h3] at c
  refine c.mono ?_
  clear c s3
  rintro e w4 ⟨rfl, s4, -⟩
  go_wp2_with fail
  have c := readNumber_any _ w4 g r3.2 s4 8 (by omega)
  rw [h4] at c
  refine c.mono ?_
  clear c s4
  rintro e w5 ⟨rfl, s5, -⟩
  go_wp2_with fail
  have z5 : w.heap.size ≤ w5.heap.size := by have := s5.1.size; simp at this; omega
  have Z5 := Lib.hid z5
  clear z5
  have c := readRaw_any _ w5 g r4.2 s5 r2.1
  rw [h5] at c
  refine c.mono ?_
  clear c s5
  rintro e w6 ⟨k, rfl, ok, s6, -⟩
  go_wp2_with fail
  have z6 : w.heap.size ≤ w6.heap.size := by have := s6.1.size; simp at this; omega
  have ok := ok.base Z5.out
  have Z6 := Lib.hid z6
  clear z6
  have c := readRaw_any _ w6 g r5.2 s6 r3.1
  rw [h6] at c
  refine c.mono ?_
  clear c
  rintro e w7 ⟨v, rfl, ov, s7, kg7⟩
  have bv := ov.base Z6.out
  clear ov
  obtain ⟨rv6, hrow6, -⟩ := s6.2.2
  have bk := ok.keep kg7 (by intro b hb hm; simp at hm; subst hm; exact ok.ne_row hrow6 (by decide) hb)
  have hlk : r5.1.length ≤ 1000000 := by omega
  have hlv : r6.1.length ≤ 1000000 := by omega
  obtain ⟨ka, kc, rfl, -⟩ := (bk.bytes (Nat.le_trans hlk (by decide))).form
  obtain ⟨va, vc, rfl, -⟩ := (bv.bytes (Nat.le_trans hlv (by decide))).form
  have hA7 := s7.1.blk (by simp) hA
  have hgn : g ≠ w.heap.size := by have := s7.2.1; simp at this; omega
  have nu := no_u8 (0, none, 0) (0, none, 0) 0
  have s8 := fun cs => (s7.base ((Keep.refl [] w).alloc _)).setRow hA7 hgn (Nat.le_refl _) nu cs
  have bk8 := fun cs => ownB_setRow bk (bk.ne_row hA7 (by decide)) cs
  have bv8 := fun cs => ownB_setRow bv (bv.ne_row hA7 (by decide)) cs
  have hA8 := fun cs => setRow_heap w7 _ _ cs _ _ hA7
  have S8 := Lib.hid s8
  have BK := Lib.hid bk8
  have BV := Lib.hid bv8
  have A8 := Lib.hid hA8
  clear s6 s7 kg7 ok bk bv hrow6 hA s8 bk8 bv8 hA8 hK0 hx
  go_upto_region 6 with (refine wpList_store_row rfl 111 (.tmp 2) _ rfl w.heap.size _ rfl rfl 111 _ hA7 (by kernel_rfl) (by rfl) (by kernel_rfl) ?_)
  have s8 := S8.out #[.slice ka r5.1.length kc, .slice va r6.1.length vc, .int .i64 E]
  have bk8 := BK.out #[.slice ka r5.1.length kc, .slice va r6.1.length vc, .int .i64 E]
  have bv8 := BV.out #[.slice ka r5.1.length kc, .slice va r6.1.length vc, .int .i64 E]
  have a8 := A8.out #[.slice ka r5.1.length kc, .slice va r6.1.length vc, .int .i64 E]
  clear S8 BK BV A8 hA7
  generalize w7.setRow w.heap.size #[.slice ka r5.1.length kc, .slice va r6.1.length vc, .int .i64 E] = w8 at s8 bk8 bv8 a8 ⊢
  by_cases c1 : r1.1 = 165
  · have d1 : ((r1.1 : Int) != 165) = false := by rw [c1]; rfl
    obtain ⟨rv8, hrow8, hrb8, -⟩ := s8.2.2
    obtain ⟨ra, rcp, hrv, -⟩ := hrb8.form
    have nr := reader_nu rv8 r6.2.2 (by rw [hrv]; intro n h; cases h)
    go_wp2_with fail
    have c := readNumber_any _ w8 g r6.2 s8 1 (by omega)
    rw [h7] at c
    refine c.mono ?_
    clear c
    rintro e w9 ⟨rfl, s9, kg9⟩
    have a9 := kg9.blk (by simp; exact fun h => hgn h.symm) a8
    have bk9 := bk8.keep kg9 (by intro b hb hm; simp at hm; subst hm; exact bk8.ne_row hrow8 (by decide) hb)
    have bv9 := bv8.keep kg9 (by intro b hb hm; simp at hm; subst hm; exact bv8.ne_row hrow8 (by decide) hb)
    clear s8 bk8 bv8 a8 kg9 hrow8 hrb8 hrv nr
    by_cases c2 : r7.1 = 90
    · have d2 : ((r7.1 : Int) != 90) = false := by rw [c2]; rfl
      go_wp2_with fail
      refine (bad_any _ w9 g r7.2.1 r7.2.2 s9).mono ?_
      rintro e w10 ⟨rfl, rfl⟩
      cases c3 : r7.2.2 with
      | true =>
        go_wp2_with (refine wpList_store_row rfl 111 (.tmp 2) _ rfl w.heap.size _ rfl rfl 111 _ a9 (by kernel_rfl) (by rfl) (by kernel_rfl) ?_)
        refine bodyPost_ret (results3_row rfl _ _ w.heap.size 111 #[.slice none 0 0, .slice none 0 0, .int .i64 0] _ _ rfl (setRow_heap _ _ _ _ _ _ a9) Try.underlying111 rfl (by kernel_rfl)) rfl ⟨(s9.1).setRow (.inr (Nat.le_refl _)) _, .inr ⟨fun h => ?_, rfl⟩⟩
        have h3 : r7.2.2 = false := h.2.2.1
        rw [c3] at h3
        cases h3
      | false =>
        by_cases c4 : r4.1 ≤ 281474976710656
        · have d4 : ¬ (281474976710656 : Int) < (r4.1 : Int) := by omega
          have hEr := HEE.out c4
          subst hEr
          have g0 := cell_of_row w9 _ 0 _ _ _ a9
          have g1 := cell_of_row w9 _ 1 _ _ _ a9
          have g2 := cell_of_row w9 _ 2 _ _ _ a9
          simp at g0 g1 g2
          go_wp2_with fail
          have c := right_any _ _ r5.1 r6.1 (r4.1 : Int) w9 (bk9.bytes (Nat.le_trans hlk (by decide))) (bv9.bytes (Nat.le_trans hlv (by decide)))
          obtain ⟨rc, hrc⟩ : ∃ rc, rcode r5.1.length r6.1.length (r4.1 : Int) = rc := ⟨_, rfl⟩
          rw [hrc] at c
          refine c.mono ?_
          clear c g0 g1 g2
          rintro e w11 ⟨rfl, k11⟩
          have a11 := k11.blk (by simp) a9
          have bk11 := bk9.keep k11 (by simp)
          have bv11 := bv9.keep k11 (by simp)
          have K11 := s9.1.trans k11
          by_cases c5 : rc = 0
          · subst c5
            have hsz := size_any (r2.1 : Int) (r3.1 : Int)
            have z7 := rdN_good (s := r6.2) (k := 1) (by rw [h7]; exact c3)
            have z6 := rdR_good (s := r5.2) (n := r3.1) (by rw [h6]; exact z7.1)
            have z5 := rdR_good (s := r4.2) (n := r2.1) (by rw [h5]; exact z6.1)
            rw [h6] at z6
            rw [h5] at z5
            have zz := rcode_zero hrc
            have hz : 1 ≤ (r2.1 : Int) ∧ (r2.1 : Int) ≤ 64 ∧ 0 ≤ (r3.1 : Int) ∧ (r3.1 : Int) ≤ 4096 := by
              have := z6.2
              have := z5.2
              omega
            rw [if_pos hz] at hsz
            clear z5 z6 z7 zz hz
            go_wp2_with fail
            have hC0 : Keep [w.heap.size] w11 w11.drew ∧ w11.drew.heap[w.heap.size]? = some (.cells #[.slice ka r5.1.length kc, .slice va r6.1.length vc, .int .i64 (r4.1 : Int)] 111 (0, 0)) := ⟨(Keep.refl _ w11).drew, a11⟩
            have gk0 : ∀ w', (Keep [w.heap.size] w11 w' ∧ w'.heap[w.heap.size]? = some (.cells #[.slice ka r5.1.length kc, .slice va r6.1.length vc, .int .i64 (r4.1 : Int)] 111 (0, 0))) → w'.cell? ⟨w.heap.size, 0, none⟩ = some (.slice ka r5.1.length kc) := fun w' h => by rw [cell_of_row w' _ 0 _ _ _ h.2]; rfl
            have gk1 : ∀ w', (Keep [w.heap.size] w11 w' ∧ w'.heap[w.heap.size]? = some (.cells #[.slice ka r5.1.length kc, .slice va r6.1.length vc, .int .i64 (r4.1 : Int)] 111 (0, 0))) → w'.cell? ⟨w.heap.size, 1, none⟩ = some (.slice va r6.1.length vc) := fun w' h => by rw [cell_of_row w' _ 1 _ _ _ h.2]; rfl
            have gk2 : ∀ w', (Keep [w.heap.size] w11 w' ∧ w'.heap[w.heap.size]? = some (.cells #[.slice ka r5.1.length kc, .slice va r6.1.length vc, .int .i64 (r4.1 : Int)] 111 (0, 0))) → w'.cell? ⟨w.heap.size, 2, none⟩ = some (.int .i64 (r4.1 : Int)) := fun w' h => by rw [cell_of_row w' _ 2 _ _ _ h.2]; rfl
            refine wp_region_lex (fun w' => Keep [w.heap.size] w11 w' ∧ w'.heap[w.heap.size]? = some (.cells #[.slice ka r5.1.length kc, .slice va r6.1.length vc, .int .i64 (r4.1 : Int)] 111 (0, 0))) [3, 4] (by kernel_rfl) (by kernel_rfl) hC0 ?_
            generalize w11.drew = w12 at hC0 ⊢
            (repeat (first | (refine lex_q rfl rfl (fun K hK => ?_); apply Exists.intro; refine ⟨fun w' hC => ?_, ?_⟩; (go_simp <;> rfl); go_simp; refine hK _ _ ?_; clear hK K) | (refine lex_s rfl (fun K hK => ?_); go_simp; refine hK _ _ ?_; clear hK K)))
            (refine lex_l rfl rfl (fun K hK => ?_); go_simp)
            refine (hsz _).mono ?_
            rintro e w13 ⟨rfl, rfl⟩
            refine hK _ _ hC0 ?_
            clear hK K
            (repeat (first | (refine lex_q rfl rfl (fun K hK => ?_); apply Exists.intro; refine ⟨fun w' hC => ?_, ?_⟩; (go_simp <;> rfl); go_simp; refine hK _ _ ?_; clear hK K) | (refine lex_s rfl (fun K hK => ?_); go_simp; refine hK _ _ ?_; clear hK K)))
            refine lex_l rfl rfl (fun K hK => ?_)
            refine loudly_store_row 111 (.tmp 2) (.tmp 52) rfl w.heap.size #[.slice ka r5.1.length kc, .slice va r6.1.length vc, .int .i64 (r4.1 : Int)] rfl rfl 111 _ hC0.2 (by kernel_rfl) (by rfl) (by kernel_rfl) ?_
            have hC1 : Keep [w.heap.size] w11 (w12.setRow w.heap.size #[.slice ka r5.1.length kc, .slice va r6.1.length vc, .int .i64 (r4.1 : Int)]) ∧ (w12.setRow w.heap.size #[.slice ka r5.1.length kc, .slice va r6.1.length vc, .int .i64 (r4.1 : Int)]).heap[w.heap.size]? = some (.cells #[.slice ka r5.1.length kc, .slice va r6.1.length vc, .int .i64 (r4.1 : Int)] 111 (0, 0)) := ⟨hC0.1.setRow (.inl (by simp)) _, setRow_heap _ _ _ _ _ _ hC0.2⟩
            refine hK _ _ hC1 ?_
            clear hK K
            (repeat (first | (refine lex_q rfl rfl (fun K hK => ?_); apply Exists.intro; refine ⟨fun w' hC => ?_, ?_⟩; (go_simp <;> rfl); go_simp; refine hK _ _ ?_; clear hK K) | (refine lex_s rfl (fun K hK => ?_); go_simp; refine hK _ _ ?_; clear hK K)))
            refine lex_nil ?_
            go_wp2
            refine bodyPost_ret (results3_row rfl _ _ w.heap.size 111 _ _ _ rfl hC1.2 Try.underlying111 rfl (by kernel_rfl)) rfl ⟨K11.trans' hC1.1 (by intro k hk; rw [List.mem_singleton] at hk; subst hk; exact .inr (Nat.le_refl _)), .inl ⟨⟨c1, c2, c3, c4, hrc⟩, _, _, rfl, ?_, ?_⟩⟩
            · exact bk11.keep hC1.1 (by intro b hb hm; simp at hm; subst hm; exact bk11.ne_row a11 (by decide) hb)
            · exact bv11.keep hC1.1 (by intro b hb hm; simp at hm; subst hm; exact bv11.ne_row a11 (by decide) hb)
          · have d5 : (rc != 0) = true := by simpa using c5
            go_wp2_with (refine wpList_store_row rfl 111 (.tmp 2) _ rfl w.heap.size _ rfl rfl 111 _ a11 (by kernel_rfl) (by rfl) (by kernel_rfl) ?_)
            refine bodyPost_ret (results3_row rfl _ _ w.heap.size 111 #[.slice none 0 0, .slice none 0 0, .int .i64 0] _ _ rfl (setRow_heap _ _ _ _ _ _ a11) Try.underlying111 rfl (by kernel_rfl)) rfl ⟨K11.setRow (.inr (Nat.le_refl _)) _, .inr ⟨fun h => ?_, rfl⟩⟩
            exact c5 (hrc.symm.trans h.2.2.2.2)
        · have d4 : (281474976710656 : Int) < (r4.1 : Int) := by omega
          go_wp2_with (refine wpList_store_row rfl 111 (.tmp 2) _ rfl w.heap.size _ rfl rfl 111 _ a9 (by kernel_rfl) (by rfl) (by kernel_rfl) ?_)
          refine bodyPost_ret (results3_row rfl _ _ w.heap.size 111 #[.slice none 0 0, .slice none 0 0, .int .i64 0] _ _ rfl (setRow_heap _ _ _ _ _ _ a9) Try.underlying111 rfl (by kernel_rfl)) rfl ⟨(s9.1).setRow (.inr (Nat.le_refl _)) _, .inr ⟨fun h => ?_, rfl⟩⟩
          exact c4 h.2.2.2.1
    · have d2 : ((r7.1 : Int) != 90) = true := by simp; omega
      go_wp2_with (refine wpList_store_row rfl 111 (.tmp 2) _ rfl w.heap.size _ rfl rfl 111 _ a9 (by kernel_rfl) (by rfl) (by kernel_rfl) ?_)
      refine bodyPost_ret (results3_row rfl _ _ w.heap.size 111 #[.slice none 0 0, .slice none 0 0, .int .i64 0] _ _ rfl (setRow_heap _ _ _ _ _ _ a9) Try.underlying111 rfl (by kernel_rfl)) rfl ⟨(s9.1).setRow (.inr (Nat.le_refl _)) _, .inr ⟨fun h => ?_, rfl⟩⟩
      exact c2 h.2.1
  · have d1 : ((r1.1 : Int) != 165) = true := by simp; omega
    go_wp2_with (refine wpList_store_row rfl 111 (.tmp 2) _ rfl w.heap.size _ rfl rfl 111 _ a8 (by kernel_rfl) (by rfl) (by kernel_rfl) ?_)
    refine bodyPost_ret (results3_row rfl _ _ w.heap.size 111 #[.slice none 0 0, .slice none 0 0, .int .i64 0] _ _ rfl (setRow_heap _ _ _ _ _ _ a8) Try.underlying111 rfl (by kernel_rfl)) rfl ⟨(s8.1).setRow (.inr (Nat.le_refl _)) _, .inr ⟨fun h => ?_, rfl⟩⟩
    exact c1 h.1
end Go.Proofs.Ytijljdcpajjhhaa

/-! What a record's bytes read as: the plain law. -/
namespace Go.Proofs.Ytijljdcpajjhhaa
open Go.RowKit Sg

/-- enough bytes: what they read as -/
theorem rdAll_eq (l : List UInt8) (kn vn : Nat) (hk : leOf ((l.drop 1).take 1) = kn) (hv : leOf ((l.drop 2).take 2) = vn) (hl : 13 + kn + vn ≤ l.length) :
    rdAll l = ⟨leOf (l.take 1), kn, vn, leOf ((l.drop 4).take 8), leOf ((l.drop (12 + kn + vn)).take 1), (l.drop 12).take kn, (l.drop (12 + kn)).take vn, false⟩ := by
  unfold rdAll
  have e1 : rdN (l, false) 1 = (leOf (l.take 1), l.drop 1, false) := rdN_eq (by simp; omega)
  have e2 : rdN (l.drop 1, false) 1 = (kn, l.drop 2, false) := by rw [rdN_eq (by simp; omega)]; simp only [hk, List.drop_drop]
  have e3 : rdN (l.drop 2, false) 2 = (vn, l.drop 4, false) := by rw [rdN_eq (by simp; omega)]; simp only [hv, List.drop_drop]
  have e4 : rdN (l.drop 4, false) 8 = (leOf ((l.drop 4).take 8), l.drop 12, false) := by rw [rdN_eq (by simp; omega)]; simp only [List.drop_drop]
  have e5 : rdR (l.drop 12, false) kn = ((l.drop 12).take kn, l.drop (12 + kn), false) := by rw [rdR_eq (by simp; omega)]; simp only [List.drop_drop]
  have e6 : rdR (l.drop (12 + kn), false) vn = ((l.drop (12 + kn)).take vn, l.drop (12 + kn + vn), false) := by rw [rdR_eq (by simp; omega)]; simp only [List.drop_drop]
  have e7 : rdN (l.drop (12 + kn + vn), false) 1 = (leOf ((l.drop (12 + kn + vn)).take 1), l.drop (13 + kn + vn), false) := by
    rw [rdN_eq (by simp; omega)]; simp only [List.drop_drop]
    rw [show 12 + kn + vn + 1 = 13 + kn + vn by omega]
  simp only [e1, e2, e3, e4, e5, e6, e7]

/-- read without a fault: enough bytes -/
theorem rdAll_long (l : List UInt8) (h : (rdAll l).bad = false) : 13 + leOf ((l.drop 1).take 1) + leOf ((l.drop 2).take 2) ≤ l.length := by
  unfold rdAll at h
  simp only at h
  have g7 := rdN_good h
  have g6 := rdR_good2 g7.1
  have g5 := rdR_good2 g6.1
  have g4 := rdN_good g5.1
  have g3 := rdN_good g4.1
  have g2 := rdN_good g3.1
  have g1 := rdN_good g2.1
  clear h
  obtain ⟨kn, hk⟩ : ∃ kn, leOf ((l.drop 1).take 1) = kn := ⟨_, rfl⟩
  obtain ⟨vn, hv⟩ : ∃ vn, leOf ((l.drop 2).take 2) = vn := ⟨_, rfl⟩
  rw [hk, hv]
  have a1 : 1 ≤ l.length := g1.2
  have e1 : rdN (l, false) 1 = (leOf (l.take 1), l.drop 1, false) := rdN_eq a1
  simp only [e1] at g2 g3 g4 g5 g6 g7
  have a2 : 1 ≤ (l.drop 1).length := g2.2
  have e2 : rdN (l.drop 1, false) 1 = (kn, l.drop 2, false) := by rw [rdN_eq a2]; simp only [hk, List.drop_drop]
  simp only [e2] at g3 g4 g5 g6 g7
  have a3 : 2 ≤ (l.drop 2).length := g3.2
  have e3 : rdN (l.drop 2, false) 2 = (vn, l.drop 4, false) := by rw [rdN_eq a3]; simp only [hv, List.drop_drop]
  simp only [e3] at g4 g5 g6 g7
  have a4 : 8 ≤ (l.drop 4).length := g4.2
  have e4 : rdN (l.drop 4, false) 8 = (leOf ((l.drop 4).take 8), l.drop 12, false) := by rw [rdN_eq a4]; simp only [List.drop_drop]
  simp only [e4] at g5 g6 g7
  have a5 : kn ≤ (l.drop 12).length := g5.2
  have e5 : rdR (l.drop 12, false) kn = ((l.drop 12).take kn, l.drop (12 + kn), false) := by rw [rdR_eq a5]; simp only [List.drop_drop]
  simp only [e5] at g6 g7
  have a6 : vn ≤ (l.drop (12 + kn)).length := g6.2
  have e6 : rdR (l.drop (12 + kn), false) vn = ((l.drop (12 + kn)).take vn, l.drop (12 + kn + vn), false) := by rw [rdR_eq a6]; simp only [List.drop_drop]
  simp only [e6] at g7
  have a7 : 1 ≤ (l.drop (12 + kn + vn)).length := g7.2
  rw [List.length_drop] at a2 a3 a4 a5 a6 a7
  omega

theorem rpack_eq (k v : List UInt8) (e : Nat) : rpack k v e = le 165 1 ++ (le k.length 1 ++ (le v.length 2 ++ (le e 8 ++ (k ++ (v ++ le 90 1))))) := by
  simp [rpack]
theorem rpack_parts (k v : List UInt8) (e : Nat) : (rpack k v e).take 1 = le 165 1 ∧ ((rpack k v e).drop 1).take 1 = le k.length 1 ∧ ((rpack k v e).drop 2).take 2 = le v.length 2 ∧ ((rpack k v e).drop 4).take 8 = le e 8 ∧ ((rpack k v e).drop 12).take k.length = k ∧
    ((rpack k v e).drop (12 + k.length)).take v.length = v ∧ ((rpack k v e).drop (12 + k.length + v.length)).take 1 = le 90 1 := by
  have d1 : (rpack k v e).drop 1 = le k.length 1 ++ (le v.length 2 ++ (le e 8 ++ (k ++ (v ++ le 90 1)))) := by rw [rpack_eq, List.drop_left' (le_len _ _)]
  have d2 : (rpack k v e).drop 2 = le v.length 2 ++ (le e 8 ++ (k ++ (v ++ le 90 1))) := by rw [show 2 = 1 + 1 from rfl, ← List.drop_drop, d1, List.drop_left' (le_len _ _)]
  have d4 : (rpack k v e).drop 4 = le e 8 ++ (k ++ (v ++ le 90 1)) := by rw [show 4 = 2 + 2 from rfl, ← List.drop_drop, d2, List.drop_left' (le_len _ _)]
  have d12 : (rpack k v e).drop 12 = k ++ (v ++ le 90 1) := by rw [show 12 = 4 + 8 from rfl, ← List.drop_drop, d4, List.drop_left' (le_len _ _)]
  have dk : (rpack k v e).drop (12 + k.length) = v ++ le 90 1 := by rw [← List.drop_drop, d12, List.drop_left' rfl]
  have dv : (rpack k v e).drop (12 + k.length + v.length) = le 90 1 := by rw [← List.drop_drop, dk, List.drop_left' rfl]
  refine ⟨?_, ?_, ?_, ?_, ?_, ?_, ?_⟩
  · rw [rpack_eq, List.take_left' (le_len _ _)]
  · rw [d1, List.take_left' (le_len _ _)]
  · rw [d2, List.take_left' (le_len _ _)]
  · rw [d4, List.take_left' (le_len _ _)]
  · rw [d12, List.take_left' rfl]
  · rw [dk, List.take_left' rfl]
  · rw [dv, List.take_of_length_le (by rw [le_len]; omega)]

/-- a cut is no record -/
theorem rpack_cut (k v : List UInt8) (e c : Nat) (hk : k.length < 256) (hv : v.length < 65536) (hc : c < 13 + k.length + v.length) : ¬ (rdAll ((rpack k v e).take c)).ok := by
  intro h
  have h1 := rdAll_long _ h.2.2.1
  have h2 : ((rpack k v e).take c).length ≤ c := by rw [List.length_take]; omega
  obtain ⟨-, p1, p2, -⟩ := rpack_parts k v e
  rw [cut_take _ _ _ _ (by omega), cut_take _ _ _ _ (by omega), p1, p2, leOf_le, leOf_le, Nat.mod_eq_of_lt (by omega), Nat.mod_eq_of_lt (by omega)] at h1
  omega

/-- a record with anything behind it is read as it was -/
theorem rpack_back (k v rest : List UInt8) (e : Nat) (hk : k.length < 256) (hv : v.length < 65536) (he : e < 18446744073709551616) :
    rdAll (rpack k v e ++ rest) = ⟨165, k.length, v.length, e, 90, k, v, false⟩ := by
  have hl := rpack_len k v e
  have cut : ∀ i n, i + n ≤ 13 + k.length + v.length → ((rpack k v e ++ rest).drop i).take n = ((rpack k v e).drop i).take n := by
    intro i n h
    rw [List.drop_append_of_le_length (by omega), List.take_append_of_le_length (by rw [List.length_drop]; omega)]
  obtain ⟨p0, p1, p2, p3, p4, p5, p6⟩ := rpack_parts k v e
  have c0 := cut 0 1 (by omega)
  rw [List.drop_zero, List.drop_zero, p0] at c0
  have m1 : leOf (le k.length 1) = k.length := by rw [leOf_le, Nat.mod_eq_of_lt (by omega)]
  have m2 : leOf (le v.length 2) = v.length := by rw [leOf_le, Nat.mod_eq_of_lt (by omega)]
  have m3 : leOf (le e 8) = e := by rw [leOf_le, Nat.mod_eq_of_lt (by omega)]
  rw [rdAll_eq _ k.length v.length (by rw [cut _ _ (by omega), p1, m1]) (by rw [cut _ _ (by omega), p2, m2]) (by rw [List.length_append]; omega)]
  rw [c0, cut _ _ (by omega), p3, m3, cut _ _ (by omega), p6, cut _ _ (by omega), p4, cut _ _ (by omega), p5]
  rfl
end Go.Proofs.Ytijljdcpajjhhaa

/-! Which records bytes begin with: the document's test and the program's are one. -/
namespace Go.Proofs.Ytijljdcpajjhhaa
open Go.RowKit Sg

def qk (l : List UInt8) : Nat := leOf ((l.drop 1).take 1)
def qv (l : List UInt8) : Nat := leOf ((l.drop 2).take 2)
def qe (l : List UInt8) : Nat := leOf ((l.drop 4).take 8)
def qkey (l : List UInt8) : List UInt8 := (l.drop 12).take (qk l)
def qval (l : List UInt8) : List UInt8 := (l.drop (12 + qk l)).take (qv l)
/-- the document's test -/
def RecOk (l : List UInt8) : Prop := 13 + qk l + qv l ≤ l.length ∧ qe l ≤ 281474976710656 ∧ rcode (qk l) (qv l) (qe l) = 0 ∧ rpack (qkey l) (qval l) (qe l) = l.take (13 + qk l + qv l)
instance (l : List UInt8) : Decidable (RecOk l) := by unfold RecOk; infer_instance

theorem le_digit (n : Nat) : ∀ (k : Nat) (x : Nat), le (x + 256 * n) (k + 1) = UInt8.ofNat (x % 256) :: le (x / 256 + n) k := by
  intro k x
  induction k with
  | zero => simp [le]
  | succ k ih =>
    have e : (x + 256 * n) / 256 ^ (k + 1) = (x / 256 + n) / 256 ^ k := by
      rw [show 256 ^ (k + 1) = 256 * 256 ^ k by rw [Nat.pow_succ, Nat.mul_comm], ← Nat.div_div_eq_div_mul, Nat.add_mul_div_left _ _ (by decide)]
    rw [le, ih, le, List.cons_append, e]
theorem le_leOf : ∀ l : List UInt8, le (leOf l) l.length = l
  | [] => rfl
  | x :: l => by
    have hx := x.toNat_lt
    rw [leOf, List.length_cons, le_digit, Nat.mod_eq_of_lt (by omega), Nat.div_eq_of_lt (by omega), Nat.zero_add, le_leOf l]
    congr 1
    exact UInt8.ofNat_toNat
theorem le_piece (l : List UInt8) (i n : Nat) (h : i + n ≤ l.length) : le (leOf ((l.drop i).take n)) n = (l.drop i).take n := by
  have h1 := le_leOf ((l.drop i).take n)
  rw [List.length_take, List.length_drop, Nat.min_eq_left (by omega)] at h1
  exact h1
theorem join_piece (l : List UInt8) (i n m : Nat) : (l.drop i).take n ++ (l.drop (i + n)).take m = (l.drop i).take (n + m) := by
  rw [List.take_add, List.drop_drop]

theorem rec_ok_iff (l : List UInt8) : (rdAll l).ok ↔ RecOk l := by
  constructor
  · intro h
    have hl := rdAll_long l h.2.2.1
    have he := rdAll_eq l (qk l) (qv l) rfl rfl hl
    rw [he] at h
    obtain ⟨h1, h2, -, h4, h5⟩ := h
    simp only at h1 h2 h4 h5
    have hkl : ((l.drop 12).take (qk l)).length = qk l := by rw [List.length_take, List.length_drop]; unfold qk qv at *; omega
    have hvl : ((l.drop (12 + qk l)).take (qv l)).length = qv l := by rw [List.length_take, List.length_drop]; unfold qk qv at *; omega
    rw [hkl, hvl] at h5
    refine ⟨hl, h4, h5, ?_⟩
    have hl' : 13 + qk l + qv l ≤ l.length := hl
    rw [rpack_eq]
    have p0 := le_piece l 0 1 (by omega)
    rw [List.drop_zero, h1] at p0
    have p1 : le (qkey l).length 1 = (l.drop 1).take 1 := by
      rw [show (qkey l).length = qk l from hkl]; exact le_piece l 1 1 (by omega)
    have p2 : le (qval l).length 2 = (l.drop 2).take 2 := by
      rw [show (qval l).length = qv l from hvl]; exact le_piece l 2 2 (by omega)
    have p3 : le (qe l) 8 = (l.drop 4).take 8 := le_piece l 4 8 (by omega)
    have p6 := le_piece l (12 + qk l + qv l) 1 (by omega)
    rw [h2] at p6
    rw [p0, p1, p2, p3, p6]
    show l.take 1 ++ ((l.drop 1).take 1 ++ ((l.drop 2).take 2 ++ ((l.drop 4).take 8 ++ ((l.drop 12).take (qk l) ++ ((l.drop (12 + qk l)).take (qv l) ++ (l.drop (12 + qk l + qv l)).take 1))))) = _
    rw [join_piece, join_piece, join_piece l 4 8, join_piece l 2 2, join_piece l 1 1]
    have := join_piece l 0 1 (1 + (2 + (8 + (qk l + (qv l + 1)))))
    rw [List.drop_zero, Nat.zero_add] at this
    rw [this]
    congr 1
    omega
  · rintro ⟨hl, h2, h3, h4⟩
    have z := rcode_zero h3
    have hkl : (qkey l).length = qk l := by rw [qkey, List.length_take, List.length_drop]; omega
    have hvl : (qval l).length = qv l := by rw [qval, List.length_take, List.length_drop]; omega
    have hb := rpack_back (qkey l) (qval l) (l.drop (13 + qk l + qv l)) (qe l) (by omega) (by omega) (by omega)
    rw [h4, List.take_append_drop] at hb
    rw [hb]
    exact ⟨rfl, rfl, rfl, h2, by simp only; rw [hkl, hvl]; exact h3⟩
theorem rec_ok_fields (l : List UInt8) (h : RecOk l) : (rdAll l).kn = qk l ∧ (rdAll l).vn = qv l ∧ (rdAll l).en = qe l ∧ (rdAll l).k = qkey l ∧ (rdAll l).v = qval l ∧ (qkey l).length = qk l ∧ (qval l).length = qv l := by
  have he := rdAll_eq l (qk l) (qv l) rfl rfl h.1
  have hl := h.1
  rw [he]
  exact ⟨rfl, rfl, rfl, rfl, rfl, by rw [qkey, List.length_take, List.length_drop]; omega, by rw [qval, List.length_take, List.length_drop]; omega⟩
end Go.Proofs.Ytijljdcpajjhhaa

/-! Records: told; which records bytes are. -/
namespace Go.Proofs.Ytijljdcpajjhhaa
open Go.RowKit Sg
set_option linter.unusedSimpArgs false

structure Rc where
  (k v : List UInt8)
  en : Nat

/-- the records of bytes -/
def recsOf : List UInt8 → List Rc
  | [] => []
  | x :: l => if x = 0 then recsOf l else if RecOk (x :: l) then ⟨qkey (x :: l), qval (x :: l), qe (x :: l)⟩ :: recsOf ((x :: l).drop (13 + qk (x :: l) + qv (x :: l))) else []
termination_by l => l.length
decreasing_by
  · simp
  · rw [List.length_drop]; simp; omega

end Go.Proofs.Ytijljdcpajjhhaa

/-! The iterator of record.records: it gives the records of the bytes. -/
namespace Go.Proofs.Ytijljdcpajjhhaa
open Go.RowKit Go.Shelf Sg
attribute [local go_sem] Oper.semAt_some
set_option linter.unusedSimpArgs false

def RcEnc (base : Nat) (x : Rc) (args : Array Value) (W : World) : Prop := ∃ k v, args = #[.agg #[k, v, .int .i64 (x.en : Int)]] ∧ OwnB W base 5 k x.k ∧ OwnB W base 5 v x.v ∧ x.k.length ≤ 1000000 ∧ x.v.length ≤ 1000000
def boxLen (B : Nat) (w : World) : Nat := match w.cell? ⟨B, 0, none⟩ with
  | some (.slice _ n _) => n
  | _ => 0

theorem recsOf_nil : recsOf [] = [] := by rw [recsOf]
theorem recsOf_zero (l : List UInt8) (h : 0 < l.length) (h0 : l[0] = 0) : recsOf l = recsOf (l.drop 1) := by
  match l, h with
  | x :: t, _ =>
    have : x = 0 := h0
    rw [recsOf, if_pos this]
    rfl
theorem recsOf_rec (l : List UInt8) (h : 0 < l.length) (h0 : l[0] ≠ 0) (hr : RecOk l) : recsOf l = ⟨qkey l, qval l, qe l⟩ :: recsOf (l.drop (13 + qk l + qv l)) := by
  match l, h with
  | x :: t, _ =>
    have : ¬ x = 0 := h0
    rw [recsOf, if_neg this, if_pos hr]
theorem recsOf_bad (l : List UInt8) (h : 0 < l.length) (h0 : l[0] ≠ 0) (hr : ¬ RecOk l) : recsOf l = [] := by
  match l, h with
  | x :: t, _ =>
    have : ¬ x = 0 := h0
    rw [recsOf, if_neg this, if_neg hr]

set_option maxRecDepth 100000 in
set_option maxHeartbeats 1000000 in
theorem records1_iter (B base : Nat) (v0 : Value) (l0 : List UInt8) (hl : l0.length ≤ 1000000) :
    Iter2 Try.prog 153 #[.pointer (some ⟨B, 0, none⟩)] (RcEnc base) (recsOf l0) (fun W => Bytes W v0 l0 ∧ base ≤ W.heap.size ∧ B < base ∧ (l0 ≠ [] → v0.ownBlock ≠ some B)) (fun W => W.heap[B]? = some (.cells #[v0] 30 (0, 0))) [B] := by
  intro n l J Jx hRd hJ hJx hY W h0 hSt
  obtain ⟨hv, hbase, hBb, hvB⟩ := hRd _ _ h0
  obtain ⟨ao, cap, rfl, hlc, hm, hcap⟩ := hv.form
  refine callsIn_of_wp Try.func153 rfl trivial ?_
  simp only [Try.ntmps153, List.size_toArray, List.length_cons, List.length_nil, Nat.reduceAdd, Nat.reduceSub, Array.replicate_succ, Array.replicate_zero, List.push_toArray, List.append_toArray, List.nil_append, List.cons_append]
  gi_wp2
  refine wpIn_scope_straight ?_
  apply wpIn_seq_k
  intro K hK
  apply wpIn_label
  refine hK _ _ ?_
  clear hK K
  gi_wp2
  gi_loopw [4] (fun _ wr => ∃ (m : Nat) (ad : Option Addr) (pre : List Rc), m ≤ l0.length ∧ pre ++ recsOf (l0.drop m) = recsOf l0 ∧ J pre wr ∧ wr.heap[B]? = some (.cells #[.slice ad (l0.length - m) (cap - m)] 30 (0, 0)) ∧ (m < l0.length → ∃ b o, ao = some ⟨b, o, none⟩ ∧ ad = some ⟨b, o + m, none⟩)) (fun _ wr => boxLen B wr)
  case atStart => 
    refine ⟨0, ao, [], by omega, by simp, h0, by simpa using hSt, fun h => ?_⟩
    obtain ⟨b, o, rfl, -, -⟩ := hv.spot h
    exact ⟨b, o, rfl, rfl⟩
  case round =>
    obtain ⟨m, ad, pre, hml, hpre, hJm, hBm, hadm⟩ := hrel
    obtain ⟨hvm, hbm, -, hvB'⟩ := hRd _ _ hJm
    have gB := cell_of_one hBm
    have fB := free_of_one hBm
    by_cases hlt : m < l0.length
    · obtain ⟨b, o, rfl, rfl⟩ := hadm hlt
      have hcut := hvm.sub (f := m) (t := l0.length) (by omega) (by omega) (by omega)
      rw [List.take_of_length_le (by rw [List.length_drop]; omega)] at hcut
      obtain ⟨b', o', e', -, hc⟩ := hvm.spot (by omega)
      cases e'
      have hcm := hc m hlt
      have hbB : ¬ B = b := by
        have := hvB' (by intro h; rw [h] at hlt; simp at hlt)
        simp [Value.ownBlock] at this
        exact fun h => this h.symm
      have hd0 : 0 < (l0.drop m).length := by rw [List.length_drop]; omega
      have hd1 : (l0.drop m)[0] = l0[m] := by simp
      have t0 : (0 : Int) < ((l0.length - m : Nat) : Int) := by omega
      have t0' : 0 < l0.length - m := by omega
      have t1 : (1 : Int) ≤ ((l0.length - m : Nat) : Int) := by omega
      by_cases h0 : l0[m] = 0
      · have hr := recsOf_zero (l0.drop m) hd0 (by rw [hd1]; exact h0)
        rw [List.drop_drop] at hr
        rw [h0] at hcm
        have hpre2 : pre ++ recsOf (l0.drop (m + 1)) = recsOf l0 := by rw [← hr]; exact hpre
        by_cases hc1 : cap - m = 1
        · gi_wp2
          case roundEnd =>
            refine ⟨⟨m + 1, _, pre, by omega, hpre2, hJ _ _ _ ((Keep.refl _ _).setCell (.inl (by simp)) _) hJm, by rw [show l0.length - (m + 1) = l0.length - m - 1 by omega, show cap - (m + 1) = 0 by omega]; exact one_setCell hBm, fun h => by omega⟩, ?_⟩
            unfold boxLen
            rw [gB, cell_of_one (one_setCell hBm)]
            simp
            omega
        · gi_wp2
          case roundEnd =>
            refine ⟨⟨m + 1, _, pre, by omega, hpre2, hJ _ _ _ ((Keep.refl _ _).setCell (.inl (by simp)) _) hJm, by rw [show l0.length - (m + 1) = l0.length - m - 1 by omega, show cap - (m + 1) = cap - m - 1 by omega]; exact one_setCell hBm, fun h => ⟨b, o, rfl, by rw [Nat.add_assoc]⟩⟩, ?_⟩
            unfold boxLen
            rw [gB, cell_of_one (one_setCell hBm)]
            simp
            omega
      · have hU := unpack_any _ (l0.drop m) wr hcut (by rw [List.length_drop]; omega)
        have hne : ¬ ((l0[m].toNat : Int) = 0) := fun h => h0 (UInt8.toNat_inj.1 (by simpa using h))
        gi_wp2_with fail
        refine ⟨trivial, wideN _, callsIn_wide.2 (hU.mono ?_)⟩
        rintro e w2 ⟨k2, hor⟩
        have hJ2 := hJ _ _ _ (k2.mono (by simp)) hJm
        have hB2 := k2.blk (by simp) hBm
        by_cases hr : RecOk (l0.drop m)
        · obtain ⟨f1, f2, f3, f4, f5, f6, f7⟩ := rec_ok_fields _ hr
          have hrec := recsOf_rec (l0.drop m) hd0 (by rw [hd1]; exact h0) hr
          rw [hrec] at hpre
          have hrl := hr.1
          rw [List.length_drop] at hrl
          obtain ⟨N, hN⟩ : ∃ N, 13 + qk (l0.drop m) + qv (l0.drop m) = N := ⟨_, rfl⟩
          rw [hN] at hrl hpre
          rw [List.drop_drop] at hpre
          obtain ⟨k, v, rfl, bk, bv⟩ : ∃ k v, e = .returned (.tuple #[.agg #[k, v, .int .i64 (qe (l0.drop m) : Int)], .int .i64 (N : Int), .int .i64 0]) ∧ OwnB w2 wr.heap.size 5 k (qkey (l0.drop m)) ∧ OwnB w2 wr.heap.size 5 v (qval (l0.drop m)) := by
            rcases hor with ⟨-, k, v, h1, h2, h3⟩ | ⟨h, -⟩
            · rw [f1, f2, f3] at h1
              rw [f4] at h2
              rw [f5] at h3
              refine ⟨k, v, ?_, h2, h3⟩
              rw [h1, ← hN]
              push_cast
              rfl
            · exact absurd ((rec_ok_iff _).2 hr) h
          have hlk : (qkey (l0.drop m)).length ≤ 1000000 := by omega
          have hlv : (qval (l0.drop m)).length ≤ 1000000 := by omega
          obtain ⟨ka, kc, rfl, -⟩ := (bk.bytes (Nat.le_trans hlk (by decide))).form
          obtain ⟨va, vc, rfl, -⟩ := (bv.bytes (Nat.le_trans hlv (by decide))).form
          have hA := (Keep.refl [] w2).alloc (.cells #[.slice ka (qkey (l0.drop m)).length kc, .slice va (qval (l0.drop m)).length vc, .int .i64 (qe (l0.drop m) : Int)] 111)
          have hJ4 := hJ _ _ _ (hA.mono (by simp)) hJ2
          have hB4 := hA.blk (by simp) hB2
          have hpx : pre ++ [⟨qkey (l0.drop m), qval (l0.drop m), qe (l0.drop m)⟩] <+: recsOf l0 := ⟨recsOf (l0.drop (m + N)), by rw [← hpre]; simp⟩
          have hpre3 : (pre ++ [⟨qkey (l0.drop m), qval (l0.drop m), qe (l0.drop m)⟩]) ++ recsOf (l0.drop (m + N)) = recsOf l0 := by rw [← hpre]; simp
          obtain ⟨fn, tmps, assign, body, hy, hR⟩ := hY _ _ #[.agg #[.slice ka (qkey (l0.drop m)).length kc, .slice va (qval (l0.drop m)).length vc, .int .i64 (qe (l0.drop m) : Int)]] _ hpx hJ4 ⟨_, _, rfl, (bk.base hbm).keep hA (by simp), (bv.base hbm).keep hA (by simp), hlk, hlv⟩
          have n0 : 13 ≤ N := by omega
          have t2 : (N : Int) ≤ ((l0.length - m : Nat) : Int) := by omega
          have t3 : (N : Int) ≤ ((cap - m : Nat) : Int) := by omega
          clear hor hU hJ2 hB2 bk bv hlk hlv hcut hvm f1 f2 f3 f4 f5 f6 f7 hrec hN
          gi_wp2_with fail
          refine ⟨wideN _, hR.mono ?_⟩
          rintro e W3 ⟨hkB, (⟨rfl, hJ3⟩ | ⟨rfl, hJx3⟩)⟩
          · have hB3 := (hkB B (by simp)).trans hB4
            have gB3 := cell_of_one hB3
            have fB3 := free_of_one hB3
            by_cases hcN : cap - m = N
            · gi_wp2
              case roundEnd =>
                refine ⟨⟨m + N, _, pre ++ [⟨qkey (l0.drop m), qval (l0.drop m), qe (l0.drop m)⟩], by omega, hpre3, hJ _ _ _ ((Keep.refl _ _).setCell (.inl (by simp)) _) hJ3, by rw [show l0.length - (m + N) = l0.length - m - N by omega, show cap - (m + N) = 0 by omega]; exact one_setCell hB3, fun h => by omega⟩, ?_⟩
                unfold boxLen
                rw [gB, cell_of_one (one_setCell hB3)]
                simp
                omega
            · gi_wp2
              case roundEnd =>
                refine ⟨⟨m + N, _, pre ++ [⟨qkey (l0.drop m), qval (l0.drop m), qe (l0.drop m)⟩], by omega, hpre3, hJ _ _ _ ((Keep.refl _ _).setCell (.inl (by simp)) _) hJ3, by rw [show l0.length - (m + N) = l0.length - m - N by omega, show cap - (m + N) = cap - m - N by omega]; exact one_setCell hB3, fun h => ⟨b, o, rfl, by rw [Nat.add_assoc]⟩⟩, ?_⟩
                unfold boxLen
                rw [gB, cell_of_one (one_setCell hB3)]
                simp
                omega
          · gi_wp2
            try rw [Exit.noGoto_ret]
            refine bodyPost_ret (results_none rfl _ _ _) rfl ?_
            exact ⟨⟨_, rfl⟩, .inr ⟨_, hpx, hJx3⟩⟩
        · have hrec := recsOf_bad (l0.drop m) hd0 (by rw [hd1]; exact h0) hr
          rw [hrec, List.append_nil] at hpre
          obtain rfl : e = _ := by
            rcases hor with ⟨h, -⟩ | ⟨-, h⟩
            · exact absurd ((rec_ok_iff _).1 h) hr
            · exact h
          gi_wp2
          refine ⟨(fun _ h => by cases h), ?_⟩
          gi_wp2
          try rw [Exit.noGoto_ret]
          refine bodyPost_ret (results_none rfl _ _ _) rfl ?_
          exact ⟨⟨_, rfl⟩, .inl (by rw [← hpre]; exact hJ _ _ _ (((Keep.refl [] w2).alloc _).mono (by simp)) hJ2)⟩
    · have : l0.drop m = [] := List.drop_of_length_le (by omega)
      rw [this, recsOf_nil, List.append_nil] at hpre
      have t0 : ¬ (0 : Int) < ((l0.length - m : Nat) : Int) := by omega
      have t0' : l0.length - m = 0 := by omega
      rw [t0'] at gB
      gi_wp2
      go_end0
      exact ⟨⟨_, rfl⟩, .inl (by rw [← hpre]; exact hJm)⟩
end Go.Proofs.Ytijljdcpajjhhaa

/-! The walk of record.All. -/
namespace Go.Proofs.Ytijljdcpajjhhaa
open Go.RowKit Go.Shelf Sg
attribute [local go_sem] Oper.semAt_some
set_option linter.unusedSimpArgs false

def rvals (r : Value × Value × Int) : List Value := [r.1, r.2.1, .int .i64 r.2.2]
/-- records of the call's own, one behind the other -/
def OwnR (w : World) (base : Nat) (e : TypeId) (v : Value) (rs : List (Value × Value × Int)) : Prop := w.ownsRow base e 3 v rs.length (rs.flatMap rvals)
theorem OwnR.nil (w : World) (base : Nat) (e : TypeId) : OwnR w base e (.slice none 0 0) [] := World.ownsRow_nil w base e 3
theorem OwnR.keep {w w' : World} {S : List Nat} {base : Nat} {e : TypeId} {v : Value} {l : List (Value × Value × Int)} (h : OwnR w base e v l) (k : Keep S w w') (hs : ∀ b, v.ownBlock = some b → b ∉ S) : OwnR w' base e v l := by
  refine ⟨h.1, ?_⟩
  rcases h.2 with hn | ⟨g, cap, cur, rfl, hb, hg, rest⟩
  · exact .inl hn
  · exact .inr ⟨g, cap, cur, rfl, hb, k.blk (hs g rfl) hg, rest⟩
theorem run_append_rec {w : World} (base : Nat) {ty : TypeId} {v : Value} {rs : List (Value × Value × Int)} (hown : OwnR w base 111 v rs) (g : Nat) (r : Value × Value × Int) {fr : Nat × Nat}
    (hg : w.heap[g]? = some (.cells #[r.1, r.2.1, .int .i64 r.2.2] 111 fr)) (h1 : r.1.oneCell' = true) (h2 : r.2.1.oneCell' = true) (hn : rs.length ≤ 1000000) (hbase : base ≤ w.heap.size) :
    ∃ v' w', (Builtin.append_ #[112, 112] ty #[v, .slice (some ⟨g, 0, none⟩) 1 1]).run Try.prog w = .ok v' w' ∧ OwnR w' base 111 v' (rs ++ [r]) ∧ Keep v.ownBlock.toList w w' := by
  obtain ⟨i, hi1, hz, hs1, hb1⟩ := info_parts (show (Try.prog.info? 111).map (fun i => (i.zero, i.size, i.bytes)) = some (some (.agg #[.slice none 0 0, .slice none 0 0, .int .i64 0]), 3, 56) by kernel_rfl)
  obtain ⟨v', w', hrun, hown', hgr, -⟩ := run_append_own (P := Try.prog) w base 112 ty 111 i _ 3 56 Try.underlying112 hi1 hz hs1 hb1 rfl (by decide) v rs.length (rs.flatMap rvals) hown ⟨g, 0, none⟩ 1 1 (rvals r) (by rfl)
    (fun j u hu => by
      rw [Addr.add_lit, Nat.zero_add, cell_of_row _ _ _ _ _ _ hg]
      rcases r with ⟨a, b, c⟩
      match j, hu with
      | 0, hu => exact hu
      | 1, hu => exact hu
      | 2, hu => exact hu
      | j + 3, hu => simp [rvals] at hu)
    (by
      intro u hu
      simp [rvals] at hu
      rcases hu with rfl | rfl | rfl
      · exact h1
      · exact h2
      · rfl) (by simp [maxLen]; omega) (by omega) hbase
  refine ⟨v', w', hrun, ?_, Keep.grown hgr⟩
  show World.ownsRow _ _ _ _ _ _ _
  rw [List.length_append, List.flatMap_append]
  simpa using hown'

/-- records in memory: each its key's and its value's bytes, from 'base' on -/
def RecM (W : World) (base : Nat) (rs : List (Value × Value × Int)) (l : List Rc) : Prop :=
  rs.length = l.length ∧ ∀ (i : Nat) r x, rs[i]? = some r → l[i]? = some x → OwnB W base 5 r.1 x.k ∧ OwnB W base 5 r.2.1 x.v ∧ r.2.2 = (x.en : Int) ∧ x.k.length ≤ 1000000 ∧ x.v.length ≤ 1000000
theorem RecM.keep {w w' : World} {S : List Nat} {base : Nat} {rs : List (Value × Value × Int)} {l : List Rc} (h : RecM w base rs l) (k : Keep S w w') (hS : ∀ b ∈ S, b < base ∨ ∃ o, w.heap[b]? = some o ∧ ∀ cs fr, o ≠ .cells cs 5 fr) : RecM w' base rs l := by
  have go : ∀ {v : Value} {x : List UInt8}, OwnB w base 5 v x → OwnB w' base 5 v x := fun {v x} hv => hv.keep k fun b hb hm => by
    rcases hv.2 with ⟨rfl, -⟩ | ⟨g, cap, cur, rfl, hg1, hg, -⟩
    · simp [Value.ownBlock] at hb
    · simp only [Value.ownBlock, Option.some.injEq] at hb
      subst hb
      rcases hS _ hm with h1 | ⟨o, ho, hne⟩
      · omega
      · rw [hg] at ho
        cases ho
        exact hne _ _ rfl
  exact ⟨h.1, fun i r x h1 h2 => ⟨go (h.2 i r x h1 h2).1, go (h.2 i r x h1 h2).2.1, (h.2 i r x h1 h2).2.2⟩⟩
theorem RecM.snoc {w : World} {base : Nat} {rs : List (Value × Value × Int)} {l : List Rc} (h : RecM w base rs l) {k v : Value} {x : Rc} (hk : OwnB w base 5 k x.k) (hv : OwnB w base 5 v x.v) (h1 : x.k.length ≤ 1000000) (h2 : x.v.length ≤ 1000000) :
    RecM w base (rs ++ [(k, v, (x.en : Int))]) (l ++ [x]) := by
  refine ⟨by simp [h.1], fun i r y e1 e2 => ?_⟩
  by_cases hlt : i < rs.length
  · rw [List.getElem?_append_left hlt] at e1
    rw [List.getElem?_append_left (by rw [← h.1]; exact hlt)] at e2
    exact h.2 i r y e1 e2
  · rw [List.getElem?_append_right (by omega)] at e1
    rw [List.getElem?_append_right (by rw [← h.1]; omega), ← h.1] at e2
    obtain ⟨hi0, -⟩ := List.getElem?_eq_some_iff.1 e1
    simp at hi0
    rw [hi0] at e1 e2
    simp at e1 e2
    rw [← e1, ← e2]
    exact ⟨hk, hv, rfl, h1, h2⟩
theorem recsOf_len : ∀ (n : Nat) (l : List UInt8), l.length ≤ n → (recsOf l).length ≤ l.length
  | _, [], _ => by rw [recsOf]; simp
  | 0, x :: l, h => by simp at h
  | n + 1, x :: l, h => by
    rw [recsOf]
    simp only [List.length_cons] at h
    split
    · have := recsOf_len n l (by omega); simp; omega
    · split
      · have := recsOf_len n ((x :: l).drop (13 + qk (x :: l) + qv (x :: l))) (by rw [List.length_drop]; simp; omega)
        rw [List.length_drop] at this
        simp only [List.length_cons] at this ⊢
        omega
      · simp

theorem records_any (ao : Option Addr) (n c : Nat) (w : World) : Calls Try.prog 142 #[.slice ao n c] w fun e w' => e = .returned (.func (.func 153) #[] #[.pointer (some ⟨w.heap.size, 0, none⟩)]) ∧ w.alloc (.cells #[.slice ao n c] 30) = w' := by
  go_enter Try.func142, Try.ntmps142
  go_wp2
  go_ret
  exact ⟨rfl, rfl⟩

theorem own_baseR {w : World} {base : Nat} {e : TypeId} {v : Value} {l : List (Value × Value × Int)} (h : OwnR w base e v l) {b : Nat} (hb : v.ownBlock = some b) : base ≤ b ∧ ∃ cs, w.heap[b]? = some (.cells cs e (0, 0)) := by
  rcases h.2 with ⟨rfl, -⟩ | ⟨g, cap, cur, rfl, h1, h2, -⟩
  · simp [Value.ownBlock] at hb
  · simp [Value.ownBlock] at hb
    subst hb
    exact ⟨h1, _, h2⟩
theorem OwnR.base {w : World} {base base' : Nat} {e : TypeId} {v : Value} {l : List (Value × Value × Int)} (h : OwnR w base e v l) (hb : base' ≤ base) : OwnR w base' e v l := by
  refine ⟨h.1, ?_⟩
  rcases h.2 with hn | ⟨g, cap, cur, rfl, hb', rest⟩
  · exact .inl hn
  · exact .inr ⟨g, cap, cur, rfl, Nat.le_trans hb hb', rest⟩
theorem RecM.base {w : World} {base base' : Nat} {rs : List (Value × Value × Int)} {l : List Rc} (h : RecM w base rs l) (hb : base' ≤ base) : RecM w base' rs l :=
  ⟨h.1, fun i r x h1 h2 => ⟨(h.2 i r x h1 h2).1.base hb, (h.2 i r x h1 h2).2.1.base hb, (h.2 i r x h1 h2).2.2⟩⟩
/-- what the loop of All keeps -/
def AllInv (w : World) (T : Nat) (pre : List Rc) (W : World) : Prop :=
  Keep [] w W ∧ ∃ v rs, W.heap[T]? = some (.cells #[v] 112 (0, 0)) ∧ OwnR W (T + 4) 111 v rs ∧ RecM W (T + 4) rs pre

set_option maxRecDepth 100000 in
set_option maxHeartbeats 1000000 in
theorem all09_any (x : Value) (l : List UInt8) (w : World) (hx : Bytes w x l) (hl : l.length ≤ 1000000) :
    Calls Try.prog 107 #[x] w fun e w' => ∃ v rs, e = .returned v ∧ OwnR w' w.heap.size 111 v rs ∧ RecM w' w.heap.size rs (recsOf l) ∧ Keep [] w w' := by
  obtain ⟨ao, cap, rfl, hlc, hm, hcap⟩ := hx.form
  obtain ⟨T, hT⟩ : ∃ T, w.heap.size = T := ⟨_, rfl⟩
  refine calls_of_marks Try.func107 rfl ?_
  simp only [Try.ntmps107, List.size_toArray, List.length_cons, List.length_nil, Nat.reduceAdd, Nat.reduceSub, Array.replicate_succ, Array.replicate_zero, List.push_toArray, List.append_toArray, List.nil_append, List.cons_append]
  go_wp2_with fail
  refine (records_any _ _ _ _).mono ?_
  rintro e w3 ⟨rfl, hw3⟩
  have hk3 : Keep [] w w3 := by rw [← hw3]; exact ((Keep.refl [] w).alloc _).alloc _
  have hb3 : w3.heap[T]? = some (.cells #[.slice none 0 0] 112 (0, 0)) := by rw [← hw3, ← hT]; exact heap_alloc2_old _ _ _
  have hd3 : w3.heap[T + 1]? = some (.cells #[.slice ao l.length cap] 30 (0, 0)) := by rw [← hw3, ← hT]; exact heap_alloc2_new _ _ _
  have hs3 : w3.heap.size = T + 2 := by rw [← hw3, ← hT]; simp
  clear hw3
  go_wp2_with fail
  have hbx : ∀ W, Keep [] w W → Bytes W (.slice ao l.length cap) l := fun W k => hx.keep k (by simp)
  have hxB : l ≠ [] → (Value.slice ao l.length cap).ownBlock ≠ some (T + 1) := fun h hb => by have := hx.lt h _ hb; omega
  refine wp_range3 (n := 3) (gf := 153) (lb := #[.pointer (some ⟨T + 1, 0, none⟩)]) rfl (enters_of Try.func153 (by kernel_rfl) rfl)
    (T := [T + 1]) (by intro b hb; rw [List.mem_singleton] at hb; omega) (records1_iter (T + 1) (T + 4) (.slice ao l.length cap) l hl)
    (fun x args W W' k h => ?hEnc) (fun x args W h => by obtain ⟨_, _, rfl, -⟩ := h; rfl)
    (AllInv w T) (fun _ _ _ => False)
    ?hRd ?hSt ?hI (fun _ _ _ _ _ h => h) ?h0
    (fun args B0 => { tmps := #[.slice ao l.length cap, undef, .slice none 0 0, .pointer (some ⟨T, 0, none⟩), .pointer (some ⟨B0, 0, none⟩), .slice ao l.length cap, .func (.func 153) #[] #[.pointer (some ⟨T + 1, 0, none⟩)], args.getD 0 undef, undef, undef, undef, undef, undef], defers := [] })
    (fun x args B0 W => ∃ ka kc va vc, args = #[.agg #[.slice ka x.k.length kc, .slice va x.v.length vc, .int .i64 (x.en : Int)]] ∧ W.heap[B0]? = some (.cells #[.slice ka x.k.length kc, .slice va x.v.length vc, .int .i64 (x.en : Int)] 111 (0, 0))) ?hAs
    ?hassign ?hbody ?hdone ?hstop
  case hEnc =>
    obtain ⟨k1, v1, rfl, h1, h2, h3, h4⟩ := h
    rw [hs3] at k
    refine ⟨k1, v1, rfl, h1.keep k ?_, h2.keep k ?_, h3, h4⟩
    · intro b hb hm
      have := own_base h1 hb
      simp at hm
      omega
    · intro b hb hm
      have := own_base h2 hb
      simp at hm
      omega
  case hAs =>
    rintro x args B0 W W' hB k ⟨ka, kc, va, vc, rfl, hx⟩
    exact ⟨ka, kc, va, vc, rfl, k.blk (by simp; omega) hx⟩
  case hRd =>
    rintro pre W ⟨hk, -⟩ hlt
    exact ⟨hbx W hk, by omega, by omega, hxB⟩
  case hSt =>
    rintro W k
    exact k.blk (by simp) hd3
  case hI =>
    rintro pre W W' k ⟨hk, v, rs, hb, hO, hR⟩
    rw [hs3] at k
    refine ⟨hk.ext k (by simp; omega), v, rs, k.blk (by simp; omega) hb, hO.keep k ?_, hR.keep k ?_⟩
    · intro b hb hm
      have := own_baseR hO hb
      simp at hm
      omega
    · intro b hm
      simp at hm
      omega
  case h0 =>
    intro W k
    exact ⟨hk3.trans k, _, [], k.blk (by simp) hb3, OwnR.nil _ _ _, rfl, by simp⟩
  case hassign =>
    rintro x args W K ⟨k1, v1, rfl, h1, h2, h3, h4⟩ hlt hK
    obtain ⟨ka, kc, rfl, -⟩ := (h1.bytes (Nat.le_trans h3 (by decide))).form
    obtain ⟨va, vc, rfl, -⟩ := (h2.bytes (Nat.le_trans h4 (by decide))).form
    have hA := (Keep.refl [] W).alloc (.cells #[.slice ka x.k.length kc, .slice va x.v.length vc, .int .i64 (x.en : Int)] 111)
    have hn := heap_alloc_new W (.cells #[.slice ka x.k.length kc, .slice va x.v.length vc, .int .i64 (x.en : Int)] 111)
    have hK2 := hK _ hA ⟨ka, kc, va, vc, rfl, hn⟩
    clear hK
    gi_wp2
    exact hK2
  case hbody =>
    rintro pre x args B0 W hpre ⟨hk, v, rs, hb, hO, hR⟩ ⟨k1, v1, rfl, h1, h2, h3, h4⟩ ⟨ka, kc, va, vc, hargs, hx0⟩ hB0 ⟨r, hL⟩ hD
    simp only [Array.mk.injEq, List.cons.injEq, Value.agg.injEq, and_true] at hargs
    obtain ⟨rfl, rfl⟩ := hargs
    rw [hs3] at hL hD hB0
    obtain ⟨vna, vnn, vnc, rfl⟩ : ∃ a n c, v = .slice a n c := by
      rcases hO.2 with ⟨rfl, -⟩ | ⟨g', c, cur, rfl, -⟩
      · exact ⟨_, _, _, rfl⟩
      · exact ⟨_, _, _, rfl⟩
    have hlen : pre.length + 1 ≤ (recsOf l).length := by have := hpre.length_le; simpa using this
    have hlen2 := recsOf_len _ l (Nat.le_refl _)
    have hrl := hR.1
    have hWs : T + 4 ≤ W.heap.size := by have := (Array.getElem?_eq_some_iff.1 hL).1; omega
    have g0 := cell_of_row W _ 0 _ _ _ hx0
    have g1 := cell_of_row W _ 1 _ _ _ hx0
    have g2 := cell_of_row W _ 2 _ _ _ hx0
    have gT := cell_of_one hb
    have fT := free_of_one hb
    simp at g0 g1 g2
    have hA := (Keep.refl [] W).alloc (.cells #[.slice ka x.k.length kc, .slice va x.v.length vc, .int .i64 (x.en : Int)] 111)
    obtain ⟨v', w', hrun, hO', hk'⟩ := run_append_rec (w := W.alloc (.cells #[.slice ka x.k.length kc, .slice va x.v.length vc, .int .i64 (x.en : Int)] 111)) (T + 4) (ty := 112) (hO.keep hA (by simp)) W.heap.size (.slice ka x.k.length kc, .slice va x.v.length vc, (x.en : Int)) (heap_alloc_new _ _) rfl rfl (by omega) (by have := hA.size; omega)
    obtain ⟨va', vn', vc', rfl⟩ : ∃ a n c, v' = .slice a n c := by
      rcases hO'.2 with ⟨rfl, -⟩ | ⟨g', c, cur, rfl, -⟩
      · exact ⟨_, _, _, rfl⟩
      · exact ⟨_, _, _, rfl⟩
    have hno : ∀ b, (Value.slice vna vnn vnc).ownBlock = some b → T + 4 ≤ b ∧ ∃ cs, W.heap[b]? = some (.cells cs 111 (0, 0)) := fun b hb => own_baseR hO hb
    have hnot : ∀ b, b < T + 4 → b ∉ (Value.slice vna vnn vnc).ownBlock.toList := by
      intro b hb hm
      rw [Option.mem_toList] at hm
      have := (hno b hm).1
      omega
    have hR1 := (hR.keep hA (by simp)).keep hk' (by
      intro b hm
      rw [Option.mem_toList] at hm
      obtain ⟨h1, cs, h2⟩ := hno b hm
      exact .inr ⟨_, hA.blk (by simp) h2, fun cs fr e => by cases e⟩)
    have hR2 := hR1.snoc ((h1.keep hA (by simp)).keep hk' (by
      intro b hb hm
      rw [Option.mem_toList] at hm
      obtain ⟨h1', cs, h2⟩ := hno b hm
      exact h1.ne_row h2 (by decide) hb)) ((h2.keep hA (by simp)).keep hk' (by
      intro b hb hm
      rw [Option.mem_toList] at hm
      obtain ⟨h1', cs, h2'⟩ := hno b hm
      exact h2.ne_row h2' (by decide) hb)) h3 h4
    have hb2 := hk'.blk (hnot T (by omega)) (hA.blk (by simp) hb)
    have hL2 := hk'.block (T + 2 + 1) (by have := hA.size; omega) (hnot _ (by omega))
    have hD2 := hk'.block (T + 2) (by have := hA.size; omega) (hnot _ (by omega))
    have hX2 := hk'.block (T + 1) (by have := hA.size; omega) (hnot _ (by omega))
    have hL3 := hA.block (T + 2 + 1) (by omega) (by simp)
    have hD3 := hA.block (T + 2) (by omega) (by simp)
    have hX3 := hA.block (T + 1) (by omega) (by simp)
    have gT2 := cell_of_one hb2
    have fT2 := free_of_one hb2
    have hkk : Keep [] w (w'.setCell ⟨T, 0, none⟩ (.slice va' vn' vc')) := by
      refine (hk.ext ((hA.mono (by simp)).trans hk') ?_).setCell (.inr (show w.heap.size ≤ T by omega)) _
      intro b hm
      rw [Option.mem_toList] at hm
      have := (hno b hm).1
      omega
    have HB := Lib.hid hb2
    have HR := Lib.hid hR2
    have HO := Lib.hid hO'
    have HK := Lib.hid hkk
    have HL := Lib.hid (hL2.trans hL3)
    have HD := Lib.hid (hD2.trans hD3)
    have HX := Lib.hid (hX2.trans hX3)
    have HHS := Lib.hid hs3
    clear hkk hL2 hL3 hD2 hD3 hX2 hX3 hR1 hR2 hO hR hnot hno hO' hk' hA hb hb2 hx0 hL hD h1 h2 hs3 hb3 hd3 hbx hxB hk hk3
    gi_wp2_with (gi_at_builtin; refine wpListIn_append_run rfl (.tmp 8) (.tmp 10) 112 rfl (v := .slice vna vnn vnc) (src := .slice (some ⟨W.heap.size, 0, none⟩) 1 1) (v' := .slice va' vn' vc') (w' := w') rfl rfl hrun ?_)
    have hs3 := HHS.out
    refine ⟨?_, ?_, ?_, HK.out, _, _, one_setCell HB.out, HO.out.keep ((Keep.refl [T] _).setCell (.inl (by simp)) _) ?_, HR.out.keep ((Keep.refl [T] _).setCell (.inl (by simp)) _) ?_⟩
    · rw [hs3]; exact (heap_setCell_other _ _ _ _ (by simp; omega)).trans HL.out
    · rw [hs3]; exact (heap_setCell_other _ _ _ _ (by simp)).trans HD.out
    · intro b hb
      rw [List.mem_singleton] at hb
      subst hb
      exact (heap_setCell_other _ _ _ _ (by simp)).trans HX.out
    · intro b hb hm
      have := (own_baseR HO.out hb).1
      simp at hm
      omega
    · intro b hm
      simp at hm
      omega
  case hdone =>
    rintro W ⟨hk, v, rs, hb, hO, hR⟩ hD
    obtain ⟨vna, vnn, vnc, rfl⟩ : ∃ a n c, v = .slice a n c := by
      rcases hO.2 with ⟨rfl, -⟩ | ⟨g', c, cur, rfl, -⟩
      · exact ⟨_, _, _, rfl⟩
      · exact ⟨_, _, _, rfl⟩
    have gT := cell_of_one hb
    go_wp2
    refine leavesM_one hD (results_tmp rfl _ _ _) ⟨_, rs, rfl, (hO.keep ((Keep.refl [T + 2] _).putObj (.inl (by simp [hs3])) _) ?_).base (by omega), (hR.keep ((Keep.refl [T + 2] _).putObj (.inl (by simp [hs3])) _) ?_).base (by omega), hk.putObj (.inr (by omega)) _⟩
    · intro b hb hm
      have := (own_baseR hO hb).1
      simp at hm
      omega
    · intro b hm
      simp at hm
      omega
  case hstop =>
    rintro c pre W _ h
    exact h.elim
end Go.Proofs.Ytijljdcpajjhhaa

/-! Records of the document, of the call's own; records in memory, one by one. -/
namespace Go.Proofs.Ytijljdcpajjhhaa
open Go.RowKit Go.Shelf Sg
set_option linter.unusedSimpArgs false

def scells (l : List Rc) : List Value := l.flatMap fun x => [.string ⟨x.k.toArray⟩, .string ⟨x.v.toArray⟩, .int .i64 (x.en : Int)]
/-- the document's records, one behind the other -/
def OwnS (w : World) (base : Nat) (v : Value) (l : List Rc) : Prop := w.ownsRow base 108 3 v l.length (scells l)
theorem OwnS.keep {w w' : World} {S : List Nat} {base : Nat} {v : Value} {l : List Rc} (h : OwnS w base v l) (k : Keep S w w') (hs : ∀ b, v.ownBlock = some b → b ∉ S) : OwnS w' base v l := by
  refine ⟨h.1, ?_⟩
  rcases h.2 with hn | ⟨g, cap, cur, rfl, hb, hg, rest⟩
  · exact .inl hn
  · exact .inr ⟨g, cap, cur, rfl, hb, k.blk (hs g rfl) hg, rest⟩
theorem OwnS.form {w : World} {base : Nat} {v : Value} {l : List Rc} (h : OwnS w base v l) : ∃ a c, v = .slice a l.length c := by
  rcases h.2 with ⟨rfl, h0⟩ | ⟨g', c, cur, rfl, -⟩
  · exact ⟨_, _, by rw [h0]⟩
  · exact ⟨_, _, rfl⟩
theorem run_append_srec {w : World} (base : Nat) {ty : TypeId} {v : Value} {l : List Rc} (hown : OwnS w base v l) (g : Nat) (x : Rc) {fr : Nat × Nat}
    (hg : w.heap[g]? = some (.cells #[.string ⟨x.k.toArray⟩, .string ⟨x.v.toArray⟩, .int .i64 (x.en : Int)] 108 fr)) (hn : l.length ≤ 1000000) (hbase : base ≤ w.heap.size) :
    ∃ v' w', (Builtin.append_ #[106, 106] ty #[v, .slice (some ⟨g, 0, none⟩) 1 1]).run Try.prog w = .ok v' w' ∧ OwnS w' base v' (l ++ [x]) ∧ Keep v.ownBlock.toList w w' := by
  obtain ⟨i, hi1, hz, hs1, hb1⟩ := info_parts (show (Try.prog.info? 108).map (fun i => (i.zero, i.size, i.bytes)) = some (some (.agg #[.string ByteArray.empty, .string ByteArray.empty, .int .i64 0]), 3, 40) by kernel_rfl)
  obtain ⟨v', w', hrun, hown', hgr, -⟩ := run_append_own (P := Try.prog) w base 106 ty 108 i _ 3 40 Try.underlying106 hi1 hz hs1 hb1 rfl (by decide) v l.length (scells l) hown ⟨g, 0, none⟩ 1 1 [.string ⟨x.k.toArray⟩, .string ⟨x.v.toArray⟩, .int .i64 (x.en : Int)] (by rfl)
    (fun j u hu => by
      rw [Addr.add_lit, Nat.zero_add, cell_of_row _ _ _ _ _ _ hg]
      match j, hu with
      | 0, hu => exact hu
      | 1, hu => exact hu
      | 2, hu => exact hu
      | j + 3, hu => simp at hu)
    (by
      intro u hu
      simp at hu
      rcases hu with rfl | rfl | rfl <;> rfl) (by simp [maxLen]; omega) (by omega) hbase
  refine ⟨v', w', hrun, ?_, Keep.grown hgr⟩
  show World.ownsRow _ _ _ _ _ _ _
  rw [List.length_append, scells, List.flatMap_append]
  simpa [scells] using hown'
theorem OwnS.own {w : World} {base : Nat} {v : Value} {l : List Rc} (h : OwnS w base v l) {b : Nat} (hb : v.ownBlock = some b) : base ≤ b := by
  rcases h.2 with ⟨rfl, -⟩ | ⟨g, cap, cur, rfl, h1, h2, -⟩
  · simp [Value.ownBlock] at hb
  · simp [Value.ownBlock] at hb
    subst hb
    exact h1

theorem flat3 {α β : Type} (f : α → List β) (h3 : ∀ x, (f x).length = 3) : ∀ (l : List α) (i j : Nat) (x : α), l[i]? = some x → j < 3 → (l.flatMap f)[3 * i + j]? = (f x)[j]?
  | [], i, j, x, h, _ => by simp at h
  | y :: l, 0, j, x, h, hj => by
    simp at h
    subst h
    rw [List.flatMap_cons, List.getElem?_append_left (by rw [h3]; omega)]
    simp
  | y :: l, i + 1, j, x, h, hj => by
    rw [List.flatMap_cons, List.getElem?_append_right (by rw [h3]; omega), h3, show 3 * (i + 1) + j - 3 = 3 * i + j by omega]
    exact flat3 f h3 l i j x (by simpa using h) hj

/-- the cells of one record in memory -/
theorem OwnR.at {w : World} {base : Nat} {v : Value} {rs : List (Value × Value × Int)} (h : OwnR w base 111 v rs) (i : Nat) (r : Value × Value × Int) (hi : rs[i]? = some r) :
    ∃ g cap, v = .slice (some ⟨g, 0, none⟩) rs.length cap ∧ w.cell? ⟨g, i * 3, none⟩ = some r.1 ∧ w.cell? ⟨g, i * 3 + 1, none⟩ = some r.2.1 ∧ w.cell? ⟨g, i * 3 + 2, none⟩ = some (.int .i64 r.2.2) := by
  have hlt := (List.getElem?_eq_some_iff.1 hi).1
  rcases id h.2 with ⟨-, h0⟩ | ⟨g, cap, cur, rfl, -⟩
  · omega
  · have c := fun j hj u hu => World.ownsRow.cells (g := g) h rfl (3 * i + j) u ((flat3 rvals (fun _ => rfl) rs i j r hi hj).trans hu)
    simp only [Addr.add_lit, Nat.zero_add, Nat.mul_comm 3 i] at c
    exact ⟨g, cap, rfl, c 0 (by decide) _ rfl, c 1 (by decide) _ rfl, c 2 (by decide) _ rfl⟩
theorem OwnS.at {w : World} {base : Nat} {v : Value} {rs : List Rc} (h : OwnS w base v rs) (i : Nat) (r : Rc) (hi : rs[i]? = some r) :
    ∃ g cap, v = .slice (some ⟨g, 0, none⟩) rs.length cap ∧ w.cell? ⟨g, i * 3, none⟩ = some (.string ⟨r.k.toArray⟩) ∧ w.cell? ⟨g, i * 3 + 1, none⟩ = some (.string ⟨r.v.toArray⟩) ∧ w.cell? ⟨g, i * 3 + 2, none⟩ = some (.int .i64 (r.en : Int)) := by
  have hlt := (List.getElem?_eq_some_iff.1 hi).1
  rcases id h.2 with ⟨-, h0⟩ | ⟨g, cap, cur, rfl, -⟩
  · omega
  · have c := fun j hj u hu => World.ownsRow.cells (g := g) h rfl (3 * i + j) u ((flat3 _ (fun _ => rfl) rs i j r hi hj).trans hu)
    simp only [Addr.add_lit, Nat.zero_add, Nat.mul_comm 3 i] at c
    exact ⟨g, cap, rfl, c 0 (by decide) _ rfl, c 1 (by decide) _ rfl, c 2 (by decide) _ rfl⟩
theorem OwnR.form {w : World} {base : Nat} {e : TypeId} {v : Value} {rs : List (Value × Value × Int)} (h : OwnR w base e v rs) : ∃ a c, v = .slice a rs.length c := by
  rcases h.2 with ⟨rfl, h0⟩ | ⟨g', c, cur, rfl, -⟩
  · exact ⟨_, _, by rw [h0]⟩
  · exact ⟨_, _, rfl⟩

end Go.Proofs.Ytijljdcpajjhhaa

/-! A record that came in, opened. -/
namespace Go.Proofs.Ytijljdcpajjhhaa
open Go.ChangeShapes Go.WideShapes Go.RowKit Sg
variable {H : Type} {enc : TypeId × Value → H} {w : World}

theorem rec_field {P : Program} {t : TypeId} {fs : Array Field} {cs : Array Value} {d : DataW H} {ps : List MemPlace} (ht : P.underlying t = some (.struct fs)) (h : DataW.Trod enc P w 0 (fun _ => true) true t (.agg cs) d ps)
    (i : Nat) (f : Field) (hf : fs[i]? = some f) (hc : P.cellsOf f.type = 1) (ho : f.offset = i) : ∃ (n : Nat) (x : DataW H × List MemPlace), DataW.trod enc P w 0 (fun _ => true) true n f.type ((cs.toList.drop i).take 1) = some x := by
  obtain ⟨fuel, hd⟩ := h
  obtain ⟨xs, n, -, -, -, hl, hall⟩ := DataW.trod_struct ht hd
  have h1 := hall i f hf
  have hi : i < xs.length := by rw [hl]; exact (Array.getElem?_eq_some_iff.1 hf).1
  rw [List.getElem?_eq_getElem hi, ho, hc] at h1
  exact ⟨n, _, h1⟩
theorem rec_get {cs : Array Value} {i : Nat} {u : Value} (h2 : (cs.toList.drop i).take 1 = [u]) : cs[i]? = some u := by
  have h4 := congrArg (fun l => l[0]?) h2
  simp [List.getElem?_drop] at h4
  exact h4

set_option maxRecDepth 100000 in
theorem rec_of {v : Value} {d : DataW H} {ps : List MemPlace} {r : Reach} {b : Nat} (hv : Value.okWide Try.prog w r b 108 v) (h : DataW.Trod enc Try.prog w 0 (fun _ => true) true 108 v d ps) :
    ∃ (k s : ByteArray) (e : Int), v = .agg #[.string k, .string s, .int .i64 e] ∧ -9223372036854775808 ≤ e ∧ e ≤ 9223372036854775807 := by
  obtain ⟨cs, rfl, hsz⟩ := okWide_struct Try.underlying108 hv
  have hsz' : cs.size = 3 := hsz.trans (by kernel_rfl)
  obtain ⟨m0, x0, h0⟩ := rec_field Try.underlying108 h 0 _ rfl (by kernel_rfl) rfl
  obtain ⟨m1, x1, h1⟩ := rec_field Try.underlying108 h 1 _ rfl (by kernel_rfl) rfl
  obtain ⟨m2, x2, h2⟩ := rec_field Try.underlying108 h 2 _ rfl (by kernel_rfl) rfl
  obtain ⟨k, e0, -, -⟩ := DataW.trod_string Try.underlying9 h0
  obtain ⟨s, e1, -, -⟩ := DataW.trod_string Try.underlying9 h1
  obtain ⟨n2, e2, -, hn⟩ := DataW.trod_int Try.underlying3 h2
  have g0 := rec_get e0
  have g1 := rec_get e1
  have g2 := rec_get e2
  have hi := i64_in hn
  refine ⟨k, s, n2, ?_, hi.1, hi.2⟩
  congr 1
  apply Array.ext_getElem?
  intro i
  by_cases hi : i < 3
  · rcases (by omega : i = 0 ∨ i = 1 ∨ i = 2) with rfl | rfl | rfl
    · exact g0
    · exact g1
    · exact g2
  · rw [Array.getElem?_eq_none (by omega), Array.getElem?_eq_none (by simp; omega)]
end Go.Proofs.Ytijljdcpajjhhaa

/-! Records of the document that came in. -/
namespace Go.Proofs.Ytijljdcpajjhhaa
open Go.ChangeShapes Go.WideShapes Go.ChangeAt Go.Deep Go.RowKit Sg
set_option linter.unusedSimpArgs false
set_option linter.unusedVariables false

/-- a record, as it came in -/
structure SRec where
  k : List UInt8
  v : List UInt8
  en : Int
def SRec.cells (a : SRec) : List Value := [.string ⟨a.k.toArray⟩, .string ⟨a.v.toArray⟩, .int .i64 a.en]
def SRecs (w : World) (v : Value) (l : List SRec) : Prop :=
  ∃ ao cap, v = .slice ao l.length cap ∧ l.length ≤ cap ∧ (cap ≤ 9223372036854775807 ∧ l.length ≤ 140737488355328) ∧ (ao = none → l = []) ∧ (∀ x ∈ l, -9223372036854775808 ≤ x.en ∧ x.en ≤ 9223372036854775807) ∧
    ∀ ad, ao = some ad → ∀ i (h : i < l.length) j v, l[i].cells[j]? = some v → w.cell? ((ad.add (i * 3)).add j) = some v
theorem SRecs.form {w : World} {v : Value} {l : List SRec} (h : SRecs w v l) : ∃ ao cap, v = .slice ao l.length cap ∧ l.length ≤ cap ∧ l.length ≤ 140737488355328 ∧ cap ≤ 9223372036854775807 := by
  obtain ⟨ao, cap, rfl, h1, h2, _⟩ := h
  exact ⟨ao, cap, rfl, h1, h2.2, h2.1⟩
theorem SRecs.spot {w : World} {ao : Option Addr} {n cap : Nat} {l : List SRec} (h : SRecs w (.slice ao n cap) l) {i : Nat} (hi : i < l.length) :
    ∃ b o, ao = some ⟨b, o, none⟩ ∧ ∀ w', Keep [] w w' → w'.cell? ⟨b, o + i * 3, none⟩ = some (.string ⟨l[i].k.toArray⟩) ∧ w'.cell? ⟨b, o + i * 3 + 1, none⟩ = some (.string ⟨l[i].v.toArray⟩) ∧ w'.cell? ⟨b, o + i * 3 + 2, none⟩ = some (.int .i64 l[i].en) := by
  obtain ⟨ao', cap', e, h1, h2, h3, h5, h4⟩ := h
  cases e
  cases ao with
  | none => rw [h3 rfl] at hi; simp at hi
  | some ad =>
    have h0 := h4 ad rfl 0 (by omega) 0 _ rfl
    rw [Nat.zero_mul, show (ad.add 0).add 0 = ad by simp [Addr.add]] at h0
    have hs : ad.spot = none := by
      cases hsp : ad.spot with
      | none => rfl
      | some x =>
        unfold World.cell? at h0
        split at h0
        · simp [hsp] at h0
        · cases h0
    obtain ⟨b, o, sp⟩ := ad
    simp only at hs
    subst hs
    refine ⟨b, o, rfl, fun w' hk => ?_⟩
    have g := fun j v hv => hk.cell (by simp) (h4 _ rfl i hi j v hv)
    simp only [Addr.add_lit] at g
    exact ⟨g 0 _ rfl, g 1 _ rfl, g 2 _ rfl⟩

section
variable {H : Type} {enc : TypeId × Value → H} {w : World}
set_option maxRecDepth 100000 in
theorem recs_of {v : Value} {d : DataW H} {ps : List MemPlace} (hv : ∃ a n c, v = .slice a n c) (h : DataW.Trod enc Try.prog w 0 (fun _ => true) true 106 v d ps) (hw : ∀ y ∈ d.weights Try.prog 106, y ≤ reachBytes) : ∃ l : List SRec, SRecs w v l := by
  obtain ⟨a0, n0, c0, rfl⟩ := hv
  obtain ⟨fuel, h⟩ := h
  rcases open_slice Try.underlying106 h with ⟨hcs0, _⟩ | ⟨a, n, c, m, n', D, Pl, hcs0, _, hl, hm, hm0, hx, hel⟩
  · simp [Value.cells] at hcs0
    obtain ⟨rfl, rfl, rfl⟩ := hcs0
    exact ⟨[], none, 0, rfl, by simp, ⟨by decide, by decide⟩, fun _ => rfl, by simp, fun _ h => by cases h⟩
  · simp [Value.cells] at hcs0
    obtain ⟨rfl, rfl, rfl⟩ := hcs0
    simp at hm0
    subst hm0
    have hd := congrArg (fun x => x.1) hx
    simp only at hd
    subst hd
    have hsz := hw _ (by simp only [DataW.weights, Try.underlying106]; exact List.mem_cons_self)
    rw [show Try.prog.bytesOf 108 = 40 by kernel_rfl] at hsz
    simp [reachBytes] at hsz
    simp [maxLen] at hm
    have each : ∀ i, i < n0 → ∃ p : SRec, (-9223372036854775808 ≤ p.en ∧ p.en ≤ 9223372036854775807) ∧ ∀ (j : Nat) (v : Value), p.cells[j]? = some v → w.cell? ((a.add (i * 3)).add j) = some v := by
      intro i hi
      obtain ⟨cs', h1, h2⟩ := hel i (by omega)
      rw [show Try.prog.cellsOf 108 = 3 by kernel_rfl] at h1
      have hw0 := fun y hy => hw y (by
        simp only [DataW.weights, Try.underlying106]
        exact List.mem_cons_of_mem _ (List.mem_append_left _ (weights_all_mem (List.mem_map.2 ⟨i, List.mem_range.2 hi, rfl⟩) y hy)))
      obtain ⟨m0, z0, f0, -⟩ := field_trod Try.underlying108 h2 hw0 0 _ rfl
      obtain ⟨m1, z1, f1, -⟩ := field_trod Try.underlying108 h2 hw0 1 _ rfl
      obtain ⟨m2, z2, f2, -⟩ := field_trod Try.underlying108 h2 hw0 2 _ rfl
      obtain ⟨k, e0, -, -⟩ := DataW.trod_string Try.underlying9 f0
      obtain ⟨s, e1, -, -⟩ := DataW.trod_string Try.underlying9 f1
      obtain ⟨n2, e2, -, hn⟩ := DataW.trod_int Try.underlying3 f2
      have c0 : cs'[0]? = _ := drop_one e0
      have c1 : cs'[1]? = _ := drop_one e1
      have c2 : cs'[2]? = _ := drop_one e2
      obtain ⟨-, hcl, hcc⟩ := World.cells?_some h1
      refine ⟨⟨k.data.toList, s.data.toList, n2⟩, i64_in hn, fun j v hv => ?_⟩
      have hj : j < 3 := (List.getElem?_eq_some_iff.1 hv).1
      refine (hcc j hj).trans ?_
      match j, hv with
      | 0, hv => exact c0.trans (by simpa [SRec.cells] using hv)
      | 1, hv => exact c1.trans (by simpa [SRec.cells] using hv)
      | 2, hv => exact c2.trans hv
    refine ⟨(List.range n0).attach.map fun i => Classical.choose (each i.1 (List.mem_range.1 i.2)), some a, m, by simp, by simp; omega, ⟨by omega, by simp; omega⟩, by simp, ?_, ?_⟩
    · intro x hx
      obtain ⟨i, -, rfl⟩ := List.mem_map.1 hx
      exact (Classical.choose_spec (each i.1 (List.mem_range.1 i.2))).1
    · intro ad e i hi j v hv
      cases e
      have hi' : i < n0 := by simpa using hi
      simp only [List.getElem_map, List.getElem_attach, List.getElem_range] at hv
      exact (Classical.choose_spec (each i hi')).2 j v hv
end
end Go.Proofs.Ytijljdcpajjhhaa
