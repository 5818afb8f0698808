import Derived.Test.YtncenlnbdebamaaWire
import Derived.Test.YtncenlnbdebamaaPlanBounds
/-! The walk of plan's Pack. -/
namespace Go.Proofs.Ytncenlnbdebamaa
open Go.RowKit Sg

/-- uint64(n) -/
def un (n : Int) : Nat := (n % 18446744073709551616).toNat
theorem un_lt (n : Int) : un n < 18446744073709551616 := by unfold un; omega
theorem un_wrap (n : Int) : IntKind.u64.wrap n = (un n : Int) := by rw [u64_wrap]; unfold un; omega
/-- numbers one behind the other -/
def pk (b : Nat) : List Int → List UInt8 → List UInt8
  | [], xs => xs
  | n :: ns, xs => pk b ns (xs ++ le (un n) b)
theorem pk_snoc (b : Nat) (n : Int) : ∀ (ns : List Int) (xs : List UInt8), pk b (ns ++ [n]) xs = pk b ns xs ++ le (un n) b
  | [], _ => rfl
  | _ :: ns, _ => pk_snoc b n ns _
theorem pk_len (b : Nat) : ∀ (ns : List Int) (xs : List UInt8), (pk b ns xs).length = xs.length + ns.length * b
  | [], xs => by simp [pk]
  | n :: ns, xs => by
    rw [pk, pk_len b ns]
    simp only [List.length_append, le_len, List.length_cons, Nat.succ_mul]
    omega
def Pl.pack (p : Pl) : List UInt8 := pk 2 [p.reg, p.rs, p.lg, p.dep, p.mem] (pk 4 [p.sec, p.size] []) ++ le p.seed 8
theorem Pl.pack_len (p : Pl) : p.pack.length = 26 := by simp [Pl.pack, pk_len, le_len]

theorem index2 (a b : Int) (k : Nat) (hk : k < 2) : ∀ w, Sem.run Try.prog (Instr.index 85 (.agg #[.int .i64 a, .int .i64 b]) (.int .i64 (k : Int))) w = .ok (.int .i64 ([a, b].getD k 0)) w := by
  rcases (by omega : k = 0 ∨ k = 1) with rfl | rfl <;> intro w <;> kernel_rfl
theorem index5 (a b c d e : Int) (k : Nat) (hk : k < 5) : ∀ w, Sem.run Try.prog (Instr.index 86 (.agg #[.int .i64 a, .int .i64 b, .int .i64 c, .int .i64 d, .int .i64 e]) (.int .i64 (k : Int))) w = .ok (.int .i64 ([a, b, c, d, e].getD k 0)) w := by
  rcases (by omega : k = 0 ∨ k = 1 ∨ k = 2 ∨ k = 3 ∨ k = 4) with rfl | rfl | rfl | rfl | rfl <;> intro w <;> kernel_rfl

set_option maxRecDepth 100000 in
set_option maxHeartbeats 1000000 in
set_option maxHeartbeats 4000000 in
theorem planPack_any (p : Pl) (hs : p.seed < 18446744073709551616) (w : World) : Calls Try.prog 25 #[p.v] w fun e w' => ∃ v', e = .returned v' ∧ OwnB w' w.heap.size 5 v' p.pack ∧ Keep [] w w' := by
  have hI2 := index2 p.sec p.size
  have hI5 := index5 p.reg p.rs p.lg p.dep p.mem
  have hpk : p.pack = pk 2 [p.reg, p.rs, p.lg, p.dep, p.mem] (pk 4 [p.sec, p.size] []) ++ le p.seed 8 := rfl
  obtain ⟨sec, size, reg, rs, lg, dep, mem, seed⟩ := p
  simp only [Pl.v] at *
  have HI2 := Lib.hid hI2
  have HI5 := Lib.hid hI5
  have HPK := Lib.hid hpk
  clear hI2 hI5 hpk
  go_enter Try.func25, Try.ntmps25
  go_wp2_with fail
  refine (newWriter_any 26 (by omega) _).mono ?_
  rintro x w1 ⟨g, rfl, s1⟩
  have hA := heap_alloc_new w (.cells #[.int .i64 sec, .int .i64 size, .int .i64 reg, .int .i64 rs, .int .i64 lg, .int .i64 dep, .int .i64 mem, .int .u64 (seed : Int)] 30)
  have hA1 := s1.1.blk (by simp) hA
  have g0 := cell_of_row w1 _ 0 _ _ _ hA1
  have g1 := cell_of_row w1 _ 1 _ _ _ hA1
  simp at g0 g1
  go_wp2_with fail
  go_loopw [14] (fun i wr => ∃ k : Nat, k ≤ 2 ∧ i = .int .i64 k ∧ WS (w.alloc (.cells #[.int .i64 sec, .int .i64 size, .int .i64 reg, .int .i64 rs, .int .i64 lg, .int .i64 dep, .int .i64 mem, .int .u64 (seed : Int)] 30)) wr g 26 (pk 4 ([sec, size].take k) [])) (fun i _ => 2 - (intOf i).toNat)
  case atStart => exact ⟨0, by omega, rfl, s1⟩
  case round =>
    obtain ⟨k, hk, rfl, sk⟩ := hrel
    by_cases hlt : k < 2
    · have hi := HI2.out k hlt
      obtain ⟨n, hn⟩ : ∃ n, [sec, size].getD k 0 = n := ⟨_, rfl⟩
      rw [hn] at hi
      have hq := un_wrap n
      have hnext : Hid (pk 4 ([sec, size].take k) [] ++ le (un n) 4 = pk 4 ([sec, size].take (k + 1)) []) := by
        show _ = _
        rw [List.take_succ_eq_append_getElem (by simpa using hlt), pk_snoc]
        congr 3
        rw [← hn]
        simp [List.getD_eq_getElem?_getD, hlt]
      have hlen : (pk 4 ([sec, size].take k) []).length + 4 ≤ 26 := by rw [pk_len, List.length_take]; simp; omega
      clear hn
      generalize pk 4 ([sec, size].take k) [] = xs at sk hnext hlen
      have hlt' : (k : Int) < 2 := by omega
      go_wp2_with fail
      refine (putNumber_any _ g 26 xs (un n) 4 (un_lt n) (by omega) _ sk hlen).mono ?_
      rintro x w2 ⟨rfl, s2⟩
      rw [hnext.out] at s2
      go_wp2_with fail
      go_roundw
      case rel => exact ⟨k + 1, by omega, by go_num, s2⟩
      case measure => simp [intOf]; omega
    · have htk : [sec, size].take k = [sec, size] := List.take_of_length_le (by simp; omega)
      rw [htk] at sk
      clear htk
      have hA2 := sk.1.blk (by simp) hA
      have g2 := cell_of_row wr _ 2 _ _ _ hA2
      have g3 := cell_of_row wr _ 3 _ _ _ hA2
      have g4 := cell_of_row wr _ 4 _ _ _ hA2
      have g5 := cell_of_row wr _ 5 _ _ _ hA2
      have g6 := cell_of_row wr _ 6 _ _ _ hA2
      simp at g2 g3 g4 g5 g6
      go_wp2_with fail
      go_loopw [33] (fun i wr => ∃ k : Nat, k ≤ 5 ∧ i = .int .i64 k ∧ WS (w.alloc (.cells #[.int .i64 sec, .int .i64 size, .int .i64 reg, .int .i64 rs, .int .i64 lg, .int .i64 dep, .int .i64 mem, .int .u64 (seed : Int)] 30)) wr g 26 (pk 2 ([reg, rs, lg, dep, mem].take k) (pk 4 [sec, size] []))) (fun i _ => 5 - (intOf i).toNat)
      case atStart => exact ⟨0, by omega, rfl, sk⟩
      case round =>
        obtain ⟨k, hk, rfl, sk⟩ := hrel
        by_cases hlt : k < 5
        · have hi := HI5.out k hlt
          obtain ⟨n, hn⟩ : ∃ n, [reg, rs, lg, dep, mem].getD k 0 = n := ⟨_, rfl⟩
          rw [hn] at hi
          have hq := un_wrap n
          have hnext : Hid (pk 2 ([reg, rs, lg, dep, mem].take k) (pk 4 [sec, size] []) ++ le (un n) 2 = pk 2 ([reg, rs, lg, dep, mem].take (k + 1)) (pk 4 [sec, size] [])) := by
            show _ = _
            rw [List.take_succ_eq_append_getElem (by simpa using hlt), pk_snoc]
            congr 3
            rw [← hn]
            simp [List.getD_eq_getElem?_getD, hlt]
          have hlen : (pk 2 ([reg, rs, lg, dep, mem].take k) (pk 4 [sec, size] [])).length + 2 ≤ 26 := by rw [pk_len, pk_len, List.length_take]; simp; omega
          clear hn
          generalize pk 2 ([reg, rs, lg, dep, mem].take k) (pk 4 [sec, size] []) = xs at sk hnext hlen
          have hlt' : (k : Int) < 5 := by omega
          go_wp2_with fail
          refine (putNumber_any _ g 26 xs (un n) 2 (un_lt n) (by omega) _ sk hlen).mono ?_
          rintro x w2 ⟨rfl, s2⟩
          rw [hnext.out] at s2
          go_wp2_with fail
          go_roundw
          case rel => exact ⟨k + 1, by omega, by go_num, s2⟩
          case measure => simp [intOf]; omega
        · obtain rfl : k = 5 := by omega
          have hA2 := sk.1.blk (by simp) hA
          have g7 := cell_of_row _ _ 7 _ _ _ hA2
          simp at g7
          go_wp2_with fail
          refine (putNumber_any _ g 26 _ seed 8 hs (by omega) _ sk (by rw [pk_len, pk_len]; simp)).mono ?_
          rintro x w2 ⟨rfl, s2⟩
          go_wp2_with fail
          refine (wbytes_any _ g 26 _ _ s2).mono ?_
          rintro x w3 ⟨v', rfl, ho, hk3, hk3'⟩
          go_wp2_with fail
          go_ret
          refine ⟨v', rfl, ?_, ((Keep.refl [] w).alloc _).trans hk3⟩
          rw [HPK.out]
          exact ho.base (((Keep.refl [] w).alloc _).trans s2.1).size
end Go.Proofs.Ytncenlnbdebamaa
