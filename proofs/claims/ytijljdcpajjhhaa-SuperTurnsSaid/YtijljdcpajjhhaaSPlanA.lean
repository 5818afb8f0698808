import Derived.Test.YtijljdcpajjhhaaGen
import Derived.Test.YtijljdcpajjhhaaPlan
/-! The walks of plan's Pack and of the document's. -/
namespace Go.Proofs.Ytijljdcpajjhhaa
open Go.RowKit Sg
set_option linter.unusedSimpArgs false
set_option linter.unusedVariables false


/-- numbers one behind the other -/
def pk (b : Nat) : List Int → List UInt8 → List UInt8
  | [], xs => xs
  | n :: ns, xs => pk b ns (xs ++ le (un n) b)
theorem pk_snoc (b : Nat) (n : Int) : ∀ (ns : List Int) (xs : List UInt8), pk b (ns ++ [n]) xs = pk b ns xs ++ le (un n) b
  | [], _ => rfl
  | _ :: ns, _ => pk_snoc b n ns _
theorem pk_len (b : Nat) : ∀ (ns : List Int) (xs : List UInt8), (pk b ns xs).length = xs.length + ns.length * b
  | [], xs => by simp [pk]
  | n :: ns, xs => by
    rw [pk, pk_len b ns]
    simp only [List.length_append, le_len, List.length_cons, Nat.succ_mul]
    omega
def Pl.pack (p : Pl) : List UInt8 := pk 2 [p.reg, p.rs, p.lg, p.dep, p.mem] (pk 4 [p.sec, p.size] []) ++ le p.seed 8
theorem Pl.pack_len (p : Pl) : p.pack.length = 26 := by simp [Pl.pack, pk_len, le_len]

theorem index2 (a b : Int) (k : Nat) (hk : k < 2) : ∀ w, Sem.run Try.prog (Instr.index 244 (.agg #[.int .i64 a, .int .i64 b]) (.int .i64 (k : Int))) w = .ok (.int .i64 ([a, b].getD k 0)) w := by
  rcases (by omega : k = 0 ∨ k = 1) with rfl | rfl <;> intro w <;> kernel_rfl
theorem index5 (a b c d e : Int) (k : Nat) (hk : k < 5) : ∀ w, Sem.run Try.prog (Instr.index 245 (.agg #[.int .i64 a, .int .i64 b, .int .i64 c, .int .i64 d, .int .i64 e]) (.int .i64 (k : Int))) w = .ok (.int .i64 ([a, b, c, d, e].getD k 0)) w := by
  rcases (by omega : k = 0 ∨ k = 1 ∨ k = 2 ∨ k = 3 ∨ k = 4) with rfl | rfl | rfl | rfl | rfl <;> intro w <;> kernel_rfl

set_option maxRecDepth 100000 in
set_option maxHeartbeats 1000000 in
set_option maxHeartbeats 4000000 in
theorem planPack_any (p : Pl) (hs : p.seed < 18446744073709551616) (w : World) : Calls Try.prog 109 #[p.v] w fun e w' => ∃ v', e = .returned v' ∧ OwnB w' w.heap.size 5 v' p.pack ∧ Keep [] w w' := by
  have hI2 := index2 p.sec p.size
  have hI5 := index5 p.reg p.rs p.lg p.dep p.mem
  have hpk : p.pack = pk 2 [p.reg, p.rs, p.lg, p.dep, p.mem] (pk 4 [p.sec, p.size] []) ++ le p.seed 8 := rfl
  obtain ⟨sec, size, reg, rs, lg, dep, mem, seed⟩ := p
  simp only [Pl.v] at *
  have HI2 := Lib.hid hI2
  have HI5 := Lib.hid hI5
  have HPK := Lib.hid hpk
  clear hI2 hI5 hpk
  go_enter Try.func109, Try.ntmps109
  go_wp2_with fail
  refine (newWriter_any 26 (by omega) _).mono ?_
  rintro x w1 ⟨g, rfl, s1⟩
  have hA := heap_alloc_new w (.cells #[.int .i64 sec, .int .i64 size, .int .i64 reg, .int .i64 rs, .int .i64 lg, .int .i64 dep, .int .i64 mem, .int .u64 (seed : Int)] 60)
  have hA1 := s1.1.blk (by simp) hA
  have g0 := cell_of_row w1 _ 0 _ _ _ hA1
  have g1 := cell_of_row w1 _ 1 _ _ _ hA1
  simp at g0 g1
  go_wp2_with fail
  go_loopw [14] (fun i wr => ∃ k : Nat, k ≤ 2 ∧ i = .int .i64 k ∧ WS (w.alloc (.cells #[.int .i64 sec, .int .i64 size, .int .i64 reg, .int .i64 rs, .int .i64 lg, .int .i64 dep, .int .i64 mem, .int .u64 (seed : Int)] 60)) wr g 26 (pk 4 ([sec, size].take k) [])) (fun i _ => 2 - (intOf i).toNat)
  case atStart => exact ⟨0, by omega, rfl, s1⟩
  case round =>
    obtain ⟨k, hk, rfl, sk⟩ := hrel
    by_cases hlt : k < 2
    · have hi := HI2.out k hlt
      obtain ⟨n, hn⟩ : ∃ n, [sec, size].getD k 0 = n := ⟨_, rfl⟩
      rw [hn] at hi
      have hq := un_wrap n
      have hnext : Hid (pk 4 ([sec, size].take k) [] ++ le (un n) 4 = pk 4 ([sec, size].take (k + 1)) []) := by
        show _ = _
        rw [List.take_succ_eq_append_getElem (by simpa using hlt), pk_snoc]
        congr 3
        rw [← hn]
        simp [List.getD_eq_getElem?_getD, hlt]
      have hlen : (pk 4 ([sec, size].take k) []).length + 4 ≤ 26 := by rw [pk_len, List.length_take]; simp; omega
      clear hn
      generalize pk 4 ([sec, size].take k) [] = xs at sk hnext hlen
      have hlt' : (k : Int) < 2 := by omega
      go_wp2_with fail
      refine (putNumber_any _ g 26 xs (un n) 4 (un_lt n) (by omega) _ sk hlen).mono ?_
      rintro x w2 ⟨rfl, s2⟩
      rw [hnext.out] at s2
      go_wp2_with fail
      go_roundw
      case rel => exact ⟨k + 1, by omega, by go_num, s2⟩
      case measure => simp [intOf]; omega
    · have htk : [sec, size].take k = [sec, size] := List.take_of_length_le (by simp; omega)
      rw [htk] at sk
      clear htk
      have hA2 := sk.1.blk (by simp) hA
      have g2 := cell_of_row wr _ 2 _ _ _ hA2
      have g3 := cell_of_row wr _ 3 _ _ _ hA2
      have g4 := cell_of_row wr _ 4 _ _ _ hA2
      have g5 := cell_of_row wr _ 5 _ _ _ hA2
      have g6 := cell_of_row wr _ 6 _ _ _ hA2
      simp at g2 g3 g4 g5 g6
      go_wp2_with fail
      go_loopw [33] (fun i wr => ∃ k : Nat, k ≤ 5 ∧ i = .int .i64 k ∧ WS (w.alloc (.cells #[.int .i64 sec, .int .i64 size, .int .i64 reg, .int .i64 rs, .int .i64 lg, .int .i64 dep, .int .i64 mem, .int .u64 (seed : Int)] 60)) wr g 26 (pk 2 ([reg, rs, lg, dep, mem].take k) (pk 4 [sec, size] []))) (fun i _ => 5 - (intOf i).toNat)
      case atStart => exact ⟨0, by omega, rfl, sk⟩
      case round =>
        obtain ⟨k, hk, rfl, sk⟩ := hrel
        by_cases hlt : k < 5
        · have hi := HI5.out k hlt
          obtain ⟨n, hn⟩ : ∃ n, [reg, rs, lg, dep, mem].getD k 0 = n := ⟨_, rfl⟩
          rw [hn] at hi
          have hq := un_wrap n
          have hnext : Hid (pk 2 ([reg, rs, lg, dep, mem].take k) (pk 4 [sec, size] []) ++ le (un n) 2 = pk 2 ([reg, rs, lg, dep, mem].take (k + 1)) (pk 4 [sec, size] [])) := by
            show _ = _
            rw [List.take_succ_eq_append_getElem (by simpa using hlt), pk_snoc]
            congr 3
            rw [← hn]
            simp [List.getD_eq_getElem?_getD, hlt]
          have hlen : (pk 2 ([reg, rs, lg, dep, mem].take k) (pk 4 [sec, size] [])).length + 2 ≤ 26 := by rw [pk_len, pk_len, List.length_take]; simp; omega
          clear hn
          generalize pk 2 ([reg, rs, lg, dep, mem].take k) (pk 4 [sec, size] []) = xs at sk hnext hlen
          have hlt' : (k : Int) < 5 := by omega
          go_wp2_with fail
          refine (putNumber_any _ g 26 xs (un n) 2 (un_lt n) (by omega) _ sk hlen).mono ?_
          rintro x w2 ⟨rfl, s2⟩
          rw [hnext.out] at s2
          go_wp2_with fail
          go_roundw
          case rel => exact ⟨k + 1, by omega, by go_num, s2⟩
          case measure => simp [intOf]; omega
        · obtain rfl : k = 5 := by omega
          have hA2 := sk.1.blk (by simp) hA
          have g7 := cell_of_row _ _ 7 _ _ _ hA2
          simp at g7
          go_wp2_with fail
          refine (putNumber_any _ g 26 _ seed 8 hs (by omega) _ sk (by rw [pk_len, pk_len]; simp)).mono ?_
          rintro x w2 ⟨rfl, s2⟩
          go_wp2_with fail
          refine (wbytes_any _ g 26 _ _ s2).mono ?_
          rintro x w3 ⟨v', rfl, ho, hk3, hk3'⟩
          go_wp2_with fail
          go_ret
          refine ⟨v', rfl, ?_, ((Keep.refl [] w).alloc _).trans hk3⟩
          rw [HPK.out]
          exact ho.base (((Keep.refl [] w).alloc _).trans s2.1).size


set_option maxRecDepth 100000 in
set_option maxHeartbeats 1000000 in
set_option maxHeartbeats 4000000 in
theorem refPlanPack_any (p : Pl) (hs : p.seed < 18446744073709551616) (w : World) : Calls Try.prog 112 #[p.v] w fun e w' => ∃ v', e = .returned v' ∧ OwnB w' w.heap.size 5 v' p.pack ∧ Keep [] w w' := by
  have hpk : p.pack = pk 2 [p.reg, p.rs, p.lg, p.dep, p.mem] (pk 4 [p.sec, p.size] []) ++ le p.seed 8 := rfl
  obtain ⟨sec, size, reg, rs, lg, dep, mem, seed⟩ := p
  simp only [Pl.v] at *
  have HPK := Lib.hid hpk
  clear hpk
  have q_sec := un_wrap sec
  have q_size := un_wrap size
  have q_reg := un_wrap reg
  have q_rs := un_wrap rs
  have q_lg := un_wrap lg
  have q_dep := un_wrap dep
  have q_mem := un_wrap mem
  have hA0 := heap_alloc_new w (.cells #[.int .i64 sec, .int .i64 size, .int .i64 reg, .int .i64 rs, .int .i64 lg, .int .i64 dep, .int .i64 mem, .int .u64 (seed : Int)] 116)
  have hK0 := (Keep.refl [] w).alloc (.cells #[.int .i64 sec, .int .i64 size, .int .i64 reg, .int .i64 rs, .int .i64 lg, .int .i64 dep, .int .i64 mem, .int .u64 (seed : Int)] 116)
  have ho0 := OwnB.nil (w.alloc (.cells #[.int .i64 sec, .int .i64 size, .int .i64 reg, .int .i64 rs, .int .i64 lg, .int .i64 dep, .int .i64 mem, .int .u64 (seed : Int)] 116)) w.heap.size 5
  go_enter Try.func112, Try.ntmps112
  go_wp2_with fail
  refine (refNumber_any (un sec) 4 (un_lt sec) (by omega) _).mono ?_
  rintro x w1 ⟨n1, rfl, on1, k1⟩
  have hA1 := k1.blk (by simp) hA0
  have hK1 := hK0.trans k1
  have ho1 := ho0.keep k1 (by simp)
  clear hA0 hK0 ho0 k1
  go_wp2_with (refine wpList_append_bytes rfl (.tmp 4) (.tmp 8) 30 5 rfl w.heap.size Try.underlying30 (by kernel_rfl) rfl rfl ho1 (on1.bytes (by rw [le_len]; omega)) (by simp only [List.length_append, List.length_nil, le_len]; omega) hK1.size ?_)
  intro v2 w2 ho2 k2
  have hA2 := k2.blk (fun h => (ho1.ne_row hA1 (by decide)) (by simpa using h)) hA1
  have hK2 := own_grow ho1 hK1 k2
  clear hA1 hK1 ho1 on1 k2
  have g1 := cell_of_row w2 _ 1 _ _ _ hA2
  simp at g1
  go_wp2_with fail
  refine (refNumber_any (un size) 4 (un_lt size) (by omega) _).mono ?_
  rintro x w3 ⟨n3, rfl, on3, k3⟩
  have hA3 := k3.blk (by simp) hA2
  have hK3 := hK2.trans k3
  have ho3 := ho2.keep k3 (by simp)
  clear hA2 hK2 ho2 k3 g1
  go_wp2_with (refine wpList_append_bytes rfl (.tmp 10) (.tmp 14) 30 5 rfl w.heap.size Try.underlying30 (by kernel_rfl) rfl rfl ho3 (on3.bytes (by rw [le_len]; omega)) (by simp only [List.length_append, List.length_nil, le_len]; omega) hK3.size ?_)
  intro v4 w4 ho4 k4
  have hA4 := k4.blk (fun h => (ho3.ne_row hA3 (by decide)) (by simpa using h)) hA3
  have hK4 := own_grow ho3 hK3 k4
  clear hA3 hK3 ho3 on3 k4
  have g2 := cell_of_row w4 _ 2 _ _ _ hA4
  simp at g2
  go_wp2_with fail
  refine (refNumber_any (un reg) 2 (un_lt reg) (by omega) _).mono ?_
  rintro x w5 ⟨n5, rfl, on5, k5⟩
  have hA5 := k5.blk (by simp) hA4
  have hK5 := hK4.trans k5
  have ho5 := ho4.keep k5 (by simp)
  clear hA4 hK4 ho4 k5 g2
  go_wp2_with (refine wpList_append_bytes rfl (.tmp 16) (.tmp 20) 30 5 rfl w.heap.size Try.underlying30 (by kernel_rfl) rfl rfl ho5 (on5.bytes (by rw [le_len]; omega)) (by simp only [List.length_append, List.length_nil, le_len]; omega) hK5.size ?_)
  intro v6 w6 ho6 k6
  have hA6 := k6.blk (fun h => (ho5.ne_row hA5 (by decide)) (by simpa using h)) hA5
  have hK6 := own_grow ho5 hK5 k6
  clear hA5 hK5 ho5 on5 k6
  have g3 := cell_of_row w6 _ 3 _ _ _ hA6
  simp at g3
  go_wp2_with fail
  refine (refNumber_any (un rs) 2 (un_lt rs) (by omega) _).mono ?_
  rintro x w7 ⟨n7, rfl, on7, k7⟩
  have hA7 := k7.blk (by simp) hA6
  have hK7 := hK6.trans k7
  have ho7 := ho6.keep k7 (by simp)
  clear hA6 hK6 ho6 k7 g3
  go_wp2_with (refine wpList_append_bytes rfl (.tmp 22) (.tmp 26) 30 5 rfl w.heap.size Try.underlying30 (by kernel_rfl) rfl rfl ho7 (on7.bytes (by rw [le_len]; omega)) (by simp only [List.length_append, List.length_nil, le_len]; omega) hK7.size ?_)
  intro v8 w8 ho8 k8
  have hA8 := k8.blk (fun h => (ho7.ne_row hA7 (by decide)) (by simpa using h)) hA7
  have hK8 := own_grow ho7 hK7 k8
  clear hA7 hK7 ho7 on7 k8
  have g4 := cell_of_row w8 _ 4 _ _ _ hA8
  simp at g4
  go_wp2_with fail
  refine (refNumber_any (un lg) 2 (un_lt lg) (by omega) _).mono ?_
  rintro x w9 ⟨n9, rfl, on9, k9⟩
  have hA9 := k9.blk (by simp) hA8
  have hK9 := hK8.trans k9
  have ho9 := ho8.keep k9 (by simp)
  clear hA8 hK8 ho8 k9 g4
  go_wp2_with (refine wpList_append_bytes rfl (.tmp 28) (.tmp 32) 30 5 rfl w.heap.size Try.underlying30 (by kernel_rfl) rfl rfl ho9 (on9.bytes (by rw [le_len]; omega)) (by simp only [List.length_append, List.length_nil, le_len]; omega) hK9.size ?_)
  intro v10 w10 ho10 k10
  have hA10 := k10.blk (fun h => (ho9.ne_row hA9 (by decide)) (by simpa using h)) hA9
  have hK10 := own_grow ho9 hK9 k10
  clear hA9 hK9 ho9 on9 k10
  have g5 := cell_of_row w10 _ 5 _ _ _ hA10
  simp at g5
  go_wp2_with fail
  refine (refNumber_any (un dep) 2 (un_lt dep) (by omega) _).mono ?_
  rintro x w11 ⟨n11, rfl, on11, k11⟩
  have hA11 := k11.blk (by simp) hA10
  have hK11 := hK10.trans k11
  have ho11 := ho10.keep k11 (by simp)
  clear hA10 hK10 ho10 k11 g5
  go_wp2_with (refine wpList_append_bytes rfl (.tmp 34) (.tmp 38) 30 5 rfl w.heap.size Try.underlying30 (by kernel_rfl) rfl rfl ho11 (on11.bytes (by rw [le_len]; omega)) (by simp only [List.length_append, List.length_nil, le_len]; omega) hK11.size ?_)
  intro v12 w12 ho12 k12
  have hA12 := k12.blk (fun h => (ho11.ne_row hA11 (by decide)) (by simpa using h)) hA11
  have hK12 := own_grow ho11 hK11 k12
  clear hA11 hK11 ho11 on11 k12
  have g6 := cell_of_row w12 _ 6 _ _ _ hA12
  simp at g6
  go_wp2_with fail
  refine (refNumber_any (un mem) 2 (un_lt mem) (by omega) _).mono ?_
  rintro x w13 ⟨n13, rfl, on13, k13⟩
  have hA13 := k13.blk (by simp) hA12
  have hK13 := hK12.trans k13
  have ho13 := ho12.keep k13 (by simp)
  clear hA12 hK12 ho12 k13 g6
  go_wp2_with (refine wpList_append_bytes rfl (.tmp 40) (.tmp 44) 30 5 rfl w.heap.size Try.underlying30 (by kernel_rfl) rfl rfl ho13 (on13.bytes (by rw [le_len]; omega)) (by simp only [List.length_append, List.length_nil, le_len]; omega) hK13.size ?_)
  intro v14 w14 ho14 k14
  have hA14 := k14.blk (fun h => (ho13.ne_row hA13 (by decide)) (by simpa using h)) hA13
  have hK14 := own_grow ho13 hK13 k14
  clear hA13 hK13 ho13 on13 k14
  have g7 := cell_of_row w14 _ 7 _ _ _ hA14
  simp at g7
  go_wp2_with fail
  refine (refNumber_any seed 8 hs (by omega) _).mono ?_
  rintro x w15 ⟨n15, rfl, on15, k15⟩
  have hA15 := k15.blk (by simp) hA14
  have hK15 := hK14.trans k15
  have ho15 := ho14.keep k15 (by simp)
  clear hA14 hK14 ho14 k15 g7
  go_wp2_with (refine wpList_append_bytes rfl (.tmp 46) (.tmp 49) 30 5 rfl w.heap.size Try.underlying30 (by kernel_rfl) rfl rfl ho15 (on15.bytes (by rw [le_len]; omega)) (by simp only [List.length_append, List.length_nil, le_len]; omega) hK15.size ?_)
  intro v16 w16 ho16 k16
  have hA16 := k16.blk (fun h => (ho15.ne_row hA15 (by decide)) (by simpa using h)) hA15
  have hK16 := own_grow ho15 hK15 k16
  clear hA15 hK15 ho15 on15 k16
  go_wp2_with fail
  go_ret
  refine ⟨_, rfl, ?_, hK16⟩
  rw [HPK.out]
  show OwnB w16 w.heap.size 5 v16 _
  simpa [pk] using ho16

end Go.Proofs.Ytijljdcpajjhhaa
