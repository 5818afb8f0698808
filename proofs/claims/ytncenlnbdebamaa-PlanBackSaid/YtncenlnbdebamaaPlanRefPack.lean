import Derived.Test.YtncenlnbdebamaaPlanPack
import Derived.Test.YtncenlnbdebamaaRecRefPack
/-! The walk of the document's Pack of a plan. -/
namespace Go.Proofs.Ytncenlnbdebamaa
open Go.RowKit Sg
set_option linter.unusedSimpArgs false

set_option maxRecDepth 100000 in
set_option maxHeartbeats 1000000 in
set_option maxHeartbeats 4000000 in
theorem refPlanPack_any (p : Pl) (hs : p.seed < 18446744073709551616) (w : World) : Calls Try.prog 26 #[p.v] w fun e w' => ∃ v', e = .returned v' ∧ OwnB w' w.heap.size 5 v' p.pack ∧ Keep [] w w' := by
  have hpk : p.pack = pk 2 [p.reg, p.rs, p.lg, p.dep, p.mem] (pk 4 [p.sec, p.size] []) ++ le p.seed 8 := rfl
  obtain ⟨sec, size, reg, rs, lg, dep, mem, seed⟩ := p
  simp only [Pl.v] at *
  have HPK := Lib.hid hpk
  clear hpk
  have q_sec := un_wrap sec
  have q_size := un_wrap size
  have q_reg := un_wrap reg
  have q_rs := un_wrap rs
  have q_lg := un_wrap lg
  have q_dep := un_wrap dep
  have q_mem := un_wrap mem
  have hA0 := heap_alloc_new w (.cells #[.int .i64 sec, .int .i64 size, .int .i64 reg, .int .i64 rs, .int .i64 lg, .int .i64 dep, .int .i64 mem, .int .u64 (seed : Int)] 24)
  have hK0 := (Keep.refl [] w).alloc (.cells #[.int .i64 sec, .int .i64 size, .int .i64 reg, .int .i64 rs, .int .i64 lg, .int .i64 dep, .int .i64 mem, .int .u64 (seed : Int)] 24)
  have ho0 := OwnB.nil (w.alloc (.cells #[.int .i64 sec, .int .i64 size, .int .i64 reg, .int .i64 rs, .int .i64 lg, .int .i64 dep, .int .i64 mem, .int .u64 (seed : Int)] 24)) w.heap.size 5
  go_enter Try.func26, Try.ntmps26
  go_wp2_with fail
  refine (refNumber_any (un sec) 4 (un_lt sec) (by omega) _).mono ?_
  rintro x w1 ⟨n1, rfl, on1, k1⟩
  have hA1 := k1.blk (by simp) hA0
  have hK1 := hK0.trans k1
  have ho1 := ho0.keep k1 (by simp)
  clear hA0 hK0 ho0 k1
  go_wp2_with (refine wpList_append_bytes rfl (.tmp 4) (.tmp 8) 36 5 rfl w.heap.size Try.underlying36 (by kernel_rfl) rfl rfl ho1 (on1.bytes (by rw [le_len]; omega)) (by simp only [List.length_append, List.length_nil, le_len]; omega) hK1.size ?_)
  intro v2 w2 ho2 k2
  have hA2 := k2.blk (fun h => (ho1.ne_row hA1 (by decide)) (by simpa using h)) hA1
  have hK2 := own_grow ho1 hK1 k2
  clear hA1 hK1 ho1 on1 k2
  have g1 := cell_of_row w2 _ 1 _ _ _ hA2
  simp at g1
  go_wp2_with fail
  refine (refNumber_any (un size) 4 (un_lt size) (by omega) _).mono ?_
  rintro x w3 ⟨n3, rfl, on3, k3⟩
  have hA3 := k3.blk (by simp) hA2
  have hK3 := hK2.trans k3
  have ho3 := ho2.keep k3 (by simp)
  clear hA2 hK2 ho2 k3 g1
  go_wp2_with (refine wpList_append_bytes rfl (.tmp 10) (.tmp 14) 36 5 rfl w.heap.size Try.underlying36 (by kernel_rfl) rfl rfl ho3 (on3.bytes (by rw [le_len]; omega)) (by simp only [List.length_append, List.length_nil, le_len]; omega) hK3.size ?_)
  intro v4 w4 ho4 k4
  have hA4 := k4.blk (fun h => (ho3.ne_row hA3 (by decide)) (by simpa using h)) hA3
  have hK4 := own_grow ho3 hK3 k4
  clear hA3 hK3 ho3 on3 k4
  have g2 := cell_of_row w4 _ 2 _ _ _ hA4
  simp at g2
  go_wp2_with fail
  refine (refNumber_any (un reg) 2 (un_lt reg) (by omega) _).mono ?_
  rintro x w5 ⟨n5, rfl, on5, k5⟩
  have hA5 := k5.blk (by simp) hA4
  have hK5 := hK4.trans k5
  have ho5 := ho4.keep k5 (by simp)
  clear hA4 hK4 ho4 k5 g2
  go_wp2_with (refine wpList_append_bytes rfl (.tmp 16) (.tmp 20) 36 5 rfl w.heap.size Try.underlying36 (by kernel_rfl) rfl rfl ho5 (on5.bytes (by rw [le_len]; omega)) (by simp only [List.length_append, List.length_nil, le_len]; omega) hK5.size ?_)
  intro v6 w6 ho6 k6
  have hA6 := k6.blk (fun h => (ho5.ne_row hA5 (by decide)) (by simpa using h)) hA5
  have hK6 := own_grow ho5 hK5 k6
  clear hA5 hK5 ho5 on5 k6
  have g3 := cell_of_row w6 _ 3 _ _ _ hA6
  simp at g3
  go_wp2_with fail
  refine (refNumber_any (un rs) 2 (un_lt rs) (by omega) _).mono ?_
  rintro x w7 ⟨n7, rfl, on7, k7⟩
  have hA7 := k7.blk (by simp) hA6
  have hK7 := hK6.trans k7
  have ho7 := ho6.keep k7 (by simp)
  clear hA6 hK6 ho6 k7 g3
  go_wp2_with (refine wpList_append_bytes rfl (.tmp 22) (.tmp 26) 36 5 rfl w.heap.size Try.underlying36 (by kernel_rfl) rfl rfl ho7 (on7.bytes (by rw [le_len]; omega)) (by simp only [List.length_append, List.length_nil, le_len]; omega) hK7.size ?_)
  intro v8 w8 ho8 k8
  have hA8 := k8.blk (fun h => (ho7.ne_row hA7 (by decide)) (by simpa using h)) hA7
  have hK8 := own_grow ho7 hK7 k8
  clear hA7 hK7 ho7 on7 k8
  have g4 := cell_of_row w8 _ 4 _ _ _ hA8
  simp at g4
  go_wp2_with fail
  refine (refNumber_any (un lg) 2 (un_lt lg) (by omega) _).mono ?_
  rintro x w9 ⟨n9, rfl, on9, k9⟩
  have hA9 := k9.blk (by simp) hA8
  have hK9 := hK8.trans k9
  have ho9 := ho8.keep k9 (by simp)
  clear hA8 hK8 ho8 k9 g4
  go_wp2_with (refine wpList_append_bytes rfl (.tmp 28) (.tmp 32) 36 5 rfl w.heap.size Try.underlying36 (by kernel_rfl) rfl rfl ho9 (on9.bytes (by rw [le_len]; omega)) (by simp only [List.length_append, List.length_nil, le_len]; omega) hK9.size ?_)
  intro v10 w10 ho10 k10
  have hA10 := k10.blk (fun h => (ho9.ne_row hA9 (by decide)) (by simpa using h)) hA9
  have hK10 := own_grow ho9 hK9 k10
  clear hA9 hK9 ho9 on9 k10
  have g5 := cell_of_row w10 _ 5 _ _ _ hA10
  simp at g5
  go_wp2_with fail
  refine (refNumber_any (un dep) 2 (un_lt dep) (by omega) _).mono ?_
  rintro x w11 ⟨n11, rfl, on11, k11⟩
  have hA11 := k11.blk (by simp) hA10
  have hK11 := hK10.trans k11
  have ho11 := ho10.keep k11 (by simp)
  clear hA10 hK10 ho10 k11 g5
  go_wp2_with (refine wpList_append_bytes rfl (.tmp 34) (.tmp 38) 36 5 rfl w.heap.size Try.underlying36 (by kernel_rfl) rfl rfl ho11 (on11.bytes (by rw [le_len]; omega)) (by simp only [List.length_append, List.length_nil, le_len]; omega) hK11.size ?_)
  intro v12 w12 ho12 k12
  have hA12 := k12.blk (fun h => (ho11.ne_row hA11 (by decide)) (by simpa using h)) hA11
  have hK12 := own_grow ho11 hK11 k12
  clear hA11 hK11 ho11 on11 k12
  have g6 := cell_of_row w12 _ 6 _ _ _ hA12
  simp at g6
  go_wp2_with fail
  refine (refNumber_any (un mem) 2 (un_lt mem) (by omega) _).mono ?_
  rintro x w13 ⟨n13, rfl, on13, k13⟩
  have hA13 := k13.blk (by simp) hA12
  have hK13 := hK12.trans k13
  have ho13 := ho12.keep k13 (by simp)
  clear hA12 hK12 ho12 k13 g6
  go_wp2_with (refine wpList_append_bytes rfl (.tmp 40) (.tmp 44) 36 5 rfl w.heap.size Try.underlying36 (by kernel_rfl) rfl rfl ho13 (on13.bytes (by rw [le_len]; omega)) (by simp only [List.length_append, List.length_nil, le_len]; omega) hK13.size ?_)
  intro v14 w14 ho14 k14
  have hA14 := k14.blk (fun h => (ho13.ne_row hA13 (by decide)) (by simpa using h)) hA13
  have hK14 := own_grow ho13 hK13 k14
  clear hA13 hK13 ho13 on13 k14
  have g7 := cell_of_row w14 _ 7 _ _ _ hA14
  simp at g7
  go_wp2_with fail
  refine (refNumber_any seed 8 hs (by omega) _).mono ?_
  rintro x w15 ⟨n15, rfl, on15, k15⟩
  have hA15 := k15.blk (by simp) hA14
  have hK15 := hK14.trans k15
  have ho15 := ho14.keep k15 (by simp)
  clear hA14 hK14 ho14 k15 g7
  go_wp2_with (refine wpList_append_bytes rfl (.tmp 46) (.tmp 49) 36 5 rfl w.heap.size Try.underlying36 (by kernel_rfl) rfl rfl ho15 (on15.bytes (by rw [le_len]; omega)) (by simp only [List.length_append, List.length_nil, le_len]; omega) hK15.size ?_)
  intro v16 w16 ho16 k16
  have hA16 := k16.blk (fun h => (ho15.ne_row hA15 (by decide)) (by simpa using h)) hA15
  have hK16 := own_grow ho15 hK15 k16
  clear hA15 hK15 ho15 on15 k16
  go_wp2_with fail
  go_ret
  refine ⟨_, rfl, ?_, hK16⟩
  rw [HPK.out]
  show OwnB w16 w.heap.size 5 v16 _
  simpa [pk] using ho16
end Go.Proofs.Ytncenlnbdebamaa
