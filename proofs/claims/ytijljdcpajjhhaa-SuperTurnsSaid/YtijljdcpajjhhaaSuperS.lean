import Derived.Test.YtijljdcpajjhhaaSuper2
import Derived.Shelf.SlSortCmp.InsertionK
/-! The sort of heads: slices.SortFunc at two heads or fewer. -/
namespace Go.Proofs.Ytijljdcpajjhhaa
open Go.RowKit Go.Shelf Sg Go.Sort Go.Proofs
attribute [local go_sem] Oper.semAt_some
set_option linter.unusedSimpArgs false
set_option linter.unusedVariables false

instance : Inhabited Hd := ⟨hd0⟩
def henc (h : Hd) : List Value := h.cells.toList
theorem henc_len (h : Hd) : (henc h).length = 15 := rfl
theorem henc_one (h : Hd) : ∀ v ∈ henc h, v.oneCell' = true := by
  intro v hv
  simp [henc, Hd.cells] at hv
  rcases hv with rfl | rfl | rfl | rfl | rfl | rfl | rfl | rfl | rfl | rfl | rfl | rfl | rfl | rfl | rfl <;> rfl
/-- cmp.Compare(by(b), by(a)) -/
def hcmp (a b : Hd) : Int := if b.gen < a.gen then -1 else if a.gen < b.gen then 1 else 0
def hren : Ren := ⟨fun n => match n with
  | 20 => 161
  | n => n, fun n => match n with
  | 22 => 135
  | 24 => 123
  | 25 => 252
  | n => n, fun n => n⟩
theorem hlays : SlLaysF0.n20 Try.prog hren where
  mixed := by kernel_rfl
  f20 := ⟨Try.f161.name, by kernel_rfl, by kernel_rfl⟩
  t0 := by kernel_rfl
  a0 := fun w => by kernel_rfl
  z0 := fun w => by kernel_rfl
  v0 := fun w => by kernel_rfl
  t3 := by kernel_rfl
  a3 := fun w => by kernel_rfl
  z3 := fun w => by kernel_rfl
  v3 := fun w => by kernel_rfl
  t4 := by kernel_rfl
  a4 := fun w => by kernel_rfl
  z4 := fun w => by kernel_rfl
  v4 := fun w => by kernel_rfl
  t22 := by kernel_rfl
  a22 := fun w => by kernel_rfl
  z22 := fun w => by kernel_rfl
  v22 := fun w => by kernel_rfl
  t25 := by kernel_rfl
  a25 := fun w => by kernel_rfl
  z25 := fun w => by kernel_rfl
  v25 := fun w => by kernel_rfl

theorem isNaN_any (x : Int) (w : World) : Calls Try.prog 157 #[.int .i64 x] w fun e w' => e = .returned (.bool false) ∧ w = w' := by
  have h : (x != x) = false := by simp
  go_enter Try.func157, Try.ntmps157
  go_wp2
  go_ret
  exact ⟨rfl, rfl⟩
theorem compare_any (x y : Int) (w : World) : Calls Try.prog 147 #[.int .i64 x, .int .i64 y] w fun e w' => e = .returned (.int .i64 (if x < y then -1 else if y < x then 1 else 0)) ∧ w = w' := by
  by_cases h1 : x < y
  · rw [if_pos h1]
    go_enter Try.func147, Try.ntmps147
    go_wp2_with fail
    refine (isNaN_any _ _).mono ?_
    rintro e w1 ⟨rfl, rfl⟩
    go_wp2_with fail
    refine (isNaN_any _ _).mono ?_
    rintro e w1 ⟨rfl, rfl⟩
    go_wp2
    go_ret
    exact ⟨rfl, rfl⟩
  · by_cases h2 : y < x
    · rw [if_neg h1, if_pos h2]
      go_enter Try.func147, Try.ntmps147
      go_wp2_with fail
      refine (isNaN_any _ _).mono ?_
      rintro e w1 ⟨rfl, rfl⟩
      go_wp2_with fail
      refine (isNaN_any _ _).mono ?_
      rintro e w1 ⟨rfl, rfl⟩
      go_wp2
      go_ret
      exact ⟨rfl, rfl⟩
    · rw [if_neg h1, if_neg h2]
      go_enter Try.func147, Try.ntmps147
      go_wp2_with fail
      refine (isNaN_any _ _).mono ?_
      rintro e w1 ⟨rfl, rfl⟩
      go_wp2_with fail
      refine (isNaN_any _ _).mono ?_
      rintro e w1 ⟨rfl, rfl⟩
      go_wp2
      go_ret
      exact ⟨rfl, rfl⟩

theorem by_any (sec1 size1 reg1 rs1 lg1 dep1 mem1 gen1 page1 stamp1 hdep1 log1 hreg1 time1 : Int) (seed1 : Nat) (w : World) : Calls Try.prog 122 #[.agg #[.int .i64 sec1, .int .i64 size1, .int .i64 reg1, .int .i64 rs1, .int .i64 lg1, .int .i64 dep1, .int .i64 mem1, .int .u64 (seed1 : Int), .int .i64 gen1, .int .i64 page1, .int .i64 stamp1, .int .i64 hdep1, .int .i64 log1, .int .i64 hreg1, .int .i64 time1]] w fun e w' => e = .returned (.int .i64 gen1) ∧ ∃ q os', w' = grow (w.drewN q) os' := by
  have hA := heap_alloc_new w (.cells #[.int .i64 sec1, .int .i64 size1, .int .i64 reg1, .int .i64 rs1, .int .i64 lg1, .int .i64 dep1, .int .i64 mem1, .int .u64 (seed1 : Int), .int .i64 gen1, .int .i64 page1, .int .i64 stamp1, .int .i64 hdep1, .int .i64 log1, .int .i64 hreg1, .int .i64 time1] 123)
  have c8 := cell_of_row _ _ 8 _ _ _ hA
  simp at c8
  have hg : w.alloc (.cells #[.int .i64 sec1, .int .i64 size1, .int .i64 reg1, .int .i64 rs1, .int .i64 lg1, .int .i64 dep1, .int .i64 mem1, .int .u64 (seed1 : Int), .int .i64 gen1, .int .i64 page1, .int .i64 stamp1, .int .i64 hdep1, .int .i64 log1, .int .i64 hreg1, .int .i64 time1] 123) = grow (w.drewN 0) #[.cells #[.int .i64 sec1, .int .i64 size1, .int .i64 reg1, .int .i64 rs1, .int .i64 lg1, .int .i64 dep1, .int .i64 mem1, .int .u64 (seed1 : Int), .int .i64 gen1, .int .i64 page1, .int .i64 stamp1, .int .i64 hdep1, .int .i64 log1, .int .i64 hreg1, .int .i64 time1] 123] := alloc_eq_grow _ _
  have HG := Lib.hid hg
  clear hg hA
  go_enter Try.func122, Try.ntmps122
  go_wp2
  go_ret
  exact ⟨rfl, 0, _, HG.out⟩

set_option maxRecDepth 100000 in
set_option maxHeartbeats 1000000 in
set_option maxHeartbeats 4000000 in
theorem hcmp_any (bx : Nat) (x y : Hd) (w : World) (hb : w.cell? ⟨bx, 0, none⟩ = some (.func (.func 122) #[] #[])) (hbx : bx < w.heap.size) :
    Calls Try.prog 146 #[x.v, y.v, .pointer (some ⟨bx, 0, none⟩)] w fun e w' => e = .returned (.int .i64 (hcmp x y)) ∧ ∃ q os', w' = grow (w.drewN q) os' := by
  obtain ⟨⟨sec1, size1, reg1, rs1, lg1, dep1, mem1, seed1⟩, gen1, page1, stamp1, hdep1, log1, hreg1, time1⟩ := x
  obtain ⟨⟨sec2, size2, reg2, rs2, lg2, dep2, mem2, seed2⟩, gen2, page2, stamp2, hdep2, log2, hreg2, time2⟩ := y
  simp only [Hd.v, Hd.cells, hcmp]
  have mixed : Try.prog.follows .mixedOrders = true := by kernel_rfl
  have hk1 : Keep [] w ((w.alloc (.cells #[.int .i64 sec1, .int .i64 size1, .int .i64 reg1, .int .i64 rs1, .int .i64 lg1, .int .i64 dep1, .int .i64 mem1, .int .u64 (seed1 : Int), .int .i64 gen1, .int .i64 page1, .int .i64 stamp1, .int .i64 hdep1, .int .i64 log1, .int .i64 hreg1, .int .i64 time1] 123)).alloc (.cells #[.int .i64 sec2, .int .i64 size2, .int .i64 reg2, .int .i64 rs2, .int .i64 lg2, .int .i64 dep2, .int .i64 mem2, .int .u64 (seed2 : Int), .int .i64 gen2, .int .i64 page2, .int .i64 stamp2, .int .i64 hdep2, .int .i64 log2, .int .i64 hreg2, .int .i64 time2] 123)) := ((Keep.refl [] w).alloc _).alloc _
  have hA := heap_alloc2_old w (.cells #[.int .i64 sec1, .int .i64 size1, .int .i64 reg1, .int .i64 rs1, .int .i64 lg1, .int .i64 dep1, .int .i64 mem1, .int .u64 (seed1 : Int), .int .i64 gen1, .int .i64 page1, .int .i64 stamp1, .int .i64 hdep1, .int .i64 log1, .int .i64 hreg1, .int .i64 time1] 123) (.cells #[.int .i64 sec2, .int .i64 size2, .int .i64 reg2, .int .i64 rs2, .int .i64 lg2, .int .i64 dep2, .int .i64 mem2, .int .u64 (seed2 : Int), .int .i64 gen2, .int .i64 page2, .int .i64 stamp2, .int .i64 hdep2, .int .i64 log2, .int .i64 hreg2, .int .i64 time2] 123)
  have hB := heap_alloc2_new w (.cells #[.int .i64 sec1, .int .i64 size1, .int .i64 reg1, .int .i64 rs1, .int .i64 lg1, .int .i64 dep1, .int .i64 mem1, .int .u64 (seed1 : Int), .int .i64 gen1, .int .i64 page1, .int .i64 stamp1, .int .i64 hdep1, .int .i64 log1, .int .i64 hreg1, .int .i64 time1] 123) (.cells #[.int .i64 sec2, .int .i64 size2, .int .i64 reg2, .int .i64 rs2, .int .i64 lg2, .int .i64 dep2, .int .i64 mem2, .int .u64 (seed2 : Int), .int .i64 gen2, .int .i64 page2, .int .i64 stamp2, .int .i64 hdep2, .int .i64 log2, .int .i64 hreg2, .int .i64 time2] 123)
  have hgr : (w.alloc (.cells #[.int .i64 sec1, .int .i64 size1, .int .i64 reg1, .int .i64 rs1, .int .i64 lg1, .int .i64 dep1, .int .i64 mem1, .int .u64 (seed1 : Int), .int .i64 gen1, .int .i64 page1, .int .i64 stamp1, .int .i64 hdep1, .int .i64 log1, .int .i64 hreg1, .int .i64 time1] 123)).alloc (.cells #[.int .i64 sec2, .int .i64 size2, .int .i64 reg2, .int .i64 rs2, .int .i64 lg2, .int .i64 dep2, .int .i64 mem2, .int .u64 (seed2 : Int), .int .i64 gen2, .int .i64 page2, .int .i64 stamp2, .int .i64 hdep2, .int .i64 log2, .int .i64 hreg2, .int .i64 time2] 123) = grow w (#[.cells #[.int .i64 sec1, .int .i64 size1, .int .i64 reg1, .int .i64 rs1, .int .i64 lg1, .int .i64 dep1, .int .i64 mem1, .int .u64 (seed1 : Int), .int .i64 gen1, .int .i64 page1, .int .i64 stamp1, .int .i64 hdep1, .int .i64 log1, .int .i64 hreg1, .int .i64 time1] 123] ++ #[.cells #[.int .i64 sec2, .int .i64 size2, .int .i64 reg2, .int .i64 rs2, .int .i64 lg2, .int .i64 dep2, .int .i64 mem2, .int .u64 (seed2 : Int), .int .i64 gen2, .int .i64 page2, .int .i64 stamp2, .int .i64 hdep2, .int .i64 log2, .int .i64 hreg2, .int .i64 time2] 123]) := by rw [alloc_eq_grow, alloc_eq_grow, grow_grow]
  have hsz : ((w.alloc (.cells #[.int .i64 sec1, .int .i64 size1, .int .i64 reg1, .int .i64 rs1, .int .i64 lg1, .int .i64 dep1, .int .i64 mem1, .int .u64 (seed1 : Int), .int .i64 gen1, .int .i64 page1, .int .i64 stamp1, .int .i64 hdep1, .int .i64 log1, .int .i64 hreg1, .int .i64 time1] 123)).alloc (.cells #[.int .i64 sec2, .int .i64 size2, .int .i64 reg2, .int .i64 rs2, .int .i64 lg2, .int .i64 dep2, .int .i64 mem2, .int .u64 (seed2 : Int), .int .i64 gen2, .int .i64 page2, .int .i64 stamp2, .int .i64 hdep2, .int .i64 log2, .int .i64 hreg2, .int .i64 time2] 123)).heap.size = w.heap.size + 2 := by simp
  have HGR := Lib.hid hgr
  generalize hw1 : (w.alloc (.cells #[.int .i64 sec1, .int .i64 size1, .int .i64 reg1, .int .i64 rs1, .int .i64 lg1, .int .i64 dep1, .int .i64 mem1, .int .u64 (seed1 : Int), .int .i64 gen1, .int .i64 page1, .int .i64 stamp1, .int .i64 hdep1, .int .i64 log1, .int .i64 hreg1, .int .i64 time1] 123)).alloc (.cells #[.int .i64 sec2, .int .i64 size2, .int .i64 reg2, .int .i64 rs2, .int .i64 lg2, .int .i64 dep2, .int .i64 mem2, .int .u64 (seed2 : Int), .int .i64 gen2, .int .i64 page2, .int .i64 stamp2, .int .i64 hdep2, .int .i64 log2, .int .i64 hreg2, .int .i64 time2] 123) = w1 at hk1 hA hB hsz
  have cb := fun n os => cell_grown (w := w1) (a := ⟨bx, 0, none⟩) (by show bx < _; omega) (hk1.cell (by simp) hb) n os
  have ca0 := fun n os => cell_grown (w := w1) (a := ⟨w.heap.size, 0, none⟩) (by show w.heap.size < _; omega) (cell_of_row w1 _ 0 _ _ _ hA) n os
  have ca1 := fun n os => cell_grown (w := w1) (a := ⟨w.heap.size, 1, none⟩) (by show w.heap.size < _; omega) (cell_of_row w1 _ 1 _ _ _ hA) n os
  have ca2 := fun n os => cell_grown (w := w1) (a := ⟨w.heap.size, 2, none⟩) (by show w.heap.size < _; omega) (cell_of_row w1 _ 2 _ _ _ hA) n os
  have ca3 := fun n os => cell_grown (w := w1) (a := ⟨w.heap.size, 3, none⟩) (by show w.heap.size < _; omega) (cell_of_row w1 _ 3 _ _ _ hA) n os
  have ca4 := fun n os => cell_grown (w := w1) (a := ⟨w.heap.size, 4, none⟩) (by show w.heap.size < _; omega) (cell_of_row w1 _ 4 _ _ _ hA) n os
  have ca5 := fun n os => cell_grown (w := w1) (a := ⟨w.heap.size, 5, none⟩) (by show w.heap.size < _; omega) (cell_of_row w1 _ 5 _ _ _ hA) n os
  have ca6 := fun n os => cell_grown (w := w1) (a := ⟨w.heap.size, 6, none⟩) (by show w.heap.size < _; omega) (cell_of_row w1 _ 6 _ _ _ hA) n os
  have ca7 := fun n os => cell_grown (w := w1) (a := ⟨w.heap.size, 7, none⟩) (by show w.heap.size < _; omega) (cell_of_row w1 _ 7 _ _ _ hA) n os
  have ca8 := fun n os => cell_grown (w := w1) (a := ⟨w.heap.size, 8, none⟩) (by show w.heap.size < _; omega) (cell_of_row w1 _ 8 _ _ _ hA) n os
  have ca9 := fun n os => cell_grown (w := w1) (a := ⟨w.heap.size, 9, none⟩) (by show w.heap.size < _; omega) (cell_of_row w1 _ 9 _ _ _ hA) n os
  have ca10 := fun n os => cell_grown (w := w1) (a := ⟨w.heap.size, 10, none⟩) (by show w.heap.size < _; omega) (cell_of_row w1 _ 10 _ _ _ hA) n os
  have ca11 := fun n os => cell_grown (w := w1) (a := ⟨w.heap.size, 11, none⟩) (by show w.heap.size < _; omega) (cell_of_row w1 _ 11 _ _ _ hA) n os
  have ca12 := fun n os => cell_grown (w := w1) (a := ⟨w.heap.size, 12, none⟩) (by show w.heap.size < _; omega) (cell_of_row w1 _ 12 _ _ _ hA) n os
  have ca13 := fun n os => cell_grown (w := w1) (a := ⟨w.heap.size, 13, none⟩) (by show w.heap.size < _; omega) (cell_of_row w1 _ 13 _ _ _ hA) n os
  have ca14 := fun n os => cell_grown (w := w1) (a := ⟨w.heap.size, 14, none⟩) (by show w.heap.size < _; omega) (cell_of_row w1 _ 14 _ _ _ hA) n os
  have cb0 := fun n os => cell_grown (w := w1) (a := ⟨w.heap.size + 1, 0, none⟩) (by show w.heap.size + 1 < _; omega) (cell_of_row w1 _ 0 _ _ _ hB) n os
  have cb1 := fun n os => cell_grown (w := w1) (a := ⟨w.heap.size + 1, 1, none⟩) (by show w.heap.size + 1 < _; omega) (cell_of_row w1 _ 1 _ _ _ hB) n os
  have cb2 := fun n os => cell_grown (w := w1) (a := ⟨w.heap.size + 1, 2, none⟩) (by show w.heap.size + 1 < _; omega) (cell_of_row w1 _ 2 _ _ _ hB) n os
  have cb3 := fun n os => cell_grown (w := w1) (a := ⟨w.heap.size + 1, 3, none⟩) (by show w.heap.size + 1 < _; omega) (cell_of_row w1 _ 3 _ _ _ hB) n os
  have cb4 := fun n os => cell_grown (w := w1) (a := ⟨w.heap.size + 1, 4, none⟩) (by show w.heap.size + 1 < _; omega) (cell_of_row w1 _ 4 _ _ _ hB) n os
  have cb5 := fun n os => cell_grown (w := w1) (a := ⟨w.heap.size + 1, 5, none⟩) (by show w.heap.size + 1 < _; omega) (cell_of_row w1 _ 5 _ _ _ hB) n os
  have cb6 := fun n os => cell_grown (w := w1) (a := ⟨w.heap.size + 1, 6, none⟩) (by show w.heap.size + 1 < _; omega) (cell_of_row w1 _ 6 _ _ _ hB) n os
  have cb7 := fun n os => cell_grown (w := w1) (a := ⟨w.heap.size + 1, 7, none⟩) (by show w.heap.size + 1 < _; omega) (cell_of_row w1 _ 7 _ _ _ hB) n os
  have cb8 := fun n os => cell_grown (w := w1) (a := ⟨w.heap.size + 1, 8, none⟩) (by show w.heap.size + 1 < _; omega) (cell_of_row w1 _ 8 _ _ _ hB) n os
  have cb9 := fun n os => cell_grown (w := w1) (a := ⟨w.heap.size + 1, 9, none⟩) (by show w.heap.size + 1 < _; omega) (cell_of_row w1 _ 9 _ _ _ hB) n os
  have cb10 := fun n os => cell_grown (w := w1) (a := ⟨w.heap.size + 1, 10, none⟩) (by show w.heap.size + 1 < _; omega) (cell_of_row w1 _ 10 _ _ _ hB) n os
  have cb11 := fun n os => cell_grown (w := w1) (a := ⟨w.heap.size + 1, 11, none⟩) (by show w.heap.size + 1 < _; omega) (cell_of_row w1 _ 11 _ _ _ hB) n os
  have cb12 := fun n os => cell_grown (w := w1) (a := ⟨w.heap.size + 1, 12, none⟩) (by show w.heap.size + 1 < _; omega) (cell_of_row w1 _ 12 _ _ _ hB) n os
  have cb13 := fun n os => cell_grown (w := w1) (a := ⟨w.heap.size + 1, 13, none⟩) (by show w.heap.size + 1 < _; omega) (cell_of_row w1 _ 13 _ _ _ hB) n os
  have cb14 := fun n os => cell_grown (w := w1) (a := ⟨w.heap.size + 1, 14, none⟩) (by show w.heap.size + 1 < _; omega) (cell_of_row w1 _ 14 _ _ _ hB) n os
  clear hA hB hk1 hsz hb
  obtain ⟨RES, hRES⟩ : ∃ RES, (if gen2 < gen1 then (-1 : Int) else if gen1 < gen2 then 1 else 0) = RES := ⟨_, rfl⟩
  rw [hRES]
  have hcp : ∀ n os, Calls Try.prog 147 #[.int .i64 gen2, .int .i64 gen1] (grow (w1.drewN n) os) fun e w'' => e = .returned (.int .i64 RES) ∧ ∃ p : GrownBy, w'' = grow (w1.drewN p.n) p.os := fun n os => by
    rw [← hRES]
    exact (compare_any gen2 gen1 _).mono fun e w' h => ⟨h.1, ⟨n, os⟩, h.2.symm⟩
  have hya := fun n os => Calls.grown_of (by_any sec2 size2 reg2 rs2 lg2 dep2 mem2 gen2 page2 stamp2 hdep2 log2 hreg2 time2 seed2 (grow (w1.drewN n) os))
  have hxa := fun n os => Calls.grown_of (by_any sec1 size1 reg1 rs1 lg1 dep1 mem1 gen1 page1 stamp1 hdep1 log1 hreg1 time1 seed1 (grow (w1.drewN n) os))
  clear hRES
  have HW1 := Lib.hid hw1
  have HW2 : Hid (grow w #[.cells #[.int .i64 sec1, .int .i64 size1, .int .i64 reg1, .int .i64 rs1, .int .i64 lg1, .int .i64 dep1, .int .i64 mem1, .int .u64 (seed1 : Int), .int .i64 gen1, .int .i64 page1, .int .i64 stamp1, .int .i64 hdep1, .int .i64 log1, .int .i64 hreg1, .int .i64 time1] 123, .cells #[.int .i64 sec2, .int .i64 size2, .int .i64 reg2, .int .i64 rs2, .int .i64 lg2, .int .i64 dep2, .int .i64 mem2, .int .u64 (seed2 : Int), .int .i64 gen2, .int .i64 page2, .int .i64 stamp2, .int .i64 hdep2, .int .i64 log2, .int .i64 hreg2, .int .i64 time2] 123] = w1) := by show _ = _; rw [← hw1, HGR.out]; rfl
  clear hw1
  have HYA := Lib.hid hya
  have HXA := Lib.hid hxa
  have HCP := Lib.hid hcp
  clear hya hxa hcp
  go_enter Try.func146, Try.ntmps146
  go_wp2_with fail
  first
    | rw [HW1.out]
    | rw [HW2.out]
  go_quiet_grown (first | exact HYA.out _ _ | exact HXA.out _ _ | exact HCP.out _ _)
  go_wp2
  go_ret
  refine ⟨rfl, nq, (#[.cells #[.int .i64 sec1, .int .i64 size1, .int .i64 reg1, .int .i64 rs1, .int .i64 lg1, .int .i64 dep1, .int .i64 mem1, .int .u64 (seed1 : Int), .int .i64 gen1, .int .i64 page1, .int .i64 stamp1, .int .i64 hdep1, .int .i64 log1, .int .i64 hreg1, .int .i64 time1] 123] ++ #[.cells #[.int .i64 sec2, .int .i64 size2, .int .i64 reg2, .int .i64 rs2, .int .i64 lg2, .int .i64 dep2, .int .i64 mem2, .int .u64 (seed2 : Int), .int .i64 gen2, .int .i64 page2, .int .i64 stamp2, .int .i64 hdep2, .int .i64 log2, .int .i64 hreg2, .int .i64 time2] 123]) ++ osq, ?_⟩
  rw [← HW1.out, HGR.out]
  exact grow_grow (w.drewN nq) _ osq

end Go.Proofs.Ytijljdcpajjhhaa

/-! slices.SortFunc at two heads or fewer, and super's sorted. -/
namespace Go.Proofs.Ytijljdcpajjhhaa
open Go.RowKit Go.Shelf Sg Go.Sort Go.Proofs
attribute [local go_sem] Oper.semAt_some
set_option linter.unusedSimpArgs false
set_option linter.unusedVariables false

abbrev FB : Value := .func (.func 122) #[] #[]
def FC (bx : Nat) : Value := .func (.func 146) #[] #[.pointer (some ⟨bx, 0, none⟩)]
theorem cell_sortWorld {w : World} {blk off m : Nat} {dk : Array Hd} {os : Array Obj} {a : Addr} {v : Value} (ha : a.block < w.heap.size) (hne : a.block ≠ blk) (h : w.cell? a = some v) : (sortWorldK henc 15 w blk off m dk os).cell? a = some v := by
  unfold sortWorldK
  rw [cell?_grow _ _ _ (by rw [size_putRowK]; exact ha), cell?_putRowK_other henc 15 _ _ _ _ _ hne]
  exact h
theorem size_sortWorld (w : World) (blk off m : Nat) (dk : Array Hd) (os : Array Obj) : w.heap.size ≤ (sortWorldK henc 15 w blk off m dk os).heap.size := size_sortWorldK_c henc 15 w blk off m dk os
theorem heap_putRowK_other (w : World) (blk off : Nat) (dk : Array Hd) {b : Nat} (h : b ≠ blk) : (putRowK henc 15 w blk off dk).heap[b]? = w.heap[b]? := by
  unfold putRowK putRow mapBlock
  simp only [Array.getElem?_modify]
  rw [if_neg (fun e => h e.symm)]
theorem keep_sortWorld (w : World) (blk off m : Nat) (dk : Array Hd) (os : Array Obj) : Keep [blk] w (sortWorldK henc 15 w blk off m dk os) where
  os := rfl
  tape := rfl
  output := rfl
  size := size_sortWorld w blk off m dk os
  block := fun k hk hn => by
    unfold sortWorldK
    rw [Go.Sort.heap_grow_old _ _ (by rw [size_putRowK]; exact hk), heap_putRowK_other _ _ _ _ (by simpa using hn)]
    rfl

theorem cmpLays (bx blk off size : Nat) (w : World) (hb : w.cell? ⟨bx, 0, none⟩ = some FB) (hbx : bx < w.heap.size) (hne : bx ≠ blk) : CmpLays Try.prog 146 #[.pointer (some ⟨bx, 0, none⟩)] henc 15 hcmp blk off size w :=
  fun m os dk hs x y => hcmp_any bx x y _ (cell_sortWorld (by exact hbx) hne hb) (Nat.lt_of_lt_of_le hbx (size_sortWorld w blk off m dk os))

theorem len64_small (n : Nat) (hn : n ≤ 2) (w : World) : Calls Try.prog 170 #[.int .u64 n] w fun e w' => (∃ l : Int, e = .returned (.int .i64 l)) ∧ w = w' := by
  rcases (by omega : n = 0 ∨ n = 1 ∨ n = 2) with rfl | rfl | rfl
  all_goals
    go_enter Try.func170, Try.ntmps170
    go_wp2
    go_ret
    exact ⟨⟨_, rfl⟩, rfl⟩
theorem len_small (n : Nat) (hn : n ≤ 2) (w : World) : Calls Try.prog 156 #[.int .u64 n] w fun e w' => (∃ l : Int, e = .returned (.int .i64 l)) ∧ w = w' := by
  go_enter Try.func156, Try.ntmps156
  go_wp2_with fail
  refine (len64_small n hn w).mono ?_
  rintro e w1 ⟨⟨l, rfl⟩, rfl⟩
  go_wp2
  go_ret
  exact ⟨⟨_, rfl⟩, rfl⟩

/-- a row of heads in memory -/
def insSorted (l : List Hd) : List Hd := match l with
  | [a, b] => if a.gen < b.gen then [b, a] else [a, b]
  | l => l
theorem ins_sorted (l : List Hd) (h : l.length ≤ 2) : Sort.insertionSort (ltOf hcmp) l.toArray 0 l.length = (insSorted l).toArray := by
  rcases l with _ | ⟨a, _ | ⟨b, _ | ⟨c, t⟩⟩⟩
  · simp [Sort.insertionSort, Sort.insOuter, insSorted]
  · simp [Sort.insertionSort, Sort.insOuter, insSorted]
  · have e : ltOf hcmp b a = decide (a.gen < b.gen) := by
      unfold ltOf hcmp
      by_cases h1 : a.gen < b.gen
      · simp [h1]
      · by_cases h2 : b.gen < a.gen
        · simp [h1, h2]
        · simp [h1, h2]
    unfold Sort.insertionSort
    rw [Sort.insOuter, if_pos (by simp), Sort.insOuter, if_neg (by simp)]
    simp only [Sort.insInner]
    by_cases h1 : a.gen < b.gen
    · simp [e, h1, insSorted, Sort.swp]
    · simp [e, h1, insSorted]
  · exfalso
    simp only [List.length_cons] at h
    omega

set_option maxRecDepth 100000 in
set_option maxHeartbeats 1000000 in
theorem insertion_any (bx blk off cap : Nat) (l : List Hd) (hl : l.length ≤ 2) (w : World) (hb : w.cell? ⟨bx, 0, none⟩ = some FB) (hbx : bx < w.heap.size) (hne : bx ≠ blk) (hH : HoldsK henc 15 w blk off l.toArray) (hblk : blk < w.heap.size) :
    Calls Try.prog 161 #[.slice (some ⟨blk, off, none⟩) l.length cap, .int .i64 0, .int .i64 (l.length : Int), FC bx] w fun e w' => e = .returned (.tuple #[]) ∧ ∃ n os, w' = sortWorldK henc 15 w blk off n (insSorted l).toArray os := by
  have eg : ∀ args w, (callFunc 146 args).run Try.prog w = .ok (.enter 146 args) w := enters_of Try.func146 (by kernel_rfl) rfl
  have h := AnyQ.insertionSortCmpFunc (P := Try.prog) (ρ := hren) hlays 15 (fun w => by kernel_rfl) (fun w => by kernel_rfl) henc henc_len henc_one hcmp 146 #[.pointer (some ⟨bx, 0, none⟩)] blk off cap 0 l.length l.toArray w eg (cmpLays bx blk off _ w hb hbx hne) hH hblk (Nat.zero_le _) (by simp) (by simp; omega)
  simp only [List.size_toArray, ins_sorted l hl] at h
  exact h

set_option maxRecDepth 100000 in
set_option maxHeartbeats 1000000 in
theorem insertion_nil (bx : Nat) (w : World) :
    Calls Try.prog 161 #[.slice none 0 0, .int .i64 0, .int .i64 0, FC bx] w fun e w' => e = .returned (.tuple #[]) ∧ w = w' := by
  unfold FC
  go_enter Try.func161, Try.ntmps161
  go_wp2_with fail
  refine wp_loop_rounds 1 ?_
  rw [rounds_succ]
  go_wp2
  go_end0
  exact ⟨rfl, rfl⟩

/-- what the sort of a row leaves -/
def Srt (bx : Nat) (w : World) (sv : Value) (l : List Hd) (w' : World) : Prop := (l = [] ∧ sv = .slice none 0 0 ∧ Keep [] w w') ∨ (∃ blk off cap n os, sv = .slice (some ⟨blk, off, none⟩) l.length cap ∧ w' = sortWorldK henc 15 w blk off n (insSorted l).toArray os)
def Inp (bx : Nat) (w : World) (sv : Value) (l : List Hd) : Prop := l.length ≤ 2 ∧ ((l = [] ∧ sv = .slice none 0 0) ∨ (∃ blk off cap, sv = .slice (some ⟨blk, off, none⟩) l.length cap ∧ HoldsK henc 15 w blk off l.toArray ∧ blk < w.heap.size ∧ bx ≠ blk))
theorem ins_any (bx : Nat) (sv : Value) (l : List Hd) (w : World) (hb : w.cell? ⟨bx, 0, none⟩ = some FB) (hbx : bx < w.heap.size) (h : Inp bx w sv l) :
    Calls Try.prog 161 #[sv, .int .i64 0, .int .i64 (l.length : Int), FC bx] w fun e w' => e = .returned (.tuple #[]) ∧ Srt bx w sv l w' := by
  rcases h with ⟨hl, (⟨rfl, rfl⟩ | ⟨blk, off, cap, rfl, h1, h2, h3⟩)⟩
  · refine (insertion_nil bx w).mono ?_
    rintro e w' ⟨rfl, rfl⟩
    exact ⟨rfl, .inl ⟨rfl, rfl, Keep.refl _ _⟩⟩
  · refine (insertion_any bx blk off cap l hl w hb hbx h3 h1 h2).mono ?_
    rintro e w' ⟨rfl, n, os, rfl⟩
    exact ⟨rfl, .inr ⟨blk, off, cap, n, os, rfl, rfl⟩⟩

set_option maxRecDepth 100000 in
set_option maxHeartbeats 1000000 in
theorem pdq_any (bx : Nat) (sv : Value) (l : List Hd) (lim : Int) (w : World) (hb : w.cell? ⟨bx, 0, none⟩ = some FB) (hbx : bx < w.heap.size) (h : Inp bx w sv l) :
    Calls Try.prog 155 #[sv, .int .i64 0, .int .i64 (l.length : Int), .int .i64 lim, FC bx] w fun e w' => e = .returned (.tuple #[]) ∧ Srt bx w sv l w' := by
  have hi := ins_any bx sv l w hb hbx h
  obtain ⟨n, hn⟩ : ∃ n, l.length = n := ⟨_, rfl⟩
  have hn2 : n ≤ 2 := by rw [← hn]; exact h.1
  rw [hn] at hi ⊢
  have q1 : (n : Int) ≤ 12 := by omega
  have q2 : IntKind.i64.wrap (n : Int) = (n : Int) := i64_wrap_nat (by omega)
  clear h hn hb
  generalize FC bx = fc at hi ⊢
  go_enter Try.func155, Try.ntmps155
  go_wp2_with fail
  refine wp_loop_rounds 1 ?_
  rw [rounds_succ]
  go_wp2_with fail
  refine hi.mono ?_
  rintro e w' ⟨rfl, hs⟩
  have HS := Lib.hid hs
  clear hs
  go_wp2_with fail
  (try simp only [Exit.inBlock, Exit.then])
  refine bodyPost_ret (results_none rfl _ _ _) rfl ?_
  exact ⟨rfl, HS.out⟩

set_option maxRecDepth 100000 in
set_option maxHeartbeats 1000000 in
theorem sortFunc_any (bx : Nat) (sv : Value) (l : List Hd) (w : World) (hb : w.cell? ⟨bx, 0, none⟩ = some FB) (hbx : bx < w.heap.size) (h : Inp bx w sv l) :
    Calls Try.prog 145 #[sv, FC bx] w fun e w' => e = .returned (.tuple #[]) ∧ ∃ q, Srt bx (w.drewN q) sv l w' := by
  have hp : ∀ lim, Calls Try.prog 155 #[sv, .int .i64 0, .int .i64 (l.length : Int), .int .i64 lim, FC bx] w fun e w' => e = .returned (.tuple #[]) ∧ Srt bx w sv l w' := fun lim => pdq_any bx sv l lim w hb hbx h
  obtain ⟨sa, sc, hsv⟩ : ∃ sa sc, sv = .slice sa l.length sc := by
    rcases h with ⟨hl, (⟨rfl, rfl⟩ | ⟨blk, off, cap, rfl, h1, h2, h3⟩)⟩
    · exact ⟨none, 0, rfl⟩
    · exact ⟨_, _, rfl⟩
  have hL := len_small l.length h.1
  have hn0 : IntKind.u64.wrap (l.length : Int) = (l.length : Int) := by rw [u64_wrap]; have := h.1; omega
  obtain ⟨n, hn⟩ : ∃ n, l.length = n := ⟨_, rfl⟩
  rw [hn] at hL hp hn0 hsv
  subst hsv
  clear h hn hb
  generalize FC bx = fc at hp ⊢
  have HP := Lib.hid hp
  have HL := Lib.hid hL
  clear hp hL
  go_enter Try.func145, Try.ntmps145
  go_wp2_with fail
  refine (HL.out _).mono ?_
  rintro e w1 ⟨⟨lim, rfl⟩, rfl⟩
  go_wp2_with fail
  refine (HP.out _).mono ?_
  rintro e w2 ⟨rfl, hs⟩
  have HS := Lib.hid hs
  clear hs
  go_wp2
  go_end0
  exact ⟨rfl, 0, HS.out⟩
end Go.Proofs.Ytijljdcpajjhhaa
