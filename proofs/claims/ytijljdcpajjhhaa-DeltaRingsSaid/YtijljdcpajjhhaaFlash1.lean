import Derived.Test.YtijljdcpajjhhaaDev
import Derived.Test.YtijljdcpajjhhaaWire
import Derived.Test.YtijljdcpajjhhaaHist
import Derived.Carry
/-! The walks of flash: what asks a device, counts an act, makes one. -/
namespace Go.Proofs.Ytijljdcpajjhhaa
open Go.RowKit Sg
set_option linter.unusedSimpArgs false
set_option linter.unusedVariables false

/-- a device's row -/
def RowD (w : World) (g : Nat) (m : Dev) (fm pm : Nat) (lv : Value) : Prop := w.heap[g]? = some (.cells (devCells m fm pm lv) 151 (0, 0))
theorem RowD.c0 {w : World} {g fm pm : Nat} {m : Dev} {lv : Value} (h : RowD w g m fm pm lv) : w.cell? ⟨g, 0, none⟩ = some (.int .i64 (m.n : Int)) := by rw [cell_of_row _ _ _ _ _ _ h]; rfl
theorem RowD.c1 {w : World} {g fm pm : Nat} {m : Dev} {lv : Value} (h : RowD w g m fm pm lv) : w.cell? ⟨g, 1, none⟩ = some (.int .i64 (m.sz : Int)) := by rw [cell_of_row _ _ _ _ _ _ h]; rfl
theorem RowD.c2 {w : World} {g fm pm : Nat} {m : Dev} {lv : Value} (h : RowD w g m fm pm lv) : w.cell? ⟨g, 2, none⟩ = some (.map (some fm)) := by rw [cell_of_row _ _ _ _ _ _ h]; rfl
theorem RowD.c3 {w : World} {g fm pm : Nat} {m : Dev} {lv : Value} (h : RowD w g m fm pm lv) : w.cell? ⟨g, 3, none⟩ = some lv := by rw [cell_of_row _ _ _ _ _ _ h]; rfl
theorem RowD.c4 {w : World} {g fm pm : Nat} {m : Dev} {lv : Value} (h : RowD w g m fm pm lv) : w.cell? ⟨g, 4, none⟩ = some (.map (some pm)) := by rw [cell_of_row _ _ _ _ _ _ h]; rfl
theorem RowD.c5 {w : World} {g fm pm : Nat} {m : Dev} {lv : Value} (h : RowD w g m fm pm lv) : w.cell? ⟨g, 5, none⟩ = some (.int .i64 (m.armed : Int)) := by rw [cell_of_row _ _ _ _ _ _ h]; rfl
theorem RowD.c6 {w : World} {g fm pm : Nat} {m : Dev} {lv : Value} (h : RowD w g m fm pm lv) : w.cell? ⟨g, 6, none⟩ = some (.int .i64 (m.acts : Int)) := by rw [cell_of_row _ _ _ _ _ _ h]; rfl
theorem RowD.c7 {w : World} {g fm pm : Nat} {m : Dev} {lv : Value} (h : RowD w g m fm pm lv) : w.cell? ⟨g, 7, none⟩ = some (.bool m.down) := by rw [cell_of_row _ _ _ _ _ _ h]; rfl
theorem RowD.free {w : World} {g fm pm : Nat} {m : Dev} {lv : Value} (h : RowD w g m fm pm lv) (j : Nat) : w.frozen? ⟨g, j, none⟩ = false := frozen_of_row _ _ _ _ _ h
theorem RowD.keep {w w' : World} {S : List Nat} {g fm pm : Nat} {m : Dev} {lv : Value} (h : RowD w g m fm pm lv) (k : Keep S w w') (hS : g ∉ S) : RowD w' g m fm pm lv := k.blk hS h
theorem RowD.set {w : World} {g fm pm : Nat} {m : Dev} {lv : Value} (h : RowD w g m fm pm lv) (j : Nat) (v : Value) : (w.setCell ⟨g, j, none⟩ v).heap[g]? = some (.cells ((devCells m fm pm lv).setIfInBounds j v) 151 (0, 0)) := heap_setCell_same _ _ _ _ _ _ h

set_option maxRecDepth 100000 in
set_option maxHeartbeats 1000000 in
theorem there_any (w : World) (g : Nat) (m : Dev) (fm pm : Nat) (lv : Value) (h : RowD w g m fm pm lv) (a : Int) :
    Calls Try.prog 123 #[.pointer (some ⟨g, 0, none⟩), .int .i64 a] w fun e w' => e = .returned (.bool (decide (0 ≤ a ∧ a < m.n))) ∧ w = w' := by
  have c0 := h.c0
  clear h
  by_cases h1 : 0 ≤ a
  · by_cases h2 : a < (m.n : Int)
    · go_enter Try.func123, Try.ntmps123
      go_wp2
      go_ret
      simp [h1, h2]
    · go_enter Try.func123, Try.ntmps123
      go_wp2
      go_ret
      simp [h1, h2]
  · go_enter Try.func123, Try.ntmps123
    go_wp2
    go_ret
    simp
    omega

set_option maxRecDepth 100000 in
set_option maxHeartbeats 1000000 in
theorem ready_any (w : World) (g : Nat) (m : Dev) (fm pm : Nat) (lv : Value) (h : RowD w g m fm pm lv) (a : Int) :
    Calls Try.prog 73 #[.pointer (some ⟨g, 0, none⟩), .int .i64 a] w fun e w' => e = .returned (.int .i64 (m.ready a : Int)) ∧ w = w' := by
  have c7 := h.c7
  have ht := there_any w g m fm pm lv h a
  clear h
  cases hd : m.down with
  | true =>
    rw [hd] at c7
    go_enter Try.func73, Try.ntmps73
    go_wp2
    go_ret
    simp [Dev.ready, hd]
  | false =>
    rw [hd] at c7
    by_cases h1 : 0 ≤ a ∧ a < (m.n : Int)
    · have e1 : decide (0 ≤ a ∧ a < (m.n : Int)) = true := by simpa using h1
      rw [e1] at ht
      go_enter Try.func73, Try.ntmps73
      go_wp2_with fail
      refine ht.mono ?_
      rintro e w' ⟨rfl, rfl⟩
      go_wp2
      go_ret
      simp [Dev.ready, hd, h1]
    · have e1 : decide (0 ≤ a ∧ a < (m.n : Int)) = false := by simpa using h1
      rw [e1] at ht
      go_enter Try.func73, Try.ntmps73
      go_wp2_with fail
      refine ht.mono ?_
      rintro e w' ⟨rfl, rfl⟩
      go_wp2
      go_ret
      simp [Dev.ready, hd, h1]

set_option maxRecDepth 100000 in
set_option maxHeartbeats 1000000 in
theorem act_any (w : World) (g : Nat) (m : Dev) (fm pm : Nat) (lv : Value) (h : RowD w g m fm pm lv) (hb : m.acts ≤ 1000000000) (ha : m.armed ≤ 9223372036854775807) :
    Calls Try.prog 74 #[.pointer (some ⟨g, 0, none⟩)] w fun e w' => e = .returned (.bool m.act.down) ∧ RowD w' g m.act fm pm lv ∧ Keep [g] w w' ∧ w'.heap.size = w.heap.size := by
  have c6 := h.c6
  have c5 := h.c5
  have c7 := h.c7
  have f6 := h.free 6
  have f5 := h.free 5
  have f7 := h.free 7
  by_cases h0 : 0 < m.armed
  · by_cases h1 : m.armed = 1
    · have hr : RowD (((w.setCell ⟨g, 6, none⟩ (.int .i64 (m.acts + 1 : Int))).setCell ⟨g, 5, none⟩ (.int .i64 0)).setCell ⟨g, 7, none⟩ (.bool true)) g m.act fm pm lv := by
        have e1 := h.set 6 (.int .i64 (m.acts + 1 : Int))
        have e2 := heap_setCell_same _ g 5 _ _ (.int .i64 0) e1
        have e3 := heap_setCell_same _ g 7 _ _ (.bool true) e2
        refine e3.trans ?_
        simp [devCells, Dev.act, h1]
      rw [h1] at c5
      clear h
      go_enter Try.func74, Try.ntmps74
      go_wp2
      go_ret
      refine ⟨by simp [Dev.act, h1], hr, (((Keep.refl _ _).setCell (.inl (by simp)) _).setCell (.inl (by simp)) _).setCell (.inl (by simp)) _, by simp⟩
    · have hr : RowD (((w.setCell ⟨g, 6, none⟩ (.int .i64 (m.acts + 1 : Int))).setCell ⟨g, 5, none⟩ (.int .i64 (m.armed - 1 : Int))).setCell ⟨g, 7, none⟩ (.bool false)) g m.act fm pm lv := by
        have e1 := h.set 6 (.int .i64 (m.acts + 1 : Int))
        have e2 := heap_setCell_same _ g 5 _ _ (.int .i64 (m.armed - 1 : Int)) e1
        have e3 := heap_setCell_same _ g 7 _ _ (.bool false) e2
        refine e3.trans ?_
        simp [devCells, Dev.act, h1, h0]
        omega
      clear h
      have d1 : ((m.armed : Int) - 1 == 0) = false := by simp; omega
      go_enter Try.func74, Try.ntmps74
      go_wp2
      go_ret
      refine ⟨by simp [Dev.act, h1, h0], hr, (((Keep.refl _ _).setCell (.inl (by simp)) _).setCell (.inl (by simp)) _).setCell (.inl (by simp)) _, by simp⟩
  · have h1 : m.armed = 0 := by omega
    have hr : RowD (w.setCell ⟨g, 6, none⟩ (.int .i64 (m.acts + 1 : Int))) g m.act fm pm lv := by
      have e1 := h.set 6 (.int .i64 (m.acts + 1 : Int))
      refine e1.trans ?_
      simp [devCells, Dev.act, h1]
    rw [h1] at c5
    clear h
    go_enter Try.func74, Try.ntmps74
    go_wp2
    go_ret
    refine ⟨by simp [Dev.act, h1], hr, (Keep.refl _ _).setCell (.inl (by simp)) _, by simp⟩
end Go.Proofs.Ytijljdcpajjhhaa
