import Derived.Test.YtijljdcpajjhhaaPlan
/-! What the document's Fit computes. -/
namespace Go.Proofs.Ytijljdcpajjhhaa
open Go.RowKit Sg

set_option maxRecDepth 100000 in
set_option maxHeartbeats 1000000 in
set_option maxHeartbeats 8000000 in
theorem refFit_no (p : Pl) (h : ¬ p.Within) (w : World) : Calls Try.prog 111 #[p.v] w fun e w' => e = .returned (.tuple #[lay8 0 0 0 0 0 0 0 0, .int .i64 12]) ∧ Keep [] w w' := by
  obtain ⟨sec, size, reg, rs, lg, dep, mem, seed⟩ := p
  have H := Lib.hid h
  clear h
  simp only [Pl.v]
  by_cases a0 : size < 96
  · clear H
    go_enter Try.func111, Try.ntmps111
    go_wp2
    exact bodyPost_ret (results_cell_tmp_row rfl _ _ (w.heap.size + 1) 202 _ _ _ rfl (heap_alloc2_new _ _ _) Try.underlying202 rfl (by kernel_rfl)) rfl ⟨rfl, ((Keep.refl [] w).alloc _).alloc _⟩
  by_cases a1 : 512 < size
  · clear H
    go_enter Try.func111, Try.ntmps111
    go_wp2
    exact bodyPost_ret (results_cell_tmp_row rfl _ _ (w.heap.size + 1) 202 _ _ _ rfl (heap_alloc2_new _ _ _) Try.underlying202 rfl (by kernel_rfl)) rfl ⟨rfl, ((Keep.refl [] w).alloc _).alloc _⟩
  by_cases a2 : sec < 1
  · clear H
    go_enter Try.func111, Try.ntmps111
    go_wp2
    exact bodyPost_ret (results_cell_tmp_row rfl _ _ (w.heap.size + 1) 202 _ _ _ rfl (heap_alloc2_new _ _ _) Try.underlying202 rfl (by kernel_rfl)) rfl ⟨rfl, ((Keep.refl [] w).alloc _).alloc _⟩
  by_cases a3 : 16384 < sec
  · clear H
    go_enter Try.func111, Try.ntmps111
    go_wp2
    exact bodyPost_ret (results_cell_tmp_row rfl _ _ (w.heap.size + 1) 202 _ _ _ rfl (heap_alloc2_new _ _ _) Try.underlying202 rfl (by kernel_rfl)) rfl ⟨rfl, ((Keep.refl [] w).alloc _).alloc _⟩
  by_cases a4 : reg < 3
  · clear H
    go_enter Try.func111, Try.ntmps111
    go_wp2
    exact bodyPost_ret (results_cell_tmp_row rfl _ _ (w.heap.size + 1) 202 _ _ _ rfl (heap_alloc2_new _ _ _) Try.underlying202 rfl (by kernel_rfl)) rfl ⟨rfl, ((Keep.refl [] w).alloc _).alloc _⟩
  by_cases a5 : 64 < reg
  · clear H
    go_enter Try.func111, Try.ntmps111
    go_wp2
    exact bodyPost_ret (results_cell_tmp_row rfl _ _ (w.heap.size + 1) 202 _ _ _ rfl (heap_alloc2_new _ _ _) Try.underlying202 rfl (by kernel_rfl)) rfl ⟨rfl, ((Keep.refl [] w).alloc _).alloc _⟩
  by_cases a6 : rs < 1
  · clear H
    go_enter Try.func111, Try.ntmps111
    go_wp2
    exact bodyPost_ret (results_cell_tmp_row rfl _ _ (w.heap.size + 1) 202 _ _ _ rfl (heap_alloc2_new _ _ _) Try.underlying202 rfl (by kernel_rfl)) rfl ⟨rfl, ((Keep.refl [] w).alloc _).alloc _⟩
  by_cases a7 : 32 < rs
  · clear H
    go_enter Try.func111, Try.ntmps111
    go_wp2
    exact bodyPost_ret (results_cell_tmp_row rfl _ _ (w.heap.size + 1) 202 _ _ _ rfl (heap_alloc2_new _ _ _) Try.underlying202 rfl (by kernel_rfl)) rfl ⟨rfl, ((Keep.refl [] w).alloc _).alloc _⟩
  by_cases a8 : lg < 4
  · clear H
    go_enter Try.func111, Try.ntmps111
    go_wp2
    exact bodyPost_ret (results_cell_tmp_row rfl _ _ (w.heap.size + 1) 202 _ _ _ rfl (heap_alloc2_new _ _ _) Try.underlying202 rfl (by kernel_rfl)) rfl ⟨rfl, ((Keep.refl [] w).alloc _).alloc _⟩
  by_cases a9 : 256 < lg
  · clear H
    go_enter Try.func111, Try.ntmps111
    go_wp2
    exact bodyPost_ret (results_cell_tmp_row rfl _ _ (w.heap.size + 1) 202 _ _ _ rfl (heap_alloc2_new _ _ _) Try.underlying202 rfl (by kernel_rfl)) rfl ⟨rfl, ((Keep.refl [] w).alloc _).alloc _⟩
  by_cases a10 : dep < 0
  · clear H
    go_enter Try.func111, Try.ntmps111
    go_wp2
    exact bodyPost_ret (results_cell_tmp_row rfl _ _ (w.heap.size + 1) 202 _ _ _ rfl (heap_alloc2_new _ _ _) Try.underlying202 rfl (by kernel_rfl)) rfl ⟨rfl, ((Keep.refl [] w).alloc _).alloc _⟩
  by_cases a11 : 8 < dep
  · clear H
    go_enter Try.func111, Try.ntmps111
    go_wp2
    exact bodyPost_ret (results_cell_tmp_row rfl _ _ (w.heap.size + 1) 202 _ _ _ rfl (heap_alloc2_new _ _ _) Try.underlying202 rfl (by kernel_rfl)) rfl ⟨rfl, ((Keep.refl [] w).alloc _).alloc _⟩
  by_cases a12 : mem < 8
  · clear H
    go_enter Try.func111, Try.ntmps111
    go_wp2
    exact bodyPost_ret (results_cell_tmp_row rfl _ _ (w.heap.size + 1) 202 _ _ _ rfl (heap_alloc2_new _ _ _) Try.underlying202 rfl (by kernel_rfl)) rfl ⟨rfl, ((Keep.refl [] w).alloc _).alloc _⟩
  by_cases a13 : 256 < mem
  · clear H
    go_enter Try.func111, Try.ntmps111
    go_wp2
    exact bodyPost_ret (results_cell_tmp_row rfl _ _ (w.heap.size + 1) 202 _ _ _ rfl (heap_alloc2_new _ _ _) Try.underlying202 rfl (by kernel_rfl)) rfl ⟨rfl, ((Keep.refl [] w).alloc _).alloc _⟩
  refine absurd ?_ H.out
  unfold Pl.Within
  simp only
  refine ⟨⟨?_, ?_⟩, ⟨?_, ?_⟩, ⟨?_, ?_⟩, ⟨?_, ?_⟩, ⟨?_, ?_⟩, ⟨?_, ?_⟩, ?_, ?_⟩ <;> omega

end Go.Proofs.Ytijljdcpajjhhaa
