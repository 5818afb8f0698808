import Derived.Test.YtijljdcpajjhhaaSuperB
import Derived.Outline
/-! The walk of the law SuperNil. -/
namespace Go.Proofs.Ytijljdcpajjhhaa
open Go.RowKit Go.Shelf Sg Go.Sort Go.Proofs
attribute [local go_sem] Oper.semAt_some
set_option linter.unusedSimpArgs false
set_option linter.unusedVariables false

set_option maxRecDepth 100000 in
set_option maxHeartbeats 1000000 in
theorem get_nil (a k p : Int) (w : World) : Calls Try.prog 23 #[.pointer none, .int .i64 a, .int .i64 k, .int .i64 p] w fun e w' => e = .returned (.tuple #[.agg #[.int .i64 0, .int .i64 0, .int .i64 0, .slice none 0 0], .int .i64 1]) ∧ Keep [] w w' := by
  have hA := heap_alloc_new w (.cells #[.int .i64 0, .int .i64 0, .int .i64 0, .slice none 0 0] 39)
  have hk := (Keep.refl [] w).alloc (.cells #[.int .i64 0, .int .i64 0, .int .i64 0, .slice none 0 0] 39)
  have HA := Lib.hid hA
  go_enter Try.func23, Try.ntmps23
  go_wp2_with (refine wpList_store_row rfl 39 (.tmp 8) (.tmp 15) rfl w.heap.size #[.int .i64 0, .int .i64 0, .int .i64 0, .slice none 0 0] rfl rfl 39 _ hA (by kernel_rfl) (by rfl) (by kernel_rfl) ?_)
  refine bodyPost_ret (results_cell_tmp_row rfl _ _ w.heap.size 39 #[.int .i64 0, .int .i64 0, .int .i64 0, .slice none 0 0] _ _ rfl (setRow_heap _ _ _ _ _ _ HA.out) Try.underlying39 rfl (by kernel_rfl)) rfl ⟨rfl, hk.setRow (.inr (Nat.le_refl _)) _⟩

set_option maxRecDepth 100000 in
set_option maxHeartbeats 1000000 in
theorem load_nil (w : World) : Calls Try.prog 69 #[.pointer none] w fun e w' => e = .returned (.tuple #[hd0.v, .int .i64 1]) ∧ Keep [] w w' := by
  have hA := heap_alloc_new w (.cells #[.int .i64 0, .int .i64 0, .int .i64 0, .int .i64 0, .int .i64 0, .int .i64 0, .int .i64 0, .int .u64 0, .int .i64 0, .int .i64 0, .int .i64 0, .int .i64 0, .int .i64 0, .int .i64 0, .int .i64 0] 123)
  have HK := Lib.hid ((Keep.refl [] w).alloc (.cells #[.int .i64 0, .int .i64 0, .int .i64 0, .int .i64 0, .int .i64 0, .int .i64 0, .int .i64 0, .int .u64 0, .int .i64 0, .int .i64 0, .int .i64 0, .int .i64 0, .int .i64 0, .int .i64 0, .int .i64 0] 123))
  have HA := Lib.hid hA
  simp only [Hd.v, Hd.cells, hd0]
  go_enter Try.func69, Try.ntmps69
  go_wp2_with (refine wpList_store_row rfl 123 (.tmp 2) (.tmp 8) rfl w.heap.size #[.int .i64 0, .int .i64 0, .int .i64 0, .int .i64 0, .int .i64 0, .int .i64 0, .int .i64 0, .int .u64 0, .int .i64 0, .int .i64 0, .int .i64 0, .int .i64 0, .int .i64 0, .int .i64 0, .int .i64 0] rfl rfl 123 _ HA.out (by kernel_rfl) (by rfl) (by kernel_rfl) ?_)
  exact bodyPost_ret (results_cell_tmp_row rfl _ _ w.heap.size 123 _ _ _ rfl (setRow_heap _ _ _ _ _ _ HA.out) Try.underlying123 rfl (by kernel_rfl)) rfl ⟨rfl, HK.out.setRow (.inr (Nat.le_refl _)) _⟩
set_option maxRecDepth 100000 in
set_option maxHeartbeats 1000000 in
theorem save_nil (h : Hd) (w : World) : Calls Try.prog 68 #[.pointer none, h.v] w fun e w' => e = .returned (.int .i64 1) ∧ Keep [] w w' := by
  have HK := Lib.hid ((Keep.refl [] w).alloc (.cells h.cells 123))
  simp only [Hd.v, Hd.cells] at HK ⊢
  go_enter Try.func68, Try.ntmps68
  go_wp2
  go_ret
  exact ⟨rfl, HK.out⟩

set_option maxRecDepth 100000 in
set_option maxHeartbeats 2000000 in
theorem headsNil_iter (B : Nat) : Iter2 Try.prog 144 #[.pointer (some ⟨B, 0, none⟩)] (fun (_ : Unit) _ _ => False) [] (fun W => W.cell? ⟨B, 0, none⟩ = some (.pointer none)) (fun _ => True) [] := by
  intro n l J Jx hRd hJ hJx hY W h0 hSt
  refine callsIn_of_wp Try.func144 rfl trivial ?_
  simp only [Try.ntmps144, List.size_toArray, List.length_cons, List.length_nil, Nat.reduceAdd, Nat.reduceSub, Array.replicate_succ, Array.replicate_zero, List.push_toArray, List.append_toArray, List.nil_append, List.cons_append]
  gi_wp2
  refine wpIn_scope_straight ?_
  apply wpIn_seq_k
  intro K hK
  apply wpIn_label
  refine hK _ _ ?_
  clear hK K
  gi_wp2
  gi_loopw [7] (fun i wr => ∃ (k : Nat), k ≤ 2 ∧ i = .int .i64 k ∧ J [] wr) (fun i wr => 2 - (intOf i).toNat)
  case atStart => exact ⟨0, by omega, rfl, h0⟩
  case round =>
    obtain ⟨k, hk2, rfl, hJk⟩ := hrel
    have gB := hRd _ _ hJk
    have HJK := Lib.hid hJk
    clear hJk
    by_cases hlt : k < 2
    · have hlt' : (k : Int) < 2 := by omega
      gi_wp2_with fail
      refine ⟨trivial, wideN _, callsIn_wide.2 ((get_nil k 1 k _).mono ?_)⟩
      rintro e w2 ⟨rfl, k2⟩
      have hA := (Keep.refl [] w2).alloc (.cells #[.int .i64 0, .int .i64 0, .int .i64 0, .slice none 0 0] 39)
      have hJ3 := hJ _ _ _ (hA.mono (by simp)) (hJ _ _ _ (k2.mono (by simp)) HJK.out)
      have HJ3 := Lib.hid hJ3
      clear hA hJ3 k2
      gi_wp2
      case roundEnd =>
        refine ⟨⟨k + 1, by omega, by go_num, HJ3.out⟩, ?_⟩
        simp [intOf]
        omega
    · obtain rfl : k = 2 := by omega
      gi_wp2
      try rw [Exit.noGoto_normal]
      go_end0
      exact ⟨⟨_, rfl⟩, .inl HJK.out⟩

theorem headsFn_nil (w : World) : Calls Try.prog 120 #[.pointer none] w fun e w' => e = .returned (.func (.func 144) #[] #[.pointer (some ⟨w.heap.size, 0, none⟩)]) ∧ w.alloc (.cells #[.pointer none] 26) = w' := by
  go_enter Try.func120, Try.ntmps120
  go_wp2
  go_ret
  exact ⟨rfl, rfl⟩
def NilInv (w : World) (T : Nat) (pre : List Unit) (W : World) : Prop :=
  Keep [] w W ∧ W.cell? ⟨T + 1, 0, none⟩ = some (.pointer none) ∧ W.heap[T]? = some (.cells #[.slice none 0 0] 135 (0, 0))
set_option maxRecDepth 100000 in
set_option maxHeartbeats 1000000 in
set_option maxHeartbeats 4000000 in
theorem heads_nil (w : World) : Calls Try.prog 70 #[.pointer none] w fun e w' => e = .returned (.slice none 0 0) ∧ Keep [] w w' := by
  obtain ⟨T, hT⟩ : ∃ T, w.heap.size = T := ⟨_, rfl⟩
  refine calls_of_marks Try.func70 rfl ?_
  simp only [Try.ntmps70, List.size_toArray, List.length_cons, List.length_nil, Nat.reduceAdd, Nat.reduceSub, Array.replicate_succ, Array.replicate_zero, List.push_toArray, List.append_toArray, List.nil_append, List.cons_append]
  go_wp2_with fail
  refine (headsFn_nil _).mono ?_
  rintro e w3 ⟨rfl, hw3⟩
  have hk3 : Keep [] w w3 := by rw [← hw3]; exact ((Keep.refl [] w).alloc _).alloc _
  have hb3 : w3.heap[T]? = some (.cells #[.slice none 0 0] 135 (0, 0)) := by rw [← hw3, ← hT]; exact heap_alloc2_old _ _ _
  have hd3 : w3.cell? ⟨T + 1, 0, none⟩ = some (.pointer none) := by rw [← hw3, ← hT]; exact cell_of_one (heap_alloc2_new _ _ _)
  have hs3 : w3.heap.size = T + 2 := by rw [← hw3, ← hT]; simp
  clear hw3
  go_wp2_with fail
  refine wp_range3 (n := 3) (gf := 144) (lb := #[.pointer (some ⟨T + 1, 0, none⟩)]) rfl (enters_of Try.func144 (by kernel_rfl) rfl)
    (T := []) (by simp) (headsNil_iter (T + 1))
    (fun x args W W' k h => h) (fun x args W h => h.elim)
    (NilInv w T) (fun _ _ _ => False)
    ?hRd (fun _ _ => trivial) ?hI (fun _ _ _ _ _ h => h) ?h0
    (fun args B0 => { tmps := #[], defers := [] })
    (fun x args B0 W => True) (fun _ _ _ _ _ _ _ _ => trivial)
    (fun x args W K h => h.elim) (fun pre x args B0 W _ _ h => h.elim) ?hdone (fun _ _ _ _ h => h.elim)
  case hRd =>
    rintro pre W ⟨hk, hbx, -⟩ hlt
    exact hbx
  case hI =>
    rintro pre W W' k ⟨hk, hbx, hb⟩
    rw [hs3] at k
    exact ⟨hk.ext k (by simp; omega), k.cell (by simp) hbx, k.blk (by simp; omega) hb⟩
  case h0 =>
    intro W k
    exact ⟨hk3.trans k, k.cell (by simp) hd3, k.blk (by simp) hb3⟩
  case hdone =>
    rintro W ⟨hk, hbx, hb⟩ hD
    have hS := sorted_any (.slice none 0 0) [] W (by decide) (.inl ⟨rfl, rfl⟩)
    have gT := cell_of_one hb
    rw [hs3] at hD
    go_wp2_with fail
    refine hS.mono ?_
    rintro e W2 ⟨rfl, -, hk2⟩
    have hD2 := hk2.blk (by simp [Value.ownBlock]) hD
    have hK3 : ∀ o, Keep [] w (W2.putObj (T + 2) o) := fun o => (hk.ext hk2 (by simp [Value.ownBlock])).putObj (.inr (by omega)) _
    have HK3 := Lib.hid hK3
    clear hk2 hS hK3
    go_wp2
    exact leavesM_one hD2 (results_tmp rfl _ _ _) ⟨rfl, HK3.out _⟩

theorem down_row {m : Dev} (h : m.down = true) : hdRow m = [] := by
  have hr : ∀ a : Int, (m.read a).2 = 4 := fun a => by
    unfold Dev.read Dev.ready
    rw [if_pos h]
    rfl
  have hn : ∀ t : Nat, hdAt m t = none := fun t => by
    unfold hdAt lgot
    rw [if_neg]
    rintro ⟨⟨h1, -⟩, -⟩
    rw [hr] at h1
    cases h1
  unfold hdRow
  rw [hn, hn]
  rfl
theorem down_save {m : Dev} (h : m.down = true) (hw : m.Wf) {x : Hd} (hx : Fine x) (hn : m.n = 60) (hs : m.sz = 96) : hsave m x = (m, 4) := by
  have hg1 : 1 ≤ x.gen := (Hd.code_zero hx.code).2.1
  unfold hsave
  rw [if_neg (by rw [hx.code]; simp), if_pos ⟨by rw [hx.sec, hn]; rfl, by rw [hx.size, hs]; rfl⟩]
  obtain ⟨G, hG⟩ : ∃ G : Nat, x.gen = (G : Int) := ⟨x.gen.toNat, by omega⟩
  have hgt : x.gen % 2 = ((G % 2 : Nat) : Int) := by omega
  have hpl := x.pack_len
  have hlc : lcode m.sz 1 (G % 2 : Nat) (G : Nat) x.pack.length = 0 := lcode_fine (k := 1) (p := G % 2) (s := G) ⟨hw.s1, hw.s2⟩ (by omega) (by omega) (by omega)
  rw [hgt, hG]
  unfold lput
  rw [if_neg (by rw [hlc]; simp)]
  unfold Dev.put Dev.ready
  rw [if_pos h, if_pos (by decide)]
  rfl
end Go.Proofs.Ytijljdcpajjhhaa
