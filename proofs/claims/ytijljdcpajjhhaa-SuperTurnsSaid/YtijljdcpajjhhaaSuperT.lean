import Derived.Test.YtijljdcpajjhhaaSuperB
import Derived.Outline
import Derived.Test.YtijljdcpajjhhaaFlashPast
/-! A plan stored into a head. -/
namespace Go.Proofs.Ytijljdcpajjhhaa
open Go.RowKit Sg
set_option linter.unusedSimpArgs false

/-- eight cells stored one after the other -/
def setP (w : World) (b : Nat) (v0 v1 v2 v3 v4 v5 v6 v7 : Value) : World := (((((((w.setCell ⟨b, 0, none⟩ v0).setCell ⟨b, 1, none⟩ v1).setCell ⟨b, 2, none⟩ v2).setCell ⟨b, 3, none⟩ v3).setCell ⟨b, 4, none⟩ v4).setCell ⟨b, 5, none⟩ v5).setCell ⟨b, 6, none⟩ v6).setCell ⟨b, 7, none⟩ v7
theorem setP_same {w : World} {b : Nat} {t : TypeId} {c0 c1 c2 c3 c4 c5 c6 c7 c8 c9 c10 c11 c12 c13 c14 : Value} (h : w.heap[b]? = some (.cells #[c0, c1, c2, c3, c4, c5, c6, c7, c8, c9, c10, c11, c12, c13, c14] t)) (v0 v1 v2 v3 v4 v5 v6 v7 : Value) :
    (setP w b v0 v1 v2 v3 v4 v5 v6 v7).heap[b]? = some (.cells #[v0, v1, v2, v3, v4, v5, v6, v7, c8, c9, c10, c11, c12, c13, c14] t) := by
  unfold setP
  have h1 := heap_setCell_same _ b 0 _ _ v0 h
  simp only [List.setIfInBounds_toArray, List.set_cons_zero, List.set_cons_succ] at h1
  have h2 := heap_setCell_same _ b 1 _ _ v1 h1
  simp only [List.setIfInBounds_toArray, List.set_cons_zero, List.set_cons_succ] at h2
  have h3 := heap_setCell_same _ b 2 _ _ v2 h2
  simp only [List.setIfInBounds_toArray, List.set_cons_zero, List.set_cons_succ] at h3
  have h4 := heap_setCell_same _ b 3 _ _ v3 h3
  simp only [List.setIfInBounds_toArray, List.set_cons_zero, List.set_cons_succ] at h4
  have h5 := heap_setCell_same _ b 4 _ _ v4 h4
  simp only [List.setIfInBounds_toArray, List.set_cons_zero, List.set_cons_succ] at h5
  have h6 := heap_setCell_same _ b 5 _ _ v5 h5
  simp only [List.setIfInBounds_toArray, List.set_cons_zero, List.set_cons_succ] at h6
  have h7 := heap_setCell_same _ b 6 _ _ v6 h6
  simp only [List.setIfInBounds_toArray, List.set_cons_zero, List.set_cons_succ] at h7
  have h8 := heap_setCell_same _ b 7 _ _ v7 h7
  simp only [List.setIfInBounds_toArray, List.set_cons_zero, List.set_cons_succ] at h8
  exact h8
theorem setP_keep {S : List Nat} {a w : World} (h : Keep S a w) {b : Nat} (hb : b ∈ S ∨ a.heap.size ≤ b) (v0 v1 v2 v3 v4 v5 v6 v7 : Value) : Keep S a (setP w b v0 v1 v2 v3 v4 v5 v6 v7) :=
  (((((((h.setCell hb _).setCell hb _).setCell hb _).setCell hb _).setCell hb _).setCell hb _).setCell hb _).setCell hb _
end Go.Proofs.Ytijljdcpajjhhaa

/-! The walk of the law SuperNil. -/
namespace Go.Proofs.Ytijljdcpajjhhaa
open Go.RowKit Go.Shelf Sg Go.Sort Go.Proofs
attribute [local go_sem] Oper.semAt_some
set_option linter.unusedSimpArgs false
set_option linter.unusedVariables false

set_option maxRecDepth 100000 in
set_option maxHeartbeats 1000000 in
theorem get_nil (a k p : Int) (w : World) : Calls Try.prog 23 #[.pointer none, .int .i64 a, .int .i64 k, .int .i64 p] w fun e w' => e = .returned (.tuple #[.agg #[.int .i64 0, .int .i64 0, .int .i64 0, .slice none 0 0], .int .i64 1]) ∧ Keep [] w w' := by
  have hA := heap_alloc_new w (.cells #[.int .i64 0, .int .i64 0, .int .i64 0, .slice none 0 0] 39)
  have hk := (Keep.refl [] w).alloc (.cells #[.int .i64 0, .int .i64 0, .int .i64 0, .slice none 0 0] 39)
  have HA := Lib.hid hA
  go_enter Try.func23, Try.ntmps23
  go_wp2_with (refine wpList_store_row rfl 39 (.tmp 8) (.tmp 15) rfl w.heap.size #[.int .i64 0, .int .i64 0, .int .i64 0, .slice none 0 0] rfl rfl 39 _ hA (by kernel_rfl) (by rfl) (by kernel_rfl) ?_)
  refine bodyPost_ret (results_cell_tmp_row rfl _ _ w.heap.size 39 #[.int .i64 0, .int .i64 0, .int .i64 0, .slice none 0 0] _ _ rfl (setRow_heap _ _ _ _ _ _ HA.out) Try.underlying39 rfl (by kernel_rfl)) rfl ⟨rfl, hk.setRow (.inr (Nat.le_refl _)) _⟩

set_option maxRecDepth 100000 in
set_option maxHeartbeats 1000000 in
theorem load_nil (w : World) : Calls Try.prog 69 #[.pointer none] w fun e w' => e = .returned (.tuple #[hd0.v, .int .i64 1]) ∧ Keep [] w w' := by
  have hA := heap_alloc_new w (.cells #[.int .i64 0, .int .i64 0, .int .i64 0, .int .i64 0, .int .i64 0, .int .i64 0, .int .i64 0, .int .u64 0, .int .i64 0, .int .i64 0, .int .i64 0, .int .i64 0, .int .i64 0, .int .i64 0, .int .i64 0] 123)
  have HK := Lib.hid ((Keep.refl [] w).alloc (.cells #[.int .i64 0, .int .i64 0, .int .i64 0, .int .i64 0, .int .i64 0, .int .i64 0, .int .i64 0, .int .u64 0, .int .i64 0, .int .i64 0, .int .i64 0, .int .i64 0, .int .i64 0, .int .i64 0, .int .i64 0] 123))
  have HA := Lib.hid hA
  simp only [Hd.v, Hd.cells, hd0]
  go_enter Try.func69, Try.ntmps69
  go_wp2_with (refine wpList_store_row rfl 123 (.tmp 2) (.tmp 8) rfl w.heap.size #[.int .i64 0, .int .i64 0, .int .i64 0, .int .i64 0, .int .i64 0, .int .i64 0, .int .i64 0, .int .u64 0, .int .i64 0, .int .i64 0, .int .i64 0, .int .i64 0, .int .i64 0, .int .i64 0, .int .i64 0] rfl rfl 123 _ HA.out (by kernel_rfl) (by rfl) (by kernel_rfl) ?_)
  exact bodyPost_ret (results_cell_tmp_row rfl _ _ w.heap.size 123 _ _ _ rfl (setRow_heap _ _ _ _ _ _ HA.out) Try.underlying123 rfl (by kernel_rfl)) rfl ⟨rfl, HK.out.setRow (.inr (Nat.le_refl _)) _⟩
set_option maxRecDepth 100000 in
set_option maxHeartbeats 1000000 in
theorem save_nil (h : Hd) (w : World) : Calls Try.prog 68 #[.pointer none, h.v] w fun e w' => e = .returned (.int .i64 1) ∧ Keep [] w w' := by
  have HK := Lib.hid ((Keep.refl [] w).alloc (.cells h.cells 123))
  simp only [Hd.v, Hd.cells] at HK ⊢
  go_enter Try.func68, Try.ntmps68
  go_wp2
  go_ret
  exact ⟨rfl, HK.out⟩

set_option maxRecDepth 100000 in
set_option maxHeartbeats 2000000 in
theorem headsNil_iter (B : Nat) : Iter2 Try.prog 144 #[.pointer (some ⟨B, 0, none⟩)] (fun (_ : Unit) _ _ => False) [] (fun W => W.cell? ⟨B, 0, none⟩ = some (.pointer none)) (fun _ => True) [] := by
  intro n l J Jx hRd hJ hJx hY W h0 hSt
  refine callsIn_of_wp Try.func144 rfl trivial ?_
  simp only [Try.ntmps144, List.size_toArray, List.length_cons, List.length_nil, Nat.reduceAdd, Nat.reduceSub, Array.replicate_succ, Array.replicate_zero, List.push_toArray, List.append_toArray, List.nil_append, List.cons_append]
  gi_wp2
  refine wpIn_scope_straight ?_
  apply wpIn_seq_k
  intro K hK
  apply wpIn_label
  refine hK _ _ ?_
  clear hK K
  gi_wp2
  gi_loopw [7] (fun i wr => ∃ (k : Nat), k ≤ 2 ∧ i = .int .i64 k ∧ J [] wr) (fun i wr => 2 - (intOf i).toNat)
  case atStart => exact ⟨0, by omega, rfl, h0⟩
  case round =>
    obtain ⟨k, hk2, rfl, hJk⟩ := hrel
    have gB := hRd _ _ hJk
    have HJK := Lib.hid hJk
    clear hJk
    by_cases hlt : k < 2
    · have hlt' : (k : Int) < 2 := by omega
      gi_wp2_with fail
      refine ⟨trivial, wideN _, callsIn_wide.2 ((get_nil k 1 k _).mono ?_)⟩
      rintro e w2 ⟨rfl, k2⟩
      have hA := (Keep.refl [] w2).alloc (.cells #[.int .i64 0, .int .i64 0, .int .i64 0, .slice none 0 0] 39)
      have hJ3 := hJ _ _ _ (hA.mono (by simp)) (hJ _ _ _ (k2.mono (by simp)) HJK.out)
      have HJ3 := Lib.hid hJ3
      clear hA hJ3 k2
      gi_wp2
      case roundEnd =>
        refine ⟨⟨k + 1, by omega, by go_num, HJ3.out⟩, ?_⟩
        simp [intOf]
        omega
    · obtain rfl : k = 2 := by omega
      gi_wp2
      try rw [Exit.noGoto_normal]
      go_end0
      exact ⟨⟨_, rfl⟩, .inl HJK.out⟩

theorem headsFn_nil (w : World) : Calls Try.prog 120 #[.pointer none] w fun e w' => e = .returned (.func (.func 144) #[] #[.pointer (some ⟨w.heap.size, 0, none⟩)]) ∧ w.alloc (.cells #[.pointer none] 26) = w' := by
  go_enter Try.func120, Try.ntmps120
  go_wp2
  go_ret
  exact ⟨rfl, rfl⟩
def NilInv (w : World) (T : Nat) (pre : List Unit) (W : World) : Prop :=
  Keep [] w W ∧ W.cell? ⟨T + 1, 0, none⟩ = some (.pointer none) ∧ W.heap[T]? = some (.cells #[.slice none 0 0] 135 (0, 0))
set_option maxRecDepth 100000 in
set_option maxHeartbeats 1000000 in
set_option maxHeartbeats 4000000 in
theorem heads_nil (w : World) : Calls Try.prog 70 #[.pointer none] w fun e w' => e = .returned (.slice none 0 0) ∧ Keep [] w w' := by
  obtain ⟨T, hT⟩ : ∃ T, w.heap.size = T := ⟨_, rfl⟩
  refine calls_of_marks Try.func70 rfl ?_
  simp only [Try.ntmps70, List.size_toArray, List.length_cons, List.length_nil, Nat.reduceAdd, Nat.reduceSub, Array.replicate_succ, Array.replicate_zero, List.push_toArray, List.append_toArray, List.nil_append, List.cons_append]
  go_wp2_with fail
  refine (headsFn_nil _).mono ?_
  rintro e w3 ⟨rfl, hw3⟩
  have hk3 : Keep [] w w3 := by rw [← hw3]; exact ((Keep.refl [] w).alloc _).alloc _
  have hb3 : w3.heap[T]? = some (.cells #[.slice none 0 0] 135 (0, 0)) := by rw [← hw3, ← hT]; exact heap_alloc2_old _ _ _
  have hd3 : w3.cell? ⟨T + 1, 0, none⟩ = some (.pointer none) := by rw [← hw3, ← hT]; exact cell_of_one (heap_alloc2_new _ _ _)
  have hs3 : w3.heap.size = T + 2 := by rw [← hw3, ← hT]; simp
  clear hw3
  go_wp2_with fail
  refine wp_range3 (n := 3) (gf := 144) (lb := #[.pointer (some ⟨T + 1, 0, none⟩)]) rfl (enters_of Try.func144 (by kernel_rfl) rfl)
    (T := []) (by simp) (headsNil_iter (T + 1))
    (fun x args W W' k h => h) (fun x args W h => h.elim)
    (NilInv w T) (fun _ _ _ => False)
    ?hRd (fun _ _ => trivial) ?hI (fun _ _ _ _ _ h => h) ?h0
    (fun args B0 => { tmps := #[], defers := [] })
    (fun x args B0 W => True) (fun _ _ _ _ _ _ _ _ => trivial)
    (fun x args W K h => h.elim) (fun pre x args B0 W _ _ h => h.elim) ?hdone (fun _ _ _ _ h => h.elim)
  case hRd =>
    rintro pre W ⟨hk, hbx, -⟩ hlt
    exact hbx
  case hI =>
    rintro pre W W' k ⟨hk, hbx, hb⟩
    rw [hs3] at k
    exact ⟨hk.ext k (by simp; omega), k.cell (by simp) hbx, k.blk (by simp; omega) hb⟩
  case h0 =>
    intro W k
    exact ⟨hk3.trans k, k.cell (by simp) hd3, k.blk (by simp) hb3⟩
  case hdone =>
    rintro W ⟨hk, hbx, hb⟩ hD
    have hS := sorted_any (.slice none 0 0) [] W (by decide) (.inl ⟨rfl, rfl⟩)
    have gT := cell_of_one hb
    rw [hs3] at hD
    go_wp2_with fail
    refine hS.mono ?_
    rintro e W2 ⟨rfl, -, hk2⟩
    have hD2 := hk2.blk (by simp [Value.ownBlock]) hD
    have hK3 : ∀ o, Keep [] w (W2.putObj (T + 2) o) := fun o => (hk.ext hk2 (by simp [Value.ownBlock])).putObj (.inr (by omega)) _
    have HK3 := Lib.hid hK3
    clear hk2 hS hK3
    go_wp2
    exact leavesM_one hD2 (results_tmp rfl _ _ _) ⟨rfl, HK3.out _⟩

theorem down_row {m : Dev} (h : m.down = true) : hdRow m = [] := by
  have hr : ∀ a : Int, (m.read a).2 = 4 := fun a => by
    unfold Dev.read Dev.ready
    rw [if_pos h]
    rfl
  have hn : ∀ t : Nat, hdAt m t = none := fun t => by
    unfold hdAt lgot
    rw [if_neg]
    rintro ⟨⟨h1, -⟩, -⟩
    rw [hr] at h1
    cases h1
  unfold hdRow
  rw [hn, hn]
  rfl
theorem down_save {m : Dev} (h : m.down = true) (hw : m.Wf) {x : Hd} (hx : Fine x) (hn : m.n = 60) (hs : m.sz = 96) : hsave m x = (m, 4) := by
  have hg1 : 1 ≤ x.gen := (Hd.code_zero hx.code).2.1
  unfold hsave
  rw [if_neg (by rw [hx.code]; simp), if_pos ⟨by rw [hx.sec, hn]; rfl, by rw [hx.size, hs]; rfl⟩]
  obtain ⟨G, hG⟩ : ∃ G : Nat, x.gen = (G : Int) := ⟨x.gen.toNat, by omega⟩
  have hgt : x.gen % 2 = ((G % 2 : Nat) : Int) := by omega
  have hpl := x.pack_len
  have hlc : lcode m.sz 1 (G % 2 : Nat) (G : Nat) x.pack.length = 0 := lcode_fine (k := 1) (p := G % 2) (s := G) ⟨hw.s1, hw.s2⟩ (by omega) (by omega) (by omega)
  rw [hgt, hG]
  unfold lput
  rw [if_neg (by rw [hlc]; simp)]
  unfold Dev.put Dev.ready
  rw [if_pos h, if_pos (by decide)]
  rfl
end Go.Proofs.Ytijljdcpajjhhaa

/-! A head ahead stays: the plain law of a save that is torn. -/
namespace Go.Proofs.Ytijljdcpajjhhaa
open Go.RowKit Sg
set_option linter.unusedSimpArgs false
set_option linter.unusedVariables false

theorem save_law2 {m : Dev} (hu : Up m) {h : Hd} (hf : Fine h) : ∃ (G : Nat), h.gen = (G : Int) ∧ (lbuild 96 1 (G % 2) G h.pack).length = 96 ∧ ls (lbuild 96 1 (G % 2) G h.pack) = G ∧ hsave m h = (m.write (G % 2) (lbuild 96 1 (G % 2) G h.pack), 0) ∧
    ∀ m' : Dev, m'.down = false → m'.n = 60 → m'.sz = 96 → m'.get (G % 2) = lbuild 96 1 (G % 2) G h.pack → hdAt m' (G % 2) = some h := by
  obtain ⟨t, b, h1, h2, h3, h4, h5⟩ := save_law hu.wf hu.dn hu.ar (by rw [hu.n]; decide) h hf.code hf.seed hf.inn (by rw [hf.sec, hu.n]; rfl) (by rw [hf.size, hu.sz]; rfl)
  have hg1 : 1 ≤ h.gen := (Hd.code_zero hf.code).2.1
  have hg2 : h.gen ≤ 9223372036854775807 := hf.inn.2.1.2
  obtain ⟨G, hG⟩ : ∃ G : Nat, h.gen = (G : Int) := ⟨h.gen.toNat, by omega⟩
  have hgt : h.gen % 2 = ((G % 2 : Nat) : Int) := by omega
  obtain rfl : t = G % 2 := by omega
  have hpl := h.pack_len
  have hlc : lcode 96 1 (G % 2 : Nat) (G : Nat) h.pack.length = 0 := lcode_fine (size := 96) (k := 1) (p := G % 2) (s := G) ⟨by decide, by decide⟩ (by omega) (by omega) (by rw [hpl]; decide)
  obtain ⟨b1, b2, b3, b4, b5, b6, b7⟩ := leaf_back 96 1 (G % 2) G h.pack hlc (by omega)
  have hsz := hu.sz
  have hput := lput_up hu.wf hu.dn hu.ar (n := G % 2) (k := 1) (p := G % 2) (s := G) (by rw [hu.n]; omega) (by omega) (by omega) (b := h.pack) (by omega)
  have hsv : hsave m h = (m.write (G % 2) (lbuild 96 1 (G % 2) G h.pack), 0) := by
    unfold hsave
    rw [if_neg (by rw [hf.code]; simp), if_pos ⟨by rw [hf.sec, hu.n]; rfl, by rw [hf.size, hu.sz]; rfl⟩, hgt, hG]
    rw [hsz] at hput
    exact hput
  have hb : b = lbuild 96 1 (G % 2) G h.pack := by
    rw [h4] at hsv
    have e := congrArg (fun p : Dev × Int => p.1.get (G % 2)) hsv
    simpa [Dev.get_write] using e
  refine ⟨G, hG, b7, ?_, hsv, fun m' d1 e1 e2 e3 => h5 m' d1 (by rw [e1, hu.n]) (by rw [e2, hu.sz]) (by rw [e3, hb])⟩
  first | exact b4 | exact b3 | exact b5

theorem leOf_zeros : ∀ n, leOf (List.replicate n 0) = 0
  | 0 => rfl
  | n + 1 => by rw [List.replicate_succ, leOf, leOf_zeros n]; rfl
/-- what a torn sector may be read as -/
theorem torn_gen {Bb T : List UInt8} {f : Nat} (hB : Bb.length = 96) (hf : f ≤ 96) (hT : T = Bb.take f ++ (List.replicate 96 0).drop f) {m : Dev} {t : Nat} {y : Hd} (hr : m.read (t : Int) = (T, 0)) (hy : hdAt m t = some y) : y.gen = (ls Bb : Int) := by
  unfold hdAt at hy
  rw [hr] at hy
  simp only at hy
  split at hy
  · rename_i hc
    obtain ⟨-, -, hU, -⟩ := hc
    cases hy
    show ((ls T : Nat) : Int) = _
    by_cases h15 : f ≤ 15
    · exfalso
      have hd : T.drop 15 = List.replicate 81 0 := by
        have h1 : (Bb.take f).drop 15 = [] := List.drop_eq_nil_of_le (by rw [List.length_take]; omega)
        rw [hT, List.drop_append, h1, List.nil_append, List.length_take, hB, Nat.min_eq_left hf, List.drop_drop, List.drop_replicate]
        congr 1
        omega
      have hfit := (Hd.code_zero hU.2).1
      have hw := hfit.1
      have hl := hU.1
      unfold ll at hw hl
      rw [hd] at hw hl
      rw [List.take_replicate] at hw hl
      simp only [List.length_replicate] at hl
      rw [hl] at hw
      have hs : (96 : Int) ≤ (of63 (ls T) (List.replicate 63 0)).p.size := hw.1.1
      have e : (of63 (ls T) (List.replicate 63 0)).p.size = 0 := by
        show ((leOf ((((List.replicate 63 (0 : UInt8)).take 26).drop 4).take 4) : Nat) : Int) = 0
        rw [List.take_replicate, List.drop_replicate, List.take_replicate, leOf_zeros]
        rfl
      omega
    · have e : T.take 15 = Bb.take 15 := by
        rw [hT, List.take_append_of_le_length (by rw [List.length_take]; omega), List.take_take, Nat.min_eq_left (by omega)]
      have e2 : (T.drop 7).take 8 = (Bb.drop 7).take 8 := by
        have := congrArg (fun l => l.drop 7) e
        simp only [List.drop_take] at this
        exact this
      unfold ls
      rw [e2]
  · cases hy

theorem past_two (n j k : Nat) (hne : ¬ j = k) (hk : k < n) (a b : List UInt8) : (((List.replicate n ([] : List (List UInt8))).modify j (· ++ [a])).modify k (· ++ [b])).getD k [] = [b] := by
  rw [List.getD_eq_getElem?_getD]
  simp [List.getElem?_modify, List.getElem?_replicate, hne, hk]

theorem turn_law {A B : Hd} (fa : Fine A) (fb : Fine B) (hg : B.gen = A.gen + 1) (fate : Int) :
    ∃ (m1 m2 m3 : Dev) (T Bb : List UInt8) (tb : Nat) (S : Option Hd), hsave (Dev.new 60 96) A = (m1, 0) ∧ m1.sync = (m2, 0) ∧ hsave m2 B = (m3, 0) ∧ Up (m3.crash [fate]) ∧ (m1.acts = 1 ∧ m2.acts = 2 ∧ m3.acts = 3) ∧
      insSorted (hdRow (m3.crash [fate])) = S.toList ++ [A] ∧ B.gen % 2 = (tb : Int) ∧ (m3.crash [fate]).read (tb : Int) = (T, 0) ∧ (m3.crash [fate]).pasts (tb : Int) = [Bb, List.replicate 96 0] ∧ T.length = 96 ∧ Bb.length = 96 ∧ ((Bb = T ∨ List.replicate 96 0 = T) → S = none ∨ S = some B) := by
  obtain ⟨GA, a1, a2, a3, a4, a5⟩ := save_law2 up_new fa
  obtain ⟨LA, hLA⟩ : ∃ LA, lbuild 96 1 (GA % 2) GA A.pack = LA := ⟨_, rfl⟩
  rw [hLA] at a2 a3 a4 a5
  obtain ⟨m1, hm1⟩ : ∃ m1, (Dev.new 60 96).write (GA % 2) LA = m1 := ⟨_, rfl⟩
  rw [hm1] at a4
  have u1 : Up m1 := by rw [← hm1]; exact ⟨up_new.wf.write (by show _ < 60; omega) a2, rfl, rfl, rfl, rfl⟩
  have hs1 : m1.sync = (m1.synced, 0) := by rw [← hm1]; rfl
  have u2 : Up m1.synced := ⟨u1.wf.synced, by rw [← hm1]; rfl, by rw [← hm1]; rfl, by rw [← hm1]; rfl, by rw [← hm1]; rfl⟩
  have hl1 : m1.loose = [(GA % 2, LA)] := by rw [← hm1]; rfl
  have hf1 : m1.fast = List.replicate 60 (List.replicate 96 0) := by rw [← hm1]; rfl
  obtain ⟨GB, b1, b2, b3, b4, b5⟩ := save_law2 u2 fb
  obtain ⟨LB, hLB⟩ : ∃ LB, lbuild 96 1 (GB % 2) GB B.pack = LB := ⟨_, rfl⟩
  rw [hLB] at b2 b3 b4 b5
  obtain ⟨m3, hm3⟩ : ∃ m3, m1.synced.write (GB % 2) LB = m3 := ⟨_, rfl⟩
  rw [hm3] at b4
  have hne : ¬ GA % 2 = GB % 2 := by omega
  have u3 : Up m3 := by rw [← hm3]; exact ⟨u2.wf.write (by rw [u2.n]; omega) (by rw [u2.sz]; exact b2), (Dev.write_same _ _ _ u2.dn u2.ar).1, (Dev.write_same _ _ _ u2.dn u2.ar).2.1, by rw [(Dev.write_same _ _ _ u2.dn u2.ar).2.2.1, u2.n], by rw [(Dev.write_same _ _ _ u2.dn u2.ar).2.2.2.1, u2.sz]⟩
  have u4 : Up (m3.crash [fate]) := ⟨u3.wf.crash _, rfl, rfl, u3.n, u3.sz⟩
  have hl3 : m3.loose = [(GB % 2, LB)] := by rw [← hm3]; rfl
  have hf3 : m3.fast = (List.replicate 60 (List.replicate 96 0)).set (GA % 2) LA := by
    rw [← hm3]
    show m1.synced.fast = _
    show m1.loose.foldl (fun f p => f.set p.1 p.2) m1.fast = _
    rw [hl1, hf1]
    rfl
  obtain ⟨f, hf⟩ : ∃ f, Sg.fate [fate] 96 0 = f := ⟨_, rfl⟩
  have hf96 : f ≤ 96 := by rw [← hf]; exact fate_le _ _ _
  have hz : (m3.fast.getD (GB % 2) []) = List.replicate 96 0 := by
    rw [hf3, List.getD_eq_getElem?_getD, List.getElem?_set, if_neg hne, List.getElem?_replicate, if_pos (by omega)]
    rfl
  have hf4 : (m3.crash [fate]).fast = m3.fast.set (GB % 2) (LB.take f ++ (List.replicate 96 0).drop f) := by
    show torn m3.sz [fate] m3.fast 0 m3.loose = _
    rw [hl3, u3.sz]
    show tear 96 [fate] m3.fast 0 (GB % 2, LB) = _
    unfold tear
    rw [hf, hz]
  have hget : ∀ j, j < 60 → (m3.crash [fate]).get j = if GB % 2 = j then LB.take f ++ (List.replicate 96 0).drop f else if GA % 2 = j then LA else List.replicate 96 0 := by
    intro j hj
    show ((lastOf [] j).getD ((m3.crash [fate]).fast.getD j [])) = _
    show (m3.crash [fate]).fast.getD j [] = _
    rw [hf4, hf3, List.getD_eq_getElem?_getD, List.getElem?_set, List.getElem?_set, List.getElem?_replicate]
    simp only [List.length_set, List.length_replicate]
    by_cases h1 : GB % 2 = j
    · rw [if_pos h1, if_pos (by omega), if_pos h1]; rfl
    · rw [if_neg h1, if_neg h1]
      by_cases h2 : GA % 2 = j
      · rw [if_pos h2, if_pos (by omega), if_pos h2]; rfl
      · rw [if_neg h2, if_neg h2, if_pos hj]; rfl
  obtain ⟨T, hT⟩ : ∃ T, LB.take f ++ (List.replicate 96 0).drop f = T := ⟨_, rfl⟩
  rw [hT] at hget
  have hTl : T.length = 96 := by rw [← hT]; simp [b2]; omega
  have hrd := read_up u4.dn (n := GB % 2) (by rw [u4.n]; omega)
  rw [hget _ (by omega), if_pos rfl] at hrd
  have hA : hdAt (m3.crash [fate]) (GA % 2) = some A := a5 _ u4.dn u4.n u4.sz (by rw [hget _ (by omega), if_neg (fun e => hne e.symm), if_pos rfl])
  have hgen : ∀ y, hdAt (m3.crash [fate]) (GB % 2) = some y → y.gen = B.gen := fun y hy => by
    rw [torn_gen b2 hf96 hT.symm hrd hy, b3, b1]
  refine ⟨m1, m1.synced, m3, T, LB, GB % 2, hdAt (m3.crash [fate]) (GB % 2), a4, hs1, b4, u4, ⟨by rw [← hm1]; rfl, by rw [← hm1]; rfl, by rw [← hm3, ← hm1]; rfl⟩, ?_, by omega, hrd, ?_, hTl, b2, ?_⟩
  · have hrow : hdRow (m3.crash [fate]) = (hdAt (m3.crash [fate]) 0).toList ++ (hdAt (m3.crash [fate]) 1).toList := rfl
    rw [hrow]
    cases hS : hdAt (m3.crash [fate]) (GB % 2) with
    | none =>
      rcases (by omega : GB % 2 = 0 ∧ GA % 2 = 1 ∨ GB % 2 = 1 ∧ GA % 2 = 0) with ⟨e1, e2⟩ | ⟨e1, e2⟩
      · rw [e1] at hS; rw [e2] at hA; rw [hS, hA]; rfl
      · rw [e1] at hS; rw [e2] at hA; rw [hS, hA]; rfl
    | some y =>
      have hyg := hgen y hS
      rcases (by omega : GB % 2 = 0 ∧ GA % 2 = 1 ∨ GB % 2 = 1 ∧ GA % 2 = 0) with ⟨e1, e2⟩ | ⟨e1, e2⟩
      · rw [e1] at hS; rw [e2] at hA; rw [hS, hA]
        show (if y.gen < A.gen then [A, y] else [y, A]) = [y, A]
        rw [if_neg (by omega)]
      · rw [e1] at hS; rw [e2] at hA; rw [hS, hA]
        show (if A.gen < y.gen then [y, A] else [A, y]) = [y, A]
        rw [if_pos (by omega)]
  · unfold Dev.pasts
    rw [if_pos ⟨by omega, by rw [u4.n]; omega⟩]
    have hp3 : m3.past = ((List.replicate 60 []).modify (GA % 2) (· ++ [LA])).modify (GB % 2) (· ++ [LB]) := by
      rw [← hm3, ← hm1]
      rfl
    have hp4 : (m3.crash [fate]).past.getD (((GB % 2 : Nat) : Int)).toNat [] = [LB] := by
      show m3.past.getD _ _ = _
      have hlt : GB % 2 < 60 := by omega
      rw [hp3, Int.toNat_natCast]
      exact past_two 60 _ _ hne hlt _ _
    rw [hp4, u4.sz]
    rfl
  · rintro (h | h)
    · right
      exact b5 _ u4.dn u4.n u4.sz (by rw [hget _ (by omega), if_pos rfl, h])
    · left
      unfold hdAt
      rw [hrd, if_neg]
      rintro ⟨⟨-, hok, -⟩, -⟩
      rw [hrd, ← h] at hok
      exact zeros_no 96 hok
end Go.Proofs.Ytijljdcpajjhhaa
