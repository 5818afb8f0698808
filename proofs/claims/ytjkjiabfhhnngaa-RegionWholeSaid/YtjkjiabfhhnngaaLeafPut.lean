import Derived.Test.YtjkjiabfhhnngaaFlash10
import Derived.Test.YtjkjiabfhhnngaaLeafKit
/-! The walks of leaf's Put and Get. -/
namespace Go.Proofs.Ytjkjiabfhhnngaa
open Go.RowKit Go.Shelf Sg
set_option linter.unusedSimpArgs false
set_option linter.unusedVariables false

/-- what a put leaves, and its number -/
def lput (m : Dev) (a k p s : Int) (l : List UInt8) : Dev × Int :=
  if lcode m.sz k p s l.length ≠ 0 then (m, lcode m.sz k p s l.length) else ((m.put a (lbuild m.sz k.toNat p.toNat s.toNat l)).1, ((m.put a (lbuild m.sz k.toNat p.toNat s.toNat l)).2 : Int))

set_option maxRecDepth 100000 in
set_option maxHeartbeats 1000000 in
set_option maxHeartbeats 4000000 in
theorem leafPut_any (w : World) (D : List Nat) (g : Nat) (m : Dev) (h : DV w D g m) (hacts : m.acts ≤ 1000000000) (a k p s : Int) (hs : s ≤ 9223372036854775807) (v : Value) (l : List UInt8) (hv : Bytes w v l) :
    Calls Try.prog 40 #[.pointer (some ⟨g, 0, none⟩), .int .i64 a, .agg #[.int .i64 k, .int .i64 p, .int .i64 s, v]] w fun e w' => e = .returned (.int .i64 (lput m a k p s l).2) ∧ ∃ D', DV w' D' g (lput m a k p s l).1 ∧ Grew w D D' ∧ Keep D w w' := by
  obtain ⟨va, vc, rfl, -, hvm, -⟩ := hv.form
  have hA := (Keep.refl [] w).alloc (.cells #[.int .i64 k, .int .i64 p, .int .i64 s, .slice va l.length vc] 74)
  have hB := heap_alloc_new w (.cells #[.int .i64 k, .int .i64 p, .int .i64 s, .slice va l.length vc] 74)
  have hbd : ∀ v' w', Bytes w' v' l → _ := fun v' w' hv' => lbuild_any (m.sz : Int) k p s hs v' l w' hv'
  have hwf := h.1
  have HBD := Lib.hid hbd
  have HH := Lib.hid h
  have HV := Lib.hid hv
  have HA := Lib.hid hA
  have HB := Lib.hid hB
  clear hbd h hv hA hB
  go_enter Try.func40, Try.ntmps40
  go_wp2_with fail
  refine wp_region_his [] [3] (fun _ => 0) (by kernel_rfl) (by kernel_rfl) ?_
  intro w2 hk2 hh
  clear hh
  have hk02 : Keep [] w w2 := HA.out.trans hk2
  have hB2 := hk2.blk (by simp) HB.out
  have q0 := fun w' (h' : Keep [] w2 w') => cell_of_row w' _ 0 _ _ _ (h'.blk (by simp) hB2)
  have q1 := fun w' (h' : Keep [] w2 w') => cell_of_row w' _ 1 _ _ _ (h'.blk (by simp) hB2)
  have q2 := fun w' (h' : Keep [] w2 w') => cell_of_row w' _ 2 _ _ _ (h'.blk (by simp) hB2)
  have q3 := fun w' (h' : Keep [] w2 w') => cell_of_row w' _ 3 _ _ _ (h'.blk (by simp) hB2)
  simp at q0 q1 q2 q3
  clear hB2
  (refine his_q rfl rfl (fun K hK => ?_); apply Exists.intro; refine ⟨fun w' hC => ?_, ?_⟩; ((try simp [Sg.upd] at hC); go_simp <;> rfl); go_simp; refine hK _ _ ?_; clear hK K)
  refine his_c rfl rfl (.int .i64 (m.sz : Int)) (fun K hK => ?_)
  refine ⟨fun w' hC => Yields.call 16 #[.pointer (some ⟨g, 0, none⟩)] ?_ (by kernel_rfl) ?_, ?_⟩
  · go_simp
  · have hC' : Keep [] w2 w' := hC
    exact size_dev_any w' D g m (HH.out.keep (hk02.trans hC') (by simp))
  go_simp
  refine hK _ _ ?_
  clear hK K
  (refine his_q rfl rfl (fun K hK => ?_); apply Exists.intro; refine ⟨fun w' hC => ?_, ?_⟩; ((try simp [Sg.upd] at hC); go_simp <;> rfl); go_simp; refine hK _ _ ?_; clear hK K)
  (refine his_l rfl rfl (fun K hK => ?_); go_simp)
  refine (HBD.out _ _ (HV.out.keep hk02 (by simp))).mono ?_
  rintro x w3 ⟨v3, rfl, ho3, hk3⟩
  refine hK _ _ hk3 ?_
  clear hK K q0 q1 q2 q3
  (repeat (first | (refine his_q rfl rfl (fun K hK => ?_); apply Exists.intro; refine ⟨fun w' hC => ?_, ?_⟩; ((try simp [Sg.upd] at hC); go_simp <;> rfl); go_simp; refine hK _ _ ?_; clear hK K) | (refine his_s rfl (fun K hK => ?_); go_simp; refine hK _ _ ?_; clear hK K)))
  refine his_nil ?_
  have hk03 := hk02.trans hk3
  have h3 := HH.out.keep hk03 (by simp)
  by_cases hz : lcode m.sz k p s l.length = 0
  · rw [hz] at ho3
    rw [if_pos rfl, Int.toNat_natCast] at ho3
    obtain ⟨z1, z2, z3, z4, z5⟩ := lcode_zero hz
    have hll := lbuild_len m.sz k.toNat p.toNat s.toNat l (by omega) (by omega)
    have e1 : lput m a k p s l = ((m.put a (lbuild m.sz k.toNat p.toNat s.toNat l)).1, ((m.put a (lbuild m.sz k.toNat p.toNat s.toNat l)).2 : Int)) := by
      unfold lput
      rw [if_neg (by rw [hz]; simp)]
    rw [hz]
    have E1 := Lib.hid e1
    clear e1
    generalize lbuild m.sz k.toNat p.toNat s.toNat l = L at *
    have hw := write_any w3 D g m h3 hacts a v3 L (ho3.bytes (by have := hwf.s2; omega))
    clear HBD HV HA HB
    go_wp2_with fail
    refine hw.mono ?_
    rintro e w4 ⟨rfl, D4, hD4, hG4, hK4⟩
    clear hw
    go_wp2
    go_ret
    refine ⟨by rw [E1.out]; rfl, D4, by rw [E1.out]; exact hD4, ⟨hG4.1, fun b hb => (hG4.2 b hb).elim .inl (fun h => .inr (Nat.le_trans hk03.size h))⟩, (hk03.mono (by simp)).trans hK4⟩
  · have e1 : lput m a k p s l = (m, lcode m.sz k p s l.length) := by
      unfold lput
      rw [if_pos hz]
    have E1 := Lib.hid e1
    generalize lcode m.sz k p s l.length = rc at *
    have d1 : (rc == 0) = false := by simpa using hz
    have d2 : (rc != 0) = true := by simpa using hz
    clear e1 HBD HV HA HB
    go_wp2
    go_ret
    exact ⟨by rw [E1.out]; rfl, D, by rw [E1.out]; exact h3, Grew.refl _ _, hk03.mono (by simp)⟩

/-- which leaf is got -/
def lgot (m : Dev) (a k p : Int) : Prop := (m.read a).2 = 0 ∧ LeafOk (m.read a).1 ∧ (lk (m.read a).1 : Int) = k ∧ (lp (m.read a).1 : Int) = p
instance (m : Dev) (a k p : Int) : Decidable (lgot m a k p) := by unfold lgot; infer_instance
theorem read_len {m : Dev} (h : m.Wf) {a : Int} (hr : (m.read a).2 = 0) : (m.read a).1.length = m.sz := by
  unfold Dev.read at hr ⊢
  split
  · rename_i h1
    rw [if_pos h1] at hr
    exact absurd hr h1
  · rename_i h1
    have h0 : m.ready a = 0 := by omega
    unfold Dev.ready at h0
    split at h0
    · cases h0
    · split at h0
      · rename_i h2
        exact Dev.get_length h (by omega)
      · cases h0
theorem nu_leaf (a b c : Int) (v : Value) (hv : ∀ n : Int, v ≠ .int .u8 n) : ∀ (i : Nat) (x : Value), (#[Value.int .i64 a, Value.int .i64 b, Value.int .i64 c, v] : Array Value)[i]? = some x → ∀ n : Int, x ≠ Value.int .u8 n := nu4 a b c v hv

set_option maxRecDepth 100000 in
set_option maxHeartbeats 1000000 in
set_option maxHeartbeats 4000000 in
theorem leafGet_any (w : World) (D : List Nat) (g : Nat) (m : Dev) (h : DV w D g m) (hacts : m.acts ≤ 1000000000) (a k p : Int) :
    Calls Try.prog 43 #[.pointer (some ⟨g, 0, none⟩), .int .i64 a, .int .i64 k, .int .i64 p] w fun e w' => Keep [] w w' ∧
      ((lgot m a k p ∧ ∃ v, e = .returned (.tuple #[.agg #[.int .i64 k, .int .i64 p, .int .i64 (ls (m.read a).1 : Int), v], .int .i64 0]) ∧ Bytes w' v (ll (m.read a).1)) ∨
       (¬ lgot m a k p ∧ e = .returned (.tuple #[leaf0, .int .i64 (if (m.read a).2 = 0 then 5 else ((m.read a).2 : Int))]))) := by
  have hwf := h.1
  have hA := (Keep.refl [] w).alloc (.cells #[.int .i64 0, .int .i64 0, .int .i64 0, .slice none 0 0] 74)
  have hB := heap_alloc_new w (.cells #[.int .i64 0, .int .i64 0, .int .i64 0, .slice none 0 0] 74)
  have hR := read_any _ D g m (h.keep hA (by simp)) hacts a
  have hrl := fun hr => read_len hwf (a := a) hr
  have HA := Lib.hid hA
  have HB := Lib.hid hB
  have HR := Lib.hid hR
  have HRL := Lib.hid hrl
  have hlg : lgot m a k p ↔ ((m.read a).2 = 0 ∧ LeafOk (m.read a).1 ∧ (lk (m.read a).1 : Int) = k ∧ (lp (m.read a).1 : Int) = p) := Iff.rfl
  have HLG := Lib.hid hlg
  clear hA hB hR hrl h hlg
  have s2 := hwf.s2
  have s1 := hwf.s1
  generalize lgot m a k p = LG at *
  generalize (m.read a).1 = bl at *
  generalize (m.read a).2 = rc at *
  have hdisj : (rc = 0 ∨ rc ≠ 0) := by omega
  rcases hdisj with hz | hz
  · subst hz
    have hlen := HRL.out rfl
    have hLR := fun v w' hv => leafRead_in v bl w' hv (by omega)
    have HLR := Lib.hid hLR
    clear hLR
    go_enter Try.func43, Try.ntmps43
    go_wp2_with fail
    refine HR.out.mono ?_
    rintro e w2 ⟨v2, rfl, ho2, hk2⟩
    have hK2 := HA.out.trans hk2
    have hB2 := hk2.blk (by simp) HB.out
    clear HR
    go_wp2_with fail
    refine (HLR.out _ _ (ho2.bytes (by omega))).mono ?_
    rintro e w3 ⟨hk3, hor⟩
    have hK3 := hK2.trans hk3
    have hB3 := hk3.blk (by simp) hB2
    clear ho2 hB2 hk2 hK2 HA HB HLR hk3
    rcases hor with ⟨hok, v, rfl, hbv⟩ | ⟨hok, rfl⟩
    · obtain ⟨va, vc, rfl, -⟩ := hbv.form
      have hB4 := ((Keep.refl [] w3).alloc (.cells #[.int .i64 (lk bl : Int), .int .i64 (lp bl : Int), .int .i64 (ls bl : Int), .slice va (ll bl).length vc] 74)).blk (by simp) hB3
      have hX4 := heap_alloc_new w3 (.cells #[.int .i64 (lk bl : Int), .int .i64 (lp bl : Int), .int .i64 (ls bl : Int), .slice va (ll bl).length vc] 74)
      have hK4 := hK3.alloc (.cells #[.int .i64 (lk bl : Int), .int .i64 (lp bl : Int), .int .i64 (ls bl : Int), .slice va (ll bl).length vc] 74)
      have hbv4 := hbv.keep ((Keep.refl [] w3).alloc (.cells #[.int .i64 (lk bl : Int), .int .i64 (lp bl : Int), .int .i64 (ls bl : Int), .slice va (ll bl).length vc] 74)) (by simp)
      have hset : ∀ cs, Bytes ((w3.alloc (.cells #[.int .i64 (lk bl : Int), .int .i64 (lp bl : Int), .int .i64 (ls bl : Int), .slice va (ll bl).length vc] 74)).setRow w.heap.size cs) (.slice va (ll bl).length vc) (ll bl) := fun cs => bytes_setRow hbv4 (fun h => hbv4.ne_row h hB4 (nu_leaf 0 0 0 _ (by intro n h; cases h))) cs
      have HBV := Lib.hid hset
      have HX4 := Lib.hid hX4
      clear hbv hX4 hB3 hbv4 hset
      by_cases hk1 : (lk bl : Int) = k
      · by_cases hp1 : (lp bl : Int) = p
        · have hLG := Lib.hid (HLG.out.2 ⟨by first | rfl | trivial, hok, hk1, hp1⟩)
          have x0 := cell_of_row _ _ 0 _ _ _ HX4.out
          have x1 := cell_of_row _ _ 1 _ _ _ HX4.out
          have x2 := cell_of_row _ _ 2 _ _ _ HX4.out
          have x3 := cell_of_row _ _ 3 _ _ _ HX4.out
          simp at x0 x1 x2 x3
          subst hk1
          subst hp1
          have hK4 := Lib.hid hK4
          go_wp2_with (refine wpList_store_row rfl 74 (.tmp 8) (.tmp 46) rfl w.heap.size #[.int .i64 (lk bl : Int), .int .i64 (lp bl : Int), .int .i64 (ls bl : Int), .slice va (ll bl).length vc] rfl rfl 74 _ hB4 (by kernel_rfl) (by rfl) (by kernel_rfl) ?_)
          refine bodyPost_ret (results_cell_tmp_row rfl _ _ w.heap.size 74 _ _ _ rfl (setRow_heap _ _ _ _ _ _ hB4) Try.underlying74 rfl (by kernel_rfl)) rfl ⟨hK4.out.setRow (.inr (Nat.le_refl _)) _, .inl ⟨hLG.out, _, rfl, HBV.out _⟩⟩
        · have hLG : Hid (¬ LG) := fun h => hp1 (HLG.out.1 h).2.2.2
          have d1 : ((lp bl : Int) != p) = true := by simpa using hp1
          have x0 := cell_of_row _ _ 0 _ _ _ HX4.out
          have x1 := cell_of_row _ _ 1 _ _ _ HX4.out
          simp at x0 x1
          subst hk1
          have hK4 := Lib.hid hK4
          go_wp2_with (refine wpList_store_row rfl 74 (.tmp 8) (.tmp 45) rfl w.heap.size #[.int .i64 0, .int .i64 0, .int .i64 0, .slice none 0 0] rfl rfl 74 _ hB4 (by kernel_rfl) (by rfl) (by kernel_rfl) ?_)
          refine bodyPost_ret (results_cell_tmp_row rfl _ _ w.heap.size 74 _ _ _ rfl (setRow_heap _ _ _ _ _ _ hB4) Try.underlying74 rfl (by kernel_rfl)) rfl ⟨hK4.out.setRow (.inr (Nat.le_refl _)) _, .inr ⟨hLG.out, rfl⟩⟩
      · have hLG : Hid (¬ LG) := fun h => hk1 (HLG.out.1 h).2.2.1
        have d1 : ((lk bl : Int) != k) = true := by simpa using hk1
        have x0 := cell_of_row _ _ 0 _ _ _ HX4.out
        simp at x0
        have hK4 := Lib.hid hK4
        go_wp2_with (refine wpList_store_row rfl 74 (.tmp 8) (.tmp 45) rfl w.heap.size #[.int .i64 0, .int .i64 0, .int .i64 0, .slice none 0 0] rfl rfl 74 _ hB4 (by kernel_rfl) (by rfl) (by kernel_rfl) ?_)
        refine bodyPost_ret (results_cell_tmp_row rfl _ _ w.heap.size 74 _ _ _ rfl (setRow_heap _ _ _ _ _ _ hB4) Try.underlying74 rfl (by kernel_rfl)) rfl ⟨hK4.out.setRow (.inr (Nat.le_refl _)) _, .inr ⟨hLG.out, rfl⟩⟩
    · have hLG : Hid (¬ LG) := fun h => hok (HLG.out.1 h).2.1
      have hB4 := ((Keep.refl [] w3).alloc (.cells #[.int .i64 0, .int .i64 0, .int .i64 0, .slice none 0 0] 74)).blk (by simp) hB3
      have hK4 := Lib.hid (hK3.alloc (.cells #[.int .i64 0, .int .i64 0, .int .i64 0, .slice none 0 0] 74))
      simp only [leaf0]
      go_wp2_with (refine wpList_store_row rfl 74 (.tmp 8) (.tmp 45) rfl w.heap.size #[.int .i64 0, .int .i64 0, .int .i64 0, .slice none 0 0] rfl rfl 74 _ hB4 (by kernel_rfl) (by rfl) (by kernel_rfl) ?_)
      refine bodyPost_ret (results_cell_tmp_row rfl _ _ w.heap.size 74 _ _ _ rfl (setRow_heap _ _ _ _ _ _ hB4) Try.underlying74 rfl (by kernel_rfl)) rfl ⟨hK4.out.setRow (.inr (Nat.le_refl _)) _, .inr ⟨hLG.out, rfl⟩⟩
  · have hLG : Hid (¬ LG) := fun h => hz (HLG.out.1 h).1
    have d1 : ((rc : Int) == 0) = false := by simp; omega
    have d2 : ((rc : Int) != 0) = true := by simp; omega
    have d3 : ¬ ((rc : Int) = 0) := by omega
    rw [if_neg hz]
    go_enter Try.func43, Try.ntmps43
    go_wp2_with fail
    refine HR.out.mono ?_
    rintro e w2 ⟨v2, rfl, ho2, hk2⟩
    have hK2 := Lib.hid (HA.out.trans hk2)
    have hB2 := hk2.blk (by simp) HB.out
    clear HR
    go_wp2_with (refine wpList_store_row rfl 74 (.tmp 8) (.tmp 24) rfl w.heap.size #[.int .i64 0, .int .i64 0, .int .i64 0, .slice none 0 0] rfl rfl 74 _ hB2 (by kernel_rfl) (by rfl) (by kernel_rfl) ?_)
    refine bodyPost_ret (results_cell_tmp_row rfl _ _ w.heap.size 74 _ _ _ rfl (setRow_heap _ _ _ _ _ _ hB2) Try.underlying74 rfl (by kernel_rfl)) rfl ⟨hK2.out.setRow (.inr (Nat.le_refl _)) _, .inr ⟨hLG.out, rfl⟩⟩
end Go.Proofs.Ytjkjiabfhhnngaa
