import Derived.Test.YtjkjiabfhhnngaaReg4
import Derived.Test.YtjkjiabfhhnngaaRange5
import Derived.Test.YtjkjiabfhhnngaaScope
import Derived.Shelf.Abstract
import Derived.Shelf.RegionOpen
import Derived.OwnWalkIn
import Derived.TacticsInMore
import Derived.LoopNIn
import Derived.LoopIn
/-! The iterator of region.pieces. -/
namespace Go.Proofs.Ytjkjiabfhhnngaa
open Go.RowKit Go.Shelf Sg
attribute [local go_sem] Oper.semAt_some
set_option linter.unusedSimpArgs false
set_option linter.unusedVariables false

/-- a piece: where in the region, how many bytes -/
structure Pc where
  at_ : Nat
  n : Nat
def Pc.val (rm q : Nat) (x : Pc) : Value := .agg #[.int .i64 (q : Int), .int .i64 (x.at_ : Int), .int .i64 (x.n : Int), .int .i64 ((x.at_ / rm : Nat) : Int), .int .i64 ((x.at_ % rm : Nat) : Int)]
def pcs (rm : Nat) : Nat → Nat → Nat → List Pc
  | 0, _, _ => []
  | f + 1, at_, size => if size = 0 then [] else ⟨at_, min size (rm - at_ % rm)⟩ :: pcs rm f (at_ + min size (rm - at_ % rm)) (size - min size (rm - at_ % rm))
def PcEnc (rm q : Nat) (T : List Nat) (x : Pc) (args : Array Value) (W : World) : Prop := args = #[x.val rm q]

theorem three_set {w : World} {B : Nat} {a b c x y : Value} {t : TypeId} (h : w.heap[B]? = some (.cells #[a, b, c] t (0, 0))) : ((w.setCell ⟨B, 1, none⟩ x).setCell ⟨B, 2, none⟩ y).heap[B]? = some (.cells #[a, x, y] t (0, 0)) := by
  have e1 := heap_setCell_same _ B 1 _ _ x h
  have e2 := heap_setCell_same _ B 2 _ _ y e1
  simpa using e2

theorem pieces_any (gl : Nat) (a b c : Int) (w : World) : Calls Try.prog 112 #[.pointer (some ⟨gl, 0, none⟩), .agg #[.int .i64 a, .int .i64 b, .int .i64 c]] w fun e w' => e = .returned (.func (.func 147) #[] #[.pointer (some ⟨w.heap.size + 1, 0, none⟩), .pointer (some ⟨w.heap.size, 0, none⟩)]) ∧
    Keep [] w w' ∧ w'.heap[w.heap.size]? = some (.cells #[.pointer (some ⟨gl, 0, none⟩)] 87 (0, 0)) ∧ w'.heap[w.heap.size + 1]? = some (.cells #[.int .i64 a, .int .i64 b, .int .i64 c] 103 (0, 0)) ∧ w'.heap.size = w.heap.size + 2 := by
  have h1 := heap_alloc_new w (.cells #[.pointer (some ⟨gl, 0, none⟩)] 87)
  have h2 := heap_alloc_new (w.alloc (.cells #[.pointer (some ⟨gl, 0, none⟩)] 87)) (.cells #[.int .i64 a, .int .i64 b, .int .i64 c] 103)
  have k2 := (Keep.refl [] (w.alloc (.cells #[.pointer (some ⟨gl, 0, none⟩)] 87))).alloc (.cells #[.int .i64 a, .int .i64 b, .int .i64 c] 103)
  rw [World.size_alloc] at h2
  have k1 := ((Keep.refl [] w).alloc (.cells #[.pointer (some ⟨gl, 0, none⟩)] 87)).trans k2
  have H := Lib.hid (And.intro k1 (And.intro (k2.blk (by simp) h1) h2))
  clear h1 h2 k1 k2
  go_enter Try.func112, Try.ntmps112
  go_wp2
  go_ret
  exact ⟨rfl, H.out.1, H.out.2.1, H.out.2.2, by simp⟩

set_option maxRecDepth 100000 in
set_option maxHeartbeats 1000000 in
set_option maxHeartbeats 4000000 in
theorem pieces1_iter (Bx Bl gl rm q at0 size0 : Nat) (hrm : 1 ≤ rm) (hrm2 : rm ≤ 100000) (hat : at0 ≤ 1000000) (hsz : size0 ≤ 1000000) (hne : Bx ≠ Bl) (hne2 : Bx ≠ gl) (hq : q ≤ 9223372036854775807) :
    Iter5 Try.prog 147 #[.pointer (some ⟨Bx, 0, none⟩), .pointer (some ⟨Bl, 0, none⟩)] (PcEnc rm q) (pcs rm size0 at0 size0)
      (fun W => W.heap[Bl]? = some (.cells #[.pointer (some ⟨gl, 0, none⟩)] 87 (0, 0)) ∧ W.cell? ⟨gl, 17, none⟩ = some (.int .i64 (rm : Int)))
      (fun W => W.heap[Bx]? = some (.cells #[.int .i64 (q : Int), .int .i64 (at0 : Int), .int .i64 (size0 : Int)] 103 (0, 0))) [Bx] := by
  intro n l J Jx hRd hJ hJx hG hY W h0 hSt hTs
  refine callsIn_of_wp Try.func147 rfl trivial ?_
  simp only [Try.ntmps147, List.size_toArray, List.length_cons, List.length_nil, Nat.reduceAdd, Nat.reduceSub, Array.replicate_succ, Array.replicate_zero, List.push_toArray, List.append_toArray, List.nil_append, List.cons_append]
  gi_wp2
  gi_loopw [4] (fun _ wr => ∃ (f at_ size : Nat) (pre : List Pc) (T : List Nat), at_ + size = at0 + size0 ∧ size ≤ f ∧ Hid (pre ++ pcs rm f at_ size = pcs rm size0 at0 size0) ∧ Hid (J T pre wr) ∧ Hid (∀ b ∈ T, b < wr.heap.size) ∧ Hid (Bx ∈ T) ∧ Hid (wr.heap[Bx]? = some (.cells #[.int .i64 (q : Int), .int .i64 (at_ : Int), .int .i64 (size : Int)] 103 (0, 0)))) (fun _ wr => match wr.cell? ⟨Bx, 2, none⟩ with | some (.int _ k) => k.toNat | _ => 0)
  case atStart =>
    exact ⟨size0, at0, size0, [], [Bx], rfl, Nat.le_refl _, by simp [Hid], h0, hTs, by simp [Hid], hSt⟩
  case round =>
    obtain ⟨f, at_, size, pre, T, hsum, hfu, hpre, hJT, hT, hBT, hX⟩ := hrel
    obtain ⟨hbl, h17⟩ := hRd _ _ _ hJT.out
    have x0 := cell_of_row wr _ 0 _ _ _ hX.out
    have x1 := cell_of_row wr _ 1 _ _ _ hX.out
    have x2 := cell_of_row wr _ 2 _ _ _ hX.out
    simp at x0 x1 x2
    by_cases hs : size = 0
    · subst hs
      have ht : pcs rm f at_ 0 = [] := by cases f <;> simp [pcs]
      have hfin := hpre.out
      rw [ht, List.append_nil] at hfin
      have HF := Lib.hid hfin
      clear hfin ht
      gi_wp2
      go_end0
      exact ⟨⟨_, rfl⟩, .inl ⟨T, by rw [← HF.out]; exact hJT.out, hT.out⟩⟩
    · have hs1 : (0 : Int) < (size : Int) := by omega
      have hs2 : 0 < size := by omega
      gi_wp2_with fail
      obtain ⟨sc, hsc⟩ : ∃ sc, at_ / rm = sc := ⟨_, rfl⟩
      obtain ⟨fr, hfr⟩ : ∃ fr, at_ % rm = fr := ⟨_, rfl⟩
      have hfr2 : fr < rm := by rw [← hfr]; exact Nat.mod_lt _ hrm
      have hsc2 : sc ≤ at_ := by rw [← hsc]; exact Nat.div_le_self _ _
      obtain ⟨k, hk⟩ : ∃ k, min size (rm - fr) = k := ⟨_, rfl⟩
      have q1 : ((at_ : Int)).tdiv (rm : Int) = (sc : Int) := by rw [Int.tdiv_eq_ediv_of_nonneg (by omega), ← hsc]; rfl
      have q2 : ((at_ : Int)).tmod (rm : Int) = (fr : Int) := by rw [Int.tmod_eq_emod_of_nonneg (by omega), ← hfr]; rfl
      have q3 : IntKind.i64.wrap (sc : Int) = (sc : Int) := i64_wrap (by omega) (by omega)
      have q4 : IntKind.i64.wrap (fr : Int) = (fr : Int) := i64_wrap (by omega) (by omega)
      have z1 : ¬ ((rm : Int) = 0) := by omega
      have z2 : ((rm : Int) == 0) = false := beq_false_of_ne z1
      have z3 : ¬ (rm = 0) := by omega
      have HSC := Lib.hid (And.intro hsc hfr)
      have HR := Lib.hid (And.intro hbl h17)
      clear hsc hfr hbl h17 x0 x1 x2
      refine wpIn_wide.2 ?_
      refine wp_region_his [] [16, 17] (fun _ => 0) (by kernel_rfl) (by kernel_rfl) ?_
      intro w2 hk2 hh
      clear hh
      have x0 := fun w' (h : Keep [] w2 w') => cell_of_row w' _ 0 _ _ _ ((hk2.trans h).blk (by simp) hX.out)
      have x1 := fun w' (h : Keep [] w2 w') => cell_of_row w' _ 1 _ _ _ ((hk2.trans h).blk (by simp) hX.out)
      have x2 := fun w' (h : Keep [] w2 w') => cell_of_row w' _ 2 _ _ _ ((hk2.trans h).blk (by simp) hX.out)
      simp at x0 x1 x2
      have y0 := fun w' (h : Keep [] w2 w') => cell_of_one ((hk2.trans h).blk (by simp) HR.out.1)
      have y1 := fun w' (h : Keep [] w2 w') => (hk2.trans h).cell (by simp) HR.out.2
      have HK2 := Lib.hid hk2
      clear hk2
      (repeat (first | (refine his_q rfl rfl (fun K hK => ?_); apply Exists.intro; refine ⟨fun w' hC => ?_, ?_⟩; ((try simp [Sg.upd] at hC); go_simp <;> rfl); go_simp; refine hK _ _ ?_; clear hK K) | (refine his_s rfl (fun K hK => ?_); go_simp; refine hK _ _ ?_; clear hK K)))
      (refine his_l rfl rfl (fun K hK => ?_); go_simp)
      refine hK _ _ ((Keep.refl [] w2).alloc _) ?_
      clear hK K
      (refine his_last rfl (by kernel_rfl) rfl (fun K hK => ?_); go_simp)
      refine hK _ _ ?_
      clear hK K x0 x1 x2 y0 y1
      refine his_nil ?_
      obtain ⟨w3, hw3⟩ : ∃ w3, w2.alloc (.cells #[.int .i64 (q : Int), .int .i64 (at_ : Int), .int .i64 (size : Int), .int .i64 (sc : Int), .int .i64 (fr : Int)] 212) = w3 := ⟨_, rfl⟩
      have hk23 : Keep [] w2 w3 := by rw [← hw3]; exact (Keep.refl [] w2).alloc _
      have hP3 : w3.heap[w2.heap.size]? = some (.cells #[.int .i64 (q : Int), .int .i64 (at_ : Int), .int .i64 (size : Int), .int .i64 (sc : Int), .int .i64 (fr : Int)] 212 (0, 0)) := by rw [← hw3]; exact heap_alloc_new _ _
      rw [hw3]
      clear hw3 q1 q2 q3 q4
      have HP3 := Lib.hid (And.intro hP3 hk23)
      clear hP3 hk23
      gi_wp2_with fail
      obtain ⟨KK, hKK⟩ : ∃ KK, rm - fr = KK := ⟨_, rfl⟩
      have q7 : IntKind.i64.wrap ((rm : Int) - (fr : Int)) = (KK : Int) := by rw [i64_wrap (by omega) (by omega)]; omega
      have q5 : IntKind.i64.wrap ((size : Int) - (k : Int)) = ((size - k : Nat) : Int) := by rw [i64_wrap (by omega) (by omega)]; omega
      have q6 : IntKind.i64.wrap ((at_ : Int) + (k : Int)) = ((at_ + k : Nat) : Int) := by rw [i64_wrap (by omega) (by omega)]; push_cast; rfl
      obtain ⟨f', rfl⟩ : ∃ f', f = f' + 1 := ⟨f - 1, by omega⟩
      have hstep : pcs rm (f' + 1) at_ size = ⟨at_, k⟩ :: pcs rm f' (at_ + k) (size - k) := by
        rw [pcs, if_neg hs, HSC.out.2, hk]
      have hall := hpre.out
      rw [hstep] at hall
      have hpx : pre ++ [⟨at_, k⟩] <+: pcs rm size0 at0 size0 := ⟨pcs rm f' (at_ + k) (size - k), by rw [← hall]; simp⟩
      have HALL := Lib.hid (And.intro hall hpx)
      have hnum : at_ + k + (size - k) = at0 + size0 ∧ size - k ≤ f' ∧ 1 ≤ k ∧ k ≤ size := by omega
      have HNUM := Lib.hid hnum
      have hval : Pc.val rm q ⟨at_, k⟩ = .agg #[.int .i64 (q : Int), .int .i64 (at_ : Int), .int .i64 (k : Int), .int .i64 (sc : Int), .int .i64 (fr : Int)] := by
        unfold Pc.val
        simp only [HSC.out.1, HSC.out.2]
      have HVAL := Lib.hid hval
      have HQ5 := Lib.hid q5
      have HQ6 := Lib.hid q6
      clear hstep hall hpx hval hnum q5 q6
      rcases (by omega : (size ≤ KK ∧ k = size) ∨ (KK < size ∧ k = KK)) with ⟨hm, e⟩ | ⟨hm, e⟩
      all_goals
        subst e
        refine wpIn_wide.2 ?_
        refine wp_region_his [] [12] (fun _ => 0) (by kernel_rfl) (by kernel_rfl) ?_
        intro w4 hk4 hh
        clear hh
        have x2 := fun w' (h : Keep [] w4 w') => cell_of_row w' _ 2 _ _ _ ((HK2.out.trans (HP3.out.2.trans (hk4.trans h))).blk (by simp) hX.out)
        have y0 := fun w' (h : Keep [] w4 w') => cell_of_one ((HK2.out.trans (HP3.out.2.trans (hk4.trans h))).blk (by simp) HR.out.1)
        have y1 := fun w' (h : Keep [] w4 w') => (HK2.out.trans (HP3.out.2.trans (hk4.trans h))).cell (by simp) HR.out.2
        have p4 := fun w' (h : Keep [] w4 w') => cell_of_row w' _ 4 _ _ _ ((hk4.trans h).blk (by simp) HP3.out.1)
        have hP4 := hk4.blk (by simp) HP3.out.1
        have c2 := cell_of_row w4 _ 2 _ _ _ hP4
        have f2 : w4.frozen? ⟨w2.heap.size, 2, none⟩ = false := frozen_of_row _ _ _ _ _ hP4
        simp at x2 p4 c2
        have HK4 := Lib.hid (And.intro hk4 hP4)
        clear hk4 hP4
        (repeat (first | (refine his_q rfl rfl (fun K hK => ?_); apply Exists.intro; refine ⟨fun w' hC => ?_, ?_⟩; ((try simp [Sg.upd] at hC); go_simp <;> rfl); go_simp; refine hK _ _ ?_; clear hK K) | (refine his_s rfl (fun K hK => ?_); go_simp; refine hK _ _ ?_; clear hK K)))
        (refine his_last rfl (by kernel_rfl) rfl (fun K hK => ?_); go_simp)
        refine hK _ _ ?_
        clear hK K x2 y0 y1 p4 c2 f2
        refine his_nil ?_
        try rw [if_neg (show ¬ KK < k by omega)]
        obtain ⟨w5, hw5⟩ : ∃ w5, w4.setCell ⟨w2.heap.size, 2, none⟩ (.int .i64 (k : Int)) = w5 := ⟨_, rfl⟩
        have hP5 : w5.heap[w2.heap.size]? = some (.cells #[.int .i64 (q : Int), .int .i64 (at_ : Int), .int .i64 (k : Int), .int .i64 (sc : Int), .int .i64 (fr : Int)] 212 (0, 0)) := by
          rw [← hw5]
          have := heap_setCell_same _ w2.heap.size 2 _ _ (.int .i64 (k : Int)) HK4.out.2
          simpa using this
        have hk45 : Keep [w2.heap.size] w4 w5 := by rw [← hw5]; exact (Keep.refl _ _).setCell (.inl (by simp)) _
        have hszb : w2.heap.size < w5.heap.size := (Array.getElem?_eq_some_iff.1 hP5).1
        have hszx : Bx < w2.heap.size := Nat.lt_of_lt_of_le (hT.out _ hBT.out) HK2.out.size
        have hJ5 : J (w2.heap.size :: T) pre w5 := hJ _ _ _ _ (hk45.mono (by simp)) (hJ _ _ _ _ (HK4.out.1.mono (by simp)) (hJ _ _ _ _ (HP3.out.2.mono (by simp)) (hG _ _ _ _ (Nat.le_refl _) (hJ _ _ _ _ (HK2.out.mono (by simp)) hJT.out))))
        have hT5 : ∀ b ∈ w2.heap.size :: T, b < w5.heap.size := by
          intro b hb
          rcases List.mem_cons.1 hb with rfl | hb
          · exact hszb
          · have := hT.out b hb
            have := HK2.out.size
            omega
        have hX5 := hk45.blk (by simp; omega) ((HK2.out.trans (HP3.out.2.trans HK4.out.1)).blk (by simp) hX.out)
        obtain ⟨fn, tmps, assign, body, hy, hR⟩ := hY (w2.heap.size :: T) pre ⟨at_, k⟩ #[.agg #[.int .i64 (q : Int), .int .i64 (at_ : Int), .int .i64 (k : Int), .int .i64 (sc : Int), .int .i64 (fr : Int)]] w5 HALL.out.2 hJ5 (by show #[_] = #[_]; rw [HVAL.out]) hT5
        have hne3 : ¬ Bx = w2.heap.size := by omega
        have hne4 : ¬ w2.heap.size = Bx := by omega
        have p0 := cell_of_row w5 _ 0 _ _ _ hP5
        have p1 := cell_of_row w5 _ 1 _ _ _ hP5
        have p2 := cell_of_row w5 _ 2 _ _ _ hP5
        have p3 := cell_of_row w5 _ 3 _ _ _ hP5
        have p4 := cell_of_row w5 _ 4 _ _ _ hP5
        simp at p0 p1 p2 p3 p4
        rw [hw5]
        have HP5 := Lib.hid (And.intro hP5 (And.intro hX5 (And.intro hT5 hszx)))
        clear hw5 hk45 hJ5 hT5 hX5 hP5 hszb hszx
        gi_wp2_with fail
        refine ⟨wideN _, hR.mono ?_⟩
        clear p0 p1 p2 p3 p4 hR hy
        rintro e W3 ⟨hkB, (⟨rfl, hJ3⟩ | ⟨rfl, hJx3⟩)⟩
        · have hB3 := (hkB Bx (List.mem_cons_of_mem _ hBT.out)).trans HP5.out.2.1
          have hP6 := (hkB w2.heap.size (by simp)).trans HP5.out.1
          have HT6 : Hid (∀ b ∈ w2.heap.size :: T, b < W3.heap.size) := by
            intro b hb
            have h1 := hkB b hb
            have h2 := HP5.out.2.2.1 b hb
            rw [Array.getElem?_eq_getElem h2] at h1
            exact (Array.getElem?_eq_some_iff.1 h1).1
          have x1 := cell_of_row W3 _ 1 _ _ _ hB3
          have x2 := cell_of_row W3 _ 2 _ _ _ hB3
          have p2 := cell_of_row W3 _ 2 _ _ _ hP6
          have f1 : W3.frozen? ⟨Bx, 1, none⟩ = false := frozen_of_row _ _ _ _ _ hB3
          have f2 : W3.frozen? ⟨Bx, 2, none⟩ = false := frozen_of_row _ _ _ _ _ hB3
          simp at x1 x2 p2
          have q5 := HQ5.out
          have q6 := HQ6.out
          have HB3 := Lib.hid hB3
          have HJ3 := Lib.hid hJ3
          clear hB3 hP6 hkB hJ3
          have hm2 : Bx ∈ w2.heap.size :: T := List.mem_cons_of_mem _ hBT.out
          gi_wp2_with fail
          case roundEnd =>
            refine ⟨⟨f', at_ + k, _, pre ++ [⟨at_, k⟩], w2.heap.size :: T, HNUM.out.1, HNUM.out.2.1, Lib.hid (by rw [List.append_assoc]; exact HALL.out.1), Lib.hid (hJ _ _ _ _ (((Keep.refl _ _).setCell (.inl hm2) _).setCell (.inl hm2) _) HJ3.out), Lib.hid (fun b hb => by have := HT6.out b hb; simpa using this), Lib.hid hm2, Lib.hid ((three_set HB3.out).trans (by simp <;> omega))⟩, ?_⟩
            have e1 := cell_of_row wr _ 2 _ _ _ hX.out
            simp at e1
            rw [cell_of_row _ _ 2 _ _ _ (three_set HB3.out), e1]
            have := HNUM.out
            simp
            omega
        · gi_wp2_with fail
          try rw [Exit.noGoto_ret]
          refine bodyPost_ret (results_none rfl _ _ _) rfl ?_
          exact ⟨⟨_, rfl⟩, .inr ⟨_, _, HALL.out.2, hJx3⟩⟩
end Go.Proofs.Ytjkjiabfhhnngaa
