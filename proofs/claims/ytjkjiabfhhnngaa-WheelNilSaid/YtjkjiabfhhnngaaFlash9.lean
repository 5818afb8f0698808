import Derived.Test.YtjkjiabfhhnngaaFlash8
/-! The walk of flash's Read. -/
namespace Go.Proofs.Ytjkjiabfhhnngaa
open Go.RowKit Go.Shelf Sg
attribute [local go_sem] Oper.semAt_some
set_option linter.unusedSimpArgs false
set_option linter.unusedVariables false

theorem loadVar_bytes {w : World} {a : Addr} {v : Value} (h : w.cell? a = some v) : (loadVar 42 a).run Try.prog w = .ok v w := by
  have hagg : (isAgg 42).run Try.prog w = .ok false w := by unfold isAgg; rw [Sem.run_bind, run_underlying Try.underlying42 w]; rfl
  simp [loadVar, Sem.run_bind, hagg, h, Result.andThen]
theorem loadVar_errno {w : World} {a : Addr} {v : Value} (h : w.cell? a = some v) : (loadVar 38 a).run Try.prog w = .ok v w := by
  have hagg : (isAgg 38).run Try.prog w = .ok false w := by unfold isAgg; rw [Sem.run_bind, run_underlying Try.underlying38 w]; rfl
  simp [loadVar, Sem.run_bind, hagg, h, Result.andThen]
theorem results_read {fn : Func} {p u : Tmp} (h : fn.results = #[.cell p 42, .cell u 38]) (tmps : Array Value) (w : World) {a1 a2 : Addr} {x y : Value}
    (hp : tmps.getD p undef = .pointer (some a1)) (hu : tmps.getD u undef = .pointer (some a2)) (h1 : w.cell? a1 = some x) (h2 : w.cell? a2 = some y) :
    (results fn tmps).run Try.prog w = .ok (.tuple #[x, y]) w := by
  have hp' : tmps[p]?.getD undef = .pointer (some a1) := by simpa using hp
  have hu' : tmps[u]?.getD undef = .pointer (some a2) := by simpa using hu
  simp [results, h, hp', hu', asAddr, loadVar_bytes h1, loadVar_errno h2, Result.andThen]
theorem leavesM_nil {n : Nat} {P : Program} {fn : Func} {tmps : Array Value} {R : Ending → World → Prop} {w : World} {v : Value}
    (hr : (results fn tmps).run P w = .ok v w) (hR : R (.returned v) w) : LeavesInM Fence.wide n P fn tmps R [] .returning w :=
  ⟨v, hr, hR⟩

theorem backL_any (a : Option Addr) (n c : Nat) (w : World) : Calls Try.prog 91 #[.slice a n c] w fun e w' => e = .returned (.func (.func 127) #[] #[.pointer (some ⟨w.heap.size, 0, none⟩)]) ∧ w.alloc (.cells #[.slice a n c] 171) = w' := by
  go_enter Try.func91, Try.ntmps91
  go_wp2
  go_ret
  exact ⟨rfl, rfl⟩
theorem backP_any (a : Option Addr) (n c : Nat) (w : World) : Calls Try.prog 129 #[.slice a n c] w fun e w' => e = .returned (.func (.func 156) #[] #[.pointer (some ⟨w.heap.size, 0, none⟩)]) ∧ w.alloc (.cells #[.slice a n c] 56) = w' := by
  go_enter Try.func129, Try.ntmps129
  go_wp2
  go_ret
  exact ⟨rfl, rfl⟩

/-- the three cells that Read begins with -/
theorem read_cells (w : World) (a : Int) : ∃ w3, ((w.alloc (.cells #[.int .i64 a] 3)).alloc (.cells #[.slice none 0 0] 42)).alloc (.cells #[.int .i64 0] 38) = w3 ∧ Keep [] w w3 ∧ w3.heap.size = w.heap.size + 3 ∧
    w3.heap[w.heap.size]? = some (.cells #[.int .i64 a] 3 (0, 0)) ∧ w3.heap[w.heap.size + 1]? = some (.cells #[.slice none 0 0] 42 (0, 0)) ∧ w3.heap[w.heap.size + 1 + 1]? = some (.cells #[.int .i64 0] 38 (0, 0)) := by
  have h1 := heap_alloc_new w (.cells #[.int .i64 a] 3)
  have h2 := heap_alloc_new (w.alloc (.cells #[.int .i64 a] 3)) (.cells #[.slice none 0 0] 42)
  have h3 := heap_alloc_new ((w.alloc (.cells #[.int .i64 a] 3)).alloc (.cells #[.slice none 0 0] 42)) (.cells #[.int .i64 0] 38)
  have k2 := (Keep.refl [] (w.alloc (.cells #[.int .i64 a] 3))).alloc (.cells #[.slice none 0 0] 42)
  have k3 := (Keep.refl [] ((w.alloc (.cells #[.int .i64 a] 3)).alloc (.cells #[.slice none 0 0] 42))).alloc (.cells #[.int .i64 0] 38)
  rw [World.size_alloc] at h2
  rw [World.size_alloc, World.size_alloc] at h3
  exact ⟨_, rfl, (((Keep.refl [] w).alloc _).alloc _).alloc _, by simp, k3.blk (by simp) (k2.blk (by simp) h1), k3.blk (by simp) h2, h3⟩

set_option maxRecDepth 100000 in
set_option maxHeartbeats 1000000 in
theorem read_no (w : World) (D : List Nat) (g : Nat) (m : Dev) (h : DV w D g m) (a : Int) (hr : m.ready a ≠ 0) :
    Calls Try.prog 21 #[.pointer (some ⟨g, 0, none⟩), .int .i64 a] w fun e w' => e = .returned (.tuple #[.slice none 0 0, .int .i64 (m.ready a : Int)]) ∧ Keep [] w w' := by
  obtain ⟨fm, pm, lv, hrow⟩ := h.row
  obtain ⟨w3, hw3, hk3, hs3, b0, b1, b2⟩ := read_cells w a
  have hready := ready_any w3 g m fm pm lv (hrow.keep hk3 (by simp)) a
  have hrc : ((m.ready a : Int) == 0) = false := by simp; omega
  have hrc2 : ((m.ready a : Int) != 0) = true := by simp; omega
  have hrc3 : ¬ ((m.ready a : Int) = 0) := by omega
  have x0 := cell_of_one b0
  have x1 := cell_of_one b1
  have f1 := free_of_one b1
  have x2 := cell_of_one b2
  have f2 := free_of_one b2
  have hkf : Keep [] w ((w3.setCell ⟨w.heap.size + 1, 0, none⟩ (.slice none 0 0)).setCell ⟨w.heap.size + 1 + 1, 0, none⟩ (.int .i64 (m.ready a : Int))) := (hk3.setCell (.inr (by simp)) _).setCell (.inr (by simp; omega)) _
  have hc1 : ((w3.setCell ⟨w.heap.size + 1, 0, none⟩ (.slice none 0 0)).setCell ⟨w.heap.size + 1 + 1, 0, none⟩ (.int .i64 (m.ready a : Int))).cell? ⟨w.heap.size + 1, 0, none⟩ = some (.slice none 0 0) := cell_of_one ((heap_setCell_other _ _ _ _ (by simp)).trans (one_setCell b1))
  have hc2 : ((w3.setCell ⟨w.heap.size + 1, 0, none⟩ (.slice none 0 0)).setCell ⟨w.heap.size + 1 + 1, 0, none⟩ (.int .i64 (m.ready a : Int))).cell? ⟨w.heap.size + 1 + 1, 0, none⟩ = some (.int .i64 (m.ready a : Int)) := cell_of_one (one_setCell ((heap_setCell_other _ _ _ _ (by simp)).trans b2))
  have HKF := Lib.hid hkf
  have HC1 := Lib.hid hc1
  have HC2 := Lib.hid hc2
  clear h hrow hr hk3 hs3 b0 b1 b2 hkf hc1 hc2
  generalize m.ready a = rc at *
  refine calls_of_marks Try.func21 rfl ?_
  simp only [Try.ntmps21, List.size_toArray, List.length_cons, List.length_nil, Nat.reduceAdd, Nat.reduceSub, Array.replicate_succ, Array.replicate_zero, List.push_toArray, List.append_toArray, List.nil_append, List.cons_append]
  go_wp2_with fail
  refine hready.mono ?_
  rintro e w4 ⟨rfl, rfl⟩
  go_wp2
  exact leavesM_nil (results_read rfl _ _ rfl rfl HC1.out HC2.out) ⟨rfl, HKF.out⟩

theorem lastOf_none {ls : List (Nat × List UInt8)} {k : Nat} (h : ∀ p ∈ ls.reverse, p.1 ≠ k) : lastOf ls k = none := by
  unfold lastOf
  rw [List.find?_eq_none.2 (fun p hp => by simpa using h p hp)]
  rfl
theorem lastOf_some {ls pre : List (Nat × List UInt8)} {k : Nat} {x : Nat × List UInt8} (hp : pre ++ [x] <+: ls.reverse) (h : ∀ p ∈ pre, p.1 ≠ k) (hx : x.1 = k) : lastOf ls k = some x.2 := by
  obtain ⟨t, ht⟩ := hp
  unfold lastOf
  rw [← ht, List.append_assoc, List.find?_append, List.find?_eq_none.2 (fun p hp => by simpa using h p hp)]
  simp [hx]

/-- what the loop of Read keeps -/
def RdInv (w : World) (k : Nat) (lv : Value) (pre : List (Nat × List UInt8)) (W : World) : Prop :=
  Keep [] w W ∧ W.heap[w.heap.size]? = some (.cells #[.int .i64 (k : Int)] 3 (0, 0)) ∧ W.heap[w.heap.size + 1]? = some (.cells #[.slice none 0 0] 42 (0, 0)) ∧ W.heap[w.heap.size + 1 + 1]? = some (.cells #[.int .i64 0] 38 (0, 0)) ∧ W.heap[w.heap.size + 3]? = some (.cells #[lv] 171 (0, 0)) ∧ ∀ p ∈ pre, p.1 ≠ k
/-- .. where it is left -/
def RdOut (w : World) (ls : List (Nat × List UInt8)) (k : Nat) (W : World) : Prop :=
  Keep [] w W ∧ ∃ v l, W.heap[w.heap.size + 1]? = some (.cells #[v] 42 (0, 0)) ∧ W.heap[w.heap.size + 1 + 1]? = some (.cells #[.int .i64 0] 38 (0, 0)) ∧ OwnB W (w.heap.size + 6) 5 v l ∧ lastOf ls k = some l

set_option maxRecDepth 100000 in
set_option maxHeartbeats 1000000 in
set_option maxHeartbeats 4000000 in
theorem read_go (w : World) (D : List Nat) (g : Nat) (m : Dev) (h : DV w D g m) (hacts : m.acts ≤ 1000000000) (k : Nat) (hk : k < m.n) (hdown : m.down = false) :
    Calls Try.prog 21 #[.pointer (some ⟨g, 0, none⟩), .int .i64 (k : Int)] w fun e w' => ∃ v, e = .returned (.tuple #[v, .int .i64 0]) ∧ OwnB w' w.heap.size 5 v (m.get k) ∧ Keep [] w w' := by
  obtain ⟨hw, fm, pm, lv, fv, pv, h⟩ := h
  obtain ⟨la, lc, rfl⟩ := h.loose.form
  have hll : m.loose.length ≤ 1000000000 := Nat.le_trans hw.ll hacts
  obtain ⟨w3, hw3, hk3, hs3, b0, b1, b2⟩ := read_cells w (k : Int)
  have hready := ready_any w3 g m fm pm _ (h.rowD.keep hk3 (by simp)) (k : Int)
  have hr0 : m.ready (k : Int) = 0 := by simp [Dev.ready, hdown]; omega
  rw [hr0] at hready
  have c3 := (h.rowD.keep hk3 (by simp)).c3
  have x0 := cell_of_one b0
  have H := Lib.hid h
  have HK3 := Lib.hid hk3
  have HS3 := Lib.hid hs3
  have HB0 := Lib.hid b0
  have HB1 := Lib.hid b1
  have HB2 := Lib.hid b2
  clear h hk3 hs3 b0 b1 b2
  refine calls_of_marks Try.func21 rfl ?_
  simp only [Try.ntmps21, List.size_toArray, List.length_cons, List.length_nil, Nat.reduceAdd, Nat.reduceSub, Array.replicate_succ, Array.replicate_zero, List.push_toArray, List.append_toArray, List.nil_append, List.cons_append]
  go_wp2_with fail
  refine hready.mono ?_
  rintro e w4 ⟨rfl, rfl⟩
  clear hw3 hready
  go_wp2_with fail
  refine (backL_any _ _ _ _).mono ?_
  rintro e w5 ⟨rfl, hw5⟩
  have hk35 : Keep [] w3 w5 := by rw [← hw5]; exact (Keep.refl [] w3).alloc _
  have b5 : w5.heap[w3.heap.size]? = some (.cells #[.slice la m.loose.length lc] 171 (0, 0)) := by rw [← hw5]; exact heap_alloc_new _ _
  have hs5 : w5.heap.size = w3.heap.size + 1 := by rw [← hw5]; simp
  clear hw5
  go_wp2_with fail
  have HS5 := Lib.hid hs5
  have HK35 := Lib.hid hk35
  have HB5 := Lib.hid b5
  clear hs5 hk35 b5 c3 x0
  refine wp_range3 (n := 3) (gf := 127) (lb := #[.pointer (some ⟨w3.heap.size, 0, none⟩)]) rfl (enters_of Try.func127 (by kernel_rfl) rfl)
    (T := []) (by simp) (backL_iter w3.heap.size D (.slice la m.loose.length lc) m.loose hll (fun p hp => by have := (hw.ls p hp).2; have := hw.s2; omega))
    ?hEnc (fun x args W h => by obtain ⟨_, _, rfl, -⟩ := h; rfl)
    (RdInv w k (.slice la m.loose.length lc)) (fun c pre W => c = .ret ∧ RdOut w m.loose k W)
    ?hRd (fun _ _ => trivial) ?hI ?hIx ?h0
    (fun args B0 => { tmps := #[.pointer (some ⟨g, 0, none⟩), .int .i64 (k : Int), undef, .pointer (some ⟨w.heap.size, 0, none⟩), .pointer (some ⟨w.heap.size + 1, 0, none⟩), .pointer (some ⟨w.heap.size + 1 + 1, 0, none⟩), .int .i64 0, undef, .pointer (some ⟨B0, 0, none⟩),
      .pointer (some ⟨g, 0, none⟩), .int .i64 (k : Int), .int .i64 0, .int .i64 0, .bool false, undef, .pointer (some ⟨g, 0, none⟩), .pointer (some ⟨g, 0, none⟩), .pointer (some ⟨g, 3, none⟩), .slice la m.loose.length lc,
      .func (.func 127) #[] #[.pointer (some ⟨w3.heap.size, 0, none⟩)], args.getD 0 undef, args.getD 1 undef, undef, undef, undef, undef, undef, undef, undef, undef, undef, undef, undef, undef], defers := [] })
    (fun x args B0 W => ∃ i a n c, args = #[.int .i64 i, .agg #[.int .i64 (x.1 : Int), .slice a n c]] ∧ W.heap[B0]? = some (.cells #[.int .i64 (x.1 : Int), .slice a n c] 177 (0, 0))) ?hAs
    ?hassign ?hbody ?hdone ?hstop
  case hEnc =>
    rintro x args W W' k' ⟨i, v, rfl, h1, h2⟩
    refine ⟨i, v, rfl, h1.keep k' (fun b hb hm => ?_), h2⟩
    have h3 := H.out.lt _ (h2 b hb)
    simp only [HS5.out, HS3.out] at hm
    simp at hm
    omega
  case hAs =>
    rintro x args B0 W W' hB k' ⟨i, a, n, c, rfl, hx⟩
    exact ⟨i, a, n, c, rfl, k'.blk (by simp; omega) hx⟩
  case hRd =>
    rintro pre W ⟨hk1, -, -, -, e3, -⟩ hlt
    rw [HS3.out]
    exact ⟨cell_of_one e3, H.out.loose.keep hk1 (by simp)⟩
  case hI =>
    rintro pre W W' k' ⟨hk1, e0, e1, e2, e3, hp⟩
    have h5 := HS5.out
    have h3 := HS3.out
    exact ⟨hk1.ext k' (by simp; omega), k'.blk (by simp; omega) e0, k'.blk (by simp; omega) e1, k'.blk (by simp; omega) e2, k'.blk (by simp; omega) e3, hp⟩
  case hIx =>
    rintro c pre W W' k' ⟨rfl, hk1, v, l, e1, e2, ho, hl⟩
    have h5 := HS5.out
    have h3 := HS3.out
    refine ⟨rfl, hk1.ext k' (by simp; omega), v, l, k'.blk (by simp; omega) e1, k'.blk (by simp; omega) e2, ho.keep k' (fun b hb hm => ?_), hl⟩
    have h6 : w.heap.size + 6 ≤ b := by
      rcases ho.2 with ⟨rfl, -⟩ | ⟨g', cap', cur, rfl, h1, -⟩
      · simp [Value.ownBlock] at hb
      · simp [Value.ownBlock] at hb; omega
    simp at hm
    omega
  case h0 =>
    intro W k'
    have kk := HK35.out.trans k'
    exact ⟨HK3.out.trans kk, kk.blk (by simp) HB0.out, kk.blk (by simp) HB1.out, kk.blk (by simp) HB2.out, k'.blk (by simp) (by have := HB5.out; rwa [HS3.out] at this), by simp⟩
  case hassign =>
    rintro x args W K ⟨i, v, rfl, h1, h2⟩ hlt hK
    obtain ⟨a, c, rfl⟩ := ownsRow_form h1
    have hA := (Keep.refl [] W).alloc (.cells #[.int .i64 (x.1 : Int), .slice a x.2.length c] 177)
    have hn := heap_alloc_new W (.cells #[.int .i64 (x.1 : Int), .slice a x.2.length c] 177)
    have hK2 := hK _ hA ⟨i, a, _, c, rfl, hn⟩
    clear hK
    gi_wp2
    exact hK2
  case hbody =>
    rintro pre x args B0 W hpre ⟨hk1, e0, e1, e2, e3, hp⟩ ⟨i, v, rfl, h1, h2⟩ ⟨i', a, n, c, hargs, hx0⟩ hB0 ⟨r, hL⟩ hD
    simp only [Array.mk.injEq, List.cons.injEq, Value.agg.injEq, Value.int.injEq, and_true, true_and] at hargs
    obtain ⟨rfl, rfl⟩ := hargs
    have hx2 : x.2.length = m.sz := by
      have := hpre.subset (show x ∈ pre ++ [x] by simp)
      exact (hw.ls x (by simpa using this)).2
    have s2 := hw.s2
    have hbv := h1.bytes (by omega)
    have g0 := cell_of_row W _ 0 _ _ _ hx0
    have g1 := cell_of_row W _ 1 _ _ _ hx0
    have y0 := cell_of_one e0
    simp at g0 g1
    have HP := Lib.hid hp
    have HE := Lib.hid (And.intro e0 (And.intro e1 (And.intro e2 e3)))
    have HK1 := Lib.hid hk1
    have HL := Lib.hid hL
    have HDD := Lib.hid hD
    have HPR := Lib.hid hpre
    have HBV := Lib.hid hbv
    by_cases hx : x.1 = k
    · rw [hx] at g0
      clear hp e0 e1 e2 e3 hk1 hL hD hpre hbv h1 h2 hx0
      gi_wp2_with fail
      refine ⟨trivial, CallsIn.inRound _ (callsIn_wide.2 ((clone_any _ x.2 _ HBV.out).mono ?_))⟩
      rintro e w2 ⟨v2, rfl, ho2, hk2⟩
      obtain ⟨va2, vc2, rfl⟩ := ownsRow_form ho2
      rw [hx2] at ho2
      have e1 := hk2.blk (by simp) HE.out.2.1
      have e2 := hk2.blk (by simp) HE.out.2.2.1
      have z1 := cell_of_one e1
      have z2 := cell_of_one e2
      have f1 := free_of_one e1
      have f2 := free_of_one e2
      have hWs : w.heap.size + 6 ≤ W.heap.size := by
        have h5 := HS5.out
        have h3 := HS3.out
        have := (Array.getElem?_eq_some_iff.1 HL.out).1
        omega
      have HO2 := Lib.hid (ho2.base hWs)
      have HK2 := Lib.hid hk2
      have HE1 := Lib.hid e1
      have HE2 := Lib.hid e2
      clear ho2 hk2 e1 e2
      gi_wp2
      have h5 := HS5.out
      have h3 := HS3.out
      have hLs := (Array.getElem?_eq_some_iff.1 HL.out).1
      have hDs := (Array.getElem?_eq_some_iff.1 HDD.out).1
      refine ⟨?_, ?_, by simp, rfl, ?_, .slice va2 m.sz vc2, x.2, ?_, ?_, ?_, lastOf_some HPR.out HP.out hx⟩
      · refine (heap_setCell_other _ _ _ _ (by simp; omega)).trans ((heap_setCell_other _ _ _ _ (by simp; omega)).trans (HK2.out.block _ hLs (by simp)))
      · refine (heap_setCell_other _ _ _ _ (by simp; omega)).trans ((heap_setCell_other _ _ _ _ (by simp; omega)).trans (HK2.out.block _ hDs (by simp)))
      · exact ((HK1.out.trans HK2.out).setCell (.inr (by simp)) _).setCell (.inr (by simp; omega)) _
      · exact (heap_setCell_other _ _ _ _ (by simp)).trans (one_setCell HE1.out)
      · exact one_setCell ((heap_setCell_other _ _ _ _ (by simp)).trans HE2.out)
      · refine HO2.out.keep (S := [w.heap.size + 1, w.heap.size + 1 + 1]) (((Keep.refl _ _).setCell (.inl (by simp)) _).setCell (.inl (by simp)) _) (fun b hb hm => ?_)
        have h6 : w.heap.size + 6 ≤ b := by
          rcases HO2.out.2 with ⟨h, -⟩ | ⟨g', cap', cur, h, h1, -⟩
          · rw [h] at hb; simp [Value.ownBlock] at hb
          · rw [h] at hb; simp [Value.ownBlock] at hb; omega
        simp at hm
        omega
    · have hne : ¬ ((x.1 : Int) = (k : Int)) := by omega
      have hneb : ((x.1 : Int) == (k : Int)) = false := by simp; omega
      clear hp e0 e1 e2 e3 hk1 hL hD hpre hbv h1 h2 hx0
      gi_wp2
      refine ⟨rfl, rfl, by simp, HK1.out, HE.out.1, HE.out.2.1, HE.out.2.2.1, HE.out.2.2.2, fun p hp => ?_⟩
      rcases List.mem_append.1 hp with h | h
      · exact HP.out p h
      · rw [List.mem_singleton.1 h]; exact hx
  case hdone =>
    rintro W ⟨hk1, e0, e1, e2, e3, hp⟩ hD
    have HD0 := Lib.hid hD
    have hlast := lastOf_none hp
    have hget : m.get k = m.fast[k]'(by rw [hw.fl]; exact hk) := by
      unfold Dev.get
      rw [hlast, Option.getD_none, List.getD_eq_getElem?_getD, List.getElem?_eq_getElem (by rw [hw.fl]; exact hk), Option.getD_some]
    have y0 := cell_of_one e0
    have hkept := kept_any W D g m fm pm _ fv pv hw (H.out.keep0 hk1) k (by rw [hw.fl]; exact hk)
    have HK1 := Lib.hid hk1
    have HE := Lib.hid (And.intro e1 e2)
    have HG := Lib.hid hget
    clear hk1 e0 e1 e2 e3 hp hlast hget hD
    go_wp2_with fail
    refine hkept.mono ?_
    rintro e w2 ⟨v2, rfl, ho2, hk2⟩
    have hbl : (m.fast[k]'(by rw [hw.fl]; exact hk)).length = m.sz := hw.fs k (by rw [hw.fl]; exact hk)
    have s2 := hw.s2
    clear hkept
    go_wp2_with fail
    refine (clone_any _ _ _ (ho2.bytes (by omega))).mono ?_
    rintro e w6 ⟨v6, rfl, ho6, hk6⟩
    obtain ⟨va6, vc6, rfl⟩ := ownsRow_form ho6
    have hk26 := hk2.trans hk6
    have e1 := hk26.blk (by simp) HE.out.1
    have e2 := hk26.blk (by simp) HE.out.2
    have z1 := cell_of_one e1
    have z2 := cell_of_one e2
    have f1 := free_of_one e1
    have f2 := free_of_one e2
    have HO6 := Lib.hid ho6
    have HK26 := Lib.hid hk26
    have HK2 := Lib.hid hk2
    have HE1 := Lib.hid e1
    have HE2 := Lib.hid e2
    clear ho2 ho6 hk2 hk6 hk26 e1 e2
    rw [hbl] at HO6
    have h5 := HS5.out
    have h3 := HS3.out
    have hWl := (Array.getElem?_eq_some_iff.1 HD0.out).1
    have hDf : (((w6.setCell ⟨w.heap.size + 1, 0, none⟩ (.slice va6 m.sz vc6)).setCell ⟨w.heap.size + 1 + 1, 0, none⟩ (.int .i64 0))).heap[w5.heap.size]? = some (.deferred (some [])) :=
      (heap_setCell_other _ _ _ _ (by simp; omega)).trans ((heap_setCell_other _ _ _ _ (by simp; omega)).trans (HK26.out.blk (by simp) HD0.out))
    have hKf : Keep [] w ((w6.setCell ⟨w.heap.size + 1, 0, none⟩ (.slice va6 m.sz vc6)).setCell ⟨w.heap.size + 1 + 1, 0, none⟩ (.int .i64 0)) := ((HK1.out.trans HK26.out).setCell (.inr (by simp)) _).setCell (.inr (by simp; omega)) _
    have hC1 : ((w6.setCell ⟨w.heap.size + 1, 0, none⟩ (.slice va6 m.sz vc6)).setCell ⟨w.heap.size + 1 + 1, 0, none⟩ (.int .i64 0)).heap[w.heap.size + 1]? = some (.cells #[.slice va6 m.sz vc6] 42 (0, 0)) := (heap_setCell_other _ _ _ _ (by simp)).trans (one_setCell HE1.out)
    have hC2 : ((w6.setCell ⟨w.heap.size + 1, 0, none⟩ (.slice va6 m.sz vc6)).setCell ⟨w.heap.size + 1 + 1, 0, none⟩ (.int .i64 0)).heap[w.heap.size + 1 + 1]? = some (.cells #[.int .i64 0] 38 (0, 0)) := one_setCell ((heap_setCell_other _ _ _ _ (by simp)).trans HE2.out)
    have hOf : OwnB ((w6.setCell ⟨w.heap.size + 1, 0, none⟩ (.slice va6 m.sz vc6)).setCell ⟨w.heap.size + 1 + 1, 0, none⟩ (.int .i64 0)) (w.heap.size + 5) 5 (.slice va6 m.sz vc6) (m.fast[k]'(by rw [hw.fl]; exact hk)) := by
      have hb6 : w.heap.size + 5 ≤ w2.heap.size := by
        have := HK2.out.size
        omega
      refine (HO6.out.base hb6).keep (S := [w.heap.size + 1, w.heap.size + 1 + 1]) (((Keep.refl _ _).setCell (.inl (by simp)) _).setCell (.inl (by simp)) _) (fun b hb hm => ?_)
      have h6 : w.heap.size + 5 ≤ b := by
        rcases (HO6.out.base hb6).2 with ⟨h, -⟩ | ⟨g', cap', cur, h, h1, -⟩
        · rw [h] at hb; simp [Value.ownBlock] at hb
        · rw [h] at hb; simp [Value.ownBlock] at hb; omega
      simp at hm
      omega
    have HDF := Lib.hid hDf
    have HKF := Lib.hid hKf
    have HC1 := Lib.hid hC1
    have HC2 := Lib.hid hC2
    have HOF := Lib.hid hOf
    clear hDf hKf hC1 hC2 hOf h5 h3 hWl
    go_wp2
    have h5 := HS5.out
    have h3 := HS3.out
    have hnd : ∀ b, (Value.slice va6 m.sz vc6).ownBlock = some b → b ∉ [w5.heap.size] := fun b hb hm => by
      have h6 : w.heap.size + 5 ≤ b := by
        rcases HOF.out.2 with ⟨h, -⟩ | ⟨g', cap', cur, h, h1, -⟩
        · rw [h] at hb; simp [Value.ownBlock] at hb
        · rw [h] at hb; simp [Value.ownBlock] at hb; omega
      simp at hm
      omega
    refine leavesM_one HDF.out (results_read rfl _ _ rfl rfl (cell_of_one ((World.putObj_heap_other (by omega)).trans HC1.out)) (cell_of_one ((World.putObj_heap_other (by omega)).trans HC2.out))) ⟨_, rfl, by rw [HG.out]; exact (HOF.out.keep (S := [w5.heap.size]) ((Keep.refl _ _).putObj (.inl (by simp)) _) hnd).base (by omega), HKF.out.putObj (.inr (by omega)) _⟩
  case hstop =>
    rintro c pre W hpre ⟨rfl, hk1, v, l, e1, e2, ho, hl⟩ hD
    have hget : m.get k = l := by
      unfold Dev.get
      rw [hl, Option.getD_some]
    have h5 := HS5.out
    have h3 := HS3.out
    have hnd : ∀ b, v.ownBlock = some b → b ∉ [w5.heap.size] := fun b hb hm => by
      have h6 : w.heap.size + 6 ≤ b := by
        rcases ho.2 with ⟨h, -⟩ | ⟨g', cap', cur, h, h1, -⟩
        · rw [h] at hb; simp [Value.ownBlock] at hb
        · rw [h] at hb; simp [Value.ownBlock] at hb; omega
      simp at hm
      omega
    have HGT := Lib.hid hget
    clear hget
    go_wp2
    refine leavesM_one hD (results_read rfl _ _ rfl rfl (cell_of_one ((World.putObj_heap_other (by omega)).trans e1)) (cell_of_one ((World.putObj_heap_other (by omega)).trans e2))) ⟨_, rfl, by rw [HGT.out]; exact (ho.keep (S := [w5.heap.size]) ((Keep.refl _ _).putObj (.inl (by simp)) _) hnd).base (by omega), hk1.putObj (.inr (by omega)) _⟩

theorem read_any (w : World) (D : List Nat) (g : Nat) (m : Dev) (h : DV w D g m) (hacts : m.acts ≤ 1000000000) (a : Int) :
    Calls Try.prog 21 #[.pointer (some ⟨g, 0, none⟩), .int .i64 a] w fun e w' => ∃ v, e = .returned (.tuple #[v, .int .i64 ((m.read a).2 : Int)]) ∧ OwnB w' w.heap.size 5 v (m.read a).1 ∧ Keep [] w w' := by
  by_cases hr : m.ready a = 0
  · have hd : m.down = false := by
      cases hd : m.down with
      | false => rfl
      | true => simp [Dev.ready, hd] at hr
    have ha : 0 ≤ a ∧ a < m.n := by
      by_cases h0 : 0 ≤ a ∧ a < m.n
      · exact h0
      · simp only [Dev.ready, hd, if_neg h0] at hr
        cases hr
    obtain ⟨k, rfl⟩ : ∃ k : Nat, a = k := ⟨a.toNat, by omega⟩
    have e1 : m.read (k : Int) = (m.get k, 0) := by
      unfold Dev.read
      rw [if_neg (by rw [hr]; simp)]
      simp
    rw [e1]
    exact read_go w D g m h hacts k (by omega) hd
  · have e1 : m.read a = ([], m.ready a) := by
      unfold Dev.read
      rw [if_pos hr]
    rw [e1]
    refine (read_no w D g m h a hr).mono ?_
    rintro e w' ⟨rfl, hk⟩
    exact ⟨_, rfl, OwnB.nil _ _ _, hk⟩
end Go.Proofs.Ytjkjiabfhhnngaa
