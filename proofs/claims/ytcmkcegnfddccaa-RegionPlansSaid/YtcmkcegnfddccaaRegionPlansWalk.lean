import Derived.Test.YtcmkcegnfddccaaAwake11
import Derived.Test.YtcmkcegnfddccaaPlanRefFit
import Derived.Test.YtcmkcegnfddccaaPlanRefFitNo
import Derived.WideShapes
import Derived.ChangeArms
/-! A plan that came in, opened. -/
namespace Go.Proofs.Ytcmkcegnfddccaa
open Go.ChangeShapes Go.WideShapes Go.RowKit Sg
section
variable {H : Type} {enc : TypeId × Value → H} {w : World}

set_option maxRecDepth 100000 in
theorem field_int {P : Program} {t : TypeId} {fs : Array Field} {cs : Array Value} {d : DataW H} {ps : List MemPlace} (ht : P.underlying t = some (.struct fs)) (h : DataW.Trod enc P w 0 (fun _ => true) true t (.agg cs) d ps)
    (i : Nat) (f : Field) (k : IntKind) (hf : fs[i]? = some f) (hk : P.underlying f.type = some (.int k)) (hc : P.cellsOf f.type = 1) (ho : f.offset = i) : ∃ n, cs[i]? = some (.int k n) ∧ (Lit.int k n).wf = true := by
  obtain ⟨fuel, hd⟩ := h
  obtain ⟨xs, n, -, -, -, hl, hall⟩ := DataW.trod_struct ht hd
  have h1 := hall i f hf
  have hi : i < xs.length := by rw [hl]; exact (Array.getElem?_eq_some_iff.1 hf).1
  rw [List.getElem?_eq_getElem hi, ho, hc] at h1
  obtain ⟨n', h2, -, h3⟩ := DataW.trod_int hk h1
  refine ⟨n', ?_, h3⟩
  have h4 := congrArg (fun l => l[0]?) h2
  simp [Value.cells, List.getElem?_drop] at h4
  exact h4

set_option maxRecDepth 100000 in
theorem plan_of {v : Value} {d : DataW H} {ps : List MemPlace} {r : Reach} {b : Nat} (hv : Value.okWide Try.prog w r b 117 v) (h : DataW.Trod enc Try.prog w 0 (fun _ => true) true 117 v d ps) : ∃ p : Pl, v = p.v ∧ p.In := by
  obtain ⟨cs, rfl, hsz⟩ := okWide_struct Try.underlying117 hv
  have hsz' : cs.size = 8 := hsz.trans (by kernel_rfl)
  obtain ⟨n0, e0, w0⟩ := field_int Try.underlying117 h 0 _ .i64 rfl Try.underlying3 (by kernel_rfl) rfl
  obtain ⟨n1, e1, w1⟩ := field_int Try.underlying117 h 1 _ .i64 rfl Try.underlying3 (by kernel_rfl) rfl
  obtain ⟨n2, e2, w2⟩ := field_int Try.underlying117 h 2 _ .i64 rfl Try.underlying3 (by kernel_rfl) rfl
  obtain ⟨n3, e3, w3⟩ := field_int Try.underlying117 h 3 _ .i64 rfl Try.underlying3 (by kernel_rfl) rfl
  obtain ⟨n4, e4, w4⟩ := field_int Try.underlying117 h 4 _ .i64 rfl Try.underlying3 (by kernel_rfl) rfl
  obtain ⟨n5, e5, w5⟩ := field_int Try.underlying117 h 5 _ .i64 rfl Try.underlying3 (by kernel_rfl) rfl
  obtain ⟨n6, e6, w6⟩ := field_int Try.underlying117 h 6 _ .i64 rfl Try.underlying3 (by kernel_rfl) rfl
  obtain ⟨n7, e7, w7⟩ := field_int Try.underlying117 h 7 _ .u64 rfl Try.underlying106 (by kernel_rfl) rfl
  obtain ⟨s, rfl, hs⟩ := u64_nat w7
  refine ⟨⟨n0, n1, n2, n3, n4, n5, n6, s⟩, ?_, i64_in w0, i64_in w1, i64_in w2, i64_in w3, i64_in w4, i64_in w5, i64_in w6, hs⟩
  unfold Pl.v
  congr 1
  apply Array.ext_getElem?
  intro i
  by_cases hi : i < 8
  · rcases (by omega : i = 0 ∨ i = 1 ∨ i = 2 ∨ i = 3 ∨ i = 4 ∨ i = 5 ∨ i = 6 ∨ i = 7) with rfl | rfl | rfl | rfl | rfl | rfl | rfl | rfl
    · exact e0
    · exact e1
    · exact e2
    · exact e3
    · exact e4
    · exact e5
    · exact e6
    · exact e7
  · rw [Array.getElem?_eq_none (by omega), Array.getElem?_eq_none (by simp; omega)]
end
end Go.Proofs.Ytcmkcegnfddccaa
/-! The walk of the law RegionPlans. -/
namespace Go.Proofs.Ytcmkcegnfddccaa
open Go.RowKit Go.Shelf Sg
attribute [local go_sem] Oper.semAt_some
set_option linter.unusedSimpArgs false
set_option linter.unusedVariables false

theorem refFit_any (p : Pl) (w : World) : Calls Try.prog 66 #[p.v] w fun e w' => e = .returned (.tuple (if p.Fits then #[p.lay, .int .i64 0] else #[lay8 0 0 0 0 0 0 0 0, .int .i64 12])) ∧ Keep [] w w' := by
  by_cases h : p.Within
  · exact refFit_yes p h w
  · rw [if_neg (fun hf => h hf.1)]
    exact refFit_no p h w

set_option maxRecDepth 100000 in
set_option maxHeartbeats 1000000 in
set_option maxHeartbeats 4000000 in
theorem regionPlansWalk (W : World) (p : Pl) (hp : p.In) (last : Int) (hl : (Lit.int .i64 last).wf = true) :
    Calls Try.prog 10 #[p.v, .int .i64 last] W fun e W' => e = .returned (.bool true) ∧ Below W.heap.size W W' := by
  have hl2 := i64_in hl
  have hfit := fun w => refFit_any p w
  have hfo := fun w D g h => format_any w D g (Dev.new 200 96) h p
  have hop := fun w D g h => open_any w D g (Dev.new 200 96) h (by decide) p last
  have cN := fun w => (show Calls Try.prog 21 #[.int .i64 200, .int .i64 96] w _ from newDev_any 200 96 (by decide) w)
  have hcore : (lcOf p).Ok (Dev.new 200 96) → ∀ q, q ≤ 4398046511104 → RgCore (lcOf p) q (Dev.new 200 96) (fun _ => []) := fun hok q hq => new_core hok (Dev.new_wf 200 96 (by decide)) q hq
  have hon : p.On (Dev.new 200 96) ↔ (p.Fits ∧ p.sec = 200 ∧ p.size = 96) := Iff.rfl
  generalize Dev.new 200 96 = dv at *
  have HCORE := Lib.hid hcore
  have CN := Lib.hid cN
  clear hcore cN
  have HFIT := Lib.hid hfit
  have HFO := Lib.hid (And.intro hfo hop)
  have HON := Lib.hid hon
  clear hl hfit hfo hop hon
  simp only [Pl.v] at HFIT HFO ⊢
  obtain ⟨PC, hPC⟩ : ∃ PC : Array Value, #[Value.int .i64 p.sec, .int .i64 p.size, .int .i64 p.reg, .int .i64 p.rs, .int .i64 p.lg, .int .i64 p.dep, .int .i64 p.mem, .int .u64 (p.seed : Int)] = PC := ⟨_, rfl⟩
  have hnew : Keep [] W ((W.alloc (.cells PC 117)).alloc (.cells PC 108)) ∧ ((W.alloc (.cells PC 117)).alloc (.cells PC 108)).heap[W.heap.size]? = some (.cells PC 117 (0, 0)) ∧ ((W.alloc (.cells PC 117)).alloc (.cells PC 108)).heap[W.heap.size + 1]? = some (.cells PC 108 (0, 0)) := by
    have h1 := heap_alloc_new W (.cells PC 117)
    have h2 := heap_alloc_new (W.alloc (.cells PC 117)) (.cells PC 108)
    rw [World.size_alloc] at h2
    exact ⟨((Keep.refl [] W).alloc _).alloc _, ((Keep.refl [] (W.alloc (.cells PC 117))).alloc _).blk (by simp) h1, h2⟩
  obtain ⟨w1, hw1⟩ : ∃ w1, ((W.alloc (.cells PC 117)).alloc (.cells PC 108)) = w1 := ⟨_, rfl⟩
  rw [hw1] at hnew
  rw [← hPC] at hnew hw1
  have HW := Lib.hid hw1
  have HN := Lib.hid hnew
  clear hw1 hPC hnew
  go_enter Try.func10, Try.ntmps10
  go_wp2_with fail
  rw [HW.out]
  refine (HFIT.out _).mono ?_
  clear HW HFIT
  rintro e w2 ⟨rfl, k2⟩
  have K2 := Lib.hid k2
  clear k2
  have hways : (p.Fits ∧ p.sec = 200 ∧ p.size = 96) ∨ (p.Fits ∧ p.sec ≠ 200) ∨ (p.Fits ∧ p.sec = 200 ∧ p.size ≠ 96) ∨ ¬ p.Fits := by
    by_cases h1 : p.Fits
    · by_cases h2 : p.sec = 200
      · by_cases h3 : p.size = 96
        · exact .inl ⟨h1, h2, h3⟩
        · exact .inr (.inr (.inl ⟨h1, h2, h3⟩))
      · exact .inr (.inl ⟨h1, h2⟩)
    · exact .inr (.inr (.inr h1))
  rcases hways with ⟨hf, hs1, hs2⟩ | ⟨hf, hs1⟩ | ⟨hf, hs1, hs2⟩ | hf
  case' inl =>
    rw [if_pos hf]
    have hrc := rm_cell p hf
    have hyes : p.On dv := HON.out.2 ⟨hf, hs1, hs2⟩
    have HYES := Lib.hid hyes
    simp only [Pl.lay, lay8]
    generalize p.page = y1 at *
    generalize p.sec - y1 = y2 at *
    generalize p.per = y3 at *
    generalize (p.room - 10) / 20 = y4 at *
    generalize p.tree = y5 at *
    generalize p.rs * p.room = y6 at *
    have HRC := Lib.hid hrc
    clear hyes hrc hf
    have hA3 := (Keep.refl [] w2).alloc (.cells #[.int .i64 2, .int .i64 (2 + p.lg), .int .i64 y1, .int .i64 y2, .int .i64 y3, .int .i64 y4, .int .i64 y5, .int .i64 y6] 119)
    have hX3 := heap_alloc_new w2 (.cells #[.int .i64 2, .int .i64 (2 + p.lg), .int .i64 y1, .int .i64 y2, .int .i64 y3, .int .i64 y4, .int .i64 y5, .int .i64 y6] 119)
    obtain ⟨w3, hw3⟩ : ∃ w3, w2.alloc (.cells #[.int .i64 2, .int .i64 (2 + p.lg), .int .i64 y1, .int .i64 y2, .int .i64 y3, .int .i64 y4, .int .i64 y5, .int .i64 y6] 119) = w3 := ⟨_, rfl⟩
    rw [hw3] at hA3 hX3
    have HW3 := Lib.hid hw3
    have hb0 := (K2.out.trans hA3).blk (by simp) HN.out.2.1
    have hb1 := (K2.out.trans hA3).blk (by simp) HN.out.2.2
    have H3 := Lib.hid (And.intro (HN.out.1.trans (K2.out.trans hA3)) (And.intro hX3 hb1))
    have x0 := cell_of_row w3 _ 0 _ _ _ hb0
    have x1 := cell_of_row w3 _ 1 _ _ _ hb0
    simp at x0 x1
    rw [← hw3] at x0 x1
    clear hA3 hX3 hw3 hb0 hb1
    go_wp2_with fail
    rw [HW3.out]
    clear x0 x1
    try clear hs1
    try clear hs2
  case' inr.inl =>
    rw [if_pos hf]
    have hno : ¬ p.On dv := fun h => hs1 (HON.out.1 h).2.1
    have HNO := Lib.hid hno
    clear hno hf
    simp only [Pl.lay, lay8]
    generalize p.page = y1 at *
    generalize p.sec - y1 = y2 at *
    generalize p.per = y3 at *
    generalize (p.room - 10) / 20 = y4 at *
    generalize p.tree = y5 at *
    generalize p.rs * p.room = y6 at *
    have d1 : (p.sec != 200) = true := bne_iff_ne.2 hs1
    have hA3 := (Keep.refl [] w2).alloc (.cells #[.int .i64 2, .int .i64 (2 + p.lg), .int .i64 y1, .int .i64 y2, .int .i64 y3, .int .i64 y4, .int .i64 y5, .int .i64 y6] 119)
    have hX3 := heap_alloc_new w2 (.cells #[.int .i64 2, .int .i64 (2 + p.lg), .int .i64 y1, .int .i64 y2, .int .i64 y3, .int .i64 y4, .int .i64 y5, .int .i64 y6] 119)
    obtain ⟨w3, hw3⟩ : ∃ w3, w2.alloc (.cells #[.int .i64 2, .int .i64 (2 + p.lg), .int .i64 y1, .int .i64 y2, .int .i64 y3, .int .i64 y4, .int .i64 y5, .int .i64 y6] 119) = w3 := ⟨_, rfl⟩
    rw [hw3] at hA3 hX3
    have HW3 := Lib.hid hw3
    have hb0 := (K2.out.trans hA3).blk (by simp) HN.out.2.1
    have hb1 := (K2.out.trans hA3).blk (by simp) HN.out.2.2
    have H3 := Lib.hid (And.intro (HN.out.1.trans (K2.out.trans hA3)) (And.intro hX3 hb1))
    have x0 := cell_of_row w3 _ 0 _ _ _ hb0
    have x1 := cell_of_row w3 _ 1 _ _ _ hb0
    simp at x0 x1
    rw [← hw3] at x0 x1
    clear hA3 hX3 hw3 hb0 hb1
    go_wp2_with fail
    rw [HW3.out]
    clear x0 x1
    try clear hs1
    try clear hs2
  case' inr.inr.inl =>
    rw [if_pos hf]
    have hno : ¬ p.On dv := fun h => hs2 (HON.out.1 h).2.2
    have HNO := Lib.hid hno
    clear hno hf
    simp only [Pl.lay, lay8]
    generalize p.page = y1 at *
    generalize p.sec - y1 = y2 at *
    generalize p.per = y3 at *
    generalize (p.room - 10) / 20 = y4 at *
    generalize p.tree = y5 at *
    generalize p.rs * p.room = y6 at *
    have d1 : (p.size != 96) = true := bne_iff_ne.2 hs2
    have hA3 := (Keep.refl [] w2).alloc (.cells #[.int .i64 2, .int .i64 (2 + p.lg), .int .i64 y1, .int .i64 y2, .int .i64 y3, .int .i64 y4, .int .i64 y5, .int .i64 y6] 119)
    have hX3 := heap_alloc_new w2 (.cells #[.int .i64 2, .int .i64 (2 + p.lg), .int .i64 y1, .int .i64 y2, .int .i64 y3, .int .i64 y4, .int .i64 y5, .int .i64 y6] 119)
    obtain ⟨w3, hw3⟩ : ∃ w3, w2.alloc (.cells #[.int .i64 2, .int .i64 (2 + p.lg), .int .i64 y1, .int .i64 y2, .int .i64 y3, .int .i64 y4, .int .i64 y5, .int .i64 y6] 119) = w3 := ⟨_, rfl⟩
    rw [hw3] at hA3 hX3
    have HW3 := Lib.hid hw3
    have hb0 := (K2.out.trans hA3).blk (by simp) HN.out.2.1
    have hb1 := (K2.out.trans hA3).blk (by simp) HN.out.2.2
    have H3 := Lib.hid (And.intro (HN.out.1.trans (K2.out.trans hA3)) (And.intro hX3 hb1))
    have x0 := cell_of_row w3 _ 0 _ _ _ hb0
    have x1 := cell_of_row w3 _ 1 _ _ _ hb0
    simp at x0 x1
    rw [← hw3] at x0 x1
    clear hA3 hX3 hw3 hb0 hb1
    go_wp2_with fail
    rw [HW3.out]
    clear x0 x1
    try clear hs1
    try clear hs2
  case' inr.inr.inr =>
    rw [if_neg hf]
    simp only [lay8]
    have hno : ¬ p.On dv := fun h => hf h.1
    have HNO := Lib.hid hno
    clear hno hf
    have hA3 := (Keep.refl [] w2).alloc (.cells #[.int .i64 0, .int .i64 0, .int .i64 0, .int .i64 0, .int .i64 0, .int .i64 0, .int .i64 0, .int .i64 0] 119)
    have hX3 := heap_alloc_new w2 (.cells #[.int .i64 0, .int .i64 0, .int .i64 0, .int .i64 0, .int .i64 0, .int .i64 0, .int .i64 0, .int .i64 0] 119)
    obtain ⟨w3, hw3⟩ : ∃ w3, w2.alloc (.cells #[.int .i64 0, .int .i64 0, .int .i64 0, .int .i64 0, .int .i64 0, .int .i64 0, .int .i64 0, .int .i64 0] 119) = w3 := ⟨_, rfl⟩
    rw [hw3] at hA3 hX3
    have HW3 := Lib.hid hw3
    have hb0 := (K2.out.trans hA3).blk (by simp) HN.out.2.1
    have hb1 := (K2.out.trans hA3).blk (by simp) HN.out.2.2
    have H3 := Lib.hid (And.intro (HN.out.1.trans (K2.out.trans hA3)) (And.intro hX3 hb1))
    clear hA3 hX3 hw3 hb0 hb1
    go_wp2_with fail
    rw [HW3.out]
  case inl =>
    refine (CN.out _).mono ?_
    rintro e w4 ⟨g, D, rfl, hD, k4, hfr⟩
    have hb := k4.blk (by simp) H3.out.2.2
    have HB4 := Lib.hid hb
    have c0 := cell_of_row _ _ 0 _ _ _ hb
    have c1 := cell_of_row _ _ 1 _ _ _ hb
    have c2 := cell_of_row _ _ 2 _ _ _ hb
    have c3 := cell_of_row _ _ 3 _ _ _ hb
    have c4 := cell_of_row _ _ 4 _ _ _ hb
    have c5 := cell_of_row _ _ 5 _ _ _ hb
    have c6 := cell_of_row _ _ 6 _ _ _ hb
    have c7 := cell_of_row _ _ 7 _ _ _ hb
    simp at c0 c1 c2 c3 c4 c5 c6 c7
    clear hb
    go_wp2_with fail
    refine (HFO.out.1 w4 D g hD).mono ?_
    clear c0 c1 c2 c3 c4 c5 c6 c7
    rintro e w5 ⟨k5, (⟨-, gl, rfl, hgl, hrv⟩ | ⟨hx, -⟩)⟩
    case inr => exact absurd HYES.out hx
    have hb := k5.blk (by simp) HB4.out
    have c0 := cell_of_row _ _ 0 _ _ _ hb
    have c1 := cell_of_row _ _ 1 _ _ _ hb
    have c2 := cell_of_row _ _ 2 _ _ _ hb
    have c3 := cell_of_row _ _ 3 _ _ _ hb
    have c4 := cell_of_row _ _ 4 _ _ _ hb
    have c5 := cell_of_row _ _ 5 _ _ _ hb
    have c6 := cell_of_row _ _ 6 _ _ _ hb
    have c7 := cell_of_row _ _ 7 _ _ _ hb
    simp at c0 c1 c2 c3 c4 c5 c6 c7
    clear hb
    go_wp2_with fail
    refine (HFO.out.2 w5 D g (hD.keep k5 (by simp))).mono ?_
    clear c0 c1 c2 c3 c4 c5 c6 c7
    have hok := lcOf_ok p _ HYES.out
    have hscan : ∀ q, q ≤ 4398046511104 → (lcOf p).scan dv ((lcOf p).R * (lcOf p).S) 0 q = (q, 0) := fun q hq =>
      scan_law (l := ⟨q, 0, []⟩) (HCORE.out hok q hq) _ _ _ (by omega) (Nat.le_refl _)
    rintro e w6 ⟨k6, (⟨hy, gl2, rfl, hgl2, hrv2⟩ | ⟨code, rfl, hx⟩)⟩
    case inr =>
      have hx2 : code = 1 ∧ 1099511627776 < last := by
        rcases hx with ⟨h, -⟩ | ⟨-, h, e⟩ | ⟨-, h, h2, h3⟩
        · exact absurd HYES.out h
        · exact ⟨e, h⟩
        · rw [hscan _ (by omega)] at h3
          exact absurd h3 h2
      obtain ⟨rfl, hgt⟩ := hx2
      have y1 : ¬ last ≤ 1099511627776 := by omega
      have K6 := Lib.hid (H3.out.1.trans (k4.trans (k5.trans k6)))
      clear k4 k5 k6 hD hfr hx HB4 H3 hscan hok hrv hgl hgt
      go_wp2_with fail
      refine (awake11_any _).mono ?_
      rintro e w7 ⟨rfl, k7⟩
      go_wp2
      go_ret
      exact ⟨rfl, (K6.out.trans k7).below (Nat.le_refl _) (by simp)⟩
    obtain ⟨pv, r1⟩ := hrv
    obtain ⟨pv2, r2⟩ := hrv2
    have hQ := hscan last.toNat (by have := hy.2.1; omega)
    have hlast2 : (lgOpen p dv last).last = last.toNat := by unfold lgOpen; rw [hQ]
    obtain ⟨Q, hQ1⟩ : ∃ Q, last.toNat = Q := ⟨_, rfl⟩
    rw [hQ1] at hlast2
    obtain ⟨N, hN⟩ : ∃ N, (lcOf p).S * (lcOf p).rm = N := ⟨_, rfl⟩
    have hR1 := hok.r1
    have hR2 := hok.r2
    have hS2 := hok.s2
    have hm2 := hok.m2
    have eR := HRC.out
    rw [hN] at eR
    have K6 := Lib.hid (H3.out.1.trans (k4.trans (k5.trans k6)))
    have hX6 := (k4.trans (k5.trans k6)).blk (by simp) H3.out.2.1
    have cL1 := fun w' (h : Keep [] w6 w') => last_any w' gl g _ _ _ (r1.row.keep (k6.trans h) (by simp))
    have cO1 := fun w' (h : Keep [] w6 w') => oldest_any w' gl g _ _ _ (r1.row.keep (k6.trans h) (by simp)) hR2 (by rw [lg0_last]; omega)
    have cW1 := fun w' (h : Keep [] w6 w') => where_any w' gl g _ _ _ (r1.row.keep (k6.trans h) (by simp)) hS2 hm2 (by rw [lg0_last]; omega) (by rw [lg0_at]; exact Nat.le_refl _)
    have cL2 := fun w' (h : Keep [] w6 w') => last_any w' gl2 g _ _ _ (r2.row.keep h (by simp))
    rw [lg0_last] at cL1 cW1
    rw [lg0_at, hN, Nat.zero_mul, Nat.zero_add] at cW1
    rw [hlast2] at cL2
    rw [show (lcOf p).oldest (lg0 p) = 1 by unfold Lc.oldest; rw [lg0_last]; omega] at cO1
    have HC := Lib.hid (And.intro cL1 (And.intro cO1 (And.intro cW1 cL2)))
    have HX := Lib.hid hX6
    subst eR
    have hmx : (last < 0 ∧ Q = 0) ∨ (¬ last < 0 ∧ last = (Q : Int)) := by omega
    clear cL1 cO1 cW1 cL2 hscan hok r1 r2 hQ hlast2 hN k4 k5 k6 hD hfr hX6 H3 HB4 hgl hgl2 hy hQ1 HRC
    rcases hmx with ⟨hm, rfl⟩ | ⟨hm, rfl⟩
    case' inr => have y9 : ((Q : Int) < 0) = False := eq_false hm
    all_goals
      go_wp2_with fail
      refine wp_region_his [] [1, 5, 10, 17, 23] (fun _ => 0) (by kernel_rfl) (by kernel_rfl) ?_
      intro w7 hk7 hh
      clear hh
      have x7 := fun w' (h : Keep [] w7 w') => cell_of_row w' _ 7 _ _ _ ((hk7.trans h).blk (by simp) HX.out)
      simp at x7
      have K7 := Lib.hid hk7
      clear hk7
      (repeat (first | (refine his_q rfl rfl (fun K hK => ?_); apply Exists.intro; refine ⟨fun w' hC => ?_, ?_⟩; ((try simp [Sg.upd] at hC); go_simp <;> rfl); go_simp; refine hK _ _ ?_; clear hK K) | (refine his_s rfl (fun K hK => ?_); go_simp; refine hK _ _ ?_; clear hK K)))
      (refine his_l rfl rfl (fun K hK => ?_); go_simp)
      refine (HC.out.1 _ K7.out).mono ?_
      rintro e w8 ⟨rfl, rfl⟩
      refine hK _ _ (Keep.refl _ _) ?_
      clear hK K
      (repeat (first | (refine his_q rfl rfl (fun K hK => ?_); apply Exists.intro; refine ⟨fun w' hC => ?_, ?_⟩; ((try simp [Sg.upd] at hC); go_simp <;> rfl); go_simp; refine hK _ _ ?_; clear hK K) | (refine his_s rfl (fun K hK => ?_); go_simp; refine hK _ _ ?_; clear hK K)))
      (refine his_l rfl rfl (fun K hK => ?_); go_simp)
      refine (HC.out.2.1 _ K7.out).mono ?_
      rintro e w9 ⟨rfl, k9⟩
      refine hK _ _ k9 ?_
      have K9 := Lib.hid (K7.out.trans k9)
      clear hK K k9
      (repeat (first | (refine his_q rfl rfl (fun K hK => ?_); apply Exists.intro; refine ⟨fun w' hC => ?_, ?_⟩; ((try simp [Sg.upd] at hC); go_simp <;> rfl); go_simp; refine hK _ _ ?_; clear hK K) | (refine his_s rfl (fun K hK => ?_); go_simp; refine hK _ _ ?_; clear hK K)))
      (refine his_l rfl rfl (fun K hK => ?_); go_simp)
      refine (HC.out.2.2.1 _ K9.out).mono ?_
      rintro e w10 ⟨rfl, k10⟩
      refine hK _ _ k10 ?_
      have K10 := Lib.hid (K9.out.trans k10)
      clear hK K k10
      (repeat (first | (refine his_q rfl rfl (fun K hK => ?_); apply Exists.intro; refine ⟨fun w' hC => ?_, ?_⟩; ((try simp [Sg.upd] at hC); go_simp <;> rfl); go_simp; refine hK _ _ ?_; clear hK K) | (refine his_s rfl (fun K hK => ?_); go_simp; refine hK _ _ ?_; clear hK K)))
      (refine his_l rfl rfl (fun K hK => ?_); go_simp)
      refine (HC.out.2.2.2 _ K10.out).mono ?_
      rintro e w11 ⟨rfl, rfl⟩
      refine hK _ _ (Keep.refl _ _) ?_
      clear hK K
      (repeat (first | (refine his_q rfl rfl (fun K hK => ?_); apply Exists.intro; refine ⟨fun w' hC => ?_, ?_⟩; ((try simp [Sg.upd] at hC); go_simp <;> rfl); go_simp; refine hK _ _ ?_; clear hK K) | (refine his_s rfl (fun K hK => ?_); go_simp; refine hK _ _ ?_; clear hK K)))
      (refine his_l rfl rfl (fun K hK => ?_); go_simp)
      refine (awake11_any _).mono ?_
      rintro e w12 ⟨rfl, k12⟩
      refine hK _ _ k12 ?_
      have K12 := Lib.hid (K10.out.trans k12)
      clear hK K k12
      (repeat (first | (refine his_q rfl rfl (fun K hK => ?_); apply Exists.intro; refine ⟨fun w' hC => ?_, ?_⟩; ((try simp [Sg.upd] at hC); go_simp <;> rfl); go_simp; refine hK _ _ ?_; clear hK K) | (refine his_s rfl (fun K hK => ?_); go_simp; refine hK _ _ ?_; clear hK K)))
      refine his_nil ?_
      clear x7
      go_wp2
      go_ret
      exact ⟨rfl, (K6.out.trans K12.out).below (Nat.le_refl _) (by simp)⟩
  all_goals
    refine (CN.out _).mono ?_
    rintro e w4 ⟨g, D, rfl, hD, k4, hfr⟩
    have hb := k4.blk (by simp) H3.out.2.2
    have HB4 := Lib.hid hb
    have c0 := cell_of_row _ _ 0 _ _ _ hb
    have c1 := cell_of_row _ _ 1 _ _ _ hb
    have c2 := cell_of_row _ _ 2 _ _ _ hb
    have c3 := cell_of_row _ _ 3 _ _ _ hb
    have c4 := cell_of_row _ _ 4 _ _ _ hb
    have c5 := cell_of_row _ _ 5 _ _ _ hb
    have c6 := cell_of_row _ _ 6 _ _ _ hb
    have c7 := cell_of_row _ _ 7 _ _ _ hb
    simp at c0 c1 c2 c3 c4 c5 c6 c7
    clear hb
    go_wp2_with fail
    refine (HFO.out.1 w4 D g hD).mono ?_
    clear c0 c1 c2 c3 c4 c5 c6 c7
    rintro e w5 ⟨k5, (⟨hx, -⟩ | ⟨-, rfl⟩)⟩
    · exact absurd hx HNO.out
    have hb := k5.blk (by simp) HB4.out
    have c0 := cell_of_row _ _ 0 _ _ _ hb
    have c1 := cell_of_row _ _ 1 _ _ _ hb
    have c2 := cell_of_row _ _ 2 _ _ _ hb
    have c3 := cell_of_row _ _ 3 _ _ _ hb
    have c4 := cell_of_row _ _ 4 _ _ _ hb
    have c5 := cell_of_row _ _ 5 _ _ _ hb
    have c6 := cell_of_row _ _ 6 _ _ _ hb
    have c7 := cell_of_row _ _ 7 _ _ _ hb
    simp at c0 c1 c2 c3 c4 c5 c6 c7
    clear hb
    go_wp2_with fail
    refine (HFO.out.2 w5 D g (hD.keep k5 (by simp))).mono ?_
    clear c0 c1 c2 c3 c4 c5 c6 c7
    rintro e w6 ⟨k6, (⟨hx, -⟩ | ⟨code, rfl, hx⟩)⟩
    · exact absurd hx.1 HNO.out
    obtain rfl : code = 12 := by
      rcases hx with ⟨-, e⟩ | ⟨h, -⟩ | ⟨h, -⟩
      · exact e
      · exact absurd h HNO.out
      · exact absurd h HNO.out
    have K6 := Lib.hid (H3.out.1.trans (k4.trans (k5.trans k6)))
    clear k4 k5 k6 hD hfr hx HB4 H3
    go_wp2_with fail
    refine (awake11_any _).mono ?_
    rintro e w7 ⟨rfl, k7⟩
    go_wp2
    go_ret
    exact ⟨rfl, (K6.out.trans k7).below (Nat.le_refl _) (by simp)⟩
end Go.Proofs.Ytcmkcegnfddccaa
