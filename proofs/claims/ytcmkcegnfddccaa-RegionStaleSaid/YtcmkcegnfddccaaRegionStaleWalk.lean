import Derived.Test.YtcmkcegnfddccaaActs11
/-! The walk of the law RegionStale. -/
namespace Go.Proofs.Ytcmkcegnfddccaa
open Go.ChangeShapes Go.WideShapes Go.RowKit Go.Shelf Sg
attribute [local go_sem] Oper.semAt_some
set_option linter.unusedSimpArgs false
set_option linter.unusedVariables false

section
variable {H : Type} {enc : TypeId × Value → H} {w : World}
set_option maxRecDepth 100000 in
theorem field_int1 {P : Program} {t : TypeId} {fs : Array Field} {cs : Array Value} {d : DataW H} {ps : List MemPlace} (ht : P.underlying t = some (.struct fs)) (h : DataW.Trod enc P w 0 (fun _ => true) true t (.agg cs) d ps)
    (i : Nat) (f : Field) (k : IntKind) (hf : fs[i]? = some f) (hk : P.underlying f.type = some (.int k)) (hc : P.cellsOf f.type = 1) (ho : f.offset = i) : ∃ n, cs[i]? = some (.int k n) ∧ (Lit.int k n).wf = true := by
  obtain ⟨fuel, hd⟩ := h
  obtain ⟨xs, n, -, -, -, hl, hall⟩ := DataW.trod_struct ht hd
  have h1 := hall i f hf
  have hi : i < xs.length := by rw [hl]; exact (Array.getElem?_eq_some_iff.1 hf).1
  rw [List.getElem?_eq_getElem hi, ho, hc] at h1
  obtain ⟨n', h2, -, h3⟩ := DataW.trod_int hk h1
  refine ⟨n', ?_, h3⟩
  have h4 := congrArg (fun l => l[0]?) h2
  simp [Value.cells, List.getElem?_drop] at h4
  exact h4

set_option maxRecDepth 100000 in
theorem loc_of {v : Value} {d : DataW H} {ps : List MemPlace} {r : Reach} {b : Nat} (hv : Value.okWide Try.prog w r b 101 v) (h : DataW.Trod enc Try.prog w 0 (fun _ => true) true 101 v d ps) :
    ∃ x y z : Int, v = .agg #[.int .i64 x, .int .i64 y, .int .i64 z] ∧ (-9223372036854775808 ≤ x ∧ x ≤ 9223372036854775807) ∧ (-9223372036854775808 ≤ y ∧ y ≤ 9223372036854775807) ∧ (-9223372036854775808 ≤ z ∧ z ≤ 9223372036854775807) := by
  obtain ⟨cs, rfl, hsz⟩ := okWide_struct Try.underlying101 hv
  have hsz' : cs.size = 3 := hsz.trans (by kernel_rfl)
  obtain ⟨n0, e0, w0⟩ := field_int1 Try.underlying101 h 0 _ .i64 rfl Try.underlying3 (by kernel_rfl) rfl
  obtain ⟨n1, e1, w1⟩ := field_int1 Try.underlying101 h 1 _ .i64 rfl Try.underlying3 (by kernel_rfl) rfl
  obtain ⟨n2, e2, w2⟩ := field_int1 Try.underlying101 h 2 _ .i64 rfl Try.underlying3 (by kernel_rfl) rfl
  refine ⟨n0, n1, n2, ?_, i64_in w0, i64_in w1, i64_in w2⟩
  congr 1
  apply Array.ext_getElem?
  intro i
  by_cases hi : i < 3
  · rcases (by omega : i = 0 ∨ i = 1 ∨ i = 2) with rfl | rfl | rfl
    · exact e0
    · exact e1
    · exact e2
  · rw [Array.getElem?_eq_none (by omega), Array.getElem?_eq_none (by simp; omega)]
end

set_option maxRecDepth 100000 in
set_option maxHeartbeats 1000000 in
set_option maxHeartbeats 4000000 in
theorem regionStaleWalk (W : World) (v0 : Value) (l0 : List RAct) (hv : RActs W v0 l0) (a b s : Int) (hin : (-9223372036854775808 ≤ a ∧ a ≤ 9223372036854775807) ∧ (-9223372036854775808 ≤ b ∧ b ≤ 9223372036854775807) ∧ (-9223372036854775808 ≤ s ∧ s ≤ 9223372036854775807)) :
    Calls Try.prog 8 #[v0, .agg #[.int .i64 a, .int .i64 b, .int .i64 s]] W fun e W' => e = .returned (.bool true) ∧ Below W.heap.size W W' := by
  obtain ⟨va, vc, rfl, hlc, hlm, hcm⟩ := hv.form
  have HV := Lib.hid hv
  have hAB := (Keep.refl [] W).alloc (.cells #[.int .i64 a, .int .i64 b, .int .i64 s] 101)
  have hBX := heap_alloc_new W (.cells #[.int .i64 a, .int .i64 b, .int .i64 s] 101)
  obtain ⟨w0, hw0⟩ : ∃ w0, W.alloc (.cells #[.int .i64 a, .int .i64 b, .int .i64 s] 101) = w0 := ⟨_, rfl⟩
  rw [hw0] at hAB hBX
  have hs0 : W.heap.size < w0.heap.size := by rw [← hw0]; simp
  have cL := light11_any w0 _ l0 (by
    obtain ⟨ao, cap, e, h1, h2, h3, h4, h5⟩ := hv
    exact ⟨ao, cap, e, h1, h2, h3, h4, fun ad e i hi j v hv => hAB.cell (by simp) (h5 ad e i hi j v hv)⟩)
  have HW0 := Lib.hid hw0
  clear hv hw0
  go_enter Try.func8, Try.ntmps8
  go_wp2_with fail
  rw [HW0.out]
  clear HW0
  refine cL.mono ?_
  clear cL
  rintro e w1 ⟨(⟨⟨h60, hsize⟩, rfl⟩ | ⟨-, rfl⟩), k1⟩
  case inr =>
    go_wp2
    go_ret
    exact ⟨rfl, (hAB.trans k1).below (Nat.le_refl _) (by simp)⟩
  have HSZ := Lib.hid hsize
  clear hsize
  have hB1 := k1.blk (by simp) hBX
  have k01 := hAB.trans k1
  have hs1 := k1.size
  clear hAB hBX k1
  go_wp2_with fail
  refine (show Calls Try.prog 21 #[.int .i64 60, .int .i64 96] w1 _ from newDev_any 60 96 (by decide) w1).mono ?_
  rintro e w2 ⟨g, D, rfl, hD, k2, hf⟩
  go_wp2_with fail
  refine (small_any _).mono ?_
  rintro e w3 ⟨rfl, k3⟩
  have q1 : (lcOf smallP).R = 3 := rfl
  have q2 : (lcOf smallP).S * (lcOf smallP).rm = 154 := rfl
  have q3 : (lg0 smallP).at_ = 154 := rfl
  have q4 : (lg0 smallP).last = 0 := rfl
  have cF := format_ok (W := W) (X := [W.heap.size]) w3 (k01.trans (k2.trans k3)) (hD.keep k3 (by simp)) (fun b hb => by have := hf b hb; exact ⟨by omega, by simp; omega⟩) (fun b hb => by rw [List.mem_singleton.1 hb]; have := (k2.trans k3).size; omega) smallP small_on
  generalize lcOf smallP = c at *
  generalize lg0 smallP = lg at *
  have hB3 := (k2.trans k3).blk (by simp) hB1
  clear hD hf k01 k2 k3 hB1
  go_wp2_with fail
  refine cF.mono ?_
  clear cF
  rintro e w4 ⟨gl, rfl, h4, k4⟩
  have hB4 := k4.blk (by simp) hB3
  have ha0 : (Dev.new 60 96).acts = 0 := rfl
  generalize Dev.new 60 96 = m0 at *
  generalize (fun _ => ([] : List (List UInt8))) = F0 at *
  clear hB3 k4 hs1 hs0
  go_wp2
  go_loopw [7] (fun i wr => ∃ (k : Nat) (l : Lg) (m : Dev) (F : Nat → List (List UInt8)), k ≤ l0.length ∧ i = .int .i64 (k : Int) ∧ Hid (LogAt W [W.heap.size] wr gl g c l m F) ∧ Hid (wr.heap[W.heap.size]? = some (.cells #[.int .i64 a, .int .i64 b, .int .i64 s] 101 (0, 0))) ∧ l.last ≤ k ∧ m.acts ≤ k * 402) (fun i _ => l0.length - (intOf i).toNat)
  case atStart => exact ⟨0, lg, m0, F0, by omega, rfl, h4, hB4, by omega, by omega⟩
  case round =>
    clear h4 ha0 hB4
    obtain ⟨k, l, m, F, hk, rfl, hA, hX, hlast, hacts⟩ := hrel
    by_cases hlt : k < l0.length
    case pos =>
      have hlt' : (k : Int) < (l0.length : Int) := by omega
      obtain ⟨b0, o, rfl, hc⟩ := HV.out.spot hlt
      have hxk := HSZ.out k hlt
      obtain ⟨x, hx⟩ : ∃ x, l0[k] = x := ⟨_, rfl⟩
      rw [hx] at hc hxk
      have hatl := hA.out.inv.atl
      rw [q2] at hatl
      obtain ⟨c0, c1, c2, c3⟩ := hc wr hA.out.k
      clear hx hc
      go_wp2_with fail
      refine (bytes11_any _ x (by omega)).mono ?_
      rintro e w6 ⟨v6, rfl, o6, k6⟩
      have h6 := hA.out.addV k6 o6
      have hX6 := k6.blk (by simp) hX.out
      have hbl : x.bs.length ≤ 1000 := by rw [x.bs_len]; omega
      clear c0 c1 c2 c3 k6
      by_cases hok : 1 ≤ x.bs.length ∧ x.bs.length ≤ 154
      case neg =>
        have cA := append_no w6 h6 (by omega) (by omega) v6 x.bs (o6.bytes (by omega)) (fun y hy => List.mem_append_left _ (by rw [hy]; simp)) (by rw [q2]; omega)
        clear h6 o6
        go_wp2_with fail
        refine cA.mono ?_
        clear cA
        rintro e w7 ⟨rfl, h7, hr7⟩
        have H7 := Lib.hid (And.intro (h7.less (Y := [W.heap.size]) (fun b hb => List.mem_append_right _ hb)) (hr7.blk (List.mem_append_right _ (by simp)) hX6))
        clear h7 hr7 hX6
        go_wp2
        go_roundw
        case rel => exact ⟨k + 1, l, m, F, by omega, by go_num, H7.out.1, H7.out.2, by omega, by omega⟩
        case measure => simp [intOf]; omega
      case pos =>
        have cA := append_ok w6 h6 (by omega) (by omega) v6 x.bs (o6.bytes (by omega)) (fun y hy => List.mem_append_left _ (by rw [hy]; simp)) (by omega) (by rw [q2]; omega)
        clear h6 o6
        go_wp2_with fail
        refine cA.mono ?_
        clear cA
        rintro e w7 ⟨l7, m7, F7, a7, rfl, st, h7, hr7⟩
        have ew := st.way
        have eac := st.acts
        have H7 := Lib.hid (And.intro (h7.less (Y := [W.heap.size]) (fun b hb => List.mem_append_right _ hb)) (hr7.blk (List.mem_append_right _ (by simp)) hX6))
        clear h7 hr7 hX6 st
        go_wp2
        go_roundw
        case rel => exact ⟨k + 1, l7, m7, F7, by omega, by go_num, H7.out.1, H7.out.2, by omega, by omega⟩
        case measure => simp [intOf]; omega
    case neg =>
      have hlt' : ¬ (k : Int) < (l0.length : Int) := by omega
      have x0 := cell_of_row wr _ 0 _ _ _ hX.out
      have x1 := cell_of_row wr _ 1 _ _ _ hX.out
      have x2 := cell_of_row wr _ 2 _ _ _ hX.out
      simp at x0 x1 x2
      have cR := read_ok wr hA.out (by omega) a b s
      have hq := read_any_law hA.out.inv.core hA.out.inv.core.lastb a b s
      obtain ⟨RD, code, hRD⟩ : ∃ R code, c.read l m a b s = (R, code) := ⟨_, _, rfl⟩
      rw [hRD] at cR hq
      clear hRD
      go_wp2_with fail
      refine cR.mono ?_
      clear cR
      rintro e w5 ⟨v5, rfl, o5, k5⟩
      obtain ⟨va5, vc5, rfl⟩ := ownsRow_form o5
      have h5 := hA.out.keep k5
      have hX5 := k5.blk (by simp) hX.out
      have H5 := Lib.hid (And.intro h5 hX5)
      have HQ := Lib.hid hq
      clear h5 hX5 o5 k5 x0 x1 x2 hA hX hq
      have hlast2 := H5.out.1.inv.core.lastb
      obtain ⟨ol, hol⟩ : ∃ ol, c.oldest l = ol := ⟨_, rfl⟩
      have hsn : c.seen l a b s ↔ (((ol : Int) ≤ a ∧ a ≤ (l.last : Int)) ∧ 0 ≤ b ∧ 0 ≤ s ∧ b ≤ 154 ∧ s ≤ 154 - b) := by
        unfold Lc.seen
        rw [hol, q2]
        exact Iff.rfl
      have HSN := Lib.hid hsn
      have HOL := Lib.hid hol
      clear hsn hol
      generalize c.seen l a b s = SN at *
      go_wp2_with fail
      go_cut [74] from 40 to 109 (fun s74 wx => ((s74 = .bool true ∧ ¬ SN) ∨ (s74 = .bool false ∧ SN)) ∧ Hid (Keep [] w5 wx))
      case first =>
        have D : ∀ {p : Prop} [Decidable p], ¬ p → decide p = false := fun h => decide_eq_false h
        have hways : ((a < (ol : Int) ∨ (¬ a < (ol : Int) ∧ (l.last : Int) < a) ∨ (¬ a < (ol : Int) ∧ ¬ (l.last : Int) < a ∧ b < 0) ∨ (¬ a < (ol : Int) ∧ ¬ (l.last : Int) < a ∧ ¬ b < 0 ∧ s < 0) ∨ (¬ a < (ol : Int) ∧ ¬ (l.last : Int) < a ∧ ¬ b < 0 ∧ ¬ s < 0 ∧ 154 < b) ∨ (¬ a < (ol : Int) ∧ ¬ (l.last : Int) < a ∧ ¬ b < 0 ∧ ¬ s < 0 ∧ ¬ 154 < b ∧ 154 - b < s ∧ IntKind.i64.wrap (154 - b) = 154 - b)) ∧ ¬ SN) ∨
            ((¬ a < (ol : Int) ∧ ¬ (l.last : Int) < a ∧ ¬ b < 0 ∧ ¬ s < 0 ∧ ¬ 154 < b ∧ ¬ 154 - b < s ∧ IntKind.i64.wrap (154 - b) = 154 - b) ∧ SN) := by
          have h1 := HSN.out
          have hno : ¬ (((ol : Int) ≤ a ∧ a ≤ (l.last : Int)) ∧ 0 ≤ b ∧ 0 ≤ s ∧ b ≤ 154 ∧ s ≤ 154 - b) → ¬ SN := fun h h2 => h (h1.1 h2)
          by_cases c1 : a < (ol : Int)
          · exact .inl ⟨.inl c1, hno (by omega)⟩
          by_cases c2 : (l.last : Int) < a
          · exact .inl ⟨.inr (.inl ⟨c1, c2⟩), hno (by omega)⟩
          by_cases c3 : b < 0
          · exact .inl ⟨.inr (.inr (.inl ⟨c1, c2, c3⟩)), hno (by omega)⟩
          by_cases c4 : s < 0
          · exact .inl ⟨.inr (.inr (.inr (.inl ⟨c1, c2, c3, c4⟩))), hno (by omega)⟩
          by_cases c5 : 154 < b
          · exact .inl ⟨.inr (.inr (.inr (.inr (.inl ⟨c1, c2, c3, c4, c5⟩)))), hno (by omega)⟩
          have hw : IntKind.i64.wrap (154 - b) = 154 - b := i64_wrap (by omega) (by omega)
          by_cases c6 : 154 - b < s
          · exact .inl ⟨.inr (.inr (.inr (.inr (.inr ⟨c1, c2, c3, c4, c5, c6, hw⟩)))), hno (by omega)⟩
          · exact .inr ⟨⟨c1, c2, c3, c4, c5, c6, hw⟩, h1.2 (by omega)⟩
        have cOl := fun w' (h : Keep [] w5 w') => oldest_ok w' (H5.out.1.keep h)
        rw [HOL.out] at cOl
        have cLa := fun w' (h : Keep [] w5 w') => last_ok w' (H5.out.1.keep h)
        have HC := Lib.hid (And.intro cOl cLa)
        clear cOl cLa
        rcases hways with ⟨(h1 | ⟨h1, h2⟩ | ⟨h1, h2, h3⟩ | ⟨h1, h2, h3, h4⟩ | ⟨h1, h2, h3, h4, h5⟩ | ⟨h1, h2, h3, h4, h5, h6, y1⟩), hns⟩ | ⟨⟨h1, h2, h3, h4, h5, h6, y1⟩, hns⟩
        all_goals
          have HNS := Lib.hid hns
          clear hns
          refine wp_region_his [] [3, 9] (fun _ => 0) (by kernel_rfl) (by kernel_rfl) ?_
          intro w6 hk6 hh
          clear hh
          have x0 := fun w' (h : Keep [] w6 w') => cell_of_row w' _ 0 _ _ _ ((hk6.trans h).blk (by simp) H5.out.2)
          have x1 := fun w' (h : Keep [] w6 w') => cell_of_row w' _ 1 _ _ _ ((hk6.trans h).blk (by simp) H5.out.2)
          have x2 := fun w' (h : Keep [] w6 w') => cell_of_row w' _ 2 _ _ _ ((hk6.trans h).blk (by simp) H5.out.2)
          simp at x0 x1 x2
          have HK := Lib.hid hk6
          clear hk6
          (repeat (first | (refine his_q rfl rfl (fun K hK => ?_); apply Exists.intro; refine ⟨fun w' hC => ?_, ?_⟩; ((try simp [Sg.upd] at hC); go_simp <;> rfl); go_simp; refine hK _ _ ?_; clear hK K) | (refine his_s rfl (fun K hK => ?_); go_simp; refine hK _ _ ?_; clear hK K)))
          (refine his_l rfl rfl (fun K hK => ?_); go_simp)
          refine (HC.out.1 _ HK.out).mono ?_
          rintro e w7 ⟨rfl, k7⟩
          refine hK _ _ k7 ?_
          have HK7 := Lib.hid (HK.out.trans k7)
          clear hK K k7
          (repeat (first | (refine his_q rfl rfl (fun K hK => ?_); apply Exists.intro; refine ⟨fun w' hC => ?_, ?_⟩; ((try simp [Sg.upd] at hC); go_simp <;> rfl); go_simp; refine hK _ _ ?_; clear hK K) | (refine his_s rfl (fun K hK => ?_); go_simp; refine hK _ _ ?_; clear hK K)))
        · refine his_nil ?_
          clear x0 x1 x2
          go_wp2_with fail
          go_meet
          case rel => exact ⟨.inl ⟨rfl, HNS.out⟩, HK7.out⟩
        all_goals
          (refine his_l rfl rfl (fun K hK => ?_); go_simp)
          refine (HC.out.2 _ HK7.out).mono ?_
          rintro e w8 ⟨rfl, rfl⟩
          refine hK _ _ (Keep.refl _ _) ?_
          clear hK K
          (repeat (first | (refine his_q rfl rfl (fun K hK => ?_); apply Exists.intro; refine ⟨fun w' hC => ?_, ?_⟩; ((try simp [Sg.upd] at hC); go_simp <;> rfl); go_simp; refine hK _ _ ?_; clear hK K) | (refine his_s rfl (fun K hK => ?_); go_simp; refine hK _ _ ?_; clear hK K)))
          refine his_nil ?_
          clear x0 x1 x2
          go_wp2_with fail
          go_meet
          case rel => first | exact ⟨.inl ⟨rfl, HNS.out⟩, HK7.out⟩ | exact ⟨.inr ⟨rfl, HNS.out⟩, HK7.out⟩
      case rest =>
        rename World => wx
        obtain ⟨hor, HK⟩ := hcut
        have HA := fun w' (h : Keep [] wx w') => (H5.out.1.k.trans (HK.out.trans h)).below (Nat.le_refl _) (by simp : ∀ k, k ∈ ([] : List Nat) → W.heap.size ≤ k)
        have HAA := Lib.hid HA
        clear HA
        have hX6 := HK.out.blk (by simp) H5.out.2
        have x2 := cell_of_row wx _ 2 _ _ _ hX6
        simp at x2
        clear hX6
        rcases hor with ⟨rfl, hns⟩ | ⟨rfl, hns⟩
        · have hq : RD = [] ∧ code = 13 := by
            rcases HQ.out with ⟨h1, -⟩ | ⟨-, h2⟩
            · exact absurd h1 hns
            · cases h2; exact ⟨rfl, rfl⟩
          obtain ⟨rfl, rfl⟩ := hq
          clear hns
          go_wp2_with fail
          refine (awake11_any _).mono ?_
          rintro e w7 ⟨rfl, k7⟩
          go_wp2
          go_ret
          exact ⟨rfl, HAA.out _ k7⟩
        · rcases HQ.out with ⟨-, h1, h2⟩ | ⟨h1, h2⟩
          · subst h1
            have hl2 : ((RD.length : Nat) : Int) = s := h2
            obtain ⟨n2, hn2⟩ : ∃ n2, RD.length = n2 := ⟨_, rfl⟩
            rw [hn2] at hl2
            have HN2 := Lib.hid hn2
            subst hl2
            clear hns
            go_wp2_with fail
            refine (awake11_any _).mono ?_
            rintro e w7 ⟨rfl, k7⟩
            go_wp2
            go_ret
            exact ⟨rfl, HAA.out _ k7⟩
          · have hs0 : 0 < s := h1.resolve_left (fun h => h hns)
            cases h2
            clear hns h1
            go_wp2_with fail
            refine (awake11_any _).mono ?_
            rintro e w7 ⟨rfl, k7⟩
            go_wp2
            go_ret
            exact ⟨rfl, HAA.out _ k7⟩
end Go.Proofs.Ytcmkcegnfddccaa
