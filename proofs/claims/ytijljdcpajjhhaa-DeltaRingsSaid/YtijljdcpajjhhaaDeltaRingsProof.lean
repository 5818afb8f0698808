import Derived.Test.YtijljdcpajjhhaaDlKit
import Derived.Deep.LoopGhost
import Derived.Test.YtijljdcpajjhhaaRows
import Derived.Test.YtijljdcpajjhhaaOpenF
import Derived.Test.YtijljdcpajjhhaaBase
import Derived.ChangeOld
/-! The walk of DeltaRings. -/
namespace Go.Proofs.Ytijljdcpajjhhaa
open Go.RowKit Go.Shelf Sg Go.ChangeShapes Go.WideShapes Go.ChangeAt Go.Deep
set_option linter.unusedSimpArgs false
set_option linter.unusedVariables false

section
variable {H : Type} {enc : TypeId × Value → H} {w : World}
set_option maxRecDepth 100000 in
theorem field_int12 {P : Program} {t : TypeId} {fs : Array Field} {cs : Array Value} {d : DataW H} {ps : List MemPlace} (ht : P.underlying t = some (.struct fs)) (h : DataW.Trod enc P w 0 (fun _ => true) true t (.agg cs) d ps)
    (i : Nat) (f : Field) (k : IntKind) (hf : fs[i]? = some f) (hk : P.underlying f.type = some (.int k)) (hc : P.cellsOf f.type = 1) (ho : f.offset = i) : ∃ n, cs[i]? = some (.int k n) ∧ (Lit.int k n).wf = true := by
  obtain ⟨fuel, hd⟩ := h
  obtain ⟨xs, n, -, -, -, hl, hall⟩ := DataW.trod_struct ht hd
  have h1 := hall i f hf
  have hi : i < xs.length := by rw [hl]; exact (Array.getElem?_eq_some_iff.1 hf).1
  rw [List.getElem?_eq_getElem hi, ho, hc] at h1
  obtain ⟨n', h2, -, h3⟩ := DataW.trod_int hk h1
  refine ⟨n', ?_, h3⟩
  have h4 := congrArg (fun l => l[0]?) h2
  simp [Value.cells, List.getElem?_drop] at h4
  exact h4
set_option maxRecDepth 100000 in
theorem field_bool12 {P : Program} {t : TypeId} {fs : Array Field} {cs : Array Value} {d : DataW H} {ps : List MemPlace} (ht : P.underlying t = some (.struct fs)) (h : DataW.Trod enc P w 0 (fun _ => true) true t (.agg cs) d ps)
    (i : Nat) (f : Field) (hf : fs[i]? = some f) (hk : P.underlying f.type = some .bool) (hc : P.cellsOf f.type = 1) (ho : f.offset = i) : ∃ n, cs[i]? = some (.bool n) := by
  obtain ⟨fuel, hd⟩ := h
  obtain ⟨xs, n, -, -, -, hl, hall⟩ := DataW.trod_struct ht hd
  have h1 := hall i f hf
  have hi : i < xs.length := by rw [hl]; exact (Array.getElem?_eq_some_iff.1 hf).1
  rw [List.getElem?_eq_getElem hi, ho, hc] at h1
  obtain ⟨n', h2, -⟩ := DataW.trod_bool hk h1
  refine ⟨n', ?_⟩
  have h4 := congrArg (fun l => l[0]?) h2
  simp [Value.cells, List.getElem?_drop] at h4
  exact h4
set_option maxRecDepth 100000 in
theorem chg_of {v : Value} {d : DataW H} {ps : List MemPlace} {r : Reach} {b : Nat} (hv : Value.okWide Try.prog w r b 97 v) (h : DataW.Trod enc Try.prog w 0 (fun _ => true) true 97 v d ps) :
    ∃ x : Ch, v = x.v ∧ x.hash < 18446744073709551616 := by
  obtain ⟨cs, rfl, hsz⟩ := okWide_struct Try.underlying97 hv
  have hsz' : cs.size = 5 := hsz.trans (by kernel_rfl)
  obtain ⟨n0, e0⟩ := field_bool12 Try.underlying97 h 0 _ rfl Try.underlying4 (by kernel_rfl) rfl
  obtain ⟨n1, e1, w1⟩ := field_int12 Try.underlying97 h 1 _ .u64 rfl Try.underlying58 (by kernel_rfl) rfl
  obtain ⟨n2, e2, w2⟩ := field_int12 Try.underlying97 h 2 _ .i64 rfl Try.underlying3 (by kernel_rfl) rfl
  obtain ⟨n3, e3, w3⟩ := field_int12 Try.underlying97 h 3 _ .i64 rfl Try.underlying3 (by kernel_rfl) rfl
  obtain ⟨n4, e4, w4⟩ := field_int12 Try.underlying97 h 4 _ .i64 rfl Try.underlying3 (by kernel_rfl) rfl
  have hr : 0 ≤ n1 ∧ n1 ≤ 18446744073709551615 := by
    have h1 : (IntKind.u64.min : Int) = 0 := rfl
    have h2 : (IntKind.u64.max : Int) = 18446744073709551615 := rfl
    simp only [Lit.wf, Bool.and_eq_true, decide_eq_true_eq, h1, h2] at w1
    exact w1
  refine ⟨⟨n0, n1.toNat, n2, n3, n4⟩, ?_, by simp only []; omega⟩
  unfold Ch.v
  simp only [Int.toNat_of_nonneg hr.1]
  congr 1
  apply Array.ext_getElem?
  intro i
  by_cases hi : i < 5
  · rcases (by omega : i = 0 ∨ i = 1 ∨ i = 2 ∨ i = 3 ∨ i = 4) with rfl | rfl | rfl | rfl | rfl
    · exact e0
    · exact e1
    · exact e2
    · exact e3
    · exact e4
  · rw [Array.getElem?_eq_none (by omega), Array.getElem?_eq_none (by simp; omega)]
end

set_option maxRecDepth 100000 in
set_option maxHeartbeats 1000000 in
set_option maxHeartbeats 4000000 in
theorem right12_any (x : Ch) (w : World) : Calls Try.prog 54 #[x.v] w fun e w' => e = .returned (.bool (decide x.Right)) ∧ Keep [] w w' := by
  obtain ⟨d, h, r, a, s⟩ := x
  have hK := (Keep.refl [] w).alloc (.cells #[.bool d, .int .u64 (h : Int), .int .i64 r, .int .i64 a, .int .i64 s] 97)
  simp only [Ch.v]
  cases d with
  | true =>
    go_enter Try.func54, Try.ntmps54
    go_wp2
    all_goals
      go_ret
      first
        | exact ⟨(show Ending.returned (.bool true) = .returned (.bool (decide (Ch.Right ⟨true, h, r, a, s⟩))) from by rw [decide_eq_true (by unfold Ch.Right; simp [*]; done)]), (Keep.refl [] w).alloc _⟩
        | exact ⟨(show Ending.returned (.bool false) = .returned (.bool (decide (Ch.Right ⟨true, h, r, a, s⟩))) from by rw [decide_eq_false (by unfold Ch.Right; simp; omega)]), (Keep.refl [] w).alloc _⟩
        | exact ⟨(show Ending.returned (.bool (s == 0)) = .returned (.bool (decide (Ch.Right ⟨true, h, r, a, s⟩))) from by rw [show (s == 0) = decide (Ch.Right ⟨true, h, r, a, s⟩) from by by_cases hs : s = 0 <;> simp [Ch.Right, hs, *]]), (Keep.refl [] w).alloc _⟩
  | false =>
    have hx : (⟨false, h, r, a, s⟩ : Ch).Right ↔ ((0 ≤ r ∧ r ≤ 1099511627776) ∧ (0 ≤ a ∧ a ≤ 65535) ∧ (0 ≤ s ∧ s ≤ 65535)) := by unfold Ch.Right; simp
    have HX := Lib.hid hx
    clear hx
    go_enter Try.func54, Try.ntmps54
    go_wp2
    all_goals
      go_ret
      first
        | exact ⟨(show Ending.returned (.bool true) = .returned (.bool (decide (Ch.Right ⟨false, h, r, a, s⟩))) from by rw [decide_eq_true (HX.out.2 (by omega))]), (Keep.refl [] w).alloc _⟩
        | exact ⟨(show Ending.returned (.bool false) = .returned (.bool (decide (Ch.Right ⟨false, h, r, a, s⟩))) from by rw [decide_eq_false (fun hh => by have := HX.out.1 hh; omega)]), (Keep.refl [] w).alloc _⟩
        | exact ⟨(show Ending.returned (.bool (decide (s ≤ 65535))) = .returned (.bool (decide (Ch.Right ⟨false, h, r, a, s⟩))) from by rw [show decide (s ≤ 65535) = decide (Ch.Right ⟨false, h, r, a, s⟩) from decide_eq_decide.2 ⟨fun h9 => HX.out.2 (by omega), fun hh => by have := HX.out.1 hh; omega⟩]), (Keep.refl [] w).alloc _⟩

set_option maxRecDepth 100000 in
theorem of12_any (x : Ch) (w : World) : Calls Try.prog 56 #[x.v] w fun e w' => e = .returned x.v ∧ Keep [] w w' := by
  obtain ⟨d, h, r, a, s⟩ := x
  simp only [Ch.v]
  go_enter Try.func56, Try.ntmps56
  go_wp2
  exact bodyPost_ret (results_cell_row rfl _ _ (w.heap.size + 1) 101 _ _ _ rfl (heap_alloc2_new _ _ _) Try.underlying101 rfl (by kernel_rfl)) rfl ⟨rfl, ((Keep.refl [] w).alloc _).alloc _⟩

/-- sectors that hold the same changes, one by one -/
structure RG (B : List Ch) (nx : Nat) (G : Nat → Option Bt) : Prop where
  h1 : ∀ k, 1 ≤ k → k < nx → nx ≤ k + 5 → G (k % 5) = some (k, 0, B)
  h2 : ∀ a, a < 5 → (∀ k, 1 ≤ k → k < nx → k % 5 ≠ a) → G a = none
theorem RG.nil (B : List Ch) : RG B 1 (fun _ => none) := ⟨fun k h1 h2 => by omega, fun a _ _ => rfl⟩
theorem RG.more {B : List Ch} {nx : Nat} {G : Nat → Option Bt} (h : RG B nx G) (h1 : 1 ≤ nx) : RG B (nx + 1) (setG G (nx % 5) (nx, 0, B)) := by
  refine ⟨fun k a1 a2 a3 => ?_, fun a ha hk => ?_⟩
  · unfold setG
    by_cases e : k = nx
    · subst e
      rw [if_pos rfl]
    · rw [if_neg (by omega)]
      exact h.h1 k a1 (by omega) (by omega)
  · unfold setG
    rw [if_neg (fun e => hk nx h1 (by omega) e.symm)]
    exact h.h2 a ha (fun k b1 b2 => hk k b1 (by omega))
theorem dget_ne {st t n : Nat} {p : List Ch} (h : st ≠ n) : (dget (some (st, t, p)) n).1 = false := by simp [dget, h]
theorem druns_head {S : Nat} {G : Nat → Option Bt} {f n : Nat} (h : (dget (G (n % S)) n).1 = false) : druns S G (f + 1) n = [] := by
  unfold druns
  rw [h]
  rfl
theorem RG.now {B : List Ch} {nx : Nat} {G : Nat → Option Bt} (h : RG B nx G) (h1 : 1 ≤ nx) : druns 5 G 5 nx = [] := by
  apply druns_head
  by_cases e : 6 ≤ nx
  · have hk := h.h1 (nx - 5) (by omega) (by omega) (by omega)
    rw [show nx % 5 = (nx - 5) % 5 by omega, hk]
    exact dget_ne (by omega)
  · rw [h.h2 (nx % 5) (by omega) (fun k a1 a2 => by omega)]
    rfl
theorem RG.all {B : List Ch} {i : Nat} {G : Nat → Option Bt} (h : RG B (5 * i + 1) G) (hB : B.length = 3) : (bch (druns 5 G 5 1)).length = if i = 1 then 15 else 0 := by
  by_cases e : i = 1
  · subst e
    rw [if_pos rfl]
    have a1 := h.h1 1 (by omega) (by omega) (by omega)
    have a2 := h.h1 2 (by omega) (by omega) (by omega)
    have a3 := h.h1 3 (by omega) (by omega) (by omega)
    have a4 := h.h1 4 (by omega) (by omega) (by omega)
    have a5 := h.h1 5 (by omega) (by omega) (by omega)
    simp only [Nat.reduceMod] at a1 a2 a3 a4 a5
    simp [druns, a1, a2, a3, a4, a5, dget, bch, hB]
  · rw [if_neg e, druns_head]
    · rfl
    · by_cases e0 : i = 0
      · subst e0
        rw [h.h2 1 (by omega) (fun k a1 a2 => by omega)]
        rfl
      · have hk := h.h1 (5 * i + 1 - 5) (by omega) (by omega) (by omega)
        rw [show 1 % 5 = (5 * i + 1 - 5) % 5 by omega, hk]
        exact dget_ne (by omega)

set_option maxRecDepth 100000 in
set_option maxRecDepth 100000 in
set_option maxHeartbeats 1000000 in
set_option maxHeartbeats 4000000 in
theorem deltaRingsWalk (W : World) (rounds : Int) (hrw : (Lit.int .u8 rounds).wf = true) (v : Value) (x : Ch) (hvx : v = x.v) (hh : x.hash < 18446744073709551616) :
    Calls Try.prog 6 #[.int .u8 rounds, v] W fun e W' => e = .returned (.bool true) ∧ Below W.heap.size W W' := by
  subst hvx
  obtain ⟨R, hR, hR2⟩ : ∃ R : Nat, rounds = (R : Int) ∧ R ≤ 255 := by
    have h1 : (IntKind.u8.min : Int) = 0 := rfl
    have h2 : (IntKind.u8.max : Int) = 255 := rfl
    simp only [Lit.wf, Bool.and_eq_true, decide_eq_true_eq, h1, h2] at hrw
    exact ⟨rounds.toNat, by omega, by omega⟩
  subst hR
  clear hrw
  obtain ⟨N, hN⟩ : ∃ N, R % 60 = N := ⟨_, rfl⟩
  have hN2 : N < 60 := by omega
  have y1 : ((R : Int)).tmod 60 = (N : Int) := by rw [Int.tmod_eq_emod_of_nonneg (by omega), ← hN]; rfl
  have y2 : IntKind.i64.wrap (N : Int) = (N : Int) := i64_wrap (by omega) (by omega)
  have cN := fun w => (newDev_any 60 96 (by decide) w : Calls Try.prog 15 #[.int .i64 60, .int .i64 96] w _)
  have CN := Lib.hid cN
  have CR := Lib.hid (fun w => right12_any x w)
  have CO := Lib.hid (fun w => of12_any x w)
  have HNN := Lib.hid hN
  clear cN hN
  have hA := (Keep.refl [] W).alloc (.cells #[.bool x.drop, .int .u64 (x.hash : Int), .int .i64 x.r, .int .i64 x.a, .int .i64 x.s] 97)
  have hB := heap_alloc_new W (.cells #[.bool x.drop, .int .u64 (x.hash : Int), .int .i64 x.r, .int .i64 x.a, .int .i64 x.s] 97)
  obtain ⟨W1, hW1⟩ : ∃ W1, W.alloc (.cells #[.bool x.drop, .int .u64 (x.hash : Int), .int .i64 x.r, .int .i64 x.a, .int .i64 x.s] 97) = W1 := ⟨_, rfl⟩
  rw [hW1] at hA hB
  have HA := Lib.hid (And.intro hA hB)
  have HW := Lib.hid hW1
  clear hA hB hW1
  simp only [Ch.v] at CR CO ⊢
  go_enter Try.func6, Try.ntmps6
  go_wp2_with fail
  rw [HW.out]
  refine (CN.out _).mono ?_
  rintro e w1 ⟨g, D, rfl, hD, k1, hf⟩
  clear CN
  go_wp2_with fail
  refine (small12_any w1).mono ?_
  rintro e w2 ⟨rfl, k2⟩
  have hFF := formatD_ok (W := W1) (X := []) (k1.trans k2) (hD.keep k2 (by simp)) (fun b hb => ⟨hf b hb, by simp⟩) (by simp)
  clear hD hf k1 k2
  go_wp2_with fail
  refine hFF.mono ?_
  clear hFF
  rintro e w3 ⟨gl, rfl, h3, -⟩
  have hac := new12_acts
  have hTG := RG.nil [x, x, x]
  generalize Dev.new 60 96 = m0 at *
  generalize (fun _ => (none : Option Bt)) = G0 at *
  have H3 := Lib.hid (And.intro h3 hTG)
  have HBX := Lib.hid (h3.k.blk (by simp) HA.out.2)
  clear h3 hTG
  have hX3 := HBX.out
  have b0 := cell_of_row w3 _ 0 _ _ _ hX3
  have b1 := cell_of_row w3 _ 1 _ _ _ hX3
  have b2 := cell_of_row w3 _ 2 _ _ _ hX3
  have b3 := cell_of_row w3 _ 3 _ _ _ hX3
  have b4 := cell_of_row w3 _ 4 _ _ _ hX3
  simp at b0 b1 b2 b3 b4
  go_wp2_with fail
  clear b0 b1 b2 b3 b4
  refine (CR.out _).mono ?_
  rintro e w4 ⟨rfl, k4⟩
  have HX := Lib.hid hX3
  clear hX3
  by_cases hx : x.Right
  case neg =>
    rw [decide_eq_false hx]
    have HK := Lib.hid (HA.out.1.trans (H3.out.1.k.trans k4))
    clear k4 hx
    go_wp2_with fail
    refine (awake12_any _).mono ?_
    rintro e w5 ⟨rfl, k5⟩
    have HK5 := Lib.hid (HK.out.trans k5)
    clear k5 HK
    go_wp2_with fail
    go_ret
    exact ⟨rfl, HK5.out.below (Nat.le_refl _) (by simp)⟩
  case pos =>
    rw [decide_eq_true hx]
    have H4 := Lib.hid (And.intro (H3.out.1.keep k4) H3.out.2)
    have HXR := Lib.hid hx
    clear k4 hx H3 HX HBX CR
    go_wp2_with fail
    go_loopw [9] (fun s9 wr => ∃ (i tm : Nat) (m : Dev) (G : Nat → Option Bt), i ≤ N ∧ s9 = .int .i64 (i : Int) ∧ m.acts ≤ 5 * i + 1 ∧ Hid (DAt W1 [] wr gl g ⟨5 * i + 1, 5 * i + 1, tm, []⟩ m G ∧ RG [x, x, x] (5 * i + 1) G)) (fun s9 _ => N - (intOf s9).toNat)
    case atStart => exact ⟨0, 0, m0, G0, by omega, rfl, by omega, H4⟩
    case round =>
      clear H4
      obtain ⟨i, tm, m, G, hi, rfl, hka, HL⟩ := hrel
      rename World => wr
      by_cases hiN : i = N
      case neg =>
        have hlt : (i : Int) < (N : Int) := by omega
        obtain ⟨F, hF⟩ : ∃ F, 5 * i + 1 = F := ⟨_, rfl⟩
        rw [hF] at HL
        have HF := Lib.hid hF
        have hka2 : m.acts ≤ F := by omega
        have hFb : F ≤ 300 := by omega
        have hF1 : 1 ≤ F := by omega
        clear hF
        go_wp2_with fail
        go_loopg [] 15 (fun k wr => ∃ (nx j tm : Nat) (m : Dev) (G : Nat → Option Bt), F ≤ nx ∧ nx ≤ F + 5 ∧ j ≤ 2 ∧ (nx = F + 5 → j = 0) ∧ k = 3 * (F + 5 - nx) - j ∧ m.acts ≤ nx ∧ Hid (DAt W1 [] wr gl g ⟨F, nx, tm, List.replicate j x⟩ m G ∧ RG [x, x, x] nx G))
        case atStart => exact ⟨F, 0, tm, m, G, by omega, by omega, by omega, by omega, by omega, hka2, HL⟩
        case round =>
          clear HL hka2
          obtain ⟨nx, j, tm, m, G, hn1, hn2, hj, hj0, hk, hka3, HL⟩ := hrel
          rename World => wr
          obtain ⟨lf, hlf⟩ : ∃ lf, 5 - (nx - F) = lf := ⟨_, rfl⟩
          have cL := leftD_ok HL.out.1
          rw [show ((5 - ((⟨F, nx, tm, List.replicate j x⟩ : Dl).nx - (⟨F, nx, tm, List.replicate j x⟩ : Dl).fr) : Nat) : Int) = (lf : Int) from by rw [← hlf]] at cL
          have CL := Lib.hid cL
          clear cL
          by_cases hfull : nx = F + 5
          case neg =>
            have hl0 : 0 < lf := by omega
            have hl1 : (0 : Int) < (lf : Int) := by omega
            have HLF := Lib.hid hlf
            clear hlf
            go_wp2_with fail
            refine CL.out.mono ?_
            clear CL
            rintro e w5 ⟨rfl, k5⟩
            have H5 := Lib.hid (HL.out.1.keep k5)
            clear k5
            have hX5 := (H5.out.k).blk (by simp) HA.out.2
            have b0 := cell_of_row w5 _ 0 _ _ _ hX5
            have b1 := cell_of_row w5 _ 1 _ _ _ hX5
            have b2 := cell_of_row w5 _ 2 _ _ _ hX5
            have b3 := cell_of_row w5 _ 3 _ _ _ hX5
            have b4 := cell_of_row w5 _ 4 _ _ _ hX5
            simp at b0 b1 b2 b3 b4
            clear hX5
            go_wp2_with fail
            clear b0 b1 b2 b3 b4
            refine (CO.out _).mono ?_
            rintro e w6 ⟨rfl, k6⟩
            have H6 := Lib.hid (H5.out.keep k6)
            have cA := addD_ok H6.out (by omega) (by show nx < 1099511628032; omega) x HXR.out hh 0 (by omega)
            simp only [Ch.v] at cA
            have CA := Lib.hid cA
            clear k6 cA
            go_wp2_with fail
            refine CA.out.mono ?_
            clear CA
            rintro e w7 ⟨-, (⟨h2, rfl, h4⟩ | ⟨h2, h3, rfl, h4⟩ | ⟨h2, h3, rfl, m', h4, h5⟩)⟩
            · exfalso
              have h2' : F + 5 ≤ nx := h2
              omega
            · have h3' : j < 2 := by simpa using h3
              have H7 := Lib.hid h4
              clear h2 h3 h4
              go_wp2_with fail
              go_roundg (gk - 1)
              case measure => omega
              case rel =>
                refine ⟨nx, j + 1, tm, m, G, hn1, hn2, by omega, by omega, by omega, hka3, Lib.hid ⟨?_, HL.out.2⟩⟩
                have h := H7.out
                rw [show (List.replicate j x ++ [x]) = List.replicate (j + 1) x from (List.replicate_succ' (n := j) (a := x)).symm] at h
                exact h
            · have h3' : j = 2 := by simpa using h3
              subst h3'
              have H7 := Lib.hid h5
              clear h2 h3 h5
              go_wp2_with fail
              go_roundg (gk - 1)
              case measure => omega
              case rel => exact ⟨nx + 1, 0, 0, m', _, by omega, by omega, by omega, by omega, by omega, by omega, Lib.hid ⟨H7.out, HL.out.2.more (by omega)⟩⟩
          case pos =>
            have hj00 := hj0 hfull
            subst hj00
            have hl0 : lf = 0 := by omega
            subst hl0
            rw [show ((0 : Nat) : Int) = 0 from rfl] at CL
            have HFL := Lib.hid hfull
            clear hlf hk hj0
            go_wp2_with fail
            refine CL.out.mono ?_
            clear CL
            rintro e w5 ⟨rfl, k5⟩
            have H5 := Lib.hid (HL.out.1.keep k5)
            clear k5
            have hX5 := (H5.out.k).blk (by simp) HA.out.2
            have b0 := cell_of_row w5 _ 0 _ _ _ hX5
            have b1 := cell_of_row w5 _ 1 _ _ _ hX5
            have b2 := cell_of_row w5 _ 2 _ _ _ hX5
            have b3 := cell_of_row w5 _ 3 _ _ _ hX5
            have b4 := cell_of_row w5 _ 4 _ _ _ hX5
            simp at b0 b1 b2 b3 b4
            clear hX5
            go_wp2_with fail
            clear b0 b1 b2 b3 b4
            refine (CO.out _).mono ?_
            rintro e w6 ⟨rfl, k6⟩
            have H6 := Lib.hid (H5.out.keep k6)
            have cA := addD_ok H6.out (by omega) (by show nx < 1099511628032; omega) x HXR.out hh 0 (by omega)
            simp only [Ch.v] at cA
            have CA := Lib.hid cA
            clear k6 cA
            go_wp2_with fail
            refine CA.out.mono ?_
            clear CA
            rintro e w7 ⟨-, (⟨h2, rfl, h4⟩ | ⟨h2, h3, rfl, h4⟩ | ⟨h2, h3, rfl, m', h4, h5⟩)⟩
            rotate_left
            · exfalso
              have h2' : nx < F + 5 := h2
              have := HFL.out
              omega
            · exfalso
              have h2' : nx < F + 5 := h2
              have := HFL.out
              omega
            have H7 := Lib.hid h4
            clear h2 h4
            have cX := nextD_ok H7.out
            rw [show (((⟨F, nx, tm, List.replicate 0 x⟩ : Dl).nx : Nat) : Int) = 6 + 5 * (i : Int) from by have := HFL.out; have := HF.out; show (nx : Int) = _; omega] at cX
            have CX := Lib.hid cX
            clear cX
            go_wp2_with fail
            refine CX.out.mono ?_
            clear CX
            rintro e w8 ⟨rfl, rfl⟩
            have CT := Lib.hid (restartD_ok H7.out)
            go_wp2_with fail
            refine CT.out.mono ?_
            clear CT
            rintro e w9 ⟨rfl, h9, -⟩
            have H9 := Lib.hid h9
            clear h9
            have hnx : nx = 5 * (i + 1) + 1 := by have := HFL.out; have := HF.out; omega
            have HNX := Lib.hid hnx
            have hkk : m.acts ≤ 5 * (i + 1) + 1 := by omega
            clear hnx
            go_wp2_with fail
            go_roundw
            case rel =>
              have h8 := H9.out
              have h7 := HL.out.2
              rw [HNX.out] at h7
              rw [HNX.out] at h8
              exact ⟨i + 1, tm, m, G, by omega, by go_num, hkk, Lib.hid ⟨h8, h7⟩⟩
            case measure => simp [intOf]; omega
      case pos =>
        subst hiN
        have HB3 := Lib.hid (show ([x, x, x] : List Ch).length = 3 from rfl)
        go_wp2_with fail
        refine (small12_any wr).mono ?_
        rintro e w4 ⟨rfl, k4⟩
        have HO := Lib.hid (openD_ok (HL.out.1.keep k4) (by omega) 1)
        have H4 := Lib.hid (HL.out.1.keep k4)
        clear k4
        go_wp2_with fail
        refine HO.out.mono ?_
        clear HO
        rintro e w5 ⟨k5, (⟨h2, -⟩ | ⟨f, h2, -, -, gl', pv, rfl, hrow⟩)⟩
        · omega
        have hf1 : f = 1 := by omega
        subst hf1
        obtain ⟨pa, pc, rfl⟩ := hrow.form
        have hall := HL.out.2.all HB3.out
        obtain ⟨K, hK⟩ : ∃ K, (bch (druns 5 G 5 1)).length = K := ⟨_, rfl⟩
        obtain ⟨T, hT⟩ : ∃ T, btm 0 (druns 5 G 5 1) = T := ⟨_, rfl⟩
        rw [hK] at hall
        rw [hK, hT]
        have hways : (i = 1 ∧ K = 15) ∨ (i ≠ 1 ∧ K = 0) := by
          by_cases e1 : i = 1
          · rw [if_pos e1] at hall; exact .inl ⟨e1, hall⟩
          · rw [if_neg e1] at hall; exact .inr ⟨e1, hall⟩
        have H5 := Lib.hid (H4.out.keep k5)
        clear hrow k5 h2 hK hT hall H4
        go_wp2_with fail
        refine (small12_any w5).mono ?_
        rintro e w6 ⟨rfl, k6⟩
        have H6 := Lib.hid (H5.out.keep k6)
        clear k6 H5
        have CX := Lib.hid (nextD_ok H6.out)
        go_wp2_with fail
        refine CX.out.mono ?_
        clear CX
        rintro e w7 ⟨rfl, rfl⟩
        obtain ⟨q, hq⟩ : ∃ q, 5 * i + 1 = q := ⟨_, rfl⟩
        have hq2 : (((⟨5 * i + 1, 5 * i + 1, tm, []⟩ : Dl).nx : Nat) : Int) = (q : Int) := by show ((5 * i + 1 : Nat) : Int) = (q : Int); rw [hq]
        rw [hq2]
        have HO := Lib.hid (openD_ok H6.out (by omega) (q : Int))
        have hqb : 1 ≤ q ∧ q ≤ 1000 := by omega
        have HQ := Lib.hid hq
        clear hq hq2
        go_wp2_with fail
        refine HO.out.mono ?_
        clear HO
        rintro e w8 ⟨k8, (⟨h2, -⟩ | ⟨f, h2, -, -, gl2, pv2, rfl, hrow2⟩)⟩
        · omega
        have hf1 : f = q := by omega
        subst hf1
        have hnow : druns 5 G 5 f = [] := by
          have h := HL.out.2.now (by omega)
          rw [HQ.out] at h
          exact h
        rw [hnow] at hrow2 ⊢
        obtain ⟨pa2, pc2, rfl⟩ := hrow2.form
        have HK := Lib.hid (HA.out.1.trans (H6.out.k.trans k8))
        clear hrow2 k8 h2 hnow
        rw [show (bch ([] : List Bt)).length = 0 from rfl, show btm 0 ([] : List Bt) = 0 from rfl]
        rcases hways with ⟨h8, rfl⟩ | ⟨h8, rfl⟩
        all_goals
          have h9 : ((i : Int) == 1) = decide ((i : Int) = 1) := rfl
          go_wp2_with fail
          refine (awake12_any _).mono ?_
          rintro e w9 ⟨rfl, k9⟩
          have HK9 := Lib.hid (HK.out.trans k9)
          clear k9
          go_wp2_with fail
          go_ret
          exact ⟨rfl, HK9.out.below (Nat.le_refl _) (by simp)⟩
end Go.Proofs.Ytijljdcpajjhhaa

/-! The row of DeltaRings, round its walk: what came in is opened, the walk is called, what came in reads as it did. -/
namespace Go.Proofs.Ytijljdcpajjhhaa.deltaRings
open Go.ChangeShapes Go.WideShapes Go.ChangeAt Go.RowKit Sg
open Go.ChangeMaps (open_string shut_string)
set_option linter.unusedVariables false

theorem own : ownKnob Try.prog.godebug = none := by kernel_rfl
theorem laidOut : laidOutB Try.prog = true := by kernel_rfl

set_option maxRecDepth 100000 in
theorem lifted (os : Os) (started : os.Started) (H : Type) (enc : TypeId × Value → H) :
    ReturnsInHanded {} Try.checked os 6 .any (Rows.deltaRingsSpec.pre6 enc Try.prog Try.f6 Rows.deltaRingsRow.domain false) (Rows.deltaRingsSpec.post enc Try.prog Try.f6 false true false false) := by
  refine returnsInHanded_of_change_sized (C := Try.checked) own started (by kernel_rfl) Try.func6
    (ChangeSpec.witness6 (enc := enc) (C := Try.checked) false ⟨#[], #[.int .u8 0, .agg #[.bool false, .int .u64 0, .int .i64 0, .int .i64 0, .int .i64 0]], []⟩ 8 (by kernel_rfl) (by kernel_rfl) (by kernel_rfl) (by kernel_rfl)) ?_
  intro W base args ds gs before hval0 hW _ hsz0 _
  have hsz : (DataW.weightsEach Try.prog (Try.f6.params.toList ++ Rows.deltaRingsSpec.plain.varTypes Try.prog) (ds ++ gs)).all (· ≤ reachBytes) = true := hsz0
  clear hsz0
  have hval : ∀ (j : Nat) t v, Try.f6.params[j]? = some t → args[j]? = some v → Value.okWide Try.prog W .any base t v := hval0
  have hW' := hW
  obtain ⟨p, q, hA0, hV, rfl, hfz, hnd⟩ := hW
  have hA : DataW.TrodAll enc Try.prog W 0 (fun _ => true) true Try.f6.params.toList args.toList ds p := hA0
  rw [Try.params6] at hA hval hsz
  obtain ⟨v0, vs0, d0, ds0, p0, q0, hargs, rfl, rfl, h0, r0⟩ := trodAll_cons hA
  obtain ⟨v1, vs1, d1, ds1, p1, q1, rfl, rfl, rfl, h1, r1⟩ := trodAll_cons r0
  obtain ⟨rfl, rfl, rfl⟩ := trodAll_nil r1
  obtain rfl : args = #[v0, v1] := by cases args; simp_all
  obtain ⟨rfl, rfl⟩ := trodVars_none hV
  have k0 := h0
  have lt0 : ∀ x ∈ p0, x.block < W.heap.size := by obtain ⟨m, hm⟩ := k0; exact DataW.trod_lt m _ _ _ hm
  have k1 := h1
  have lt1 : ∀ x ∈ p1, x.block < W.heap.size := by obtain ⟨m, hm⟩ := k1; exact DataW.trod_lt m _ _ _ hm
  obtain ⟨a0, rfl, _, _, w0⟩ := open_int Try.underlying5 (hval 0 5 v0 rfl rfl) h0
  obtain ⟨x1, e1, f1⟩ := chg_of (hval 1 97 v1 rfl rfl) h1
  refine (deltaRingsWalk W a0 w0 v1 x1 e1 f1).mono fun e W' ⟨he, bel⟩ => ?_
  subst he
  exact ⟨_, rfl, _, _, _, [], _, [], hW', trodAll_mk1 (shut_bool Try.underlying4 _), (trodAll_cons_mk (Below.trod laidOut (by kernel_rfl) (of_decide_eq_true (by kernel_rfl)) k0 bel lt0) (trodAll_cons_mk (Below.trod laidOut (by kernel_rfl) (of_decide_eq_true (by kernel_rfl)) k1 bel lt1) trodAll_mk0)), rfl, bel.frame _, fun h => by cases h⟩

theorem over : Rows.deltaRingsRow.holds Try.pinned (OpenSpec.ofChange Rows.deltaRingsSpec) :=
  OpenClaim.holds_of_wide 6 Try.f6 rfl rfl rfl rfl rfl rfl rfl ⟨rfl, rfl, rfl, rfl, rfl⟩ rfl rfl rfl rfl rfl (by kernel_rfl) Try.func6 (by kernel_rfl)
    (of_decide_eq_true (by kernel_rfl)) (by unfold Func.isWrapper; first | (rw [if_pos (by decide +kernel)]; kernel_rfl) | (rw [if_neg (by decide +kernel)]; exact ⟨rfl, rfl⟩))
    (fun os started H enc _ => lifted os started H enc)

/-- The statement. -/
theorem proved : Rows.DeltaRingsSaid := over
end Go.Proofs.Ytijljdcpajjhhaa.deltaRings
