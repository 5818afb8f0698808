import Derived.Test.YtjkjiabfhhnngaaPlay04b
import Derived.Test.YtjkjiabfhhnngaaRef04c
import Derived.Outline
import Derived.Deep.CutBlock
/-! The walk of the law FlashPlays. -/
namespace Go.Proofs.Ytjkjiabfhhnngaa
open Go.RowKit Sg
set_option linter.unusedSimpArgs false
set_option linter.unusedVariables false

set_option maxRecDepth 100000 in
set_option maxHeartbeats 1000000 in
set_option maxHeartbeats 16000000 in
theorem flashPlaysWalk (W : World) (s z : Int) (va : Value) (l : List FAct) (ha : Acts W va l) :
    Calls Try.prog 3 #[.int .i64 s, .int .i64 z, va] W fun e W' => e = .returned (.bool true) ∧ Below W.heap.size W W' := by
  obtain ⟨aa, ac, rfl, -⟩ := ha.form
  have l1 := light2_any W _ l ha
  have HS := Lib.hid ha
  have hRt := fun w' => right4_any s z w'
  have fin : ∀ w', Keep [] W w' → Below W.heap.size W w' := fun w' k => k.below (Nat.le_refl _) (by simp)
  have FIN := Lib.hid fin
  clear ha fin
  by_cases hv : 1 ≤ s ∧ s ≤ 16384 ∧ 96 ≤ z ∧ z ≤ 512
  case neg =>
    rw [decide_eq_false hv] at hRt
    have cN := newNil_any s z hv
    clear hv
    by_cases h8 : 8 < s
    · by_cases h16 : s ≤ 16384
      · go_enter Try.func3, Try.ntmps3
        go_wp2_with fail
        refine l1.mono ?_
        rintro e w2 ⟨x, rfl, rfl, hx⟩
        clear l1 hx
        cases x with
        | false =>
          go_wp2
          go_ret
          exact ⟨rfl, FIN.out _ (Keep.refl _ _)⟩
        | true =>
          go_wp2
          go_ret
          exact ⟨rfl, FIN.out _ (Keep.refl _ _)⟩
      · skip
        go_enter Try.func3, Try.ntmps3
        go_wp2_with fail
        refine l1.mono ?_
        rintro e w2 ⟨x, rfl, rfl, hx⟩
        clear l1 hx
        cases x with
        | false =>
          go_wp2
          go_ret
          exact ⟨rfl, FIN.out _ (Keep.refl _ _)⟩
        | true =>
          go_wp2_with fail
          refine (cN _).mono ?_
          rintro e w3 ⟨rfl, rfl⟩
          go_wp2_with fail
          refine (hRt _).mono ?_
          rintro e w3 ⟨rfl, rfl⟩
          go_wp2_with fail
          refine (sectorsNil_any _).mono ?_
          rintro e w3 ⟨rfl, rfl⟩
          go_wp2_with fail
          refine (sizeNil_any _).mono ?_
          rintro e w3 ⟨rfl, rfl⟩
          go_wp2_with fail
          refine (awake04_any _).mono ?_
          rintro e w3 ⟨rfl, hk3⟩
          go_wp2
          go_ret
          exact ⟨rfl, FIN.out _ hk3⟩
    · skip
      go_enter Try.func3, Try.ntmps3
      go_wp2_with fail
      refine l1.mono ?_
      rintro e w2 ⟨x, rfl, rfl, hx⟩
      clear l1 hx
      cases x with
      | false =>
        go_wp2
        go_ret
        exact ⟨rfl, FIN.out _ (Keep.refl _ _)⟩
      | true =>
        go_wp2_with fail
        refine (cN _).mono ?_
        rintro e w3 ⟨rfl, rfl⟩
        go_wp2_with fail
        refine (hRt _).mono ?_
        rintro e w3 ⟨rfl, rfl⟩
        go_wp2_with fail
        refine (sectorsNil_any _).mono ?_
        rintro e w3 ⟨rfl, rfl⟩
        go_wp2_with fail
        refine (sizeNil_any _).mono ?_
        rintro e w3 ⟨rfl, rfl⟩
        go_wp2_with fail
        refine (awake04_any _).mono ?_
        rintro e w3 ⟨rfl, hk3⟩
        go_wp2
        go_ret
        exact ⟨rfl, FIN.out _ hk3⟩
  case pos =>
  rw [decide_eq_true hv] at hRt
  obtain ⟨S, rfl⟩ : ∃ S : Nat, s = (S : Int) := ⟨s.toNat, by omega⟩
  obtain ⟨Z, rfl⟩ : ∃ Z : Nat, z = (Z : Int) := ⟨z.toNat, by omega⟩
  have hS : 1 ≤ S ∧ S ≤ 16384 := by omega
  have hZ : 96 ≤ Z ∧ Z ≤ 512 := by omega
  clear hv
  by_cases h8 : 8 < S
  case pos =>
    have h8i : (8 : Int) < (S : Int) := by omega
    have h16i : (S : Int) ≤ 16384 := by omega
    go_enter Try.func3, Try.ntmps3
    go_wp2_with fail
    refine l1.mono ?_
    rintro e w2 ⟨x, rfl, rfl, hx⟩
    clear l1 hx
    cases x with
    | false =>
      go_wp2
      go_ret
      exact ⟨rfl, FIN.out _ (Keep.refl _ _)⟩
    | true =>
      go_wp2
      go_ret
      exact ⟨rfl, FIN.out _ (Keep.refl _ _)⟩
  have h8i : ¬ (8 : Int) < (S : Int) := by omega
  have cN := newDev_any S Z ⟨hS.1, hS.2, hZ⟩ W
  have HSZ := Lib.hid (And.intro hS.1 (And.intro hZ (show S ≤ 8 by omega)))
  clear hS hZ h8
  go_enter Try.func3, Try.ntmps3
  go_wp2_with fail
  refine l1.mono ?_
  rintro e w2 ⟨x, rfl, rfl, hx⟩
  clear l1
  cases x with
  | false =>
    clear hx cN
    go_wp2
    go_ret
    exact ⟨rfl, FIN.out _ (Keep.refl _ _)⟩
  | true =>
  have HL := Lib.hid (hx rfl)
  clear hx
  go_wp2_with fail
  refine cN.mono ?_
  rintro e w1 ⟨g, D, rfl, hD, hk1, hf1⟩
  clear cN
  go_wp2_with fail
  refine (hRt _).mono ?_
  rintro e w2 ⟨rfl, rfl⟩
  clear hRt
  have cR := refNew4_any S Z ⟨HSZ.out.1, by have := HSZ.out.2.2; omega⟩ ⟨by have := HSZ.out.2.1; omega, HSZ.out.2.1.2⟩ w1 (fun b => w1.heap.size ≤ b) (Lib.hid (fun b hb => hb))
  go_wp2_with fail
  refine cR.mono ?_
  clear cR
  rintro e w2 ⟨fv, pv, rfl, hr2, hk2⟩
  obtain ⟨fa, fn, fc, rfl⟩ : ∃ fa fn fc, fv = .slice fa fn fc := by
    obtain ⟨a, c, e⟩ := hr2.fast.form
    exact ⟨a, _, c, e⟩
  obtain ⟨pa, pn, pc, rfl⟩ : ∃ fa fn fc, pv = .slice fa fn fc := by
    obtain ⟨vs, hp, -⟩ := hr2.past
    obtain ⟨a, c, e⟩ := hp.form
    exact ⟨a, _, c, e⟩
  have H2 := Lib.hid (And.intro hD (And.intro hk1 (And.intro hf1 (And.intro hr2 hk2))))
  clear hD hk1 hf1 hr2 hk2
  simp only [d4cells, Dev.new, Int.cast_ofNat_Int]
  go_upto_region 7 with fail
  have hP : PlS W g w2.heap.size (w2.alloc (.cells #[.int .i64 (Z : Int), .slice fa fn fc, .slice none 0 0, .slice pa pn pc, .int .i64 0, .int .i64 0, .bool false] 33)) D (Dev.new S Z) (Dev.new S Z) (.slice fa fn fc) (.slice none 0 0) (.slice pa pn pc) := by
    have kA := (Keep.refl [] w2).alloc (.cells (d4cells (Dev.new S Z) (.slice fa fn fc) (.slice none 0 0) (.slice pa pn pc)) 33)
    have hD1 := H2.out.1.lt
    have hk2 := H2.out.2.2.2.2.size
    have hk1 := H2.out.2.1.size
    have hr : RDV (fun b => b ∉ D ∧ b ≠ w2.heap.size) w2 (.slice fa fn fc) (.slice none 0 0) (.slice pa pn pc) (Dev.new S Z) := H2.out.2.2.2.1.turn (fun b hb hp => ⟨fun hm => by have := hD1 b hm; omega, fun e => by omega⟩)
    exact ⟨(H2.out.1.keep H2.out.2.2.2.2 (by simp)).keep kA (by simp), heap_alloc_new _ _, hr.keep kA, fun hm => by have := hD1 _ hm; omega, H2.out.2.2.1, Nat.le_trans hk1 hk2, (H2.out.2.1.trans H2.out.2.2.2.2).trans kA⟩
  obtain ⟨R, hR⟩ : ∃ R, w2.heap.size = R := ⟨_, rfl⟩
  rw [hR] at hP ⊢
  generalize w2.alloc (.cells #[.int .i64 (Z : Int), .slice fa fn fc, .slice none 0 0, .slice pa pn pc, .int .i64 0, .int .i64 0, .bool false] 33) = w3 at *
  have HP := Lib.hid hP
  clear hP H2 hR
  obtain ⟨n, hn⟩ : ∃ n, l.length = n := ⟨_, rfl⟩
  rw [hn] at HS HL ⊢
  have HN := Lib.hid hn
  have hn40 : n ≤ 40 := HL.out.1
  clear hn
  go_wp2
  go_loopw [9] (fun i wr => ∃ (j : Nat) (m : Dev) (D' : List Nat) (fv lv pv : Value), j ≤ n ∧ i = .int .i64 (j : Int) ∧ Hid (PlS W g R wr D' m m fv lv pv) ∧ Hid (Fp S Z j m)) (fun i _ => n - (intOf i).toNat)
  case atStart => exact ⟨0, _, D, _, _, _, by omega, rfl, HP, Lib.hid ⟨rfl, rfl, Nat.le_refl _⟩⟩
  case round =>
    clear HP
    obtain ⟨j, m, D', fv, lv, pv, hj, rfl, HP, HF⟩ := hrel
    rename World => wr
    by_cases hjn : j < n
    · have hji : (j : Int) < (n : Int) := by omega
      have hjl : j < l.length := by rw [HN.out]; exact hjn
      obtain ⟨b, o, rfl, -, -⟩ := HS.out.spot (by omega)
      obtain ⟨a0, a1, a2, a3, a4, hok⟩ := HS.out.act HP.out.keep hjl
      have hq60 := HL.out.2 l[j] (List.getElem_mem hjl)
      obtain ⟨q, hq⟩ : ∃ q, l[j] = q := ⟨_, rfl⟩
      rw [hq] at a0 a1 a2 a3 a4 hok hq60
      obtain ⟨kd, at_, ln, mk, ff, fts⟩ := q
      simp only at a0 a1 a2 a3 a4 hok hq60
      have hfi : Ints W ff fts := hok.fates
      have hat1 : -9223372036854775808 ≤ at_ := hok.at1
      have hat2 : at_ ≤ 9223372036854775807 := hok.at2
      have hln : ln ≤ 9223372036854775807 := hok.len
      clear hok hq
      obtain ⟨fa, fc, rfl, -⟩ := hfi.form
      obtain ⟨ga, gn, gc, rfl⟩ : ∃ a n c, fv = .slice a n c := by
        obtain ⟨a, c, e⟩ := HP.out.rdv.fast.form
        exact ⟨a, _, c, e⟩
      obtain ⟨la, lc, rfl⟩ := HP.out.rdv.loose.form
      obtain ⟨pa, pn, pc, rfl⟩ : ∃ a n c, pv = .slice a n c := by
        obtain ⟨vs, hp, -⟩ := HP.out.rdv.past
        obtain ⟨a, c, e⟩ := hp.form
        exact ⟨a, _, c, e⟩
      obtain ⟨FN, hFN⟩ : ∃ FN, fts.length = FN := ⟨_, rfl⟩
      obtain ⟨LN, hLN⟩ : ∃ LN, m.loose.length = LN := ⟨_, rfl⟩
      rw [hFN] at a4 hq60
      rw [hFN] at hfi
      rw [hLN] at HP
      have HQ := Lib.hid (And.intro hfi (And.intro hFN hLN))
      clear hfi hFN hLN hjl
      go_upto_region 11 with fail
      have hbox := heap_alloc_new wr (.cells #[.int .i64 kd, .int .i64 at_, .int .i64 ln, .int .u8 (mk.toNat : Int), .slice fa FN fc] 37)
      have hPb := HP.out.on ((Keep.refl [] wr).alloc (.cells #[.int .i64 kd, .int .i64 at_, .int .i64 ln, .int .u8 (mk.toNat : Int), .slice fa FN fc] 37))
      have hbD := HP.out.room wr.heap.size (Nat.le_refl _)
      clear a0 a1 a2 a3 a4 HP
      obtain ⟨X, hX⟩ : ∃ X, wr.heap.size = X := ⟨_, rfl⟩
      rw [hX] at hbox hbD ⊢
      generalize wr.alloc (.cells #[.int .i64 kd, .int .i64 at_, .int .i64 ln, .int .u8 (mk.toNat : Int), .slice fa FN fc] 37) = wb at *
      have HB := Lib.hid (And.intro hPb (And.intro hbox hbD))
      have x0 := cell_of_row wb _ 0 _ _ _ hbox
      have x1 := cell_of_row wb _ 1 _ _ _ hbox
      simp at x0 x1
      clear hX hbox hbD hPb
      obtain ⟨r, hr, hr1, hr2, t, ht, ht1, ht2⟩ := mod8 kd
      have q4 : IntKind.i64.wrap (r + 8) = r + 8 := i64_wrap (by omega) (by omega)
      have q5 : IntKind.i64.wrap r = r := i64_wrap (by omega) (by omega)
      have q6 : IntKind.i64.wrap t = t := i64_wrap (by omega) (by omega)
      go_upto_block 2 with fail
      clear x0 q4 q5 q6 hr hr1 hr2 ht
      go_cut [11, 12, 13, 14, 15, 16, 17] from 69 to 167 (fun ev ef _ _ _ _ _ wx => ∃ (m' : Dev) (D'' : List Nat) (fv' lv' pv' : Value) (code : Nat), ev = .int .i64 (code : Int) ∧ ef = .int .i64 (code : Int) ∧ Hid (PlS W g R wx D'' m' m' fv' lv' pv') ∧ Hid (Fp S Z (j + 1) m'))
      case first =>
        have hwf := HB.out.1.dev.1
        have hacts5 : m.acts ≤ 100000 := by have := HF.out.acts; omega
        have hacts : m.acts ≤ 1000000000 := by omega
        rcases (by omega : t = 3 ∨ t = 4 ∨ t = 5 ∨ t = 6 ∨ t = 7 ∨ (t ≠ 3 ∧ t ≠ 4 ∧ t ≠ 5 ∧ t ≠ 6 ∧ t ≠ 7)) with rfl | rfl | rfl | rfl | rfl | ⟨x3, x4, x5, x6, x7⟩
        · skip
          obtain ⟨m4, code, hm4⟩ : ∃ m4 code, m.sync = (m4, code) := ⟨_, _, rfl⟩
          have hc := sync_any wb D' g m HB.out.1.dev hacts
          rw [hm4] at hc
          have HF4 : Hid (Fp S Z (j + 1) m4) := Lib.hid (by have h := HF.out.sync; rw [hm4] at h; exact h)
          go_wp2_with fail
          refine hc.mono ?_
          clear hc
          rintro e w4 ⟨rfl, D4, hD4, hG4, hK4⟩
          have hp4 := HB.out.1.dev1 hD4 hG4 hK4
          clear hD4 hG4 hK4
          have hrow := hp4.row
          simp only [d4cells] at hrow
          have c0 := cell_of_row w4 _ 0 _ _ _ hrow
          have c1 := cell_of_row w4 _ 1 _ _ _ hrow
          have c2 := cell_of_row w4 _ 2 _ _ _ hrow
          have c3 := cell_of_row w4 _ 3 _ _ _ hrow
          have c4 := cell_of_row w4 _ 4 _ _ _ hrow
          have c5 := cell_of_row w4 _ 5 _ _ _ hrow
          have c6 := cell_of_row w4 _ 6 _ _ _ hrow
          simp at c0 c1 c2 c3 c4 c5 c6
          clear hrow
          have hs := refSync4_any m hwf hacts5 _ _ _ w4 _ (Lib.hid hp4.room) hp4.rdv
          rw [hm4] at hs
          simp only [d4cells] at hs
          clear hm4
          go_wp2_with fail
          refine hs.mono ?_
          clear hs
          rintro e w5 ⟨fv', lv', pv', rfl, hr5, hk5⟩
          clear c0 c1 c2 c3 c4 c5 c6
          obtain ⟨ga2, gn2, gc2, la2, ln2, lc2, pa2, pn2, pc2, rfl, rfl, rfl⟩ := hr5.forms
          have hp5 := hp4.put1 hk5 hr5
          have HROW := Lib.hid ((hp4.on hk5).row)
          have HP5 := Lib.hid hp5
          clear hp5 hr5 hk5 hp4
          go_wp2_with (refine wpList_store_row rfl 33 (.tmp 8) (.tmp 98) rfl R #[.int .i64 (m4.sz : Int), .slice ga2 gn2 gc2, .slice la2 ln2 lc2, .slice pa2 pn2 pc2, .int .i64 (m4.armed : Int), .int .i64 (m4.acts : Int), .bool m4.down] rfl rfl 33 _ HROW.out (by kernel_rfl) (by rfl) (by kernel_rfl) ?_)
          go_meet
          case rel => exact ⟨m4, _, _, _, _, code, rfl, rfl, HP5, HF4⟩
        · skip
          obtain ⟨L4, code, hm4⟩ : ∃ L4 code, m.read at_ = (L4, code) := ⟨_, _, rfl⟩
          have hL4 : L4.length ≤ 512 := by
            have h := read_short hwf at_
            rw [hm4] at h
            exact h
          have hc := read_any wb D' g m HB.out.1.dev hacts at_
          rw [hm4] at hc
          have y1 := cell_of_row wb _ 1 _ _ _ (HB.out.2.1)
          simp at y1
          go_wp2_with fail
          refine hc.mono ?_
          clear hc y1
          rintro e w4 ⟨v4, rfl, ho4, hk4⟩
          have hp4 := HB.out.1.on hk4
          have hrow := hp4.row
          simp only [d4cells] at hrow
          have c0 := cell_of_row w4 _ 0 _ _ _ hrow
          have c1 := cell_of_row w4 _ 1 _ _ _ hrow
          have c2 := cell_of_row w4 _ 2 _ _ _ hrow
          have c3 := cell_of_row w4 _ 3 _ _ _ hrow
          have c4 := cell_of_row w4 _ 4 _ _ _ hrow
          have c5 := cell_of_row w4 _ 5 _ _ _ hrow
          have c6 := cell_of_row w4 _ 6 _ _ _ hrow
          simp at c0 c1 c2 c3 c4 c5 c6
          clear hrow
          have y1 := cell_of_row w4 _ 1 _ _ _ (hk4.blk (by simp) HB.out.2.1)
          simp at y1
          have hs := refRead4_any m hwf hacts _ _ _ w4 hp4.rdv at_
          rw [hm4] at hs
          simp only [d4cells] at hs
          clear hm4
          go_wp2_with fail
          refine hs.mono ?_
          clear hs y1
          rintro e w5 ⟨rfl, hk5⟩
          clear c0 c1 c2 c3 c4 c5 c6
          have q5 := run_str (P := Try.prog) 42 9 5 Try.underlying42 Try.underlying5 Try.underlying9 ((ho4.bytes (by omega)).keep hk5 (by simp))
          have HP5 := Lib.hid (hp4.on hk5)
          obtain ⟨SL, hSL⟩ : ∃ SL : ByteArray, ⟨L4.toArray⟩ = SL := ⟨_, rfl⟩
          rw [hSL] at q5 ⊢
          clear ho4 hk4 hk5 hp4 hL4 hSL
          go_wp2_with fail
          go_meet
          case rel => exact ⟨m, _, _, _, _, 0, rfl, rfl, HP5, Lib.hid (HF.out.more (Nat.le_succ _))⟩
        · skip
          have hc := arm_any wb D' g m HB.out.1.dev at_ hat2
          have hmx : ((m.arm at_).armed : Int) = if at_ < 0 then 0 else at_ := by
            show ((at_.toNat : Nat) : Int) = _
            split <;> omega
          have HMX := Lib.hid hmx
          clear hmx
          have y1 := cell_of_row wb _ 1 _ _ _ (HB.out.2.1)
          simp at y1
          go_wp2_with fail
          refine hc.mono ?_
          clear hc y1
          rintro e w4 ⟨rfl, hD4, hK4⟩
          have hp4 := HB.out.1.dev1 hD4 (Grew.refl _ _) hK4
          have hrow := hp4.row
          simp only [d4cells] at hrow
          have c4 := cell_of_row w4 _ 4 _ _ _ hrow
          simp at c4
          clear hrow
          have f4 := frozen_of_row w4 R 4 _ _ hp4.row
          have y1 := cell_of_row w4 _ 1 _ _ _ (hK4.blk HB.out.2.2.1 HB.out.2.1)
          simp at y1
          clear hD4 hK4
          have hp5 := hp4.arm1 at_.toNat
          have HP5 := Lib.hid hp5
          clear hp4 hp5
          by_cases hneg : at_ < 0
          · have hz : ((at_.toNat : Nat) : Int) = 0 := by omega
            have HZ := Lib.hid hz
            clear hz
            go_wp2_with fail
            go_meet
            case rel =>
              have h := HP5.out
              rw [HZ.out] at h
              exact ⟨m.arm at_, _, _, _, _, 0, rfl, rfl, Lib.hid h, Lib.hid (HF.out.arm at_)⟩
          · have hz : ((at_.toNat : Nat) : Int) = at_ := by omega
            have HZ := Lib.hid hz
            clear hz
            go_wp2_with fail
            go_meet
            case rel =>
              have h := HP5.out
              rw [HZ.out] at h
              exact ⟨m.arm at_, _, _, _, _, 0, rfl, rfl, Lib.hid h, Lib.hid (HF.out.arm at_)⟩
        · skip
          obtain ⟨v5, w5, hrun, hi5, hk5, hb5⟩ := run_append_ints wb (HQ.out.1.keep HB.out.1.keep (by simp)) (by rw [HQ.out.2.1]; omega)
          have kA := (Keep.refl [] wb).alloc (.cells #[] 3)
          have y4 := cell_of_row _ _ 4 _ _ _ (kA.blk (by simp) HB.out.2.1)
          simp at y4
          have hpa := HB.out.1.on hk5
          have hc := crash_any w5 D' g m hpa.dev hacts v5 fts hi5 (fun _ b hb hm => by have h1 := HB.out.1.dev.lt b hm; have h2 := hb5 b hb; omega)
          have HX5 := Lib.hid (hk5.blk (by simp) HB.out.2.1)
          have HPA := Lib.hid hpa
          have HR5 := Lib.hid hrun
          clear hrun hi5 hk5 hb5 kA hpa
          go_wp2_with (at_builtin; refine wpList_append_run rfl (.tmp 138) (.tmp 140) 35 rfl (w' := w5) rfl rfl HR5.out ?_)
          refine hc.mono ?_
          clear hc y4 HR5
          rintro e w6 ⟨rfl, D6, hD6, hG6, hK6⟩
          have hp4 := HPA.out.dev1 hD6 hG6 hK6
          have hrow := hp4.row
          simp only [d4cells] at hrow
          have c0 := cell_of_row w6 _ 0 _ _ _ hrow
          have c1 := cell_of_row w6 _ 1 _ _ _ hrow
          have c2 := cell_of_row w6 _ 2 _ _ _ hrow
          have c3 := cell_of_row w6 _ 3 _ _ _ hrow
          have c4 := cell_of_row w6 _ 4 _ _ _ hrow
          have c5 := cell_of_row w6 _ 5 _ _ _ hrow
          have c6 := cell_of_row w6 _ 6 _ _ _ hrow
          simp at c0 c1 c2 c3 c4 c5 c6
          clear hrow
          have y4 := cell_of_row w6 _ 4 _ _ _ (hK6.blk HB.out.2.2.1 HX5.out)
          simp at y4
          clear hD6 hG6 hK6
          have hs := refCrash4_any m hwf hacts5 _ _ _ w6 _ (Lib.hid hp4.room) hp4.rdv _ fts (HQ.out.1.keep hp4.keep (by simp))
          have HF4 : Hid (Fp S Z (j + 1) (m.crash fts)) := Lib.hid (HF.out.crash fts)
          generalize m.crash fts = m4 at *
          simp only [d4cells] at hs
          go_wp2_with fail
          refine hs.mono ?_
          clear hs y4
          rintro e w7 ⟨fv', lv', pv', rfl, hr5, hk5⟩
          clear c0 c1 c2 c3 c4 c5 c6
          obtain ⟨ga2, gn2, gc2, la2, ln2, lc2, pa2, pn2, pc2, rfl, rfl, rfl⟩ := hr5.forms
          have hp5 := hp4.put1 hk5 hr5
          have HROW := Lib.hid ((hp4.on hk5).row)
          have HP5 := Lib.hid hp5
          clear hp5 hr5 hk5 hp4
          go_wp2_with (refine wpList_store_row rfl 33 (.tmp 8) (.tmp 146) rfl R #[.int .i64 (m4.sz : Int), .slice ga2 gn2 gc2, .slice la2 ln2 lc2, .slice pa2 pn2 pc2, .int .i64 (m4.armed : Int), .int .i64 (m4.acts : Int), .bool m4.down] rfl rfl 33 _ HROW.out (by kernel_rfl) (by rfl) (by kernel_rfl) ?_)
          go_meet
          case rel => exact ⟨m4, _, _, _, _, 0, rfl, rfl, HP5, HF4⟩
        · skip
          obtain ⟨m4, code, hm4⟩ : ∃ m4 code, m.rot at_ ln mk = (m4, code) := ⟨_, _, rfl⟩
          have hc := rot_any wb D' g m HB.out.1.dev at_ ln mk
          rw [hm4] at hc
          have HF4 : Hid (Fp S Z (j + 1) m4) := Lib.hid (by have h := HF.out.rot at_ ln mk; rw [hm4] at h; exact h)
          have y1 := cell_of_row wb _ 1 _ _ _ (HB.out.2.1)
          have y2 := cell_of_row wb _ 2 _ _ _ (HB.out.2.1)
          have y3 := cell_of_row wb _ 3 _ _ _ (HB.out.2.1)
          simp at y1 y2 y3
          go_wp2_with fail
          refine hc.mono ?_
          clear hc y1 y2 y3
          rintro e w4 ⟨rfl, D4, hD4, hG4, hK4⟩
          have hp4 := HB.out.1.dev1 hD4 hG4 hK4
          have hrow := hp4.row
          simp only [d4cells] at hrow
          have c0 := cell_of_row w4 _ 0 _ _ _ hrow
          have c1 := cell_of_row w4 _ 1 _ _ _ hrow
          have c2 := cell_of_row w4 _ 2 _ _ _ hrow
          have c3 := cell_of_row w4 _ 3 _ _ _ hrow
          have c4 := cell_of_row w4 _ 4 _ _ _ hrow
          have c5 := cell_of_row w4 _ 5 _ _ _ hrow
          have c6 := cell_of_row w4 _ 6 _ _ _ hrow
          simp at c0 c1 c2 c3 c4 c5 c6
          clear hrow
          have y1 := cell_of_row w4 _ 1 _ _ _ (hK4.blk HB.out.2.2.1 HB.out.2.1)
          have y2 := cell_of_row w4 _ 2 _ _ _ (hK4.blk HB.out.2.2.1 HB.out.2.1)
          have y3 := cell_of_row w4 _ 3 _ _ _ (hK4.blk HB.out.2.2.1 HB.out.2.1)
          simp at y1 y2 y3
          clear hD4 hG4 hK4
          have hs := refRot4_any m hwf hacts5 _ _ _ w4 _ (Lib.hid hp4.room) hp4.rdv at_ ln mk
          rw [hm4] at hs
          simp only [d4cells] at hs
          clear hm4
          go_wp2_with fail
          refine hs.mono ?_
          clear hs y1 y2 y3
          rintro e w5 ⟨fv', lv', pv', rfl, hr5, hk5⟩
          clear c0 c1 c2 c3 c4 c5 c6
          obtain ⟨ga2, gn2, gc2, la2, ln2, lc2, pa2, pn2, pc2, rfl, rfl, rfl⟩ := hr5.forms
          have hp5 := hp4.put1 hk5 hr5
          have HROW := Lib.hid ((hp4.on hk5).row)
          have HP5 := Lib.hid hp5
          clear hp5 hr5 hk5 hp4
          go_wp2_with (refine wpList_store_row rfl 33 (.tmp 8) (.tmp 166) rfl R #[.int .i64 (m4.sz : Int), .slice ga2 gn2 gc2, .slice la2 ln2 lc2, .slice pa2 pn2 pc2, .int .i64 (m4.armed : Int), .int .i64 (m4.acts : Int), .bool m4.down] rfl rfl 33 _ HROW.out (by kernel_rfl) (by rfl) (by kernel_rfl) ?_)
          go_meet
          case rel => exact ⟨m4, _, _, _, _, code, rfl, rfl, HP5, HF4⟩
        · skip
          have hc := bytes_any kd at_ ln mk (.slice fa FN fc) Z (by have := HSZ.out.2.1; omega) wb ⟨_, _, _, rfl⟩
          have y0 := cell_of_row wb _ 0 _ _ _ (HB.out.2.1)
          have y1 := cell_of_row wb _ 1 _ _ _ (HB.out.2.1)
          have y2 := cell_of_row wb _ 2 _ _ _ (HB.out.2.1)
          have y3 := cell_of_row wb _ 3 _ _ _ (HB.out.2.1)
          have y4 := cell_of_row wb _ 4 _ _ _ (HB.out.2.1)
          simp at y0 y1 y2 y3 y4
          go_wp2_with fail
          refine hc.mono ?_
          clear hc y0 y1 y2 y3 y4
          rintro e w3b ⟨vb, bl, rfl, hob, hbl, hkb⟩
          obtain ⟨m4, code, hm4⟩ : ∃ m4 code, m.put at_ bl = (m4, code) := ⟨_, _, rfl⟩
          have hpb := HB.out.1.on hkb
          have hbb := hob.bytes (by omega)
          have hbD : ∀ b, vb.ownBlock = some b → b ∉ D' := fun b hb hm => by
            have h1 := HB.out.1.dev.lt b hm
            have h2 := ownB_floor hob hb
            omega
          have hc := write_any w3b D' g m hpb.dev hacts at_ vb bl hbb
          rw [hm4] at hc
          have HF4 : Hid (Fp S Z (j + 1) m4) := Lib.hid (by have h := HF.out.put at_ bl; rw [hm4] at h; exact h)
          have y1 := cell_of_row w3b _ 1 _ _ _ (hkb.blk (by simp) HB.out.2.1)
          simp at y1
          go_wp2_with fail
          refine hc.mono ?_
          clear hc y1
          rintro e w4 ⟨rfl, D4, hD4, hG4, hK4⟩
          have hp4 := hpb.dev1 hD4 hG4 hK4
          have hrow := hp4.row
          simp only [d4cells] at hrow
          have c0 := cell_of_row w4 _ 0 _ _ _ hrow
          have c1 := cell_of_row w4 _ 1 _ _ _ hrow
          have c2 := cell_of_row w4 _ 2 _ _ _ hrow
          have c3 := cell_of_row w4 _ 3 _ _ _ hrow
          have c4 := cell_of_row w4 _ 4 _ _ _ hrow
          have c5 := cell_of_row w4 _ 5 _ _ _ hrow
          have c6 := cell_of_row w4 _ 6 _ _ _ hrow
          simp at c0 c1 c2 c3 c4 c5 c6
          clear hrow
          have y1 := cell_of_row w4 _ 1 _ _ _ (hK4.blk HB.out.2.2.1 (hkb.blk (by simp) HB.out.2.1))
          simp at y1
          have q4 := run_str (P := Try.prog) 42 9 5 Try.underlying42 Try.underlying5 Try.underlying9 (hbb.keep hK4 hbD)
          have hs := refPut4_any m hwf hacts5 _ _ _ w4 _ (Lib.hid hp4.room) hp4.rdv at_ bl (by omega)
          rw [hm4] at hs
          simp only [d4cells] at hs
          clear hm4 hD4 hG4 hK4 hpb hob hbb hbD hkb
          obtain ⟨SL, hSL⟩ : ∃ SL : ByteArray, ⟨bl.toArray⟩ = SL := ⟨_, rfl⟩
          rw [hSL] at q4 hs
          clear hSL
          go_wp2_with fail
          refine hs.mono ?_
          clear hs y1 q4
          rintro e w5 ⟨fv', lv', pv', rfl, hr5, hk5⟩
          clear c0 c1 c2 c3 c4 c5 c6
          obtain ⟨ga2, gn2, gc2, la2, ln2, lc2, pa2, pn2, pc2, rfl, rfl, rfl⟩ := hr5.forms
          have hp5 := hp4.put1 hk5 hr5
          have HROW := Lib.hid ((hp4.on hk5).row)
          have HP5 := Lib.hid hp5
          clear hp5 hr5 hk5 hp4
          go_wp2_with (refine wpList_store_row rfl 33 (.tmp 8) (.tmp 89) rfl R #[.int .i64 (m4.sz : Int), .slice ga2 gn2 gc2, .slice la2 ln2 lc2, .slice pa2 pn2 pc2, .int .i64 (m4.armed : Int), .int .i64 (m4.acts : Int), .bool m4.down] rfl rfl 33 _ HROW.out (by kernel_rfl) (by rfl) (by kernel_rfl) ?_)
          go_meet
          case rel => exact ⟨m4, _, _, _, _, code, rfl, rfl, HP5, HF4⟩
      case rest =>
        obtain ⟨m4, D4, fv', lv', pv', code, rfl, rfl, HP4, HF4⟩ := hcut
        obtain ⟨ga, gn, gc, rfl⟩ : ∃ a n c, fv' = .slice a n c := by
          obtain ⟨a, c, e⟩ := HP4.out.rdv.fast.form
          exact ⟨a, _, c, e⟩
        obtain ⟨la, lc, rfl⟩ := HP4.out.rdv.loose.form
        go_upto_region 33 with fail
        refine wp_region_his [] [] (fun _ => 0) (by kernel_rfl) (by kernel_rfl) ?_
        intro w8 hk8 hh
        clear hh
        have hrow := fun w' (h' : Keep [] w8 w') => (HP4.out.on (hk8.trans h')).row
        simp only [d4cells] at hrow
        have u2 := fun w' h' => cell_of_row w' _ 2 _ _ _ (hrow w' h')
        have u5 := fun w' h' => cell_of_row w' _ 5 _ _ _ (hrow w' h')
        have u6 := fun w' h' => cell_of_row w' _ 6 _ _ _ (hrow w' h')
        simp at u2 u5 u6
        clear hrow
        have hdv := fun w' (h' : Keep [] w8 w') => (HP4.out.on (hk8.trans h')).dev
        have s1 := fun w' h' => down_any w' D4 g m4 (hdv w' h')
        have s2 := fun w' h' => loose_any w' D4 g m4 (hdv w' h')
        have s3 := fun w' h' => acts_any w' D4 g m4 (hdv w' h')
        have s4 := fun w' h' => sectors_any w' D4 g m4 (hdv w' h')
        have s5 := fun w' h' => size_dev_any w' D4 g m4 (hdv w' h')
        rw [HF4.out.n] at s4
        rw [HF4.out.sz] at s5
        obtain ⟨L5, hL5⟩ : ∃ x, m4.loose.length = x := ⟨_, rfl⟩
        obtain ⟨A5, hA5⟩ : ∃ x, m4.acts = x := ⟨_, rfl⟩
        obtain ⟨d5, hd5⟩ : ∃ x, m4.down = x := ⟨_, rfl⟩
        rw [hd5] at s1 u6
        rw [hL5] at s2 u2
        rw [hA5] at s3 u5
        have HS5 := Lib.hid (And.intro s1 (And.intro s2 (And.intro s3 (And.intro s4 s5))))
        clear s1 s2 s3 s4 s5 hL5 hA5 hd5 hdv
        (repeat (first | (refine his_q rfl rfl (fun K hK => ?_); apply Exists.intro; refine ⟨fun w' hC => ?_, ?_⟩; ((try simp [Sg.upd] at hC); go_simp <;> rfl); go_simp; refine hK _ _ ?_; clear hK K) | (refine his_s rfl (fun K hK => ?_); go_simp; refine hK _ _ ?_; clear hK K)))
        refine his_c rfl rfl (.bool d5) (fun K hK => ?_)
        refine ⟨fun w' hC => Yields.call 31 #[.pointer (some ⟨g, 0, none⟩)] ?_ (by kernel_rfl) ?_, ?_⟩
        · go_simp
        · exact HS5.out.1 w' hC
        go_simp
        refine hK _ _ ?_
        clear hK K
        (repeat (first | (refine his_q rfl rfl (fun K hK => ?_); apply Exists.intro; refine ⟨fun w' hC => ?_, ?_⟩; ((try simp [Sg.upd] at hC); go_simp <;> rfl); go_simp; refine hK _ _ ?_; clear hK K) | (refine his_s rfl (fun K hK => ?_); go_simp; refine hK _ _ ?_; clear hK K)))
        refine his_c rfl rfl (.int .i64 (L5 : Int)) (fun K hK => ?_)
        refine ⟨fun w' hC => Yields.call 32 #[.pointer (some ⟨g, 0, none⟩)] ?_ (by kernel_rfl) ?_, ?_⟩
        · go_simp
        · exact HS5.out.2.1 w' hC
        go_simp
        refine hK _ _ ?_
        clear hK K
        (repeat (first | (refine his_q rfl rfl (fun K hK => ?_); apply Exists.intro; refine ⟨fun w' hC => ?_, ?_⟩; ((try simp [Sg.upd] at hC); go_simp <;> rfl); go_simp; refine hK _ _ ?_; clear hK K) | (refine his_s rfl (fun K hK => ?_); go_simp; refine hK _ _ ?_; clear hK K)))
        refine his_c rfl rfl (.int .i64 (A5 : Int)) (fun K hK => ?_)
        refine ⟨fun w' hC => Yields.call 33 #[.pointer (some ⟨g, 0, none⟩)] ?_ (by kernel_rfl) ?_, ?_⟩
        · go_simp
        · exact HS5.out.2.2.1 w' hC
        go_simp
        refine hK _ _ ?_
        clear hK K
        (repeat (first | (refine his_q rfl rfl (fun K hK => ?_); apply Exists.intro; refine ⟨fun w' hC => ?_, ?_⟩; ((try simp [Sg.upd] at hC); go_simp <;> rfl); go_simp; refine hK _ _ ?_; clear hK K) | (refine his_s rfl (fun K hK => ?_); go_simp; refine hK _ _ ?_; clear hK K)))
        refine his_c rfl rfl (.int .i64 (S : Int)) (fun K hK => ?_)
        refine ⟨fun w' hC => Yields.call 15 #[.pointer (some ⟨g, 0, none⟩)] ?_ (by kernel_rfl) ?_, ?_⟩
        · go_simp
        · exact HS5.out.2.2.2.1 w' hC
        go_simp
        refine hK _ _ ?_
        clear hK K
        (repeat (first | (refine his_q rfl rfl (fun K hK => ?_); apply Exists.intro; refine ⟨fun w' hC => ?_, ?_⟩; ((try simp [Sg.upd] at hC); go_simp <;> rfl); go_simp; refine hK _ _ ?_; clear hK K) | (refine his_s rfl (fun K hK => ?_); go_simp; refine hK _ _ ?_; clear hK K)))
        refine his_c rfl rfl (.int .i64 (Z : Int)) (fun K hK => ?_)
        refine ⟨fun w' hC => Yields.call 16 #[.pointer (some ⟨g, 0, none⟩)] ?_ (by kernel_rfl) ?_, ?_⟩
        · go_simp
        · exact HS5.out.2.2.2.2 w' hC
        go_simp
        refine hK _ _ ?_
        clear hK K
        (repeat (first | (refine his_q rfl rfl (fun K hK => ?_); apply Exists.intro; refine ⟨fun w' hC => ?_, ?_⟩; ((try simp [Sg.upd] at hC); go_simp <;> rfl); go_simp; refine hK _ _ ?_; clear hK K) | (refine his_s rfl (fun K hK => ?_); go_simp; refine hK _ _ ?_; clear hK K)))
        refine his_nil ?_
        have HP8 := Lib.hid (HP4.out.on hk8)
        clear u2 u5 u6 hk8 HP4 HS5
        go_wp2
        go_roundw
        case rel => exact ⟨j + 1, m4, D4, _, _, _, by omega, by go_num, HP8, HF4⟩
        case measure => simp [intOf]; omega
    · have hji : ¬ (j : Int) < (n : Int) := by omega
      have hZr : ∀ x ∈ [(1 : Int), (Z : Int), 7], -9223372036854775808 ≤ x ∧ x ≤ 9223372036854775807 := by
        have := HSZ.out.2.1
        intro x hx
        simp at hx
        omega
      have hi5 := ints_lit3 wr 1 (Z : Int) 7 hZr
      have k5 := (Keep.refl [] wr).alloc (.cells #[.int .i64 1, .int .i64 (Z : Int), .int .i64 7] 3)
      have hpa := HP.out.on k5
      have hacts : m.acts ≤ 40 := by have := HF.out.acts; omega
      have hc := crash_any _ D' g m hpa.dev (by omega) _ _ hi5 (fun _ b hb hm => by have h1 := HP.out.dev.lt b hm; simp [Value.ownBlock] at hb; omega)
      have HPA := Lib.hid (And.intro hpa hZr)
      clear hi5 k5 hpa hZr
      go_wp2_with fail
      refine hc.mono ?_
      clear hc
      rintro e w6 ⟨rfl, D6, hD6, hG6, hK6⟩
      have hp4 := HPA.out.1.dev1 hD6 hG6 hK6
      clear hD6 hG6 hK6
      obtain ⟨la, lc, rfl⟩ : ∃ a c, lv = .slice a m.loose.length c := HP.out.rdv.loose.form
      have kA := (Keep.refl [] w6).alloc (.cells #[.int .i64 1, .int .i64 (Z : Int), .int .i64 7] 3)
      have hpb := hp4.on kA
      have hi6 := ints_lit3 w6 1 (Z : Int) 7 HPA.out.2
      have hs := refCrash4_any m HP.out.dev.1 (by omega) _ _ _ _ _ (Lib.hid hpb.room) hpb.rdv _ _ hi6
      have hlive : (m.crash [1, (Z : Int), 7]).down = false := rfl
      have HF5 : Hid (Fp S Z 41 (m.crash [1, (Z : Int), 7])) := Lib.hid ((HF.out.crash _).more (by omega))
      have hwf5 : (m.crash [1, (Z : Int), 7]).Wf := hp4.dev.1
      have hrow := hp4.row
      simp only [d4cells] at hrow
      have c0 := cell_of_row w6 _ 0 _ _ _ hrow
      have c1 := cell_of_row w6 _ 1 _ _ _ hrow
      have c2 := cell_of_row w6 _ 2 _ _ _ hrow
      have c3 := cell_of_row w6 _ 3 _ _ _ hrow
      have c4 := cell_of_row w6 _ 4 _ _ _ hrow
      have c5 := cell_of_row w6 _ 5 _ _ _ hrow
      have c6 := cell_of_row w6 _ 6 _ _ _ hrow
      simp at c0 c1 c2 c3 c4 c5 c6
      clear hrow
      generalize m.crash [1, (Z : Int), 7] = m5 at *
      have HP4 := Lib.hid hpb
      have HM5 := Lib.hid (And.intro hlive hwf5)
      simp only [d4cells] at hs
      clear hi6 hpb hp4 kA hlive hwf5 HP HPA HF
      go_wp2_with fail
      refine hs.mono ?_
      clear hs
      rintro e w7 ⟨fv', lv', pv', rfl, hr5, hk5⟩
      clear c0 c1 c2 c3 c4 c5 c6
      obtain ⟨ga2, gn2, gc2, la2, ln2, lc2, pa2, pn2, pc2, rfl, rfl, rfl⟩ := hr5.forms
      have hp5 := HP4.out.put1 hk5 hr5
      have HROW := Lib.hid ((HP4.out.on hk5).row)
      have HP5 := Lib.hid hp5
      clear hp5 hr5 hk5 HP4
      go_upto_region 37 with (refine wpList_store_row rfl 33 (.tmp 8) (.tmp 212) rfl R #[.int .i64 (m5.sz : Int), .slice ga2 gn2 gc2, .slice la2 ln2 lc2, .slice pa2 pn2 pc2, .int .i64 (m5.armed : Int), .int .i64 (m5.acts : Int), .bool m5.down] rfl rfl 33 _ HROW.out (by kernel_rfl) (by rfl) (by kernel_rfl) ?_)
      simp only [d4cells] at HP5
      generalize w7.setRow R #[.int .i64 (m5.sz : Int), .slice ga2 gn2 gc2, .slice la2 ln2 lc2, .slice pa2 pn2 pc2, .int .i64 (m5.armed : Int), .int .i64 (m5.acts : Int), .bool m5.down] = w8 at *
      clear HROW
      have hno : ∀ w', Keep [] w8 w' → PlS W g R w' D6 m5 m5 (.slice ga2 gn2 gc2) (.slice la2 ln2 lc2) (.slice pa2 pn2 pc2) := fun w' h' => HP5.out.on h'
      have HNO := Lib.hid hno
      clear hno
      go_wp2
      go_loopw [18] (fun i wx => ∃ k : Nat, k ≤ S ∧ i = .int .i64 (k : Int) ∧ Hid (Keep [] w8 wx)) (fun i _ => S - (intOf i).toNat)
      case atStart => exact ⟨0, by omega, rfl, Lib.hid (Keep.refl _ _)⟩
      case round =>
        obtain ⟨k, hk, rfl, HK⟩ := hrel
        rename World => wx
        have HPX := Lib.hid (HNO.out wx HK.out)
        have hm5n := HF5.out.n
        have hac5 : m5.acts ≤ 1000000000 := by have := HF5.out.acts; omega
        by_cases hkS : k < S
        · have hki : (k : Int) < (S : Int) := by omega
          have hkn : k < m5.n := by omega
          obtain ⟨L4, hm4⟩ : ∃ L4, m5.read (k : Int) = (L4, 0) := ⟨_, read_up HM5.out.1 hkn⟩
          have hL4 : L4.length ≤ 512 := by
            have h := read_short HM5.out.2 (k : Int)
            rw [hm4] at h
            exact h
          have HKN := Lib.hid (And.intro hkn hm5n)
          clear hkn hm5n
          have hc := read_any wx D6 g m5 HPX.out.dev hac5 (k : Int)
          rw [hm4] at hc
          go_wp2_with fail
          refine hc.mono ?_
          clear hc
          rintro e w4 ⟨v4, rfl, ho4, hk4⟩
          have hp4 := HPX.out.on hk4
          have hrow := hp4.row
          simp only [d4cells] at hrow
          have c0 := cell_of_row w4 _ 0 _ _ _ hrow
          have c1 := cell_of_row w4 _ 1 _ _ _ hrow
          have c2 := cell_of_row w4 _ 2 _ _ _ hrow
          have c3 := cell_of_row w4 _ 3 _ _ _ hrow
          have c4 := cell_of_row w4 _ 4 _ _ _ hrow
          have c5 := cell_of_row w4 _ 5 _ _ _ hrow
          have c6 := cell_of_row w4 _ 6 _ _ _ hrow
          simp at c0 c1 c2 c3 c4 c5 c6
          clear hrow
          have hs := refRead4_any m5 HM5.out.2 hac5 _ _ _ w4 hp4.rdv (k : Int)
          rw [hm4] at hs
          simp only [d4cells] at hs
          clear hm4
          go_wp2_with fail
          refine hs.mono ?_
          clear hs
          rintro e w5 ⟨rfl, hk5⟩
          clear c0 c1 c2 c3 c4 c5 c6
          have HB5 := Lib.hid (And.intro ((ho4.bytes (by omega)).keep hk5 (by simp)) (And.intro (HK.out.trans (hk4.trans hk5)) (hp4.on hk5)))
          clear hp4 hk4 hk5 ho4
          go_upto_region 42 with fail
          refine wp_region_his [] [11, 17] (fun _ => 0) (by kernel_rfl) (by kernel_rfl) ?_
          intro w6 hk6 hh
          clear hh
          have q6 := fun w' (h' : Keep [] w6 w') => run_str (P := Try.prog) 42 9 5 Try.underlying42 Try.underlying5 Try.underlying9 (HB5.out.1.keep (hk6.trans h') (by simp))
          obtain ⟨SL, hSL⟩ : ∃ SL : ByteArray, ⟨L4.toArray⟩ = SL := ⟨_, rfl⟩
          rw [hSL] at q6 ⊢
          have hrow := fun w' (h' : Keep [] w6 w') => (HB5.out.2.2.on (hk6.trans h')).row
          simp only [d4cells] at hrow
          have u3 := fun w' h' => cell_of_row w' _ 3 _ _ _ (hrow w' h')
          simp at u3
          clear hrow hSL
          obtain ⟨vs, hp, hvl, hvp⟩ := HB5.out.2.2.rdv.past
          have hkv : k < vs.length := by rw [hvl, HM5.out.2.pl]; exact HKN.out.1
          have hpn : pn2 = vs.length := by
            obtain ⟨a', c', e'⟩ := hp.form
            injection e'
          obtain ⟨gp, rfl, -, -⟩ := RowE.cells p4lies hp hkv
          have y0 : ∀ w', Keep [] w6 w' → w'.cell? ⟨gp, k * 1 + 0, none⟩ = some vs[k].v := fun w' h' => by
            obtain ⟨g', e', -, hc⟩ := RowE.cells p4lies (hp.keep (hk6.trans h') (by simp)) hkv
            cases e'
            exact hc 0 _ rfl
          simp only [Nat.mul_one, Nat.add_zero] at y0
          have hvk := (hvp k hkv).1
          obtain ⟨u, hu⟩ : ∃ u : Value, vs[k].v = u := ⟨_, rfl⟩
          rw [hu] at y0 hvk
          have hkp : (k : Int) < (pn2 : Int) := by omega
          have hbd := pastAt_bounds HM5.out.2 HKN.out.1 HF5.out.acts
          have HV := Lib.hid (And.intro hvk hbd)
          clear hu hp hvl hvp hkv hpn hvk hbd
          (repeat (first | (refine his_q rfl rfl (fun K hK => ?_); apply Exists.intro; refine ⟨fun w' hC => ?_, ?_⟩; ((try simp [Sg.upd] at hC); go_simp <;> rfl); go_simp; refine hK _ _ ?_; clear hK K) | (refine his_s rfl (fun K hK => ?_); go_simp; refine hK _ _ ?_; clear hK K)))
          (refine his_l rfl rfl (fun K hK => ?_); go_simp)
          refine (past_any w6 D6 g m5 (HB5.out.2.2.on hk6).dev hac5 (k : Int)).mono ?_
          rw [pastAt_pasts HKN.out.1]
          rintro x w7 ⟨v7, rfl, ho7, hk7⟩
          refine hK _ _ hk7 ?_
          clear hK K
          (repeat (first | (refine his_q rfl rfl (fun K hK => ?_); apply Exists.intro; refine ⟨fun w' hC => ?_, ?_⟩; ((try simp [Sg.upd] at hC); go_simp <;> rfl); go_simp; refine hK _ _ ?_; clear hK K) | (refine his_s rfl (fun K hK => ?_); go_simp; refine hK _ _ ?_; clear hK K)))
          (refine his_l rfl rfl (fun K hK => ?_); go_simp)
          refine (pastLaw_any w7 w6.heap.size v7 u (pastAt m5 k) ho7 (HV.out.1.keep (hk6.trans hk7) (by simp)) (by have := HV.out.2.1; omega) (fun l hl => by have := HV.out.2.2 l hl; omega)).mono ?_
          rintro x w9 ⟨rfl, hk9⟩
          refine hK _ _ hk9 ?_
          clear hK K
          (repeat (first | (refine his_q rfl rfl (fun K hK => ?_); apply Exists.intro; refine ⟨fun w' hC => ?_, ?_⟩; ((try simp [Sg.upd] at hC); go_simp <;> rfl); go_simp; refine hK _ _ ?_; clear hK K) | (refine his_s rfl (fun K hK => ?_); go_simp; refine hK _ _ ?_; clear hK K)))
          refine his_nil ?_
          have HK9 := Lib.hid ((HB5.out.2.1.trans hk6).trans (hk7.trans hk9))
          clear u3 y0 q6 hk6 hk7 hk9 ho7 HV HB5
          go_wp2
          go_roundw
          case rel => exact ⟨k + 1, by omega, by go_num, HK9⟩
          case measure => simp [intOf]; omega
        · have hki : ¬ (k : Int) < (S : Int) := by omega
          have e1 : m5.pasts (-1) = [] := by unfold Dev.pasts; rw [if_neg (by omega)]
          have e2 : m5.pasts (S : Int) = [] := by unfold Dev.pasts; rw [if_neg (by omega)]
          have hc := past_any wx D6 g m5 HPX.out.dev hac5 (-1)
          rw [e1] at hc
          go_wp2_with fail
          refine hc.mono ?_
          clear hc
          rintro e w4 ⟨v4, rfl, ho4, hk4⟩
          obtain ⟨a4, c4, rfl⟩ := ho4.form
          have hc := past_any w4 D6 g m5 (HPX.out.on hk4).dev hac5 (S : Int)
          rw [e2] at hc
          go_wp2_with fail
          refine hc.mono ?_
          clear hc
          rintro e w5 ⟨v5, rfl, ho5, hk5⟩
          obtain ⟨a5, c5, rfl⟩ := ho5.form
          go_wp2_with fail
          refine (awake04_any _).mono ?_
          rintro e w6 ⟨rfl, hk6⟩
          go_wp2
          go_ret
          exact ⟨rfl, FIN.out _ (HPX.out.keep.trans (hk4.trans (hk5.trans hk6)))⟩
end Go.Proofs.Ytjkjiabfhhnngaa
