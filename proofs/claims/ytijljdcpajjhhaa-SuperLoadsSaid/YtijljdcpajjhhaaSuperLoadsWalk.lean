import Derived.Test.YtijljdcpajjhhaaSuperRef
import Derived.Test.YtijljdcpajjhhaaSavesOpen
import Derived.Deep.CutRange
/-! The walk of the law SuperLoads. -/
namespace Go.Proofs.Ytijljdcpajjhhaa
open Go.RowKit Go.Shelf Sg Go.Sort Go.Proofs
attribute [local go_sem] Oper.semAt_some
set_option linter.unusedSimpArgs false
set_option linter.unusedVariables false

def wantF (h : Hd) : Int := if h.code ≠ 0 then h.code else if h.p.sec = 60 ∧ h.p.size = 96 then 0 else 12
theorem save_gen {m : Dev} (hu : Up m) (h : Hd) (hI : h.In) : ∃ m', hsave m h = (m', wantF h) ∧ Up m' ∧ m'.acts ≤ m.acts + 1 := by
  have hs : h.p.seed < 18446744073709551616 := hI.1.2.2.2.2.2.2.2
  by_cases hc : h.code = 0
  · by_cases hp : h.p.sec = 60 ∧ h.p.size = 96
    · obtain ⟨t, m', -, -, h3, h4, h5, -⟩ := save_up hu (h := h) ⟨hc, hs, hI, hp.1, hp.2⟩
      refine ⟨m', ?_, h4, by omega⟩
      rw [h3]
      unfold wantF
      rw [if_neg (by simpa using hc), if_pos hp]
    · refine ⟨m, ?_, hu, by omega⟩
      unfold hsave wantF
      rw [if_neg (by simpa using hc), if_neg (by rw [hu.n, hu.sz]; exact hp), if_neg (by simpa using hc), if_neg hp]
  · refine ⟨m, ?_, hu, by omega⟩
    unfold hsave wantF
    rw [if_pos hc, if_pos hc]
theorem crash_up {m : Dev} (hu : Up m) (fates : List Int) : Up (m.crash fates) ∧ (m.crash fates).acts = m.acts :=
  ⟨⟨hu.wf.crash fates, rfl, rfl, hu.n, hu.sz⟩, rfl⟩
theorem hload_pick {m : Dev} (hu : Up m) {H : Hd} {fd : Bool} (h : hpick (hdIn 60 96 0 (m.get 0)) (hdIn 60 96 1 (m.get 1)) 2 = (H, fd)) : hload m = (H, if fd = true then 0 else 15) ∧ (fd = false → H = hd0) := by
  have r0 := read_up hu.dn (n := 0) (by rw [hu.n]; decide)
  have r1 := read_up hu.dn (n := 1) (by rw [hu.n]; decide)
  have e0 : hdAt m 0 = hdIn 60 96 0 (m.get 0) := by
    rw [hdIn_read (by rw [r0])]
    rw [r0, hu.n, hu.sz]
    rfl
  have e1 : hdAt m 1 = hdIn 60 96 1 (m.get 1) := by
    rw [hdIn_read (by rw [r1])]
    rw [r1, hu.n, hu.sz]
    rfl
  rw [hpick_two, ← e0, ← e1] at h
  unfold hload
  rw [if_neg (by rw [hu.dn]; simp)]
  unfold hdRow
  cases hl : insSorted ((hdAt m 0).toList ++ (hdAt m 1).toList) with
  | nil =>
    rw [hl] at h
    cases h
    exact ⟨rfl, fun _ => rfl⟩
  | cons x r =>
    rw [hl] at h
    cases h
    exact ⟨rfl, fun e => by cases e⟩

def LdAt (W wr : World) (D : List Nat) (g : Nat) (m : Dev) (k : Nat) : Prop := DV wr D g m ∧ Up m ∧ (∀ b ∈ D, W.heap.size ≤ b) ∧ m.acts ≤ k ∧ Keep [] W wr
theorem LdAt.keep {W wr w' : World} {D : List Nat} {g : Nat} {m : Dev} {k : Nat} (h : LdAt W wr D g m k) (hk : Keep [] wr w') : LdAt W w' D g m k :=
  ⟨h.1.keep hk (by simp), h.2.1, h.2.2.1, h.2.2.2.1, h.2.2.2.2.trans hk⟩

set_option maxRecDepth 100000 in
set_option maxHeartbeats 1000000 in
set_option maxHeartbeats 16000000 in
theorem superLoadsWalk (W : World) (v : Value) (l : List Sv) (hv : Svs W v l) : Calls Try.prog 12 #[v] W fun e W' => e = .returned (.bool true) ∧ Below W.heap.size W W' := by
  obtain ⟨va, vc, rfl, hlc, hlm, hcm⟩ := hv.form
  by_cases h20 : 20 < l.length
  · have h20' : (20 : Int) < (l.length : Int) := by omega
    go_enter Try.func12, Try.ntmps12
    go_wp2
    go_ret
    exact ⟨rfl, (Keep.refl [] W).below (Nat.le_refl _) (by simp)⟩
  have h20' : ¬ (20 : Int) < (l.length : Int) := by omega
  have HV := Lib.hid hv
  clear hv
  go_enter Try.func12, Try.ntmps12
  go_wp2_with fail
  refine (show Calls Try.prog 15 #[.int .i64 60, .int .i64 96] W _ from newDev_any 60 96 (by decide) W).mono ?_
  rintro e w1 ⟨g, D, rfl, hD, k1, hf⟩
  have h1 : LdAt W w1 D g (Dev.new 60 96) 0 := ⟨hD, up_new, hf, Nat.le_refl _, k1⟩
  have H1 := Lib.hid h1
  clear hD k1 hf h1
  go_wp2
  go_loopw [4] (fun i wr => ∃ (k : Nat) (D : List Nat) (m : Dev), k ≤ l.length ∧ i = .int .i64 (k : Int) ∧ Hid (LdAt W wr D g m k)) (fun i _ => l.length - (intOf i).toNat)
  case atStart => exact ⟨0, D, _, by omega, rfl, H1⟩
  case round =>
    clear H1
    obtain ⟨k, D, m, hk, rfl, hA⟩ := hrel
    by_cases hlt : k < l.length
    case neg =>
      obtain rfl : k = l.length := by omega
      go_wp2_with fail
      refine (awake10_any _).mono ?_
      rintro e w2 ⟨rfl, k2⟩
      have HK := Lib.hid (hA.out.2.2.2.2.trans k2)
      clear k2
      go_wp2
      go_ret
      exact ⟨rfl, HK.out.below (Nat.le_refl _) (by simp)⟩
    have hlt' : (k : Int) < (l.length : Int) := by omega
    obtain ⟨b0, o, rfl, hc⟩ := HV.out.spot hlt
    have hok := HV.out.each hlt
    obtain ⟨x, hx⟩ : ∃ x, l[k] = x := ⟨_, rfl⟩
    rw [hx] at hc hok
    clear hx
    obtain ⟨h, fate⟩ := x
    have hI : h.In := hok.h
    have hs : h.p.seed < 18446744073709551616 := hI.1.2.2.2.2.2.2.2
    obtain ⟨m1, hsv, hu1, ha1⟩ := save_gen hA.out.2.1 h hI
    have hacts : m.acts ≤ 1000000000 := by have := hA.out.2.2.2.1; omega
    have cS := fun w D hd => hsave_any w D g m hd hacts h hs hI.2.1.2
    have HFT := Lib.hid (And.intro hok.f1 hok.f2)
    have cO := fun w => of10_any h w
    have cP := fun w => refhPack_any h hs w
    have hwf : wantF h = if h.code ≠ 0 then h.code else if h.p.sec = 60 ∧ h.p.size = 96 then 0 else 12 := rfl
    obtain ⟨cd, hcd⟩ : ∃ cd, h.code = cd := ⟨_, rfl⟩
    obtain ⟨wf, hw⟩ : ∃ wf, wantF h = wf := ⟨_, rfl⟩
    rw [hsv, hw] at cS
    rw [hcd] at cP
    rw [hcd, hw] at hwf
    have hcl : (if cd = 0 then h.pack else []).length ≤ 63 := by
      split
      · rw [h.pack_len]; omega
      · simp
    generalize (if cd = 0 then h.pack else []) = PK at cP hcl
    clear hcd hw hsv hok hI hs
    obtain ⟨⟨sec, size, reg, rs, lg, dep, mem, seed⟩, gen, page, stamp, hdep, log, hreg, time⟩ := h
    simp only [Hd.v, Hd.cells] at *
    have hc' : ∀ w', Keep [] W w' → ∀ j u, (Sv.cells ⟨⟨⟨sec, size, reg, rs, lg, dep, mem, seed⟩, gen, page, stamp, hdep, log, hreg, time⟩, fate⟩)[j]? = some u → w'.cell? ⟨b0, o + k * 16 + j, none⟩ = some u := hc
    clear hc
    have HC := Lib.hid hc'
    have HWF := Lib.hid hwf
    have CS := Lib.hid cS
    have CO := Lib.hid cO
    have CP := Lib.hid cP
    have HU1 := Lib.hid (And.intro hu1 ha1)
    clear hc' hwf cS cO cP hu1 ha1
    have kW := hA.out.2.2.2.2
    have c0 := HC.out _ kW 0 _ rfl
    have c1 := HC.out _ kW 1 _ rfl
    have c2 := HC.out _ kW 2 _ rfl
    have c3 := HC.out _ kW 3 _ rfl
    have c4 := HC.out _ kW 4 _ rfl
    have c5 := HC.out _ kW 5 _ rfl
    have c6 := HC.out _ kW 6 _ rfl
    have c7 := HC.out _ kW 7 _ rfl
    have c8 := HC.out _ kW 8 _ rfl
    have c9 := HC.out _ kW 9 _ rfl
    have c10 := HC.out _ kW 10 _ rfl
    have c11 := HC.out _ kW 11 _ rfl
    have c12 := HC.out _ kW 12 _ rfl
    have c13 := HC.out _ kW 13 _ rfl
    have c14 := HC.out _ kW 14 _ rfl
    simp only [Nat.add_zero] at c0
    clear kW
    go_wp2_with fail
    refine (CO.out _).mono ?_
    rintro e w2 ⟨rfl, k2⟩
    go_wp2_with fail
    refine (CS.out _ D (hA.out.keep k2).1).mono ?_
    rintro e w3 ⟨rfl, D3, hD3, hG3, k3⟩
    obtain ⟨hk3, hf3⟩ := dev_step (hA.out.keep k2).2.2.2.2 hA.out.2.2.1 hG3 k3
    have hA3 : LdAt W w3 D3 g m1 (k + 1) := ⟨hD3, HU1.out.1, hf3, by have := HU1.out.2; have := hA.out.2.2.2.1; omega, hk3⟩
    have HA3 := Lib.hid hA3
    clear k2 hD3 hG3 k3 hk3 hf3 hA3 c0 c1 c2 c3 c4 c5 c6 c7 c8 c9 c10 c11 c12 c13 c14 hA CS
    have kW := HA3.out.2.2.2.2
    have c0 := HC.out _ kW 0 _ rfl
    have c1 := HC.out _ kW 1 _ rfl
    have c2 := HC.out _ kW 2 _ rfl
    have c3 := HC.out _ kW 3 _ rfl
    have c4 := HC.out _ kW 4 _ rfl
    have c5 := HC.out _ kW 5 _ rfl
    have c6 := HC.out _ kW 6 _ rfl
    have c7 := HC.out _ kW 7 _ rfl
    have c8 := HC.out _ kW 8 _ rfl
    have c9 := HC.out _ kW 9 _ rfl
    have c10 := HC.out _ kW 10 _ rfl
    have c11 := HC.out _ kW 11 _ rfl
    have c12 := HC.out _ kW 12 _ rfl
    have c13 := HC.out _ kW 13 _ rfl
    have c14 := HC.out _ kW 14 _ rfl
    simp only [Nat.add_zero] at c0
    clear kW
    go_wp2_with fail
    refine (CP.out _).mono ?_
    rintro e w4 ⟨v4, rfl, o4, k4⟩
    have HA4 := Lib.hid (HA3.out.keep k4)
    clear HA3 k4 c0 c1 c2 c3 c4 c5 c6 c7 c8 c9 c10 c11 c12 c13 c14 o4
    obtain ⟨BB, hBB⟩ : ∃ BB : Bool, decide (cd = 0 ∧ ¬ (sec = 60 ∧ size = 96)) = BB := ⟨_, rfl⟩
    have hw1 : BB = true → wf = 12 := fun e => by
      rw [e, decide_eq_true_eq] at hBB
      have := HWF.out
      rw [if_neg (by simpa using hBB.1), if_neg hBB.2] at this
      exact this
    have hw2 : BB = false → wf = cd := fun e => by
      rw [e, decide_eq_false_iff_not] at hBB
      have h1 := HWF.out
      by_cases hz : cd = 0
      · rw [if_neg (by simpa using hz), if_pos (by by_cases hp : sec = 60 ∧ size = 96; exact hp; exact absurd ⟨hz, hp⟩ hBB)] at h1
        rw [h1, hz]
      · rw [if_pos hz] at h1
        exact h1
    have HW1 := Lib.hid hw1
    have HW2 := Lib.hid hw2
    have HBB := Lib.hid hBB
    clear hw1 hw2 hBB HWF
    go_upto_region 9 with fail
    go_cut [64] from 43 to 64 (fun s64 wx => s64 = .bool BB ∧ Hid (LdAt W wx D3 g m1 (k + 1)))
    case first =>
      by_cases hz : cd = 0
      case neg =>
        have z1 : (cd == 0) = false := by simpa using hz
        obtain rfl : BB = false := by have := HBB.out; rw [decide_eq_false (fun u => hz u.1)] at this; exact this.symm
        clear hz
        go_wp2_with fail
        go_meet
        case rel => exact ⟨rfl, HA4⟩
      have kW := HA4.out.2.2.2.2
      have c0 := HC.out _ kW 0 _ rfl
      have c1 := HC.out _ kW 1 _ rfl
      simp only [Nat.add_zero] at c0
      have z0 : (cd == 0) = true := by simpa using hz
      clear kW
      by_cases h1 : sec = 60
      case neg =>
        have z1 : (sec != 60) = true := by simpa using h1
        obtain rfl : BB = true := by have := HBB.out; rw [decide_eq_true ⟨hz, fun u => h1 u.1⟩] at this; exact this.symm
        clear h1 hz
        go_wp2_with fail
        go_meet
        case rel => exact ⟨rfl, HA4⟩
      have z1 : (sec != 60) = false := by simpa using h1
      by_cases h2 : size = 96
      case neg =>
        have z2 : (size != 96) = true := by simpa using h2
        obtain rfl : BB = true := by have := HBB.out; rw [decide_eq_true ⟨hz, fun u => h2 u.2⟩] at this; exact this.symm
        clear h1 h2 hz
        go_wp2_with fail
        go_meet
        case rel => exact ⟨rfl, HA4⟩
      have z2 : (size != 96) = false := by simpa using h2
      obtain rfl : BB = false := by have := HBB.out; rw [decide_eq_false (fun u => u.2 ⟨h1, h2⟩)] at this; exact this.symm
      clear h1 h2 hz
      go_wp2_with fail
      go_meet
      case rel => exact ⟨rfl, HA4⟩
    case rest =>
    obtain ⟨rfl, hA5⟩ := hcut
    clear HA4 HBB
    go_upto_if 64 with fail
    go_cut [7] from 43 to 64 (fun s7 wx => s7 = .int .i64 wf ∧ Hid (LdAt W wx D3 g m1 (k + 1)))
    case first =>
      cases BB with
      | true =>
        have hq := Lib.hid (HW1.out rfl)
        go_wp2_with fail
        go_meet
        case rel => exact ⟨by rw [hq.out], hA5⟩
      | false =>
        have hq := Lib.hid (HW2.out rfl)
        go_wp2_with fail
        go_meet
        case rel => exact ⟨by rw [hq.out], hA5⟩
    case rest =>
    obtain ⟨rfl, hA1⟩ := hcut
    clear CO CP HU1 hA5 HW1 HW2
    have c15 := HC.out _ hA1.out.2.2.2.2 15 _ rfl
    have zz : (wf != wf) = false := by simp
    go_upto_if 73 with fail
    go_cut [] from 65 to 82 (fun wx => ∃ (D' : List Nat) (m' : Dev), Hid (LdAt W wx D' g m' (k + 1)))
    case first =>
      by_cases hfa : 0 ≤ fate
      · have hX := (Keep.refl [] wc).alloc (.cells #[.int .i64 fate] 3)
        have hb := heap_alloc_new wc (.cells #[.int .i64 fate] 3)
        have hIn : Ints (wc.alloc (.cells #[.int .i64 fate] 3)) (.slice (some ⟨wc.heap.size, 0, none⟩) 1 1) [fate] := ⟨some ⟨wc.heap.size, 0, none⟩, 1, rfl, by simp, ⟨by decide, by simp⟩, by simp, by intro y hy; rw [List.mem_singleton.1 hy]; exact HFT.out, by
          intro ad e i hi
          cases e
          obtain rfl : i = 0 := by simpa using hi
          rw [Addr.add_lit, Nat.add_zero]
          exact cell_of_one hb⟩
        have hD2 := hA1.out.1.keep hX (by simp)
        have hcr := crash_any _ D3 g m1 hD2 (by have := hA1.out.2.2.2.1; omega) _ [fate] hIn (fun _ b hb h => by simp [Value.ownBlock] at hb; subst hb; have := hA1.out.1.lt _ h; omega)
        have HCR := Lib.hid hcr
        have HX := Lib.hid hX
        clear hX hb hIn hD2 hcr
        go_wp2_with fail
        refine HCR.out.mono ?_
        rintro e w6 ⟨rfl, D6, hD6, hG6, k6⟩
        obtain ⟨hk6, hf6⟩ := dev_step (hA1.out.2.2.2.2.trans HX.out) hA1.out.2.2.1 hG6 k6
        obtain ⟨u1, u2⟩ := crash_up hA1.out.2.1 [fate]
        have HA6 := Lib.hid (show LdAt W w6 D6 g (m1.crash [fate]) (k + 1) from ⟨hD6, u1, hf6, by rw [u2]; exact hA1.out.2.2.2.1, hk6⟩)
        clear hD6 hG6 k6 hk6 hf6 u1 u2 HCR HX
        go_wp2_with fail
        go_meet
        case rel => exact ⟨_, _, HA6⟩
      · go_wp2_with fail
        go_meet
        case rel => exact ⟨_, m1, hA1⟩
    case rest =>
    obtain ⟨D2, m2, hA2⟩ := hcut
    clear hA1 c15 HC HFT zz
    have hu := hA2.out.2.1
    have hac : m2.acts ≤ 1000000000 := by have := hA2.out.2.2.2.1; omega
    have r0 := read_up hu.dn (n := 0) (by rw [hu.n]; decide)
    have r1 := read_up hu.dn (n := 1) (by rw [hu.n]; decide)
    have cR0 := fun w hd => read_any w D2 g m2 hd hac 0
    have cR1 := fun w hd => read_any w D2 g m2 hd hac 1
    rw [show ((0 : Int)) = ((0 : Nat) : Int) from rfl, r0] at cR0
    rw [show ((1 : Int)) = ((1 : Nat) : Int) from rfl, r1] at cR1
    have hl0 : (m2.get 0).length = 96 := by rw [Dev.get_length hu.wf (by rw [hu.n]; decide), hu.sz]
    have hl1 : (m2.get 1).length = 96 := by rw [Dev.get_length hu.wf (by rw [hu.n]; decide), hu.sz]
    obtain ⟨H, fd, hp⟩ : ∃ H fd, hpick (hdIn 60 96 0 (m2.get 0)) (hdIn 60 96 1 (m2.get 1)) 2 = (H, fd) := ⟨_, _, rfl⟩
    obtain ⟨hld, hz⟩ := hload_pick hu hp
    have cLd := fun w hd => load_any w D2 g m2 hd hac
    obtain ⟨lc, hlc2⟩ : ∃ lc : Int, (if fd = true then (0 : Int) else 15) = lc := ⟨_, rfl⟩
    rw [hld, hlc2] at cLd
    have cRf := fun x y w hx hy => refhLoad_any 60 96 x y (m2.get 0) (m2.get 1) w hx hy (by omega) (by omega)
    rw [hp] at cRf
    have cO := fun w => of10_any H w
    generalize m2.get 0 = A0 at *
    generalize m2.get 1 = A1 at *
    simp only [show ((0 : Nat) : Int) = 0 from rfl, show ((1 : Nat) : Int) = 1 from rfl] at cR0 cR1
    have hfd : (fd = true ∧ lc = 0) ∨ (fd = false ∧ lc = 15 ∧ H = hd0) := by
      cases fd with
      | true => exact .inl ⟨rfl, hlc2.symm⟩
      | false => exact .inr ⟨rfl, hlc2.symm, hz rfl⟩
    clear hp hld hz r0 r1 hu hlc2
    have CR0 := Lib.hid cR0
    have CR1 := Lib.hid cR1
    have CLD := Lib.hid cLd
    have CRF := Lib.hid cRf
    have HL0 := Lib.hid hl0
    have HL1 := Lib.hid hl1
    clear cR0 cR1 cLd cRf hl0 hl1 hac
    go_wp2_with fail
    refine (CR0.out _ hA2.out.1).mono ?_
    rintro e w7 ⟨v7, rfl, o7, k7⟩
    have hA7 := hA2.out.keep k7
    have hb7 := o7.bytes (by have := HL0.out; omega)
    have HA7 := Lib.hid hA7
    clear k7 o7 hA7
    go_wp2_with fail
    refine (CR1.out _ HA7.out.1).mono ?_
    rintro e w8 ⟨v8, rfl, o8, k8⟩
    have hA8 := HA7.out.keep k8
    have hb8 := o8.bytes (by have := HL1.out; omega)
    have hb78 := hb7.keep k8 (by simp)
    obtain ⟨a7, c7, rfl, -⟩ := hb7.form
    obtain ⟨a8, c8, rfl, -⟩ := hb8.form
    rw [HL0.out] at hb78 ⊢
    rw [HL1.out] at hb8 ⊢
    have HA8 := Lib.hid hA8
    have HB8 := Lib.hid (And.intro hb78 hb8)
    clear k8 o8 hA8 hb7 hb8 hb78 HA7
    go_wp2_with fail
    refine (CRF.out _ _ _ HB8.out.1 HB8.out.2).mono ?_
    rintro e w9 ⟨rfl, k9⟩
    obtain ⟨⟨secq, sizeq, regq, rsq, lgq, depq, memq, seedq⟩, genq, pageq, stampq, hdepq, logq, hregq, timeq⟩ := H
    simp only [Hd.v, Hd.cells] at *
    have CO := Lib.hid cO
    have HFD := Lib.hid hfd
    clear cO hfd
    have kX := (Keep.refl [] w9).alloc (.cells #[.int .i64 secq, .int .i64 sizeq, .int .i64 regq, .int .i64 rsq, .int .i64 lgq, .int .i64 depq, .int .i64 memq, .int .u64 (seedq : Int), .int .i64 genq, .int .i64 pageq, .int .i64 stampq, .int .i64 hdepq, .int .i64 logq, .int .i64 hregq, .int .i64 timeq] 118)
    have HX := Lib.hid (heap_alloc_new w9 (.cells #[.int .i64 secq, .int .i64 sizeq, .int .i64 regq, .int .i64 rsq, .int .i64 lgq, .int .i64 depq, .int .i64 memq, .int .u64 (seedq : Int), .int .i64 genq, .int .i64 pageq, .int .i64 stampq, .int .i64 hdepq, .int .i64 logq, .int .i64 hregq, .int .i64 timeq] 118))
    have HA9 := Lib.hid (HA8.out.keep (k9.trans kX))
    clear k9 kX HA8
    go_wp2_with fail
    refine (CLD.out _ HA9.out.1).mono ?_
    rintro e w10 ⟨rfl, k10⟩
    have kY := (Keep.refl [] w10).alloc (.cells #[.int .i64 secq, .int .i64 sizeq, .int .i64 regq, .int .i64 rsq, .int .i64 lgq, .int .i64 depq, .int .i64 memq, .int .u64 (seedq : Int), .int .i64 genq, .int .i64 pageq, .int .i64 stampq, .int .i64 hdepq, .int .i64 logq, .int .i64 hregq, .int .i64 timeq] 123)
    have HY := Lib.hid (heap_alloc_new w10 (.cells #[.int .i64 secq, .int .i64 sizeq, .int .i64 regq, .int .i64 rsq, .int .i64 lgq, .int .i64 depq, .int .i64 memq, .int .u64 (seedq : Int), .int .i64 genq, .int .i64 pageq, .int .i64 stampq, .int .i64 hdepq, .int .i64 logq, .int .i64 hregq, .int .i64 timeq] 123))
    have HX2 := Lib.hid ((k10.trans kY).blk (by simp) HX.out)
    have HA10 := Lib.hid (HA9.out.keep (k10.trans kY))
    clear k10 kY HA9 HX
    go_wp2_with fail
    refine wp_region_his [] [9] (fun _ => 0) (by kernel_rfl) (by kernel_rfl) ?_
    intro w11 hk11 hh
    clear hh
    have x0 := fun w' (h' : Keep [] w11 w') => cell_of_row w' _ 0 _ _ _ ((hk11.trans h').blk (by simp) HX2.out)
    have y0 := fun w' (h' : Keep [] w11 w') => cell_of_row w' _ 0 _ _ _ ((hk11.trans h').blk (by simp) HY.out)
    have x1 := fun w' (h' : Keep [] w11 w') => cell_of_row w' _ 1 _ _ _ ((hk11.trans h').blk (by simp) HX2.out)
    have y1 := fun w' (h' : Keep [] w11 w') => cell_of_row w' _ 1 _ _ _ ((hk11.trans h').blk (by simp) HY.out)
    have x2 := fun w' (h' : Keep [] w11 w') => cell_of_row w' _ 2 _ _ _ ((hk11.trans h').blk (by simp) HX2.out)
    have y2 := fun w' (h' : Keep [] w11 w') => cell_of_row w' _ 2 _ _ _ ((hk11.trans h').blk (by simp) HY.out)
    have x3 := fun w' (h' : Keep [] w11 w') => cell_of_row w' _ 3 _ _ _ ((hk11.trans h').blk (by simp) HX2.out)
    have y3 := fun w' (h' : Keep [] w11 w') => cell_of_row w' _ 3 _ _ _ ((hk11.trans h').blk (by simp) HY.out)
    have x4 := fun w' (h' : Keep [] w11 w') => cell_of_row w' _ 4 _ _ _ ((hk11.trans h').blk (by simp) HX2.out)
    have y4 := fun w' (h' : Keep [] w11 w') => cell_of_row w' _ 4 _ _ _ ((hk11.trans h').blk (by simp) HY.out)
    have x5 := fun w' (h' : Keep [] w11 w') => cell_of_row w' _ 5 _ _ _ ((hk11.trans h').blk (by simp) HX2.out)
    have y5 := fun w' (h' : Keep [] w11 w') => cell_of_row w' _ 5 _ _ _ ((hk11.trans h').blk (by simp) HY.out)
    have x6 := fun w' (h' : Keep [] w11 w') => cell_of_row w' _ 6 _ _ _ ((hk11.trans h').blk (by simp) HX2.out)
    have y6 := fun w' (h' : Keep [] w11 w') => cell_of_row w' _ 6 _ _ _ ((hk11.trans h').blk (by simp) HY.out)
    have x7 := fun w' (h' : Keep [] w11 w') => cell_of_row w' _ 7 _ _ _ ((hk11.trans h').blk (by simp) HX2.out)
    have y7 := fun w' (h' : Keep [] w11 w') => cell_of_row w' _ 7 _ _ _ ((hk11.trans h').blk (by simp) HY.out)
    have x8 := fun w' (h' : Keep [] w11 w') => cell_of_row w' _ 8 _ _ _ ((hk11.trans h').blk (by simp) HX2.out)
    have y8 := fun w' (h' : Keep [] w11 w') => cell_of_row w' _ 8 _ _ _ ((hk11.trans h').blk (by simp) HY.out)
    have x9 := fun w' (h' : Keep [] w11 w') => cell_of_row w' _ 9 _ _ _ ((hk11.trans h').blk (by simp) HX2.out)
    have y9 := fun w' (h' : Keep [] w11 w') => cell_of_row w' _ 9 _ _ _ ((hk11.trans h').blk (by simp) HY.out)
    have x10 := fun w' (h' : Keep [] w11 w') => cell_of_row w' _ 10 _ _ _ ((hk11.trans h').blk (by simp) HX2.out)
    have y10 := fun w' (h' : Keep [] w11 w') => cell_of_row w' _ 10 _ _ _ ((hk11.trans h').blk (by simp) HY.out)
    have x11 := fun w' (h' : Keep [] w11 w') => cell_of_row w' _ 11 _ _ _ ((hk11.trans h').blk (by simp) HX2.out)
    have y11 := fun w' (h' : Keep [] w11 w') => cell_of_row w' _ 11 _ _ _ ((hk11.trans h').blk (by simp) HY.out)
    have x12 := fun w' (h' : Keep [] w11 w') => cell_of_row w' _ 12 _ _ _ ((hk11.trans h').blk (by simp) HX2.out)
    have y12 := fun w' (h' : Keep [] w11 w') => cell_of_row w' _ 12 _ _ _ ((hk11.trans h').blk (by simp) HY.out)
    have x13 := fun w' (h' : Keep [] w11 w') => cell_of_row w' _ 13 _ _ _ ((hk11.trans h').blk (by simp) HX2.out)
    have y13 := fun w' (h' : Keep [] w11 w') => cell_of_row w' _ 13 _ _ _ ((hk11.trans h').blk (by simp) HY.out)
    have x14 := fun w' (h' : Keep [] w11 w') => cell_of_row w' _ 14 _ _ _ ((hk11.trans h').blk (by simp) HX2.out)
    have y14 := fun w' (h' : Keep [] w11 w') => cell_of_row w' _ 14 _ _ _ ((hk11.trans h').blk (by simp) HY.out)
    simp at x0 y0 x1 y1 x2 y2 x3 y3 x4 y4 x5 y5 x6 y6 x7 y7 x8 y8 x9 y9 x10 y10 x11 y11 x12 y12 x13 y13 x14 y14
    have HA11 := Lib.hid (HA10.out.keep hk11)
    clear hk11 HA10 HX2 HY
    rcases HFD.out with ⟨rfl, rfl⟩ | ⟨rfl, rfl, hH⟩
    · (repeat (first | (refine his_q rfl rfl (fun K hK => ?_); apply Exists.intro; refine ⟨fun w' hC => ?_, ?_⟩; ((try simp [Sg.upd] at hC); go_simp <;> rfl); go_simp; refine hK _ _ ?_; clear hK K) | (refine his_s rfl (fun K hK => ?_); go_simp; refine hK _ _ ?_; clear hK K)))
      (refine his_l rfl rfl (fun K hK => ?_); go_simp)
      refine (CO.out _).mono ?_
      rintro x w12 ⟨rfl, k12⟩
      refine hK _ _ k12 ?_
      clear hK K
      (repeat (first | (refine his_q rfl rfl (fun K hK => ?_); apply Exists.intro; refine ⟨fun w' hC => ?_, ?_⟩; ((try simp [Sg.upd] at hC); go_simp <;> rfl); go_simp; refine hK _ _ ?_; clear hK K) | (refine his_s rfl (fun K hK => ?_); go_simp; refine hK _ _ ?_; clear hK K)))
      refine his_nil ?_
      clear x0 y0 x1 y1 x2 y2 x3 y3 x4 y4 x5 y5 x6 y6 x7 y7 x8 y8 x9 y9 x10 y10 x11 y11 x12 y12 x13 y13 x14 y14
      have HA12 := Lib.hid (HA11.out.keep k12)
      clear k12
      go_wp2_with fail
      go_roundw
      case rel => exact ⟨k + 1, D2, m2, by omega, by go_num, HA12⟩
      case measure => simp [intOf]; omega
    · simp only [hd0, Hd.mk.injEq, Pl.mk.injEq] at hH
      obtain ⟨⟨rfl, rfl, rfl, rfl, rfl, rfl, rfl, rfl⟩, rfl, rfl, rfl, rfl, rfl, rfl, rfl⟩ := hH
      simp only [show ((0 : Nat) : Int) = 0 from rfl] at *
      (repeat (first | (refine his_q rfl rfl (fun K hK => ?_); apply Exists.intro; refine ⟨fun w' hC => ?_, ?_⟩; ((try simp [Sg.upd] at hC); go_simp <;> rfl); go_simp; refine hK _ _ ?_; clear hK K) | (refine his_s rfl (fun K hK => ?_); go_simp; refine hK _ _ ?_; clear hK K)))
      refine his_nil ?_
      clear x0 y0 x1 y1 x2 y2 x3 y3 x4 y4 x5 y5 x6 y6 x7 y7 x8 y8 x9 y9 x10 y10 x11 y11 x12 y12 x13 y13 x14 y14
      go_wp2_with fail
      go_roundw
      case rel => exact ⟨k + 1, D2, m2, by omega, by go_num, HA11⟩
      case measure => simp [intOf]; omega
end Go.Proofs.Ytijljdcpajjhhaa
