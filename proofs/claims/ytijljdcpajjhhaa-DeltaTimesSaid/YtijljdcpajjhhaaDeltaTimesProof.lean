import Derived.Test.YtijljdcpajjhhaaDlKit
import Derived.Test.YtijljdcpajjhhaaRows
import Derived.Test.YtijljdcpajjhhaaOpenF
import Derived.Test.YtijljdcpajjhhaaBase
import Derived.ChangeOld
/-! The walk of DeltaTimes. -/
namespace Go.Proofs.Ytijljdcpajjhhaa
open Go.RowKit Go.Shelf Sg Go.ChangeShapes Go.WideShapes Go.ChangeAt Go.Deep
set_option linter.unusedSimpArgs false
set_option linter.unusedVariables false

/-- A slice shows these numbers of 16 bits. -/
def U16s (w : World) (v : Value) (l : List Nat) : Prop :=
  ∃ ao cap, v = .slice ao l.length cap ∧ l.length ≤ cap ∧ (cap ≤ 9223372036854775807 ∧ l.length ≤ 140737488355328) ∧ (ao = none → l = []) ∧ (∀ x ∈ l, x < 65536) ∧
    ∀ ad, ao = some ad → ∀ i (h : i < l.length), w.cell? (ad.add i) = some (.int .u16 (l[i] : Int))
theorem U16s.keep {w w' : World} {v : Value} {l : List Nat} (h : U16s w v l) (k : Keep [] w w') : U16s w' v l := by
  obtain ⟨ao, cap, rfl, h1, h2, h3, h5, h4⟩ := h
  exact ⟨ao, cap, rfl, h1, h2, h3, h5, fun ad e i hi => k.cell (by simp) (h4 ad e i hi)⟩
theorem U16s.form {w : World} {v : Value} {l : List Nat} (h : U16s w v l) : ∃ ao cap, v = .slice ao l.length cap ∧ l.length ≤ cap ∧ l.length ≤ 140737488355328 ∧ cap ≤ 9223372036854775807 := by
  obtain ⟨ao, cap, rfl, h1, h2, _⟩ := h
  exact ⟨ao, cap, rfl, h1, h2.2, h2.1⟩
theorem U16s.spot {w : World} {ao : Option Addr} {n cap : Nat} {l : List Nat} (h : U16s w (.slice ao n cap) l) (hl : 0 < l.length) :
    ∃ b o, ao = some ⟨b, o, none⟩ ∧ b < w.heap.size ∧ ∀ i (h : i < l.length), w.cell? ⟨b, o + i, none⟩ = some (.int .u16 (l[i] : Int)) := by
  obtain ⟨ao', cap', e, h1, h2, h3, h5, h4⟩ := h
  cases e
  cases ao with
  | none => rw [h3 rfl] at hl; simp at hl
  | some ad =>
    have h0 := h4 ad rfl 0 hl
    rw [show ad.add 0 = ad by simp [Addr.add]] at h0
    have hs : ad.spot = none := by
      cases hsp : ad.spot with
      | none => rfl
      | some x =>
        unfold World.cell? at h0
        split at h0
        · simp [hsp] at h0
        · cases h0
    obtain ⟨b, o, sp⟩ := ad
    simp only at hs
    subst hs
    refine ⟨b, o, rfl, World.block_lt_of_cell? w _ h0, fun i hi => ?_⟩
    have := h4 _ rfl i hi
    rwa [Addr.add_lit] at this
theorem U16s.range {w : World} {v : Value} {l : List Nat} (h : U16s w v l) : ∀ x ∈ l, x < 65536 := by
  obtain ⟨_, _, _, _, _, _, h5, _⟩ := h
  exact h5
section
variable {H : Type} {enc : TypeId × Value → H} {P : Program} {w : World}
theorem u16s_of {t e : TypeId} {v : Value} {d : DataW H} {ps : List MemPlace} (ht : P.underlying t = some (.slice e)) (he : P.underlying e = some (.int .u16)) (hc : P.cellsOf e = 1) (hb : P.bytesOf e = 2)
    (hv : ∃ a n c, v = .slice a n c) (h : DataW.Trod enc P w 0 (fun _ => true) true t v d ps) (hw : ∀ x ∈ d.weights P t, x ≤ reachBytes) : ∃ l : List Nat, U16s w v l := by
  obtain ⟨a0, n, c, rfl⟩ := hv
  obtain ⟨fuel, hf⟩ := h
  rcases open_ints ht he hc hf with ⟨hcs, _⟩ | ⟨a, len, cap, zs, hcs, _, hl, hm, hz, hx, hcell, hwz⟩
  · simp [Value.cells] at hcs
    obtain ⟨rfl, rfl, rfl⟩ := hcs
    exact ⟨[], none, 0, rfl, by simp, ⟨by decide, by decide⟩, fun _ => rfl, by simp, fun _ h => by cases h⟩
  · simp [Value.cells] at hcs
    obtain ⟨rfl, rfl, rfl⟩ := hcs
    simp at hz
    have hd : d = .slice (lits .u16 (zs.take n)) (lits .u16 (zs.drop n)) := by
      have := congrArg Prod.fst hx; simpa using this
    subst hd
    have hsz := hw _ (by simp only [DataW.weights, ht]; exact List.mem_cons_self)
    rw [hb] at hsz
    simp [lits, reachBytes] at hsz
    have hlen : ((zs.take n).map fun z => z.toNat).length = n := by simp; omega
    have hr : ∀ z ∈ zs, 0 ≤ z ∧ z ≤ 65535 := fun z hz => by
      have hwf := hwz z hz
      have h1 : (IntKind.u16.min : Int) = 0 := rfl
      have h2 : (IntKind.u16.max : Int) = 65535 := rfl
      simp only [Lit.wf, Bool.and_eq_true, decide_eq_true_eq, h1, h2] at hwf
      exact hwf
    refine ⟨(zs.take n).map fun z => z.toNat, some a, c, by rw [hlen], by omega, by omega, by simp, ?_, ?_⟩
    · intro x hx
      obtain ⟨z, hz1, rfl⟩ := List.mem_map.1 hx
      have := hr z (List.mem_of_mem_take hz1)
      omega
    intro ad e i hi
    cases e
    have hi' : i < n := by omega
    rw [hcell i (by omega)]
    have hzi : i < zs.length := by omega
    have := hr zs[i] (List.getElem_mem hzi)
    have e1 : zs.getD i 0 = zs[i] := by simp [List.getD, hzi]
    rw [e1]
    simp only [List.getElem_map, List.getElem_take]
    rw [Int.toNat_of_nonneg this.1]
end

/-- the sectors hold these times -/
def TG (ts : List Nat) (G : Nat → Option Bt) : Prop := ∀ k, k < 5 → G ((k + 1) % 5) = (ts[k]?).map (fun t => (k + 1, t, []))
theorem TG.nil : TG [] (fun _ => none) := fun k hk => rfl
theorem TG.more {ts : List Nat} {G : Nat → Option Bt} (h : TG ts G) (hl : ts.length < 5) (t : Nat) : TG (ts ++ [t]) (setG G ((ts.length + 1) % 5) (ts.length + 1, t, [])) := by
  intro k hk
  unfold setG
  by_cases e : k = ts.length
  · subst e
    rw [if_pos rfl]
    simp
  · rw [if_neg (by omega), h k hk]
    congr 1
    by_cases e2 : k < ts.length
    · rw [List.getElem?_append_left e2]
    · rw [List.getElem?_eq_none (by omega), List.getElem?_eq_none (by simp; omega)]
theorem TG.runs {ts : List Nat} {G : Nat → Option Bt} (h : TG ts G) : ∀ f k q, k + f = 5 → bch (druns 5 G f (k + 1)) = [] ∧ btm q (druns 5 G f (k + 1)) = max q ((ts.drop k).foldl max 0) ∨ ts.length > 5 := by
  intro f
  induction f with
  | zero =>
    intro k q hk
    by_cases hl : ts.length > 5
    · exact .inr hl
    · refine .inl ⟨rfl, ?_⟩
      rw [List.drop_of_length_le (by omega)]
      simp [druns, btm]
  | succ f ih =>
    intro k q hk
    by_cases hl : ts.length > 5
    · exact .inr hl
    · left
      have hG := h k (by omega)
      unfold druns
      rw [hG]
      by_cases hkl : k < ts.length
      · rw [List.getElem?_eq_getElem hkl]
        have hd : ts.drop k = ts[k] :: ts.drop (k + 1) := (List.getElem_cons_drop hkl).symm
        rcases ih (k + 1) (max q ts[k]) (by omega) with ⟨i1, i2⟩ | i3
        · simp only [Option.map_some, dget, if_true]
          unfold bch at i1
          unfold btm at i2
          unfold bch btm
          refine ⟨by rw [List.flatMap_cons, i1]; rfl, ?_⟩
          rw [List.foldl_cons, i2, hd, List.foldl_cons]
          have hm : ∀ (l : List Nat) (a b : Nat), l.foldl max (max a b) = max a (l.foldl max b) := by
            intro l
            induction l with
            | nil => intro a b; rfl
            | cons x l ih => intro a b; rw [List.foldl_cons, List.foldl_cons, Nat.max_assoc, ih]
          have h1 := hm (ts.drop (k + 1)) ts[k] 0
          rw [Nat.max_comm ts[k] 0] at h1
          rw [h1]
          omega
        · exact absurd i3 hl
      · rw [List.getElem?_eq_none (by omega), List.drop_of_length_le (by omega)]
        simp [dget, bch, btm]

set_option maxRecDepth 100000 in
set_option maxRecDepth 100000 in
set_option maxHeartbeats 1000000 in
set_option maxHeartbeats 4000000 in
theorem deltaTimesWalk (W : World) (v : Value) (l : List Nat) (hv : U16s W v l) :
    Calls Try.prog 4 #[v] W fun e W' => e = .returned (.bool true) ∧ Below W.heap.size W W' := by
  obtain ⟨ao, cap, rfl, hlc, hlm, hcap⟩ := hv.form
  have cN := fun w => (newDev_any 60 96 (by decide) w : Calls Try.prog 15 #[.int .i64 60, .int .i64 96] w _)
  have CN := Lib.hid cN
  have HV := Lib.hid hv
  clear cN
  obtain ⟨M, hM⟩ : ∃ M, l.length = M := ⟨_, rfl⟩
  have HM := Lib.hid hM
  rw [hM] at hlc hlm hv
  rw [hM]
  clear hM hv
  go_enter Try.func4, Try.ntmps4
  by_cases hbig : M > 30
  · have h1 : (30 : Int) < (M : Int) := by omega
    go_wp2
    go_ret
    exact ⟨rfl, (Keep.refl [] W).below (Nat.le_refl _) (by simp)⟩
  have h1 : ¬ (30 : Int) < (M : Int) := by omega
  go_wp2_with fail
  refine (CN.out _).mono ?_
  rintro e w1 ⟨g, D, rfl, hD, k1, hf⟩
  clear CN
  go_wp2_with fail
  refine (small12_any w1).mono ?_
  rintro e w2 ⟨rfl, k2⟩
  have hFF := formatD_ok (W := W) (X := []) (k1.trans k2) (hD.keep k2 (by simp)) (fun b hb => ⟨hf b hb, by simp⟩) (by simp)
  clear hD hf k1 k2
  go_wp2_with fail
  refine hFF.mono ?_
  clear hFF
  rintro e w3 ⟨gl, rfl, h3, -⟩
  have hac := new12_acts
  have hTG := TG.nil
  generalize Dev.new 60 96 = m0 at *
  generalize (fun _ => (none : Option Bt)) = G0 at *
  have H3 := Lib.hid (And.intro h3 hTG)
  clear h3 hTG
  go_wp2_with fail
  go_loopw [6, 7, 8] (fun s6 s7 s8 wr => ∃ (i mx n : Nat) (ts : List Nat) (tm : Nat) (m : Dev) (G : Nat → Option Bt), i ≤ M ∧ mx ≤ 65535 ∧ n ≤ 5 ∧ s6 = .int .i64 (mx : Int) ∧ s7 = .int .i64 (n : Int) ∧ s8 = .int .i64 (i : Int) ∧ m.acts ≤ n ∧ Hid (ts.length = n ∧ ts.foldl max 0 = mx ∧ DAt W [] wr gl g ⟨1, n + 1, tm, []⟩ m G ∧ TG ts G)) (fun _ _ s8 _ => M - (intOf s8).toNat)
  case atStart => exact ⟨0, 0, 0, [], 0, m0, G0, by omega, by omega, by omega, rfl, rfl, rfl, by omega, Lib.hid ⟨rfl, rfl, H3.out.1, H3.out.2⟩⟩
  case round =>
    obtain ⟨i, mx, n, ts, tm, m, G, hi, hmx, hn, rfl, rfl, rfl, hka, HL⟩ := hrel
    rename World => wr
    by_cases hiM : i = M
    case neg =>
      have hlt : (i : Int) < (M : Int) := by omega
      have hil : i < l.length := by rw [HM.out]; omega
      obtain ⟨b, o, rfl, -, hsp⟩ := (HV.out.keep HL.out.2.2.1.k).spot (by omega)
      have hcell := hsp i hil
      have hxb := HV.out.range l[i] (List.getElem_mem hil)
      obtain ⟨x, hx⟩ : ∃ x, l[i] = x := ⟨_, rfl⟩
      rw [hx] at hcell hxb
      have HXX := Lib.hid hx
      have hcap2 : i < cap := by omega
      have cX := nextD_ok HL.out.2.2.1
      rw [show (((⟨1, n + 1, tm, []⟩ : Dl).nx : Nat) : Int) = (n : Int) + 1 from by push_cast; rfl] at cX
      have CX := Lib.hid cX
      have CF := Lib.hid (flushD_ok HL.out.2.2.1 (by omega) (by show n + 1 < 1099511628032; omega) x (by omega))
      clear cX hsp hx
      go_wp2_with fail
      refine CX.out.mono ?_
      clear CX
      rintro e w4 ⟨rfl, rfl⟩
      go_wp2_with fail
      refine CF.out.mono ?_
      clear CF
      rintro e w5 ⟨-, (⟨h2, h3, rfl, h4⟩ | ⟨h2, h3, rfl, h4⟩ | ⟨h2, h3, rfl, m', h4, h5⟩)⟩
      · have H4 := Lib.hid h4
        clear h4
        have cX := nextD_ok H4.out
        rw [show (((⟨1, n + 1, tm, []⟩ : Dl).nx : Nat) : Int) = (n : Int) + 1 from by push_cast; rfl] at cX
        have CX := Lib.hid cX
        clear cX hcell
        go_wp2_with fail
        refine CX.out.mono ?_
        clear CX
        rintro e w6 ⟨rfl, rfl⟩
        have H5 := Lib.hid (And.intro HL.out.1 (And.intro HL.out.2.1 (And.intro H4.out HL.out.2.2.2)))
        go_wp2_with fail
        go_roundw
        case rel => exact ⟨i + 1, mx, n, ts, tm, m, G, by omega, hmx, hn, rfl, rfl, by go_num, hka, H5⟩
        case measure => simp [intOf]; omega
      · have h3' : 1 + 5 ≤ n + 1 := h3
        have hn5 : n = 5 := by omega
        subst hn5
        have cL := leftD_ok h4
        rw [show ((5 - ((⟨1, 5 + 1, tm, []⟩ : Dl).nx - (⟨1, 5 + 1, tm, []⟩ : Dl).fr) : Nat) : Int) = 0 from rfl] at cL
        have CL := Lib.hid cL
        have H4 := Lib.hid h4
        clear h4 cL hcell h3 h3' h2
        go_wp2_with fail
        refine CL.out.mono ?_
        clear CL
        rintro e w6 ⟨rfl, k6⟩
        have H5 := Lib.hid (And.intro HL.out.1 (And.intro HL.out.2.1 (And.intro (H4.out.keep k6) HL.out.2.2.2)))
        clear k6
        go_wp2_with fail
        go_roundw
        case rel => exact ⟨i + 1, mx, 5, ts, tm, m, G, by omega, hmx, by omega, rfl, rfl, by go_num, hka, H5⟩
        case measure => simp [intOf]; omega
      · have h3' : n + 1 < 1 + 5 := h3
        have H4 := Lib.hid h5
        clear hcell
        obtain ⟨b', o', e', -, hsp2⟩ := (HV.out.keep H4.out.k).spot (by omega)
        cases e'
        have hcell := hsp2 i hil
        rw [HXX.out] at hcell
        have HTX := Lib.hid (TG.more HL.out.2.2.2 (by rw [HL.out.1]; omega) x)
        have cX := nextD_ok H4.out
        rw [show (((⟨1, n + 1 + 1, x, []⟩ : Dl).nx : Nat) : Int) = (n : Int) + 2 from by push_cast; omega] at cX
        have CX := Lib.hid cX
        have hways : ∃ mx2 : Nat, mx2 ≤ 65535 ∧ ((mx < x ∧ mx2 = x) ∨ (¬ mx < x ∧ mx2 = mx)) ∧ max mx x = mx2 := ⟨max mx x, by omega, by omega, rfl⟩
        obtain ⟨mx2, hb2, hways, hmm⟩ := hways
        have HMM := Lib.hid hmm
        clear h2 h3 h5 cX hsp2 hmm
        go_wp2_with fail
        refine CX.out.mono ?_
        clear CX
        rintro e w6 ⟨rfl, rfl⟩
        rcases hways with ⟨h7, rfl⟩ | ⟨h7, rfl⟩
        all_goals
          go_wp2_with fail
          go_roundw
          case rel =>
            refine ⟨i + 1, _, n + 1, ts ++ [_], _, m', _, by omega, hb2, by omega, rfl, by go_num, by go_num, by omega, Lib.hid ⟨by simp [HL.out.1], by rw [List.foldl_append, HL.out.2.1]; exact HMM.out, H4.out, ?_⟩⟩
            have h := HTX.out
            rw [HL.out.1] at h
            exact h
          case measure => simp [intOf]; omega
    case pos =>
      subst hiM
      have hlen := HL.out.1
      have HO := Lib.hid (openD_ok (HL.out.2.2.1) (by omega) 1)
      have HL2 := Lib.hid hlen
      clear hlen
      go_wp2_with fail
      refine (small12_any wr).mono ?_
      rintro e w4 ⟨rfl, k4⟩
      have HO := Lib.hid (openD_ok (HL.out.2.2.1.keep k4) (by omega) 1)
      have HLK := Lib.hid (HL.out.2.2.1.keep k4)
      clear k4
      go_wp2_with fail
      refine HO.out.mono ?_
      clear HO
      rintro e w5 ⟨k5, (⟨h2, -⟩ | ⟨f, h2, -, -, gl', pv, rfl, hrow⟩)⟩
      · omega
      have hf1 : f = 1 := by omega
      subst hf1
      rcases TG.runs HL.out.2.2.2 5 0 0 rfl with ⟨i1, i2⟩ | i3
      · rw [i1] at hrow
        rw [i2, show max 0 ((ts.drop 0).foldl max 0) = mx by rw [List.drop_zero, HL.out.2.1]; omega]
        obtain ⟨pa, pc, rfl⟩ := hrow.form
        have HLK5 := Lib.hid (HLK.out.keep k5)
        have cX := nextD_ok HLK5.out
        rw [show (((⟨1, n + 1, tm, []⟩ : Dl).nx : Nat) : Int) = (n : Int) + 1 from by push_cast; rfl] at cX
        have CX := Lib.hid cX
        clear hrow k5 i1 i2 cX h2
        go_wp2_with fail
        refine CX.out.mono ?_
        clear CX
        rintro e w6 ⟨rfl, rfl⟩
        go_wp2_with fail
        refine (awake12_any _).mono ?_
        rintro e w7 ⟨rfl, k7⟩
        have HK := Lib.hid (HLK5.out.k.trans k7)
        clear k7
        go_wp2_with fail
        go_ret
        exact ⟨rfl, HK.out.below (Nat.le_refl _) (by simp)⟩
      · exfalso
        rw [HL.out.1] at i3
        omega
end Go.Proofs.Ytijljdcpajjhhaa

/-! The row of DeltaTimes, round its walk: what came in is opened, the walk is called, what came in reads as it did. -/
namespace Go.Proofs.Ytijljdcpajjhhaa.deltaTimes
open Go.ChangeShapes Go.WideShapes Go.ChangeAt Go.RowKit Sg
open Go.ChangeMaps (open_string shut_string)
set_option linter.unusedVariables false

theorem own : ownKnob Try.prog.godebug = none := by kernel_rfl
theorem laidOut : laidOutB Try.prog = true := by kernel_rfl

set_option maxRecDepth 100000 in
theorem lifted (os : Os) (started : os.Started) (H : Type) (enc : TypeId × Value → H) :
    ReturnsInHanded {} Try.checked os 4 .any (Rows.deltaTimesSpec.pre6 enc Try.prog Try.f4 Rows.deltaTimesRow.domain false) (Rows.deltaTimesSpec.post enc Try.prog Try.f4 false true false false) := by
  refine returnsInHanded_of_change_sized (C := Try.checked) own started (by kernel_rfl) Try.func4
    (ChangeSpec.witness6 (enc := enc) (C := Try.checked) false ⟨#[], #[.slice none 0 0], []⟩ 8 (by kernel_rfl) (by kernel_rfl) (by kernel_rfl) (by kernel_rfl)) ?_
  intro W base args ds gs before hval0 hW _ hsz0 _
  have hsz : (DataW.weightsEach Try.prog (Try.f4.params.toList ++ Rows.deltaTimesSpec.plain.varTypes Try.prog) (ds ++ gs)).all (· ≤ reachBytes) = true := hsz0
  clear hsz0
  have hval : ∀ (j : Nat) t v, Try.f4.params[j]? = some t → args[j]? = some v → Value.okWide Try.prog W .any base t v := hval0
  have hW' := hW
  obtain ⟨p, q, hA0, hV, rfl, hfz, hnd⟩ := hW
  have hA : DataW.TrodAll enc Try.prog W 0 (fun _ => true) true Try.f4.params.toList args.toList ds p := hA0
  rw [Try.params4] at hA hval hsz
  obtain ⟨v0, vs0, d0, ds0, p0, q0, hargs, rfl, rfl, h0, r0⟩ := trodAll_cons hA
  obtain ⟨rfl, rfl, rfl⟩ := trodAll_nil r0
  obtain rfl : args = #[v0] := by cases args; simp_all
  obtain ⟨rfl, rfl⟩ := trodVars_none hV
  have k0 := h0
  have lt0 : ∀ x ∈ p0, x.block < W.heap.size := by obtain ⟨m, hm⟩ := k0; exact DataW.trod_lt m _ _ _ hm
  have s0 := okWide_slice Try.underlying54 (hval 0 54 v0 rfl rfl)
  obtain ⟨l0, b0⟩ := u16s_of Try.underlying54 Try.underlying64 (by kernel_rfl) (by kernel_rfl) s0 h0 (weights_at hsz (j := 0) rfl rfl)
  refine (deltaTimesWalk W v0 l0 b0).mono fun e W' ⟨he, bel⟩ => ?_
  subst he
  exact ⟨_, rfl, _, _, _, [], _, [], hW', trodAll_mk1 (shut_bool Try.underlying4 _), (trodAll_cons_mk (Below.trod laidOut (by kernel_rfl) (of_decide_eq_true (by kernel_rfl)) k0 bel lt0) trodAll_mk0), rfl, bel.frame _, fun h => by cases h⟩

theorem over : Rows.deltaTimesRow.holds Try.pinned (OpenSpec.ofChange Rows.deltaTimesSpec) :=
  OpenClaim.holds_of_wide 4 Try.f4 rfl rfl rfl rfl rfl rfl rfl ⟨rfl, rfl, rfl, rfl, rfl⟩ rfl rfl rfl rfl rfl (by kernel_rfl) Try.func4 (by kernel_rfl)
    (of_decide_eq_true (by kernel_rfl)) (by unfold Func.isWrapper; first | (rw [if_pos (by decide +kernel)]; kernel_rfl) | (rw [if_neg (by decide +kernel)]; exact ⟨rfl, rfl⟩))
    (fun os started H enc _ => lifted os started H enc)

/-- The statement. -/
theorem proved : Rows.DeltaTimesSaid := over
end Go.Proofs.Ytijljdcpajjhhaa.deltaTimes
