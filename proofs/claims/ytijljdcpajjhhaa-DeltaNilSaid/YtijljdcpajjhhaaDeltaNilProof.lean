import Derived.Test.YtijljdcpajjhhaaDlKit
import Derived.Test.YtijljdcpajjhhaaRows
import Derived.Test.YtijljdcpajjhhaaOpenF
import Derived.Test.YtijljdcpajjhhaaBase
import Derived.ChangeOld
/-! The walk of DeltaNil. -/
namespace Go.Proofs.Ytijljdcpajjhhaa
open Go.RowKit Go.Shelf Sg
set_option linter.unusedSimpArgs false
set_option linter.unusedVariables false

theorem addDl_nil (x : Value) (t : Int) (hx : ∃ d h r a s, x = .agg #[.bool d, .int .u64 h, .int .i64 r, .int .i64 a, .int .i64 s]) (w : World) : Calls Try.prog 55 #[.pointer none, x, .int .i64 t] w fun e w' => e = .returned (.int .i64 1) ∧ Keep [] w w' := by
  obtain ⟨d, h, r, a, s, rfl⟩ := hx
  go_enter Try.func55, Try.ntmps55
  go_wp2_with fail
  go_ret
  exact ⟨rfl, (Keep.refl [] w).alloc _⟩
theorem flushDl_nil (t : Int) (w : World) : Calls Try.prog 31 #[.pointer none, .int .i64 t] w fun e w' => e = .returned (.int .i64 1) ∧ Keep [] w w' := by
  go_enter Try.func31, Try.ntmps31
  go_wp2_with fail
  go_ret
  exact ⟨rfl, Keep.refl [] w⟩
theorem druns_none (f n : Nat) : druns 5 (fun _ => none) f n = [] := by
  cases f with
  | zero => rfl
  | succ f => simp [druns, dget]
theorem new12_inv (hw : (Dev.new 60 96).Wf) : DgInv dc12 ⟨1, 1, 0, []⟩ (Dev.new 60 96) (fun _ => none) :=
  { ok := dc12_ok _ rfl rfl, wf := hw, up := rfl, un := rfl, fit := ⟨by decide, by decide, by decide, by decide, by decide, ⟨fun x hx => by simp at hx, fun x hx => by simp at hx⟩⟩, pl := by decide, sec := fun a ha => .inl ⟨rfl, by
      have h1 : dc12.first + a < 60 := by
        have h2 : a < 5 := ha
        have h3 : dc12.first = 2 := rfl
        omega
      unfold Dev.get
      show (lastOf [] _).getD ((List.replicate 60 (List.replicate 96 0)).getD _ []) = List.replicate 96 0
      rw [List.getD_eq_getElem?_getD, List.getElem?_replicate, if_pos h1]
      rfl⟩ }
/-- a log that is opened on a new device -/
theorem openD_new (w : World) (D : List Nat) (g : Nat) (h : DV w D g (Dev.new 60 96)) (fr : Int) :
    Calls Try.prog 33 #[.pointer (some ⟨g, 0, none⟩), .agg #[.int .i64 60, .int .i64 96, .int .i64 3, .int .i64 2, .int .i64 5, .int .i64 2, .int .i64 8, .int .u64 0], .int .i64 fr] w fun e w' => Keep [] w w' ∧
      ∃ q a c, (¬ (1 ≤ fr ∧ fr ≤ 1099511627776) ∧ e = .returned (.tuple #[.pointer q, .slice a 0 c, .int .i64 0, .int .i64 1])) ∨ ((1 ≤ fr ∧ fr ≤ 1099511627776) ∧ e = .returned (.tuple #[.pointer q, .slice a 0 c, .int .i64 0, .int .i64 0])) := by
  refine (openD_any w D g _ h rfl rfl (by rw [new12_acts]; omega) (fun _ => none) (fun a ha => (new12_inv h.1).dsec ha) fr).mono ?_
  rintro e w' ⟨hk, (⟨h1, rfl⟩ | ⟨f, rfl, h2, h3, gl', pv', rfl, -, h5, -⟩)⟩
  · exact ⟨hk, _, _, _, .inl ⟨h1, rfl⟩⟩
  · rw [druns_none] at h5 ⊢
    obtain ⟨a, c, rfl⟩ := h5.form
    exact ⟨hk, _, _, _, .inr ⟨by omega, rfl⟩⟩

set_option maxRecDepth 100000 in
set_option maxRecDepth 100000 in
set_option maxHeartbeats 1000000 in
set_option maxHeartbeats 4000000 in
theorem deltaNilWalk (W : World) (fr : Int) (hfr : (Lit.int .i64 fr).wf = true) (sz : Int) (hsz : (Lit.int .i64 sz).wf = true) :
    Calls Try.prog 7 #[.int .i64 fr, .int .i64 sz] W fun e W' => e = .returned (.bool true) ∧ Below W.heap.size W W' := by
  have cN := fun w => (newDev_any 60 96 (by decide) w : Calls Try.prog 15 #[.int .i64 60, .int .i64 96] w _)
  have CN := Lib.hid cN
  clear cN
  go_enter Try.func7, Try.ntmps7
  go_wp2_with fail
  refine (restart_nil _).mono ?_
  rintro e w0 ⟨rfl, rfl⟩
  go_wp2_with fail
  refine (small12_any _).mono ?_
  rintro e w1 ⟨rfl, k1⟩
  go_wp2_with fail
  refine (formatD_nil _).mono ?_
  rintro e w2 ⟨k2, rfl⟩
  go_wp2_with fail
  refine (small12_any _).mono ?_
  rintro e w3 ⟨rfl, k3⟩
  go_wp2_with fail
  refine (openD_nil _ _).mono ?_
  rintro e w4 ⟨k4, rfl⟩
  go_wp2_with fail
  refine (CN.out _).mono ?_
  rintro e w5 ⟨g, D, rfl, hD, k5, hf⟩
  clear CN
  go_wp2_with fail
  refine (small12_any _).mono ?_
  rintro e w6 ⟨rfl, k6⟩
  have HO := Lib.hid (openD_new w6 D g (hD.keep k6 (by simp)) fr)
  clear hD hf
  go_wp2_with fail
  refine HO.out.mono ?_
  clear HO
  rintro e w7 ⟨k7, q, a7, c7, hor⟩
  have HK := Lib.hid (k1.trans (k2.trans (k3.trans (k4.trans (k5.trans (k6.trans k7))))))
  clear k1 k2 k3 k4 k5 k6 k7
  obtain ⟨P, hP, hor3⟩ : ∃ P : Int, (∀ w', Calls Try.prog 58 #[.int .i64 sz] w' fun e w'' => e = .returned (.int .i64 P) ∧ w' = w'') ∧ ((sz < 96 ∧ P = 0) ∨ (¬ sz < 96 ∧ 512 < sz ∧ P = 0) ∨ (¬ sz < 96 ∧ ¬ 512 < sz ∧ P = (sz - 28) / 21)) := by
    by_cases hs : 96 ≤ sz ∧ sz ≤ 512
    · exact ⟨(sz - 28) / 21, fun w' => per_any sz w' hs, .inr (.inr ⟨by omega, by omega, rfl⟩)⟩
    · refine ⟨0, fun w' => per_no sz w' hs, ?_⟩
      by_cases h1 : sz < 96
      · exact .inl ⟨h1, rfl⟩
      · exact .inr (.inl ⟨h1, by omega, rfl⟩)
  have CP := Lib.hid hP
  clear hP
  obtain ⟨E, hor4, hor2⟩ : ∃ E : Int, e = .returned (.tuple #[.pointer q, .slice a7 0 c7, .int .i64 0, .int .i64 E]) ∧ ((fr < 1 ∧ E = 1) ∨ (¬ fr < 1 ∧ 1099511627776 < fr ∧ E = 1) ∨ (¬ fr < 1 ∧ ¬ 1099511627776 < fr ∧ E = 0)) := by
    rcases hor with ⟨h1, h2⟩ | ⟨h1, h2⟩
    · refine ⟨1, h2, ?_⟩
      by_cases h3 : fr < 1
      · exact .inl ⟨h3, rfl⟩
      · exact .inr (.inl ⟨h3, by omega, rfl⟩)
    · exact ⟨0, h2, .inr (.inr ⟨by omega, by omega, rfl⟩)⟩
  clear hor
  subst hor4
  rcases hor2 with ⟨h1, rfl⟩ | ⟨h1, h2, rfl⟩ | ⟨h1, h2, rfl⟩ <;> rcases hor3 with ⟨h3, rfl⟩ | ⟨h3, h4, rfl⟩ | ⟨h3, h4, rfl⟩
  all_goals
    go_wp2_with fail
    refine (addDl_nil _ _ ⟨_, _, _, _, _, rfl⟩ _).mono ?_
    rintro e w8 ⟨rfl, k8⟩
    go_wp2_with fail
    refine (flushDl_nil _ _).mono ?_
    rintro e w9 ⟨rfl, k9⟩
    go_wp2_with fail
    refine (leftD_nil _).mono ?_
    rintro e w10 ⟨rfl, rfl⟩
    go_wp2_with fail
    refine (nextD_nil _).mono ?_
    rintro e w11 ⟨rfl, rfl⟩
    go_wp2_with fail
    refine (CP.out _).mono ?_
    rintro e w12 ⟨rfl, rfl⟩
    go_wp2_with fail
    refine (awake12_any _).mono ?_
    rintro e w13 ⟨rfl, k13⟩
    have HKK := Lib.hid (HK.out.trans (k8.trans (k9.trans k13)))
    clear k8 k9 k13
    go_wp2_with fail
    go_ret
    exact ⟨rfl, HKK.out.below (Nat.le_refl _) (by simp)⟩
end Go.Proofs.Ytijljdcpajjhhaa

/-! The row of DeltaNil, round its walk: what came in is opened, the walk is called, what came in reads as it did. -/
namespace Go.Proofs.Ytijljdcpajjhhaa.deltaNil
open Go.ChangeShapes Go.WideShapes Go.ChangeAt Go.RowKit Sg
open Go.ChangeMaps (open_string shut_string)
set_option linter.unusedVariables false

theorem own : ownKnob Try.prog.godebug = none := by kernel_rfl
theorem laidOut : laidOutB Try.prog = true := by kernel_rfl

set_option maxRecDepth 100000 in
theorem lifted (os : Os) (started : os.Started) (H : Type) (enc : TypeId × Value → H) :
    ReturnsInHanded {} Try.checked os 7 .any (Rows.deltaNilSpec.pre6 enc Try.prog Try.f7 Rows.deltaNilRow.domain false) (Rows.deltaNilSpec.post enc Try.prog Try.f7 false true false false) := by
  refine returnsInHanded_of_change_sized (C := Try.checked) own started (by kernel_rfl) Try.func7
    (ChangeSpec.witness6 (enc := enc) (C := Try.checked) false ⟨#[], #[.int .i64 0, .int .i64 0], []⟩ 8 (by kernel_rfl) (by kernel_rfl) (by kernel_rfl) (by kernel_rfl)) ?_
  intro W base args ds gs before hval0 hW _ hsz0 _
  have hsz : (DataW.weightsEach Try.prog (Try.f7.params.toList ++ Rows.deltaNilSpec.plain.varTypes Try.prog) (ds ++ gs)).all (· ≤ reachBytes) = true := hsz0
  clear hsz0
  have hval : ∀ (j : Nat) t v, Try.f7.params[j]? = some t → args[j]? = some v → Value.okWide Try.prog W .any base t v := hval0
  have hW' := hW
  obtain ⟨p, q, hA0, hV, rfl, hfz, hnd⟩ := hW
  have hA : DataW.TrodAll enc Try.prog W 0 (fun _ => true) true Try.f7.params.toList args.toList ds p := hA0
  rw [Try.params7] at hA hval hsz
  obtain ⟨v0, vs0, d0, ds0, p0, q0, hargs, rfl, rfl, h0, r0⟩ := trodAll_cons hA
  obtain ⟨v1, vs1, d1, ds1, p1, q1, rfl, rfl, rfl, h1, r1⟩ := trodAll_cons r0
  obtain ⟨rfl, rfl, rfl⟩ := trodAll_nil r1
  obtain rfl : args = #[v0, v1] := by cases args; simp_all
  obtain ⟨rfl, rfl⟩ := trodVars_none hV
  have k0 := h0
  have lt0 : ∀ x ∈ p0, x.block < W.heap.size := by obtain ⟨m, hm⟩ := k0; exact DataW.trod_lt m _ _ _ hm
  have k1 := h1
  have lt1 : ∀ x ∈ p1, x.block < W.heap.size := by obtain ⟨m, hm⟩ := k1; exact DataW.trod_lt m _ _ _ hm
  obtain ⟨a0, rfl, _, _, w0⟩ := open_int Try.underlying3 (hval 0 3 v0 rfl rfl) h0
  obtain ⟨a1, rfl, _, _, w1⟩ := open_int Try.underlying3 (hval 1 3 v1 rfl rfl) h1
  refine (deltaNilWalk W a0 w0 a1 w1).mono fun e W' ⟨he, bel⟩ => ?_
  subst he
  exact ⟨_, rfl, _, _, _, [], _, [], hW', trodAll_mk1 (shut_bool Try.underlying4 _), (trodAll_cons_mk (Below.trod laidOut (by kernel_rfl) (of_decide_eq_true (by kernel_rfl)) k0 bel lt0) (trodAll_cons_mk (Below.trod laidOut (by kernel_rfl) (of_decide_eq_true (by kernel_rfl)) k1 bel lt1) trodAll_mk0)), rfl, bel.frame _, fun h => by cases h⟩

theorem over : Rows.deltaNilRow.holds Try.pinned (OpenSpec.ofChange Rows.deltaNilSpec) :=
  OpenClaim.holds_of_wide 7 Try.f7 rfl rfl rfl rfl rfl rfl rfl ⟨rfl, rfl, rfl, rfl, rfl⟩ rfl rfl rfl rfl rfl (by kernel_rfl) Try.func7 (by kernel_rfl)
    (of_decide_eq_true (by kernel_rfl)) (by unfold Func.isWrapper; first | (rw [if_pos (by decide +kernel)]; kernel_rfl) | (rw [if_neg (by decide +kernel)]; exact ⟨rfl, rfl⟩))
    (fun os started H enc _ => lifted os started H enc)

/-- The statement. -/
theorem proved : Rows.DeltaNilSaid := over
end Go.Proofs.Ytijljdcpajjhhaa.deltaNil
