import Derived.Test.YtcmkcegnfddccaaActs11
/-! The walk of the law RegionWheres. -/
namespace Go.Proofs.Ytcmkcegnfddccaa
open Go.RowKit Go.Shelf Sg
attribute [local go_sem] Oper.semAt_some
set_option linter.unusedSimpArgs false
set_option linter.unusedVariables false

set_option maxRecDepth 100000 in
set_option maxHeartbeats 1000000 in
set_option maxHeartbeats 4000000 in
theorem regionWheresWalk (W : World) (v0 : Value) (l0 : List RAct) (hv : RActs W v0 l0) :
    Calls Try.prog 9 #[v0] W fun e W' => e = .returned (.bool true) ∧ Below W.heap.size W W' := by
  obtain ⟨va, vc, rfl, hlc, hlm, hcm⟩ := hv.form
  have HV := Lib.hid hv
  have cL := light11_any W _ l0 hv
  clear hv
  go_enter Try.func9, Try.ntmps9
  go_wp2_with fail
  refine cL.mono ?_
  clear cL
  rintro e w1 ⟨(⟨⟨h60, hsize⟩, rfl⟩ | ⟨-, rfl⟩), k1⟩
  case inr =>
    go_wp2
    go_ret
    exact ⟨rfl, k1.below (Nat.le_refl _) (by simp)⟩
  have HSZ := Lib.hid hsize
  clear hsize
  go_wp2_with fail
  refine (show Calls Try.prog 21 #[.int .i64 60, .int .i64 96] w1 _ from newDev_any 60 96 (by decide) w1).mono ?_
  rintro e w2 ⟨g, D, rfl, hD, k2, hf⟩
  go_wp2_with fail
  refine (small_any _).mono ?_
  rintro e w3 ⟨rfl, k3⟩
  have q1 : (lcOf smallP).R = 3 := rfl
  have q2 : (lcOf smallP).S * (lcOf smallP).rm = 154 := rfl
  have q5 : (lcOf smallP).rm = 77 := rfl
  have q3 : (lg0 smallP).at_ = 154 := rfl
  have q4 : (lg0 smallP).last = 0 := rfl
  have cF := format_ok (W := W) (X := []) w3 (k1.trans (k2.trans k3)) (hD.keep k3 (by simp)) (fun b hb => ⟨Nat.le_trans k1.size (hf b hb), by simp⟩) (by simp) smallP small_on
  generalize lcOf smallP = c at *
  generalize lg0 smallP = lg at *
  clear hD hf k1 k2 k3
  go_wp2_with fail
  refine cF.mono ?_
  clear cF
  rintro e w4 ⟨gl, rfl, h4, -⟩
  have ha0 : (Dev.new 60 96).acts = 0 := rfl
  generalize Dev.new 60 96 = m0 at *
  generalize (fun _ => ([] : List (List UInt8))) = F0 at *
  go_wp2
  go_loopw [5] (fun i wr => ∃ (k : Nat) (l : Lg) (m : Dev) (F : Nat → List (List UInt8)), k ≤ l0.length ∧ i = .int .i64 (k : Int) ∧ Hid (LogAt W [] wr gl g c l m F) ∧ l.last ≤ k ∧ m.acts ≤ k * 402) (fun i _ => l0.length - (intOf i).toNat)
  case atStart => exact ⟨0, lg, m0, F0, by omega, rfl, h4, by omega, by omega⟩
  case round =>
    clear h4 ha0
    obtain ⟨k, l, m, F, hk, rfl, hA, hlast, hacts⟩ := hrel
    by_cases hlt : k < l0.length
    case neg =>
      have hlt' : ¬ (k : Int) < (l0.length : Int) := by omega
      have HK := Lib.hid hA.out.k
      go_wp2_with fail
      refine (awake11_any _).mono ?_
      rintro e w5 ⟨rfl, k5⟩
      go_wp2
      go_ret
      exact ⟨rfl, (HK.out.trans k5).below (Nat.le_refl _) (by simp)⟩
    have hlt' : (k : Int) < (l0.length : Int) := by omega
    obtain ⟨b, o, rfl, hc⟩ := HV.out.spot hlt
    have hxk := HSZ.out k hlt
    have hxo := HV.out.each hlt
    obtain ⟨x, hx⟩ : ∃ x, l0[k] = x := ⟨_, rfl⟩
    rw [hx] at hc hxk hxo
    have HC := Lib.hid hc
    obtain ⟨p, hp⟩ : ∃ p, l.last * 154 + l.at_ = p := ⟨_, rfl⟩
    have hatl := hA.out.inv.atl
    rw [q2] at hatl
    have cW := where_ok wr hA.out
    rw [q2, hp] at cW
    have hp2 : p ≤ 60 * 154 + 154 := by omega
    obtain ⟨t, r, s1, s2, s3, s4, s5, s6, s7⟩ := kind7 x.kind
    clear hx hc
    go_wp2_with fail
    refine cW.mono ?_
    clear cW
    rintro e w5 ⟨rfl, k5⟩
    have h5 := hA.out.keep k5
    obtain ⟨c0, c1, c2, c3⟩ := HC.out w5 h5.k
    by_cases hr : r = 4
    case pos =>
      subst hr
      have cFl := flush_ok w5 h5 (by omega)
      clear c1 c2 c3
      go_wp2_with fail
      refine cFl.mono ?_
      clear cFl c0
      rintro e w6 ⟨l6, m6, F6, z, rfl, st, h6, -⟩
      have hz := st.zlt
      have e6 : l6.last * 154 + l6.at_ = p + z := by rw [st.last, st.at_]; omega
      have e7 : l6.last = l.last := st.last
      have e8 := st.acts
      rw [q5] at hz
      obtain ⟨p6, hp6⟩ : ∃ p6, p + z = p6 := ⟨_, rfl⟩
      have cW := fun w' (kk : Keep [] w6 w') => where_ok w' (h6.keep kk)
      rw [q2, e6, hp6] at cW
      have HW := Lib.hid cW
      have y1 : ¬ (p6 : Int) < (p : Int) := by omega
      have y2 : IntKind.i64.wrap ((p : Int) + 76) = (p : Int) + 76 := i64_wrap (by omega) (by omega)
      have y3 : ¬ (p : Int) + 76 < (p6 : Int) := by omega
      have H6 := Lib.hid h6
      clear st h6 hA h5 cW
      go_wp2_with fail
      refine (HW.out _ (Keep.refl _ _)).mono ?_
      rintro e w7 ⟨rfl, k7⟩
      go_wp2_with fail
      refine (HW.out _ k7).mono ?_
      rintro e w8 ⟨rfl, k8⟩
      go_wp2_with fail
      case roundEnd =>
        refine ⟨⟨k + 1, l6, m6, F6, by omega, by go_num, H6.out.keep (k7.trans k8), by omega, by omega⟩, ?_⟩
        simp [intOf]; omega
    case neg =>
      have y0 : (r == 4) = false := beq_false_of_ne hr
      have H5 := Lib.hid h5
      clear hA h5
      go_wp2_with fail
      refine (bytes11_any _ x (by omega)).mono ?_
      rintro e w6 ⟨v6, rfl, o6, k6⟩
      have h6 := H5.out.addV k6 o6
      have hbl : x.bs.length ≤ 1000 := by rw [x.bs_len]; omega
      clear c0 c1 c2 c3 H5 k6
      by_cases hok : 1 ≤ x.bs.length ∧ x.bs.length ≤ 154
      case neg =>
        have cA := append_no w6 h6 (by omega) (by omega) v6 x.bs (o6.bytes (by omega)) (fun y hy => List.mem_append_left _ (by rw [hy]; simp)) (by rw [q2]; omega)
        obtain ⟨code, hcode, hc0⟩ : ∃ code : Int, (if x.bs.length = 0 then (1 : Int) else 9) = code ∧ code ≠ 0 := ⟨_, rfl, by split <;> decide⟩
        rw [hcode] at cA
        have y1 : (code != 0) = true := bne_iff_ne.2 hc0
        clear hcode hc0 h6 o6
        go_wp2_with fail
        refine cA.mono ?_
        clear cA
        rintro e w7 ⟨rfl, h7, -⟩
        have h8 := h7.keep ((Keep.refl [] w7).alloc (.cells #[.int .i64 0, .int .i64 0, .int .i64 0] 101))
        have cW := where_ok _ h8
        rw [q2, hp] at cW
        have H8 := Lib.hid h8
        clear h7 h8
        go_wp2_with fail
        refine cW.mono ?_
        clear cW
        rintro e w9 ⟨rfl, k9⟩
        go_wp2_with fail
        case roundEnd =>
          refine ⟨⟨k + 1, l, m, F, by omega, by go_num, (H8.out.less (by simp)).keep k9, by omega, by omega⟩, ?_⟩
          simp [intOf]; omega
      case pos =>
        have cA := append_ok w6 h6 (by omega) (by omega) v6 x.bs (o6.bytes (by omega)) (fun y hy => List.mem_append_left _ (by rw [hy]; simp)) (by omega) (by rw [q2]; omega)
        obtain ⟨B, hB⟩ : ∃ B, x.bs = B := ⟨_, rfl⟩
        obtain ⟨n, hn⟩ : ∃ n, B.length = n := ⟨_, rfl⟩
        rw [hB] at cA hok hbl
        rw [hn] at cA hok hbl
        have HB := Lib.hid (And.intro hB hn)
        clear h6 o6 hB hn
        go_wp2_with fail
        refine cA.mono ?_
        clear cA
        rintro e w7 ⟨l7, m7, F7, a7, rfl, st, h7, -⟩
        have ew := st.way
        have ea := st.at_
        have eac := st.acts
        have elen := st.len
        have etail := st.tail
        rw [HB.out.2] at ew ea eac elen
        rw [q2] at ew
        have hread : c.read l7 m7 (l7.last : Int) (a7 : Int) (n : Int) = (B, 0) := by
          have := read_law h7.inv (q := l7.last) (at_ := a7) (size := n) (by unfold Lc.oldest; omega) (Nat.le_refl _) (by omega)
          rw [this, etail, ← HB.out.2, List.take_length]
        have hat7 := h7.inv.atl
        rw [q2] at hat7
        obtain ⟨p7, hp7⟩ : ∃ p7, l7.last * 154 + l7.at_ = p7 := ⟨_, rfl⟩
        have hpp : p + n ≤ p7 ∧ p7 = l7.last * 154 + a7 + n ∧ p7 ≤ 70 * 154 ∧ l7.last ≤ k + 1 ∧ m7.acts ≤ (k + 1) * 402 ∧ 1 ≤ l7.last := by omega
        obtain ⟨z1, z2, z3, z4, z5, z6⟩ := hpp
        obtain ⟨LL, hLL⟩ : ∃ LL, l7.last = LL := ⟨_, rfl⟩
        have hA8 := heap_alloc_new w7 (.cells #[.int .i64 (LL : Int), .int .i64 (a7 : Int), .int .i64 (n : Int)] 101)
        have h8 := h7.keep ((Keep.refl [] w7).alloc (.cells #[.int .i64 (LL : Int), .int .i64 (a7 : Int), .int .i64 (n : Int)] 101))
        have cR := read_ok _ h8 (by omega) (l7.last : Int) (a7 : Int) (n : Int)
        rw [hread] at cR
        rw [hLL] at cR z2 z4 z6 hp7 ⊢
        have HLL := Lib.hid hLL
        have HP7 := Lib.hid hp7
        have HZ2 := Lib.hid (And.intro z1 z2)
        clear z1 z2
        have H8 := Lib.hid (And.intro h8 hA8)
        clear st h7 ew ea eac elen etail hread hat7 hA8 h8 hp7 hLL
        go_wp2_with fail
        refine cR.mono ?_
        clear cR
        rintro e w9 ⟨v9, rfl, o9, k9⟩
        have h9 := H8.out.1.keep k9
        have A9 := k9.blk (by simp) H8.out.2
        have b9 := o9.bytes (by rw [HB.out.2]; omega)
        have H9 := Lib.hid (And.intro h9 (And.intro A9 b9))
        clear h9 A9 o9 b9 k9
        rw [show ((0 : Nat) : Int) = 0 from rfl]
        go_wp2_with fail
        refine wp_region_his [] [9, 15, 26, 33, 38] (fun j => if j = 10 then 10 else 0) (by kernel_rfl) (by kernel_rfl) ?_
        intro w10 hk10 hh
        clear hh
        have h10 := H9.out.1.keep hk10
        have A10 := hk10.blk (by simp) H9.out.2.1
        have b10 := H9.out.2.2.keep hk10 (by simp)
        have g := fun w' (h : Keep [] w10 w') => HC.out w' (h10.k.trans h)
        have c0 := fun w' h => (g w' h).1
        have c1 := fun w' h => (g w' h).2.1
        have c2 := fun w' h => (g w' h).2.2.1
        have c3 := fun w' h => (g w' h).2.2.2
        have p0 := fun w' (h : Keep [] w10 w') => cell_of_row w' _ 0 _ _ _ (h.blk (by simp) A10)
        have p1 := fun w' (h : Keep [] w10 w') => cell_of_row w' _ 1 _ _ _ (h.blk (by simp) A10)
        have p2 := fun w' (h : Keep [] w10 w') => cell_of_row w' _ 2 _ _ _ (h.blk (by simp) A10)
        have hq9 : ∀ w', Keep [] w10 w' → Sem.run Try.prog (convert 23 9 v9) w' = .ok (.string ⟨B.toArray⟩) w' := fun w' h => run_str (P := Try.prog) 23 9 5 Try.underlying23 Try.underlying5 Try.underlying9 (b10.keep h (by simp))
        simp at p0 p1 p2
        have cWh := fun w' (h : Keep [] w10 w') => where_ok w' (h10.keep h)
        rw [q2, HLL.out, HP7.out] at cWh
        have cOl := fun w' (h : Keep [] w10 w') => oldest_ok w' (h10.keep h)
        obtain ⟨ol, hol⟩ : ∃ ol, c.oldest l7 = ol := ⟨_, rfl⟩
        rw [hol] at cOl
        obtain ⟨z1, z2⟩ := HZ2.out
        have hol2 : ol ≤ LL := by rw [← hol, ← HLL.out]; unfold Lc.oldest; have := HLL.out; omega
        have cLa := fun w' (h : Keep [] w10 w') => last_ok w' (h10.keep h)
        rw [HLL.out] at cLa
        have hbs : ∀ w', Calls Try.prog 59 #[.agg #[.int .i64 x.kind, .int .i64 x.size, .int .i64 x.n, .int .u8 (x.b.toNat : Int)]] w' fun e w2 => ∃ v, e = .returned v ∧ OwnB w2 w'.heap.size 5 v B ∧ Keep [] w' w2 := fun w' => by
          have := bytes11_any w' x (by omega)
          rwa [HB.out.1] at this
        have HH := Lib.hid (And.intro cWh (And.intro cOl (And.intro cLa (And.intro hbs h10))))
        obtain ⟨M, hM⟩ : ∃ M, LL * 154 = M := ⟨_, rfl⟩
        have y0' : (LL : Int) * 154 = (M : Int) := by omega
        have y1 : IntKind.i64.wrap (M : Int) = (M : Int) := i64_wrap (by omega) (by omega)
        obtain ⟨N2, hN2⟩ : ∃ N2, M + a7 = N2 := ⟨_, rfl⟩
        have y2 : IntKind.i64.wrap ((M : Int) + (a7 : Int)) = (N2 : Int) := by rw [i64_wrap (by omega) (by omega)]; omega
        have y3 : IntKind.i64.wrap ((N2 : Int) + (n : Int)) = (p7 : Int) := by rw [i64_wrap (by omega) (by omega)]; omega
        clear hN2
        have y4 : IntKind.i64.wrap ((p : Int) + (n : Int)) = (p : Int) + (n : Int) := i64_wrap (by omega) (by omega)
        have y5 : ¬ (p7 : Int) < (p : Int) + (n : Int) := by omega
        have y6 : ¬ (LL : Int) < (ol : Int) := by omega
        clear hol g A10 b10 cWh cOl cLa hbs h10 hM hk10 z1 z2
        (repeat (first | (refine his_q rfl rfl (fun K hK => ?_); apply Exists.intro; refine ⟨fun w' hC => ?_, ?_⟩; ((try simp [Sg.upd] at hC); go_simp <;> rfl); go_simp; refine hK _ _ ?_; clear hK K) | (refine his_s rfl (fun K hK => ?_); go_simp; refine hK _ _ ?_; clear hK K)))
        (refine his_l rfl rfl (fun K hK => ?_); go_simp)
        refine (HH.out.2.2.2.1 _).mono ?_
        rintro e w11 ⟨v11, rfl, o11, k11⟩
        have b11 := o11.bytes (by rw [HB.out.2]; omega)
        have hq11 : ∀ w', Keep [] w11 w' → Sem.run Try.prog (convert 23 9 v11) w' = .ok (.string ⟨B.toArray⟩) w' := fun w' h => run_str (P := Try.prog) 23 9 5 Try.underlying23 Try.underlying5 Try.underlying9 (b11.keep h (by simp))
        refine hK _ _ k11 ?_
        clear hK K o11 b11 c0 c1 c2 c3
        have K11 := Lib.hid k11
        clear k11
        (repeat (first | (refine his_q rfl rfl (fun K hK => ?_); apply Exists.intro; refine ⟨fun w' hC => ?_, ?_⟩; ((try simp [Sg.upd] at hC); go_simp <;> rfl); go_simp; refine hK _ _ ?_; clear hK K) | (refine his_s rfl (fun K hK => ?_); go_simp; refine hK _ _ ?_; clear hK K)))
        (refine his_l rfl rfl (fun K hK => ?_); go_simp)
        refine (HH.out.1 _ K11.out).mono ?_
        rintro e w12 ⟨rfl, k12⟩
        refine hK _ _ k12 ?_
        clear hK K
        have K12 := Lib.hid (K11.out.trans k12)
        clear k12
        (repeat (first | (refine his_q rfl rfl (fun K hK => ?_); apply Exists.intro; refine ⟨fun w' hC => ?_, ?_⟩; ((try simp [Sg.upd] at hC); go_simp <;> rfl); go_simp; refine hK _ _ ?_; clear hK K) | (refine his_s rfl (fun K hK => ?_); go_simp; refine hK _ _ ?_; clear hK K)))
        (refine his_l rfl rfl (fun K hK => ?_); go_simp)
        refine (HH.out.2.2.1 _ K12.out).mono ?_
        rintro e w13 ⟨rfl, rfl⟩
        refine hK _ _ (Keep.refl _ _) ?_
        clear hK K
        (repeat (first | (refine his_q rfl rfl (fun K hK => ?_); apply Exists.intro; refine ⟨fun w' hC => ?_, ?_⟩; ((try simp [Sg.upd] at hC); go_simp <;> rfl); go_simp; refine hK _ _ ?_; clear hK K) | (refine his_s rfl (fun K hK => ?_); go_simp; refine hK _ _ ?_; clear hK K)))
        (refine his_l rfl rfl (fun K hK => ?_); go_simp)
        refine (HH.out.2.1 _ K12.out).mono ?_
        rintro e w14 ⟨rfl, k14⟩
        refine hK _ _ k14 ?_
        clear hK K
        have K14 := Lib.hid (K12.out.trans k14)
        clear k14
        (repeat (first | (refine his_q rfl rfl (fun K hK => ?_); apply Exists.intro; refine ⟨fun w' hC => ?_, ?_⟩; ((try simp [Sg.upd] at hC); go_simp <;> rfl); go_simp; refine hK _ _ ?_; clear hK K) | (refine his_s rfl (fun K hK => ?_); go_simp; refine hK _ _ ?_; clear hK K)))
        (refine his_l rfl rfl (fun K hK => ?_); go_simp)
        refine (HH.out.1 _ K14.out).mono ?_
        rintro e w15 ⟨rfl, k15⟩
        refine hK _ _ k15 ?_
        clear hK K
        have K15 := Lib.hid (K14.out.trans k15)
        clear k15
        (repeat (first | (refine his_q rfl rfl (fun K hK => ?_); apply Exists.intro; refine ⟨fun w' hC => ?_, ?_⟩; ((try simp [Sg.upd] at hC); go_simp <;> rfl); go_simp; refine hK _ _ ?_; clear hK K) | (refine his_s rfl (fun K hK => ?_); go_simp; refine hK _ _ ?_; clear hK K)))
        refine his_nil ?_
        clear p0 p1 p2 hq9 hq11
        go_wp2_with fail
        case roundEnd =>
          refine ⟨⟨k + 1, l7, m7, F7, by omega, by go_num, (HH.out.2.2.2.2.less (by simp)).keep K15.out, ?_, by omega⟩, ?_⟩
          · rw [HLL.out]; omega
          · simp [intOf]; omega
end Go.Proofs.Ytcmkcegnfddccaa
