import Derived.Test.YtjkjiabfhhnngaaWheel6
/-! Wheel's move and Go. -/
namespace Sg
open Go Go.RowKit
/-- is a place cleared by the rings from q on? -/
def clr (t u q k : Nat) : Bool := (List.range 6).any (fun r => decide (q ≤ r) && decide (t / 64 ^ (r + 1) ≠ u / 64 ^ (r + 1)) && decide (cl u r = k))
theorem clr_iff {t u q k : Nat} : clr t u q k = true ↔ ∃ r, r < 6 ∧ q ≤ r ∧ t / 64 ^ (r + 1) ≠ u / 64 ^ (r + 1) ∧ cl u r = k := by
  unfold clr
  rw [List.any_eq_true]
  simp only [List.mem_range, Bool.and_eq_true, decide_eq_true_iff, and_assoc]
theorem cl_inj {u r s : Nat} (hr : r < 6) (hs : s < 6) (h : cl u r = cl u s) : r = s := by
  have m1 := Nat.mod_lt (u / 64 ^ (r + 1)) (show 0 < 64 by omega)
  have m2 := Nat.mod_lt (u / 64 ^ (s + 1)) (show 0 < 64 by omega)
  unfold cl at h
  split at h <;> split at h <;> omega
theorem clr_same {t u r : Nat} (h : t / 64 ^ (r + 1) = u / 64 ^ (r + 1)) : clr t u r = clr t u (r + 1) := by
  funext k
  rw [Bool.eq_iff_iff, clr_iff, clr_iff]
  constructor
  · rintro ⟨s, h1, h2, h3, h4⟩
    refine ⟨s, h1, ?_, h3, h4⟩
    rcases Nat.eq_or_lt_of_le h2 with rfl | h5
    · exact absurd h h3
    · exact h5
  · rintro ⟨s, h1, h2, h3, h4⟩
    exact ⟨s, h1, by omega, h3, h4⟩
theorem clr_new {t u r : Nat} (hr : r < 6) (h : t / 64 ^ (r + 1) ≠ u / 64 ^ (r + 1)) (k : Nat) : clr t u r k = (clr t u (r + 1) k || decide (cl u r = k)) := by
  rw [Bool.eq_iff_iff, Bool.or_eq_true, clr_iff, clr_iff, decide_eq_true_iff]
  constructor
  · rintro ⟨s, h1, h2, h3, h4⟩
    rcases Nat.eq_or_lt_of_le h2 with rfl | h5
    · exact .inr h4
    · exact .inl ⟨s, h1, h5, h3, h4⟩
  · rintro (⟨s, h1, h2, h3, h4⟩ | h4)
    · exact ⟨s, h1, by omega, h3, h4⟩
    · exact ⟨r, hr, Nat.le_refl _, h, h4⟩
theorem clr_fresh {t u r : Nat} (hr : r < 6) : clr t u (r + 1) (cl u r) = false := by
  rw [Bool.eq_false_iff]
  intro h
  obtain ⟨s, h1, h2, -, h4⟩ := clr_iff.1 h
  have := cl_inj h1 hr h4
  omega
theorem clr_end (t u k : Nat) : clr t u 6 k = false := by
  rw [Bool.eq_false_iff]
  intro h
  obtain ⟨s, h1, h2, -⟩ := clr_iff.1 h
  omega
def intE (n : Int) : List Value := [.int .i64 n]
theorem intLies : Lies intE 1 := ⟨fun _ => rfl, fun x u hu => by
  simp [intE] at hu
  rw [hu]
  rfl⟩
end Sg

namespace Go.Proofs.Ytjkjiabfhhnngaa
open Go.RowKit Go.Shelf Sg
open Go.Maps (int_keyed keyOf_int_mk)
set_option linter.unusedSimpArgs false
set_option linter.unusedVariables false

theorem int_infoF : (Try.prog.info? 3).map (fun i => (i.zero, i.size, i.bytes)) = some (some (.int .i64 0), 1, 8) := by kernel_rfl

/-- of the first loop of move: what the places from ring q on held is to be laid again -/
def stS (t u : Nat) (l : List (Int × Nat)) (q k : Nat) (a : Int) : Bool := inP t l k a && !clr t u q k
structure MvR (w wr : World) (D : List Nat) (g dm : Nat) (blk : Nat → Nat) (m : Wm) (u q : Nat) (v : Value) (A : List Int) : Prop where
  at_ : WhAt wr D g m.time dm blk (dueF m.ths) (m.ths.map (·.1)) (stS m.time u m.ths q)
  keep : Keep D w wr
  row : RowE intE 1 3 wr w.heap.size v A
  nd : A.Nodup
  mem : ∀ a, a ∈ A ↔ ∃ k, k ≤ 384 ∧ clr m.time u q k = true ∧ inP m.time m.ths k a = true

set_option maxRecDepth 100000 in
set_option maxHeartbeats 1000000 in
set_option maxHeartbeats 8000000 in
theorem move_any (w : World) (D : List Nat) (g : Nat) (m : Wm) (h : WV w D g m) (u : Nat) (h1 : m.time ≤ u) (h2 : ∀ p ∈ m.ths, u ≤ p.2) (h3 : u ≤ top48) :
    Calls Try.prog 115 #[.pointer (some ⟨g, 0, none⟩), .int .i64 (u : Int)] w fun e w' => e = .returned (.tuple #[]) ∧ WV w' D g { m with time := u } ∧ Keep D w w' := by
  obtain ⟨hw, dm, blk, h⟩ := h
  have c0 := h.c0
  have ht := hw.t
  have hfew := hw.few
  have h0 : MvR w w D g dm blk m u 6 (.slice none 0 0) [] := by
    have e : stS m.time u m.ths 6 = inP m.time m.ths := by
      funext k a
      unfold stS
      rw [clr_end]
      simp
    refine ⟨by rw [e]; exact h, Keep.refl _ _, RowE.nil, List.nodup_nil, fun a => ?_⟩
    constructor
    · intro h; cases h
    · rintro ⟨k, -, h, -⟩
      rw [clr_end] at h
      cases h
  have H0 := Lib.hid h0
  have H2 := Lib.hid h2
  have hlt : ∀ b ∈ D, b < w.heap.size := h.lt
  have HLT := Lib.hid hlt
  have kz := int_keyed (P := Try.prog) Try.underlying3
  clear h h0 h2 hlt
  unfold top48 at ht h3
  go_enter Try.func115, Try.ntmps115
  go_wp2
  go_loopw [5, 6] (fun v i wr => ∃ (q : Nat) (A : List Int), q ≤ 6 ∧ ((q = 0 ∧ i = .int .i64 (-1)) ∨ ∃ r : Nat, q = r + 1 ∧ i = .int .i64 (r : Int)) ∧ Hid (MvR w wr D g dm blk m u q v A)) (fun _ i _ => (intOf i + 1).toNat)
  case atStart => exact ⟨6, [], by omega, .inr ⟨5, rfl, rfl⟩, H0⟩
  case round =>
    clear H0 c0
    obtain ⟨q, A, hq, hor, HR⟩ := hrel
    rcases hor with ⟨rfl, rfl⟩ | ⟨r, rfl, rfl⟩
    · have HR0 := HR
      obtain ⟨va, vc, rfl⟩ := HR.out.row.form
      have hf := HR.out.at_.free 0
      have c0 := HR.out.at_.c0
      have hAl := nodup_sub HR.out.nd (fun a ha => by
        obtain ⟨k, -, -, hx⟩ := (HR.out.mem a).1 ha
        obtain ⟨p, hp, rfl, -⟩ := inP_iff.1 hx
        exact List.mem_map.2 ⟨p, hp, rfl⟩) hw.nd
      rw [List.length_map] at hAl
      have hAt := HR.out.at_.timeTurn u
      have hgD := HR.out.at_.inG
      have hrow : RowE intE 1 3 _ w.heap.size (.slice va A.length vc) A := HR.out.row.keep ((Keep.refl [g] _).setCell (p := ⟨g, 0, none⟩) (.inl (by simp)) (.int .i64 (u : Int))) (fun b hb hm => by
        rw [List.mem_singleton] at hm
        have := (HR.out.row.lt b hb).1
        have := HLT.out g hgD
        omega)
      have hkk : Keep D w _ := HR.out.keep.setCell (p := ⟨g, 0, none⟩) (.inl hgD) (.int .i64 (u : Int))
      have hS0 : stS m.time u m.ths 0 = fun k a => stS m.time u m.ths 0 k a || (decide (a ∈ A.take 0) && inP u m.ths k a) := by
        funext k a
        simp
      rw [hS0] at hAt
      have H3 := Lib.hid (And.intro hAt (And.intro hkk hrow))
      clear hAt hkk hrow hS0
      go_wp2
      go_loopw [66] (fun i wr' => ∃ (j : Nat), j ≤ A.length ∧ i = .int .i64 (j : Int) ∧ Hid (WhAt wr' D g u dm blk (dueF m.ths) (m.ths.map (·.1)) (fun k a => stS m.time u m.ths 0 k a || (decide (a ∈ A.take j) && inP u m.ths k a)) ∧ Keep D w wr' ∧ RowE intE 1 3 wr' w.heap.size (.slice va A.length vc) A))
        (fun i _ => A.length - (intOf i).toNat)
      case atStart => exact ⟨0, by omega, rfl, H3⟩
      case round =>
        clear H3 hf c0
        obtain ⟨j, hj, rfl, HI⟩ := hrel
        by_cases hlj : j < A.length
        · have t2 : (j : Int) < (A.length : Int) := by omega
          obtain ⟨gq, rfl, hgq, hcq⟩ := RowE.cells intLies HI.out.2.2 hlj
          obtain ⟨x, hx⟩ : ∃ x, A[j] = x := ⟨_, rfl⟩
          rw [hx] at hcq
          have y0 := hcq 0 (.int .i64 x) rfl
          simp only [Nat.mul_one, Nat.add_zero] at y0
          have hxA : x ∈ A := by rw [← hx]; exact List.getElem_mem _
          obtain ⟨k1, -, -, hx1⟩ := (HR0.out.mem x).1 hxA
          obtain ⟨p, hp, hpx, -⟩ := inP_iff.1 hx1
          obtain ⟨n, a⟩ := p
          simp only at hpx
          subst hpx
          have hwx := hw.rng _ hp
          have hfx := dueF_of hw hp
          have hlo := hw.lo _ hp
          simp only at hwx hfx hlo
          have c1 := HI.out.1.c1
          have ql := HI.out.1.due.look Try.underlying3 Try.underlying214 (zero_int _) n hwx
          rw [hfx] at ql
          simp only [Option.getD_some] at ql
          have hat := at_any _ D g u dm blk _ _ _ HI.out.1 h3 a hlo.2
          have hjp := plc_le u a
          obtain ⟨jp, hje⟩ : ∃ j, plc u a = j := ⟨_, rfl⟩
          rw [hje] at hat hjp
          have HX := Lib.hid (And.intro hx (And.intro hp (And.intro hje hxA)))
          clear hx hp hje hxA hx1 hcq
          go_wp2_with fail
          refine hat.mono ?_
          clear hat ql c1 y0
          rintro e w3 ⟨rfl, hk3⟩
          have h4 := HI.out.1.keep hk3 (by simp)
          obtain ⟨ks, hm⟩ := h4.maps jp hjp
          have hfw := h4.fewer hjp hm
          rw [List.length_map] at hfw
          obtain ⟨w4, hrun, hm4, hk4, hs4⟩ := hm.store Try.underlying3 Try.underlying216 n hwx (by omega) (.bool true)
          have htk : ∀ b, b ∈ A.take (j + 1) ↔ b ∈ A.take j ∨ b = n := fun b => by
            rw [List.take_succ_eq_append_getElem hlj, List.mem_append, HX.out.1, List.mem_singleton]
          have h5 := h4.turn hjp hk4 (S' := fun k a => stS m.time u m.ths 0 k a || (decide (a ∈ A.take (j + 1)) && inP u m.ths k a)) (ks := n :: ks.filter (fun i => decide (i ≠ n))) (hm4.congr fun b => by
            by_cases hb : b = n
            · subst hb
              have e1 : decide (b ∈ A.take (j + 1)) = true := by simpa using (htk b).2 (.inr rfl)
              have e2 : inP u m.ths jp b = true := inP_iff.2 ⟨_, HX.out.2.1, rfl, HX.out.2.2.1⟩
              have e3 : (stS m.time u m.ths 0 jp b || (decide (b ∈ A.take (j + 1)) && inP u m.ths jp b)) = true := by rw [e1, e2]; simp
              exact (if_pos e3).trans (if_pos rfl).symm
            · have e1 : decide (b ∈ A.take (j + 1)) = decide (b ∈ A.take j) := by
                rw [Bool.eq_iff_iff, decide_eq_true_iff, decide_eq_true_iff, htk b]
                simp [hb]
              have e3 : (stS m.time u m.ths 0 jp b || (decide (b ∈ A.take (j + 1)) && inP u m.ths jp b)) = (stS m.time u m.ths 0 jp b || (decide (b ∈ A.take j) && inP u m.ths jp b)) := by rw [e1]
              exact (congrArg (fun c : Bool => if c = true then some (Value.bool true) else none) e3).trans (if_neg hb).symm) (fun i hi hne => by
            funext b
            by_cases hb : b = n
            · subst hb
              have e2 : inP u m.ths i b = false := by
                rw [Bool.eq_false_iff]
                intro hh
                obtain ⟨q, hq, eq1, eq2⟩ := inP_iff.1 hh
                have := nd_eq hw.nd hq HX.out.2.1 eq1
                subst this
                exact hne (eq2.symm.trans HX.out.2.2.1)
              simp [e2]
            · have e1 : decide (b ∈ A.take (j + 1)) = decide (b ∈ A.take j) := by
                rw [Bool.eq_iff_iff, decide_eq_true_iff, decide_eq_true_iff, htk b]
                simp [hb]
              simp only [e1]) (fun b hb => by
            rw [Bool.or_eq_true] at hb
            rcases hb with hb | hb
            · unfold stS at hb
              rw [Bool.and_eq_true] at hb
              obtain ⟨q, hq, rfl, -⟩ := inP_iff.1 hb.1
              exact List.mem_map.2 ⟨q, hq, rfl⟩
            · rw [Bool.and_eq_true] at hb
              obtain ⟨q, hq, rfl, -⟩ := inP_iff.1 hb.2
              exact List.mem_map.2 ⟨q, hq, rfl⟩)
          have hkk : Keep D w w4 := (HI.out.2.1.trans (hk3.mono (by simp))).trans (hk4.mono (by simp; exact h4.inB jp hjp))
          have hrr := (HI.out.2.2.keep hk3 (by simp)).keep hk4 (fun b hb hmm => by
            rw [List.mem_singleton] at hmm
            have h6 := (HI.out.2.2.lt b hb).1
            have h7 := HLT.out _ (h4.inB jp hjp)
            omega)
          have HN := Lib.hid (And.intro h5 (And.intro hkk hrr))
          clear h5 hkk hrr hm4 hk4 hs4 hm h4 hk3 htk hfw
          go_wp2
          go_roundw
          case rel => exact ⟨j + 1, by omega, by go_num, HN⟩
          case measure => simp [intOf]; omega
        · obtain rfl : j = A.length := by omega
          have hfin := HI.out.1
          have hS : (fun k a => stS m.time u m.ths 0 k a || (decide (a ∈ A.take A.length) && inP u m.ths k a)) = inP u m.ths := by
            funext k a
            rw [Bool.eq_iff_iff, Bool.or_eq_true, Bool.and_eq_true, decide_eq_true_iff, List.take_length]
            unfold stS
            rw [Bool.and_eq_true]
            have stay : ∀ p ∈ m.ths, clr m.time u 0 (plc m.time p.2) = false → plc u p.2 = plc m.time p.2 := fun p hp hc => by
              refine Decidable.byContradiction fun hne => ?_
              obtain ⟨r, e1, e2, e3⟩ := plc_move h1 (H2.out p hp) (fun e => hne e.symm)
              have := clr_iff.2 ⟨r, e1, Nat.zero_le _, e2, e3.symm⟩
              rw [hc] at this
              cases this
            constructor
            · rintro (⟨h4, h5⟩ | ⟨-, h5⟩)
              · obtain ⟨p, hp, rfl, e⟩ := inP_iff.1 h4
                refine inP_iff.2 ⟨p, hp, rfl, ?_⟩
                rw [stay p hp (by rw [e]; simpa using h5), e]
              · exact h5
            · intro h4
              obtain ⟨p, hp, rfl, e⟩ := inP_iff.1 h4
              cases hc : clr m.time u 0 (plc m.time p.2) with
              | true => exact .inr ⟨(HR0.out.mem p.1).2 ⟨_, plc_le _ _, hc, inP_iff.2 ⟨p, hp, rfl, rfl⟩⟩, h4⟩
              | false =>
                have h5 := stay p hp hc
                refine .inl ⟨inP_iff.2 ⟨p, hp, rfl, by rw [← h5, e]⟩, ?_⟩
                rw [← e, h5, hc]
                rfl
          rw [hS] at hfin
          have HF := Lib.hid (And.intro hfin HI.out.2.1)
          clear hfin hS
          go_wp2
          go_end0
          refine ⟨rfl, ⟨⟨hw.ord, hw.nd, fun p hp => ⟨H2.out p hp, (hw.lo p hp).2⟩, hw.rng, h3, hw.few⟩, dm, blk, HF.out.1⟩, HF.out.2⟩
    · have t1 : (0 : Int) ≤ (r : Int) := by omega
      have hat := HR.out.at_
      obtain ⟨qt, hqt⟩ : ∃ q, m.time / 64 ^ (r + 1) = q := ⟨_, rfl⟩
      obtain ⟨qu, hqu⟩ : ∃ q, u / 64 ^ (r + 1) = q := ⟨_, rfl⟩
      have sh1 : (m.time : Int) / 2 ^ (6 * ((r : Int) + 1)).toNat = (qt : Int) := div_pow m.time (r + 1) hqt
      have sh2 : (u : Int) / 2 ^ (6 * ((r : Int) + 1)).toNat = (qu : Int) := div_pow u (r + 1) hqu
      by_cases hqq : qt = qu
      · have t2 : ((qt : Int) == (qu : Int)) = true := by simp [hqq]
        have HN : Hid (MvR w _ D g dm blk m u r _ A) := Lib.hid (by
          have e : clr m.time u (r + 1) = clr m.time u r := (clr_same (by rw [hqt, hqu, hqq])).symm
          have hR := HR.out
          exact ⟨by have := hR.at_; unfold stS at this ⊢; rw [e] at this; exact this, hR.keep, hR.row, hR.nd, by have := hR.mem; rw [e] at this; exact this⟩)
        clear hqt hqu hat
        go_wp2_with fail
        refine wp_region_his [] [] (fun _ => 0) (by kernel_rfl) (by kernel_rfl) ?_
        intro w2 hk2 hx
        clear hx
        (repeat (first | (refine his_q rfl rfl (fun K hK => ?_); apply Exists.intro; refine ⟨fun w' hC => ?_, ?_⟩; ((try simp [Sg.upd] at hC); go_simp <;> rfl); go_simp; refine hK _ _ ?_; clear hK K) | (refine his_s rfl (fun K hK => ?_); go_simp; refine hK _ _ ?_; clear hK K)))
        refine his_nil ?_
        have HN2 : Hid (MvR w w2 D g dm blk m u r _ A) := Lib.hid ⟨HN.out.at_.keep hk2 (by simp), HN.out.keep.trans (hk2.mono (by simp)), HN.out.row.keep hk2 (by simp), HN.out.nd, HN.out.mem⟩
        clear HN hk2
        go_wp2
        go_roundw
        case rel =>
          refine ⟨r, A, by omega, ?_, HN2⟩
          cases r with
          | zero => exact .inl ⟨rfl, by go_num⟩
          | succ r' => exact .inr ⟨r', rfl, by go_num⟩
        case measure => simp [intOf]
      · have t2 : ((qt : Int) == (qu : Int)) = false := by simpa using fun e => hqq (by omega)
        have hne : m.time / 64 ^ (r + 1) ≠ u / 64 ^ (r + 1) := by rw [hqt, hqu]; exact hqq
        have hr6 : r < 6 := by omega
        have hfr := clr_fresh (t := m.time) (u := u) hr6
        obtain ⟨k0, hk0e⟩ : ∃ k, cl u r = k := ⟨_, rfl⟩
        rw [hk0e] at hfr
        have hk0 : k0 ≤ 384 := by rw [← hk0e]; exact cl_le _ _
        go_wp2_with fail
        refine wp_region_his [] [] (fun _ => 0) (by kernel_rfl) (by kernel_rfl) ?_
        intro w1 hk1 hx
        clear hx
        (repeat (first | (refine his_q rfl rfl (fun K hK => ?_); apply Exists.intro; refine ⟨fun w' hC => ?_, ?_⟩; ((try simp [Sg.upd] at hC); go_simp <;> rfl); go_simp; refine hK _ _ ?_; clear hK K) | (refine his_s rfl (fun K hK => ?_); go_simp; refine hK _ _ ?_; clear hK K)))
        refine his_nil ?_
        have hat1 := hat.keep hk1 (by simp)
        have c384 := hat1.ck 384 (by omega)
        by_cases hr5 : r + 1 < 6
        · have t5 : (r : Int) + 1 < 6 := by omega
          obtain ⟨ku, hku⟩ : ∃ q, qu % 64 = q := ⟨_, rfl⟩
          have hm : ((qu : Int).tmod 64) = (ku : Int) := by rw [Int.tmod_eq_emod_of_nonneg (by omega)]; omega
          have hku64 : ku < 64 := by omega
          have hkul : (ku : Int) < 64 := by omega
          obtain ⟨r1, hr1⟩ : ∃ r1, r + 1 = r1 := ⟨_, rfl⟩
          have hwr : IntKind.i64.wrap ((r : Int) + 1) = (r1 : Int) := by rw [i64_wrap (by omega) (by omega)]; omega
          have hrl : (r1 : Int) < 6 := by omega
          have ek0 : k0 = r1 * 64 + ku := by
            rw [← hk0e]
            unfold cl
            rw [if_pos hr5, hqu, hku]
            omega
          have ck := hat1.ck k0 hk0
          rw [show 2 + k0 = 2 + r1 * 64 + ku by omega] at ck
          have hfresh := hfr
          have HEK := Lib.hid ek0
          clear hku ek0 hfr hqt hqu hqq hr1
          go_wp2_with fail
          refine wp_region_his [] [] (fun _ => 0) (by kernel_rfl) (by kernel_rfl) ?_
          intro w2 hk2 hx
          clear hx
          have qk := fun w' (h' : Keep [] w2 w') => (hk2.trans h').cell (p := ⟨g, 2 + r1 * 64 + ku, none⟩) (by simp) ck
          (repeat (first | (refine his_q rfl rfl (fun K hK => ?_); apply Exists.intro; refine ⟨fun w' hC => ?_, ?_⟩; ((try simp [Sg.upd] at hC); go_simp <;> rfl); go_simp; refine hK _ _ ?_; clear hK K) | (refine his_s rfl (fun K hK => ?_); go_simp; refine hK _ _ ?_; clear hK K)))
          refine his_nil ?_
          have hk12 := hk1.trans hk2
          have hat2 := hat.keep hk12 (by simp)
          have hR2k := HR.out.keep.trans (hk12.mono (T := D) (by simp))
          have hR2r := HR.out.row.keep hk12 (by simp)
          clear qk ck c384 hat1 hat hk1 hk2 hk12 sh1 sh2 hm hwr hrl
          obtain ⟨ks, hm⟩ := hat2.maps k0 hk0
          obtain ⟨D0, hown, hsz, hat0, hin0, hhas⟩ := hm.few Try.underlying3
          have hksub := hat2.fewer hk0 hm
          rw [List.length_map] at hksub
          have hks : ∀ a, a ∈ ks ↔ inP m.time m.ths k0 a = true := fun a => by
            rw [hm.mem a, setF_some]
            unfold stS
            rw [hfresh]
            simp
          have hr0 := hR2k.size
          have HKS := Lib.hid (And.intro hks (And.intro hhas (And.intro hin0 (And.intro hk0 (And.intro hksub (And.intro hne (And.intro hfresh hk0e)))))))
          have HAT2 := Lib.hid hat2
          have HR2 := Lib.hid (And.intro hR2k hR2r)
          clear hm hsz hat0 hin0 hhas hks hat2 hk0 hksub hne hfresh hk0e hR2k hR2r
          go_wp2_with (first
            | (at_range; refine wpList_range_own _ rfl _ 216 rfl 3 4 kz Try.underlying216 _ (blk k0) ks.length _ rfl hown ?_; intro w4 hrg0 hg0 hs0)
            | go_in)
          try go_frame
          obtain ⟨rr, hrr⟩ : ∃ rr, w2.heap.size = rr := ⟨_, rfl⟩
          rw [hrr] at hrg0 hr0 ⊢
          have hk4 : Keep [] w2 w4 := Keep.grown hg0
          have HRG := Lib.hid hrg0
          have HRR0 := Lib.hid hr0
          have H4 := Lib.hid (And.intro (HAT2.out.keep hk4 (by simp)) (And.intro ((HR2.out.1.trans (hk4.mono (by simp)))) (And.intro (HR2.out.2.keep hk4 (by simp)) HR.out.nd)))
          clear hrg0 hown hg0 hk4 hs0 hrr hr0
          go_loopw [5] (fun v wr' => ∃ (left : Lit → Bool) (cnt : Nat) (A' : List Int), Hid (wr'.ranges Try.prog 3 tokR (blk k0) rr ks.length D0 left cnt) ∧ Hid (∀ kl, left kl = true → ∃ x, kl = LitZ x ∧ x ∈ ks) ∧ Hid (∀ a, a ∈ A' ↔ a ∈ A ∨ (a ∈ ks ∧ left (LitZ a) = false)) ∧
              Hid (WhAt wr' D g m.time dm blk (dueF m.ths) (m.ths.map (·.1)) (stS m.time u m.ths (r + 1)) ∧ Keep D w wr' ∧ RowE intE 1 3 wr' w.heap.size v A' ∧ A'.Nodup))
            (fun _ wr' => wr'.rangeLeft (blk k0) rr)
          case atStart =>
            exact ⟨_, _, A, HRG, Lib.hid (fun kl h => by
              obtain ⟨x, rfl⟩ := HKS.out.2.2.1 kl h
              exact ⟨x, rfl, (HKS.out.2.1 x).1 h⟩), Lib.hid (fun a => by
              constructor
              · exact fun h => .inl h
              · rintro (h | ⟨h1, h2⟩)
                · exact h
                · have := (HKS.out.2.1 a).2 h1
                  rw [this] at h2
                  cases h2), H4⟩
          case round =>
            clear HRG H4
            obtain ⟨left, cnt, A', HRG, HL, HA, HI⟩ := hrel
            have hrg := HRG.out
            obtain ⟨va, vc, rfl⟩ := HI.out.2.2.1.form
            go_wp2_with (first
              | (at_next; refine wpList_next_ranges _ rfl _ rfl 3 kz tokR (Value.int .i64) (fun x => x) (fun key kl hkey => by obtain ⟨x, rfl, _⟩ := Maps.keyOf_int_inv Try.underlying3 hkey; exact ⟨x, rfl⟩) (fun v y hv => ⟨v, rfl⟩) (blk k0) rr ks.length _ _ _ rfl hrg ?_ ?_)
              | go_in)
            · intro hc0 hl0
              obtain ⟨ks2, hm2⟩ := HI.out.1.maps k0 HKS.out.2.2.2.1
              obtain ⟨w5, hrun, hm5, hk5, hs5⟩ := hm2.clear Try.underlying3 Try.underlying216 0
              have hkD5 : Keep D w w5 := HI.out.2.1.trans (hk5.mono (by simp; exact HI.out.1.inB k0 HKS.out.2.2.2.1))
              have hblk : blk k0 < w.heap.size := HLT.out _ (HI.out.1.inB k0 HKS.out.2.2.2.1)
              have hnew : MvR w w5 D g dm blk m u r (.slice va A'.length vc) A' := ⟨HI.out.1.turn HKS.out.2.2.2.1 hk5 (S' := stS m.time u m.ths r) (ks := []) (hm5.congr fun a => by
                  unfold setF stS
                  rw [clr_new (by omega) HKS.out.2.2.2.2.2.1, HKS.out.2.2.2.2.2.2.2]
                  simp) (fun i hi hne => by
                  funext a
                  unfold stS
                  rw [clr_new (by omega) HKS.out.2.2.2.2.2.1, HKS.out.2.2.2.2.2.2.2]
                  have : ¬ k0 = i := fun e => hne e.symm
                  simp [this]) (fun a ha => by
                  unfold stS at ha
                  rw [Bool.and_eq_true] at ha
                  obtain ⟨p, hp, rfl, -⟩ := inP_iff.1 ha.1
                  exact List.mem_map.2 ⟨p, hp, rfl⟩), hkD5, HI.out.2.2.1.keep hk5 (fun b hb hmm => by
                  have := (HI.out.2.2.1.lt b hb).1
                  simp at hmm
                  omega), HI.out.2.2.2, fun a => by
                  rw [HA.out a, hl0, HR.out.mem a, HKS.out.1 a]
                  constructor
                  · rintro (⟨k, e1, e2, e3⟩ | ⟨e1, -⟩)
                    · exact ⟨k, e1, by rw [clr_new (by omega) HKS.out.2.2.2.2.2.1, e2]; rfl, e3⟩
                    · exact ⟨k0, HKS.out.2.2.2.1, by rw [clr_new (by omega) HKS.out.2.2.2.2.2.1, HKS.out.2.2.2.2.2.2.2]; simp, e1⟩
                  · rintro ⟨k, e1, e2, e3⟩
                    rw [clr_new (by omega) HKS.out.2.2.2.2.2.1, HKS.out.2.2.2.2.2.2.2, Bool.or_eq_true, decide_eq_true_iff] at e2
                    rcases e2 with e2 | rfl
                    · exact .inl ⟨k, e1, e2, e3⟩
                    · exact .inr ⟨e3, rfl⟩⟩
              have HN := Lib.hid hnew
              clear hnew hm5 hk5 hm2 hkD5 hblk hs5
              go_wp2
              go_roundw
              case rel =>
                refine ⟨r, A', by omega, ?_, HN⟩
                cases r with
                | zero => exact .inl ⟨rfl, by go_num⟩
                | succ r' => exact .inr ⟨r', rfl, by go_num⟩
              case measure => simp [intOf]
            · intro x c kl y ps w5 cnt1 hkey hlk hR' hat' hrg1 hlt1 hg1 hs1 hen
              obtain ⟨x', e1, rfl, hwfx⟩ := Maps.keyOf_int_inv Try.underlying3 hkey
              cases e1
              obtain ⟨x', e1, hxk⟩ := HL.out _ hlk
              obtain rfl := litZ_inj e1
              have hk5 : Keep [rr] _ w5 := Keep.grown hg1
              have hrD : rr ∉ D := fun hd => by have := HLT.out _ hd; have := HRR0.out; omega
              have hat5 := HI.out.1.keep hk5 (fun b hb hd => by rw [List.mem_singleton] at hb; rw [hb] at hd; exact hrD hd)
              have hro : ∀ b, (Value.slice va A'.length vc).ownBlock = some b → b ≠ rr := fun b hb e => by
                obtain ⟨-, -, cs, hc⟩ := HI.out.2.2.1.lt b hb
                obtain ⟨_, _, _, _, _, _, _, _, _, hr', _⟩ := hrg
                rw [e, hr'] at hc
                cases hc
              have hrow5 := HI.out.2.2.1.keep hk5 (fun b hb hmm => by rw [List.mem_singleton] at hmm; exact hro b hb hmm)
              have hsubA : ∀ a ∈ A', a ∈ m.ths.map (·.1) := fun a ha => by
                have hx : ∃ k, inP m.time m.ths k a = true := by
                  rcases (HA.out a).1 ha with h | h
                  · obtain ⟨k, -, -, h'⟩ := (HR.out.mem a).1 h
                    exact ⟨k, h'⟩
                  · exact ⟨k0, (HKS.out.1 a).1 h.1⟩
                obtain ⟨k, hx⟩ := hx
                obtain ⟨p, hp, rfl, -⟩ := inP_iff.1 hx
                exact List.mem_map.2 ⟨p, hp, rfl⟩
              have hAl := nodup_sub HI.out.2.2.2 hsubA hw.nd
              rw [List.length_map] at hAl
              have hxA : x ∉ A' := fun hx => by
                rcases (HA.out x).1 hx with h | h
                · obtain ⟨k, e1, e2, e3⟩ := (HR.out.mem x).1 h
                  have e4 := (HKS.out.1 x).1 hxk
                  obtain ⟨p, hp, ep, ek⟩ := inP_iff.1 e3
                  obtain ⟨q, hq, eq', ek'⟩ := inP_iff.1 e4
                  have := nd_eq hw.nd hp hq (ep.trans eq'.symm)
                  subst this
                  rw [← ek, ek', HKS.out.2.2.2.2.2.2.1] at e2
                  cases e2
                · rw [hlk] at h
                  cases h.2
              have hA5 := (Keep.refl [] w5).alloc (.cells (intE x).toArray 3)
              obtain ⟨v7, w7, hrun, hO', hk7, hloc⟩ := run_append_one (P := Try.prog) (ty := 35) intLies Try.underlying35 int_infoF rfl (by decide) (by decide) w.heap.size (hrow5.keep hA5 (by simp)) w5.heap.size x (heap_alloc_new w5 _) (by omega) (by have := HI.out.2.1.size; have := hk5.size; have := hA5.size; omega)
              have h57 : ∀ b, b ∉ (Value.slice va A'.length vc).ownBlock.toList → b < w5.heap.size → w7.heap[b]? = w5.heap[b]? := fun b hb hlt => ((hA5.mono (T := (Value.slice va A'.length vc).ownBlock.toList) (by simp)).trans hk7).block b hlt hb
              have hown : ∀ b, b ∈ (Value.slice va A'.length vc).ownBlock.toList → w.heap.size ≤ b ∧ b ≠ rr := fun b hb => by
                rw [Option.mem_toList] at hb
                exact ⟨(HI.out.2.2.1.lt b hb).1, hro b hb⟩
              have hbk : blk k0 < w.heap.size := HLT.out _ (HI.out.1.inB k0 HKS.out.2.2.2.1)
              have hs5w : w.heap.size ≤ w5.heap.size := Nat.le_trans HI.out.2.1.size hk5.size
              have hrg7 := ranges_same hrg1 (h57 _ (fun hb => by have := (hown _ hb).1; omega) (by omega)) (h57 _ (fun hb => (hown _ hb).2 rfl) (by rw [hs1]; exact hrg.lt))
              have hk57 : Keep (Value.slice va A'.length vc).ownBlock.toList w5 w7 := (hA5.mono (by simp)).trans hk7
              have hat7 := hat5.keep hk57 (fun b hb hd => by have := (hown b hb).1; have := HLT.out b hd; omega)
              have hkD7 : Keep D w w7 := by
                have h1 : Keep D w w5 := keep_bump HI.out.2.1 hk5 (fun b hb => .inr (by rw [List.mem_singleton] at hb; have := HRR0.out; omega))
                exact keep_bump h1 hk57 (fun b hb => .inr (hown b hb).1)
              have HH := Lib.hid (And.intro hrg7 (And.intro hat7 (And.intro hkD7 (And.intro hO' (And.intro hxA hlt1)))))
              have HRN := Lib.hid hrun
              clear hrg7 hat7 hkD7 hO' hrun hk57 hs5w hbk hown h57 hk7 hA5 hAl hsubA hrow5 hro hat5 hk5 hloc hlt1 hrg1 hg1 hs1 hR' hat' hkey hrD
              obtain ⟨va', vc', e7⟩ := HH.out.2.2.2.1.form
              rw [show (A' ++ [x]).length = A'.length + 1 by simp] at e7
              subst e7
              go_wp2_with (at_builtin; refine wpList_append_run rfl (.tmp 55) (.tmp 57) 35 rfl (w' := w7) rfl rfl HRN.out ?_)
              go_roundw
              case rel =>
                have hL2 : Hid (∀ kl, (left kl && !kl.sameKey (Lit.int .i64 x)) = true → ∃ x, kl = LitZ x ∧ x ∈ ks) := Lib.hid (fun kl h => by
                  rw [Bool.and_eq_true] at h
                  exact HL.out kl h.1)
                have hA2 : Hid (∀ a, a ∈ A' ++ [x] ↔ a ∈ A ∨ (a ∈ ks ∧ (left (LitZ a) && !(LitZ a).sameKey (Lit.int .i64 x)) = false)) := Lib.hid (fun a => by
                  rw [List.mem_append, List.mem_singleton, HA.out a, Bool.and_eq_false_iff]
                  constructor
                  · rintro ((h1 | ⟨h1, h2⟩) | rfl)
                    · exact .inl h1
                    · exact .inr ⟨h1, .inl h2⟩
                    · exact .inr ⟨hxk, .inr (by simp [Lit.sameKey])⟩
                  · rintro (h1 | ⟨h1, (h2 | h2)⟩)
                    · exact .inl (.inl h1)
                    · exact .inl (.inr ⟨h1, h2⟩)
                    · exact .inr (by simpa [Lit.sameKey] using h2))
                have hI2 := Lib.hid (And.intro HH.out.2.1 (And.intro HH.out.2.2.1 (And.intro HH.out.2.2.2.1 (show (A' ++ [x]).Nodup by
                  rw [List.nodup_append]
                  exact ⟨HI.out.2.2.2, by simp, fun a ha b hb e => by rw [List.mem_singleton] at hb; subst hb; subst e; exact HH.out.2.2.2.2.1 ha⟩))))
                first
                  | exact ⟨_, cnt1, A' ++ [x], Lib.hid HH.out.1, hL2, hA2, hI2⟩
                  | exact ⟨_, ⟨cnt1, Lib.hid HH.out.1⟩, hL2, A' ++ [x], hA2, hI2⟩
              case measure => rw [HH.out.1.left_eq, hrg.left_eq]; exact HH.out.2.2.2.2.2
        · obtain rfl : r = 5 := by omega
          have ek0 : k0 = 384 := by rw [← hk0e]; rfl
          subst ek0
          have hfresh := hfr
          obtain ⟨w2, hw2⟩ : ∃ w2, w1 = w2 := ⟨_, rfl⟩
          subst hw2
          have hat2 := hat1
          have hR2k := HR.out.keep.trans (hk1.mono (T := D) (by simp))
          have hR2r := HR.out.row.keep hk1 (by simp)
          clear hfr hqt hqu hqq hat1 hat hk1 sh1 sh2
          obtain ⟨ks, hm⟩ := hat2.maps 384 hk0
          obtain ⟨D0, hown, hsz, hat0, hin0, hhas⟩ := hm.few Try.underlying3
          have hksub := hat2.fewer hk0 hm
          rw [List.length_map] at hksub
          have hks : ∀ a, a ∈ ks ↔ inP m.time m.ths 384 a = true := fun a => by
            rw [hm.mem a, setF_some]
            unfold stS
            rw [hfresh]
            simp
          have hr0 := hR2k.size
          have HKS := Lib.hid (And.intro hks (And.intro hhas (And.intro hin0 (And.intro hk0 (And.intro hksub (And.intro hne (And.intro hfresh hk0e)))))))
          have HAT2 := Lib.hid hat2
          have HR2 := Lib.hid (And.intro hR2k hR2r)
          clear hm hsz hat0 hin0 hhas hks hat2 hk0 hksub hne hfresh hk0e hR2k hR2r
          go_wp2_with (first
            | (at_range; refine wpList_range_own _ rfl _ 216 rfl 3 4 kz Try.underlying216 _ (blk 384) ks.length _ rfl hown ?_; intro w4 hrg0 hg0 hs0)
            | go_in)
          try go_frame
          obtain ⟨rr, hrr⟩ : ∃ rr, w1.heap.size = rr := ⟨_, rfl⟩
          rw [hrr] at hrg0 hr0 ⊢
          have hk4 : Keep [] w1 w4 := Keep.grown hg0
          have HRG := Lib.hid hrg0
          have HRR0 := Lib.hid hr0
          have H4 := Lib.hid (And.intro (HAT2.out.keep hk4 (by simp)) (And.intro ((HR2.out.1.trans (hk4.mono (by simp)))) (And.intro (HR2.out.2.keep hk4 (by simp)) HR.out.nd)))
          clear hrg0 hown hg0 hk4 hs0 hrr hr0
          go_loopw [5] (fun v wr' => ∃ (left : Lit → Bool) (cnt : Nat) (A' : List Int), Hid (wr'.ranges Try.prog 3 tokR (blk 384) rr ks.length D0 left cnt) ∧ Hid (∀ kl, left kl = true → ∃ x, kl = LitZ x ∧ x ∈ ks) ∧ Hid (∀ a, a ∈ A' ↔ a ∈ A ∨ (a ∈ ks ∧ left (LitZ a) = false)) ∧
              Hid (WhAt wr' D g m.time dm blk (dueF m.ths) (m.ths.map (·.1)) (stS m.time u m.ths 6) ∧ Keep D w wr' ∧ RowE intE 1 3 wr' w.heap.size v A' ∧ A'.Nodup))
            (fun _ wr' => wr'.rangeLeft (blk 384) rr)
          case atStart =>
            exact ⟨_, _, A, HRG, Lib.hid (fun kl h => by
              obtain ⟨x, rfl⟩ := HKS.out.2.2.1 kl h
              exact ⟨x, rfl, (HKS.out.2.1 x).1 h⟩), Lib.hid (fun a => by
              constructor
              · exact fun h => .inl h
              · rintro (h | ⟨h1, h2⟩)
                · exact h
                · have := (HKS.out.2.1 a).2 h1
                  rw [this] at h2
                  cases h2), H4⟩
          case round =>
            clear HRG H4
            obtain ⟨left, cnt, A', HRG, HL, HA, HI⟩ := hrel
            have hrg := HRG.out
            obtain ⟨va, vc, rfl⟩ := HI.out.2.2.1.form
            go_wp2_with (first
              | (at_next; refine wpList_next_ranges _ rfl _ rfl 3 kz tokR (Value.int .i64) (fun x => x) (fun key kl hkey => by obtain ⟨x, rfl, _⟩ := Maps.keyOf_int_inv Try.underlying3 hkey; exact ⟨x, rfl⟩) (fun v y hv => ⟨v, rfl⟩) (blk 384) rr ks.length _ _ _ rfl hrg ?_ ?_)
              | go_in)
            · intro hc0 hl0
              obtain ⟨ks2, hm2⟩ := HI.out.1.maps 384 HKS.out.2.2.2.1
              obtain ⟨w5, hrun, hm5, hk5, hs5⟩ := hm2.clear Try.underlying3 Try.underlying216 0
              have hkD5 : Keep D w w5 := HI.out.2.1.trans (hk5.mono (by simp; exact HI.out.1.inB 384 HKS.out.2.2.2.1))
              have hblk : blk 384 < w.heap.size := HLT.out _ (HI.out.1.inB 384 HKS.out.2.2.2.1)
              have hnew : MvR w w5 D g dm blk m u 5 (.slice va A'.length vc) A' := ⟨HI.out.1.turn HKS.out.2.2.2.1 hk5 (S' := stS m.time u m.ths 5) (ks := []) (hm5.congr fun a => by
                  unfold setF stS
                  rw [clr_new (by omega) HKS.out.2.2.2.2.2.1, HKS.out.2.2.2.2.2.2.2]
                  simp) (fun i hi hne => by
                  funext a
                  unfold stS
                  rw [clr_new (by omega) HKS.out.2.2.2.2.2.1, HKS.out.2.2.2.2.2.2.2]
                  have : ¬ 384 = i := fun e => hne e.symm
                  simp [this]) (fun a ha => by
                  unfold stS at ha
                  rw [Bool.and_eq_true] at ha
                  obtain ⟨p, hp, rfl, -⟩ := inP_iff.1 ha.1
                  exact List.mem_map.2 ⟨p, hp, rfl⟩), hkD5, HI.out.2.2.1.keep hk5 (fun b hb hmm => by
                  have := (HI.out.2.2.1.lt b hb).1
                  simp at hmm
                  omega), HI.out.2.2.2, fun a => by
                  rw [HA.out a, hl0, HR.out.mem a, HKS.out.1 a]
                  constructor
                  · rintro (⟨k, e1, e2, e3⟩ | ⟨e1, -⟩)
                    · exact ⟨k, e1, by rw [clr_new (by omega) HKS.out.2.2.2.2.2.1, e2]; rfl, e3⟩
                    · exact ⟨384, HKS.out.2.2.2.1, by rw [clr_new (by omega) HKS.out.2.2.2.2.2.1, HKS.out.2.2.2.2.2.2.2]; simp, e1⟩
                  · rintro ⟨k, e1, e2, e3⟩
                    rw [clr_new (by omega) HKS.out.2.2.2.2.2.1, HKS.out.2.2.2.2.2.2.2, Bool.or_eq_true, decide_eq_true_iff] at e2
                    rcases e2 with e2 | rfl
                    · exact .inl ⟨k, e1, e2, e3⟩
                    · exact .inr ⟨e3, rfl⟩⟩
              have HN := Lib.hid hnew
              clear hnew hm5 hk5 hm2 hkD5 hblk hs5
              go_wp2
              go_roundw
              case rel =>
                exact ⟨5, A', by omega, .inr ⟨4, rfl, by go_num⟩, HN⟩
              case measure => simp [intOf]
            · intro x c kl y ps w5 cnt1 hkey hlk hR' hat' hrg1 hlt1 hg1 hs1 hen
              obtain ⟨x', e1, rfl, hwfx⟩ := Maps.keyOf_int_inv Try.underlying3 hkey
              cases e1
              obtain ⟨x', e1, hxk⟩ := HL.out _ hlk
              obtain rfl := litZ_inj e1
              have hk5 : Keep [rr] _ w5 := Keep.grown hg1
              have hrD : rr ∉ D := fun hd => by have := HLT.out _ hd; have := HRR0.out; omega
              have hat5 := HI.out.1.keep hk5 (fun b hb hd => by rw [List.mem_singleton] at hb; rw [hb] at hd; exact hrD hd)
              have hro : ∀ b, (Value.slice va A'.length vc).ownBlock = some b → b ≠ rr := fun b hb e => by
                obtain ⟨-, -, cs, hc⟩ := HI.out.2.2.1.lt b hb
                obtain ⟨_, _, _, _, _, _, _, _, _, hr', _⟩ := hrg
                rw [e, hr'] at hc
                cases hc
              have hrow5 := HI.out.2.2.1.keep hk5 (fun b hb hmm => by rw [List.mem_singleton] at hmm; exact hro b hb hmm)
              have hsubA : ∀ a ∈ A', a ∈ m.ths.map (·.1) := fun a ha => by
                have hx : ∃ k, inP m.time m.ths k a = true := by
                  rcases (HA.out a).1 ha with h | h
                  · obtain ⟨k, -, -, h'⟩ := (HR.out.mem a).1 h
                    exact ⟨k, h'⟩
                  · exact ⟨384, (HKS.out.1 a).1 h.1⟩
                obtain ⟨k, hx⟩ := hx
                obtain ⟨p, hp, rfl, -⟩ := inP_iff.1 hx
                exact List.mem_map.2 ⟨p, hp, rfl⟩
              have hAl := nodup_sub HI.out.2.2.2 hsubA hw.nd
              rw [List.length_map] at hAl
              have hxA : x ∉ A' := fun hx => by
                rcases (HA.out x).1 hx with h | h
                · obtain ⟨k, e1, e2, e3⟩ := (HR.out.mem x).1 h
                  have e4 := (HKS.out.1 x).1 hxk
                  obtain ⟨p, hp, ep, ek⟩ := inP_iff.1 e3
                  obtain ⟨q, hq, eq', ek'⟩ := inP_iff.1 e4
                  have := nd_eq hw.nd hp hq (ep.trans eq'.symm)
                  subst this
                  rw [← ek, ek', HKS.out.2.2.2.2.2.2.1] at e2
                  cases e2
                · rw [hlk] at h
                  cases h.2
              have hA5 := (Keep.refl [] w5).alloc (.cells (intE x).toArray 3)
              obtain ⟨v7, w7, hrun, hO', hk7, hloc⟩ := run_append_one (P := Try.prog) (ty := 35) intLies Try.underlying35 int_infoF rfl (by decide) (by decide) w.heap.size (hrow5.keep hA5 (by simp)) w5.heap.size x (heap_alloc_new w5 _) (by omega) (by have := HI.out.2.1.size; have := hk5.size; have := hA5.size; omega)
              have h57 : ∀ b, b ∉ (Value.slice va A'.length vc).ownBlock.toList → b < w5.heap.size → w7.heap[b]? = w5.heap[b]? := fun b hb hlt => ((hA5.mono (T := (Value.slice va A'.length vc).ownBlock.toList) (by simp)).trans hk7).block b hlt hb
              have hown : ∀ b, b ∈ (Value.slice va A'.length vc).ownBlock.toList → w.heap.size ≤ b ∧ b ≠ rr := fun b hb => by
                rw [Option.mem_toList] at hb
                exact ⟨(HI.out.2.2.1.lt b hb).1, hro b hb⟩
              have hbk : blk 384 < w.heap.size := HLT.out _ (HI.out.1.inB 384 HKS.out.2.2.2.1)
              have hs5w : w.heap.size ≤ w5.heap.size := Nat.le_trans HI.out.2.1.size hk5.size
              have hrg7 := ranges_same hrg1 (h57 _ (fun hb => by have := (hown _ hb).1; omega) (by omega)) (h57 _ (fun hb => (hown _ hb).2 rfl) (by rw [hs1]; exact hrg.lt))
              have hk57 : Keep (Value.slice va A'.length vc).ownBlock.toList w5 w7 := (hA5.mono (by simp)).trans hk7
              have hat7 := hat5.keep hk57 (fun b hb hd => by have := (hown b hb).1; have := HLT.out b hd; omega)
              have hkD7 : Keep D w w7 := by
                have h1 : Keep D w w5 := keep_bump HI.out.2.1 hk5 (fun b hb => .inr (by rw [List.mem_singleton] at hb; have := HRR0.out; omega))
                exact keep_bump h1 hk57 (fun b hb => .inr (hown b hb).1)
              have HH := Lib.hid (And.intro hrg7 (And.intro hat7 (And.intro hkD7 (And.intro hO' (And.intro hxA hlt1)))))
              have HRN := Lib.hid hrun
              clear hrg7 hat7 hkD7 hO' hrun hk57 hs5w hbk hown h57 hk7 hA5 hAl hsubA hrow5 hro hat5 hk5 hloc hlt1 hrg1 hg1 hs1 hR' hat' hkey hrD
              obtain ⟨va', vc', e7⟩ := HH.out.2.2.2.1.form
              rw [show (A' ++ [x]).length = A'.length + 1 by simp] at e7
              subst e7
              go_wp2_with (at_builtin; refine wpList_append_run rfl (.tmp 55) (.tmp 57) 35 rfl (w' := w7) rfl rfl HRN.out ?_)
              go_roundw
              case rel =>
                have hL2 : Hid (∀ kl, (left kl && !kl.sameKey (Lit.int .i64 x)) = true → ∃ x, kl = LitZ x ∧ x ∈ ks) := Lib.hid (fun kl h => by
                  rw [Bool.and_eq_true] at h
                  exact HL.out kl h.1)
                have hA2 : Hid (∀ a, a ∈ A' ++ [x] ↔ a ∈ A ∨ (a ∈ ks ∧ (left (LitZ a) && !(LitZ a).sameKey (Lit.int .i64 x)) = false)) := Lib.hid (fun a => by
                  rw [List.mem_append, List.mem_singleton, HA.out a, Bool.and_eq_false_iff]
                  constructor
                  · rintro ((h1 | ⟨h1, h2⟩) | rfl)
                    · exact .inl h1
                    · exact .inr ⟨h1, .inl h2⟩
                    · exact .inr ⟨hxk, .inr (by simp [Lit.sameKey])⟩
                  · rintro (h1 | ⟨h1, (h2 | h2)⟩)
                    · exact .inl (.inl h1)
                    · exact .inl (.inr ⟨h1, h2⟩)
                    · exact .inr (by simpa [Lit.sameKey] using h2))
                have hI2 := Lib.hid (And.intro HH.out.2.1 (And.intro HH.out.2.2.1 (And.intro HH.out.2.2.2.1 (show (A' ++ [x]).Nodup by
                  rw [List.nodup_append]
                  exact ⟨HI.out.2.2.2, by simp, fun a ha b hb e => by rw [List.mem_singleton] at hb; subst hb; subst e; exact HH.out.2.2.2.2.1 ha⟩))))
                first
                  | exact ⟨_, cnt1, A' ++ [x], Lib.hid HH.out.1, hL2, hA2, hI2⟩
                  | exact ⟨_, ⟨cnt1, Lib.hid HH.out.1⟩, hL2, A' ++ [x], hA2, hI2⟩
              case measure => rw [HH.out.1.left_eq, hrg.left_eq]; exact HH.out.2.2.2.2.2
end Go.Proofs.Ytjkjiabfhhnngaa
