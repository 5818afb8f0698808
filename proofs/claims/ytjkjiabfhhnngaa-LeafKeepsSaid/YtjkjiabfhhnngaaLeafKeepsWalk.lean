import Derived.Test.YtjkjiabfhhnngaaLeafFoul2
import Derived.Test.YtjkjiabfhhnngaaKeptOpen
import Derived.Test.YtjkjiabfhhnngaaCopy
import Derived.Test.YtjkjiabfhhnngaaFlash14
import Derived.Outline
/-! The walk of the law LeafKeeps. -/
namespace Go.Proofs.Ytjkjiabfhhnngaa
open Go.RowKit Go.Shelf Sg
set_option linter.unusedSimpArgs false
set_option linter.unusedVariables false

theorem wpList_copy_in {P : Program} {ops : Array Oper} {Q : Exit → Act → World → Prop} {w : World} {rest : List Oper} {o : Oper} {a : Act} (hg : o.guard = none) (s x : Operand) (t : TypeId) (hop : o.op = Op.call { callee := Callee.builtin Builtin.copy, args := #[s, x], argTypes := #[t, t] })
    {v src v' : Value} {w' : World} (hs : a.eval s = v) (hx : a.eval x = src) (hrun : (Builtin.copy_ #[t, t] o.type #[v, src]).run P w = .ok v' w') (hK : wpList P ops Q rest (a.put o.dst v') w') : wpList P ops Q (o :: rest) a w := by
  refine wpList_plain hg fun _ hK' => loudly_wp ?_
  have e1 : (execOp a.eval o).run P w = .ok (.value v') w' := by
    simp [execOp, hop, resolve, invoke, builtin, hs, hx, hrun, Result.andThen]
  unfold loudly
  rw [e1]
  exact hK' _ _ hK
/-- a device behind so many puts -/
structure Kp (a : Nat) (m : Dev) : Prop where
  n : m.n = 8
  sz : m.sz = 96
  down : m.down = false
  ar : m.armed = 0
  acts : m.acts ≤ a
theorem Kp.ready {a : Nat} {m : Dev} (h : Kp a m) (at_ : Int) : m.ready at_ = if 0 ≤ at_ ∧ at_ < 8 then 0 else 2 := by
  unfold Dev.ready
  rw [if_neg (show ¬ m.down = true by rw [h.down]; simp), h.n]
  rfl
theorem Kp.put {a : Nat} {m : Dev} (h : Kp a m) (at_ : Int) (L : List UInt8) (hl : L.length = 96) : Kp (a + 1) (m.put at_ L).1 ∧ (m.put at_ L).2 = if 0 ≤ at_ ∧ at_ < 8 then 0 else 2 := by
  have ha := h.acts
  unfold Dev.put
  rw [h.ready]
  by_cases hr : 0 ≤ at_ ∧ at_ < 8
  · rw [if_pos hr, if_neg (by simp), if_neg (by rw [h.sz, hl]; simp)]
    have hd : m.act.down = false := by
      show (if 0 < m.armed then decide (m.armed = 1) else m.down) = false
      rw [h.ar, h.down]; rfl
    refine ⟨⟨h.n, h.sz, hd, ?_, ?_⟩, ?_⟩
    · show m.armed - 1 = 0
      rw [h.ar]
    · show m.acts + 1 ≤ _
      omega
    · show (if m.act.down = true then 4 else 0) = 0
      rw [hd]
      rfl
  · rw [if_neg hr, if_pos (by simp)]
    exact ⟨⟨h.n, h.sz, h.down, h.ar, by show m.acts ≤ _; omega⟩, rfl⟩
theorem Kp.lputs {a : Nat} {m : Dev} (h : Kp a m) (at_ k p s : Int) (l : List UInt8) : Kp (a + 1) (lput m at_ k p s l).1 ∧ (lput m at_ k p s l).2 = if lcode 96 k p s l.length ≠ 0 then lcode 96 k p s l.length else if 0 ≤ at_ ∧ at_ < 8 then 0 else 2 := by
  unfold lput
  have e : (m.sz : Int) = 96 := by rw [h.sz]; rfl
  rw [e]
  by_cases hc : lcode 96 k p s l.length ≠ 0
  · rw [if_pos hc, if_pos hc]
    exact ⟨⟨h.n, h.sz, h.down, h.ar, by have := h.acts; show m.acts ≤ _; omega⟩, rfl⟩
  · rw [if_neg hc, if_neg hc]
    have hz := lcode_zero (by simpa using hc : lcode 96 k p s l.length = 0)
    obtain ⟨h1, h2⟩ := h.put at_ (lbuild m.sz k.toNat p.toNat s.toNat l) (by rw [h.sz]; exact lbuild_len _ _ _ _ _ (by decide) (by omega))
    refine ⟨h1, ?_⟩
    simp only [h2]
    split <;> rfl
theorem Kp.crash {a : Nat} {m : Dev} (h : Kp a m) (fates : List Int) : Kp a (m.crash fates) := ⟨h.n, h.sz, rfl, rfl, h.acts⟩
theorem Kp.read {a : Nat} {m : Dev} (h : Kp a m) {k : Nat} (hk : k < 8) : (m.read (k : Int)).2 = 0 := by
  have hr : m.ready (k : Int) = 0 := by rw [h.ready, if_pos ⟨by omega, by omega⟩]
  unfold Dev.read
  rw [hr]
  rfl

set_option maxRecDepth 100000 in
set_option maxHeartbeats 1000000 in
set_option maxHeartbeats 8000000 in
theorem leafKeepsWalk (W : World) (pv fv : Value) (pl : List KPut) (fl : List Int) (kd pc : Int) (hp : KPuts W pv pl) (hf : Ints W fv fl) :
    Calls Try.prog 5 #[.agg #[pv, fv, .int .i64 kd, .int .i64 pc]] W fun e W' => e = .returned (.bool true) ∧ Below W.heap.size W W' := by
  obtain ⟨pa, pcap, rfl, -⟩ := hp.form
  obtain ⟨fa, fc, rfl, -⟩ := hf.form
  obtain ⟨w0, hw1⟩ : ∃ w0, W.alloc (.cells #[.slice pa pl.length pcap, .slice fa fl.length fc, .int .i64 kd, .int .i64 pc] 65) = w0 := ⟨_, rfl⟩
  have hA : Keep [] W w0 := by rw [← hw1]; exact (Keep.refl [] W).alloc _
  have hB : w0.heap[W.heap.size]? = some (.cells #[.slice pa pl.length pcap, .slice fa fl.length fc, .int .i64 kd, .int .i64 pc] 65 (0, 0)) := by rw [← hw1]; exact heap_alloc_new W _
  have HS := Lib.hid (And.intro hp hf)
  have cN := fun w : World => (newDev_any 8 96 (by decide) w : Calls Try.prog 13 #[.int .i64 8, .int .i64 96] w _)
  have HA := Lib.hid hA
  have HBB := Lib.hid hB
  clear hp hf hA hB
  go_enter Try.func5, Try.ntmps5
  go_wp2_with fail
  refine wp_region_his [] [] (fun _ => 0) (by kernel_rfl) (by kernel_rfl) ?_
  intro w1 hk1 hh
  clear hh
  have g0 := fun w' (h' : Keep [] w1 w') => cell_of_row w' _ 0 _ _ _ ((hk1.trans h').blk (by simp) HBB.out)
  have g1 := fun w' (h' : Keep [] w1 w') => cell_of_row w' _ 1 _ _ _ ((hk1.trans h').blk (by simp) HBB.out)
  have g2 := fun w' (h' : Keep [] w1 w') => cell_of_row w' _ 2 _ _ _ ((hk1.trans h').blk (by simp) HBB.out)
  have g3 := fun w' (h' : Keep [] w1 w') => cell_of_row w' _ 3 _ _ _ ((hk1.trans h').blk (by simp) HBB.out)
  simp at g0 g1 g2 g3
  have HA := Lib.hid (HA.out.trans hk1)
  (repeat (first | (refine his_q rfl rfl (fun K hK => ?_); apply Exists.intro; refine ⟨fun w' hC => ?_, ?_⟩; ((try simp [Sg.upd] at hC); go_simp <;> rfl); go_simp; refine hK _ _ ?_; clear hK K) | (refine his_s rfl (fun K hK => ?_); go_simp; refine hK _ _ ?_; clear hK K)))
  refine his_nil ?_
  clear g0 g1 g2 g3 hk1 HBB hw1
  by_cases hb1 : 20 < pl.length
  · have hb' : (20 : Int) < (pl.length : Int) := by omega
    go_wp2
    go_ret
    exact ⟨rfl, HA.out.below (Nat.le_refl _) (by simp)⟩
  have hb1' : ¬ (20 : Int) < (pl.length : Int) := by omega
  by_cases hb2 : 20 < fl.length
  · have hb' : (20 : Int) < (fl.length : Int) := by omega
    go_wp2
    go_ret
    exact ⟨rfl, HA.out.below (Nat.le_refl _) (by simp)⟩
  have hb2' : ¬ (20 : Int) < (fl.length : Int) := by omega
  go_wp2_with fail
  refine (cN _).mono ?_
  rintro e w2 ⟨g, D, rfl, hD, hk2, hf⟩
  have hk2' : Keep [] w1 w2 := hk2
  have hf' : ∀ b ∈ D, w1.heap.size ≤ b := hf
  have HL := Lib.hid (And.intro hb1 hb2)
  have HW1 := Lib.hid (HA.out.size)
  clear cN hb1 hb1' hb2 hb2' hk2 hf
  go_wp2
  go_loopw [8] (fun i wr => ∃ (j : Nat) (m : Dev) (D' : List Nat), j ≤ pl.length ∧ i = .int .i64 j ∧ Hid (DV wr D' g m) ∧ Hid (Kp j m) ∧ Hid (∀ b ∈ D', w1.heap.size ≤ b) ∧ Hid (Keep [] w1 wr)) (fun i _ => pl.length - (intOf i).toNat)
  case atStart => exact ⟨0, _, D, by omega, rfl, hD, ⟨rfl, rfl, rfl, rfl, Nat.zero_le _⟩, hf', hk2'⟩
  case round =>
    clear hD hk2' hf'
    obtain ⟨j, m, D', hj, rfl, HD, HF, HO, HW⟩ := hrel
    rename World => wr
    have hacts : m.acts ≤ 1000000000 := by have := HF.out.acts; have := HL.out.1; omega
    have hj20 : j ≤ 20 := by have := HL.out.1; omega
    by_cases hlt : j < pl.length
    · obtain ⟨b, o, rfl, hbW, hcell⟩ := HS.out.1.spot hlt
      have hbD : b ∉ D' := fun hm => by have := HO.out b hm; have := HW1.out; omega
      have hok := HS.out.1.each hlt
      obtain ⟨q, hq⟩ : ∃ q, pl[j] = q := ⟨_, rfl⟩
      rw [hq] at hcell hok
      have hlti : (j : Int) < (pl.length : Int) := by omega
      have a0 := fun w' (h' : Keep [] wr w') => hcell w' ((HA.out.trans HW.out).trans h') 0 _ rfl
      have a1 := fun w' (h' : Keep [] wr w') => hcell w' ((HA.out.trans HW.out).trans h') 1 _ rfl
      have a2 := fun w' (h' : Keep [] wr w') => hcell w' ((HA.out.trans HW.out).trans h') 2 _ rfl
      have a3 := fun w' (h' : Keep [] wr w') => hcell w' ((HA.out.trans HW.out).trans h') 3 _ rfl
      have a4 := fun w' (h' : Keep [] wr w') => hcell w' ((HA.out.trans HW.out).trans h') 4 _ rfl
      have a5 := fun w' (h' : Keep [] wr w') => hcell w' ((HA.out.trans HW.out).trans h') 5 _ rfl
      have a6 := fun w' (h' : Keep [] wr w') => hcell w' ((HA.out.trans HW.out).trans h') 6 _ rfl
      clear hcell
      simp only [Nat.add_zero] at a0
      obtain ⟨qat, qk, qp, qs, lb, raw, bv, bl⟩ := q
      obtain ⟨hs1, hlb, hbv⟩ := hok
      simp only at a0 a1 a2 a3 a4 a5 a6 hs1 hlb hbv
      obtain ⟨ba, bc, rfl, -⟩ := hbv.form
      have y4 := a4 wr (Keep.refl _ _)
      have y5 := a5 wr (Keep.refl _ _)
      have y6 := a6 wr (Keep.refl _ _)
      by_cases hl1 : 100 < lb.size
      · have hl1' : (100 : Int) < (lb.size : Int) := by omega
        clear a0 a1 a2 a3 a4 a5 a6
        go_wp2
        go_ret
        exact ⟨rfl, (HA.out.trans HW.out).below (Nat.le_refl _) (by simp)⟩
      have hl1' : ¬ (100 : Int) < (lb.size : Int) := by omega
      by_cases hl2 : 96 < bl.length
      · have hl2' : (96 : Int) < (bl.length : Int) := by omega
        clear a0 a1 a2 a3 a4 a5 a6
        go_wp2
        go_ret
        exact ⟨rfl, (HA.out.trans HW.out).below (Nat.le_refl _) (by simp)⟩
      have hl2' : ¬ (96 : Int) < (bl.length : Int) := by omega
      have hbr := hbv.keep (HA.out.trans HW.out) (by simp)
      cases raw with
      | true =>
        have mk : ∀ w, (Instr.makeSlice 42 (.int .i64 96) (.int .i64 96)).run Try.prog w = .ok (.slice (some ⟨w.heap.size, 0, none⟩) 96 96) (w.alloc (.cells (List.replicate 96 (u8v 0)).toArray 5)) := fun w => run_make_cells (P := Try.prog) (w := w) 42 5 Try.underlying42 (by kernel_rfl) .i64 .i64 96 (by omega)
        have m1 : OwnB _ _ _ _ (List.replicate 96 0) := OwnB.made (w := wr) wr.heap.size 5 96 (by omega) (Nat.le_refl _)
        obtain ⟨Z, hZ⟩ : ∃ Z : Array Value, (List.replicate 96 (u8v 0)).toArray = Z := ⟨_, rfl⟩
        rw [hZ] at mk m1
        have hkz := (Keep.refl [] wr).alloc (.cells Z 5)
        obtain ⟨w4, hrun, ho4, hk4⟩ := run_copy_bytes (P := Try.prog) (t := 42) (ty := 3) Try.underlying42 (by kernel_rfl) m1 (hbr.keep hkz (by simp)) (by simp; omega)
        have hk04 : Keep [] wr w4 := hkz.trans' hk4 (fun b hb => .inr (by simp at hb; omega))
        have z0 := a0 _ hk04
        have z6 := a6 _ hkz
        have hwl : (bl ++ (List.replicate 96 (0 : UInt8)).drop bl.length).length = 96 := by simp; omega
        have cW := write_any w4 D' g m (HD.out.keep hk04 (by simp)) hacts qat _ _ (ho4.bytes (by rw [hwl]; decide))
        obtain ⟨hKp, -⟩ := HF.out.put qat _ hwl
        have HR := Lib.hid (And.intro hrun (And.intro hKp (And.intro hk04 hkz)))
        generalize (m.put qat (bl ++ (List.replicate 96 (0 : UInt8)).drop bl.length)).2 = pc2 at *
        generalize (m.put qat (bl ++ (List.replicate 96 (0 : UInt8)).drop bl.length)).1 = m4 at *
        have CW := Lib.hid cW
        clear hZ m1 hrun ho4 hk4 a0 a1 a2 a3 a4 a5 a6 hbr hbv hkz hk04 hwl hKp cW
        go_wp2_with (refine wpList_copy_in rfl (.tmp 71) (.tmp 76) 42 rfl (v := .slice (some ⟨wr.heap.size, 0, none⟩) 96 96) (src := .slice ba bl.length bc) (w' := w4) rfl rfl HR.out.1 ?_)
        refine CW.out.mono ?_
        rintro e w5 ⟨rfl, D5, hD5, hG5, hK5⟩
        obtain ⟨hkw5, hf5⟩ := dev_step (HW.out.trans HR.out.2.2.1) HO.out ⟨hG5.1, fun b hb => hG5.2 b hb⟩ hK5
        have HH := Lib.hid (And.intro hD5 (And.intro HR.out.2.1 (And.intro hf5 hkw5)))
        clear hD5 hG5 hK5 hkw5 hf5 z0 z6 y4 y5 y6 CW
        go_wp2
        go_roundw
        case rel => exact ⟨j + 1, m4, D5, by omega, by go_num, HH.out.1, HH.out.2.1, HH.out.2.2.1, HH.out.2.2.2⟩
        case measure => simp [intOf]; omega
      | false =>
        have x0 := a0 wr (Keep.refl _ _)
        have x1 := a1 wr (Keep.refl _ _)
        have x2 := a2 wr (Keep.refl _ _)
        have x3 := a3 wr (Keep.refl _ _)
        have cB := refBuild_any 96 qk qp qs hs1 (by decide) lb (by omega) wr
        obtain ⟨fc, hfc⟩ : ∃ fc, lcode 96 qk qp qs lb.size = fc := ⟨_, rfl⟩
        rw [hfc] at cB
        have HFC := Lib.hid hfc
        have HA7 := Lib.hid (And.intro a0 (And.intro a1 (And.intro a2 (And.intro a3 a4))))
        clear a0 a1 a2 a3 a4 a5 a6 hfc
        go_wp2_with fail
        refine cB.mono ?_
        rintro e w4 ⟨v4, rfl, -, hk4⟩
        clear cB x0 x1 x2 x3 y4 y5 y6
        have z0 := HA7.out.1 w4 hk4
        have hkw4 := HW.out.trans hk4
        have z0' := fun w' (h' : Keep D' w4 w') => h'.cell hbD z0
        have z1' := fun w' (h' : Keep D' w4 w') => h'.cell hbD (HA7.out.2.1 w4 hk4)
        have z2' := fun w' (h' : Keep D' w4 w') => h'.cell hbD (HA7.out.2.2.1 w4 hk4)
        have z3' := fun w' (h' : Keep D' w4 w') => h'.cell hbD (HA7.out.2.2.2.1 w4 hk4)
        have z4' := fun w' (h' : Keep D' w4 w') => h'.cell hbD (HA7.out.2.2.2.2 w4 hk4)
        obtain ⟨hKp, hcode⟩ := HF.out.lputs qat qk qp qs lb.data.toList
        have lk' : lb.data.toList.length = lb.size := by rw [Array.length_toList]; rfl
        rw [lk', HFC.out] at hcode
        have cO := fun w' => of05_any qk qp qs lb hlb w'
        have cP := fun w' (hd : DV w' D' g m) v (hv : Bytes w' v lb.data.toList) => leafPut_any w' D' g m hd hacts qat qk qp qs hs1 v lb.data.toList hv
        generalize (lput m qat qk qp qs lb.data.toList).2 = ec at *
        generalize (lput m qat qk qp qs lb.data.toList).1 = m4 at *
        have HD4 := Lib.hid (HD.out.keep hk4 (by simp))
        have HKP := Lib.hid (And.intro hKp (And.intro hkw4 hk4))
        have HCO := Lib.hid hcode
        clear hKp hcode lk' hkw4 hk4 hbr hbv
        go_upto_region 15 with fail
        go_cut [112] from 95 to 112 (fun s wx => s = .bool (decide (fc = 0 ∧ ¬ (0 ≤ qat ∧ qat < 8))) ∧ w4 = wx)
        case first =>
          by_cases hz : fc = 0
          · have hz' : (fc == 0) = true := by simpa using hz
            have HZ := Lib.hid hz
            clear hz
            by_cases h1 : qat < 0
            · have h1' : (qat < (0 : Int)) := h1
              go_wp2_with fail
              go_meet
              case rel => exact ⟨by rw [decide_eq_true ⟨HZ.out, by omega⟩], rfl⟩
            · by_cases h2 : 8 ≤ qat
              · go_wp2_with fail
                go_meet
                case rel => exact ⟨by rw [decide_eq_true ⟨HZ.out, by omega⟩], rfl⟩
              · go_wp2_with fail
                go_meet
                case rel => exact ⟨by rw [decide_eq_false (fun h => h.2 ⟨by omega, by omega⟩)], rfl⟩
          · have hz' : (fc == 0) = false := by simpa using hz
            go_wp2_with fail
            go_meet
            case rel => exact ⟨by rw [decide_eq_false (fun h => hz h.1)], rfl⟩
        case rest =>
        obtain ⟨rfl, rfl⟩ := hcut
        have hec : ec = if fc = 0 ∧ ¬ (0 ≤ qat ∧ qat < 8) then 2 else fc := by
          rw [HCO.out]
          by_cases hz : fc = 0
          · subst hz
            by_cases h1 : 0 ≤ qat ∧ qat < 8
            · rw [if_neg (by simp), if_pos h1, if_neg (fun h => h.2 h1)]
            · rw [if_neg (by simp), if_neg h1, if_pos ⟨rfl, h1⟩]
          · rw [if_pos (by simpa using hz), if_neg (fun h => hz h.1)]
        clear HCO HFC
        by_cases hcond : fc = 0 ∧ ¬ (0 ≤ qat ∧ qat < 8)
        · rw [decide_eq_true hcond]
          rw [if_pos hcond] at hec
          subst hec
          clear hcond
          go_upto_region 17 with fail
          refine wp_region_his D' [11, 12] (fun _ => 0) (by kernel_rfl) (by kernel_rfl) ?_
          intro w5 hk5 hh
          clear hh
          have u0 := fun w' (h' : Keep D' w5 w') => z0' w' ((hk5.mono (by simp)).trans h')
          have u1 := fun w' (h' : Keep D' w5 w') => z1' w' ((hk5.mono (by simp)).trans h')
          have u2 := fun w' (h' : Keep D' w5 w') => z2' w' ((hk5.mono (by simp)).trans h')
          have u3 := fun w' (h' : Keep D' w5 w') => z3' w' ((hk5.mono (by simp)).trans h')
          have u4 := fun w' (h' : Keep D' w5 w') => z4' w' ((hk5.mono (by simp)).trans h')
          clear z0' z1' z2' z3' z4' z0
          (repeat (first | (refine his_q rfl rfl (fun K hK => ?_); apply Exists.intro; refine ⟨fun w' hC => ?_, ?_⟩; ((try simp [Sg.upd] at hC); go_simp <;> rfl); go_simp; refine hK _ _ ?_; clear hK K) | (refine his_s rfl (fun K hK => ?_); go_simp; refine hK _ _ ?_; clear hK K)))
          (refine his_l rfl rfl (fun K hK => ?_); go_simp)
          refine (cO _).mono ?_
          rintro e w6 ⟨v6, rfl, hb6, hk6⟩
          refine hK _ _ (hk6.mono (by simp)) ?_
          clear hK K
          have hk56 := hk5.trans hk6
          (refine his_l rfl rfl (fun K hK => ?_); go_simp)
          refine (cP _ (HD4.out.keep hk56 (by simp)) _ hb6).mono ?_
          rintro e w7 ⟨rfl, D7, hD7, hG7, hK7⟩
          refine hK _ _ hK7 ?_
          clear hK K
          (repeat (first | (refine his_q rfl rfl (fun K hK => ?_); apply Exists.intro; refine ⟨fun w' hC => ?_, ?_⟩; ((try simp [Sg.upd] at hC); go_simp <;> rfl); go_simp; refine hK _ _ ?_; clear hK K) | (refine his_s rfl (fun K hK => ?_); go_simp; refine hK _ _ ?_; clear hK K)))
          refine his_nil ?_
          obtain ⟨hkw7, hf7⟩ := dev_step (HKP.out.2.1.trans hk56) HO.out hG7 hK7
          have HH := Lib.hid (And.intro hD7 (And.intro HKP.out.1 (And.intro hf7 hkw7)))
          clear hD7 hG7 hK7 hkw7 hf7 hb6 hk6 hk5 hk56 u0 u1 u2 u3 u4 cO cP
          go_wp2
          go_roundw
          case rel => exact ⟨j + 1, m4, D7, by omega, by go_num, HH.out.1, HH.out.2.1, HH.out.2.2.1, HH.out.2.2.2⟩
          case measure => simp [intOf]; omega
        · rw [decide_eq_false hcond]
          rw [if_neg hcond] at hec
          subst hec
          clear hcond
          go_upto_region 17 with fail
          refine wp_region_his D' [11, 12] (fun _ => 0) (by kernel_rfl) (by kernel_rfl) ?_
          intro w5 hk5 hh
          clear hh
          have u0 := fun w' (h' : Keep D' w5 w') => z0' w' ((hk5.mono (by simp)).trans h')
          have u1 := fun w' (h' : Keep D' w5 w') => z1' w' ((hk5.mono (by simp)).trans h')
          have u2 := fun w' (h' : Keep D' w5 w') => z2' w' ((hk5.mono (by simp)).trans h')
          have u3 := fun w' (h' : Keep D' w5 w') => z3' w' ((hk5.mono (by simp)).trans h')
          have u4 := fun w' (h' : Keep D' w5 w') => z4' w' ((hk5.mono (by simp)).trans h')
          clear z0' z1' z2' z3' z4' z0
          (repeat (first | (refine his_q rfl rfl (fun K hK => ?_); apply Exists.intro; refine ⟨fun w' hC => ?_, ?_⟩; ((try simp [Sg.upd] at hC); go_simp <;> rfl); go_simp; refine hK _ _ ?_; clear hK K) | (refine his_s rfl (fun K hK => ?_); go_simp; refine hK _ _ ?_; clear hK K)))
          (refine his_l rfl rfl (fun K hK => ?_); go_simp)
          refine (cO _).mono ?_
          rintro e w6 ⟨v6, rfl, hb6, hk6⟩
          refine hK _ _ (hk6.mono (by simp)) ?_
          clear hK K
          have hk56 := hk5.trans hk6
          (refine his_l rfl rfl (fun K hK => ?_); go_simp)
          refine (cP _ (HD4.out.keep hk56 (by simp)) _ hb6).mono ?_
          rintro e w7 ⟨rfl, D7, hD7, hG7, hK7⟩
          refine hK _ _ hK7 ?_
          clear hK K
          (repeat (first | (refine his_q rfl rfl (fun K hK => ?_); apply Exists.intro; refine ⟨fun w' hC => ?_, ?_⟩; ((try simp [Sg.upd] at hC); go_simp <;> rfl); go_simp; refine hK _ _ ?_; clear hK K) | (refine his_s rfl (fun K hK => ?_); go_simp; refine hK _ _ ?_; clear hK K)))
          refine his_nil ?_
          obtain ⟨hkw7, hf7⟩ := dev_step (HKP.out.2.1.trans hk56) HO.out hG7 hK7
          have HH := Lib.hid (And.intro hD7 (And.intro HKP.out.1 (And.intro hf7 hkw7)))
          clear hD7 hG7 hK7 hkw7 hf7 hb6 hk6 hk5 hk56 u0 u1 u2 u3 u4 cO cP
          go_wp2
          go_roundw
          case rel => exact ⟨j + 1, m4, D7, by omega, by go_num, HH.out.1, HH.out.2.1, HH.out.2.2.1, HH.out.2.2.2⟩
          case measure => simp [intOf]; omega
    · have hcr := crash_any wr D' g m HD.out hacts _ fl (HS.out.2.keep (HA.out.trans HW.out) (by simp)) (fun hn b hb hm => by have := HO.out b hm; have := HS.out.2.lt hn b hb; have := HW1.out; omega)
      have hKc := HF.out.crash fl
      obtain ⟨mc, hmc⟩ : ∃ mc, m.crash fl = mc := ⟨_, rfl⟩
      rw [hmc] at hcr hKc
      clear hmc
      have hji : ¬ (j : Int) < (pl.length : Int) := by omega
      go_wp2_with fail
      refine hcr.mono ?_
      rintro e w4 ⟨rfl, D4, hD4, hG4, hK4⟩
      obtain ⟨hkw4, hf4⟩ := dev_step HW.out HO.out hG4 hK4
      have hac : mc.acts ≤ 1000000000 := by have := hKc.acts; omega
      have hfo := foul_any w4 D4 g mc hD4 hac
      clear hcr hG4 hK4 HD HO HF HW
      go_wp2_with fail
      refine hfo.mono ?_
      rintro e w5 ⟨v5, rfl, ho5, hk5⟩
      clear hfo
      rw [hKc.n] at ho5
      obtain ⟨F, hF⟩ : ∃ F, fouls mc (lvs mc 8 0) = F := ⟨_, rfl⟩
      rw [hF] at ho5
      obtain ⟨fva, fvc, rfl⟩ := ho5.form
      have HF := Lib.hid hF
      have HC := Lib.hid (And.intro hKc (And.intro (hD4.keep hk5 (by simp)) (And.intro ho5 (hkw4.trans hk5))))
      clear hF hKc hD4 hk5 ho5 hkw4 hf4
      go_wp2
      go_loopw [14, 15] (fun n i wr => ∃ (k : Nat) (pre : List Nat), k ≤ 8 ∧ i = .int .i64 k ∧ n = .int .i64 pre.length ∧ Hid (F = pre ++ fouls mc (lvs mc (8 - k) k)) ∧ Hid (Keep [] w5 wr)) (fun _ i _ => 8 - (intOf i).toNat)
      case atStart => exact ⟨0, [], by omega, rfl, rfl, by rw [← HF.out]; rfl, Keep.refl _ _⟩
      case round =>
        obtain ⟨k, pre, hk, rfl, rfl, HP, HK⟩ := hrel
        rename World => wr2
        by_cases hk8 : k < 8
        · have hki : (k : Int) < 8 := by omega
          have hrd := HC.out.1.read hk8
          have hDr := HC.out.2.1.keep HK.out (by simp)
          have hlen := read_len hDr.1 hrd
          rw [HC.out.1.sz] at hlen
          have cR := read_any wr2 D4 g mc hDr hac (k : Int)
          have cG := fun w' (h' : Keep [] wr2 w') => leafGet_any w' D4 g mc (hDr.keep h' (by simp)) hac (k : Int) kd pc
          have cP := fun w' (h' : Keep [] wr2 w') => past_any w' D4 g mc (hDr.keep h' (by simp)) hac (k : Int)
          have hlg : lgot mc (k : Int) kd pc ↔ LeafOk (mc.read (k : Int)).1 ∧ (lk (mc.read (k : Int)).1 : Int) = kd ∧ (lp (mc.read (k : Int)).1 : Int) = pc := by unfold lgot; rw [hrd]; simp
          have hst : lvs mc (8 - k) k = if LeafOk (mc.read (k : Int)).1 then (k, (mc.read (k : Int)).1) :: lvs mc (8 - (k + 1)) (k + 1) else lvs mc (8 - (k + 1)) (k + 1) := by
            rw [show 8 - k = (8 - (k + 1)) + 1 by omega, lvs, if_neg (by rw [hrd]; simp)]
          obtain ⟨bl, hbl⟩ : ∃ bl, (mc.read (k : Int)).1 = bl := ⟨_, rfl⟩
          rw [hbl, hrd] at cR cG
          rw [hbl] at hlg hst hlen
          have hst2 : fouls mc (lvs mc (8 - k) k) = (if LeafOk bl ∧ bl ∉ mc.pasts (k : Int) then [k] else []) ++ fouls mc (lvs mc (8 - (k + 1)) (k + 1)) := by
            rw [hst]
            unfold fouls
            by_cases h1 : LeafOk bl
            · rw [if_pos h1, List.filter_cons]
              by_cases h2 : bl ∉ mc.pasts (k : Int)
              · rw [if_pos (by simpa using h2), if_pos ⟨h1, h2⟩]; rfl
              · rw [if_neg (by simpa using h2), if_neg (fun h => h2 h.2)]; rfl
            · rw [if_neg h1, if_neg (fun h => h1 h.1)]; rfl
          have HST := Lib.hid hst2
          have HLG := Lib.hid hlg
          have CG := Lib.hid cG
          have CP := Lib.hid cP
          clear hst hst2 hlg hDr cG cP hrd hbl
          go_wp2_with fail
          refine cR.mono ?_
          rintro e w6 ⟨v6, rfl, ho6, hk6⟩
          clear cR
          obtain ⟨va6, vc6, rfl⟩ := ownsRow_form ho6
          have hb6 := ho6.bytes (by omega)
          have hcg := CG.out w6 hk6
          rw [hlen] at hb6 ⊢
          have HB6 := Lib.hid hb6
          have HK6 := Lib.hid hk6
          clear ho6 hb6 hk6
          go_wp2_with fail
          refine hcg.mono ?_
          rintro e w7 ⟨hk7, hor⟩
          clear hcg
          have hk67 := HK6.out.trans hk7
          obtain ⟨x0, x1, x2, xa, xn, xc, ec, rfl, HX⟩ : ∃ x0 x1 x2 xa xn xc ec, e = .returned (.tuple #[.agg #[.int .i64 x0, .int .i64 x1, .int .i64 x2, .slice xa xn xc], .int .i64 ec]) ∧
              Hid ((lgot mc (k : Int) kd pc ∧ x0 = kd ∧ x1 = pc ∧ x2 = (ls bl : Int) ∧ ec = 0 ∧ xn = (ll bl).length ∧ Bytes w7 (.slice xa xn xc) (ll bl)) ∨ (¬ lgot mc (k : Int) kd pc ∧ ec = 5 ∧ xn = 0)) := by
            rcases hor with ⟨h1, v, h2, h3⟩ | ⟨h1, h2⟩
            · obtain ⟨a, c, rfl, -⟩ := h3.form
              exact ⟨kd, pc, _, a, _, c, 0, h2, .inl ⟨h1, rfl, rfl, rfl, rfl, rfl, h3⟩⟩
            · exact ⟨0, 0, 0, none, 0, 0, 5, by rw [h2]; rfl, .inr ⟨h1, rfl, rfl⟩⟩
          have hA7 := (Keep.refl [] w7).alloc (.cells #[.int .i64 x0, .int .i64 x1, .int .i64 x2, .slice xa xn xc] 74)
          have hn7 := heap_alloc_new w7 (.cells #[.int .i64 x0, .int .i64 x1, .int .i64 x2, .slice xa xn xc] 74)
          have hb7 := (HB6.out.keep hk7 (by simp)).keep hA7 (by simp)
          have cRR := refRead_in _ bl _ hb7 (by rw [hlen]; decide)
          have HN7 := Lib.hid (And.intro hn7 (And.intro hb7 (And.intro (hk67.trans hA7) hA7)))
          clear hor hk7 hk67 hA7 hn7 hb7
          go_wp2_with fail
          refine cRR.mono ?_
          rintro e w8 ⟨hk8', hor⟩
          clear cRR
          obtain ⟨y0, y1, y2, ys, fc, rfl, HY⟩ : ∃ y0 y1 y2 ys fc, e = .returned (.tuple #[.agg #[.int .i64 y0, .int .i64 y1, .int .i64 y2, .string ys], .int .i64 fc]) ∧
              Hid ((LeafOk bl ∧ y0 = (lk bl : Int) ∧ y1 = (lp bl : Int) ∧ y2 = (ls bl : Int) ∧ ys = ⟨(ll bl).toArray⟩ ∧ fc = 0) ∨ (¬ LeafOk bl ∧ fc = 5)) := by
            rcases hor with ⟨h1, h2⟩ | ⟨h1, h2⟩
            · exact ⟨_, _, _, _, _, h2, .inl ⟨h1, rfl, rfl, rfl, rfl, rfl⟩⟩
            · exact ⟨0, 0, 0, _, 5, h2, .inr ⟨h1, rfl⟩⟩
          have hA8 := (Keep.refl [] w8).alloc (.cells #[.int .i64 y0, .int .i64 y1, .int .i64 y2, .string ys] 67)
          have hn8 := heap_alloc_new w8 (.cells #[.int .i64 y0, .int .i64 y1, .int .i64 y2, .string ys] 67)
          have hx8 := (hk8'.trans hA8).blk (by simp) HN7.out.1
          obtain ⟨w9, hw9⟩ : ∃ w9, w8.alloc (.cells #[.int .i64 y0, .int .i64 y1, .int .i64 y2, .string ys] 67) = w9 := ⟨_, rfl⟩
          have hs7 : w7.heap.size ≤ w8.heap.size := by have := HN7.out.2.2.2.size; have := hk8'.size; omega
          rw [hw9] at hA8 hn8 hx8
          go_upto_region 31 with fail
          have q0 := cell_of_row w9 _ 0 _ _ _ hn8
          have q1 := cell_of_row w9 _ 1 _ _ _ hn8
          have q2 := cell_of_row w9 _ 2 _ _ _ hn8
          have q3 := cell_of_row w9 _ 3 _ _ _ hn8
          have p0 := cell_of_row w9 _ 0 _ _ _ hx8
          have p1 := cell_of_row w9 _ 1 _ _ _ hx8
          have p2 := cell_of_row w9 _ 2 _ _ _ hx8
          have p3 := cell_of_row w9 _ 3 _ _ _ hx8
          simp at q0 q1 q2 q3 p0 p1 p2 p3
          have HK9 := Lib.hid (hk8'.trans hA8)
          have HN9 := Lib.hid (And.intro hn8 hx8)
          clear hn8 hx8 hk8' hA8 hw9 hs7 hor
          go_cut [172] from 159 to 172 (fun s wx => ∃ ow : Bool, s = .bool ow ∧ Hid (ow = true ↔ lgot mc (k : Int) kd pc) ∧ w9 = wx)
          case first =>
            rcases HY.out with ⟨hok, rfl, rfl, rfl, rfl, rfl⟩ | ⟨hno, rfl⟩
            · by_cases t1 : (lk bl : Int) = kd
              · have t1' : ((lk bl : Int) == kd) = true := by simpa using t1
                by_cases t2 : (lp bl : Int) = pc
                · have t2' : ((lp bl : Int) == pc) = true := by simpa using t2
                  have HO := Lib.hid (HLG.out.2 ⟨hok, t1, t2⟩)
                  clear t1 t2 hok
                  go_wp2_with fail
                  go_meet
                  case rel => exact ⟨true, rfl, Lib.hid (iff_of_true rfl HO.out), rfl⟩
                · have t2' : ((lp bl : Int) == pc) = false := by simpa using t2
                  have HO := Lib.hid (fun h => t2 (HLG.out.1 h).2.2)
                  clear t1 t2 hok
                  go_wp2_with fail
                  go_meet
                  case rel => exact ⟨false, rfl, Lib.hid (iff_of_false (by simp) HO.out), rfl⟩
              · have t1' : ((lk bl : Int) == kd) = false := by simpa using t1
                have HO := Lib.hid (fun h => t1 (HLG.out.1 h).2.1)
                clear t1 hok
                go_wp2_with fail
                go_meet
                case rel => exact ⟨false, rfl, Lib.hid (iff_of_false (by simp) HO.out), rfl⟩
            · have HO := Lib.hid (fun h => hno (HLG.out.1 h).1)
              clear hno
              go_wp2_with fail
              go_meet
              case rel => exact ⟨false, rfl, Lib.hid (iff_of_false (by simp) HO.out), rfl⟩
          case rest =>
          obtain ⟨ow, rfl, HOW, rfl⟩ := hcut
          go_upto_if 172 with fail
          go_cut [] from 173 to 188 (fun wx => Hid (Keep [] w9 wx))
          case first =>
            rcases HX.out with ⟨h1, rfl, rfl, rfl, rfl, rfl, hbx⟩ | ⟨h1, rfl, rfl⟩
            · obtain rfl : ow = true := HOW.out.2 h1
              have hL := HLG.out.1 h1
              rcases HY.out with ⟨-, rfl, rfl, rfl, rfl, rfl⟩ | ⟨hno, -⟩
              · have cT := told05_any x0 x1 (ls bl : Int) (.slice xa (ll bl).length xc) (ll bl) w9 ((hbx.keep HN7.out.2.2.2 (by simp)).keep HK9.out (by simp))
                rw [hL.2.1] at q0
                rw [hL.2.2] at q1
                clear hL h1
                go_wp2_with fail
                refine cT.mono ?_
                rintro e w10 ⟨rfl, hk10⟩
                have HK10 := Lib.hid hk10
                clear hk10
                go_wp2_with fail
                go_meet
                case rel => exact HK10
              · exact absurd hL.1 hno
            · obtain rfl : ow = false := by
                cases ow with
                | false => rfl
                | true => exact absurd (HOW.out.1 rfl) h1
              clear h1
              go_wp2_with fail
              go_meet
              case rel => exact Keep.refl _ _
          case rest =>
          have hk0x := (HN7.out.2.2.1.trans HK9.out).trans hcut.out
          obtain ⟨lst, hlst⟩ : ∃ lst, mc.pasts (k : Int) = lst := ⟨_, rfl⟩
          have cP := CP.out wc hk0x
          have hpo := pasts_ok HC.out.2.1.1 (k : Int)
          rw [hlst] at cP hpo
          have hbx6 := (HN7.out.2.1.keep HK9.out (by simp)).keep hcut.out (by simp)
          have hfc : ∃ (lf : Bool), (fc == 0) = lf ∧ Hid (lf = true ↔ LeafOk bl) := by
            rcases HY.out with ⟨h1, -, -, -, -, rfl⟩ | ⟨h1, rfl⟩
            · exact ⟨true, rfl, Lib.hid (iff_of_true rfl h1)⟩
            · exact ⟨false, rfl, Lib.hid (iff_of_false (by simp) h1)⟩
          obtain ⟨lf, hlf, HLF⟩ := hfc
          have HK0X := Lib.hid hk0x
          have HBX := Lib.hid hbx6
          have HPO := Lib.hid hpo
          have hpoB := hpo.1
          clear q0 q1 q2 q3 p0 p1 p2 p3 HX HY HN9 HN7 HK9 hcut hk0x hbx6 hpo CP CG
          go_wp2_with fail
          refine cP.mono ?_
          rintro e w10 ⟨v10, rfl, ho10, hk10⟩
          clear cP
          obtain ⟨a10, c10, rfl⟩ := ho10.form
          obtain ⟨M, hM⟩ : ∃ M, lst.length = M := ⟨_, rfl⟩
          rw [hM]
          have hMb : M ≤ 1000000001 := by have := hpoB; omega
          have HM := Lib.hid hM
          have HO10 := Lib.hid (And.intro ho10 hk10)
          have HLS := Lib.hid hlst
          clear hM ho10 hk10 hlst
          go_wp2
          go_loopw [22, 24] (fun gv i wr => ∃ (j2 : Nat) (gb : Bool), j2 ≤ M ∧ i = .int .i64 j2 ∧ gv = .bool gb ∧ Hid (gb = true ↔ bl ∈ lst.take j2) ∧ Hid (Keep [] w10 wr)) (fun _ i _ => M - (intOf i).toNat)
          case atStart => exact ⟨0, false, by omega, rfl, rfl, Lib.hid (by simp), Lib.hid (Keep.refl _ _)⟩
          case round =>
            obtain ⟨j2, gb, hj2, rfl, rfl, HG, HK2⟩ := hrel
            rename World => wr3
            by_cases hjM : j2 < M
            · have hjMi : (j2 : Int) < (M : Int) := by omega
              obtain ⟨gbk, u, rfl, hcell, hob⟩ := pastO_at (HO10.out.1.keep HK2.out (by simp)) (j := j2) (by rw [HM.out]; omega)
              obtain ⟨x, hx⟩ : ∃ x, lst[j2]'(by rw [HM.out]; omega) = x := ⟨_, rfl⟩
              rw [hx] at hob
              have hxl : x.length = 96 := by rw [← HC.out.1.sz]; exact HPO.out.2 x (by rw [← hx]; exact List.getElem_mem _)
              have hbx := hob.bytes (by omega)
              have hbb := (HBX.out.keep HO10.out.2 (by simp)).keep HK2.out (by simp)
              obtain ⟨ua, uc, rfl, -⟩ := hbx.form
              have hgt : (gb = true ∨ x = bl) ↔ bl ∈ lst.take (j2 + 1) := by
                rw [List.take_succ_eq_append_getElem (by rw [HM.out]; omega), hx, List.mem_append, List.mem_singleton, ← HG.out]
                exact or_congr Iff.rfl eq_comm
              have HGT := Lib.hid hgt
              have HXC := Lib.hid (And.intro hcell (And.intro hbx hbb))
              clear hgt hob hbx hbb hcell hx
              go_upto_region 41 with fail
              refine wp_region_his [] [] (fun _ => 0) (by kernel_rfl) (by kernel_rfl) ?_
              intro w11 hk11 hh
              clear hh
              have y1 := fun w' (h' : Keep [] w11 w') => (hk11.trans h').cell (by simp) HXC.out.1
              have q1 := fun w' (h' : Keep [] w11 w') => run_str (P := Try.prog) 42 9 5 Try.underlying42 Try.underlying5 Try.underlying9 (HXC.out.2.1.keep (hk11.trans h') (by simp))
              have q2 := fun w' (h' : Keep [] w11 w') => run_str (P := Try.prog) 42 9 5 Try.underlying42 Try.underlying5 Try.underlying9 (HXC.out.2.2.keep (hk11.trans h') (by simp))
              rw [hxl] at q1 y1
              have hK11 := Lib.hid (HK2.out.trans hk11)
              clear hk11
              cases gb with
              | true =>
                (repeat (first | (refine his_q rfl rfl (fun K hK => ?_); apply Exists.intro; refine ⟨fun w' hC => ?_, ?_⟩; ((try simp [Sg.upd] at hC); go_simp <;> rfl); go_simp; refine hK _ _ ?_; clear hK K) | (refine his_s rfl (fun K hK => ?_); go_simp; refine hK _ _ ?_; clear hK K)))
                refine his_nil ?_
                clear y1 q1 q2
                go_wp2
                go_roundw
                case rel => exact ⟨j2 + 1, true, by omega, by go_num, rfl, Lib.hid (iff_of_true rfl (HGT.out.1 (.inl rfl))), hK11⟩
                case measure => simp [intOf]; omega
              | false =>
                by_cases hxb : x = bl
                · have hq : (x == bl) = true := by simpa using hxb
                  have HXB := Lib.hid hxb
                  clear hxb
                  (repeat (first | (refine his_q rfl rfl (fun K hK => ?_); apply Exists.intro; refine ⟨fun w' hC => ?_, ?_⟩; ((try simp [Sg.upd] at hC); go_simp <;> rfl); go_simp; refine hK _ _ ?_; clear hK K) | (refine his_s rfl (fun K hK => ?_); go_simp; refine hK _ _ ?_; clear hK K)))
                  refine his_nil ?_
                  clear y1 q1 q2
                  go_wp2
                  go_roundw
                  case rel => exact ⟨j2 + 1, true, by omega, by go_num, rfl, Lib.hid (iff_of_true rfl (HGT.out.1 (.inr HXB.out))), hK11⟩
                  case measure => simp [intOf]; omega
                · have hq : (x == bl) = false := by simpa using hxb
                  have HXB := Lib.hid hxb
                  clear hxb
                  (repeat (first | (refine his_q rfl rfl (fun K hK => ?_); apply Exists.intro; refine ⟨fun w' hC => ?_, ?_⟩; ((try simp [Sg.upd] at hC); go_simp <;> rfl); go_simp; refine hK _ _ ?_; clear hK K) | (refine his_s rfl (fun K hK => ?_); go_simp; refine hK _ _ ?_; clear hK K)))
                  refine his_nil ?_
                  clear y1 q1 q2
                  go_wp2
                  go_roundw
                  case rel => exact ⟨j2 + 1, false, by omega, by go_num, rfl, Lib.hid (iff_of_false (by simp) (fun h => (HGT.out.2 h).elim (fun h => by cases h) HXB.out)), hK11⟩
                  case measure => simp [intOf]; omega
            · have hjMi : ¬ (j2 : Int) < (M : Int) := by omega
              have hall : gb = true ↔ bl ∈ mc.pasts (k : Int) := by
                have h1 := HG.out
                rw [List.take_of_length_le (by rw [HM.out]; omega)] at h1
                rw [HLS.out]
                exact h1
              have hKall := HK.out.trans (HK0X.out.trans (HO10.out.2.trans HK2.out))
              by_cases hnew : LeafOk bl ∧ bl ∉ mc.pasts (k : Int)
              · have hst := HST.out
                rw [if_pos hnew] at hst
                have hFp : F = (pre ++ [k]) ++ fouls mc (lvs mc (8 - (k + 1)) (k + 1)) := by rw [HP.out, hst, List.append_assoc]
                have hpl : pre.length < F.length := by rw [hFp]; simp
                have hFk : F[pre.length] = k := by simp only [hFp]; simp
                obtain ⟨fg, rfl, -, hfc⟩ := RowE.cells ilies HC.out.2.2.1 hpl
                have y0 := hKall.cell (by simp) (hfc 0 _ rfl)
                rw [hFk] at y0
                simp only [Nat.mul_one, Nat.add_zero] at y0
                have hF8 : F.length ≤ 8 := by
                  have h1 : (fouls mc (lvs mc 8 0)).length ≤ (lvs mc 8 0).length := by unfold fouls; rw [List.length_map]; exact List.length_filter_le _ _
                  have h2 := lvs_len mc 8 0
                  rw [HF.out] at h1
                  omega
                have hpl' : ¬ (F.length : Int) ≤ (pre.length : Int) := by omega
                have hpl2 : (pre.length : Int) < (F.length : Int) := by omega
                obtain rfl : lf = true := HLF.out.2 hnew.1
                obtain rfl : gb = false := by
                  cases gb with
                  | false => rfl
                  | true => exact absurd (hall.1 rfl) hnew.2
                have HR := Lib.hid (And.intro hFp hKall)
                clear hall hKall hnew hst hFp hFk hfc
                go_wp2
                go_roundw
                case rel => exact ⟨k + 1, pre ++ [k], by omega, by go_num, by simp, Lib.hid HR.out.1, Lib.hid HR.out.2⟩
                case measure => simp [intOf]; omega
              · have hst := HST.out
                rw [if_neg hnew, List.nil_append] at hst
                have hFp : F = pre ++ fouls mc (lvs mc (8 - (k + 1)) (k + 1)) := by rw [HP.out, hst]
                have HR := Lib.hid (And.intro hFp hKall)
                have hno : lf = false ∨ gb = true := by
                  cases lf with
                  | false => exact .inl rfl
                  | true => exact .inr (hall.2 (Classical.byContradiction fun h => hnew ⟨HLF.out.1 rfl, h⟩))
                clear hall hKall hnew hst hFp
                cases lf with
                | false =>
                  clear hno
                  go_wp2
                  go_roundw
                  case rel => exact ⟨k + 1, pre, by omega, by go_num, rfl, Lib.hid HR.out.1, Lib.hid HR.out.2⟩
                  case measure => simp [intOf]; omega
                | true =>
                  obtain rfl : gb = true := hno.elim (fun h => by cases h) id
                  go_wp2
                  go_roundw
                  case rel => exact ⟨k + 1, pre, by omega, by go_num, rfl, Lib.hid HR.out.1, Lib.hid HR.out.2⟩
                  case measure => simp [intOf]; omega
        · have hk8' : k = 8 := by omega
          have hki : ¬ (k : Int) < 8 := by omega
          have hFl : F.length = pre.length := by
            rw [HP.out, hk8']
            simp [lvs, fouls]
          have hFb : ((pre.length : Int) == (F.length : Int)) = true := by rw [hFl]; simp
          have HFL := Lib.hid hFl
          clear hFl hk8'
          go_wp2_with fail
          refine (awake05_any _).mono ?_
          rintro e w11 ⟨rfl, hk11⟩
          go_wp2
          go_ret
          exact ⟨rfl, (HA.out.trans (HC.out.2.2.2.trans (HK.out.trans hk11))).below (Nat.le_refl _) (by simp)⟩
end Go.Proofs.Ytjkjiabfhhnngaa
