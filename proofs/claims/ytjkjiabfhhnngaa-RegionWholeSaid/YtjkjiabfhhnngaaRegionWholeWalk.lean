import Derived.Test.YtjkjiabfhhnngaaStorm11Do
import Derived.Test.YtjkjiabfhhnngaaStorm11Open
import Derived.Test.YtjkjiabfhhnngaaFoul11
import Derived.Test.YtjkjiabfhhnngaaFlash14
import Derived.Outline
import Derived.Deep.CutBlock
/-! The walk of the law RegionWhole. -/
namespace Go.Proofs.Ytjkjiabfhhnngaa
open Go.RowKit Go.Shelf Sg
attribute [local go_sem] Oper.semAt_some
set_option linter.unusedSimpArgs false
set_option linter.unusedVariables false

theorem S11.cl {W w : World} {c : Lc} {B g gl : Nat} {l : Lg} {m : Dev} {rl ra n : Nat} {ka : Option Addr} {kc : Nat} {pv : Value} {rs ps : List Kp} (h : S11 W w c B g gl l m rl ra (.slice ka n kc) rs pv ps) :
    w.cell? ⟨B, 0, none⟩ = some (.int .i64 3) ∧ w.cell? ⟨B, 1, none⟩ = some (.int .i64 77) ∧ w.cell? ⟨B, 2, none⟩ = some (.int .i64 154) ∧ w.cell? ⟨B, 3, none⟩ = some (.int .i64 (rl : Int)) ∧ w.cell? ⟨B, 4, none⟩ = some (.int .i64 (ra : Int)) ∧ w.cell? ⟨B, 5, none⟩ = some (.slice ka n kc) :=
  ⟨by rw [cell_of_row _ _ _ _ _ _ h.row]; rfl, by rw [cell_of_row _ _ _ _ _ _ h.row]; rfl, by rw [cell_of_row _ _ _ _ _ _ h.row]; rfl, by rw [cell_of_row _ _ _ _ _ _ h.row]; rfl, by rw [cell_of_row _ _ _ _ _ _ h.row]; rfl, by rw [cell_of_row _ _ _ _ _ _ h.row]; rfl⟩

set_option maxRecDepth 100000 in
set_option maxHeartbeats 1000000 in
set_option maxHeartbeats 16000000 in
theorem regionWholeWalk (W : World) (pv fv : Value) (pl : List RAct) (fl : List Int) (dn : Int) (hp : RActs W pv pl) (hf : Ints W fv fl) (hdn : dn ≤ 9223372036854775807) :
    Calls Try.prog 6 #[.agg #[pv, .int .i64 dn, fv]] W fun e W' => e = .returned (.bool true) ∧ Below W.heap.size W W' := by
  obtain ⟨pa, pcap, rfl, -⟩ := hp.form
  obtain ⟨fa, fc, rfl, -⟩ := hf.form
  obtain ⟨w0, hw0⟩ : ∃ w0, W.alloc (.cells #[.slice pa pl.length pcap, .int .i64 dn, .slice fa fl.length fc] 85) = w0 := ⟨_, rfl⟩
  have hA : Keep [] W w0 := by rw [← hw0]; exact (Keep.refl [] W).alloc _
  have hB : w0.heap[W.heap.size]? = some (.cells #[.slice pa pl.length pcap, .int .i64 dn, .slice fa fl.length fc] 85 (0, 0)) := by rw [← hw0]; exact heap_alloc_new W _
  have g0 := fun w' (h' : Keep [] w0 w') => cell_of_row w' _ 0 _ _ _ (h'.blk (by simp) hB)
  have g1 := fun w' (h' : Keep [] w0 w') => cell_of_row w' _ 1 _ _ _ (h'.blk (by simp) hB)
  have g2 := fun w' (h' : Keep [] w0 w') => cell_of_row w' _ 2 _ _ _ (h'.blk (by simp) hB)
  simp at g0 g1 g2
  have G := Lib.hid (And.intro g0 (And.intro g1 g2))
  have HS := Lib.hid (And.intro hp hf)
  have HA := Lib.hid hA
  clear g0 g1 g2 hB
  have x0 := G.out.1 w0 (Keep.refl _ _)
  have cL := light11_any w0 _ pl (by
    obtain ⟨ao, cap, e, h1, h2, h3, h4, h5⟩ := hp
    exact ⟨ao, cap, e, h1, h2, h3, h4, fun ad ea i hi j v hv => hA.cell (by simp) (h5 ad ea i hi j v hv)⟩)
  clear hp hf hA
  go_enter Try.func6, Try.ntmps6
  go_wp2_with fail
  refine cL.mono ?_
  clear cL x0
  rintro e w1 ⟨(⟨⟨h60, hsize⟩, rfl⟩ | ⟨-, rfl⟩), k1⟩
  case inr =>
    go_wp2
    go_ret
    exact ⟨rfl, (HA.out.trans k1).below (Nat.le_refl _) (by simp)⟩
  have HSZ := Lib.hid hsize
  clear hsize
  have x2 := G.out.2.2 w1 k1
  by_cases hb2 : 60 < fl.length
  · have hb' : (60 : Int) < (fl.length : Int) := by omega
    go_wp2
    go_ret
    exact ⟨rfl, (HA.out.trans k1).below (Nat.le_refl _) (by simp)⟩
  have hb2' : ¬ (60 : Int) < (fl.length : Int) := by omega
  go_wp2_with fail
  refine (show Calls Try.prog 13 #[.int .i64 60, .int .i64 96] w1 _ from newDev_any 60 96 (by decide) w1).mono ?_
  rintro e w2 ⟨g, D, rfl, hD, k2, hf2⟩
  have HL := Lib.hid hb2
  have HW0 := Lib.hid (HA.out.size)
  clear x2 hb2 hb2' hw0
  go_wp2_with fail
  refine (small_any _).mono ?_
  rintro e w3 ⟨rfl, k3⟩
  have q1 : (lcOf smallP).R = 3 := rfl
  have q2 : (lcOf smallP).S * (lcOf smallP).rm = 154 := rfl
  have q5 : (lcOf smallP).rm = 77 := rfl
  have q3 : (lg0 smallP).at_ = 154 := rfl
  have q4 : (lg0 smallP).last = 0 := rfl
  have q6 : (lg0 smallP).pend = [] := rfl
  have cF := format_any w3 D g _ (hD.keep k3 (by simp)) smallP
  have hrp := Rp.init (p := smallP) (n := dn) (lcOf_ok smallP _ small_on)
  have hOp : ∀ (w : World) (D : List Nat) (m : Dev), DV w D g m → m.n = 60 ∧ m.sz = 96 → m.acts ≤ 1000000000 → ∀ last L : Nat, last ≤ 1000000 → (lcOf smallP).scan m ((lcOf smallP).R * (lcOf smallP).S) 0 last = (L, 0) →
      Calls Try.prog 59 #[.pointer (some ⟨g, 0, none⟩), smallP.v, .int .i64 (last : Int)] w fun e w' => Keep [] w w' ∧ ∃ gl', e = .returned (.tuple #[.pointer (some ⟨gl', 0, none⟩), .int .i64 0]) ∧ RV w' D [gl'] gl' g (lcOf smallP) ⟨L, 154, []⟩ m := by
    intro w D m h hn ha last L hl hsc
    have hon : smallP.On m := ⟨by decide, by rw [hn.1]; rfl, by rw [hn.2]; rfl⟩
    refine (open_any w D g m h ha smallP (last : Int)).mono ?_
    rintro e w' ⟨hk, (⟨hy, gl', rfl, hgl, hrv⟩ | ⟨code, rfl, hno⟩)⟩
    · have he : lgOpen smallP m (last : Int) = ⟨L, 154, []⟩ := by
        unfold lgOpen
        rw [Int.toNat_natCast, hsc]
        rfl
      rw [he] at hrv
      exact ⟨hk, gl', rfl, hrv⟩
    · exfalso
      rcases hno with ⟨h1, -⟩ | ⟨-, h1, -⟩ | ⟨-, -, h1, h2⟩
      · exact h1 hon
      · omega
      · rw [Int.toNat_natCast, hsc] at h2
        exact h1 h2
  have hok0 : (lcOf smallP).rm = 77 ∧ (lcOf smallP).R = 3 := ⟨rfl, rfl⟩
  have hFit0 : ∀ L n : Nat, L ≤ 1000000 → Lg.Fit (lcOf smallP) ⟨L, 154, []⟩ := fun L n hL => ⟨by show (154 : Nat) ≤ 154; omega, by show 0 = 154 % (lcOf smallP).rm; rw [q5], by show L ≤ _; omega⟩
  have HOP := Lib.hid hOp
  have HFIT := Lib.hid hFit0
  clear hOp hFit0
  have hon0 : smallP.On (Dev.new 60 96) := small_on
  generalize lcOf smallP = c at *
  generalize lg0 smallP = lg at *
  have hs1 := k1.size
  have hs2 := k2.size
  have hs3 := k3.size
  have HD := Lib.hid (And.intro hf2 (k1.trans (k2.trans k3)))
  clear hD hf2 k2 k3
  go_wp2_with fail
  refine cF.mono ?_
  clear cF
  rintro e w4 ⟨k4, (⟨-, gl, rfl, hgl, hrv⟩ | ⟨hno, -⟩)⟩
  case inr => exact absurd hon0 hno
  obtain ⟨pv4, hrv4⟩ := id hrv
  have x1 := G.out.2.1 w4 (HD.out.2.trans k4)
  have cA := arm_any w4 D g _ hrv4.dv dn hdn
  have HDL := Lib.hid (And.intro hrv (HD.out.2.trans k4))
  clear hrv hrv4 k4 hon0
  go_wp2_with fail
  refine cA.mono ?_
  clear cA x1
  rintro e w5 ⟨rfl, hd5, k5⟩
  have hrv5 : RV w5 D [gl] gl g c lg ((Dev.new 60 96).arm dn) := HDL.out.1.dev hd5 (Grew.refl _ _) k5 rfl rfl
  have k05 : Keep [] w0 w5 := HDL.out.2.trans' k5 (fun b hb => .inr (by have := HD.out.1 b hb; omega))
  have hlow : ∀ b, (b ∈ [gl] ∨ b ∈ D) → w0.heap.size ≤ b := fun b hb => by
    rcases hb with hb | hb
    · rw [List.mem_singleton.1 hb]; omega
    · have := HD.out.1 b hb; omega
  obtain ⟨m0, hm0⟩ : ∃ m0, (Dev.new 60 96).arm dn = m0 := ⟨_, rfl⟩
  have hm0d : m0.down = false ∧ m0.acts = 0 ∧ m0.n = 60 ∧ m0.sz = 96 := by rw [← hm0]; exact ⟨rfl, rfl, rfl, rfl⟩
  rw [hm0] at hrv5 hrp
  have HM0 := Lib.hid (And.intro hm0d (And.intro hrv5 (And.intro k05 (And.intro hlow hrp))))
  clear hm0d hrv5 k05 hlow hrp hm0 hd5 k5 HDL HD hgl hs1 hs2 hs3
  go_wp2_with fail
  refine (refNew_any _).mono ?_
  rintro e w6 ⟨rfl, k6⟩
  have hA6 := heap_alloc_new w6 (.cells #[.int .i64 0, .int .i64 0, .int .i64 0, .int .i64 0, .int .i64 0, .slice none 0 0] 96)
  have kA6 := (Keep.refl [] w6).alloc (.cells #[.int .i64 0, .int .i64 0, .int .i64 0, .int .i64 0, .int .i64 0, .slice none 0 0] 96)
  have hst0 : S11 w0 ((w6.alloc (.cells #[.int .i64 0, .int .i64 0, .int .i64 0, .int .i64 0, .int .i64 0, .slice none 0 0] 96)).setRow w6.heap.size (Rf.cells ⟨3, 77, 154, 0, 154⟩ (.slice none 0 0))) c w6.heap.size g gl lg m0 0 154 (.slice none 0 0) [] (.slice none 0 0) [] := by
    have k7 : Keep [w6.heap.size] (w6.alloc (.cells #[.int .i64 0, .int .i64 0, .int .i64 0, .int .i64 0, .int .i64 0, .slice none 0 0] 96)) ((w6.alloc (.cells #[.int .i64 0, .int .i64 0, .int .i64 0, .int .i64 0, .int .i64 0, .slice none 0 0] 96)).setRow w6.heap.size (Rf.cells ⟨3, 77, 154, 0, 154⟩ (.slice none 0 0))) := (Keep.refl _ _).setRow (.inl (by simp)) _
    have hlt := rv_lt HM0.out.2.1
    have hs6 := k6.size
    have hs06 := HM0.out.2.2.1.size
    have k06 := HM0.out.2.2.1.trans (k6.trans kA6)
    refine ⟨k06.trans' k7 (fun b hb => .inr (by rw [List.mem_singleton.1 hb]; omega)), ⟨D, [gl], (HM0.out.2.1.keep (k6.trans kA6) (by simp)).keep k7 (fun b hb => ?_), fun b hb => ⟨HM0.out.2.2.2.1 b hb, fun e => by have := hlt b hb; omega, by simp [Value.ownBlock], by simp [Value.ownBlock]⟩⟩, setRow_heap _ _ _ _ _ _ hA6, KRow.nil _ _, KRow.nil _ _, fun b hb => by simp [Value.ownBlock] at hb, by omega⟩
    rw [List.mem_singleton.1 hb]
    exact ⟨fun hm => by have := hlt _ (.inr hm); omega, fun hm => by have := hlt _ (.inl hm); omega⟩
  have HA6 := Lib.hid hA6
  have HST0 := Lib.hid (And.intro hst0 HM0.out.2.2.2.2)
  have HMD := Lib.hid HM0.out.1
  clear hA6 kA6 k6 hst0
  go_upto_block 0 with (refine wpList_store_row rfl 96 (.tmp 7) (.tmp 42) rfl w6.heap.size (Rf.cells ⟨3, 77, 154, 0, 154⟩ (.slice none 0 0)) rfl rfl 96 _ HA6.out (by kernel_rfl) (by rfl) (by kernel_rfl) ?_)
  obtain ⟨w7, hw7⟩ : ∃ w7, (w6.alloc (.cells #[.int .i64 0, .int .i64 0, .int .i64 0, .int .i64 0, .int .i64 0, .slice none 0 0] 96)).setRow w6.heap.size (Rf.cells ⟨3, 77, 154, 0, 154⟩ (.slice none 0 0)) = w7 := ⟨_, rfl⟩
  rw [hw7] at HST0 ⊢
  clear hw7 HA6 HM0
  generalize w6.heap.size = B at *
  have HQ := Lib.hid (And.intro q3 q4)
  clear q3 q4 q6
  go_cut [6, 8, 9] from 43 to 110 (fun s6 s8 s9 wx => ∃ (l : Lg) (m : Dev) (rl ra : Nat) (kv : Value) (rs ps : List Kp) (s0 sure : Nat) (va : Option Addr) (vc : Nat),
      s6 = .slice va ps.length vc ∧ s8 = .int .i64 (sure : Int) ∧ s9 = .int .i64 (s0 : Int) ∧ m.acts ≤ 100000 ∧ rl ≤ 1000 ∧ s0 ≤ rl ∧ ps.length ≤ 1000 ∧ (m.n = 60 ∧ m.sz = 96) ∧
      Hid (S11 w0 wx c B g gl l m rl ra kv rs (.slice va ps.length vc) ps) ∧ Hid (Rq c rl m s0 ps sure))
  case first =>
    go_wp2_with fail
    go_loopw [6, 8, 9, 10] (fun s6 s8 s9 i wr => ∃ (j : Nat) (l : Lg) (m : Dev) (F Fs : Nat → List (List UInt8)) (ka : Option Addr) (kn kc : Nat) (rs ps : List Kp) (s0 sure : Nat) (va : Option Addr) (vc : Nat), j ≤ pl.length ∧ i = .int .i64 j ∧
        s6 = .slice va ps.length vc ∧ s8 = .int .i64 (sure : Int) ∧ s9 = .int .i64 (s0 : Int) ∧ l.last ≤ j ∧ m.acts ≤ j * 1010 ∧ rs.length ≤ j ∧ ps.length ≤ j ∧ s0 ≤ l.last ∧ (m.n = 60 ∧ m.sz = 96) ∧ Hid (m.down = false) ∧
        Hid (S11 w0 wr c B g gl l m l.last l.at_ (.slice ka kn kc) rs (.slice va ps.length vc) ps) ∧ Hid (Rp c l m F s0 Fs ps sure)) (fun _ _ _ i _ => pl.length - (intOf i).toNat)
    case atStart =>
      refine ⟨0, lg, m0, _, _, none, 0, 0, [], [], 0, 0, none, 0, by omega, rfl, rfl, rfl, rfl, by rw [HQ.out.2]; exact Nat.le_refl _, by rw [HMD.out.2.1]; omega, by simp, by simp, by omega, HMD.out.2.2, Lib.hid HMD.out.1, ?_, Lib.hid HST0.out.2⟩
      rw [HQ.out.1, HQ.out.2]
      exact HST0.out.1
    case round =>
      clear HST0 HMD
      obtain ⟨j, l, m, F, Fs, ka, kn, kc, rs, ps, s0, sure, va, vc, hj, rfl, rfl, rfl, rfl, hla, hac, hrl, hpsl, hs0, hnz, hDN, hST, hRP⟩ := hrel
      rename World => wr
      have x0 := G.out.1 wr hST.out.k
      by_cases hlt : j < pl.length
      · obtain ⟨b, o, rfl, hcell⟩ := HS.out.1.spot hlt
        have hsz := HSZ.out j hlt
        obtain ⟨q, hq⟩ : ∃ q, pl[j] = q := ⟨_, rfl⟩
        rw [hq] at hcell hsz
        have HCELL := Lib.hid hcell
        have hlti : (j : Int) < (pl.length : Int) := by omega
        obtain ⟨a0, a1, a2, a3⟩ := HCELL.out wr (HA.out.trans hST.out.k)
        obtain ⟨t, r, z1, z2, z3, z4, z5, z6, z7⟩ := kind7 q.kind
        clear hcell hq
        by_cases hr4 : 4 ≤ r
        · rcases flush11 hST.out hRP.out hDN.out (by omega) with ⟨l', m', F', z, hrp', hd', hl', hpd', hat', hz1, hz2, hac', hnn', cF⟩ | ⟨l', m', hd', hac', hrq', hnn', cF⟩
          · have hsy := hrp'.sync hd' hpd'
            have HP' := Lib.hid (And.intro hrp' (And.intro hd' (And.intro hpd' (And.intro hl' (And.intro hat' (And.intro hz1 hz2))))))
            have CF := Lib.hid cF
            clear hrp' hd' hpd' hl' hat' hz1 hz2 cF a1 a2 a3
            have hnz' : m'.n = 60 ∧ m'.sz = 96 := ⟨hnn'.1.trans hnz.1, hnn'.2.trans hnz.2⟩
            clear hnn'
            go_wp2_with fail
            refine CF.out.mono ?_
            clear CF
            rintro e w8 ⟨rfl, hst8⟩
            have cS := sync11 hst8 (by omega) (sync11_same m').1 (sync11_same m').2.1
            have hss := sync11_same m'
            obtain ⟨m4, hm4⟩ : ∃ m4, m'.sync.1 = m4 := ⟨_, rfl⟩
            obtain ⟨c4, hc4⟩ : ∃ c4, m'.sync.2 = c4 := ⟨_, rfl⟩
            rcases hsy with ⟨e1, d4, rp4⟩ | ⟨e1, rq4⟩
            · have hm5 : m4 = m'.synced := by rw [← hm4, e1]
              have hc5 : c4 = 0 := by rw [← hc4, e1]
              rw [hm4, hc4] at cS
              rw [hm4] at hss
              rw [← hm5] at d4 rp4
              subst hc5
              have HR4 := Lib.hid (And.intro d4 (And.intro rp4 hss))
              have CS := Lib.hid cS
              clear hm4 hc4 e1 hm5 d4 rp4 hss cS hst8
              go_wp2_with fail
              refine CS.out.mono ?_
              clear CS
              rintro e w9 ⟨rfl, hst9⟩
              have hst9' := Lib.hid hst9
              have cLa := last11 hst9
              have u0 := hst9.cl.1
              have u1 := hst9.cl.2.1
              have u2 := hst9.cl.2.2.1
              have u3 := hst9.cl.2.2.2.1
              have u4 := hst9.cl.2.2.2.2.1
              have u5 := hst9.cl.2.2.2.2.2
              clear hst9
              go_wp2_with fail
              refine cLa.mono ?_
              clear cLa
              rintro e w10 ⟨rfl, rfl⟩
              have cRF := refFlush_any ⟨3, 77, 154, l.last, l.at_⟩ (.slice ka kn kc) ⟨_, _, _, rfl⟩ z (by have := HP'.out.2.2.2.2.2.1; show z < 77; omega) (by have h1 := HP'.out.2.2.2.2.2.2; rw [HP'.out.2.2.2.2.1, q5] at h1; exact h1) ⟨by have := hRP.out.inv.atl; rw [q2] at this; show l.at_ ≤ _; omega, by show (77 : Nat) ≤ _; omega⟩ w9
              go_wp2_with fail
              refine cRF.mono ?_
              clear cRF
              rintro e w11 ⟨rfl, k11⟩
              have hst11 := hst9'.out.keep k11
              have HB11 := Lib.hid hst11.row
              have hat2 : l'.at_ = l.at_ + z := HP'.out.2.2.2.2.1
              have hla2 : l'.last = l.last := HP'.out.2.2.2.1
              have hst12 := hst11.same (rl' := l'.last) (ra' := l'.at_)
              rw [hat2, hla2] at hst12
              have HST12 := Lib.hid hst12
              have HLA := Lib.hid (And.intro hat2 hla2)
              clear u0 u1 u2 u3 u4 u5 k11 hst11 hst9' hst12 hat2 hla2
              go_wp2_with (refine wpList_store_row rfl 96 (.tmp 7) (.tmp 73) rfl B (Rf.cells ⟨3, 77, 154, l.last, l.at_ + z⟩ (.slice ka kn kc)) rfl rfl 96 _ HB11.out (by kernel_rfl) (by rfl) (by kernel_rfl) ?_)
              go_roundw
              case rel =>
                have e1 := HLA.out.1
                have e2 := HLA.out.2
                have e3 := HR4.out.2.2.2.2
                refine ⟨j + 1, l', m4, F', F', ka, kn, kc, rs, ps, l'.last, ps.length, va, vc, by omega, by go_num, rfl, rfl, rfl, by omega, by omega, by omega, by omega, Nat.le_refl _, ?_, Lib.hid HR4.out.1, ?_, Lib.hid HR4.out.2.1⟩
                · exact ⟨HR4.out.2.2.1.trans hnz'.1, HR4.out.2.2.2.1.trans hnz'.2⟩
                · rw [e1, e2]
                  exact HST12
              case measure => simp [intOf]; omega
            ·
              have hc5 : c4 = 4 := by rw [← hc4, e1]
              rw [hm4, hc4] at cS
              rw [hm4] at hss rq4
              subst hc5
              have hl2 : l'.last = l.last := HP'.out.2.2.2.1
              rw [hl2] at rq4
              have HR4 := Lib.hid rq4
              have CS := Lib.hid cS
              clear hm4 hc4 e1 rq4 cS hst8 hl2
              go_wp2_with fail
              refine CS.out.mono ?_
              clear CS
              rintro e w9 ⟨rfl, hst9⟩
              have HST9 := Lib.hid hst9
              clear hst9
              go_wp2_with fail
              go_meet
              case rel => exact ⟨l', m4, l.last, l.at_, _, rs, ps, s0, sure, va, vc, rfl, rfl, rfl, by omega, by omega, hs0, by omega, ⟨hss.1.trans hnz'.1, hss.2.1.trans hnz'.2⟩, HST9, HR4⟩
          ·
            have CF := Lib.hid cF
            have HRQ := Lib.hid hrq'
            clear cF hrq' a1 a2 a3 hd'
            go_wp2_with fail
            refine CF.out.mono ?_
            clear CF
            rintro e w8 ⟨rfl, hst8⟩
            have HST8 := Lib.hid hst8
            clear hst8
            go_wp2_with fail
            go_meet
            case rel => exact ⟨l', m', l.last, l.at_, _, rs, ps, s0, sure, va, vc, rfl, rfl, rfl, by omega, by omega, hs0, by omega, ⟨hnn'.1.trans hnz.1, hnn'.2.trans hnz.2⟩, HST8, HRQ⟩
        ·
          go_wp2_with fail
          refine (bytes11_any _ q (by omega)).mono ?_
          rintro e w8 ⟨v8, rfl, o8, k8⟩
          obtain ⟨bs, hbs⟩ : ∃ bs, q.bs = bs := ⟨_, rfl⟩
          have hbl : bs.length ≤ 400 := by rw [← hbs, q.bs_len]; omega
          rw [hbs] at o8
          obtain ⟨n, hn⟩ : ∃ n, bs.length = n := ⟨_, rfl⟩
          have hbv := o8.bytes (by omega)
          have hv2 := ownb_ge o8
          obtain ⟨va8, vc8, rfl⟩ := ownsRow_form o8
          have hBlt : B < wr.heap.size := (Array.getElem?_eq_some_iff.1 hST.out.row).1
          have hatl : l.at_ ≤ 154 := by have := hRP.out.inv.atl; rw [q2] at this; exact this
          rw [hn] at hbl
          have HN := Lib.hid hn
          have H8 := Lib.hid (And.intro hbv (And.intro hv2 k8))
          clear a0 a1 a2 a3 o8 hbs hn hbv hv2 k8
          by_cases hok : 1 ≤ n ∧ n ≤ 154
          case neg =>
            have cA := append11_no hST.out H8.out.2.2 hRP.out (by omega) (by omega) _ bs H8.out.1 H8.out.2.1 (by rw [HN.out, q2]; omega)
            obtain ⟨code, hcode, hc0⟩ : ∃ code : Int, (if n = 0 then (1 : Int) else 9) = code ∧ (code = 1 ∨ code = 9) := ⟨_, rfl, by split <;> simp⟩
            rw [HN.out, hcode] at cA
            have HCO := Lib.hid hcode
            have hne0 : (code == 0) = false := by rcases hc0 with rfl | rfl <;> rfl
            have hne4 : (code == 4) = false := by rcases hc0 with rfl | rfl <;> rfl
            have CA := Lib.hid cA
            rw [HN.out]
            clear hcode cA hc0
            go_wp2_with fail
            refine CA.out.mono ?_
            clear CA
            rintro e w9 ⟨rfl, hst9, hv9⟩
            go_upto_region 20 with fail
            have hA10 := (Keep.refl [] w9).alloc (.cells #[.int .i64 0, .int .i64 0, .int .i64 0] 103)
            have hst10 := hst9.keep hA10
            have hv10 := hv9.keep hA10 (by simp)
            obtain ⟨w10, hw10⟩ : ∃ w10, w9.alloc (.cells #[.int .i64 0, .int .i64 0, .int .i64 0] 103) = w10 := ⟨_, rfl⟩
            rw [hw10] at hst10 hv10 ⊢
            have u0 := hst10.cl.1
            have u1 := hst10.cl.2.1
            have u2 := hst10.cl.2.2.1
            have u3 := hst10.cl.2.2.2.1
            have u4 := hst10.cl.2.2.2.2.1
            have u5 := hst10.cl.2.2.2.2.2
            have b10 := run_str (P := Try.prog) 42 9 5 Try.underlying42 Try.underlying5 Try.underlying9 hv10
            have cRA := refAppend_no ⟨3, 77, 154, l.last, l.at_⟩ (.slice ka kn kc) ⟨_, _, _, rfl⟩ bs (by rw [HN.out]; omega) (by show (154 : Nat) ≤ _; omega) (by rw [HN.out]; show n = 0 ∨ 154 < n; omega) w10
            rw [HN.out, HCO.out] at cRA
            have HST10 := Lib.hid hst10
            have CRA := Lib.hid cRA
            clear hst9 hv9 hst10 hv10 hA10 cRA
            go_wp2_with fail
            refine CRA.out.mono ?_
            clear CRA u0 u1 u2 u3 u4 u5 b10 hw10
            rintro e w11 ⟨rfl, k11⟩
            have hst11 := HST10.out.keep k11
            have HB11 := Lib.hid hst11.row
            have HST12 := Lib.hid (hst11.same (rl' := l.last) (ra' := l.at_))
            clear hst11 k11
            go_wp2_with (refine wpList_store_row rfl 96 (.tmp 7) (.tmp 91) rfl B (Rf.cells ⟨3, 77, 154, l.last, l.at_⟩ (.slice ka kn kc)) rfl rfl 96 _ HB11.out (by kernel_rfl) (by rfl) (by kernel_rfl) ?_)
            go_roundw
            case rel => exact ⟨j + 1, l, m, F, Fs, ka, kn, kc, rs, ps, s0, sure, va, vc, by omega, by go_num, rfl, rfl, rfl, by omega, by omega, by omega, by omega, hs0, hnz, hDN, HST12, hRP⟩
            case measure => simp [intOf]; omega
          case pos =>
            obtain ⟨qq, aa, hway, hor⟩ := append11 hST.out H8.out.2.2 hRP.out hDN.out (by omega) (by omega) _ bs H8.out.1 H8.out.2.1 (by rw [HN.out]; omega) (by rw [HN.out, q2]; omega) (by rw [HN.out]; omega)
            rw [HN.out, q2] at hway
            rw [HN.out] at hor ⊢
            rcases hor with ⟨l', m', F', hrp', hd', hla', hat', hac', hnn', cA⟩ | ⟨l', m', xx, yy, zz, hd', hac', hrq', hnn', cA⟩
            · have HP' := Lib.hid (And.intro hrp' (And.intro hd' (And.intro hla' hat')))
              have CA := Lib.hid cA
              clear hrp' hd' hla' hat' cA
              go_wp2_with fail
              refine CA.out.mono ?_
              clear CA
              rintro e w9 ⟨rfl, hst9, hv9⟩
              have hA10 := (Keep.refl [] w9).alloc (.cells #[.int .i64 (qq : Int), .int .i64 (aa : Int), .int .i64 (n : Int)] 103)
              have hloc10 := heap_alloc_new w9 (.cells #[.int .i64 (qq : Int), .int .i64 (aa : Int), .int .i64 (n : Int)] 103)
              have hst10 := hst9.keep hA10
              have hv10 := hv9.keep hA10 (by simp)
              have hBlt9 : B < w9.heap.size := (Array.getElem?_eq_some_iff.1 hst9.row).1
              obtain ⟨w10, hw10⟩ : ∃ w10, w9.alloc (.cells #[.int .i64 (qq : Int), .int .i64 (aa : Int), .int .i64 (n : Int)] 103) = w10 := ⟨_, rfl⟩
              rw [hw10] at hst10 hv10 hloc10
              have u0 := hst10.cl.1
              have u1 := hst10.cl.2.1
              have u2 := hst10.cl.2.2.1
              have u3 := hst10.cl.2.2.2.1
              have u4 := hst10.cl.2.2.2.2.1
              have u5 := hst10.cl.2.2.2.2.2
              have b10 := run_str (P := Try.prog) 42 9 5 Try.underlying42 Try.underlying5 Try.underlying9 hv10
              have cRA := refAppend_ok ⟨3, 77, 154, l.last, l.at_⟩ (.slice ka kn kc) rs bs w10 hst10.own (by omega) (by rw [HN.out]; exact hok) ⟨by show (154 : Nat) ≤ _; omega, by show l.last ≤ _; omega, by show l.at_ ≤ _; omega⟩ qq aa (by rw [HN.out]; exact hway)
              obtain ⟨AT, hAT⟩ : ∃ AT, aa + n = AT := ⟨_, rfl⟩
              obtain ⟨rs7, hrs7⟩ : ∃ rs7, rs ++ [⟨qq, aa, bs⟩] = rs7 := ⟨_, rfl⟩
              rw [hrs7] at cRA
              rw [HN.out, hAT] at cRA
              have HRS := Lib.hid hrs7
              have CRA := Lib.hid cRA
              have H10 := Lib.hid (And.intro hst10 (And.intro hv10 hloc10))
              clear hst9 hv9 hv10 hA10 cRA hrs7 hst10 hloc10
              go_wp2_with fail
              refine CRA.out.mono ?_
              clear CRA u0 u1 u2 u3 u4 u5 b10 hw10
              rintro e w11 ⟨kv7, rfl, own11, k11⟩
              obtain ⟨ka7, kc7, rfl⟩ := own11.form
              obtain ⟨hst10, hv10, hloc10⟩ := H10.out
              have HB11 := Lib.hid ((hst10.keep k11).row)
              have hst12 := hst10.fresh k11 own11 (rl' := qq) (ra' := AT)
              have kS : Keep [B] w11 (w11.setRow B (Rf.cells ⟨3, 77, 154, qq, AT⟩ (.slice ka7 rs7.length kc7))) := (Keep.refl _ _).setRow (.inl (by simp)) _
              have hv12 := (hv10.keep k11 (by simp)).keep kS (fun b hb hm => by
                have h1 := H8.out.2.1 b (by rw [HN.out]; exact hb)
                rw [List.mem_singleton] at hm
                omega)
              have hloc12 := kS.blk (fun hm => by rw [List.mem_singleton] at hm; omega) (k11.blk (by simp) hloc10)
              clear kS hv10 H10
              have HST12 := Lib.hid hst12
              have HV12 := Lib.hid hv12
              have HLOC := Lib.hid hloc12
              clear hst12 hv12 hloc12 k11 own11 hst10 hloc10
              go_upto_region 22 with (refine wpList_store_row rfl 96 (.tmp 7) (.tmp 91) rfl B (Rf.cells ⟨3, 77, 154, qq, AT⟩ (.slice ka7 rs7.length kc7)) rfl rfl 96 _ HB11.out (by kernel_rfl) (by rfl) (by kernel_rfl) ?_)
              obtain ⟨w12, hw12⟩ : ∃ w12, w11.setRow B (Rf.cells ⟨3, 77, 154, qq, AT⟩ (.slice ka7 rs7.length kc7)) = w12 := ⟨_, rfl⟩
              rw [hw12] at HST12 HV12 HLOC ⊢
              clear hw12 HB11
              have p0 := cell_of_row w12 _ 0 _ _ _ HLOC.out
              have p1 := cell_of_row w12 _ 1 _ _ _ HLOC.out
              have p2 := cell_of_row w12 _ 2 _ _ _ HLOC.out
              simp at p0 p1 p2
              have b12 := run_str (P := Try.prog) 42 9 5 Try.underlying42 Try.underlying5 Try.underlying9 HV12.out
              have hA13 := (Keep.refl [] w12).alloc (.cells #[.int .i64 (qq : Int), .int .i64 (aa : Int), .int .i64 (n : Int), .string ⟨bs.toArray⟩] 110)
              have hB13 := heap_alloc_new w12 (.cells #[.int .i64 (qq : Int), .int .i64 (aa : Int), .int .i64 (n : Int), .string ⟨bs.toArray⟩] 110)
              have hst13 := HST12.out.keep hA13
              have hB13' : (w12.alloc (.cells #[.int .i64 (qq : Int), .int .i64 (aa : Int), .int .i64 (n : Int), .string ⟨bs.toArray⟩] 110)).heap[w12.heap.size]? = some (.cells (kenc ⟨qq, aa, bs⟩).toArray 110 (0, 0)) := by rw [hB13]; unfold kenc; simp [HN.out]
              obtain ⟨v14, w14, hrun, ho14, hk14, hloc⟩ := run_append_one (P := Try.prog) (ty := 94) klies Try.underlying94 kept_info rfl (by decide) (by decide) w0.heap.size (show RowE kenc 4 110 _ _ _ _ from hst13.kept) w12.heap.size ⟨qq, aa, bs⟩ hB13' (by omega) hst13.k.size
              obtain ⟨va14, vc14, rfl⟩ := ho14.form
              have HST14 := Lib.hid (hst13.app (show KRow _ _ _ _ from ho14) hk14 hloc)
              have HR := Lib.hid hrun
              rw [List.length_append, List.length_singleton] at HR
              clear hA13 hB13 hB13' hst13 hrun ho14 hk14 hloc
              go_wp2_with (at_builtin; refine wpList_append_run rfl (.tmp 98) (.tmp 109) 94 rfl (w' := w14) rfl rfl HR.out ?_)
              clear p0 p1 p2 b12
              go_roundw
              case rel =>
                refine ⟨j + 1, l', m', F', Fs, ka7, rs7.length, kc7, rs7, ps ++ [⟨qq, aa, bs⟩], s0, sure, va14, vc14, by omega, by go_num, by simp, rfl, rfl, ?_, by omega, ?_, by simp; omega, ?_, ⟨hnn'.1.trans hnz.1, hnn'.2.trans hnz.2⟩, Lib.hid HP'.out.2.1, ?_, Lib.hid HP'.out.1⟩
                · rw [HP'.out.2.2.1]; omega
                · rw [← HRS.out, List.length_append]; simp; omega
                · rw [HP'.out.2.2.1]; omega
                · rw [HP'.out.2.2.1, HP'.out.2.2.2, hAT]
                  exact HST14
              case measure => simp [intOf]; omega
            · have HRQ := Lib.hid hrq'
              have CA := Lib.hid cA
              clear hrq' hd' cA
              go_wp2_with fail
              refine CA.out.mono ?_
              clear CA
              rintro e w9 ⟨rfl, hst9, hv9⟩
              have hA10 := (Keep.refl [] w9).alloc (.cells #[.int .i64 xx, .int .i64 yy, .int .i64 zz] 103)
              have hloc10 := heap_alloc_new w9 (.cells #[.int .i64 xx, .int .i64 yy, .int .i64 zz] 103)
              have hst10 := hst9.keep hA10
              have hv10 := hv9.keep hA10 (by simp)
              have hBlt9 : B < w9.heap.size := (Array.getElem?_eq_some_iff.1 hst9.row).1
              obtain ⟨w10, hw10⟩ : ∃ w10, w9.alloc (.cells #[.int .i64 xx, .int .i64 yy, .int .i64 zz] 103) = w10 := ⟨_, rfl⟩
              rw [hw10] at hst10 hv10 hloc10
              have u0 := hst10.cl.1
              have u1 := hst10.cl.2.1
              have u2 := hst10.cl.2.2.1
              have u3 := hst10.cl.2.2.2.1
              have u4 := hst10.cl.2.2.2.2.1
              have u5 := hst10.cl.2.2.2.2.2
              have b10 := run_str (P := Try.prog) 42 9 5 Try.underlying42 Try.underlying5 Try.underlying9 hv10
              have cRA := refAppend_ok ⟨3, 77, 154, l.last, l.at_⟩ (.slice ka kn kc) rs bs w10 hst10.own (by omega) (by rw [HN.out]; exact hok) ⟨by show (154 : Nat) ≤ _; omega, by show l.last ≤ _; omega, by show l.at_ ≤ _; omega⟩ qq aa (by rw [HN.out]; exact hway)
              obtain ⟨AT, hAT⟩ : ∃ AT, aa + n = AT := ⟨_, rfl⟩
              obtain ⟨rs7, hrs7⟩ : ∃ rs7, rs ++ [⟨qq, aa, bs⟩] = rs7 := ⟨_, rfl⟩
              rw [hrs7] at cRA
              rw [HN.out, hAT] at cRA
              have HRS := Lib.hid hrs7
              have CRA := Lib.hid cRA
              have H10 := Lib.hid (And.intro hst10 (And.intro hv10 hloc10))
              clear hst9 hv9 hv10 hA10 cRA hrs7 hst10 hloc10
              go_wp2_with fail
              refine CRA.out.mono ?_
              clear CRA u0 u1 u2 u3 u4 u5 b10 hw10
              rintro e w11 ⟨kv7, rfl, own11, k11⟩
              obtain ⟨ka7, kc7, rfl⟩ := own11.form
              obtain ⟨hst10, hv10, hloc10⟩ := H10.out
              have HB11 := Lib.hid ((hst10.keep k11).row)
              have hst12 := hst10.fresh k11 own11 (rl' := qq) (ra' := AT)
              have kS : Keep [B] w11 (w11.setRow B (Rf.cells ⟨3, 77, 154, qq, AT⟩ (.slice ka7 rs7.length kc7))) := (Keep.refl _ _).setRow (.inl (by simp)) _
              have hv12 := (hv10.keep k11 (by simp)).keep kS (fun b hb hm => by
                have h1 := H8.out.2.1 b (by rw [HN.out]; exact hb)
                rw [List.mem_singleton] at hm
                omega)
              have hloc12 := kS.blk (fun hm => by rw [List.mem_singleton] at hm; omega) (k11.blk (by simp) hloc10)
              clear kS hv10 H10
              have HST12 := Lib.hid hst12
              clear hst12 hv12 hloc12 k11 own11 hst10 hloc10
              go_wp2_with (refine wpList_store_row rfl 96 (.tmp 7) (.tmp 91) rfl B (Rf.cells ⟨3, 77, 154, qq, AT⟩ (.slice ka7 rs7.length kc7)) rfl rfl 96 _ HB11.out (by kernel_rfl) (by rfl) (by kernel_rfl) ?_)
              go_meet
              case rel => exact ⟨l', m', qq, AT, _, rs7, ps, s0, sure, va, vc, rfl, rfl, rfl, by omega, by omega, by omega, by omega, ⟨hnn'.1.trans hnz.1, hnn'.2.trans hnz.2⟩, HST12, HRQ⟩
      · have hlti : ¬ (j : Int) < (pl.length : Int) := by omega
        go_wp2_with fail
        go_meet
        case rel => exact ⟨l, m, l.last, l.at_, _, rs, ps, s0, sure, va, vc, rfl, rfl, rfl, by omega, by omega, hs0, by omega, hnz, hST, Lib.hid hRP.out.post⟩
  case rest =>
  obtain ⟨l, m, rl, ra, kv, rs, ps, s0, sure, va, vc, rfl, rfl, rfl, hac, hrlb, hs0, hpsb, hnz, hST, hRQ⟩ := hcut
  obtain ⟨D2, E2, ⟨pv2, r1⟩, r2⟩ := hST.out.mem
  have hcr := crash_any wc D2 g m r1.dv (by omega) _ fl (HS.out.2.keep (HA.out.trans hST.out.k) (by simp)) (fun hn b hb hm => by have := (r2 b (.inr hm)).1; have := HS.out.2.lt hn b hb; have := HW0.out; omega)
  have x2 := G.out.2.2 wc hST.out.k
  have hmc0 : (m.crash fl).down = false ∧ (m.crash fl).acts ≤ 1000000000 ∧ (m.crash fl).n = 60 ∧ (m.crash fl).sz = 96 := ⟨rfl, by show m.acts ≤ _; omega, hnz.1, hnz.2⟩
  have hrc := fun hc => read_crash hRQ.out (fates := fl) hc hs0
  obtain ⟨mc, hmc⟩ : ∃ mc, m.crash fl = mc := ⟨_, rfl⟩
  rw [hmc] at hcr hmc0 hrc
  have HRC := Lib.hid hrc
  have HMC := Lib.hid hmc0
  have HR2 := Lib.hid r2
  clear hmc hrc hmc0 r2 r1 HST0 HMD
  go_wp2_with fail
  refine hcr.mono ?_
  clear hcr x2
  rintro e w5 ⟨rfl, D5, hD5, hG5, hK5⟩
  have hk05 : Keep [] w0 w5 := hST.out.k.trans' hK5 (fun b hb => .inr (HR2.out b (.inr hb)).1)
  have hrow5 := hST.out.kept.keep hK5 (fun b hb hm => (HR2.out b (.inr hm)).2.2.2 hb)
  have hB5 := hK5.blk (fun hm => (HR2.out B (.inr hm)).2.1 rfl) hST.out.row
  have cF := foul11_any w5 D5 g mc hD5 HMC.out.1 HMC.out.2.1
  have H5 := Lib.hid (And.intro hD5 (And.intro hk05 (And.intro hrow5 hB5)))
  clear hD5 hk05 hrow5 hG5 hK5 hB5
  go_wp2_with fail
  refine cF.mono ?_
  clear cF
  rintro e w6 ⟨fb, rfl, hfb, k6⟩
  cases fb with
  | true =>
    clear hfb
    go_wp2_with fail
    refine (awake11_any _).mono ?_
    rintro e w7 ⟨rfl, k7⟩
    have HK7 := Lib.hid (H5.out.2.1.trans (k6.trans k7))
    clear k6 k7
    go_wp2
    go_ret
    exact ⟨rfl, (HA.out.trans HK7.out).below (Nat.le_refl _) (by simp)⟩
  | false =>
    obtain ⟨L, hsc, hL1, hL2, hrd⟩ := HRC.out (hfb rfl)
    go_wp2_with fail
    refine (small_any w6).mono ?_
    rintro e w7 ⟨rfl, k7⟩
    have k57 := k6.trans k7
    have cO := HOP.out w7 D5 mc (H5.out.1.keep k57 (by simp)) HMC.out.2.2 HMC.out.2.1 s0 L (by omega) hsc
    have H7 := Lib.hid (And.intro hrd (And.intro (H5.out.2.1.trans k57) (And.intro (H5.out.2.2.1.keep k57 (by simp)) (k57.blk (by simp) H5.out.2.2.2))))
    clear hfb hsc hrd k6 k7 k57
    go_wp2_with fail
    refine cO.mono ?_
    clear cO
    rintro e w8 ⟨k8, gl', rfl, hrv8⟩
    obtain ⟨pv8, hrvat⟩ := id hrv8
    have cLa := last_any w8 gl' g c ⟨L, 154, []⟩ pv8 hrvat.row
    have hL1i : ¬ (L : Int) < (s0 : Int) := by omega
    have H8 := Lib.hid (And.intro hrv8 (And.intro (H7.out.2.1.trans k8) (And.intro (H7.out.2.2.1.keep k8 (by simp)) (k8.blk (by simp) H7.out.2.2.2))))
    clear hrv8 hrvat k8
    go_wp2_with fail
    refine cLa.mono ?_
    clear cLa
    rintro e w9 ⟨rfl, rfl⟩
    obtain ⟨P, hP⟩ : ∃ P, ps.length = P := ⟨_, rfl⟩
    have HP := Lib.hid hP
    rw [hP] at hpsb ⊢
    clear hP
    go_wp2
    go_loopw [16] (fun i wr => ∃ j : Nat, j ≤ P ∧ i = .int .i64 j ∧ Hid (Keep [] w8 wr)) (fun i _ => P - (intOf i).toNat)
    case atStart => exact ⟨0, by omega, rfl, Lib.hid (Keep.refl _ _)⟩
    case round =>
      obtain ⟨j, hj, rfl, HK⟩ := hrel
      rename World => wr
      by_cases hjP : j < P
      · have hji : (j : Int) < (P : Int) := by omega
        have hjl : j < ps.length := by rw [HP.out]; exact hjP
        have hkr := H8.out.2.2.1.keep HK.out (by simp)
        rw [HP.out] at hkr
        obtain ⟨gk, rfl, -, hkc⟩ := KRow.cells hkr hjl
        have hor := H7.out.1 154 j hjl
        obtain ⟨kp, hkp⟩ : ∃ kp, ps[j] = kp := ⟨_, rfl⟩
        rw [hkp] at hkc hor
        obtain ⟨kq, ka', kb⟩ := kp
        have hkb : kb.length ≤ 1000 := by
          obtain ⟨_, _, _, _, _, _, _, _, hgd, _⟩ := hRQ.out
          have h1 := (hgd _ (List.getElem_mem hjl)).b2
          rw [hkp] at h1
          exact h1
        simp only at hor
        have cR := fun w' (h' : Keep [] wr w') => readL_any w' D5 [gl'] gl' g c ⟨L, 154, []⟩ mc (H8.out.1.keep (HK.out.trans h') (by simp)) HMC.out.2.1 (HFIT.out L 0 (by omega)) (kq : Int) (ka' : Int) (kb.length : Int)
        have cLa := fun w' (h' : Keep [] wr w') => (by
          obtain ⟨pv9, hv9⟩ := H8.out.1.keep (HK.out.trans h') (by simp)
          exact last_any w' gl' g c ⟨L, 154, []⟩ pv9 hv9.row : Calls Try.prog 52 #[.pointer (some ⟨gl', 0, none⟩)] w' fun e w2 => e = .returned (.int .i64 (L : Int)) ∧ w' = w2)
        have y0 := hkc 0 _ rfl
        have y1 := hkc 1 _ rfl
        have y2 := hkc 2 _ rfl
        simp only [Nat.add_zero] at y0
        obtain ⟨rd, hrde⟩ : ∃ rd, c.read ⟨L, 154, []⟩ mc (kq : Int) (ka' : Int) (kb.length : Int) = rd := ⟨_, rfl⟩
        rw [hrde] at hor
        simp only [hrde] at cR
        have HKC := Lib.hid hkc
        have CR := Lib.hid cR
        have CLA := Lib.hid cLa
        have HOR := Lib.hid hor
        clear hkr hkp hkc cR cLa hor hrde hjl
        go_wp2_with fail
        refine (loc11_any _ _ _ _).mono ?_
        rintro e w10 ⟨rfl, k10⟩
        have cR := CR.out w10 k10
        clear y0 y1 y2
        go_wp2_with fail
        refine cR.mono ?_
        clear cR
        rintro e w11 ⟨v11, rfl, o11, k11⟩
        obtain ⟨va11, vc11, rfl⟩ := ownsRow_form o11
        have HK11 := Lib.hid (k10.trans k11)
        rcases HOR.out with ⟨hrd, hno⟩ | hrd
        · subst hrd
          simp only [List.length_nil]
          have HNO := Lib.hid hno
          clear o11 k10 k11 hno
          go_upto_region 34 with fail
          refine wp_region_his [] [] (fun _ => 0) (by kernel_rfl) (by kernel_rfl) ?_
          intro w12 hk12 hh
          clear hh
          have HK12 := Lib.hid (HK11.out.trans hk12)
          clear hk12
          (repeat (first | (refine his_q rfl rfl (fun K hK => ?_); apply Exists.intro; refine ⟨fun w' hC => ?_, ?_⟩; ((try simp [Sg.upd] at hC); go_simp <;> rfl); go_simp; refine hK _ _ ?_; clear hK K) | (refine his_s rfl (fun K hK => ?_); go_simp; refine hK _ _ ?_; clear hK K)))
          refine his_nil ?_
          go_upto_region 36 with fail
          refine wp_region_his [] [15] (fun _ => 0) (by kernel_rfl) (by kernel_rfl) ?_
          intro w13 hk13 hh
          clear hh
          have HK13 := Lib.hid (HK12.out.trans hk13)
          have u0 := fun w' (h' : Keep [] w13 w') => (HK13.out.trans h').cell (by simp) (HKC.out 0 _ rfl)
          have r3 := fun w' (h' : Keep [] w13 w') => cell_of_row w' _ 3 _ _ _ (((HK.out.trans HK13.out).trans h').blk (by simp) H8.out.2.2.2)
          simp only [Nat.add_zero] at u0
          simp [Rf.cells] at r3
          clear hk13
          have wz1 : IntKind.i64.wrap ((L : Int) - 3) = (L : Int) - 3 := i64_wrap (by omega) (by omega)
          have wz2 : IntKind.i64.wrap ((rl : Int) - 3) = (rl : Int) - 3 := i64_wrap (by omega) (by omega)
          by_cases hsu : j < sure
          · have hsui : (j : Int) < (sure : Int) := by omega
            by_cases hq1 : (L : Int) - 3 < (kq : Int)
            · have hq2 : ¬ (rl : Int) - 3 < (kq : Int) := fun h => HNO.out hsu (by omega) (by omega)
              have HQ2 := Lib.hid hq2
              have hd1 : decide ((L : Int) - 3 < (kq : Int)) = true := decide_eq_true hq1
              have hd2 : decide ((rl : Int) - 3 < (kq : Int)) = false := decide_eq_false hq2
              (repeat (first | (refine his_q rfl rfl (fun K hK => ?_); apply Exists.intro; refine ⟨fun w' hC => ?_, ?_⟩; ((try simp [Sg.upd] at hC); go_simp <;> rfl); go_simp; refine hK _ _ ?_; clear hK K) | (refine his_s rfl (fun K hK => ?_); go_simp; refine hK _ _ ?_; clear hK K)))
              (refine his_l rfl rfl (fun K hK => ?_); go_simp)
              refine (CLA.out _ HK13.out).mono ?_
              rintro e w14 ⟨rfl, rfl⟩
              refine hK _ _ (Keep.refl _ _) ?_
              clear hK K
              (repeat (first | (refine his_q rfl rfl (fun K hK => ?_); apply Exists.intro; refine ⟨fun w' hC => ?_, ?_⟩; ((try simp [Sg.upd] at hC); go_simp <;> rfl); go_simp; refine hK _ _ ?_; clear hK K) | (refine his_s rfl (fun K hK => ?_); go_simp; refine hK _ _ ?_; clear hK K)))
              refine his_nil ?_
              clear u0 r3
              go_wp2
              go_roundw
              case rel => exact ⟨j + 1, by omega, by go_num, Lib.hid (HK.out.trans HK13.out)⟩
              case measure => simp [intOf]; omega
            · have hd1 : decide ((L : Int) - 3 < (kq : Int)) = false := decide_eq_false hq1
              (repeat (first | (refine his_q rfl rfl (fun K hK => ?_); apply Exists.intro; refine ⟨fun w' hC => ?_, ?_⟩; ((try simp [Sg.upd] at hC); go_simp <;> rfl); go_simp; refine hK _ _ ?_; clear hK K) | (refine his_s rfl (fun K hK => ?_); go_simp; refine hK _ _ ?_; clear hK K)))
              (refine his_l rfl rfl (fun K hK => ?_); go_simp)
              refine (CLA.out _ HK13.out).mono ?_
              rintro e w14 ⟨rfl, rfl⟩
              refine hK _ _ (Keep.refl _ _) ?_
              clear hK K
              (repeat (first | (refine his_q rfl rfl (fun K hK => ?_); apply Exists.intro; refine ⟨fun w' hC => ?_, ?_⟩; ((try simp [Sg.upd] at hC); go_simp <;> rfl); go_simp; refine hK _ _ ?_; clear hK K) | (refine his_s rfl (fun K hK => ?_); go_simp; refine hK _ _ ?_; clear hK K)))
              refine his_nil ?_
              clear u0 r3
              go_wp2
              go_roundw
              case rel => exact ⟨j + 1, by omega, by go_num, Lib.hid (HK.out.trans HK13.out)⟩
              case measure => simp [intOf]; omega
          · have hsui : ¬ (j : Int) < (sure : Int) := by omega
            (repeat (first | (refine his_q rfl rfl (fun K hK => ?_); apply Exists.intro; refine ⟨fun w' hC => ?_, ?_⟩; ((try simp [Sg.upd] at hC); go_simp <;> rfl); go_simp; refine hK _ _ ?_; clear hK K) | (refine his_s rfl (fun K hK => ?_); go_simp; refine hK _ _ ?_; clear hK K)))
            refine his_nil ?_
            clear u0 r3
            go_wp2
            go_roundw
            case rel => exact ⟨j + 1, by omega, by go_num, Lib.hid (HK.out.trans HK13.out)⟩
            case measure => simp [intOf]; omega
        · subst hrd
          try simp only at o11
          try simp only []
          have hb11 : kb.length ≤ 140737488355328 := by have := hkb; omega
          have HB11 := Lib.hid (o11.bytes hb11)
          clear o11 k10 k11 hb11
          go_upto_region 34 with fail
          refine wp_region_his [] [] (fun _ => 0) (by kernel_rfl) (by kernel_rfl) ?_
          intro w12 hk12 hh
          clear hh
          have HK12 := Lib.hid (HK11.out.trans hk12)
          have b12 := fun w' (h' : Keep [] w12 w') => run_str (P := Try.prog) 42 9 5 Try.underlying42 Try.underlying5 Try.underlying9 (HB11.out.keep (hk12.trans h') (by simp))
          have u3 := fun w' (h' : Keep [] w12 w') => (HK12.out.trans h').cell (by simp) (HKC.out 3 _ rfl)
          clear hk12
          (repeat (first | (refine his_q rfl rfl (fun K hK => ?_); apply Exists.intro; refine ⟨fun w' hC => ?_, ?_⟩; ((try simp [Sg.upd] at hC); go_simp <;> rfl); go_simp; refine hK _ _ ?_; clear hK K) | (refine his_s rfl (fun K hK => ?_); go_simp; refine hK _ _ ?_; clear hK K)))
          refine his_nil ?_
          clear b12 u3
          go_upto_region 36 with fail
          refine wp_region_his [] [15] (fun _ => 0) (by kernel_rfl) (by kernel_rfl) ?_
          intro w13 hk13 hh
          clear hh
          have HK13 := Lib.hid (HK12.out.trans hk13)
          clear hk13
          (repeat (first | (refine his_q rfl rfl (fun K hK => ?_); apply Exists.intro; refine ⟨fun w' hC => ?_, ?_⟩; ((try simp [Sg.upd] at hC); go_simp <;> rfl); go_simp; refine hK _ _ ?_; clear hK K) | (refine his_s rfl (fun K hK => ?_); go_simp; refine hK _ _ ?_; clear hK K)))
          refine his_nil ?_
          go_wp2
          go_roundw
          case rel => exact ⟨j + 1, by omega, by go_num, Lib.hid (HK.out.trans HK13.out)⟩
          case measure => simp [intOf]; omega
      · have hji : ¬ (j : Int) < (P : Int) := by omega
        go_wp2_with fail
        refine (awake11_any _).mono ?_
        rintro e w10 ⟨rfl, k10⟩
        have HK10 := Lib.hid (H8.out.2.1.trans (HK.out.trans k10))
        clear k10
        go_wp2
        go_ret
        exact ⟨rfl, (HA.out.trans HK10.out).below (Nat.le_refl _) (by simp)⟩
end Go.Proofs.Ytjkjiabfhhnngaa

