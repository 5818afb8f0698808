import Derived.Test.YtjkjiabfhhnngaaStorm12Do
import Derived.Test.YtjkjiabfhhnngaaStorm12Open
import Derived.Test.YtjkjiabfhhnngaaFoul12
import Derived.Test.YtjkjiabfhhnngaaFlash14
import Derived.Outline
import Derived.Deep.CutBlock
/-! The walk of the law DeltaWhole. -/
namespace Go.Proofs.Ytjkjiabfhhnngaa
open Go.RowKit Go.Shelf Sg
set_option linter.unusedSimpArgs false
set_option linter.unusedVariables false

theorem Sd.init (n : Int) (hn : n ≤ 9223372036854775807) : Sd ⟨1, 1, 0, []⟩ ((Dev.new 60 96).arm n) [] 1 [] 0 :=
  { wf := { Dev.new_wf 60 96 (by decide) with ar := by show n.toNat ≤ _; omega }, n60 := rfl, s96 := rfl, fit := ⟨by decide, by decide, by decide, by decide, by decide, ⟨fun x hx => by simp at hx, fun x hx => by simp at hx⟩⟩, pl := by decide, left := by decide, nx := rfl, bn := fun i h => by simp at h, bo := fun x hx => by simp at hx,
    ps := fun a ha y hy => by
      have e : ((Dev.new 60 96).arm n).past.getD (2 + a) [] = [] := by
        show (List.replicate 60 ([] : List (List UInt8))).getD (2 + a) [] = []
        rw [List.getD_eq_getElem?_getD, List.getElem?_replicate]
        split <;> rfl
      rw [e] at hy
      simp at hy
    s1 := Nat.le_refl _, s2 := Nat.le_refl _, get := fun x hx => by simp at hx, fast := fun x hx => by simp at hx, ad := rfl, su := rfl }

set_option maxRecDepth 100000 in
set_option maxHeartbeats 1000000 in
set_option maxHeartbeats 16000000 in
theorem deltaWholeWalk (W : World) (pv fv : Value) (pl : List DAct) (fl : List Int) (dn : Int) (hp : DActs W pv pl) (hf : Ints W fv fl) (hdn : dn ≤ 9223372036854775807) :
    Calls Try.prog 11 #[.agg #[pv, .int .i64 dn, fv]] W fun e W' => e = .returned (.bool true) ∧ Below W.heap.size W W' := by
  obtain ⟨pa, pcap, rfl, -⟩ := hp.form
  obtain ⟨fa, fc, rfl, -⟩ := hf.form
  obtain ⟨w0, hw0⟩ : ∃ w0, W.alloc (.cells #[.slice pa pl.length pcap, .int .i64 dn, .slice fa fl.length fc] 150) = w0 := ⟨_, rfl⟩
  have hA : Keep [] W w0 := by rw [← hw0]; exact (Keep.refl [] W).alloc _
  have hB : w0.heap[W.heap.size]? = some (.cells #[.slice pa pl.length pcap, .int .i64 dn, .slice fa fl.length fc] 150 (0, 0)) := by rw [← hw0]; exact heap_alloc_new W _
  have g0 := fun w' (h' : Keep [] w0 w') => cell_of_row w' _ 0 _ _ _ (h'.blk (by simp) hB)
  have g1 := fun w' (h' : Keep [] w0 w') => cell_of_row w' _ 1 _ _ _ (h'.blk (by simp) hB)
  have g2 := fun w' (h' : Keep [] w0 w') => cell_of_row w' _ 2 _ _ _ (h'.blk (by simp) hB)
  simp at g0 g1 g2
  have G := Lib.hid (And.intro g0 (And.intro g1 g2))
  have HS := Lib.hid (And.intro hp hf)
  have HA := Lib.hid hA
  have cN := fun w : World => (newDev_any 60 96 (by decide) w : Calls Try.prog 13 #[.int .i64 60, .int .i64 96] w _)
  clear g0 g1 g2 hp hf hA hB
  have x0 := G.out.1 w0 (Keep.refl _ _)
  have x2 := G.out.2.2 w0 (Keep.refl _ _)
  go_enter Try.func11, Try.ntmps11
  by_cases hb1 : 80 < pl.length
  · have hb' : (80 : Int) < (pl.length : Int) := by omega
    go_wp2
    go_ret
    exact ⟨rfl, HA.out.below (Nat.le_refl _) (by simp)⟩
  have hb1' : ¬ (80 : Int) < (pl.length : Int) := by omega
  by_cases hb2 : 60 < fl.length
  · have hb' : (60 : Int) < (fl.length : Int) := by omega
    go_wp2
    go_ret
    exact ⟨rfl, HA.out.below (Nat.le_refl _) (by simp)⟩
  have hb2' : ¬ (60 : Int) < (fl.length : Int) := by omega
  go_wp2_with fail
  refine (cN w0).mono ?_
  rintro e w1 ⟨g, D, rfl, hD, k1, hf1⟩
  have HL := Lib.hid (And.intro hb1 hb2)
  have HW0 := Lib.hid (HA.out.size)
  clear cN x0 x2 hb1 hb1' hb2 hb2' hw0
  go_wp2_with fail
  refine (small12_any w1).mono ?_
  rintro e w2 ⟨rfl, k2⟩
  have cFF := formatD_any w2 D g _ (hD.keep k2 (by simp)) rfl rfl
  have hlt := hD.lt
  have hs1 := k1.size
  have hs2 := k2.size
  have HD := Lib.hid (And.intro hf1 (And.intro hlt (k1.trans k2)))
  clear hD hf1 hlt k1 k2
  go_wp2_with fail
  refine cFF.mono ?_
  clear cFF
  rintro e w3 ⟨k3, gl, rfl, hgl, hdl⟩
  have hdl' : DL w3 D [gl] gl g dc12 ⟨1, 1, 0, []⟩ (Dev.new 60 96) := ⟨_, hdl⟩
  have x1 := G.out.2.1 w3 (HD.out.2.2.trans k3)
  have cA := arm_any w3 D g _ hdl.dv dn hdn
  have HDL := Lib.hid (And.intro hdl' (HD.out.2.2.trans k3))
  clear hdl hdl' k3
  go_wp2_with fail
  refine cA.mono ?_
  clear cA x1
  rintro e w4 ⟨rfl, hd4, k4⟩
  have hst0 : St12 w0 w4 gl g ⟨1, 1, 0, []⟩ ((Dev.new 60 96).arm dn) (.slice none 0 0) [] := by
    refine ⟨HDL.out.2.trans' k4 (fun b hb => .inr (HD.out.1 b hb)), ⟨D, [gl], HDL.out.1.dev hd4 (Grew.refl _ _) k4 rfl rfl, fun b hb => ⟨?_, by simp [Value.ownBlock]⟩⟩, RowE.nil⟩
    rcases hb with hb | hb
    · rw [List.mem_singleton.1 hb]
      omega
    · exact HD.out.1 b hb
  have hsd0 := Sd.init dn hdn
  obtain ⟨m0, hm0⟩ : ∃ m0, (Dev.new 60 96).arm dn = m0 := ⟨_, rfl⟩
  have hm0d : m0.down = false ∧ m0.acts = 0 := by rw [← hm0]; exact ⟨rfl, rfl⟩
  rw [hm0] at hst0 hsd0
  have HST0 := Lib.hid hst0
  have HSD0 := Lib.hid hsd0
  have HM0 := Lib.hid hm0d
  clear hst0 hsd0 hm0d hm0 hd4 k4 HDL HD hs1 hs2 hgl
  go_upto_block 0 with fail
  go_cut [6, 7, 8] from 40 to 103 (fun s6 s7 s8 wx => ∃ (l : Dl) (m : Dev) (B : List Bt) (s : Nat) (added : List Ch) (sure : Nat) (va : Option Addr) (vc : Nat),
      s6 = .slice va added.length vc ∧ s7 = .int .i64 (sure : Int) ∧ s8 = .int .i64 (l.fr : Int) ∧ l.nx ≤ 200 ∧ m.acts ≤ 200 ∧ added.length ≤ 200 ∧
      Hid (St12 w0 wx gl g l m (.slice va added.length vc) added) ∧ Hid (Sd l m B s added sure))
  case first =>
    have hpl : pl.length ≤ 80 := by have := HL.out.1; omega
    go_wp2_with fail
    go_loopw [6, 7, 8, 9] (fun s6 s7 s8 i wr => ∃ (j : Nat) (l : Dl) (m : Dev) (B : List Bt) (s : Nat) (added : List Ch) (sure : Nat) (va : Option Addr) (vc : Nat), j ≤ pl.length ∧ i = .int .i64 j ∧
        s6 = .slice va added.length vc ∧ s7 = .int .i64 (sure : Int) ∧ s8 = .int .i64 (l.fr : Int) ∧ l.nx ≤ j + 1 ∧ m.acts ≤ 2 * j ∧ added.length ≤ j ∧ Hid (m.down = false) ∧
        Hid (St12 w0 wr gl g l m (.slice va added.length vc) added) ∧ Hid (Sd l m B s added sure)) (fun _ _ _ i _ => pl.length - (intOf i).toNat)
    case atStart => exact ⟨0, ⟨1, 1, 0, []⟩, m0, [], 1, [], 0, none, 0, by omega, rfl, rfl, rfl, rfl, (by decide), (by rw [HM0.out.2]; decide), (by decide), Lib.hid HM0.out.1, HST0, HSD0⟩
    case round =>
      clear HST0 HSD0 HM0
      obtain ⟨j, l, m, B, s, added, sure, va, vc, hj, rfl, rfl, rfl, rfl, hnx, hac, hal, hDN, hST, hSD⟩ := hrel
      rename World => wr
      have x0 := G.out.1 wr hST.out.k
      have hacts : m.acts ≤ 1000000000 := by omega
      by_cases hlt : j < pl.length
      · obtain ⟨b, o, rfl, hbW, hcell⟩ := HS.out.1.spot hlt
        have hok := HS.out.1.each hlt
        obtain ⟨q, hq⟩ : ∃ q, pl[j] = q := ⟨_, rfl⟩
        rw [hq] at hcell hok
        have hlti : (j : Int) < (pl.length : Int) := by omega
        have a0 := hcell wr (HA.out.trans hST.out.k) 0 _ rfl
        have a1 := hcell wr (HA.out.trans hST.out.k) 1 _ rfl
        have a2 := hcell wr (HA.out.trans hST.out.k) 2 _ rfl
        have a3 := hcell wr (HA.out.trans hST.out.k) 3 _ rfl
        have a4 := hcell wr (HA.out.trans hST.out.k) 4 _ rfl
        have a5 := hcell wr (HA.out.trans hST.out.k) 5 _ rfl
        have a6 := hcell wr (HA.out.trans hST.out.k) 6 _ rfl
        clear hcell hq
        simp only [Nat.add_zero] at a0
        obtain ⟨qk, qx, qt⟩ := q
        obtain ⟨hqh⟩ := hok
        simp only at a0 a1 a2 a3 a4 a5 a6 hqh
        obtain ⟨t, r, z1, z2, z3, z4, z5, z6, z7⟩ := kind6 qk
        obtain ⟨w2, hw2⟩ : ∃ w2, wr.alloc (.cells #[.int .i64 qk, .bool qx.drop, .int .u64 (qx.hash : Int), .int .i64 qx.r, .int .i64 qx.a, .int .i64 qx.s, .int .i64 qt] 158) = w2 := ⟨_, rfl⟩
        have hk2 : Keep [] wr w2 := by rw [← hw2]; exact (Keep.refl [] wr).alloc _
        have hb2 : w2.heap[wr.heap.size]? = some (.cells #[.int .i64 qk, .bool qx.drop, .int .u64 (qx.hash : Int), .int .i64 qx.r, .int .i64 qx.a, .int .i64 qx.s, .int .i64 qt] 158 (0, 0)) := by rw [← hw2]; exact heap_alloc_new wr _
        have h2 := Lib.hid (hST.out.keep hk2)
        go_upto_region 14 with fail
        have HB2 := Lib.hid hb2
        have HK2 := Lib.hid hk2
        clear a0 a1 a2 a3 a4 a5 a6 hw2 hk2 hb2 x0
        have a0 := cell_of_row w2 _ 0 _ _ _ HB2.out
        have a6 := cell_of_row w2 _ 6 _ _ _ HB2.out
        have a1 := cell_of_row w2 _ 1 _ _ _ HB2.out
        have a2 := cell_of_row w2 _ 2 _ _ _ HB2.out
        have a3 := cell_of_row w2 _ 3 _ _ _ HB2.out
        have a4 := cell_of_row w2 _ 4 _ _ _ HB2.out
        have a5 := cell_of_row w2 _ 5 _ _ _ HB2.out
        simp at a0 a1 a2 a3 a4 a5 a6
        by_cases hr3 : r = 3
        · subst hr3
          have cF0 := flush12 (h2.out) hSD.out hDN.out hacts (by omega) qt
          obtain ⟨l', m', rc, B', hsd', hfr, hnx', hac', hor, cF⟩ := cF0
          have HSD' := Lib.hid hsd'
          have CF := Lib.hid cF
          clear cF hsd'
          go_wp2_with fail
          refine CF.out.mono ?_
          clear CF
          rintro e w3 ⟨rfl, hst3⟩
          have HST3 := Lib.hid hst3
          clear hst3 a0 a1 a2 a3 a4 a5 a6
          rcases hor with ⟨(rfl | rfl), hd'⟩ | ⟨rfl, hd', hp'⟩ | ⟨rfl, hd'⟩
          · have HD' := Lib.hid hd'
            clear hd'
            go_wp2
            go_roundw
            case rel => exact ⟨j + 1, l', m', B', s, added, sure, va, vc, by omega, by go_num, rfl, rfl, by rw [hfr], by omega, by omega, by omega, HD', HST3, HSD'⟩
            case measure => simp [intOf]; omega
          · have HD' := Lib.hid hd'
            clear hd'
            go_wp2
            go_roundw
            case rel => exact ⟨j + 1, l', m', B', s, added, sure, va, vc, by omega, by go_num, rfl, rfl, by rw [hfr], by omega, by omega, by omega, HD', HST3, HSD'⟩
            case measure => simp [intOf]; omega
          · have hor := HSD'.out.sync hd'
            have cS := sync12 HST3.out (by omega) (sync_same _).1 (sync_same _).2
            have HP' := Lib.hid (And.intro hd' hp')
            clear hd' hp'
            obtain ⟨m4, hm4⟩ : ∃ m4, m'.sync.1 = m4 := ⟨_, rfl⟩
            obtain ⟨c4, hc4⟩ : ∃ c4, m'.sync.2 = c4 := ⟨_, rfl⟩
            rw [hm4, hc4] at cS hor
            clear hm4 hc4
            have CS := Lib.hid cS
            clear cS
            rcases hor with ⟨rfl, hd4, ha4, hs4⟩ | ⟨rfl, hd4, ha4, hs4⟩
            · have HDN4 := Lib.hid hd4
              have HSD4 := Lib.hid hs4
              clear hd4 hs4
              go_wp2_with fail
              refine CS.out.mono ?_
              clear CS
              rintro e w4 ⟨rfl, hst4⟩
              have HST4 := Lib.hid hst4
              clear hst4
              go_wp2_with fail
              refine (down12 HST4.out).mono ?_
              rintro e w5 ⟨hdw, rfl⟩
              obtain rfl : e = .returned (.bool true) := by rw [hdw, HDN4.out]
              clear hdw
              go_wp2_with fail
              go_meet
              case rel => exact ⟨l', m4, B', s, added, sure, va, vc, rfl, rfl, by rw [hfr], by omega, by omega, by omega, HST4, HSD4⟩
            · have HDN4 := Lib.hid hd4
              have hsu : (bch (B'.drop (l'.fr - 1))).length = added.length := by
                rw [hs4.ad, HP'.out.2, List.append_nil]
              rw [hsu] at hs4
              have HSD4 := Lib.hid hs4
              clear hd4 hs4 hsu
              go_wp2_with fail
              refine CS.out.mono ?_
              clear CS
              rintro e w4 ⟨rfl, hst4⟩
              have HST4 := Lib.hid hst4
              clear hst4
              go_wp2_with fail
              refine (down12 HST4.out).mono ?_
              rintro e w5 ⟨hdw, rfl⟩
              obtain rfl : e = .returned (.bool false) := by rw [hdw, HDN4.out]
              clear hdw
              go_wp2
              go_roundw
              case rel => exact ⟨j + 1, l', m4, B', l'.nx, added, added.length, va, vc, by omega, by go_num, rfl, rfl, by rw [hfr], by omega, by omega, by omega, HDN4, HST4, HSD4⟩
              case measure => simp [intOf]; omega
          · have cS := sync12 HST3.out (by omega) (sync_same _).1 (sync_same _).2
            have e4 : m'.sync = (m', 4) := by unfold Dev.sync; rw [if_pos hd']
            rw [e4] at cS
            have HDN4 := Lib.hid hd'
            have CS := Lib.hid cS
            clear cS e4 hd'
            go_wp2_with fail
            refine CS.out.mono ?_
            clear CS
            rintro e w4 ⟨rfl, hst4⟩
            have HST4 := Lib.hid hst4
            clear hst4
            go_wp2_with fail
            refine (down12 HST4.out).mono ?_
            rintro e w5 ⟨hdw, rfl⟩
            obtain rfl : e = .returned (.bool true) := by rw [hdw, HDN4.out]
            clear hdw
            go_wp2_with fail
            go_meet
            case rel => exact ⟨l', m', B', s, added, sure, va, vc, rfl, rfl, by rw [hfr], by omega, by omega, by omega, HST4, HSD'⟩
        · have hr3' : (r == 3) = false := by simpa using hr3
          by_cases hr5 : r = 5
          · subst hr5
            have cF0 := flush12 (h2.out) hSD.out hDN.out hacts (by omega) qt
            obtain ⟨l', m', rc, B', hsd', hfr, hnx', hac', hor, cF⟩ := cF0
            have HSD' := Lib.hid hsd'
            have CF := Lib.hid cF
            clear cF hsd'
            go_wp2_with fail
            refine CF.out.mono ?_
            clear CF
            rintro e w3 ⟨rfl, hst3⟩
            have HST3 := Lib.hid hst3
            clear hst3 a0 a1 a2 a3 a4 a5 a6
            rcases hor with ⟨(rfl | rfl), hd'⟩ | ⟨rfl, hd', hp'⟩ | ⟨rfl, hd'⟩
            · have HD' := Lib.hid hd'
              clear hd'
              go_wp2
              go_roundw
              case rel => exact ⟨j + 1, l', m', B', s, added, sure, va, vc, by omega, by go_num, rfl, rfl, by rw [hfr], by omega, by omega, by omega, HD', HST3, HSD'⟩
              case measure => simp [intOf]; omega
            · have HD' := Lib.hid hd'
              clear hd'
              go_wp2
              go_roundw
              case rel => exact ⟨j + 1, l', m', B', s, added, sure, va, vc, by omega, by go_num, rfl, rfl, by rw [hfr], by omega, by omega, by omega, HD', HST3, HSD'⟩
              case measure => simp [intOf]; omega
            · have hor := HSD'.out.sync hd'
              have cS := sync12 HST3.out (by omega) (sync_same _).1 (sync_same _).2
              have HP' := Lib.hid (And.intro hd' hp')
              clear hd' hp'
              obtain ⟨m4, hm4⟩ : ∃ m4, m'.sync.1 = m4 := ⟨_, rfl⟩
              obtain ⟨c4, hc4⟩ : ∃ c4, m'.sync.2 = c4 := ⟨_, rfl⟩
              rw [hm4, hc4] at cS hor
              clear hm4 hc4
              have CS := Lib.hid cS
              clear cS
              rcases hor with ⟨rfl, hd4, ha4, hs4⟩ | ⟨rfl, hd4, ha4, hs4⟩
              · have HDN4 := Lib.hid hd4
                have HSD4 := Lib.hid hs4
                clear hd4 hs4
                go_wp2_with fail
                refine CS.out.mono ?_
                clear CS
                rintro e w4 ⟨rfl, hst4⟩
                have HST4 := Lib.hid hst4
                clear hst4
                go_wp2_with fail
                refine (down12 HST4.out).mono ?_
                rintro e w5 ⟨hdw, rfl⟩
                obtain rfl : e = .returned (.bool true) := by rw [hdw, HDN4.out]
                clear hdw
                go_wp2_with fail
                go_meet
                case rel => exact ⟨l', m4, B', s, added, sure, va, vc, rfl, rfl, by rw [hfr], by omega, by omega, by omega, HST4, HSD4⟩
              · have HDN4 := Lib.hid hd4
                have hsu : (bch (B'.drop (l'.fr - 1))).length = added.length := by
                  rw [hs4.ad, HP'.out.2, List.append_nil]
                rw [hsu] at hs4
                have HSD4 := Lib.hid hs4
                clear hd4 hs4 hsu
                go_wp2_with fail
                refine CS.out.mono ?_
                clear CS
                rintro e w4 ⟨rfl, hst4⟩
                have HST4 := Lib.hid hst4
                clear hst4
                go_wp2_with fail
                refine (down12 HST4.out).mono ?_
                rintro e w5 ⟨hdw, rfl⟩
                obtain rfl : e = .returned (.bool false) := by rw [hdw, HDN4.out]
                clear hdw
                go_wp2
                go_roundw
                case rel => exact ⟨j + 1, l', m4, B', l'.nx, added, added.length, va, vc, by omega, by go_num, rfl, rfl, by rw [hfr], by omega, by omega, by omega, HDN4, HST4, HSD4⟩
                case measure => simp [intOf]; omega
            · have cS := sync12 HST3.out (by omega) (sync_same _).1 (sync_same _).2
              have e4 : m'.sync = (m', 4) := by unfold Dev.sync; rw [if_pos hd']
              rw [e4] at cS
              have HDN4 := Lib.hid hd'
              have CS := Lib.hid cS
              clear cS e4 hd'
              go_wp2_with fail
              refine CS.out.mono ?_
              clear CS
              rintro e w4 ⟨rfl, hst4⟩
              have HST4 := Lib.hid hst4
              clear hst4
              go_wp2_with fail
              refine (down12 HST4.out).mono ?_
              rintro e w5 ⟨hdw, rfl⟩
              obtain rfl : e = .returned (.bool true) := by rw [hdw, HDN4.out]
              clear hdw
              go_wp2_with fail
              go_meet
              case rel => exact ⟨l', m', B', s, added, sure, va, vc, rfl, rfl, by rw [hfr], by omega, by omega, by omega, HST4, HSD'⟩
          · have hr5' : (r == 5) = false := by simpa using hr5
            by_cases hr4 : r = 4
            · subst hr4
              have hor := hSD.out.sync hDN.out
              have cS := sync12 h2.out hacts (sync_same _).1 (sync_same _).2
              obtain ⟨m4, hm4⟩ : ∃ m4, m.sync.1 = m4 := ⟨_, rfl⟩
              obtain ⟨c4, hc4⟩ : ∃ c4, m.sync.2 = c4 := ⟨_, rfl⟩
              rw [hm4, hc4] at cS hor
              clear hm4 hc4
              have CS := Lib.hid cS
              clear cS
              rcases hor with ⟨rfl, hd4, ha4, hs4⟩ | ⟨rfl, hd4, ha4, hs4⟩
              · have HDN4 := Lib.hid hd4
                have HSD4 := Lib.hid hs4
                clear hd4 hs4
                go_wp2_with fail
                refine CS.out.mono ?_
                clear CS a0 a1 a2 a3 a4 a5 a6
                rintro e w4 ⟨rfl, hst4⟩
                have HST4 := Lib.hid hst4
                clear hst4
                go_wp2_with fail
                refine (down12 HST4.out).mono ?_
                rintro e w5 ⟨hdw, rfl⟩
                obtain rfl : e = .returned (.bool true) := by rw [hdw, HDN4.out]
                clear hdw
                go_wp2_with fail
                go_meet
                case rel => exact ⟨l, m4, B, s, added, sure, va, vc, rfl, rfl, rfl, by omega, by omega, by omega, HST4, HSD4⟩
              · have HDN4 := Lib.hid hd4
                have HSD4 := Lib.hid hs4
                clear hd4 hs4
                go_wp2_with fail
                refine CS.out.mono ?_
                clear CS a0 a1 a2 a3 a4 a5 a6
                rintro e w4 ⟨rfl, hst4⟩
                have HST4 := Lib.hid hst4
                clear hst4
                go_wp2_with fail
                refine (restart12 HST4.out).mono ?_
                rintro e w5 ⟨rfl, hst5⟩
                have cX := next12 hst5
                have HST5 := Lib.hid hst5.nil
                have CX := Lib.hid cX
                clear hst5 cX
                go_wp2_with fail
                refine CX.out.mono ?_
                clear CX
                rintro e w6 ⟨rfl, rfl⟩
                go_wp2_with fail
                refine (down12 HST5.out).mono ?_
                rintro e w7 ⟨hdw, rfl⟩
                obtain rfl : e = .returned (.bool false) := by rw [hdw, HDN4.out]
                clear hdw
                go_wp2
                go_roundw
                case rel => exact ⟨j + 1, ⟨l.nx, l.nx, l.tm, []⟩, m4, B, l.nx, [], 0, none, 0, by omega, by go_num, rfl, rfl, rfl, (by show l.nx ≤ _; omega), by omega, by simp, HDN4, HST5, Lib.hid HSD4.out.restart⟩
                case measure => simp [intOf]; omega
            · have hr4' : (r == 4) = false := by simpa using hr4
              obtain ⟨l', m', rc, B', added', hsd', hfr, hnx', hac', hor, S, hS, cA⟩ := add12 hST.out hSD.out hDN.out hacts (by omega) qx hqh qt
              have HSD' := Lib.hid hsd'
              have CA := Lib.hid cA
              clear cA hsd'
              have hXS : wr.heap.size ∉ S := fun hm => by have := hS _ hm; omega
              have HS := Lib.hid hS
              clear hS
              go_upto_region 15 with fail
              clear a0 a1 a2 a3 a4 a5 a6
              refine wp_region_his S [3, 6] (fun _ => 0) (by kernel_rfl) (by kernel_rfl) ?_
              intro w3 hk3 hh
              clear hh
              have u1 := fun w' (h' : Keep S w3 w') => cell_of_row w' _ 1 _ _ _ (h'.blk hXS (hk3.blk (by simp) HB2.out))
              have u2 := fun w' (h' : Keep S w3 w') => cell_of_row w' _ 2 _ _ _ (h'.blk hXS (hk3.blk (by simp) HB2.out))
              have u3 := fun w' (h' : Keep S w3 w') => cell_of_row w' _ 3 _ _ _ (h'.blk hXS (hk3.blk (by simp) HB2.out))
              have u4 := fun w' (h' : Keep S w3 w') => cell_of_row w' _ 4 _ _ _ (h'.blk hXS (hk3.blk (by simp) HB2.out))
              have u5 := fun w' (h' : Keep S w3 w') => cell_of_row w' _ 5 _ _ _ (h'.blk hXS (hk3.blk (by simp) HB2.out))
              have u6 := fun w' (h' : Keep S w3 w') => cell_of_row w' _ 6 _ _ _ (h'.blk hXS (hk3.blk (by simp) HB2.out))
              simp at u1 u2 u3 u4 u5 u6
              have CO := Lib.hid (fun w => of12_any qx w)
              (repeat (first | (refine his_q rfl rfl (fun K hK => ?_); apply Exists.intro; refine ⟨fun w' hC => ?_, ?_⟩; ((try simp [Sg.upd] at hC); go_simp <;> rfl); go_simp; refine hK _ _ ?_; clear hK K) | (refine his_s rfl (fun K hK => ?_); go_simp; refine hK _ _ ?_; clear hK K)))
              (refine his_l rfl rfl (fun K hK => ?_); go_simp)
              refine (CO.out _).mono ?_
              rintro e w4 ⟨rfl, hk4⟩
              simp only [Ch.v]
              refine hK _ _ (hk4.mono (by simp)) ?_
              clear hK K
              (repeat (first | (refine his_q rfl rfl (fun K hK => ?_); apply Exists.intro; refine ⟨fun w' hC => ?_, ?_⟩; ((try simp [Sg.upd] at hC); go_simp <;> rfl); go_simp; refine hK _ _ ?_; clear hK K) | (refine his_s rfl (fun K hK => ?_); go_simp; refine hK _ _ ?_; clear hK K)))
              (refine his_l rfl rfl (fun K hK => ?_); go_simp)
              refine (CA.out _ (HK2.out.trans (hk3.trans hk4))).mono ?_
              clear CA
              rintro e w5 ⟨rfl, hst5, hk5⟩
              refine hK _ _ hk5 ?_
              clear hK K
              (repeat (first | (refine his_q rfl rfl (fun K hK => ?_); apply Exists.intro; refine ⟨fun w' hC => ?_, ?_⟩; ((try simp [Sg.upd] at hC); go_simp <;> rfl); go_simp; refine hK _ _ ?_; clear hK K) | (refine his_s rfl (fun K hK => ?_); go_simp; refine hK _ _ ?_; clear hK K)))
              refine his_nil ?_
              have hb5 := hk5.blk hXS (hk4.blk (by simp) (hk3.blk (by simp) HB2.out))
              have HST5 := Lib.hid hst5
              have HB5 := Lib.hid hb5
              clear u1 u2 u3 u4 u5 u6 hst5 hb5 hk3 hk4 hk5 CO
              rcases hor with ⟨(rfl | rfl), hd', rfl⟩ | ⟨rfl, hd', rfl⟩ | ⟨rfl, hd', rfl⟩
              · have HD' := Lib.hid hd'
                clear hd'
                go_wp2_with fail
                refine (down12 HST5.out).mono ?_
                rintro e w7 ⟨hdw, rfl⟩
                obtain rfl : e = .returned (.bool false) := by rw [hdw, HD'.out]
                clear hdw
                go_wp2
                go_roundw
                case rel => exact ⟨j + 1, l', m', B', s, added', sure, va, vc, by omega, by go_num, rfl, rfl, by rw [hfr], by omega, by omega, by omega, HD', HST5, HSD'⟩
                case measure => simp [intOf]; omega
              · have HD' := Lib.hid hd'
                clear hd'
                go_wp2_with fail
                refine (down12 HST5.out).mono ?_
                rintro e w7 ⟨hdw, rfl⟩
                obtain rfl : e = .returned (.bool false) := by rw [hdw, HD'.out]
                clear hdw
                go_wp2
                go_roundw
                case rel => exact ⟨j + 1, l', m', B', s, added', sure, va, vc, by omega, by go_num, rfl, rfl, by rw [hfr], by omega, by omega, by omega, HD', HST5, HSD'⟩
                case measure => simp [intOf]; omega
              · have HD' := Lib.hid hd'
                clear hd'
                have p1 := cell_of_row w5 _ 1 _ _ _ HB5.out
                have p2 := cell_of_row w5 _ 2 _ _ _ HB5.out
                have p3 := cell_of_row w5 _ 3 _ _ _ HB5.out
                have p4 := cell_of_row w5 _ 4 _ _ _ HB5.out
                have p5 := cell_of_row w5 _ 5 _ _ _ HB5.out
                simp at p1 p2 p3 p4 p5
                have hA6 := (Keep.refl [] w5).alloc (.cells #[.bool qx.drop, .int .u64 (qx.hash : Int), .int .i64 qx.r, .int .i64 qx.a, .int .i64 qx.s] 156)
                have hB6 := heap_alloc_new w5 (.cells #[.bool qx.drop, .int .u64 (qx.hash : Int), .int .i64 qx.r, .int .i64 qx.a, .int .i64 qx.s] 156)
                have hst6 := HST5.out.keep hA6
                obtain ⟨v6, w6, hrun, ho6, hk6, hloc⟩ := run_append_one (P := Try.prog) (ty := 154) clies Try.underlying154 ach_info rfl (by decide) (by decide) w0.heap.size hst6.row w5.heap.size qx hB6 (by omega) hst6.k.size
                obtain ⟨va6, vc6, rfl⟩ := ho6.form
                have HST6 := Lib.hid (hst6.app ho6 hk6 hloc)
                have HR := Lib.hid hrun
                rw [List.length_append, List.length_singleton] at HR
                clear hA6 hB6 hst6 hrun ho6 hk6 hloc
                go_wp2_with (at_builtin; refine wpList_append_run rfl (.tmp 70) (.tmp 73) 154 rfl (w' := w6) rfl rfl HR.out ?_)
                clear p1 p2 p3 p4 p5
                go_wp2_with fail
                refine (down12 HST6.out).mono ?_
                rintro e w7 ⟨hdw, rfl⟩
                obtain rfl : e = .returned (.bool false) := by rw [hdw, HD'.out]
                clear hdw
                go_wp2
                go_roundw
                case rel => exact ⟨j + 1, l', m', B', s, added ++ [qx], sure, va6, vc6, by omega, by go_num, by simp, rfl, by rw [hfr], by omega, by omega, by simp; omega, HD', HST6, HSD'⟩
                case measure => simp [intOf]; omega
              · have HD' := Lib.hid hd'
                clear hd'
                have p1 := cell_of_row w5 _ 1 _ _ _ HB5.out
                have p2 := cell_of_row w5 _ 2 _ _ _ HB5.out
                have p3 := cell_of_row w5 _ 3 _ _ _ HB5.out
                have p4 := cell_of_row w5 _ 4 _ _ _ HB5.out
                have p5 := cell_of_row w5 _ 5 _ _ _ HB5.out
                simp at p1 p2 p3 p4 p5
                have hA6 := (Keep.refl [] w5).alloc (.cells #[.bool qx.drop, .int .u64 (qx.hash : Int), .int .i64 qx.r, .int .i64 qx.a, .int .i64 qx.s] 156)
                have hB6 := heap_alloc_new w5 (.cells #[.bool qx.drop, .int .u64 (qx.hash : Int), .int .i64 qx.r, .int .i64 qx.a, .int .i64 qx.s] 156)
                have hst6 := HST5.out.keep hA6
                obtain ⟨v6, w6, hrun, ho6, hk6, hloc⟩ := run_append_one (P := Try.prog) (ty := 154) clies Try.underlying154 ach_info rfl (by decide) (by decide) w0.heap.size hst6.row w5.heap.size qx hB6 (by omega) hst6.k.size
                obtain ⟨va6, vc6, rfl⟩ := ho6.form
                have HST6 := Lib.hid (hst6.app ho6 hk6 hloc)
                have HR := Lib.hid hrun
                rw [List.length_append, List.length_singleton] at HR
                clear hA6 hB6 hst6 hrun ho6 hk6 hloc
                go_wp2_with (at_builtin; refine wpList_append_run rfl (.tmp 70) (.tmp 73) 154 rfl (w' := w6) rfl rfl HR.out ?_)
                clear p1 p2 p3 p4 p5
                go_wp2_with fail
                refine (down12 HST6.out).mono ?_
                rintro e w7 ⟨hdw, rfl⟩
                obtain rfl : e = .returned (.bool true) := by rw [hdw, HD'.out]
                clear hdw
                go_wp2_with fail
                go_meet
                case rel => exact ⟨l', m', B', s, added ++ [qx], sure, va6, vc6, by simp, rfl, by rw [hfr], by omega, by omega, by simp; omega, HST6, HSD'⟩
      · have hlti : ¬ (j : Int) < (pl.length : Int) := by omega
        go_wp2_with fail
        go_meet
        case rel => exact ⟨l, m, B, s, added, sure, va, vc, rfl, rfl, rfl, by omega, by omega, by omega, hST, hSD⟩
  case rest =>
  obtain ⟨l, m, B, s, added, sure, va, vc, rfl, rfl, rfl, hnx, hac, hal, hST, hSD⟩ := hcut
  obtain ⟨D, E, ⟨pv, r1⟩, r2⟩ := hST.out.mem
  have hacts : m.acts ≤ 1000000000 := by omega
  have hfl : ¬ 60 < fl.length := HL.out.2
  have hcr := crash_any wc D g m r1.dv hacts _ fl (HS.out.2.keep (HA.out.trans hST.out.k) (by simp)) (fun hn b hb hm => by have := (r2 b (.inr hm)).1; have := HS.out.2.lt hn b hb; have := HW0.out; omega)
  have x2 := G.out.2.2 wc hST.out.k
  have hdm : (m.crash fl).down = false := rfl
  have ham : (m.crash fl).acts ≤ 1000000000 := hacts
  have hn60 : (m.crash fl).n = 60 := hSD.out.n60
  have hs96 : (m.crash fl).sz = 96 := hSD.out.s96
  have hcl := fun hc => hSD.out.crash (fates := fl) hc
  obtain ⟨mc, hmc⟩ : ∃ mc, m.crash fl = mc := ⟨_, rfl⟩
  rw [hmc] at hcr hdm ham hcl hn60 hs96
  have HCL := Lib.hid hcl
  have HMC := Lib.hid (And.intro hdm (And.intro hn60 hs96))
  have HR2 := Lib.hid r2
  have hltD := r1.dv.lt
  have HLT := Lib.hid hltD
  clear hmc hcl hdm hn60 hs96 r2 hltD r1 HST0 HSD0 HM0
  go_wp2_with fail
  refine hcr.mono ?_
  clear hcr x2
  rintro e w5 ⟨rfl, D5, hD5, hG5, hK5⟩
  have hk05 : Keep [] w0 w5 := hST.out.k.trans' hK5 (fun b hb => .inr (HR2.out b (.inr hb)).1)
  have hrow5 := hST.out.row.keep hK5 (fun b hb hm => (HR2.out b (.inr hm)).2 hb)
  have cF := foul12_any w5 D5 g mc hD5 HMC.out.1 ham
  have H5 := Lib.hid (And.intro hD5 (And.intro hk05 hrow5))
  clear hD5 hk05 hrow5 hG5 hK5
  go_wp2_with fail
  refine cF.mono ?_
  clear cF
  rintro e w6 ⟨fb, rfl, hfb, k6⟩
  cases fb with
  | true =>
    clear hfb
    go_wp2_with fail
    refine (awake12_any _).mono ?_
    rintro e w7 ⟨rfl, k7⟩
    have HK7 := Lib.hid (H5.out.2.1.trans (k6.trans k7))
    clear k6 k7
    go_wp2
    go_ret
    exact ⟨rfl, (HA.out.trans HK7.out).below (Nat.le_refl _) (by simp)⟩
  | false =>
    obtain ⟨Gt, hGd, hGs⟩ := HCL.out (hfb rfl)
    have htold := hSD.out.told hGs
    have hfr1 : 1 ≤ l.fr := hSD.out.fit.f1
    have hfr2 : l.fr ≤ 200 := Nat.le_trans hSD.out.fit.fn hnx
    go_wp2_with fail
    refine (small12_any w6).mono ?_
    rintro e w7 ⟨rfl, k7⟩
    have k57 := k6.trans k7
    have cO := openD_any w7 D5 g mc (H5.out.1.keep k57 (by simp)) HMC.out.2.1 HMC.out.2.2 ham Gt hGd (l.fr : Int)
    have H7 := Lib.hid (And.intro htold (And.intro (H5.out.2.1.trans k57) (H5.out.2.2.keep k57 (by simp))))
    clear hfb hGd hGs htold k6 k7 k57
    go_wp2_with fail
    refine cO.mono ?_
    clear cO
    rintro e w8 ⟨k8, (⟨h1, -⟩ | ⟨f, hff, -, -, gl', pv', rfl, hgl', hrow, hdl⟩)⟩
    · exact absurd ⟨by omega, by omega⟩ h1
    obtain rfl : f = l.fr := by omega
    obtain ⟨oa, oc, rfl⟩ := hrow.form
    have hT1 := H7.out.1.1
    have hT2 := H7.out.1.2
    have hT2i : (sure : Int) ≤ ((bch (druns 5 Gt 5 l.fr)).length : Int) := by omega
    have hNx := nextD_any hdl.row
    have hlast : l.fr ≤ bln (max (dlat 5 Gt 5 0 0) (l.fr - 1)) (druns 5 Gt 5 l.fr) + 1 := by
      have h1 : ∀ (L : List Bt) (q : Nat), q ≤ bln q L := by
        intro L
        induction L with
        | nil => intro q; exact Nat.le_refl _
        | cons x L ih =>
          intro q
          exact Nat.le_trans (Nat.le_max_left q x.1) (ih (max q x.1))
      have h2 := h1 (druns 5 Gt 5 l.fr) (max (dlat 5 Gt 5 0 0) (l.fr - 1))
      omega
    have cB := begins12_any w8 w7.heap.size w0.heap.size _ _ _ _ hrow (H7.out.2.2.keep k8 (by simp)) hT1 (by omega)
    obtain ⟨RL, hRL⟩ : ∃ RL, bch (druns 5 Gt 5 l.fr) = RL := ⟨_, rfl⟩
    obtain ⟨NX, hNX⟩ : ∃ NX, bln (max (dlat 5 Gt 5 0 0) (l.fr - 1)) (druns 5 Gt 5 l.fr) + 1 = NX := ⟨_, rfl⟩
    obtain ⟨TM, hTM⟩ : ∃ TM, btm 0 (druns 5 Gt 5 l.fr) = TM := ⟨_, rfl⟩
    rw [hRL] at cB hT2i ⊢
    rw [hNX] at hNx hlast
    rw [hTM]
    have hlasti : (l.fr : Int) ≤ (NX : Int) := by omega
    have HDL := Lib.hid hdl
    have HK8 := Lib.hid (H7.out.2.1.trans k8)
    have CB := Lib.hid cB
    clear hdl hT1 hT2 hrow hRL hTM hff hlast hNx k8 cB hgl'
    go_wp2_with fail
    refine CB.out.mono ?_
    clear CB
    rintro e w9 ⟨rfl, k9⟩
    have hrow9 := HDL.out.row.keep k9 (by simp)
    have cX := nextD_any hrow9
    simp only [hNX] at cX
    have HK9 := Lib.hid (HK8.out.trans k9)
    clear hrow9 k9 HK8 hNX
    go_wp2_with fail
    refine cX.mono ?_
    clear cX
    rintro e w10 ⟨rfl, rfl⟩
    go_wp2_with fail
    refine (awake12_any _).mono ?_
    rintro e w11 ⟨rfl, k11⟩
    have HK11 := Lib.hid (HK9.out.trans k11)
    clear k11
    go_wp2
    go_ret
    exact ⟨rfl, (HA.out.trans HK11.out).below (Nat.le_refl _) (by simp)⟩
end Go.Proofs.Ytjkjiabfhhnngaa

