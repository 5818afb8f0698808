import Derived.Test.YtjkjiabfhhnngaaWheelAw
import Derived.Test.YtjkjiabfhhnngaaWActAt
import Derived.Test.YtjkjiabfhhnngaaWGoesM
/-! The walk of the law WheelGoes. -/
namespace Go.Proofs.Ytjkjiabfhhnngaa
open Go.RowKit Go.Shelf Sg
set_option linter.unusedSimpArgs false
set_option linter.unusedVariables false

theorem dueE_nil {w : World} {g base : Nat} (h : w.heap[g]? = some (.cells #[] 128 (0, 0))) (hb : base ≤ g) : RowE dueE 2 128 w base (.slice (some ⟨g, 0, none⟩) 0 0) [] :=
  ⟨rfl, .inr ⟨g, 0, #[], rfl, hb, h, Nat.le_refl _, by decide, rfl, rfl⟩⟩

set_option maxRecDepth 100000 in
set_option maxHeartbeats 1000000 in
set_option maxHeartbeats 8000000 in
theorem wheelGoesWalk (W : World) (vl : Value) (l : List WAct) (hl : WActs W vl l) (na nb : Nat) (hna : na < 4294967296) (hnb : nb < 4294967296) :
    Calls Try.prog 7 #[vl, .int .u32 na, .int .u32 nb] W fun e W' => e = .returned (.bool true) ∧ Below W.heap.size W W' := by
  obtain ⟨ao, cap, rfl, hlc, -, -⟩ := hl.form
  have HS := Lib.hid hl
  clear hl
  have cN := newWheel_any W
  by_cases hlen : 100 < l.length
  · have hlen' : (100 : Int) < (l.length : Int) := by omega
    go_enter Try.func7, Try.ntmps7
    go_wp2
    go_ret
    exact ⟨rfl, Below.refl _ _⟩
  have hlen' : ¬ (100 : Int) < (l.length : Int) := by omega
  go_enter Try.func7, Try.ntmps7
  go_wp2_with fail
  refine cN.mono ?_
  clear cN
  rintro e w0 ⟨g, D, rfl, hv0, hD, hk0⟩
  have cN := newWheel_any w0
  go_wp2_with fail
  refine cN.mono ?_
  clear cN
  rintro e w1 ⟨h, E, rfl, hu1, hE, hk1⟩
  have hv1 := hv0.keep hk1 (by simp)
  have HLD := Lib.hid (show (∀ b ∈ D, b < w0.heap.size ∧ W.heap.size ≤ b) ∧ (∀ b ∈ E, b < w1.heap.size ∧ w0.heap.size ≤ b) ∧ W.heap.size ≤ w0.heap.size ∧ w0.heap.size ≤ w1.heap.size from ⟨fun b hb => ⟨hv0.lt b hb, hD b hb⟩, fun b hb => ⟨hu1.lt b hb, hE b hb⟩, hk0.size, hk1.size⟩)
  have H1 := Lib.hid (And.intro hv1 (And.intro hu1 (hk0.trans hk1)))
  clear hv0 hv1 hu1 hk0 hk1 hD hE
  have HDE := Lib.hid (show ∀ b ∈ D, b ∉ E from fun b hb he => by have := (HLD.out.1 b hb).1; have := (HLD.out.2.1 b he).2; omega)
  go_wp2
  go_loopw [9] (fun i wr => ∃ (j : Nat) (m : Wm), j ≤ l.length ∧ i = .int .i64 j ∧ Hid (WV wr D g m ∧ WV wr E h m ∧ Wg j m ∧ Keep [] W wr ∧ w1.heap.size ≤ wr.heap.size)) (fun i _ => l.length - (intOf i).toNat)
  case atStart => exact ⟨0, Wm.new, by omega, rfl, Lib.hid ⟨H1.out.1, H1.out.2.1, ⟨rfl, by simp [Wm.new]⟩, H1.out.2.2, Nat.le_refl _⟩⟩
  case round =>
    clear H1
    obtain ⟨j, m, hj, rfl, HV⟩ := hrel
    by_cases hlt : j < l.length
    · obtain ⟨b, o, rfl, hcs⟩ := HS.out.spot hlt
      have hok := HS.out.each hlt
      obtain ⟨q, hq⟩ : ∃ q, l[j] = q := ⟨_, rfl⟩
      rw [hq] at hcs hok
      have hcs' : ∀ w', Keep [] wr w' → _ := fun w' h' => hcs w' (HV.out.2.2.2.1.trans h')
      clear hq
      obtain ⟨a0, a1, a2, a3⟩ := hcs' wr (Keep.refl _ _)
      obtain ⟨rk, hrk⟩ : ∃ rk, ((wrap64 (q.kind.tmod 5 + 5)).tmod 5 == 4) = rk := ⟨_, rfl⟩
      cases rk with
      | true =>
        clear hcs hcs'
        go_wp2
        go_roundw
        case rel => exact ⟨j + 1, m, by omega, by go_num, Lib.hid ⟨HV.out.1, HV.out.2.1, ⟨HV.out.2.2.1.t, by have := HV.out.2.2.1.l; omega⟩, HV.out.2.2.2⟩⟩
        case measure => simp [intOf]; omega
      | false =>
        have hat := actAt_any wr q hok 0 (by decide)
        obtain ⟨a, hae⟩ : ∃ a, q.due 0 = a := ⟨_, rfl⟩
        rw [hae] at hat
        unfold WAct.agg at hat
        go_wp2_with fail
        refine hat.mono ?_
        clear hat
        rintro e w2 ⟨rfl, hk2⟩
        clear a0 a1 a2 a3 hrk
        go_upto_region 9 with fail
        have HV2 := Lib.hid (And.intro (HV.out.1.keep hk2 (by simp)) (And.intro (HV.out.2.1.keep hk2 (by simp)) (And.intro (HV.out.2.2.2.1.trans hk2) (Nat.le_trans HV.out.2.2.2.2 hk2.size))))
        have HG := Lib.hid HV.out.2.2.1
        clear HV hk2 hcs'
        refine wp_region_his (D ++ E) [7, 15] (fun _ => 0) (by kernel_rfl) (by kernel_rfl) ?_
        intro wx hkx hhx
        clear hhx
        have hcs' : ∀ w', Keep (D ++ E) wx w' → _ := fun w' h' => hcs w' ((HV2.out.2.2.1.trans hkx).trans' h' (fun b hb => .inr (by
          rcases List.mem_append.1 hb with hb | hb
          · exact (HLD.out.1 b hb).2
          · have h1 := (HLD.out.2.1 b hb).2
            have h2 := HLD.out.2.2.1
            omega)))
        have q1 := fun w' (h' : Keep (D ++ E) wx w') => (hcs' w' h').2.1
        (repeat (first | (refine his_q rfl rfl (fun K hK => ?_); apply Exists.intro; refine ⟨fun w' hC => ?_, ?_⟩; ((try simp [Sg.upd] at hC); go_simp <;> rfl); go_simp; refine hK _ _ ?_; clear hK K) | (refine his_s rfl (fun K hK => ?_); go_simp; refine hK _ _ ?_; clear hK K)))
        (refine his_l rfl rfl (fun K hK => ?_); go_simp)
        have hp1 := put_any wx D g m (HV2.out.1.keep hkx (by simp)) q.num a (i64_wf hok.s1 hok.s2) (by have := HG.out.l; omega)
        refine hp1.mono ?_
        clear hp1
        rintro e w3 ⟨rfl, hv3, hk3⟩
        refine hK _ _ (hk3.mono (fun b hb => List.mem_append_left _ hb)) ?_
        clear hK K
        (repeat (first | (refine his_q rfl rfl (fun K hK => ?_); apply Exists.intro; refine ⟨fun w' hC => ?_, ?_⟩; ((try simp [Sg.upd] at hC); go_simp <;> rfl); go_simp; refine hK _ _ ?_; clear hK K) | (refine his_s rfl (fun K hK => ?_); go_simp; refine hK _ _ ?_; clear hK K)))
        (refine his_l rfl rfl (fun K hK => ?_); go_simp)
        have hp2 := put_any w3 E h m ((HV2.out.2.1.keep hkx (by simp)).keep hk3 HDE.out) q.num a (i64_wf hok.s1 hok.s2) (by have := HG.out.l; omega)
        refine hp2.mono ?_
        clear hp2
        rintro e w4 ⟨rfl, hu4, hk4⟩
        refine hK _ _ (hk4.mono (fun b hb => List.mem_append_right _ hb)) ?_
        clear hK K
        have HH := Lib.hid (show WV w4 D g (m.put q.num a).1 ∧ WV w4 E h (m.put q.num a).1 ∧ Wg (j + 1) (m.put q.num a).1 ∧ Keep [] W w4 ∧ w1.heap.size ≤ w4.heap.size from ⟨hv3.keep hk4 (fun b hb hd => HDE.out b hd hb), hu4, HG.out.put _ _, ((HV2.out.2.2.1.trans hkx).trans' hk3 (fun b hb => .inr (HLD.out.1 b hb).2)).trans' hk4 (fun b hb => .inr (by
          have h1 := (HLD.out.2.1 b hb).2
          have h2 := HLD.out.2.2.1
          omega)), by have := HV2.out.2.2.2; have := hkx.size; have := hk3.size; have := hk4.size; omega⟩)
        clear hv3 hu4 hk3 hk4 HV2 HG
        (repeat (first | (refine his_q rfl rfl (fun K hK => ?_); apply Exists.intro; refine ⟨fun w' hC => ?_, ?_⟩; ((try simp [Sg.upd] at hC); go_simp <;> rfl); go_simp; refine hK _ _ ?_; clear hK K) | (refine his_s rfl (fun K hK => ?_); go_simp; refine hK _ _ ?_; clear hK K)))
        refine his_nil ?_
        clear q1 hcs' hkx hcs
        generalize (m.put q.num a).1 = m2 at HH
        generalize (m.put q.num a).2 = pc
        go_wp2
        go_roundw
        case rel => exact ⟨j + 1, m2, by omega, by go_num, HH⟩
        case measure => simp [intOf]; omega
    · have hm100 : m.ths.length ≤ 100 := by have := HV.out.2.2.1.l; omega
      obtain ⟨x, y, e1, e2, e3, e4⟩ := go_add m HV.out.2.2.1.t na nb hna hnb
      have hT := tw_ord HV.out.1.1 (na + nb)
      have hZl : (x ++ y).length ≤ 100 := by
        rw [e4]
        exact Nat.le_trans (List.takeWhile_sublist _).length_le hm100
      rw [← e4] at hT
      have hg1 : Calls Try.prog 65 #[.pointer (some ⟨g, 0, none⟩), .int .i64 (na : Int)] wr _ := go_any wr D g m HV.out.1 (na : Int) (by omega)
      rw [show (m.go (na : Int)).2.2 = 0 by rw [e1], show (m.go (na : Int)).2.1 = x by rw [e1]] at hg1
      have e2c : ((m.go (na : Int)).1.go (nb : Int)).2.2 = 0 := by rw [e2]
      have e2x : ((m.go (na : Int)).1.go (nb : Int)).2.1 = y := by rw [e2]
      have e2m : ((m.go (na : Int)).1.go (nb : Int)).1 = (m.go ((na + nb : Nat) : Int)).1 := by rw [e2]
      have e3c : (m.go ((na + nb : Nat) : Int)).2.2 = 0 := by rw [e3]
      have e3x : (m.go ((na + nb : Nat) : Int)).2.1 = x ++ y := by rw [e3]
      clear e1 e2 e3 e4
      generalize (m.go (na : Int)).1 = m1 at hg1 e2c e2x e2m
      have HE := Lib.hid (And.intro e2c (And.intro e2x (And.intro e2m (And.intro e3c e3x))))
      have HT := Lib.hid (And.intro hT hZl)
      clear e2c e2x e2m e3c e3x hT hZl
      go_wp2_with fail
      refine hg1.mono ?_
      clear hg1
      rintro e w2 ⟨v2, rfl, hr2, hv2, hk2⟩
      have hg2 : Calls Try.prog 65 #[.pointer (some ⟨g, 0, none⟩), .int .i64 (nb : Int)] w2 _ := go_any w2 D g m1 hv2 (nb : Int) (by omega)
      rw [HE.out.1, HE.out.2.1, HE.out.2.2.1] at hg2
      go_wp2_with fail
      refine hg2.mono ?_
      clear hg2
      rintro e w3 ⟨v3, rfl, hr3, hv3, hk3⟩
      have hu3 := (HV.out.2.1.keep hk2 HDE.out).keep hk3 HDE.out
      have hg3 : Calls Try.prog 65 #[.pointer (some ⟨h, 0, none⟩), .int .i64 ((na + nb : Nat) : Int)] w3 _ := go_any w3 E h m hu3 ((na + nb : Nat) : Int) (by omega)
      rw [HE.out.2.2.2.1, HE.out.2.2.2.2] at hg3
      have hs : wr.heap.size ≤ w2.heap.size ∧ w2.heap.size ≤ w3.heap.size := ⟨hk2.size, hk3.size⟩
      generalize (m.go ((na + nb : Nat) : Int)).1 = m2 at hv3 hg3
      clear hv2 hu3
      go_wp2_with fail
      refine hg3.mono ?_
      clear hg3
      rintro e w4 ⟨v4, rfl, hr4, hu4, hk4⟩
      have hnE : ∀ {b : Nat}, w1.heap.size ≤ b → b ∉ D ∧ b ∉ E := fun {b} hb => ⟨fun hm => by have := (HLD.out.1 b hm).1; have := HLD.out.2.2.2; omega, fun hm => by have := (HLD.out.2.1 b hm).1; omega⟩
      have hw1r := HV.out.2.2.2.2
      have hr2' := (hr2.keep hk3 (fun b hb => (hnE (by have := (hr2.lt b hb).1; omega)).1)).keep hk4 (fun b hb => (hnE (by have := (hr2.lt b hb).1; omega)).2)
      have hr3' := hr3.keep hk4 (fun b hb => (hnE (by have := (hr3.lt b hb).1; omega)).2)
      have hv4 := hv3.keep hk4 (fun b hb hd => HDE.out b hd hb)
      have hkW : Keep [] W w4 := ((HV.out.2.2.2.1.trans' hk2 (fun b hb => .inr (HLD.out.1 b hb).2)).trans' hk3 (fun b hb => .inr (HLD.out.1 b hb).2)).trans' hk4 (fun b hb => .inr (by
        have h1 := (HLD.out.2.1 b hb).2
        have h2 := HLD.out.2.2.1
        omega))
      have hs4 : w1.heap.size ≤ w4.heap.size := by have := hk4.size; omega
      clear hr2 hr3 hk2 hk3 hk4 hv3 HV
      obtain ⟨a2, c2, rfl⟩ := hr2'.form
      obtain ⟨a3, c3, rfl⟩ := hr3'.form
      obtain ⟨a4, c4, rfl⟩ := hr4.form
      obtain ⟨w5, hw5⟩ : ∃ w5, w4.alloc (.cells #[] 128) = w5 := ⟨_, rfl⟩
      have hk5 : Keep [] w4 w5 := by rw [← hw5]; exact (Keep.refl [] w4).alloc _
      have hb5 : w5.heap[w4.heap.size]? = some (.cells #[] 128 (0, 0)) := by rw [← hw5]; exact heap_alloc_new w4 _
      have hs5 := hk5.size
      obtain ⟨v6, w6, hrun6, hO6, hk6, hloc6⟩ := run_append_row (P := Try.prog) (ty := 124) dueLies Try.underlying124 due_infoF rfl (by decide) (by decide) w4.heap.size (dueE_nil (base := w4.heap.size) hb5 (Nat.le_refl _)) (hr2'.keep hk5 (by simp)) (by simp; have := HT.out.2; simp at this; omega) hs5
      have hs6 := hk6.size
      have hk46 : Keep [] w4 w6 := hk5.trans' hk6 (fun b hb => .inr (by simp [Value.ownBlock] at hb; omega))
      obtain ⟨v7, w7, hrun7, hO7, hk7, hloc7⟩ := run_append_row (P := Try.prog) (ty := 124) dueLies Try.underlying124 due_infoF rfl (by decide) (by decide) w4.heap.size hO6 (hr3'.keep hk46 (by simp)) (by simp; have := HT.out.2; simp at this; omega) (by omega)
      have hk47 : Keep [] w4 w7 := hk46.trans' hk7 (fun b hb => .inr (by rw [Option.mem_toList] at hb; exact (hO6.lt b hb).1))
      have hO7' : RowE dueE 2 128 w7 w4.heap.size v7 (x ++ y) := hO7
      have hr47 := hr4.keep hk47 (by simp)
      obtain ⟨Z, hZ⟩ : ∃ Z, x ++ y = Z := ⟨_, rfl⟩
      rw [hZ] at hO7' hr47 HT
      obtain ⟨a6, c6, rfl⟩ := hO6.form
      obtain ⟨a7, c7, rfl⟩ := hO7'.form
      have HZ := Lib.hid (show WV w7 D g m2 ∧ WV w7 E h m2 ∧ RowE dueE 2 128 w7 0 (.slice a7 Z.length c7) Z ∧ RowE dueE 2 128 w7 0 (.slice a4 Z.length c4) Z ∧ Keep [] W w7 from ⟨hv4.keep hk47 (by simp), hu4.keep hk47 (by simp), hO7'.lower (Nat.zero_le _), hr47.lower (Nat.zero_le _), hkW.trans hk47⟩)
      rw [hZ]
      have HR6 := Lib.hid hrun6
      have HR7 := Lib.hid hrun7
      clear hO7 hO7' hr47 hr2' hr3' hr4 hv4 hu4 hkW hk5 hb5 hs5 hrun6 hO6 hk6 hloc6 hs6 hk46 hrun7 hk7 hloc7 hk47 hs4 hw1r hnE hs HE
      go_wp2_with (at_builtin; first | refine wpList_append_run rfl (.tmp 85) (.tmp 86) 124 rfl (w' := w6) rfl rfl HR6.out ?_ | refine wpList_append_run rfl (.tmp 87) (.tmp 88) 124 rfl (w' := w7) rfl rfl HR7.out ?_)
      go_loopw [18] (fun vi wr => ∃ (i : Nat), i ≤ Z.length ∧ vi = .int .i64 (i : Int) ∧ Hid (WV wr D g m2 ∧ WV wr E h m2 ∧ RowE dueE 2 128 wr 0 (.slice a7 Z.length c7) Z ∧ RowE dueE 2 128 wr 0 (.slice a4 Z.length c4) Z ∧ Keep [] W wr)) (fun vi _ => Z.length - (intOf vi).toNat)
      case atStart => exact ⟨0, by omega, rfl, HZ⟩
      case round =>
        clear HZ HR6 HR7
        obtain ⟨i, hi, rfl, HI⟩ := hrel
        by_cases hiz : i < Z.length
        · obtain ⟨g7, rfl, -, q7⟩ := RowE.cells dueLies HI.out.2.2.1 hiz
          obtain ⟨g4, rfl, -, q4⟩ := RowE.cells dueLies HI.out.2.2.2.1 hiz
          obtain ⟨n, hn⟩ : ∃ n, Z[i].1 = n := ⟨_, rfl⟩
          obtain ⟨t, ht⟩ : ∃ t, Z[i].2 = t := ⟨_, rfl⟩
          have hr := HT.out.1 i hiz
          rw [ht] at hr
          have x0 := q7 0 (.int .i64 n) (by rw [← hn]; rfl)
          have x1 := q7 1 (.int .i64 (t : Int)) (by rw [← ht]; rfl)
          have y0 := q4 0 (.int .i64 n) (by rw [← hn]; rfl)
          have y1 := q4 1 (.int .i64 (t : Int)) (by rw [← ht]; rfl)
          rw [Nat.add_zero] at x0 y0
          have hle : ¬ ((na : Int) + (nb : Int)) < (t : Int) := by have := hr.1; omega
          have hwa : IntKind.i64.wrap (na : Int) = (na : Int) := i64_wrap (by omega) (by omega)
          have hwb : IntKind.i64.wrap (nb : Int) = (nb : Int) := i64_wrap (by omega) (by omega)
          have hwc : IntKind.i64.wrap ((na : Int) + (nb : Int)) = (na : Int) + (nb : Int) := i64_wrap (by omega) (by omega)
          have hdd : decide ((na : Int) + (nb : Int) < (t : Int)) = false := decide_eq_false hle
          clear q7 hn ht hle
          cases i with
          | zero =>
            clear q4 hr
            go_upto_region 20 with fail
            refine wp_region_his [] [] (fun _ => 0) (by kernel_rfl) (by kernel_rfl) ?_
            intro wx hkx hhx
            have p1 := fun w' (h' : Keep [] wx w') => (hkx.trans h').cell (by simp) x0
            have p2 := fun w' (h' : Keep [] wx w') => (hkx.trans h').cell (by simp) x1
            have p3 := fun w' (h' : Keep [] wx w') => (hkx.trans h').cell (by simp) y0
            have p4 := fun w' (h' : Keep [] wx w') => (hkx.trans h').cell (by simp) y1
            clear x0 x1 y0 y1 hhx
            (repeat (first | (refine his_q rfl rfl (fun K hK => ?_); apply Exists.intro; refine ⟨fun w' hC => ?_, ?_⟩; ((try simp [Sg.upd] at hC); go_simp <;> rfl); go_simp; refine hK _ _ ?_; clear hK K) | (refine his_s rfl (fun K hK => ?_); go_simp; refine hK _ _ ?_; clear hK K)))
            refine his_nil ?_
            have H3 := Lib.hid (And.intro (HI.out.1.keep hkx (by simp)) (And.intro (HI.out.2.1.keep hkx (by simp)) (And.intro (HI.out.2.2.1.keep hkx (by simp)) (And.intro (HI.out.2.2.2.1.keep hkx (by simp)) (HI.out.2.2.2.2.trans hkx)))))
            clear p1 p2 p3 p4 HI hkx
            go_wp2
            go_roundw
            case rel => exact ⟨1, by omega, by go_num, H3⟩
            case measure => simp [intOf]; omega
          | succ k =>
            have hk : k < Z.length := by omega
            obtain ⟨t2, ht2⟩ : ∃ t2, Z[k].2 = t2 := ⟨_, rfl⟩
            have hr2 : t2 ≤ t := by rw [← ht2]; exact hr.2 (by omega)
            obtain ⟨g4', e4, -, q5⟩ := RowE.cells dueLies HI.out.2.2.2.1 hk
            injection e4 with e4
            injection e4 with e4
            subst e4
            have y2 := q5 1 (.int .i64 (t2 : Int)) (by rw [← ht2]; rfl)
            have hd2 : decide ((t : Int) < (t2 : Int)) = false := decide_eq_false (by omega)
            have hd3 : decide (t < t2) = false := decide_eq_false (by omega)
            have hwk : IntKind.i64.wrap (((k + 1 : Nat) : Int) - 1) = (k : Int) := by rw [i64_wrap (by have := HT.out.2; omega) (by have := HT.out.2; omega)]; omega
            have hwk2 : IntKind.i64.wrap ((k : Int) + 1 - 1) = (k : Int) := by rw [i64_wrap (by have := HT.out.2; omega) (by have := HT.out.2; omega)]; omega
            have hwk3 : IntKind.i64.wrap (k : Int) = (k : Int) := i64_wrap (by have := HT.out.2; omega) (by have := HT.out.2; omega)
            have hk0 : (0 : Int) < ((k + 1 : Nat) : Int) := by omega
            have hk1 : decide ((0 : Int) < (k : Int) + 1) = true := decide_eq_true (by omega)
            clear q5 q4 ht2 hr hr2
            go_upto_region 20 with fail
            refine wp_region_his [] [] (fun _ => 0) (by kernel_rfl) (by kernel_rfl) ?_
            intro wx hkx hhx
            have p1 := fun w' (h' : Keep [] wx w') => (hkx.trans h').cell (by simp) x0
            have p2 := fun w' (h' : Keep [] wx w') => (hkx.trans h').cell (by simp) x1
            have p3 := fun w' (h' : Keep [] wx w') => (hkx.trans h').cell (by simp) y0
            have p4 := fun w' (h' : Keep [] wx w') => (hkx.trans h').cell (by simp) y1
            have p5 := fun w' (h' : Keep [] wx w') => (hkx.trans h').cell (by simp) y2
            clear x0 x1 y0 y1 y2 hhx
            (repeat (first | (refine his_q rfl rfl (fun K hK => ?_); apply Exists.intro; refine ⟨fun w' hC => ?_, ?_⟩; ((try simp [Sg.upd] at hC); go_simp <;> rfl); go_simp; refine hK _ _ ?_; clear hK K) | (refine his_s rfl (fun K hK => ?_); go_simp; refine hK _ _ ?_; clear hK K)))
            refine his_nil ?_
            have H3 := Lib.hid (And.intro (HI.out.1.keep hkx (by simp)) (And.intro (HI.out.2.1.keep hkx (by simp)) (And.intro (HI.out.2.2.1.keep hkx (by simp)) (And.intro (HI.out.2.2.2.1.keep hkx (by simp)) (HI.out.2.2.2.2.trans hkx)))))
            have hZ100 := HT.out.2
            clear p1 p2 p3 p4 p5 HI hkx hwa hwb hwc hwk hwk2 hwk3 hd2 hd3 hdd hk0 hk1
            go_wp2
            go_roundw
            case rel => exact ⟨k + 1 + 1, by omega, by go_num, H3⟩
            case measure => simp [intOf]; omega
        · have hl1 := len_any _ D g m2 HI.out.1
          have hl2 := len_any _ E h m2 HI.out.2.1
          have ht1 := time_any _ D g m2 HI.out.1
          have ht2 := time_any _ E h m2 HI.out.2.1
          have HK := Lib.hid HI.out.2.2.2.2
          clear HI
          go_wp2_with fail
          refine hl1.mono ?_
          clear hl1
          rintro e w8 ⟨rfl, rfl⟩
          go_wp2_with fail
          refine hl2.mono ?_
          clear hl2
          rintro e w8 ⟨rfl, rfl⟩
          go_wp2_with fail
          refine ht1.mono ?_
          clear ht1
          rintro e w8 ⟨rfl, rfl⟩
          go_wp2_with fail
          refine ht2.mono ?_
          clear ht2
          rintro e w8 ⟨rfl, rfl⟩
          go_wp2_with fail
          refine (awake24_any _).mono ?_
          rintro e w9 ⟨rfl, hk9⟩
          have HZ := Lib.hid (HK.out.trans hk9)
          clear hk9
          go_wp2
          go_ret
          exact ⟨rfl, HZ.out.below (Nat.le_refl _) (by simp)⟩
end Go.Proofs.Ytjkjiabfhhnngaa
