import Derived.Test.YtijljdcpajjhhaaPlay11
/-! The walk of the law RegionPlays. -/
namespace Go.Proofs.Ytijljdcpajjhhaa
open Go.RowKit Go.Shelf Sg
attribute [local go_sem] Oper.semAt_some
set_option linter.unusedSimpArgs false
set_option linter.unusedVariables false

theorem LogAt.addL {W w w' : World} {X : List Nat} {gl g : Nat} {c : Lc} {l : Lg} {m : Dev} {F : Nat → List (List UInt8)} (h : LogAt W X w gl g c l m F) (k : Keep [] w w') (Y : List Nat) (hY : ∀ y ∈ Y, w.heap.size ≤ y ∧ y < w'.heap.size) : LogAt W (Y ++ X) w' gl g c l m F := by
  obtain ⟨D, E, r1, r2⟩ := h.mem
  refine ⟨h.k.trans k, h.inv, ⟨D, E, r1.keep k (by simp), fun b hb => ⟨(r2 b hb).1, fun hm => ?_⟩⟩, fun b hb => ?_⟩
  · rcases List.mem_append.1 hm with hm | hm
    · have := rv_lt r1 _ hb
      have := hY b hm
      omega
    · exact (r2 b hb).2 hm
  · rcases List.mem_append.1 hb with hb | hb
    · exact (hY b hb).2
    · exact Nat.lt_of_lt_of_le (h.lt b hb) k.size
theorem two_rows (w : World) (a a' b b' : Array Value) (t u : TypeId) :
    ((w.alloc (.cells a t)).alloc (.cells b u)).heap[w.heap.size]? = some (.cells a t (0, 0)) ∧
    (((w.alloc (.cells a t)).alloc (.cells b u)).setRow w.heap.size a').heap[w.heap.size + 1]? = some (.cells b u (0, 0)) ∧
    Keep [] w ((((w.alloc (.cells a t)).alloc (.cells b u)).setRow w.heap.size a').setRow (w.heap.size + 1) b') ∧
    ((((w.alloc (.cells a t)).alloc (.cells b u)).setRow w.heap.size a').setRow (w.heap.size + 1) b').heap[w.heap.size]? = some (.cells a' t (0, 0)) ∧
    ((((w.alloc (.cells a t)).alloc (.cells b u)).setRow w.heap.size a').setRow (w.heap.size + 1) b').heap[w.heap.size + 1]? = some (.cells b' u (0, 0)) := by
  have h1 : ((w.alloc (.cells a t)).alloc (.cells b u)).heap[w.heap.size]? = some (.cells a t (0, 0)) := ((Keep.refl [] (w.alloc (.cells a t))).alloc (.cells b u)).blk (by simp) (heap_alloc_new w (.cells a t))
  have h2 := heap_alloc2_new w (.cells a t) (.cells b u)
  have h3 : (((w.alloc (.cells a t)).alloc (.cells b u)).setRow w.heap.size a').heap[w.heap.size + 1]? = some (.cells b u (0, 0)) := by rw [setRow_other _ _ _ _ (by omega)]; exact h2
  refine ⟨h1, h3, ((((Keep.refl [] w).alloc _).alloc _).setRow (.inr (Nat.le_refl _)) _).setRow (.inr (by omega)) _, ?_, setRow_heap _ _ _ _ _ _ h3⟩
  rw [setRow_other _ _ _ _ (by omega)]
  exact setRow_heap _ _ _ _ _ _ h1
theorem PlayR.lastb {W w : World} {c : Lc} {B g gl : Nat} {l : Lg} {m : Dev} {F : Nat → List (List UInt8)} {ks : List Kp} {ka : Option Addr} {kc : Nat} (h : PlayR W c B g w gl l m F ks ka kc) : KRow w 0 (.slice ka ks.length kc) ks := h.own
set_option maxRecDepth 100000 in
set_option maxHeartbeats 1000000 in
set_option maxHeartbeats 8000000 in
theorem regionPlaysWalk (W : World) (v0 : Value) (l0 : List RAct) (hv : RActs W v0 l0) :
    Calls Try.prog 5 #[v0] W fun e W' => e = .returned (.bool true) ∧ Below W.heap.size W W' := by
  obtain ⟨va, vc, rfl, hlc, hlm, hcm⟩ := hv.form
  have HV := Lib.hid hv
  have cL := light11_any W _ l0 hv
  clear hv
  go_enter Try.func5, Try.ntmps5
  go_wp2_with fail
  refine cL.mono ?_
  clear cL
  rintro e w1 ⟨(⟨⟨h60, hsize⟩, rfl⟩ | ⟨-, rfl⟩), k1⟩
  case inr =>
    go_wp2
    go_ret
    exact ⟨rfl, k1.below (Nat.le_refl _) (by simp)⟩
  have HSZ := Lib.hid hsize
  clear hsize
  go_wp2_with fail
  refine (show Calls Try.prog 15 #[.int .i64 60, .int .i64 96] w1 _ from newDev_any 60 96 (by decide) w1).mono ?_
  rintro e w2 ⟨g, D, rfl, hD, k2, hf⟩
  go_wp2_with fail
  refine (small_any _).mono ?_
  rintro e w3 ⟨rfl, k3⟩
  have q1 : (lcOf smallP).R = 3 := rfl
  have q2 : (lcOf smallP).S * (lcOf smallP).rm = 154 := rfl
  have q5 : (lcOf smallP).rm = 77 := rfl
  have q3 : (lg0 smallP).at_ = 154 := rfl
  have q4 : (lg0 smallP).last = 0 := rfl
  have cF := format_ok (W := W) (X := []) w3 (k1.trans (k2.trans k3)) (hD.keep k3 (by simp)) (fun b hb => ⟨Nat.le_trans k1.size (hf b hb), by simp⟩) (by simp) smallP small_on
  have hOp : ∀ (X : List Nat) (w : World) (gl : Nat) (l : Lg) (m : Dev) (F : Nat → List (List UInt8)), LogAt W X w gl g (lcOf smallP) l m F → m.n = 60 ∧ m.sz = 96 → m.acts ≤ 1000000000 → l.last ≤ 1000000000 →
      Calls Try.prog 43 #[.pointer (some ⟨g, 0, none⟩), smallP.v, .int .i64 (l.last : Int)] w fun e w' => ∃ gl', e = .returned (.tuple #[.pointer (some ⟨gl', 0, none⟩), .int .i64 0]) ∧ LogAt W X w' gl' g (lcOf smallP) ⟨l.last, 154, []⟩ m F ∧ Keep [] w w' :=
    fun X w gl l m F h hn h1 h2 => open_ok w h ⟨by decide, by rw [hn.1]; rfl, by rw [hn.2]; rfl⟩ h1 h2
  have HOP := Lib.hid hOp
  clear hOp
  generalize lcOf smallP = c at *
  generalize lg0 smallP = lg at *
  clear hD hf k1 k2 k3
  go_wp2_with fail
  refine cF.mono ?_
  clear cF
  rintro e w4 ⟨gl0, rfl, h4, -⟩
  have ha0 : (Dev.new 60 96).acts = 0 := rfl
  have hn0 : (Dev.new 60 96).n = 60 ∧ (Dev.new 60 96).sz = 96 := ⟨rfl, rfl⟩
  generalize Dev.new 60 96 = m0 at *
  generalize (fun _ => ([] : List (List UInt8))) = F0 at *
  go_wp2_with fail
  refine (refNew_any _).mono ?_
  rintro e w5 ⟨rfl, k5⟩
  have h5 := (h4.keep k5)
  clear h4 k5
  have hA5 := heap_alloc_new w5 (.cells #[.int .i64 0, .int .i64 0, .int .i64 0, .int .i64 0, .int .i64 0, .slice none 0 0] 76)
  have h6 := h5.add ((Keep.refl [] w5).alloc (.cells #[.int .i64 0, .int .i64 0, .int .i64 0, .int .i64 0, .int .i64 0, .slice none 0 0] 76)) (x := w5.heap.size) (Nat.le_refl _) (heap_alloc_new w5 (.cells #[.int .i64 0, .int .i64 0, .int .i64 0, .int .i64 0, .int .i64 0, .slice none 0 0] 76) |> fun h => (Array.getElem?_eq_some_iff.1 h).1)
  have P0 := PlayR.put (ks := []) (ka := none) (kc := 0) h6 hA5 (KRow.nil _ _) h5.k.size (by simp) hn0
  rw [q3, q4] at P0
  have HP := Lib.hid P0
  have HA5 := Lib.hid hA5
  clear h5 hA5 h6 P0
  go_wp2_with (refine wpList_store_row rfl 76 (.tmp 6) (.tmp 29) rfl w5.heap.size (Rf.cells ⟨3, 77, 154, 0, 154⟩ (.slice none 0 0)) rfl rfl 76 _ HA5.out (by kernel_rfl) (by rfl) (by kernel_rfl) ?_)
  obtain ⟨w6, hw6⟩ : ∃ w6, (w5.alloc (.cells #[.int .i64 0, .int .i64 0, .int .i64 0, .int .i64 0, .int .i64 0, .slice none 0 0] 76)).setRow w5.heap.size (Rf.cells ⟨3, 77, 154, 0, 154⟩ (.slice none 0 0)) = w6 := ⟨_, rfl⟩
  rw [show (Value.slice none ([] : List Kp).length 0) = .slice none 0 0 from rfl, hw6] at HP
  rw [hw6]
  have HP := Lib.hid (And.intro HP.out (And.intro trivial (And.intro q3 q4)))
  clear hw6 HA5
  generalize w5.heap.size = B at *
  go_wp2
  go_loopw [4, 7] (fun u i wr => ∃ (k gl : Nat) (l : Lg) (m : Dev) (F : Nat → List (List UInt8)) (ks : List Kp) (ka : Option Addr) (kc : Nat), u = .pointer (some ⟨gl, 0, none⟩) ∧ k ≤ l0.length ∧ i = .int .i64 (k : Int) ∧ Hid (PlayR W c B g wr gl l m F ks ka kc) ∧ l.last ≤ k ∧ m.acts ≤ k * 404 ∧ ks.length ≤ k) (fun _ i _ => l0.length - (intOf i).toNat)
  case atStart =>
    have hp := HP.out.1
    exact ⟨0, gl0, lg, m0, F0, [], none, 0, rfl, by omega, rfl, Lib.hid hp, by have := HP.out.2.2.2; omega, by omega, by simp⟩
  case round =>
    clear ha0 hn0 HP
    obtain ⟨k, gl, l, m, F, ks, ka, kc, rfl, hk, rfl, hP, hlast, hacts, hkl⟩ := hrel
    by_cases hlt : k < l0.length
    case neg =>
      have hlt' : ¬ (k : Int) < (l0.length : Int) := by omega
      obtain ⟨kl, hkl2⟩ : ∃ kl, ks.length = kl := ⟨_, rfl⟩
      have HKL := Lib.hid hkl2
      have hkl3 : kl ≤ 60 := by omega
      have hl3 : l.last ≤ 60 := by omega
      have ha3 : m.acts ≤ 60 * 404 := by omega
      clear hkl2 hacts hlast hkl HV HSZ HOP
      go_wp2_with fail
      go_loopw [16] (fun i w' => ∃ j : Nat, j ≤ kl ∧ i = .int .i64 (j : Int) ∧ Hid (PlayR W c B g w' gl l m F ks ka kc)) (fun i _ => kl - (intOf i).toNat)
      case atStart => exact ⟨0, by omega, rfl, hP⟩
      case round =>
        clear hP
        obtain ⟨j, hj, rfl, hP2⟩ := hrel
        rename_i wq
        have t5 := hP2.out.cl.2.2.2.2.2
        rw [HKL.out] at t5
        by_cases hjl : j < kl
        case neg =>
          have hjl' : ¬ (j : Int) < (kl : Int) := by omega
          go_wp2_with fail
          refine (awake11_any _).mono ?_
          rintro e w5 ⟨rfl, k5⟩
          clear t5
          go_wp2
          go_ret
          exact ⟨rfl, (hP2.out.log.k.trans k5).below (Nat.le_refl _) (by simp)⟩
        have v6 : (j : Int) < (kl : Int) := by omega
        go_wp2_with fail
        clear t5
        refine wp_region_his [] [7] (fun _ => 0) (by kernel_rfl) (by kernel_rfl) ?_
        intro wd hkd hh
        clear hh
        have hE := hP2.out.keep hkd
        clear hP2 hkd
        have u0 := fun w' (h : Keep [] wd w') => (hE.keep h).cl.1
        have u1 := fun w' (h : Keep [] wd w') => (hE.keep h).cl.2.1
        have u2 := fun w' (h : Keep [] wd w') => (hE.keep h).cl.2.2.1
        have u3 := fun w' (h : Keep [] wd w') => (hE.keep h).cl.2.2.2.1
        have u4 := fun w' (h : Keep [] wd w') => (hE.keep h).cl.2.2.2.2.1
        have u5 := fun w' (h : Keep [] wd w') => (hE.keep h).cl.2.2.2.2.2
        rw [HKL.out] at u5
        obtain ⟨kp, hkp⟩ : ∃ kp, ks[j]'(by rw [HKL.out]; exact hjl) = kp := ⟨_, rfl⟩
        have hgd := hE.good kp (by rw [← hkp]; exact List.getElem_mem _)
        obtain ⟨b2, rfl, -⟩ := hE.at_ (i := j) (by rw [HKL.out]; exact hjl)
        have hat := fun w' (h : Keep [] wd w') => (hE.keep h).at_ (i := j) (by rw [HKL.out]; exact hjl)
        rw [hkp] at hat
        have f0 : ∀ w', Keep [] wd w' → w'.cell? ⟨b2, j * 4, none⟩ = some (.int .i64 (kp.q : Int)) := fun w' h => by obtain ⟨b3, e, r⟩ := hat w' h; cases e; exact r.1
        have f1 : ∀ w', Keep [] wd w' → w'.cell? ⟨b2, j * 4 + 1, none⟩ = some (.int .i64 (kp.a : Int)) := fun w' h => by obtain ⟨b3, e, r⟩ := hat w' h; cases e; exact r.2.1
        have f2 : ∀ w', Keep [] wd w' → w'.cell? ⟨b2, j * 4 + 2, none⟩ = some (.int .i64 (kp.bs.length : Int)) := fun w' h => by obtain ⟨b3, e, r⟩ := hat w' h; cases e; exact r.2.2.1
        have f3 : ∀ w', Keep [] wd w' → w'.cell? ⟨b2, j * 4 + 3, none⟩ = some (.string ⟨kp.bs.toArray⟩) := fun w' h => by obtain ⟨b3, e, r⟩ := hat w' h; cases e; exact r.2.2.2
        have cRd := fun w' (h : Keep [] wd w') => read11_any w' (hE.log.keep h) (by omega) ⟨3, 77, 154, l.last, l.at_⟩ (.slice (some ⟨b2, 0, none⟩) ks.length kc) ⟨_, _, _, rfl⟩ ⟨q1.symm, rfl⟩ (by omega) kp hgd
        rw [HKL.out] at cRd
        have HP := Lib.hid (And.intro hE cRd)
        clear hE hat hkp hgd cRd
        (repeat (first | (refine his_q rfl rfl (fun K hK => ?_); apply Exists.intro; refine ⟨fun w' hC => ?_, ?_⟩; ((try simp [Sg.upd] at hC); go_simp <;> rfl); go_simp; refine hK _ _ ?_; clear hK K) | (refine his_s rfl (fun K hK => ?_); go_simp; refine hK _ _ ?_; clear hK K)))
        (refine his_l rfl rfl (fun K hK => ?_); go_simp)
        refine (HP.out.2 _ (Keep.refl _ _)).mono ?_
        rintro e w11 ⟨rfl, k11⟩
        refine hK _ _ k11 ?_
        clear hK K
        (repeat (first | (refine his_q rfl rfl (fun K hK => ?_); apply Exists.intro; refine ⟨fun w' hC => ?_, ?_⟩; ((try simp [Sg.upd] at hC); go_simp <;> rfl); go_simp; refine hK _ _ ?_; clear hK K) | (refine his_s rfl (fun K hK => ?_); go_simp; refine hK _ _ ?_; clear hK K)))
        refine his_nil ?_
        have HE := Lib.hid (HP.out.1.keep k11)
        clear u0 u1 u2 u3 u4 u5 f0 f1 f2 f3 HP k11
        go_wp2_with fail
        case roundEnd =>
          refine ⟨⟨j + 1, by omega, by go_num, HE⟩, ?_⟩
          simp [intOf]; omega
    have hlt' : (k : Int) < (l0.length : Int) := by omega
    obtain ⟨b, o, rfl, hc⟩ := HV.out.spot hlt
    have hxk := HSZ.out k hlt
    have hxo := HV.out.each hlt
    obtain ⟨x, hx⟩ : ∃ x, l0[k] = x := ⟨_, rfl⟩
    rw [hx] at hc hxk hxo
    have HC := Lib.hid hc
    have hatl := hP.out.log.inv.atl
    rw [q2] at hatl
    obtain ⟨t, r, s1, s2, s3, s4, s5, s6, s7⟩ := kind7 x.kind
    clear hx hc
    obtain ⟨c0, c1, c2, c3⟩ := HC.out wr hP.out.log.k
    by_cases hr4 : r = 4
    case pos =>
      subst hr4
      have cFl := flush_ok2 wr hP.out.log (by omega)
      clear c1 c2 c3
      go_wp2_with fail
      refine cFl.mono ?_
      clear cFl c0
      rintro e w7 ⟨l7, m7, F7, z, rfl, st, hn7, h7, rs7⟩
      obtain ⟨row7, own7⟩ := hP.out.rest rs7
      have g7 : ∀ kp ∈ ks, GoodK l7 F7 kp := fun kp hkp => (hP.out.good kp hkp).flush st
      have e7 : l7.last = l.last := st.last
      have e8 := st.acts
      have e9 := st.at_
      have z1 := st.zlt
      have z2 := st.mod
      rw [q5] at z1
      rw [q5, e9] at z2
      have cRF := refFlush_any ⟨3, 77, 154, l.last, l.at_⟩ (.slice ka ks.length kc) ⟨_, _, _, rfl⟩ z z1 z2 ⟨by show l.at_ ≤ _; omega, by show (77 : Nat) ≤ _; omega⟩ w7
      have u0 := cell_of_row _ _ 0 _ _ _ row7
      have u1 := cell_of_row _ _ 1 _ _ _ row7
      have u2 := cell_of_row _ _ 2 _ _ _ row7
      have u3 := cell_of_row _ _ 3 _ _ _ row7
      have u4 := cell_of_row _ _ 4 _ _ _ row7
      have u5 := cell_of_row _ _ 5 _ _ _ row7
      simp [Rf.cells] at u0 u1 u2 u3 u4 u5
      have H7 := Lib.hid (And.intro h7 (And.intro row7 (And.intro own7 (And.intro g7 (And.intro hP.out.low (And.intro (And.intro (hn7.1.trans hP.out.n.1) (hn7.2.trans hP.out.n.2)) st))))))
      clear hP h7 row7 own7 g7 rs7 hn7 st z1 z2 e8
      go_wp2_with fail
      refine cRF.mono ?_
      clear cRF u0 u1 u2 u3 u4 u5
      rintro e w8 ⟨rfl, k8⟩
      have row8 := k8.blk (by simp) H7.out.2.1
      have hp := PlayR.put (H7.out.1.keep k8) row8 (H7.out.2.2.1.keep k8 (by simp)) H7.out.2.2.2.2.1 H7.out.2.2.2.1 H7.out.2.2.2.2.2.1
      rw [e7, e9] at hp
      go_wp2_with (refine wpList_store_row rfl 76 (.tmp 6) (.tmp 79) rfl B (Rf.cells ⟨3, 77, 154, l.last, l.at_ + z⟩ (.slice ka ks.length kc)) rfl rfl 76 _ row8 (by kernel_rfl) (by rfl) (by kernel_rfl) ?_)
      obtain ⟨w9, hw9⟩ : ∃ w9, w8.setRow B (Rf.cells ⟨3, 77, 154, l.last, l.at_ + z⟩ (.slice ka ks.length kc)) = w9 := ⟨_, rfl⟩
      rw [hw9] at hp ⊢
      have HE := Lib.hid hp
      have eacts : m7.acts ≤ (k + 1) * 404 := by have := H7.out.2.2.2.2.2.2.acts; omega
      have eat := H7.out.1.inv.atl
      rw [q2] at eat
      have ela : l7.last ≤ k + 1 := by omega
      have ekl : ks.length ≤ k + 1 := by omega
      clear hw9 H7 row8 k8 hp e7 e9
      obtain ⟨ol, hol⟩ : ∃ ol, c.oldest l7 = ol := ⟨_, rfl⟩
      have hol2 : max (l7.last + 1 - 3) 1 = ol := by rw [← hol]; unfold Lc.oldest; rw [q1]
      obtain ⟨M, hM⟩ : ∃ M, l7.last * 154 = M := ⟨_, rfl⟩
      have y0 : (l7.last : Int) * 154 = (M : Int) := by omega
      have y1 : IntKind.i64.wrap (M : Int) = (M : Int) := i64_wrap (by omega) (by omega)
      obtain ⟨N2, hN2⟩ : ∃ N2, M + l7.at_ = N2 := ⟨_, rfl⟩
      have y2 : IntKind.i64.wrap ((M : Int) + (l7.at_ : Int)) = (N2 : Int) := by rw [i64_wrap (by omega) (by omega)]; omega
      have HY := Lib.hid (And.intro hol (And.intro hol2 (And.intro hM hN2)))
      clear hol hol2 hM hN2
      go_wp2_with fail
      refine wp_region_his [] [1, 7, 9, 14] (fun _ => 0) (by kernel_rfl) (by kernel_rfl) ?_
      intro wd hkd hh
      clear hh
      have hE := HE.out.keep hkd
      have u3 := fun w' (h : Keep [] wd w') => (hE.keep h).cl.2.2.2.1
      have u4 := fun w' (h : Keep [] wd w') => (hE.keep h).cl.2.2.2.2.1
      have u0 := fun w' (h : Keep [] wd w') => (hE.keep h).cl.1
      have u1 := fun w' (h : Keep [] wd w') => (hE.keep h).cl.2.1
      have u2 := fun w' (h : Keep [] wd w') => (hE.keep h).cl.2.2.1
      have u5 := fun w' (h : Keep [] wd w') => (hE.keep h).cl.2.2.2.2.2
      have cLa := fun w' (h : Keep [] wd w') => last_ok w' (hE.log.keep h)
      have cOl := fun w' (h : Keep [] wd w') => oldest_ok w' (hE.log.keep h)
      rw [HY.out.1] at cOl
      have cWh := fun w' (h : Keep [] wd w') => where_ok w' (hE.log.keep h)
      rw [q2, HY.out.2.2.1, HY.out.2.2.2] at cWh
      have cRO := fun w' => refOldest_any ⟨3, 77, 154, l7.last, l7.at_⟩ (.slice ka ks.length kc) ⟨by show l7.last ≤ _; omega, by show (3 : Nat) ≤ _; omega⟩ w'
      simp only [HY.out.2.1] at cRO
      have HH := Lib.hid (And.intro cLa (And.intro cOl (And.intro cRO (And.intro cWh hE))))
      clear cLa cOl cRO cWh hE HE HY hkd
      (repeat (first | (refine his_q rfl rfl (fun K hK => ?_); apply Exists.intro; refine ⟨fun w' hC => ?_, ?_⟩; ((try simp [Sg.upd] at hC); go_simp <;> rfl); go_simp; refine hK _ _ ?_; clear hK K) | (refine his_s rfl (fun K hK => ?_); go_simp; refine hK _ _ ?_; clear hK K)))
      (refine his_l rfl rfl (fun K hK => ?_); go_simp)
      refine (HH.out.1 _ (Keep.refl _ _)).mono ?_
      rintro e w11 ⟨rfl, rfl⟩
      refine hK _ _ (Keep.refl _ _) ?_
      clear hK K
      (repeat (first | (refine his_q rfl rfl (fun K hK => ?_); apply Exists.intro; refine ⟨fun w' hC => ?_, ?_⟩; ((try simp [Sg.upd] at hC); go_simp <;> rfl); go_simp; refine hK _ _ ?_; clear hK K) | (refine his_s rfl (fun K hK => ?_); go_simp; refine hK _ _ ?_; clear hK K)))
      (refine his_l rfl rfl (fun K hK => ?_); go_simp)
      refine (HH.out.2.1 _ (Keep.refl _ _)).mono ?_
      rintro e w12 ⟨rfl, k12⟩
      refine hK _ _ k12 ?_
      clear hK K
      have K12 := Lib.hid k12
      clear k12
      (repeat (first | (refine his_q rfl rfl (fun K hK => ?_); apply Exists.intro; refine ⟨fun w' hC => ?_, ?_⟩; ((try simp [Sg.upd] at hC); go_simp <;> rfl); go_simp; refine hK _ _ ?_; clear hK K) | (refine his_s rfl (fun K hK => ?_); go_simp; refine hK _ _ ?_; clear hK K)))
      (refine his_l rfl rfl (fun K hK => ?_); go_simp)
      refine (HH.out.2.2.1 _).mono ?_
      rintro e w13 ⟨rfl, k13⟩
      refine hK _ _ k13 ?_
      clear hK K
      have K13 := Lib.hid (K12.out.trans k13)
      clear k13
      (repeat (first | (refine his_q rfl rfl (fun K hK => ?_); apply Exists.intro; refine ⟨fun w' hC => ?_, ?_⟩; ((try simp [Sg.upd] at hC); go_simp <;> rfl); go_simp; refine hK _ _ ?_; clear hK K) | (refine his_s rfl (fun K hK => ?_); go_simp; refine hK _ _ ?_; clear hK K)))
      (refine his_l rfl rfl (fun K hK => ?_); go_simp)
      refine (HH.out.2.2.2.1 _ K13.out).mono ?_
      rintro e w14 ⟨rfl, k14⟩
      refine hK _ _ k14 ?_
      clear hK K
      have K14 := Lib.hid (K13.out.trans k14)
      clear k14
      (repeat (first | (refine his_q rfl rfl (fun K hK => ?_); apply Exists.intro; refine ⟨fun w' hC => ?_, ?_⟩; ((try simp [Sg.upd] at hC); go_simp <;> rfl); go_simp; refine hK _ _ ?_; clear hK K) | (refine his_s rfl (fun K hK => ?_); go_simp; refine hK _ _ ?_; clear hK K)))
      refine his_nil ?_
      clear u0 u1 u2 u3 u4 u5
      go_wp2_with fail
      case roundEnd =>
        refine ⟨⟨k + 1, gl, l7, m7, F7, ks, ka, kc, rfl, by omega, by go_num, Lib.hid (HH.out.2.2.2.2.keep K14.out), by omega, by omega, by omega⟩, ?_⟩
        simp [intOf]; omega
    by_cases hr5 : r = 5
    case pos =>
      subst hr5
      clear c1 c2 c3
      have eacts : m.acts ≤ (k + 1) * 404 := by omega
      have ela : l.last ≤ k + 1 := by omega
      have ekl : ks.length ≤ k + 1 := by omega
      have eat := hatl
      clear hacts hlast hkl hatl
      obtain ⟨kl, hkl⟩ : ∃ kl, ks.length = kl := ⟨_, rfl⟩
      have HKL := Lib.hid hkl
      rw [hkl] at ekl
      clear hkl
      go_wp2_with fail
      clear c0
      refine wp_region_his [] [23] (fun _ => 0) (by kernel_rfl) (by kernel_rfl) ?_
      intro wd hkd hh
      clear hh
      have hE := hP.out.keep hkd
      clear hP hkd
      have u0 := fun w' (h : Keep [] wd w') => (hE.keep h).cl.1
      have u1 := fun w' (h : Keep [] wd w') => (hE.keep h).cl.2.1
      have u2 := fun w' (h : Keep [] wd w') => (hE.keep h).cl.2.2.1
      have u3 := fun w' (h : Keep [] wd w') => (hE.keep h).cl.2.2.2.1
      have u4 := fun w' (h : Keep [] wd w') => (hE.keep h).cl.2.2.2.2.1
      have u5 := fun w' (h : Keep [] wd w') => (hE.keep h).cl.2.2.2.2.2
      rw [HKL.out] at u5
      by_cases hk0 : kl = 0
      case pos =>
        subst hk0
        have HP := Lib.hid hE
        clear hE
        (repeat (first | (refine his_q rfl rfl (fun K hK => ?_); apply Exists.intro; refine ⟨fun w' hC => ?_, ?_⟩; ((try simp [Sg.upd] at hC); go_simp <;> rfl); go_simp; refine hK _ _ ?_; clear hK K) | (refine his_s rfl (fun K hK => ?_); go_simp; refine hK _ _ ?_; clear hK K)))
        refine his_nil ?_
        clear u0 u1 u2 u3 u4 u5
        have HE := HP
        have ekl : ks.length ≤ k + 1 := by rw [HKL.out]; omega
        obtain ⟨ol, hol⟩ : ∃ ol, c.oldest l = ol := ⟨_, rfl⟩
        have hol2 : max (l.last + 1 - 3) 1 = ol := by rw [← hol]; unfold Lc.oldest; rw [q1]
        obtain ⟨M, hM⟩ : ∃ M, l.last * 154 = M := ⟨_, rfl⟩
        have y0 : (l.last : Int) * 154 = (M : Int) := by omega
        have y1 : IntKind.i64.wrap (M : Int) = (M : Int) := i64_wrap (by omega) (by omega)
        obtain ⟨N2, hN2⟩ : ∃ N2, M + l.at_ = N2 := ⟨_, rfl⟩
        have y2 : IntKind.i64.wrap ((M : Int) + (l.at_ : Int)) = (N2 : Int) := by rw [i64_wrap (by omega) (by omega)]; omega
        have HY := Lib.hid (And.intro hol (And.intro hol2 (And.intro hM hN2)))
        clear hol hol2 hM hN2
        go_wp2_with fail
        refine wp_region_his [] [1, 7, 9, 14] (fun _ => 0) (by kernel_rfl) (by kernel_rfl) ?_
        intro wd hkd hh
        clear hh
        have hE := HE.out.keep hkd
        have u3 := fun w' (h : Keep [] wd w') => (hE.keep h).cl.2.2.2.1
        have u4 := fun w' (h : Keep [] wd w') => (hE.keep h).cl.2.2.2.2.1
        have u0 := fun w' (h : Keep [] wd w') => (hE.keep h).cl.1
        have u1 := fun w' (h : Keep [] wd w') => (hE.keep h).cl.2.1
        have u2 := fun w' (h : Keep [] wd w') => (hE.keep h).cl.2.2.1
        have u5 := fun w' (h : Keep [] wd w') => (hE.keep h).cl.2.2.2.2.2
        have cLa := fun w' (h : Keep [] wd w') => last_ok w' (hE.log.keep h)
        have cOl := fun w' (h : Keep [] wd w') => oldest_ok w' (hE.log.keep h)
        rw [HY.out.1] at cOl
        have cWh := fun w' (h : Keep [] wd w') => where_ok w' (hE.log.keep h)
        rw [q2, HY.out.2.2.1, HY.out.2.2.2] at cWh
        have cRO := fun w' => refOldest_any ⟨3, 77, 154, l.last, l.at_⟩ (.slice ka ks.length kc) ⟨by show l.last ≤ _; omega, by show (3 : Nat) ≤ _; omega⟩ w'
        simp only [HY.out.2.1] at cRO
        have HH := Lib.hid (And.intro cLa (And.intro cOl (And.intro cRO (And.intro cWh hE))))
        clear cLa cOl cRO cWh hE HE HY hkd
        (repeat (first | (refine his_q rfl rfl (fun K hK => ?_); apply Exists.intro; refine ⟨fun w' hC => ?_, ?_⟩; ((try simp [Sg.upd] at hC); go_simp <;> rfl); go_simp; refine hK _ _ ?_; clear hK K) | (refine his_s rfl (fun K hK => ?_); go_simp; refine hK _ _ ?_; clear hK K)))
        (refine his_l rfl rfl (fun K hK => ?_); go_simp)
        refine (HH.out.1 _ (Keep.refl _ _)).mono ?_
        rintro e w11 ⟨rfl, rfl⟩
        refine hK _ _ (Keep.refl _ _) ?_
        clear hK K
        (repeat (first | (refine his_q rfl rfl (fun K hK => ?_); apply Exists.intro; refine ⟨fun w' hC => ?_, ?_⟩; ((try simp [Sg.upd] at hC); go_simp <;> rfl); go_simp; refine hK _ _ ?_; clear hK K) | (refine his_s rfl (fun K hK => ?_); go_simp; refine hK _ _ ?_; clear hK K)))
        (refine his_l rfl rfl (fun K hK => ?_); go_simp)
        refine (HH.out.2.1 _ (Keep.refl _ _)).mono ?_
        rintro e w12 ⟨rfl, k12⟩
        refine hK _ _ k12 ?_
        clear hK K
        have K12 := Lib.hid k12
        clear k12
        (repeat (first | (refine his_q rfl rfl (fun K hK => ?_); apply Exists.intro; refine ⟨fun w' hC => ?_, ?_⟩; ((try simp [Sg.upd] at hC); go_simp <;> rfl); go_simp; refine hK _ _ ?_; clear hK K) | (refine his_s rfl (fun K hK => ?_); go_simp; refine hK _ _ ?_; clear hK K)))
        (refine his_l rfl rfl (fun K hK => ?_); go_simp)
        refine (HH.out.2.2.1 _).mono ?_
        rintro e w13 ⟨rfl, k13⟩
        refine hK _ _ k13 ?_
        clear hK K
        have K13 := Lib.hid (K12.out.trans k13)
        clear k13
        (repeat (first | (refine his_q rfl rfl (fun K hK => ?_); apply Exists.intro; refine ⟨fun w' hC => ?_, ?_⟩; ((try simp [Sg.upd] at hC); go_simp <;> rfl); go_simp; refine hK _ _ ?_; clear hK K) | (refine his_s rfl (fun K hK => ?_); go_simp; refine hK _ _ ?_; clear hK K)))
        (refine his_l rfl rfl (fun K hK => ?_); go_simp)
        refine (HH.out.2.2.2.1 _ K13.out).mono ?_
        rintro e w14 ⟨rfl, k14⟩
        refine hK _ _ k14 ?_
        clear hK K
        have K14 := Lib.hid (K13.out.trans k14)
        clear k14
        (repeat (first | (refine his_q rfl rfl (fun K hK => ?_); apply Exists.intro; refine ⟨fun w' hC => ?_, ?_⟩; ((try simp [Sg.upd] at hC); go_simp <;> rfl); go_simp; refine hK _ _ ?_; clear hK K) | (refine his_s rfl (fun K hK => ?_); go_simp; refine hK _ _ ?_; clear hK K)))
        refine his_nil ?_
        clear u0 u1 u2 u3 u4 u5
        go_wp2_with fail
        case roundEnd =>
          refine ⟨⟨k + 1, gl, l, m, F, ks, ka, kc, rfl, by omega, by go_num, Lib.hid (HH.out.2.2.2.2.keep K14.out), by omega, by omega, by omega⟩, ?_⟩
          simp [intOf]; omega
      case neg =>
        obtain ⟨U, hU, hU2⟩ : ∃ U : Nat, IntKind.u64.wrap x.n = (U : Int) ∧ U < 18446744073709551616 := by
          have h1 := Int.emod_nonneg x.n (b := 18446744073709551616) (by decide)
          have h2 := Int.emod_lt_of_pos x.n (b := 18446744073709551616) (by decide)
          refine ⟨(x.n % 18446744073709551616).toNat, ?_, by omega⟩
          show x.n % 18446744073709551616 = _
          omega
        obtain ⟨j, hj⟩ : ∃ j, U % kl = j := ⟨_, rfl⟩
        have hj2 : j < kl := by rw [← hj]; exact Nat.mod_lt _ (by omega)
        have v1 : IntKind.u64.wrap (kl : Int) = (kl : Int) := by show (kl : Int) % 18446744073709551616 = _; omega
        have v2 : (U : Int).tmod (kl : Int) = (j : Int) := by rw [Int.tmod_eq_emod_of_nonneg (by omega), ← hj]; rfl
        have v3 : IntKind.u64.wrap (j : Int) = (j : Int) := by show (j : Int) % 18446744073709551616 = _; omega
        have v4 : IntKind.i64.wrap (j : Int) = (j : Int) := i64_wrap (by omega) (by omega)
        have v5 : ¬ (kl : Int) = 0 := by omega
        have v6 : (j : Int) < (kl : Int) := by omega
        have v7 : (0 : Int) < (kl : Int) := by omega
        have v8 : 0 < kl := by omega
        have v9 : ¬ kl = 0 := by omega
        have v10 : j < kl := hj2
        obtain ⟨kp, hkp⟩ : ∃ kp, ks[j]'(by rw [HKL.out]; exact hj2) = kp := ⟨_, rfl⟩
        have hgd := hE.good kp (by rw [← hkp]; exact List.getElem_mem _)
        obtain ⟨b2, rfl, -⟩ := hE.at_ (i := j) (by rw [HKL.out]; exact hj2)
        have hat := fun w' (h : Keep [] wd w') => (hE.keep h).at_ (i := j) (by rw [HKL.out]; exact hj2)
        rw [hkp] at hat
        have f0 : ∀ w', Keep [] wd w' → w'.cell? ⟨b2, j * 4, none⟩ = some (.int .i64 (kp.q : Int)) := fun w' h => by obtain ⟨b3, e, r⟩ := hat w' h; cases e; exact r.1
        have f1 : ∀ w', Keep [] wd w' → w'.cell? ⟨b2, j * 4 + 1, none⟩ = some (.int .i64 (kp.a : Int)) := fun w' h => by obtain ⟨b3, e, r⟩ := hat w' h; cases e; exact r.2.1
        have f2 : ∀ w', Keep [] wd w' → w'.cell? ⟨b2, j * 4 + 2, none⟩ = some (.int .i64 (kp.bs.length : Int)) := fun w' h => by obtain ⟨b3, e, r⟩ := hat w' h; cases e; exact r.2.2.1
        have f3 : ∀ w', Keep [] wd w' → w'.cell? ⟨b2, j * 4 + 3, none⟩ = some (.string ⟨kp.bs.toArray⟩) := fun w' h => by obtain ⟨b3, e, r⟩ := hat w' h; cases e; exact r.2.2.2
        have c2 := fun w' (h : Keep [] wd w') => (HC.out w' ((hE.keep h).log.k)).2.2.1
        have cRd := fun w' (h : Keep [] wd w') => read11_any w' (hE.log.keep h) (by omega) ⟨3, 77, 154, l.last, l.at_⟩ (.slice (some ⟨b2, 0, none⟩) ks.length kc) ⟨_, _, _, rfl⟩ ⟨q1.symm, rfl⟩ (by omega) kp hgd
        rw [HKL.out] at cRd
        have HP := Lib.hid (And.intro hE cRd)
        clear hE hat hkp hgd cRd hj hk0
        (repeat (first | (refine his_q rfl rfl (fun K hK => ?_); apply Exists.intro; refine ⟨fun w' hC => ?_, ?_⟩; ((try simp [Sg.upd] at hC); go_simp <;> rfl); go_simp; refine hK _ _ ?_; clear hK K) | (refine his_s rfl (fun K hK => ?_); go_simp; refine hK _ _ ?_; clear hK K)))
        (refine his_l rfl rfl (fun K hK => ?_); go_simp)
        refine (HP.out.2 _ (Keep.refl _ _)).mono ?_
        rintro e w11 ⟨rfl, k11⟩
        refine hK _ _ k11 ?_
        clear hK K
        (repeat (first | (refine his_q rfl rfl (fun K hK => ?_); apply Exists.intro; refine ⟨fun w' hC => ?_, ?_⟩; ((try simp [Sg.upd] at hC); go_simp <;> rfl); go_simp; refine hK _ _ ?_; clear hK K) | (refine his_s rfl (fun K hK => ?_); go_simp; refine hK _ _ ?_; clear hK K)))
        refine his_nil ?_
        have HE := Lib.hid (HP.out.1.keep k11)
        clear u0 u1 u2 u3 u4 u5 f0 f1 f2 f3 c2 HP k11 v1 v2 v3 v4 v5 v6 v7 v8 v9 v10 hj2 hU hU2
        have ekl : ks.length ≤ k + 1 := by rw [HKL.out]; omega
        obtain ⟨ol, hol⟩ : ∃ ol, c.oldest l = ol := ⟨_, rfl⟩
        have hol2 : max (l.last + 1 - 3) 1 = ol := by rw [← hol]; unfold Lc.oldest; rw [q1]
        obtain ⟨M, hM⟩ : ∃ M, l.last * 154 = M := ⟨_, rfl⟩
        have y0 : (l.last : Int) * 154 = (M : Int) := by omega
        have y1 : IntKind.i64.wrap (M : Int) = (M : Int) := i64_wrap (by omega) (by omega)
        obtain ⟨N2, hN2⟩ : ∃ N2, M + l.at_ = N2 := ⟨_, rfl⟩
        have y2 : IntKind.i64.wrap ((M : Int) + (l.at_ : Int)) = (N2 : Int) := by rw [i64_wrap (by omega) (by omega)]; omega
        have HY := Lib.hid (And.intro hol (And.intro hol2 (And.intro hM hN2)))
        clear hol hol2 hM hN2
        go_wp2_with fail
        refine wp_region_his [] [1, 7, 9, 14] (fun _ => 0) (by kernel_rfl) (by kernel_rfl) ?_
        intro wd hkd hh
        clear hh
        have hE := HE.out.keep hkd
        have u3 := fun w' (h : Keep [] wd w') => (hE.keep h).cl.2.2.2.1
        have u4 := fun w' (h : Keep [] wd w') => (hE.keep h).cl.2.2.2.2.1
        have u0 := fun w' (h : Keep [] wd w') => (hE.keep h).cl.1
        have u1 := fun w' (h : Keep [] wd w') => (hE.keep h).cl.2.1
        have u2 := fun w' (h : Keep [] wd w') => (hE.keep h).cl.2.2.1
        have u5 := fun w' (h : Keep [] wd w') => (hE.keep h).cl.2.2.2.2.2
        have cLa := fun w' (h : Keep [] wd w') => last_ok w' (hE.log.keep h)
        have cOl := fun w' (h : Keep [] wd w') => oldest_ok w' (hE.log.keep h)
        rw [HY.out.1] at cOl
        have cWh := fun w' (h : Keep [] wd w') => where_ok w' (hE.log.keep h)
        rw [q2, HY.out.2.2.1, HY.out.2.2.2] at cWh
        have cRO := fun w' => refOldest_any ⟨3, 77, 154, l.last, l.at_⟩ (.slice (some ⟨b2, 0, none⟩) ks.length kc) ⟨by show l.last ≤ _; omega, by show (3 : Nat) ≤ _; omega⟩ w'
        simp only [HY.out.2.1] at cRO
        have HH := Lib.hid (And.intro cLa (And.intro cOl (And.intro cRO (And.intro cWh hE))))
        clear cLa cOl cRO cWh hE HE HY hkd
        (repeat (first | (refine his_q rfl rfl (fun K hK => ?_); apply Exists.intro; refine ⟨fun w' hC => ?_, ?_⟩; ((try simp [Sg.upd] at hC); go_simp <;> rfl); go_simp; refine hK _ _ ?_; clear hK K) | (refine his_s rfl (fun K hK => ?_); go_simp; refine hK _ _ ?_; clear hK K)))
        (refine his_l rfl rfl (fun K hK => ?_); go_simp)
        refine (HH.out.1 _ (Keep.refl _ _)).mono ?_
        rintro e w11 ⟨rfl, rfl⟩
        refine hK _ _ (Keep.refl _ _) ?_
        clear hK K
        (repeat (first | (refine his_q rfl rfl (fun K hK => ?_); apply Exists.intro; refine ⟨fun w' hC => ?_, ?_⟩; ((try simp [Sg.upd] at hC); go_simp <;> rfl); go_simp; refine hK _ _ ?_; clear hK K) | (refine his_s rfl (fun K hK => ?_); go_simp; refine hK _ _ ?_; clear hK K)))
        (refine his_l rfl rfl (fun K hK => ?_); go_simp)
        refine (HH.out.2.1 _ (Keep.refl _ _)).mono ?_
        rintro e w12 ⟨rfl, k12⟩
        refine hK _ _ k12 ?_
        clear hK K
        have K12 := Lib.hid k12
        clear k12
        (repeat (first | (refine his_q rfl rfl (fun K hK => ?_); apply Exists.intro; refine ⟨fun w' hC => ?_, ?_⟩; ((try simp [Sg.upd] at hC); go_simp <;> rfl); go_simp; refine hK _ _ ?_; clear hK K) | (refine his_s rfl (fun K hK => ?_); go_simp; refine hK _ _ ?_; clear hK K)))
        (refine his_l rfl rfl (fun K hK => ?_); go_simp)
        refine (HH.out.2.2.1 _).mono ?_
        rintro e w13 ⟨rfl, k13⟩
        refine hK _ _ k13 ?_
        clear hK K
        have K13 := Lib.hid (K12.out.trans k13)
        clear k13
        (repeat (first | (refine his_q rfl rfl (fun K hK => ?_); apply Exists.intro; refine ⟨fun w' hC => ?_, ?_⟩; ((try simp [Sg.upd] at hC); go_simp <;> rfl); go_simp; refine hK _ _ ?_; clear hK K) | (refine his_s rfl (fun K hK => ?_); go_simp; refine hK _ _ ?_; clear hK K)))
        (refine his_l rfl rfl (fun K hK => ?_); go_simp)
        refine (HH.out.2.2.2.1 _ K13.out).mono ?_
        rintro e w14 ⟨rfl, k14⟩
        refine hK _ _ k14 ?_
        clear hK K
        have K14 := Lib.hid (K13.out.trans k14)
        clear k14
        (repeat (first | (refine his_q rfl rfl (fun K hK => ?_); apply Exists.intro; refine ⟨fun w' hC => ?_, ?_⟩; ((try simp [Sg.upd] at hC); go_simp <;> rfl); go_simp; refine hK _ _ ?_; clear hK K) | (refine his_s rfl (fun K hK => ?_); go_simp; refine hK _ _ ?_; clear hK K)))
        refine his_nil ?_
        clear u0 u1 u2 u3 u4 u5
        go_wp2_with fail
        case roundEnd =>
          refine ⟨⟨k + 1, gl, l, m, F, ks, (some ⟨b2, 0, none⟩), kc, rfl, by omega, by go_num, Lib.hid (HH.out.2.2.2.2.keep K14.out), by omega, by omega, by omega⟩, ?_⟩
          simp [intOf]; omega
    by_cases hr6 : r = 6
    case pos =>
      subst hr6
      have cFl := flush_ok2 wr hP.out.log (by omega)
      clear c1 c2 c3
      go_wp2_with fail
      refine cFl.mono ?_
      clear cFl c0
      rintro e w7 ⟨l7, m7, F7, z, rfl, st, hn7, h7, rs7⟩
      obtain ⟨row7, own7⟩ := hP.out.rest rs7
      have g7 : ∀ kp ∈ ks, GoodK ⟨l7.last, 154, []⟩ F7 kp := fun kp hkp => ((hP.out.good kp hkp).flush st).open_ st.pend 154
      have e7 : l7.last = l.last := st.last
      have e8 := st.acts
      have hn := And.intro (hn7.1.trans hP.out.n.1) (hn7.2.trans hP.out.n.2)
      have HX := Lib.hid (And.intro row7 (And.intro own7 (And.intro g7 (And.intro hn hP.out.low))))
      have cS := sync_ok w7 h7 (by omega)
      have ea := (sync_up h7.inv.core.up h7.inv.core.un).2.2.2
      clear rs7 row7 own7 g7 hn hn7 st hP
      go_wp2_with fail
      refine cS.mono ?_
      clear cS
      rintro e w8 ⟨rfl, h8, rs8⟩
      have hn8 : m7.synced.n = 60 ∧ m7.synced.sz = 96 := HX.out.2.2.2.1
      obtain ⟨m8, hm8⟩ : ∃ m8, m7.synced = m8 := ⟨_, rfl⟩
      rw [hm8] at h8 hn8 ea
      clear hm8 h7
      have row8 := rs8.blk (by simp) HX.out.1
      have own8 := HX.out.2.1.rest rs8.same (fun b hb => List.mem_cons_of_mem _ (by rw [hb]; simp))
      have HX8 := Lib.hid (And.intro row8 own8)
      have H8 := Lib.hid (And.intro h8 hn8)
      have E7 := Lib.hid e7
      have eac8 : m8.acts ≤ (k + 1) * 404 := by omega
      have ela8 : l7.last ≤ k + 1 := by omega
      have ekl : ks.length ≤ k + 1 := by omega
      clear row8 own8 rs8 h8 hn8 e7 e8 ea hacts hlast hkl hatl
      go_wp2_with fail
      refine (small_any _).mono ?_
      rintro e w9 ⟨rfl, k9⟩
      go_wp2_with fail
      refine (last_ok w9 (H8.out.1.keep k9)).mono ?_
      rintro e w10 ⟨rfl, rfl⟩
      have cO := HOP.out _ w9 gl l7 m8 F7 (H8.out.1.keep k9) H8.out.2 (by omega) (by omega)
      go_wp2_with fail
      refine cO.mono ?_
      clear cO
      rintro e w11 ⟨gl8, rfl, h11, k11⟩
      have K11 := Lib.hid (k9.trans k11)
      have row11 := K11.out.blk (by simp) HX8.out.1
      have own11 := HX8.out.2.keep K11.out (by simp)
      have u0 := cell_of_row _ _ 0 _ _ _ row11
      have u1 := cell_of_row _ _ 1 _ _ _ row11
      have u2 := cell_of_row _ _ 2 _ _ _ row11
      have u3 := cell_of_row _ _ 3 _ _ _ row11
      have u4 := cell_of_row _ _ 4 _ _ _ row11
      have u5 := cell_of_row _ _ 5 _ _ _ row11
      simp [Rf.cells] at u0 u1 u2 u3 u4 u5
      have H11 := Lib.hid (And.intro h11 (And.intro row11 own11))
      have cRF := refOpen_any ⟨3, 77, 154, l.last, l.at_⟩ (.slice ka ks.length kc) ⟨_, _, _, rfl⟩ w11
      clear k9 k11 h11 row11 own11
      go_wp2_with fail
      refine cRF.mono ?_
      clear cRF u0 u1 u2 u3 u4 u5
      rintro e w12 ⟨rfl, k12⟩
      have row12 := k12.blk (by simp) H11.out.2.1
      have hp := PlayR.put (H11.out.1.keep k12) row12 (H11.out.2.2.keep k12 (by simp)) HX.out.2.2.2.2 HX.out.2.2.1 H8.out.2
      have hp : PlayR W c B g (w12.setRow B (Rf.cells ⟨3, 77, 154, l7.last, 154⟩ (.slice ka ks.length kc))) gl8 ⟨l7.last, 154, []⟩ m8 F7 ks ka kc := hp
      rw [E7.out] at hp
      go_wp2_with (refine wpList_store_row rfl 76 (.tmp 6) (.tmp 130) rfl B (Rf.cells ⟨3, 77, 154, l.last, 154⟩ (.slice ka ks.length kc)) rfl rfl 76 _ row12 (by kernel_rfl) (by rfl) (by kernel_rfl) ?_)
      obtain ⟨w13, hw13⟩ : ∃ w13, w12.setRow B (Rf.cells ⟨3, 77, 154, l.last, 154⟩ (.slice ka ks.length kc)) = w13 := ⟨_, rfl⟩
      rw [hw13] at hp ⊢
      obtain ⟨l8, hl8⟩ : ∃ l8 : Lg, ⟨l.last, 154, []⟩ = l8 := ⟨_, rfl⟩
      rw [hl8] at hp
      have eacts := eac8
      have eat : l8.at_ ≤ 154 := by rw [← hl8]; exact Nat.le_refl _
      have ela : l8.last ≤ k + 1 := by rw [← hl8]; show l.last ≤ k + 1; rw [← E7.out]; exact ela8
      have HE := Lib.hid hp
      clear hw13 hl8 hp row12 k12 H11 H8 HX HX8 K11 eac8 ela8 E7
      obtain ⟨ol, hol⟩ : ∃ ol, c.oldest l8 = ol := ⟨_, rfl⟩
      have hol2 : max (l8.last + 1 - 3) 1 = ol := by rw [← hol]; unfold Lc.oldest; rw [q1]
      obtain ⟨M, hM⟩ : ∃ M, l8.last * 154 = M := ⟨_, rfl⟩
      have y0 : (l8.last : Int) * 154 = (M : Int) := by omega
      have y1 : IntKind.i64.wrap (M : Int) = (M : Int) := i64_wrap (by omega) (by omega)
      obtain ⟨N2, hN2⟩ : ∃ N2, M + l8.at_ = N2 := ⟨_, rfl⟩
      have y2 : IntKind.i64.wrap ((M : Int) + (l8.at_ : Int)) = (N2 : Int) := by rw [i64_wrap (by omega) (by omega)]; omega
      have HY := Lib.hid (And.intro hol (And.intro hol2 (And.intro hM hN2)))
      clear hol hol2 hM hN2
      go_wp2_with fail
      refine wp_region_his [] [1, 7, 9, 14] (fun _ => 0) (by kernel_rfl) (by kernel_rfl) ?_
      intro wd hkd hh
      clear hh
      have hE := HE.out.keep hkd
      have u3 := fun w' (h : Keep [] wd w') => (hE.keep h).cl.2.2.2.1
      have u4 := fun w' (h : Keep [] wd w') => (hE.keep h).cl.2.2.2.2.1
      have u0 := fun w' (h : Keep [] wd w') => (hE.keep h).cl.1
      have u1 := fun w' (h : Keep [] wd w') => (hE.keep h).cl.2.1
      have u2 := fun w' (h : Keep [] wd w') => (hE.keep h).cl.2.2.1
      have u5 := fun w' (h : Keep [] wd w') => (hE.keep h).cl.2.2.2.2.2
      have cLa := fun w' (h : Keep [] wd w') => last_ok w' (hE.log.keep h)
      have cOl := fun w' (h : Keep [] wd w') => oldest_ok w' (hE.log.keep h)
      rw [HY.out.1] at cOl
      have cWh := fun w' (h : Keep [] wd w') => where_ok w' (hE.log.keep h)
      rw [q2, HY.out.2.2.1, HY.out.2.2.2] at cWh
      have cRO := fun w' => refOldest_any ⟨3, 77, 154, l8.last, l8.at_⟩ (.slice ka ks.length kc) ⟨by show l8.last ≤ _; omega, by show (3 : Nat) ≤ _; omega⟩ w'
      simp only [HY.out.2.1] at cRO
      have HH := Lib.hid (And.intro cLa (And.intro cOl (And.intro cRO (And.intro cWh hE))))
      clear cLa cOl cRO cWh hE HE HY hkd
      (repeat (first | (refine his_q rfl rfl (fun K hK => ?_); apply Exists.intro; refine ⟨fun w' hC => ?_, ?_⟩; ((try simp [Sg.upd] at hC); go_simp <;> rfl); go_simp; refine hK _ _ ?_; clear hK K) | (refine his_s rfl (fun K hK => ?_); go_simp; refine hK _ _ ?_; clear hK K)))
      (refine his_l rfl rfl (fun K hK => ?_); go_simp)
      refine (HH.out.1 _ (Keep.refl _ _)).mono ?_
      rintro e w11 ⟨rfl, rfl⟩
      refine hK _ _ (Keep.refl _ _) ?_
      clear hK K
      (repeat (first | (refine his_q rfl rfl (fun K hK => ?_); apply Exists.intro; refine ⟨fun w' hC => ?_, ?_⟩; ((try simp [Sg.upd] at hC); go_simp <;> rfl); go_simp; refine hK _ _ ?_; clear hK K) | (refine his_s rfl (fun K hK => ?_); go_simp; refine hK _ _ ?_; clear hK K)))
      (refine his_l rfl rfl (fun K hK => ?_); go_simp)
      refine (HH.out.2.1 _ (Keep.refl _ _)).mono ?_
      rintro e w12 ⟨rfl, k12⟩
      refine hK _ _ k12 ?_
      clear hK K
      have K12 := Lib.hid k12
      clear k12
      (repeat (first | (refine his_q rfl rfl (fun K hK => ?_); apply Exists.intro; refine ⟨fun w' hC => ?_, ?_⟩; ((try simp [Sg.upd] at hC); go_simp <;> rfl); go_simp; refine hK _ _ ?_; clear hK K) | (refine his_s rfl (fun K hK => ?_); go_simp; refine hK _ _ ?_; clear hK K)))
      (refine his_l rfl rfl (fun K hK => ?_); go_simp)
      refine (HH.out.2.2.1 _).mono ?_
      rintro e w13 ⟨rfl, k13⟩
      refine hK _ _ k13 ?_
      clear hK K
      have K13 := Lib.hid (K12.out.trans k13)
      clear k13
      (repeat (first | (refine his_q rfl rfl (fun K hK => ?_); apply Exists.intro; refine ⟨fun w' hC => ?_, ?_⟩; ((try simp [Sg.upd] at hC); go_simp <;> rfl); go_simp; refine hK _ _ ?_; clear hK K) | (refine his_s rfl (fun K hK => ?_); go_simp; refine hK _ _ ?_; clear hK K)))
      (refine his_l rfl rfl (fun K hK => ?_); go_simp)
      refine (HH.out.2.2.2.1 _ K13.out).mono ?_
      rintro e w14 ⟨rfl, k14⟩
      refine hK _ _ k14 ?_
      clear hK K
      have K14 := Lib.hid (K13.out.trans k14)
      clear k14
      (repeat (first | (refine his_q rfl rfl (fun K hK => ?_); apply Exists.intro; refine ⟨fun w' hC => ?_, ?_⟩; ((try simp [Sg.upd] at hC); go_simp <;> rfl); go_simp; refine hK _ _ ?_; clear hK K) | (refine his_s rfl (fun K hK => ?_); go_simp; refine hK _ _ ?_; clear hK K)))
      refine his_nil ?_
      clear u0 u1 u2 u3 u4 u5
      go_wp2_with fail
      case roundEnd =>
        refine ⟨⟨k + 1, gl8, l8, m8, F7, ks, ka, kc, rfl, by omega, by go_num, Lib.hid (HH.out.2.2.2.2.keep K14.out), by omega, by omega, by omega⟩, ?_⟩
        simp [intOf]; omega
    -- an append
    go_wp2_with fail
    refine (bytes11_any _ x (by omega)).mono ?_
    rintro e w6 ⟨v6, rfl, o6, k6⟩
    obtain ⟨bs, hbs⟩ : ∃ bs, x.bs = bs := ⟨_, rfl⟩
    have hbl : bs.length ≤ 1000 := by rw [← hbs, x.bs_len]; omega
    rw [hbs] at o6
    have h6 := hP.out.log.addV k6 o6
    have P6 := hP.out.keep k6
    have b6 : Sem.run Try.prog (convert 30 9 v6) w6 = .ok (.string ⟨bs.toArray⟩) w6 := run_str (P := Try.prog) 30 9 5 Try.underlying30 Try.underlying5 Try.underlying9 (o6.bytes (by omega))
    have u0 := P6.cl.1
    have u1 := P6.cl.2.1
    have u2 := P6.cl.2.2.1
    have u3 := P6.cl.2.2.2.1
    have u4 := P6.cl.2.2.2.2.1
    have u5 := P6.cl.2.2.2.2.2
    obtain ⟨n, hn⟩ : ∃ n, bs.length = n := ⟨_, rfl⟩
    have HN := Lib.hid hn
    have H6 := Lib.hid (And.intro h6 (And.intro P6 (o6.bytes (by omega))))
    rw [hn] at hbl
    clear c0 c1 c2 c3 hP h6 P6 o6 hn hbs k6
    by_cases hok : 1 ≤ n ∧ n ≤ 154
    case neg =>
      have cRA := refAppend_no ⟨3, 77, 154, l.last, l.at_⟩ (.slice ka ks.length kc) ⟨_, _, _, rfl⟩ bs (by rw [HN.out]; omega) (by show (154 : Nat) ≤ _; omega) (by rw [HN.out]; show n = 0 ∨ 154 < n; omega) w6
      rw [HN.out] at cRA
      obtain ⟨code, hcode, hc0⟩ : ∃ code : Int, (if n = 0 then (1 : Int) else 9) = code ∧ code ≠ 0 := ⟨_, rfl, by split <;> decide⟩
      rw [hcode] at cRA
      have HCO := Lib.hid hcode
      clear hcode
      go_wp2_with fail
      refine cRA.mono ?_
      clear cRA u0 u1 u2 u3 u4 u5
      rintro e w7 ⟨rfl, k7⟩
      obtain ⟨r1, r2, r3, r4, r5⟩ := two_rows w7 #[.int .i64 0, .int .i64 0, .int .i64 0, .int .i64 0, .int .i64 0, .slice none 0 0] (Rf.cells ⟨3, 77, 154, l.last, l.at_⟩ (.slice ka ks.length kc)) #[.int .i64 0, .int .i64 0, .int .i64 0] #[.int .i64 0, .int .i64 0, .int .i64 0] 76 84
      have R1 := Lib.hid r1
      have R2 := Lib.hid r2
      have R3 := Lib.hid (And.intro r3 (And.intro r4 r5))
      clear r1 r2 r3 r4 r5
      go_wp2_with (first | refine wpList_store_row rfl 76 (.tmp 11) (.tmp 54) rfl w7.heap.size (Rf.cells ⟨3, 77, 154, l.last, l.at_⟩ (.slice ka ks.length kc)) rfl rfl 76 _ R1.out (by kernel_rfl) (by rfl) (by kernel_rfl) ?_ | refine wpList_store_row rfl 84 (.tmp 12) (.tmp 55) rfl (w7.heap.size + 1) #[.int .i64 0, .int .i64 0, .int .i64 0] rfl rfl 84 _ R2.out (by kernel_rfl) (by rfl) (by kernel_rfl) ?_)
      have h7 := H6.out.1.keep k7
      have h8 := h7.addL R3.out.1 [w7.heap.size, w7.heap.size + 1] (fun y hy => by
        have e1 := (Array.getElem?_eq_some_iff.1 R3.out.2.2).1
        rcases List.mem_cons.1 hy with rfl | hy
        · exact ⟨Nat.le_refl _, by omega⟩
        · rw [List.mem_singleton.1 hy]; exact ⟨by omega, e1⟩)
      have P8 := (H6.out.2.1.keep k7).keep R3.out.1
      have v8 := (H6.out.2.2.keep k7 (by simp)).keep R3.out.1 (by simp)
      have ra1 := R3.out.2.1
      have ra2 := R3.out.2.2
      obtain ⟨w8, hw8⟩ : ∃ w8, ((((w7.alloc (.cells #[.int .i64 0, .int .i64 0, .int .i64 0, .int .i64 0, .int .i64 0, .slice none 0 0] 76)).alloc (.cells #[.int .i64 0, .int .i64 0, .int .i64 0] 84)).setRow w7.heap.size (Rf.cells ⟨3, 77, 154, l.last, l.at_⟩ (.slice ka ks.length kc))).setRow (w7.heap.size + 1) #[.int .i64 0, .int .i64 0, .int .i64 0]) = w8 := ⟨_, rfl⟩
      rw [hw8] at h8 P8 v8 ra1 ra2 ⊢
      have cA := append_no w8 h8 (by omega) (by omega) v6 bs v8 (fun y hy => by rw [hy]; simp) (by rw [HN.out, q2]; omega)
      rw [HN.out, HCO.out] at cA
      have R8 := Lib.hid (And.intro ra1 (And.intro ra2 P8))
      clear h7 h8 P8 v8 ra1 ra2 hw8 R1 R2 R3 H6 k7 b6
      generalize w7.heap.size = A1 at *
      refine cA.mono ?_
      clear cA
      rintro e w9 ⟨rfl, h9, rs9⟩
      have row1 := rs9.blk (by simp) R8.out.1
      have row2 := rs9.blk (by simp) R8.out.2.1
      have rowB := rs9.blk (by simp) R8.out.2.2.row
      have own9 := R8.out.2.2.own.rest rs9.same (fun b hb => by rw [hb]; simp)
      have good9 := R8.out.2.2.good
      have n9 := R8.out.2.2.n
      have hrow3 := heap_alloc_new w9 (.cells #[.int .i64 0, .int .i64 0, .int .i64 0] 91)
      have k10 := (Keep.refl [] w9).alloc (.cells #[.int .i64 0, .int .i64 0, .int .i64 0] 91)
      have HZ := Lib.hid (And.intro (h9.less (Y := B :: (Value.slice ka ks.length kc).ownBlock.toList) (fun y hy => by simp only [List.mem_append]; exact .inr (.inr hy))) (And.intro rowB (And.intro own9 (And.intro R8.out.2.2.low (And.intro good9 n9)))))
      have HK10 := Lib.hid k10
      have HR := Lib.hid (And.intro (k10.blk (by simp) row1) (And.intro (k10.blk (by simp) row2) hrow3))
      clear h9 rs9 row1 row2 rowB own9 good9 n9 hrow3 k10 R8
      have y1 : (code != 0) = true := bne_iff_ne.2 hc0
      go_wp2_with fail
      refine wp_region_his [] [2] (fun _ => 0) (by kernel_rfl) (by kernel_rfl) ?_
      intro wd hkd hh
      clear hh
      have HKd := Lib.hid (HK10.out.trans hkd)
      have f0 := fun w' (h : Keep [] wd w') => cell_of_row w' _ 0 _ _ _ (h.blk (by simp) (hkd.blk (by simp) HR.out.2.1))
      have f1 := fun w' (h : Keep [] wd w') => cell_of_row w' _ 1 _ _ _ (h.blk (by simp) (hkd.blk (by simp) HR.out.2.1))
      have f2 := fun w' (h : Keep [] wd w') => cell_of_row w' _ 2 _ _ _ (h.blk (by simp) (hkd.blk (by simp) HR.out.2.1))
      have p0 := fun w' (h : Keep [] wd w') => cell_of_row w' _ 0 _ _ _ (h.blk (by simp) (hkd.blk (by simp) HR.out.2.2))
      have p1 := fun w' (h : Keep [] wd w') => cell_of_row w' _ 1 _ _ _ (h.blk (by simp) (hkd.blk (by simp) HR.out.2.2))
      have p2 := fun w' (h : Keep [] wd w') => cell_of_row w' _ 2 _ _ _ (h.blk (by simp) (hkd.blk (by simp) HR.out.2.2))
      simp at f0 f1 f2 p0 p1 p2
      have HD := Lib.hid (hkd.blk (by simp) HR.out.1)
      clear hkd HR HK10
      (repeat (first | (refine his_q rfl rfl (fun K hK => ?_); apply Exists.intro; refine ⟨fun w' hC => ?_, ?_⟩; ((try simp [Sg.upd] at hC); go_simp <;> rfl); go_simp; refine hK _ _ ?_; clear hK K) | (refine his_s rfl (fun K hK => ?_); go_simp; refine hK _ _ ?_; clear hK K)))
      (refine his_l rfl rfl (fun K hK => ?_); go_simp)
      refine (loc11_any _ _ _ _).mono ?_
      rintro e w11 ⟨rfl, k11⟩
      refine hK _ _ k11 ?_
      clear hK K
      (repeat (first | (refine his_q rfl rfl (fun K hK => ?_); apply Exists.intro; refine ⟨fun w' hC => ?_, ?_⟩; ((try simp [Sg.upd] at hC); go_simp <;> rfl); go_simp; refine hK _ _ ?_; clear hK K) | (refine his_s rfl (fun K hK => ?_); go_simp; refine hK _ _ ?_; clear hK K)))
      refine his_nil ?_
      clear f0 f1 f2 p0 p1 p2
      have row1 := k11.blk (by simp) HD.out
      have kk := HKd.out.trans k11
      have rowB := kk.blk (by simp) HZ.out.2.1
      have hp := PlayR.put (HZ.out.1.keep kk) rowB (HZ.out.2.2.1.keep kk (by simp)) HZ.out.2.2.2.1 HZ.out.2.2.2.2.1 HZ.out.2.2.2.2.2
      have u0 := cell_of_row _ _ 0 _ _ _ row1
      have u1 := cell_of_row _ _ 1 _ _ _ row1
      have u2 := cell_of_row _ _ 2 _ _ _ row1
      have u3 := cell_of_row _ _ 3 _ _ _ row1
      have u4 := cell_of_row _ _ 4 _ _ _ row1
      have u5 := cell_of_row _ _ 5 _ _ _ row1
      simp [Rf.cells] at u0 u1 u2 u3 u4 u5
      clear HZ HD HKd kk row1 k11
      go_wp2_with (refine wpList_store_row rfl 76 (.tmp 6) (.tmp 72) rfl B (Rf.cells ⟨3, 77, 154, l.last, l.at_⟩ (.slice ka ks.length kc)) rfl rfl 76 _ rowB (by kernel_rfl) (by rfl) (by kernel_rfl) ?_)
      clear u0 u1 u2 u3 u4 u5 rowB
      obtain ⟨w13, hw13⟩ : ∃ w13, w11.setRow B (Rf.cells ⟨3, 77, 154, l.last, l.at_⟩ (.slice ka ks.length kc)) = w13 := ⟨_, rfl⟩
      rw [hw13] at hp ⊢
      have HE := Lib.hid hp
      have eacts : m.acts ≤ (k + 1) * 404 := by omega
      have eat := hatl
      have ela : l.last ≤ k + 1 := by omega
      have ekl : ks.length ≤ k + 1 := by omega
      clear hw13 hp hacts hlast hkl hatl
      obtain ⟨ol, hol⟩ : ∃ ol, c.oldest l = ol := ⟨_, rfl⟩
      have hol2 : max (l.last + 1 - 3) 1 = ol := by rw [← hol]; unfold Lc.oldest; rw [q1]
      obtain ⟨M, hM⟩ : ∃ M, l.last * 154 = M := ⟨_, rfl⟩
      have y0 : (l.last : Int) * 154 = (M : Int) := by omega
      have y1 : IntKind.i64.wrap (M : Int) = (M : Int) := i64_wrap (by omega) (by omega)
      obtain ⟨N2, hN2⟩ : ∃ N2, M + l.at_ = N2 := ⟨_, rfl⟩
      have y2 : IntKind.i64.wrap ((M : Int) + (l.at_ : Int)) = (N2 : Int) := by rw [i64_wrap (by omega) (by omega)]; omega
      have HY := Lib.hid (And.intro hol (And.intro hol2 (And.intro hM hN2)))
      clear hol hol2 hM hN2
      go_wp2_with fail
      refine wp_region_his [] [1, 7, 9, 14] (fun _ => 0) (by kernel_rfl) (by kernel_rfl) ?_
      intro wd hkd hh
      clear hh
      have hE := HE.out.keep hkd
      have u3 := fun w' (h : Keep [] wd w') => (hE.keep h).cl.2.2.2.1
      have u4 := fun w' (h : Keep [] wd w') => (hE.keep h).cl.2.2.2.2.1
      have u0 := fun w' (h : Keep [] wd w') => (hE.keep h).cl.1
      have u1 := fun w' (h : Keep [] wd w') => (hE.keep h).cl.2.1
      have u2 := fun w' (h : Keep [] wd w') => (hE.keep h).cl.2.2.1
      have u5 := fun w' (h : Keep [] wd w') => (hE.keep h).cl.2.2.2.2.2
      have cLa := fun w' (h : Keep [] wd w') => last_ok w' (hE.log.keep h)
      have cOl := fun w' (h : Keep [] wd w') => oldest_ok w' (hE.log.keep h)
      rw [HY.out.1] at cOl
      have cWh := fun w' (h : Keep [] wd w') => where_ok w' (hE.log.keep h)
      rw [q2, HY.out.2.2.1, HY.out.2.2.2] at cWh
      have cRO := fun w' => refOldest_any ⟨3, 77, 154, l.last, l.at_⟩ (.slice ka ks.length kc) ⟨by show l.last ≤ _; omega, by show (3 : Nat) ≤ _; omega⟩ w'
      simp only [HY.out.2.1] at cRO
      have HH := Lib.hid (And.intro cLa (And.intro cOl (And.intro cRO (And.intro cWh hE))))
      clear cLa cOl cRO cWh hE HE HY hkd
      (repeat (first | (refine his_q rfl rfl (fun K hK => ?_); apply Exists.intro; refine ⟨fun w' hC => ?_, ?_⟩; ((try simp [Sg.upd] at hC); go_simp <;> rfl); go_simp; refine hK _ _ ?_; clear hK K) | (refine his_s rfl (fun K hK => ?_); go_simp; refine hK _ _ ?_; clear hK K)))
      (refine his_l rfl rfl (fun K hK => ?_); go_simp)
      refine (HH.out.1 _ (Keep.refl _ _)).mono ?_
      rintro e w11 ⟨rfl, rfl⟩
      refine hK _ _ (Keep.refl _ _) ?_
      clear hK K
      (repeat (first | (refine his_q rfl rfl (fun K hK => ?_); apply Exists.intro; refine ⟨fun w' hC => ?_, ?_⟩; ((try simp [Sg.upd] at hC); go_simp <;> rfl); go_simp; refine hK _ _ ?_; clear hK K) | (refine his_s rfl (fun K hK => ?_); go_simp; refine hK _ _ ?_; clear hK K)))
      (refine his_l rfl rfl (fun K hK => ?_); go_simp)
      refine (HH.out.2.1 _ (Keep.refl _ _)).mono ?_
      rintro e w12 ⟨rfl, k12⟩
      refine hK _ _ k12 ?_
      clear hK K
      have K12 := Lib.hid k12
      clear k12
      (repeat (first | (refine his_q rfl rfl (fun K hK => ?_); apply Exists.intro; refine ⟨fun w' hC => ?_, ?_⟩; ((try simp [Sg.upd] at hC); go_simp <;> rfl); go_simp; refine hK _ _ ?_; clear hK K) | (refine his_s rfl (fun K hK => ?_); go_simp; refine hK _ _ ?_; clear hK K)))
      (refine his_l rfl rfl (fun K hK => ?_); go_simp)
      refine (HH.out.2.2.1 _).mono ?_
      rintro e w13 ⟨rfl, k13⟩
      refine hK _ _ k13 ?_
      clear hK K
      have K13 := Lib.hid (K12.out.trans k13)
      clear k13
      (repeat (first | (refine his_q rfl rfl (fun K hK => ?_); apply Exists.intro; refine ⟨fun w' hC => ?_, ?_⟩; ((try simp [Sg.upd] at hC); go_simp <;> rfl); go_simp; refine hK _ _ ?_; clear hK K) | (refine his_s rfl (fun K hK => ?_); go_simp; refine hK _ _ ?_; clear hK K)))
      (refine his_l rfl rfl (fun K hK => ?_); go_simp)
      refine (HH.out.2.2.2.1 _ K13.out).mono ?_
      rintro e w14 ⟨rfl, k14⟩
      refine hK _ _ k14 ?_
      clear hK K
      have K14 := Lib.hid (K13.out.trans k14)
      clear k14
      (repeat (first | (refine his_q rfl rfl (fun K hK => ?_); apply Exists.intro; refine ⟨fun w' hC => ?_, ?_⟩; ((try simp [Sg.upd] at hC); go_simp <;> rfl); go_simp; refine hK _ _ ?_; clear hK K) | (refine his_s rfl (fun K hK => ?_); go_simp; refine hK _ _ ?_; clear hK K)))
      refine his_nil ?_
      clear u0 u1 u2 u3 u4 u5
      go_wp2_with fail
      case roundEnd =>
        refine ⟨⟨k + 1, gl, l, m, F, ks, ka, kc, rfl, by omega, by go_num, Lib.hid (HH.out.2.2.2.2.keep K14.out), by omega, by omega, by omega⟩, ?_⟩
        simp [intOf]; omega
    case pos =>
      obtain ⟨q, a, hway⟩ : ∃ q a : Nat, ((154 < l.at_ + n ∧ q = l.last + 1 ∧ a = 0) ∨ (l.at_ + n ≤ 154 ∧ q = l.last ∧ a = l.at_)) := by
        by_cases e : 154 < l.at_ + n
        · exact ⟨_, _, .inl ⟨e, rfl, rfl⟩⟩
        · exact ⟨_, _, .inr ⟨by omega, rfl, rfl⟩⟩
      have cRA := refAppend_ok ⟨3, 77, 154, l.last, l.at_⟩ (.slice ka ks.length kc) ks bs w6 H6.out.2.1.own (by omega) (by rw [HN.out]; exact hok) ⟨by show (154 : Nat) ≤ _; omega, by show l.last ≤ _; omega, by show l.at_ ≤ _; omega⟩ q a (by rw [HN.out]; exact hway)
      obtain ⟨AT, hAT⟩ : ∃ AT, a + n = AT := ⟨_, rfl⟩
      obtain ⟨ks7, hks7⟩ : ∃ ks7, ks ++ [⟨q, a, bs⟩] = ks7 := ⟨_, rfl⟩
      rw [hks7] at cRA
      rw [HN.out, hAT] at cRA
      have HKS := Lib.hid hks7
      clear hks7
      go_wp2_with fail
      refine cRA.mono ?_
      clear cRA u0 u1 u2 u3 u4 u5
      rintro e w7 ⟨kv7, rfl, own7, k7⟩
      obtain ⟨ka7, kc7, rfl⟩ := own7.form
      obtain ⟨r1, r2, r3, r4, r5⟩ := two_rows w7 #[.int .i64 0, .int .i64 0, .int .i64 0, .int .i64 0, .int .i64 0, .slice none 0 0] (Rf.cells ⟨3, 77, 154, q, AT⟩ (.slice ka7 ks7.length kc7)) #[.int .i64 0, .int .i64 0, .int .i64 0] #[.int .i64 (q : Int), .int .i64 (a : Int), .int .i64 (n : Int)] 76 84
      have R1 := Lib.hid r1
      have R2 := Lib.hid r2
      have R3 := Lib.hid (And.intro r3 (And.intro r4 r5))
      clear r1 r2 r3 r4 r5
      go_wp2_with (first | refine wpList_store_row rfl 76 (.tmp 11) (.tmp 54) rfl w7.heap.size (Rf.cells ⟨3, 77, 154, q, AT⟩ (.slice ka7 ks7.length kc7)) rfl rfl 76 _ R1.out (by kernel_rfl) (by rfl) (by kernel_rfl) ?_ | refine wpList_store_row rfl 84 (.tmp 12) (.tmp 55) rfl (w7.heap.size + 1) #[.int .i64 (q : Int), .int .i64 (a : Int), .int .i64 (n : Int)] rfl rfl 84 _ R2.out (by kernel_rfl) (by rfl) (by kernel_rfl) ?_)
      have h7 := H6.out.1.addK k7 own7
      have h8 := h7.addL R3.out.1 [w7.heap.size, w7.heap.size + 1] (fun y hy => by
        have e1 := (Array.getElem?_eq_some_iff.1 R3.out.2.2).1
        rcases List.mem_cons.1 hy with rfl | hy
        · exact ⟨Nat.le_refl _, by omega⟩
        · rw [List.mem_singleton.1 hy]; exact ⟨by omega, e1⟩)
      have P8 := (H6.out.2.1.keep k7).keep R3.out.1
      have v8 := (H6.out.2.2.keep k7 (by simp)).keep R3.out.1 (by simp)
      have ra1 := R3.out.2.1
      have o8 := (own7.keep R3.out.1 (by simp)).base (base' := 0) (Nat.zero_le _)
      have ra2 := R3.out.2.2
      obtain ⟨w8, hw8⟩ : ∃ w8, ((((w7.alloc (.cells #[.int .i64 0, .int .i64 0, .int .i64 0, .int .i64 0, .int .i64 0, .slice none 0 0] 76)).alloc (.cells #[.int .i64 0, .int .i64 0, .int .i64 0] 84)).setRow w7.heap.size (Rf.cells ⟨3, 77, 154, q, AT⟩ (.slice ka7 ks7.length kc7))).setRow (w7.heap.size + 1) #[.int .i64 (q : Int), .int .i64 (a : Int), .int .i64 (n : Int)]) = w8 := ⟨_, rfl⟩
      rw [hw8] at h8 P8 v8 ra1 ra2 o8 ⊢
      have cA := append_ok2 w8 h8 (by omega) (by omega) v6 bs v8 (fun y hy => by rw [hy]; simp) (by rw [HN.out]; omega) (by rw [HN.out, q2]; omega)
      have R8 := Lib.hid (And.intro ra1 (And.intro ra2 (And.intro P8 o8)))
      clear own7 o8 h7 h8 P8 v8 ra1 ra2 hw8 R1 R2 R3 H6 k7 b6
      generalize w7.heap.size = A1 at *
      refine cA.mono ?_
      clear cA
      rintro e w9 ⟨l9, m9, F9, a9, rfl, st, hn9, h9, rs9⟩
      have ew := st.way
      have eat9 := st.at_
      have eac9 := st.acts
      rw [HN.out] at ew eat9 eac9
      rw [q2] at ew
      obtain rfl : a9 = a := by omega
      have eL : l9.last = q := by omega
      have eA : l9.at_ = AT := by omega
      have eat : l9.at_ ≤ 154 := by have := h9.inv.atl; rw [q2] at this; exact this
      have ela : l9.last ≤ k + 1 := by omega
      have eacts : m9.acts ≤ (k + 1) * 404 := by omega
      have ekl : ks7.length ≤ k + 1 := by rw [← HKS.out, List.length_append]; simp; omega
      rw [eL, HN.out]
      have row1 := rs9.blk (by simp) R8.out.1
      have row2 := rs9.blk (by simp) R8.out.2.1
      have rowB := rs9.blk (by simp) R8.out.2.2.1.row
      have own9 : KRow w9 0 (.slice ka7 ks7.length kc7) ks7 := by
        refine KRow.rest R8.out.2.2.2 rs9.same ?_
        intro b hb
        rw [hb]
        simp
      have good9 : ∀ kp ∈ ks7, GoodK l9 F9 kp := fun kp hkp => by
        rw [← HKS.out] at hkp
        rcases List.mem_append.1 hkp with hkp | hkp
        · exact (R8.out.2.2.1.good kp hkp).app st
        · rw [List.mem_singleton.1 hkp, ← eL]
          exact GoodK.new st (by rw [HN.out]; omega) (by rw [HN.out]; omega)
      have n9 := And.intro (hn9.1.trans R8.out.2.2.1.n.1) (hn9.2.trans R8.out.2.2.1.n.2)
      have hrow3 := heap_alloc_new w9 (.cells #[.int .i64 (q : Int), .int .i64 (a9 : Int), .int .i64 (n : Int)] 91)
      have k10 := (Keep.refl [] w9).alloc (.cells #[.int .i64 (q : Int), .int .i64 (a9 : Int), .int .i64 (n : Int)] 91)
      have E9 := Lib.hid (And.intro eL eA)
      have HZ := Lib.hid (And.intro (h9.less (Y := B :: (Value.slice ka7 ks7.length kc7).ownBlock.toList) (fun y hy => by
        rcases List.mem_cons.1 hy with rfl | hy
        · simp
        · simp only [List.mem_append]; exact .inr (.inl hy))) (And.intro rowB (And.intro own9 (And.intro R8.out.2.2.1.low (And.intro good9 n9)))))
      have HK10 := Lib.hid k10
      have HR := Lib.hid (And.intro (k10.blk (by simp) row1) (And.intro (k10.blk (by simp) row2) hrow3))
      clear eL eA ew eat9 eac9 hn9 st h9 rs9 row1 row2 rowB own9 good9 n9 hrow3 k10 R8
      go_wp2_with fail
      refine wp_region_his [] [2] (fun _ => 0) (by kernel_rfl) (by kernel_rfl) ?_
      intro wd hkd hh
      clear hh
      have HKd := Lib.hid (HK10.out.trans hkd)
      have f0 := fun w' (h : Keep [] wd w') => cell_of_row w' _ 0 _ _ _ (h.blk (by simp) (hkd.blk (by simp) HR.out.2.1))
      have f1 := fun w' (h : Keep [] wd w') => cell_of_row w' _ 1 _ _ _ (h.blk (by simp) (hkd.blk (by simp) HR.out.2.1))
      have f2 := fun w' (h : Keep [] wd w') => cell_of_row w' _ 2 _ _ _ (h.blk (by simp) (hkd.blk (by simp) HR.out.2.1))
      have p0 := fun w' (h : Keep [] wd w') => cell_of_row w' _ 0 _ _ _ (h.blk (by simp) (hkd.blk (by simp) HR.out.2.2))
      have p1 := fun w' (h : Keep [] wd w') => cell_of_row w' _ 1 _ _ _ (h.blk (by simp) (hkd.blk (by simp) HR.out.2.2))
      have p2 := fun w' (h : Keep [] wd w') => cell_of_row w' _ 2 _ _ _ (h.blk (by simp) (hkd.blk (by simp) HR.out.2.2))
      simp at f0 f1 f2 p0 p1 p2
      have HD := Lib.hid (hkd.blk (by simp) HR.out.1)
      clear hkd HR HK10
      (repeat (first | (refine his_q rfl rfl (fun K hK => ?_); apply Exists.intro; refine ⟨fun w' hC => ?_, ?_⟩; ((try simp [Sg.upd] at hC); go_simp <;> rfl); go_simp; refine hK _ _ ?_; clear hK K) | (refine his_s rfl (fun K hK => ?_); go_simp; refine hK _ _ ?_; clear hK K)))
      (refine his_l rfl rfl (fun K hK => ?_); go_simp)
      refine (loc11_any _ _ _ _).mono ?_
      rintro e w11 ⟨rfl, k11⟩
      refine hK _ _ k11 ?_
      clear hK K
      (repeat (first | (refine his_q rfl rfl (fun K hK => ?_); apply Exists.intro; refine ⟨fun w' hC => ?_, ?_⟩; ((try simp [Sg.upd] at hC); go_simp <;> rfl); go_simp; refine hK _ _ ?_; clear hK K) | (refine his_s rfl (fun K hK => ?_); go_simp; refine hK _ _ ?_; clear hK K)))
      refine his_nil ?_
      clear f0 f1 f2 p0 p1 p2
      have row1 := k11.blk (by simp) HD.out
      have kk := HKd.out.trans k11
      have rowB := kk.blk (by simp) HZ.out.2.1
      have hp := PlayR.put (HZ.out.1.keep kk) rowB (HZ.out.2.2.1.keep kk (by simp)) HZ.out.2.2.2.1 HZ.out.2.2.2.2.1 HZ.out.2.2.2.2.2
      rw [E9.out.1, E9.out.2] at hp
      have u0 := cell_of_row _ _ 0 _ _ _ row1
      have u1 := cell_of_row _ _ 1 _ _ _ row1
      have u2 := cell_of_row _ _ 2 _ _ _ row1
      have u3 := cell_of_row _ _ 3 _ _ _ row1
      have u4 := cell_of_row _ _ 4 _ _ _ row1
      have u5 := cell_of_row _ _ 5 _ _ _ row1
      simp [Rf.cells] at u0 u1 u2 u3 u4 u5
      clear HZ HD HKd kk row1 k11
      go_wp2_with (refine wpList_store_row rfl 76 (.tmp 6) (.tmp 72) rfl B (Rf.cells ⟨3, 77, 154, q, AT⟩ (.slice ka7 ks7.length kc7)) rfl rfl 76 _ rowB (by kernel_rfl) (by rfl) (by kernel_rfl) ?_)
      clear u0 u1 u2 u3 u4 u5 rowB
      obtain ⟨w13, hw13⟩ : ∃ w13, w11.setRow B (Rf.cells ⟨3, 77, 154, q, AT⟩ (.slice ka7 ks7.length kc7)) = w13 := ⟨_, rfl⟩
      rw [hw13] at hp ⊢
      have HE := Lib.hid hp
      clear hw13 hp hacts hlast hkl hatl E9
      obtain ⟨ol, hol⟩ : ∃ ol, c.oldest l9 = ol := ⟨_, rfl⟩
      have hol2 : max (l9.last + 1 - 3) 1 = ol := by rw [← hol]; unfold Lc.oldest; rw [q1]
      obtain ⟨M, hM⟩ : ∃ M, l9.last * 154 = M := ⟨_, rfl⟩
      have y0 : (l9.last : Int) * 154 = (M : Int) := by omega
      have y1 : IntKind.i64.wrap (M : Int) = (M : Int) := i64_wrap (by omega) (by omega)
      obtain ⟨N2, hN2⟩ : ∃ N2, M + l9.at_ = N2 := ⟨_, rfl⟩
      have y2 : IntKind.i64.wrap ((M : Int) + (l9.at_ : Int)) = (N2 : Int) := by rw [i64_wrap (by omega) (by omega)]; omega
      have HY := Lib.hid (And.intro hol (And.intro hol2 (And.intro hM hN2)))
      clear hol hol2 hM hN2
      go_wp2_with fail
      refine wp_region_his [] [1, 7, 9, 14] (fun _ => 0) (by kernel_rfl) (by kernel_rfl) ?_
      intro wd hkd hh
      clear hh
      have hE := HE.out.keep hkd
      have u3 := fun w' (h : Keep [] wd w') => (hE.keep h).cl.2.2.2.1
      have u4 := fun w' (h : Keep [] wd w') => (hE.keep h).cl.2.2.2.2.1
      have u0 := fun w' (h : Keep [] wd w') => (hE.keep h).cl.1
      have u1 := fun w' (h : Keep [] wd w') => (hE.keep h).cl.2.1
      have u2 := fun w' (h : Keep [] wd w') => (hE.keep h).cl.2.2.1
      have u5 := fun w' (h : Keep [] wd w') => (hE.keep h).cl.2.2.2.2.2
      have cLa := fun w' (h : Keep [] wd w') => last_ok w' (hE.log.keep h)
      have cOl := fun w' (h : Keep [] wd w') => oldest_ok w' (hE.log.keep h)
      rw [HY.out.1] at cOl
      have cWh := fun w' (h : Keep [] wd w') => where_ok w' (hE.log.keep h)
      rw [q2, HY.out.2.2.1, HY.out.2.2.2] at cWh
      have cRO := fun w' => refOldest_any ⟨3, 77, 154, l9.last, l9.at_⟩ (.slice ka7 ks7.length kc7) ⟨by show l9.last ≤ _; omega, by show (3 : Nat) ≤ _; omega⟩ w'
      simp only [HY.out.2.1] at cRO
      have HH := Lib.hid (And.intro cLa (And.intro cOl (And.intro cRO (And.intro cWh hE))))
      clear cLa cOl cRO cWh hE HE HY hkd
      (repeat (first | (refine his_q rfl rfl (fun K hK => ?_); apply Exists.intro; refine ⟨fun w' hC => ?_, ?_⟩; ((try simp [Sg.upd] at hC); go_simp <;> rfl); go_simp; refine hK _ _ ?_; clear hK K) | (refine his_s rfl (fun K hK => ?_); go_simp; refine hK _ _ ?_; clear hK K)))
      (refine his_l rfl rfl (fun K hK => ?_); go_simp)
      refine (HH.out.1 _ (Keep.refl _ _)).mono ?_
      rintro e w11 ⟨rfl, rfl⟩
      refine hK _ _ (Keep.refl _ _) ?_
      clear hK K
      (repeat (first | (refine his_q rfl rfl (fun K hK => ?_); apply Exists.intro; refine ⟨fun w' hC => ?_, ?_⟩; ((try simp [Sg.upd] at hC); go_simp <;> rfl); go_simp; refine hK _ _ ?_; clear hK K) | (refine his_s rfl (fun K hK => ?_); go_simp; refine hK _ _ ?_; clear hK K)))
      (refine his_l rfl rfl (fun K hK => ?_); go_simp)
      refine (HH.out.2.1 _ (Keep.refl _ _)).mono ?_
      rintro e w12 ⟨rfl, k12⟩
      refine hK _ _ k12 ?_
      clear hK K
      have K12 := Lib.hid k12
      clear k12
      (repeat (first | (refine his_q rfl rfl (fun K hK => ?_); apply Exists.intro; refine ⟨fun w' hC => ?_, ?_⟩; ((try simp [Sg.upd] at hC); go_simp <;> rfl); go_simp; refine hK _ _ ?_; clear hK K) | (refine his_s rfl (fun K hK => ?_); go_simp; refine hK _ _ ?_; clear hK K)))
      (refine his_l rfl rfl (fun K hK => ?_); go_simp)
      refine (HH.out.2.2.1 _).mono ?_
      rintro e w13 ⟨rfl, k13⟩
      refine hK _ _ k13 ?_
      clear hK K
      have K13 := Lib.hid (K12.out.trans k13)
      clear k13
      (repeat (first | (refine his_q rfl rfl (fun K hK => ?_); apply Exists.intro; refine ⟨fun w' hC => ?_, ?_⟩; ((try simp [Sg.upd] at hC); go_simp <;> rfl); go_simp; refine hK _ _ ?_; clear hK K) | (refine his_s rfl (fun K hK => ?_); go_simp; refine hK _ _ ?_; clear hK K)))
      (refine his_l rfl rfl (fun K hK => ?_); go_simp)
      refine (HH.out.2.2.2.1 _ K13.out).mono ?_
      rintro e w14 ⟨rfl, k14⟩
      refine hK _ _ k14 ?_
      clear hK K
      have K14 := Lib.hid (K13.out.trans k14)
      clear k14
      (repeat (first | (refine his_q rfl rfl (fun K hK => ?_); apply Exists.intro; refine ⟨fun w' hC => ?_, ?_⟩; ((try simp [Sg.upd] at hC); go_simp <;> rfl); go_simp; refine hK _ _ ?_; clear hK K) | (refine his_s rfl (fun K hK => ?_); go_simp; refine hK _ _ ?_; clear hK K)))
      refine his_nil ?_
      clear u0 u1 u2 u3 u4 u5
      go_wp2_with fail
      case roundEnd =>
        refine ⟨⟨k + 1, gl, l9, m9, F9, ks7, ka7, kc7, rfl, by omega, by go_num, Lib.hid (HH.out.2.2.2.2.keep K14.out), by omega, by omega, by omega⟩, ?_⟩
        simp [intOf]; omega
end Go.Proofs.Ytijljdcpajjhhaa
