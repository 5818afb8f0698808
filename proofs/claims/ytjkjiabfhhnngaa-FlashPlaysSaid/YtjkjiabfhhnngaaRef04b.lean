import Derived.Test.YtjkjiabfhhnngaaRef04
/-! The document's device: a write. -/
namespace Go.Proofs.Ytjkjiabfhhnngaa
open Go.RowKit Sg
set_option linter.unusedSimpArgs false
set_option linter.unusedVariables false

/-- a row of one cell each: one is stored anew -/
theorem row_set1 {α : Type} {enc : α → List Value} {t : TypeId} (L : Lies enc 1) {w : World} {base g n cap : Nat} {l : List α} (h : RowE enc 1 t w base (.slice (some ⟨g, 0, none⟩) n cap) l) {j : Nat} (hj : j < l.length) {x : α} {u : Value} (hu : enc x = [u]) :
    RowE enc 1 t (w.setCell ⟨g, j, none⟩ u) base (.slice (some ⟨g, 0, none⟩) n cap) (l.set j x) := by
  have hlen : ∀ (l : List α), (l.flatMap enc).length = l.length := by
    intro l
    induction l with
    | nil => rfl
    | cons y l ih => rw [List.flatMap_cons, List.length_append, ih, L.len, List.length_cons]; omega
  have hset : ∀ (l : List α) (j : Nat), (l.set j x).flatMap enc = (l.flatMap enc).set j u := by
    intro l
    induction l with
    | nil => intro j; rfl
    | cons y l ih =>
      intro j
      obtain ⟨v, hv⟩ : ∃ v, enc y = [v] := by
        have := L.len y
        match h : enc y, this with
        | [v], _ => exact ⟨v, rfl⟩
      cases j with
      | zero => simp [hu, hv]
      | succ j => simp [hv, ih j]
  obtain ⟨h0, h1⟩ := h
  rcases h1 with ⟨hn, -⟩ | ⟨g', cap', cur, hv, hb, hg, hnc, hcm, hs, ht⟩
  · cases hn
  · cases hv
    have hj' : j < cur.size := by
      have h2 := congrArg List.length ht
      rw [hlen, List.length_take] at h2
      simp at h2
      omega
    refine ⟨by rw [hlen]; simp, .inr ⟨g, cap, cur.setIfInBounds j u, by simp, hb, heap_setCell_same _ _ _ _ _ _ hg, by simpa using hnc, hcm, by simpa using hs, ?_⟩⟩
    rw [hset, ← ht]
    simp [List.take_set]
/-- a literal row -/
theorem row_lit {α : Type} {enc : α → List Value} {k : Nat} {t : TypeId} (w : World) (l : List α) (hl : l.length ≤ 1000) (hk : (l.flatMap enc).length = l.length * k) :
    RowE enc k t (w.alloc (.cells (l.flatMap enc).toArray t)) w.heap.size (.slice (some ⟨w.heap.size, 0, none⟩) l.length l.length) l := by
  refine ⟨hk, .inr ⟨w.heap.size, l.length, (l.flatMap enc).toArray, rfl, Nat.le_refl _, heap_alloc_new _ _, Nat.le_refl _, by simp [maxLen]; omega, by simp [hk], ?_⟩⟩
  rw [← hk]
  show ((l.flatMap enc).toArray).toList.take (l.flatMap enc).length = _
  rw [List.toList_toArray]
  exact List.take_of_length_le (Nat.le_refl _)
theorem pastAt_write (m : Dev) (k j : Nat) (b : List UInt8) (hk : k < m.past.length) : pastAt (m.write k b) j = if j = k then b :: pastAt m j else pastAt m j := by
  unfold pastAt
  have e : (m.write k b).past = m.past.modify k (· ++ [b]) := rfl
  have e2 : (m.write k b).sz = m.sz := rfl
  rw [e, e2, List.getD_eq_getElem?_getD, List.getElem?_modify, List.getD_eq_getElem?_getD]
  by_cases h : j = k
  · subst h
    rw [if_pos rfl, List.getElem?_eq_getElem hk]
    simp
  · rw [if_neg h]
    cases m.past[j]? with
    | none => simp
    | some l => simp [Ne.symm h]

theorem d4_zero : (Try.prog.info? 33).map (·.size) = some 7 := by kernel_rfl
/-- the zero device, as a result's cell holds it -/
def z4cells : Array Value := #[.int .i64 0, .slice none 0 0, .slice none 0 0, .slice none 0 0, .int .i64 0, .int .i64 0, .bool false]

set_option maxRecDepth 100000 in
set_option maxHeartbeats 1000000 in
set_option maxHeartbeats 8000000 in
theorem refPut4_any (m : Dev) (hwf : m.Wf) (hacts : m.acts ≤ 100000) (fv lv pv : Value) (w : World) (P : Nat → Prop) (HP : Hid (∀ b, w.heap.size ≤ b → P b)) (hv : RDV P w fv lv pv m) (at_ : Int) (s : List UInt8) (hs : s.length ≤ 1000000) :
    Calls Try.prog 30 #[.agg (d4cells m fv lv pv), .int .i64 at_, .string ⟨s.toArray⟩] w fun e w' => ∃ fv' lv' pv', e = .returned (.tuple #[.agg (d4cells (m.put at_ s).1 fv' lv' pv'), .int .i64 ((m.put at_ s).2 : Int)]) ∧ RDV P w' fv' lv' pv' (m.put at_ s).1 ∧ Keep [] w w' := by
  have hll := hwf.ll
  have hn2 := hwf.n2
  have hfl := hwf.fl
  have hpl := hwf.pl
  have har := hwf.ar
  obtain ⟨fa, fc, rfl⟩ := hv.fast.form
  obtain ⟨la, lc, rfl⟩ := hv.loose.form
  obtain ⟨vs, hpr, hvl, hvp⟩ := hv.past
  obtain ⟨pa, pc, rfl⟩ := hpr.form
  obtain ⟨N, hN⟩ : ∃ N, m.fast.length = N := ⟨_, rfl⟩
  obtain ⟨L, hL⟩ : ∃ L, m.loose.length = L := ⟨_, rfl⟩
  have hmn : m.n = N := by rw [← hfl, hN]
  have hvN : vs.length = N := by rw [hvl, hpl, hmn]
  have HV := Lib.hid (And.intro hv (And.intro hN (And.intro hL (And.intro hmn (And.intro hvN (And.intro hpr (And.intro hvl hvp)))))))
  have hLb : L ≤ 100000 := by omega
  have hNb : N ≤ 16384 := by omega
  obtain ⟨S, hS⟩ : ∃ S, s.length = S := ⟨_, rfl⟩
  have HS := Lib.hid hS
  have hSb : S ≤ 1000000 := by omega
  obtain ⟨B, hB⟩ : ∃ B, w.heap.size = B := ⟨_, rfl⟩
  have HB := Lib.hid hB
  have slen : ((⟨s.toArray⟩ : ByteArray).size : Int) = (S : Int) := by rw [← hS]; rfl
  have slen2 : ((s.length : Nat) : Int) = (S : Int) := by rw [hS]
  have hA0 : ((w.alloc (.cells (d4cells m (.slice fa N fc) (.slice la L lc) (.slice pa N pc)) 33)).alloc (.cells z4cells 33)).heap[B]? = some (.cells (d4cells m (.slice fa N fc) (.slice la L lc) (.slice pa N pc)) 33 (0, 0)) := by
    rw [← hB]
    exact ((Keep.refl [] _).alloc _).blk (by simp) (heap_alloc_new w _)
  have hR0 : ((w.alloc (.cells (d4cells m (.slice fa N fc) (.slice la L lc) (.slice pa N pc)) 33)).alloc (.cells z4cells 33)).heap[B + 1]? = some (.cells z4cells 33 (0, 0)) := by
    rw [← hB]
    exact heap_alloc2_new w _ _
  have hK0 : Keep [] w ((w.alloc (.cells (d4cells m (.slice fa N fc) (.slice la L lc) (.slice pa N pc)) 33)).alloc (.cells z4cells 33)) := ((Keep.refl [] w).alloc _).alloc _
  rw [hN, hL, hvN]
  simp only [d4cells, z4cells] at hA0 hR0 hK0 ⊢
  clear hv hpr hvl hvp hN hL hmn hvN hfl hll hn2 hpl hS hB
  cases hd : m.down with
  | true =>
    have e : m.put at_ s = (m, 4) := by unfold Dev.put Dev.ready; rw [hd]; rfl
    rw [e]
    simp only [hd]
    have HD := Lib.hid hd
    rw [hd] at hK0
    have HK0 := Lib.hid hK0
    clear hd e hA0 hR0 hK0
    go_enter Try.func30, Try.ntmps30
    go_wp2
    refine bodyPost_ret (results_cell_tmp_row rfl _ _ (w.heap.size + 1) 33 _ _ _ rfl (heap_alloc2_new _ _ _) Try.underlying33 rfl (by kernel_rfl)) rfl ?_
    refine ⟨_, _, _, rfl, ?_, ((Keep.refl [] w).alloc _).alloc _⟩
    have h := HV.out.1.keep (((Keep.refl [] w).alloc (.cells (d4cells m (.slice fa N fc) (.slice la L lc) (.slice pa N pc)) 33)).alloc (.cells (d4cells m (.slice fa N fc) (.slice la L lc) (.slice pa N pc)) 33))
    rw [HV.out.2.1, HV.out.2.2.1, HV.out.2.2.2.2.1] at h
    simp only [d4cells, HD.out] at h
    exact h
  | false =>
    have cT := fun w' => there4_any m.sz N fc m.armed m.acts fa (.slice la L lc) (.slice pa N pc) false hNb at_ w'
    rw [hd] at hA0 hK0 hR0
    have HK0 := Lib.hid (And.intro hK0 (And.intro hA0 hR0))
    have HDN := Lib.hid hd
    have HWF := Lib.hid hwf
    clear hA0 hR0 hK0 hd
    go_enter Try.func30, Try.ntmps30
    go_wp2_with fail
    refine (cT _).mono ?_
    clear cT
    rintro e w2 ⟨rfl, k2⟩
    have hA2 := k2.blk (by simp) HK0.out.2.1
    have hR2 := k2.blk (by simp) HK0.out.2.2
    have HK2 := Lib.hid (HK0.out.1.trans k2)
    have hwB : w.heap.size = B := HB.out
    rw [hwB]
    have c0 := cell_of_row w2 _ 0 _ _ _ hA2
    have c1 := cell_of_row w2 _ 1 _ _ _ hA2
    have c2 := cell_of_row w2 _ 2 _ _ _ hA2
    have c3 := cell_of_row w2 _ 3 _ _ _ hA2
    have c4 := cell_of_row w2 _ 4 _ _ _ hA2
    have c5 := cell_of_row w2 _ 5 _ _ _ hA2
    have c6 := cell_of_row w2 _ 6 _ _ _ hA2
    simp at c0 c1 c2 c3 c4 c5 c6
    have HR2 := Lib.hid hR2
    have HA2 := Lib.hid hA2
    clear k2 hA2 hR2 hwB
    have hret : ∀ (cd : Nat) (ci : Int), (cd : Int) = ci → m.put at_ s = (m, cd) → ∃ fv' lv' pv', (Ending.returned (.tuple #[.agg #[.int .i64 (m.sz : Int), .slice fa N fc, .slice la L lc, .slice pa N pc, .int .i64 (m.armed : Int), .int .i64 (m.acts : Int), .bool false], .int .i64 ci])) = .returned (.tuple #[.agg (d4cells (m.put at_ s).1 fv' lv' pv'), .int .i64 ((m.put at_ s).2 : Int)]) ∧ RDV P (w2.setRow (B + 1) #[.int .i64 (m.sz : Int), .slice fa N fc, .slice la L lc, .slice pa N pc, .int .i64 (m.armed : Int), .int .i64 (m.acts : Int), .bool false]) fv' lv' pv' (m.put at_ s).1 ∧ Keep [] w (w2.setRow (B + 1) #[.int .i64 (m.sz : Int), .slice fa N fc, .slice la L lc, .slice pa N pc, .int .i64 (m.armed : Int), .int .i64 (m.acts : Int), .bool false]) := by
      intro cd ci hci e
      have hk := (HK2.out).setRow (g := B + 1) (.inr (by rw [HB.out]; omega)) #[.int .i64 (m.sz : Int), .slice fa N fc, .slice la L lc, .slice pa N pc, .int .i64 (m.armed : Int), .int .i64 (m.acts : Int), .bool false]
      have h := HV.out.1.keep hk
      rw [HV.out.2.1, HV.out.2.2.1, HV.out.2.2.2.2.1] at h
      rw [e]
      refine ⟨_, _, _, ?_, h, hk⟩
      unfold d4cells
      rw [HDN.out, hci]
    by_cases hr : 0 ≤ at_ ∧ at_ < (N : Int)
    case neg =>
      have e : m.put at_ s = (m, 2) := by
        have hrd : m.ready at_ = 2 := by
          unfold Dev.ready
          rw [if_neg (by rw [HDN.out]; simp), if_neg (by rw [HV.out.2.2.2.1]; exact hr)]
        unfold Dev.put
        rw [if_pos (by rw [hrd]; simp), hrd]
      have HRET := Lib.hid (hret 2 2 rfl e)
      rw [decide_eq_false hr]
      clear hret e hr
      go_wp2_with (refine wpList_store_row rfl 33 (.tmp 6) (.tmp 15) rfl (B + 1) #[.int .i64 (m.sz : Int), .slice fa N fc, .slice la L lc, .slice pa N pc, .int .i64 (m.armed : Int), .int .i64 (m.acts : Int), .bool false] rfl rfl 33 _ HR2.out (by kernel_rfl) (by rfl) (by kernel_rfl) ?_)
      refine bodyPost_ret (results_cell_tmp_row rfl _ _ (B + 1) 33 _ _ _ rfl (setRow_heap _ _ _ _ _ _ HR2.out) Try.underlying33 rfl (by kernel_rfl)) rfl ?_
      exact HRET.out
    case pos =>
      obtain ⟨k, rfl⟩ : ∃ k : Nat, at_ = (k : Int) := ⟨at_.toNat, by omega⟩
      have hkN : k < N := by omega
      have hki : (k : Int) < (N : Int) := by omega
      have hrd : m.ready (k : Int) = 0 := by
        unfold Dev.ready
        rw [if_neg (by rw [HDN.out]; simp), if_pos (by rw [HV.out.2.2.2.1]; exact hr)]
      rw [decide_eq_true hr]
      clear hr
      by_cases hsz : S = m.sz
      case neg =>
        have e : m.put (k : Int) s = (m, 3) := by
          unfold Dev.put
          rw [if_neg (by rw [hrd]; simp), if_pos (by rw [HS.out]; exact hsz)]
        have HRET := Lib.hid (hret 3 3 rfl e)
        have t1 : ((S : Int) == (m.sz : Int)) = false := beq_false_of_ne (by omega)
        have t2 : ((S : Int) != (m.sz : Int)) = true := bne_iff_ne.2 (by omega)
        clear hret e hrd hsz
        go_wp2_with (refine wpList_store_row rfl 33 (.tmp 6) (.tmp 21) rfl (B + 1) #[.int .i64 (m.sz : Int), .slice fa N fc, .slice la L lc, .slice pa N pc, .int .i64 (m.armed : Int), .int .i64 (m.acts : Int), .bool false] rfl rfl 33 _ HR2.out (by kernel_rfl) (by rfl) (by kernel_rfl) ?_)
        refine bodyPost_ret (results_cell_tmp_row rfl _ _ (B + 1) 33 _ _ _ rfl (setRow_heap _ _ _ _ _ _ HR2.out) Try.underlying33 rfl (by kernel_rfl)) rfl ?_
        exact HRET.out
      case pos =>
        clear hret
        have e : m.put (k : Int) s = (m.write k s, if m.act.down = true then 4 else 0) := by
          unfold Dev.put
          rw [if_neg (by rw [hrd]; simp), if_neg (by rw [HS.out, hsz]; simp)]
          simp
        have cAct := act4_any m har (by omega) fa la pa N fc L lc N pc w2
        simp only [d4cells] at cAct
        rw [HDN.out] at cAct
        have hmz : m.act.sz = m.sz := rfl
        obtain ⟨ar1, har1⟩ : ∃ x, m.act.armed = x := ⟨_, rfl⟩
        obtain ⟨ac1, hac1⟩ : ∃ x, m.act.acts = x := ⟨_, rfl⟩
        obtain ⟨dn1, hdn1⟩ : ∃ x, m.act.down = x := ⟨_, rfl⟩
        rw [hmz, har1, hac1, hdn1] at cAct
        rw [hdn1] at e
        have HE := Lib.hid e
        have hwr : (m.write k s).armed = ar1 ∧ (m.write k s).acts = ac1 ∧ (m.write k s).down = dn1 ∧ (m.write k s).sz = m.sz := ⟨har1, hac1, hdn1, rfl⟩
        have t1 : ((S : Int) == (m.sz : Int)) = true := by simp [hsz]
        have t2 : ((S : Int) != (m.sz : Int)) = false := by simp [hsz]
        have HWR := Lib.hid hwr
        have HKS := Lib.hid (And.intro hrd hsz)
        clear hrd hsz e har1 hac1 hdn1 hwr hmz
        go_wp2_with fail
        refine cAct.mono ?_
        clear cAct c0 c1 c2 c3 c4 c5 c6
        rintro e w3 ⟨rfl, k3⟩
        have hA3 := k3.blk (by simp) HA2.out
        have hR3 := k3.blk (by simp) HR2.out
        have HA3 := Lib.hid hA3
        have HR3 := Lib.hid hR3
        have HK3 := Lib.hid (HK2.out.trans k3)
        clear hA3 hR3 k3
        go_upto_region 8 with (refine wpList_store_row rfl 33 (.tmp 3) (.tmp 23) rfl B #[.int .i64 (m.sz : Int), .slice fa N fc, .slice la L lc, .slice pa N pc, .int .i64 (ar1 : Int), .int .i64 (ac1 : Int), .bool dn1] rfl rfl 33 _ HA3.out (by kernel_rfl) (by rfl) (by kernel_rfl) ?_)
        have hA4 := setRow_heap w3 B _ #[.int .i64 (m.sz : Int), .slice fa N fc, .slice la L lc, .slice pa N pc, .int .i64 (ar1 : Int), .int .i64 (ac1 : Int), .bool dn1] _ _ HA3.out
        have hR4 := (setRow_other w3 B (B + 1) #[.int .i64 (m.sz : Int), .slice fa N fc, .slice la L lc, .slice pa N pc, .int .i64 (ar1 : Int), .int .i64 (ac1 : Int), .bool dn1] (by omega)).trans HR3.out
        have hK4 := HK3.out.setRow (g := B) (.inr (by rw [HB.out]; exact Nat.le_refl _)) #[.int .i64 (m.sz : Int), .slice fa N fc, .slice la L lc, .slice pa N pc, .int .i64 (ar1 : Int), .int .i64 (ac1 : Int), .bool dn1]
        generalize w3.setRow B #[.int .i64 (m.sz : Int), .slice fa N fc, .slice la L lc, .slice pa N pc, .int .i64 (ar1 : Int), .int .i64 (ac1 : Int), .bool dn1] = w4 at *
        have hBw : B + 2 ≤ w4.heap.size := by have := (Array.getElem?_eq_some_iff.1 hR4).1; omega
        -- the loose writes
        have kA5 := (Keep.refl [] w4).alloc (.cells #[] 181)
        have lit5 : WRow4 (w4.alloc (.cells #[] 181)) w4.heap.size (.slice (some ⟨w4.heap.size, 0, none⟩) 0 0) [] := row_lit (enc := w4enc) (k := 2) (t := 181) w4 [] (by simp) rfl
        have lo5 := HV.out.1.loose.keep (hK4.trans kA5) (by simp)
        rw [HV.out.2.2.1] at lo5
        obtain ⟨v6, w6, hrun6, ho6, hk6, hl6⟩ := run_append_row (P := Try.prog) (ty := 30) w4lies Try.underlying30 w4_info rfl (by decide) (by decide) w4.heap.size lit5 lo5 (by simp; rw [HV.out.2.2.1]; omega) kA5.size
        rw [List.nil_append] at ho6
        obtain ⟨a6, c6, rfl⟩ := ho6.form
        have k46 : Keep [] w4 w6 := kA5.trans' hk6 (fun b hb => .inr (by simp [Value.ownBlock] at hb; omega))
        have kA7 := (Keep.refl [] w6).alloc (.cells #[.int .i64 (k : Int), .string ⟨s.toArray⟩] 181)
        have nB7 : (w6.alloc (.cells #[.int .i64 (k : Int), .string ⟨s.toArray⟩] 181)).heap[w6.heap.size]? = some (.cells (w4enc (k, s)).toArray 181 (0, 0)) := heap_alloc_new w6 _
        obtain ⟨v8, w8, hrun8, ho8, hk8, hl8⟩ := run_append_one (P := Try.prog) (ty := 30) w4lies Try.underlying30 w4_info rfl (by decide) (by decide) w4.heap.size (ho6.keep kA7 (by simp)) w6.heap.size (k, s) nB7 (by rw [HV.out.2.2.1]; omega) (Nat.le_trans k46.size kA7.size)
        obtain ⟨a8, c8', rfl⟩ := ho8.form
        have k48 : Keep [] w4 w8 := (k46.trans kA7).trans' hk8 (fun b hb => .inr (ho6.lt b (by simpa using hb)).1)
        rw [HV.out.2.2.1] at hrun6 hrun8
        rw [List.length_append, List.length_singleton, HV.out.2.2.1] at hrun8
        have e5 := cell_of_row _ _ 2 _ _ _ (kA5.blk (by simp) hA4)
        have e8 := cell_of_row _ _ 2 _ _ _ (k48.blk (by simp) hA4)
        have f8 := frozen_of_row w8 B 2 _ _ (k48.blk (by simp) hA4)
        simp at e5 e8
        have HR6 := Lib.hid hrun6
        have HR8 := Lib.hid hrun8
        have HO8 := Lib.hid (And.intro ho8 k48)
        have H4 := Lib.hid (And.intro hA4 (And.intro hR4 hK4))
        clear hrun6 hrun8 ho8 k48 lit5 lo5 ho6 hk6 hl6 k46 kA7 nB7 hk8 hl8 kA5 hA4 hR4 hK4
        go_upto_region 9 with (first | (at_builtin; refine wpList_append_run rfl (.tmp 24) (.tmp 26) 30 rfl (w' := w6) rfl rfl HR6.out ?_) | (at_builtin; refine wpList_append_run rfl (.tmp 27) (.tmp 31) 30 rfl (w' := w8) rfl rfl HR8.out ?_))
        clear e5 e8 f8 HR6 HR8
        have hA8 := HO8.out.2.blk (by simp) H4.out.1
        have hR8 := HO8.out.2.blk (by simp) H4.out.2.1
        have hA9 := heap_setCell_same w8 B 2 _ _ (.slice a8 (L + 1) c8') hA8
        simp only [List.setIfInBounds_toArray, List.set_cons_zero, List.set_cons_succ] at hA9
        have k89 : Keep [B, B + 1] w8 (w8.setCell ⟨B, 2, none⟩ (.slice a8 (L + 1) c8')) := (Keep.refl _ _).setCell (.inl (by simp)) _
        have hR9 : (w8.setCell ⟨B, 2, none⟩ (.slice a8 (L + 1) c8')).heap[B + 1]? = _ := ((Keep.refl [B] w8).setCell (p := ⟨B, 2, none⟩) (.inl (by simp)) (.slice a8 (L + 1) c8')).blk (by simp) hR8
        have k49 : Keep [B, B + 1] w4 (w8.setCell ⟨B, 2, none⟩ (.slice a8 (L + 1) c8')) := (HO8.out.2.mono (by simp)).trans k89
        have hs9 : (w8.setCell ⟨B, 2, none⟩ (.slice a8 (L + 1) c8')).heap.size = w8.heap.size := World.size_setCell _ _ _
        generalize w8.setCell ⟨B, 2, none⟩ (.slice a8 (L + 1) c8') = w9 at *
        have hw48 := HO8.out.2.size
        -- the pasts
        have hkw9 : Keep [] w w9 := H4.out.2.2.trans' k49 (fun b hb => .inr (by have := HB.out; simp at hb; omega))
        have kA10 := (Keep.refl [] w9).alloc (.cells #[] 29)
        have lit10 : PRow4 (w9.alloc (.cells #[] 29)) w9.heap.size (.slice (some ⟨w9.heap.size, 0, none⟩) 0 0) [] := row_lit (enc := p4enc) (k := 1) (t := 29) w9 [] (by simp) rfl
        have po10 := HV.out.2.2.2.2.2.1.keep (hkw9.trans kA10) (by simp)
        rw [HV.out.2.2.2.2.1] at po10
        obtain ⟨v11, w11, hrun11, ho11, hk11, hl11⟩ := run_append_row (P := Try.prog) (ty := 31) p4lies Try.underlying31 p4_info rfl (by decide) (by decide) w9.heap.size lit10 po10 (by simp; rw [HV.out.2.2.2.2.1]; omega) kA10.size
        rw [List.nil_append] at ho11
        obtain ⟨a11, c11, rfl⟩ := ho11.form
        rw [HV.out.2.2.2.2.1] at hrun11 ho11
        have k911 : Keep [] w9 w11 := kA10.trans' hk11 (fun b hb => .inr (by simp [Value.ownBlock] at hb; omega))
        obtain ⟨g11, rfl, hg11, hc11⟩ := RowE.cells p4lies ho11 (i := k) (by rw [HV.out.2.2.2.2.1]; exact hkN)
        have e10 := cell_of_row _ _ 3 _ _ _ (kA10.blk (by simp) hA9)
        have e11 := cell_of_row _ _ 3 _ _ _ (k911.blk (by simp) hA9)
        have f11 := frozen_of_row w11 B 3 _ _ (k911.blk (by simp) hA9)
        simp at e10 e11
        have HR11 := Lib.hid hrun11
        have HO11 := Lib.hid (And.intro ho11 (And.intro k911 hg11))
        have H9 := Lib.hid (And.intro hA9 (And.intro hR9 (And.intro k89 (And.intro hkw9 (And.intro hs9 hw48)))))
        clear hrun11 ho11 lit10 po10 hk11 hl11 kA10 hA9 hR9 k89 hkw9 k911 hA8 hR8 k49 hc11 hg11 hs9 hw48
        go_upto_region 10 with (at_builtin; refine wpList_append_run rfl (.tmp 34) (.tmp 36) 31 rfl (w' := w11) rfl rfl HR11.out ?_)
        clear e10 e11 f11 HR11
        have hA11 := HO11.out.2.1.blk (by simp) H9.out.1
        have hA12 := heap_setCell_same w11 B 3 _ _ (.slice (some ⟨g11, 0, none⟩) N c11) hA11
        simp only [List.setIfInBounds_toArray, List.set_cons_zero, List.set_cons_succ] at hA12
        have k1112 : Keep [B, B + 1] w11 (w11.setCell ⟨B, 3, none⟩ (.slice (some ⟨g11, 0, none⟩) N c11)) := (Keep.refl _ _).setCell (.inl (by simp)) _
        have hR12 : (w11.setCell ⟨B, 3, none⟩ (.slice (some ⟨g11, 0, none⟩) N c11)).heap[B + 1]? = _ := ((Keep.refl [B] w11).setCell (p := ⟨B, 3, none⟩) (.inl (by simp)) (.slice (some ⟨g11, 0, none⟩) N c11)).blk (by simp) (HO11.out.2.1.blk (by simp) H9.out.2.1)
        have ho12 : PRow4 (w11.setCell ⟨B, 3, none⟩ (.slice (some ⟨g11, 0, none⟩) N c11)) w9.heap.size (.slice (some ⟨g11, 0, none⟩) N c11) vs := HO11.out.1.keep k1112 (fun b hb hm => by
          have h1 := (HO11.out.1.lt b hb).1
          have h2 := H9.out.2.2.2.2
          simp at hm
          omega)
        have k812 : Keep [B, B + 1] w8 (w11.setCell ⟨B, 3, none⟩ (.slice (some ⟨g11, 0, none⟩) N c11)) := (H9.out.2.2.1.trans (HO11.out.2.1.mono (by simp))).trans k1112
        have hkw12 : Keep [] w (w11.setCell ⟨B, 3, none⟩ (.slice (some ⟨g11, 0, none⟩) N c11)) := (H9.out.2.2.2.1.trans HO11.out.2.1).trans' k1112 (fun b hb => .inr (by have := HB.out; simp at hb; omega))
        generalize w11.setCell ⟨B, 3, none⟩ (.slice (some ⟨g11, 0, none⟩) N c11) = w12 at *
        have H12 := Lib.hid (And.intro hA12 (And.intro hR12 (And.intro ho12 (And.intro k812 hkw12))))
        clear hA11 hA12 hR12 ho12 k812 hkw12 k1112
        refine wp_region_his [w12.heap.size] [4, 10, 12] (fun _ => 0) (by kernel_rfl) (by kernel_rfl) ?_
        intro w13 hk13 hh
        have hs13 : w13.heap.size = w12.heap.size := by rw [hh]
        clear hh
        have hBlt : B < w12.heap.size := (Array.getElem?_eq_some_iff.1 H12.out.1).1
        have hglt : g11 < w12.heap.size := (H12.out.2.2.1.lt g11 rfl).2.1
        have u3 := fun w' (h' : Keep [w12.heap.size] w13 w') => cell_of_row w' _ 3 _ _ _ (h'.blk (by simp; omega) (hk13.blk (by simp) H12.out.1))
        simp at u3
        have hvk : k < vs.length := by rw [HV.out.2.2.2.2.1]; exact hkN
        obtain ⟨sl, hsl⟩ : ∃ sl, vs[k] = sl := ⟨_, rfl⟩
        have y0 : ∀ w', Keep [] w13 w' → w'.cell? ⟨g11, k * 1 + 0, none⟩ = some (vs[k].v) := fun w' h' => by
          obtain ⟨g', e', -, hc⟩ := RowE.cells p4lies (H12.out.2.2.1.keep (hk13.trans h') (by simp)) hvk
          cases e'
          exact hc 0 _ rfl
        have y0' : ∀ w', Keep [w12.heap.size] w13 w' → w'.cell? ⟨g11, k, none⟩ = some (vs[k].v) := fun w' h' => h'.cell (by simp; omega) (by have := y0 w13 (Keep.refl _ _); rw [Nat.mul_one, Nat.add_zero] at this; exact this)
        simp only [Nat.mul_one, Nat.add_zero, hsl] at y0
        rw [hsl] at y0'
        obtain ⟨sa, sn, sc⟩ := sl
        simp only [Sl.v] at y0 y0'
        have hps := (HV.out.2.2.2.2.2.2.2 k hvk).1
        rw [hsl] at hps
        simp only [Sl.v] at hps
        obtain ⟨PL, hPL⟩ : ∃ PL, (pastAt m k).length = PL := ⟨_, rfl⟩
        have hpsn : sn = PL := by
          obtain ⟨a', c', e'⟩ := hps.form
          injection e' with e1 e2 e3
          rw [e2, hPL]
        subst hpsn
        have hplb : sn ≤ 200000 := by
          rw [← hPL]
          unfold pastAt
          have hkp : k < m.past.length := by rw [HWF.out.pl, HV.out.2.2.2.1]; exact hkN
          have h1 := (HWF.out.ps k hkp).1
          simp [List.getD_eq_getElem?_getD, List.getElem?_eq_getElem hkp]
          omega
        have kA14 := (Keep.refl [] w13).alloc (.cells #[.string ⟨s.toArray⟩] 9)
        have lit14 : SRow4 (w13.alloc (.cells #[.string ⟨s.toArray⟩] 9)) w13.heap.size (.slice (some ⟨w13.heap.size, 0, none⟩) 1 1) [s] := row_lit (enc := s4enc) (k := 1) (t := 9) w13 [s] (by simp) rfl
        have hk1214 := hk13.trans kA14
        have so14 := hps.keep (H12.out.2.2.2.2.trans hk1214) (by simp)
        obtain ⟨v15, w15, hrun15, ho15, hk15, hl15⟩ := run_append_row (P := Try.prog) (ty := 29) s4lies Try.underlying29 s4_info rfl (by decide) (by decide) w13.heap.size lit14 so14 (by rw [hPL]; simp; omega) kA14.size
        obtain ⟨a15, c15, rfl⟩ := ho15.form
        rw [List.length_append, List.length_singleton, hPL, Nat.add_comm 1 sn] at hrun15
        have k1315 : Keep [] w13 w15 := kA14.trans' hk15 (fun b hb => .inr (by simp [Value.ownBlock] at hb; omega))
        have ho12' := H12.out.2.2.1.keep (hk13.trans k1315) (by simp)
        have y15 := y0 w15 k1315
        have z15 : w15.frozen? ⟨g11, k, none⟩ = false := by
          obtain ⟨-, hcs⟩ := ho12'
          rcases hcs with ⟨e1, -⟩ | ⟨g', cap, cur, e1, -, hg, -⟩
          · cases e1
          · cases e1
            exact frozen_of_row _ _ _ _ _ hg
        have HR15 := Lib.hid hrun15
        have H15 := Lib.hid (And.intro ho15 (And.intro k1315 (And.intro (hk13.trans k1315) (And.intro ho12' hPL))))
        have KA14 := Lib.hid kA14
        have K1415 := Lib.hid (show Keep [w12.heap.size] _ _ by have h := hk15; simp only [Value.ownBlock, Option.toList_some] at h; rw [hs13] at h; exact h)
        have HSL := Lib.hid (And.intro hsl hs13)
        have HLT := Lib.hid (And.intro hBlt hglt)
        clear hrun15 ho15 lit14 so14 hk15 hl15 k1315 ho12' hk1214 hps hPL hk13 kA14 hsl hs13 y0 hBlt hglt
        (repeat (first | (refine his_q rfl rfl (fun K hK => ?_); apply Exists.intro; refine ⟨fun w' hC => ?_, ?_⟩; ((try simp [Sg.upd] at hC); go_simp <;> rfl); go_simp; refine hK _ _ ?_; clear hK K) | (refine his_s rfl (fun K hK => ?_); go_simp; refine hK _ _ ?_; clear hK K)))
        (refine his_l rfl rfl (fun K hK => ?_); go_simp)
        refine hK _ _ (KA14.out.mono (by simp)) ?_
        clear hK K
        (repeat (first | (refine his_q rfl rfl (fun K hK => ?_); apply Exists.intro; refine ⟨fun w' hC => ?_, ?_⟩; ((try simp [Sg.upd] at hC); go_simp <;> rfl); go_simp; refine hK _ _ ?_; clear hK K) | (refine his_s rfl (fun K hK => ?_); go_simp; refine hK _ _ ?_; clear hK K)))
        refine his_l rfl rfl (fun K hK => ?_)
        refine loudly_append_run (.tmp 43) (.tmp 48) 29 rfl rfl rfl HR15.out ?_
        refine hK _ _ K1415.out ?_
        clear hK K
        (repeat (first | (refine his_q rfl rfl (fun K hK => ?_); apply Exists.intro; refine ⟨fun w' hC => ?_, ?_⟩; ((try simp [Sg.upd] at hC); go_simp <;> rfl); go_simp; refine hK _ _ ?_; clear hK K) | (refine his_s rfl (fun K hK => ?_); go_simp; refine hK _ _ ?_; clear hK K)))
        (refine his_last rfl (by kernel_rfl) rfl (fun K hK => ?_); go_simp)
        refine hK _ _ ?_
        clear hK K
        refine his_nil ?_
        clear u3 y0' y15 z15 HR15 KA14 K1415
        have hq12 : PRow4 w15 w9.heap.size (.slice (some ⟨g11, 0, none⟩) N c11) vs := H15.out.2.2.2.1
        have hvk' : k < vs.length := hvk
        have ho16 := row_set1 p4lies hq12 (j := k) hvk' (x := (a15, sn + 1, c15)) (u := .slice a15 (sn + 1) c15) rfl
        have k1516 : Keep [g11] w15 (w15.setCell ⟨g11, k, none⟩ (.slice a15 (sn + 1) c15)) := (Keep.refl _ _).setCell (.inl (by simp)) _
        have hg11 : w9.heap.size ≤ g11 := HO11.out.2.2
        have h948 := H9.out.2.2.2.2
        have hA16 := k1516.blk (by simp; omega) (H15.out.2.2.1.blk (by simp) H12.out.1)
        have hR16 := k1516.blk (by simp; omega) (H15.out.2.2.1.blk (by simp) H12.out.2.1)
        have hs1315 := H15.out.2.1.size
        have hs1213 := HSL.out.2
        have hx16 : SRow4 (w15.setCell ⟨g11, k, none⟩ (.slice a15 (sn + 1) c15)) 0 (.slice a15 (sn + 1) c15) (s :: pastAt m k) := by
          have h1 := H15.out.1.keep k1516 (fun b hb hm => by
            have h2 := (H15.out.1.lt b hb).1
            have h3 := HLT.out.2
            simp at hm
            omega)
          rw [List.singleton_append, List.length_cons, H15.out.2.2.2.2] at h1
          exact h1.lower (Nat.zero_le _)
        have hxf : ∀ b, (Value.slice a15 (sn + 1) c15).ownBlock = some b → w13.heap.size ≤ b := fun b hb => (H15.out.1.lt b (by rw [List.singleton_append, List.length_cons, H15.out.2.2.2.2]; exact hb)).1
        have k816 : Keep [B, B + 1] w8 (w15.setCell ⟨g11, k, none⟩ (.slice a15 (sn + 1) c15)) := keep_bump (H12.out.2.2.2.1.trans (H15.out.2.2.1.mono (by simp))) k1516 (fun b hb => .inr (by simp at hb; omega))
        have hkw16 : Keep [] w (w15.setCell ⟨g11, k, none⟩ (.slice a15 (sn + 1) c15)) := (H12.out.2.2.2.2.trans H15.out.2.2.1).trans' k1516 (fun b hb => .inr (by have := HB.out; simp at hb; omega))
        generalize w15.setCell ⟨g11, k, none⟩ (.slice a15 (sn + 1) c15) = w16 at *
        have c0 := cell_of_row w16 _ 0 _ _ _ hA16
        have c1 := cell_of_row w16 _ 1 _ _ _ hA16
        have c2 := cell_of_row w16 _ 2 _ _ _ hA16
        have c3 := cell_of_row w16 _ 3 _ _ _ hA16
        have c4 := cell_of_row w16 _ 4 _ _ _ hA16
        have c5 := cell_of_row w16 _ 5 _ _ _ hA16
        have c6 := cell_of_row w16 _ 6 _ _ _ hA16
        simp at c0 c1 c2 c3 c4 c5 c6
        have HR16 := Lib.hid hR16
        have hlast : ∀ cells : Array Value, RDV P (w16.setRow (B + 1) cells) (.slice fa N fc) (.slice a8 (L + 1) c8') (.slice (some ⟨g11, 0, none⟩) N c11) (m.write k s) ∧ Keep [] w (w16.setRow (B + 1) cells) := by
          intro cells
          have k1617 : Keep [B + 1] w16 (w16.setRow (B + 1) cells) := (Keep.refl _ _).setRow (.inl (by simp)) _
          have hkw17 : Keep [] w (w16.setRow (B + 1) cells) := hkw16.setRow (.inr (by rw [HB.out]; omega)) _
          have hf := HV.out.1.fast.keep hkw17 (by simp)
          rw [HV.out.2.1] at hf
          have hl := (HO8.out.1.keep k816 (fun b hb hm => by
            have h1 := (HO8.out.1.lt b hb).1
            simp at hm
            omega)).keep k1617 (fun b hb hm => by
            have h1 := (HO8.out.1.lt b hb).1
            simp at hm
            omega)
          rw [List.length_append, List.length_singleton, HV.out.2.2.1] at hl
          have hp := ho16.keep k1617 (fun b hb hm => by
            simp [Value.ownBlock] at hb
            simp at hm
            omega)
          refine ⟨⟨hf, hl.lower (Nat.zero_le _), ⟨vs.set k (a15, sn + 1, c15), ?_, ?_, fun j hj => ?_⟩, by have h1 := HV.out.1.fP; rw [HV.out.2.1] at h1; exact h1, fun b hb => ?_, fun b hb => ?_⟩, hkw17⟩
          · exact hp.lower (Nat.zero_le _)
          · rw [List.length_set, HV.out.2.2.2.2.2.2.1]
            show m.past.length = (m.past.modify k (· ++ [s])).length
            rw [List.length_modify]
          · have hkp : k < m.past.length := by rw [← HV.out.2.2.2.2.2.2.1]; exact hvk
            rw [pastAt_write m k j s hkp]
            by_cases hjk : j = k
            · subst hjk
              rw [if_pos rfl]
              simp only [List.getElem_set_self, Sl.v]
              refine ⟨hx16.keep k1617 (fun b hb hm => by
                have h2 := hxf b hb
                have h3 := (Array.getElem?_eq_some_iff.1 H12.out.2.1).1
                have h4 := HSL.out.2
                simp at hm
                omega), fun b hb => HP.out b ?_⟩
              have h2 := hxf b hb
              have h3 := (Array.getElem?_eq_some_iff.1 H12.out.2.1).1
              have h4 := HSL.out.2
              have h5 := HB.out
              omega
            · rw [if_neg hjk]
              have hj2 : j < vs.length := by simpa using hj
              rw [List.getElem_set_ne (by omega)]
              exact ⟨(HV.out.2.2.2.2.2.2.2 j hj2).1.keep hkw17 (by simp), (HV.out.2.2.2.2.2.2.2 j hj2).2⟩
          · have h1 := (hl.lt b hb).1
            have h2 := HK2.out.size
            have h3 := HB.out
            exact HP.out b (by omega)
          · simp [Value.ownBlock] at hb
            have h3 := HB.out
            exact HP.out b (by omega)
        have HLAST := Lib.hid hlast
        clear hA16 hR16 hlast ho16 hx16 k816 hkw16 hq12 hg11 h948 hs1315 hs1213
        cases dn1 with
        | true =>
          go_wp2_with (refine wpList_store_row rfl 33 (.tmp 6) (.tmp 53) rfl (B + 1) #[.int .i64 (m.sz : Int), .slice fa N fc, .slice a8 (L + 1) c8', .slice (some ⟨g11, 0, none⟩) N c11, .int .i64 (ar1 : Int), .int .i64 (ac1 : Int), .bool true] rfl rfl 33 _ HR16.out (by kernel_rfl) (by rfl) (by kernel_rfl) ?_)
          refine bodyPost_ret (results_cell_tmp_row rfl _ _ (B + 1) 33 _ _ _ rfl (setRow_heap _ _ _ _ _ _ HR16.out) Try.underlying33 rfl (by kernel_rfl)) rfl ?_
          refine ⟨_, _, _, ?_, by rw [HE.out]; exact (HLAST.out _).1, (HLAST.out _).2⟩
          rw [HE.out]
          simp only [d4cells, HWR.out.1, HWR.out.2.1, HWR.out.2.2.1, HWR.out.2.2.2]
          rfl
        | false =>
          go_wp2_with (refine wpList_store_row rfl 33 (.tmp 6) (.tmp 54) rfl (B + 1) #[.int .i64 (m.sz : Int), .slice fa N fc, .slice a8 (L + 1) c8', .slice (some ⟨g11, 0, none⟩) N c11, .int .i64 (ar1 : Int), .int .i64 (ac1 : Int), .bool false] rfl rfl 33 _ HR16.out (by kernel_rfl) (by rfl) (by kernel_rfl) ?_)
          refine bodyPost_ret (results_cell_tmp_row rfl _ _ (B + 1) 33 _ _ _ rfl (setRow_heap _ _ _ _ _ _ HR16.out) Try.underlying33 rfl (by kernel_rfl)) rfl ?_
          refine ⟨_, _, _, ?_, by rw [HE.out]; exact (HLAST.out _).1, (HLAST.out _).2⟩
          rw [HE.out]
          simp only [d4cells, HWR.out.1, HWR.out.2.1, HWR.out.2.2.1, HWR.out.2.2.2]
          rfl
end Go.Proofs.Ytjkjiabfhhnngaa
