import Derived.Test.YtjkjiabfhhnngaaRef04d
import Derived.Test.YtjkjiabfhhnngaaFlash11
/-! The document's device: rot. -/
namespace Go.Proofs.Ytjkjiabfhhnngaa
open Go.RowKit Sg
set_option linter.unusedSimpArgs false
set_option linter.unusedVariables false

/-- []byte(s): the new bytes stand in a block of their own, which may be written -/
theorem run_of_string_new {P : Program} (w : World) (src dst e : TypeId) (s : ByteArray) (hs : P.underlying src = some .string) (hd : P.underlying dst = some (.slice e)) (he : P.underlying e = some (.int .u8)) (hn : s.size ≤ 140737488355328) :
    ∃ cap w', Sem.run P (convert src dst (.string s)) w = .ok (.slice (some ⟨w.heap.size, 0, none⟩) s.size cap) w' ∧ Bytes w' (.slice (some ⟨w.heap.size, 0, none⟩) s.size cap) s.data.toList ∧ Keep [] w w' ∧ ∃ cs fr, w'.heap[w.heap.size]? = some (.cells cs e fr) ∧ ∀ j, j < s.size → w'.frozen? ⟨w.heap.size, j, none⟩ = false := by
  have h1 := grownCap_ge w s.size 0 e
  have h2 := grownCap_le_maxLen w s.size 0 e (show s.size ≤ 9223372036854775807 by omega)
  refine ⟨_, _, run_bytes_of_string w src dst e s hs hd he, ?_, ((Keep.refl [] w).drew).alloc _, _, _, World.alloc_heap_new w.drew _, fun j hj => ?_⟩
  · generalize grownCap w s.size 0 e = c at h1 h2 ⊢
    have hl : s.data.toList.length = s.size := by rw [Array.length_toList]; rfl
    have hb := Bytes.row (w := w.drew.alloc (.cells (bytesRow s c) e ((bytesRow s c).size, (bytesRow s c).size + 1))) (g := w.heap.size) (l := s.data.toList) (cap := c) (World.alloc_heap_new w.drew _) (by
      intro i hi
      have hi' : i < s.data.size := by simpa using hi
      unfold bytesRow
      rw [Array.getElem?_append_left (by simpa using hi')]
      simp [u8v]
      exact ⟨s.data[i], Array.getElem?_eq_getElem hi', rfl⟩) (by omega) ⟨h2, by omega⟩
    rw [hl] at hb
    exact hb
  · have hg := World.alloc_heap_new w.drew (.cells (bytesRow s (grownCap w s.size 0 e)) e ((bytesRow s (grownCap w s.size 0 e)).size, (bytesRow s (grownCap w s.size 0 e)).size + 1))
    have hg' : (w.drew.alloc (.cells (bytesRow s (grownCap w s.size 0 e)) e ((bytesRow s (grownCap w s.size 0 e)).size, (bytesRow s (grownCap w s.size 0 e)).size + 1))).heap[w.heap.size]? = _ := hg
    unfold World.frozen?
    rw [hg']
    have : j < (bytesRow s (grownCap w s.size 0 e)).size := by
      unfold bytesRow
      rw [Array.size_append, Array.size_map]
      exact Nat.lt_of_lt_of_le hj (Nat.le_add_right _ _)
    simp
    omega
theorem heap_setCell_fr {w : World} {b i : Nat} {cs : Array Value} {T : TypeId} {fr : Nat × Nat} (hb : w.heap[b]? = some (.cells cs T fr)) (v : Value) :
    (w.setCell ⟨b, i, none⟩ v).heap[b]? = some (.cells (cs.setIfInBounds i v) T fr) := by
  simp [World.setCell, Array.getElem?_modify, hb]
theorem bytes_cellAt {w : World} {g n cap : Nat} {l : List UInt8} (h : Bytes w (.slice (some ⟨g, 0, none⟩) n cap) l) {j : Nat} (hj : j < l.length) : w.cell? ⟨g, j, none⟩ = some (.int .u8 (l[j].toNat : Int)) := by
  obtain ⟨ao, cap', e, h1, h2, h3, h4⟩ := h
  cases e
  have h5 := h4 _ rfl j hj
  rw [Addr.add_lit, Nat.zero_add] at h5
  exact h5
/-- a byte of a block is stored anew -/
theorem bytes_setBlk {w : World} {g n cap : Nat} {l : List UInt8} (h : Bytes w (.slice (some ⟨g, 0, none⟩) n cap) l) {cs : Array Value} {t : TypeId} {fr : Nat × Nat} (hg : w.heap[g]? = some (.cells cs t fr)) {j : Nat} (hj : j < l.length) (x : UInt8) :
    Bytes (w.setCell ⟨g, j, none⟩ (u8v x)) (.slice (some ⟨g, 0, none⟩) n cap) (l.set j x) := by
  obtain ⟨ao, cap', e, h1, h2, h3, h4⟩ := h
  cases e
  have hcs : ∀ i (hi : i < l.length), cs[i]? = some (u8v l[i]) := by
    intro i hi
    have h5 := h4 _ rfl i hi
    rw [Addr.add_lit, Nat.zero_add, cell_of_row _ _ _ _ _ _ hg] at h5
    rcases hcc : cs[i]? with _ | u
    · rw [hcc] at h5; cases h5
    · rw [hcc] at h5
      exact h5
  have hn : l.length = (l.set j x).length := by simp
  rw [show (Value.slice (some ⟨g, 0, none⟩) l.length cap) = .slice (some ⟨g, 0, none⟩) (l.set j x).length cap by rw [← hn]]
  refine Bytes.row (heap_setCell_fr hg _) (fun i hi => ?_) (by rw [← hn]; exact h1) (by rw [← hn]; exact h2)
  have hi' : i < l.length := by rw [hn]; exact hi
  rw [List.getElem_set, Array.getElem?_setIfInBounds]
  split
  · next e => subst e; rw [if_pos (by have := hcs j hj; exact (Array.getElem?_eq_some_iff.1 this).1)]
  · next e => exact hcs i hi'

set_option maxRecDepth 100000 in
set_option maxHeartbeats 1000000 in
set_option maxHeartbeats 8000000 in
theorem refRot4_any (m : Dev) (hwf : m.Wf) (hacts : m.acts ≤ 100000) (fv lv pv : Value) (w : World) (P : Nat → Prop) (HP : Hid (∀ b, w.heap.size ≤ b → P b)) (hv : RDV P w fv lv pv m) (at_ b : Int) (mask : UInt8) :
    Calls Try.prog 27 #[.agg (d4cells m fv lv pv), .int .i64 at_, .int .i64 b, .int .u8 (mask.toNat : Int)] w fun e w' => ∃ fv' lv' pv', e = .returned (.tuple #[.agg (d4cells (m.rot at_ b mask).1 fv' lv' pv'), .int .i64 ((m.rot at_ b mask).2 : Int)]) ∧ RDV P w' fv' lv' pv' (m.rot at_ b mask).1 ∧ Keep [] w w' := by
  have hll := hwf.ll
  have hn1 := hwf.n1
  have hn2 := hwf.n2
  have hfl := hwf.fl
  have har := hwf.ar
  have hsz := hwf.s2
  obtain ⟨fa, fc, rfl⟩ := hv.fast.form
  obtain ⟨la, lc, rfl⟩ := hv.loose.form
  obtain ⟨vs, hpr, hvl, hvp⟩ := hv.past
  obtain ⟨pa, pc, rfl⟩ := hpr.form
  obtain ⟨N, hN⟩ : ∃ N, m.fast.length = N := ⟨_, rfl⟩
  obtain ⟨L, hL⟩ : ∃ L, m.loose.length = L := ⟨_, rfl⟩
  obtain ⟨PN, hPN⟩ : ∃ PN, vs.length = PN := ⟨_, rfl⟩
  have hmn : m.n = N := by rw [← hfl, hN]
  have HV := Lib.hid (And.intro hv (And.intro hN (And.intro hL (And.intro hmn (And.intro hPN (And.intro hpr (And.intro hvl hvp)))))))
  have hLb : L ≤ 100000 := by omega
  have hNb : N ≤ 16384 := by omega
  have hN1 : 1 ≤ N := by omega
  obtain ⟨B, hB⟩ : ∃ B, w.heap.size = B := ⟨_, rfl⟩
  have HB := Lib.hid hB
  have hA0 : ((w.alloc (.cells (d4cells m (.slice fa N fc) (.slice la L lc) (.slice pa PN pc)) 33)).alloc (.cells z4cells 33)).heap[B]? = some (.cells (d4cells m (.slice fa N fc) (.slice la L lc) (.slice pa PN pc)) 33 (0, 0)) := by
    rw [← hB]
    exact ((Keep.refl [] _).alloc _).blk (by simp) (heap_alloc_new w _)
  have hR0 : ((w.alloc (.cells (d4cells m (.slice fa N fc) (.slice la L lc) (.slice pa PN pc)) 33)).alloc (.cells z4cells 33)).heap[B + 1]? = some (.cells z4cells 33 (0, 0)) := by
    rw [← hB]
    exact heap_alloc2_new w _ _
  have hK0 : Keep [] w ((w.alloc (.cells (d4cells m (.slice fa N fc) (.slice la L lc) (.slice pa PN pc)) 33)).alloc (.cells z4cells 33)) := ((Keep.refl [] w).alloc _).alloc _
  rw [hN, hL, hPN]
  simp only [d4cells, z4cells] at hA0 hR0 hK0 ⊢
  have HWF := Lib.hid hwf
  clear hv hpr hvl hvp hN hL hmn hPN hfl hll hn1 hn2
  have cT := fun w' => there4_any m.sz N fc m.armed m.acts fa (.slice la L lc) (.slice pa PN pc) m.down hNb at_ w'
  have HK0 := Lib.hid (And.intro hK0 (And.intro hA0 hR0))
  clear hA0 hR0 hK0 hB
  go_enter Try.func27, Try.ntmps27
  go_wp2_with fail
  refine (cT _).mono ?_
  clear cT
  rintro e w2 ⟨rfl, k2⟩
  have hA2 := k2.blk (by simp) HK0.out.2.1
  have hR2 := k2.blk (by simp) HK0.out.2.2
  have HK2 := Lib.hid (HK0.out.1.trans k2)
  have hwB : w.heap.size = B := HB.out
  rw [hwB]
  have c0 := cell_of_row w2 _ 0 _ _ _ hA2
  have c1 := cell_of_row w2 _ 1 _ _ _ hA2
  have c2 := cell_of_row w2 _ 2 _ _ _ hA2
  have c3 := cell_of_row w2 _ 3 _ _ _ hA2
  have c4 := cell_of_row w2 _ 4 _ _ _ hA2
  have c5 := cell_of_row w2 _ 5 _ _ _ hA2
  have c6 := cell_of_row w2 _ 6 _ _ _ hA2
  simp at c0 c1 c2 c3 c4 c5 c6
  have HR2 := Lib.hid hR2
  have HA2 := Lib.hid hA2
  clear k2 hA2 hR2 hwB
  by_cases hr : (0 ≤ at_ ∧ at_ < (N : Int)) ∧ 0 ≤ b ∧ b < (m.sz : Int)
  case neg =>
    have e : m.rot at_ b mask = (m, 2) := by
      unfold Dev.rot
      rw [if_neg (by rw [HV.out.2.2.2.1]; exact hr)]
    have hret : ∃ fv' lv' pv', (Ending.returned (.tuple #[.agg #[.int .i64 (m.sz : Int), .slice fa N fc, .slice la L lc, .slice pa PN pc, .int .i64 (m.armed : Int), .int .i64 (m.acts : Int), .bool m.down], .int .i64 2])) = .returned (.tuple #[.agg (d4cells (m.rot at_ b mask).1 fv' lv' pv'), .int .i64 ((m.rot at_ b mask).2 : Int)]) ∧ RDV P (w2.setRow (B + 1) #[.int .i64 (m.sz : Int), .slice fa N fc, .slice la L lc, .slice pa PN pc, .int .i64 (m.armed : Int), .int .i64 (m.acts : Int), .bool m.down]) fv' lv' pv' (m.rot at_ b mask).1 ∧ Keep [] w (w2.setRow (B + 1) #[.int .i64 (m.sz : Int), .slice fa N fc, .slice la L lc, .slice pa PN pc, .int .i64 (m.armed : Int), .int .i64 (m.acts : Int), .bool m.down]) := by
      have hk := (HK2.out).setRow (g := B + 1) (.inr (by rw [HB.out]; omega)) #[.int .i64 (m.sz : Int), .slice fa N fc, .slice la L lc, .slice pa PN pc, .int .i64 (m.armed : Int), .int .i64 (m.acts : Int), .bool m.down]
      have h := HV.out.1.keep hk
      rw [HV.out.2.1, HV.out.2.2.1, HV.out.2.2.2.2.1] at h
      rw [e]
      exact ⟨_, _, _, rfl, h, hk⟩
    have HRET := Lib.hid hret
    clear e hret
    by_cases h1 : 0 ≤ at_ ∧ at_ < (N : Int)
    · rw [decide_eq_true h1]
      by_cases h2 : b < 0
      · clear hr h1
        go_wp2_with (refine wpList_store_row rfl 33 (.tmp 8) (.tmp 25) rfl (B + 1) #[.int .i64 (m.sz : Int), .slice fa N fc, .slice la L lc, .slice pa PN pc, .int .i64 (m.armed : Int), .int .i64 (m.acts : Int), .bool m.down] rfl rfl 33 _ HR2.out (by kernel_rfl) (by rfl) (by kernel_rfl) ?_)
        refine bodyPost_ret (results_cell_tmp_row rfl _ _ (B + 1) 33 _ _ _ rfl (setRow_heap _ _ _ _ _ _ HR2.out) Try.underlying33 rfl (by kernel_rfl)) rfl ?_
        exact HRET.out
      · have h3 : (m.sz : Int) ≤ b := by omega
        clear hr h1
        go_wp2_with (refine wpList_store_row rfl 33 (.tmp 8) (.tmp 25) rfl (B + 1) #[.int .i64 (m.sz : Int), .slice fa N fc, .slice la L lc, .slice pa PN pc, .int .i64 (m.armed : Int), .int .i64 (m.acts : Int), .bool m.down] rfl rfl 33 _ HR2.out (by kernel_rfl) (by rfl) (by kernel_rfl) ?_)
        refine bodyPost_ret (results_cell_tmp_row rfl _ _ (B + 1) 33 _ _ _ rfl (setRow_heap _ _ _ _ _ _ HR2.out) Try.underlying33 rfl (by kernel_rfl)) rfl ?_
        exact HRET.out
    · rw [decide_eq_false h1]
      clear hr h1
      go_wp2_with (refine wpList_store_row rfl 33 (.tmp 8) (.tmp 25) rfl (B + 1) #[.int .i64 (m.sz : Int), .slice fa N fc, .slice la L lc, .slice pa PN pc, .int .i64 (m.armed : Int), .int .i64 (m.acts : Int), .bool m.down] rfl rfl 33 _ HR2.out (by kernel_rfl) (by rfl) (by kernel_rfl) ?_)
      refine bodyPost_ret (results_cell_tmp_row rfl _ _ (B + 1) 33 _ _ _ rfl (setRow_heap _ _ _ _ _ _ HR2.out) Try.underlying33 rfl (by kernel_rfl)) rfl ?_
      exact HRET.out
  case pos =>
    obtain ⟨k, rfl⟩ : ∃ k : Nat, at_ = (k : Int) := ⟨at_.toNat, by omega⟩
    obtain ⟨j, rfl⟩ : ∃ j : Nat, b = (j : Int) := ⟨b.toNat, by omega⟩
    have e : m.rot (k : Int) (j : Int) mask = ({ m with fast := m.fast.modify k (fun l => l.modify j (· ^^^ mask)) }, 0) := by
      unfold Dev.rot
      rw [if_pos (by rw [HV.out.2.2.2.1]; exact hr)]
      rfl
    rw [decide_eq_true hr.1]
    have hkN : k < N := by omega
    have hki : (k : Int) < (N : Int) := by omega
    have hjs : j < m.sz := by omega
    have hji : (j : Int) < (m.sz : Int) := by omega
    have hjn : ¬ (m.sz : Int) ≤ (j : Int) := by omega
    have HE := Lib.hid e
    clear hr e
    have hkf : k < m.fast.length := by rw [HV.out.2.1]; exact hkN
    have hlen := HWF.out.fs k hkf
    obtain ⟨gf, rfl, -, hcf⟩ := RowE.cells s4lies (HV.out.1.fast.keep HK2.out (by simp)) (i := k) hkf
    have y0 := hcf 0 _ rfl
    simp only [Nat.mul_one, Nat.add_zero] at y0
    obtain ⟨sv, hsv⟩ : ∃ sv, m.fast[k] = sv := ⟨_, rfl⟩
    rw [hsv] at y0 hlen
    obtain ⟨SV, hSV⟩ : ∃ SV : ByteArray, ⟨sv.toArray⟩ = SV := ⟨_, rfl⟩
    rw [hSV] at y0
    have hSVz : SV.size = m.sz := by rw [← hSV, ← hlen]; show sv.toArray.size = _; rw [List.size_toArray]
    have hSVl : SV.data.toList = sv := by rw [← hSV]
    obtain ⟨c5', w3, hrun, hb3, hk3, cs3, fr3, hg3, hf3⟩ := run_of_string_new (P := Try.prog) w2 9 42 5 SV Try.underlying9 Try.underlying42 Try.underlying5 (by omega)
    rw [hSVl] at hb3
    rw [hSVz] at hrun hb3 hf3
    have hfr3 := hf3 j hjs
    obtain ⟨x, hx⟩ : ∃ x, sv[j]'(by omega) = x := ⟨_, rfl⟩
    have hcell : w3.cell? ⟨w2.heap.size, j, none⟩ = some (.int .u8 (x.toNat : Int)) := by
      rw [bytes_cellAt hb3 (j := j) (by omega), hx]
    have hxor := u8_xor_nat x.toNat mask.toNat x.toNat_lt mask.toNat_lt
    have hset := bytes_setBlk hb3 hg3 (j := j) (by omega) (x ^^^ mask)
    unfold u8v at hset
    rw [UInt8.toNat_xor] at hset
    have hk23 : Keep [] w2 (w3.setCell ⟨w2.heap.size, j, none⟩ (.int .u8 ((x.toNat ^^^ mask.toNat : Nat) : Int))) := hk3.setCell (.inr (Nat.le_refl _)) _
    have hmod : m.fast.modify k (fun l => l.modify j (· ^^^ mask)) = m.fast.set k (sv.set j (x ^^^ mask)) := by
      rw [modify_set _ _ _ hkf, hsv, modify_set _ _ _ (show j < sv.length by omega), hx]
    have H3 := Lib.hid (And.intro hset (And.intro hk23 hmod))
    clear hmod hcf hb3 hg3 hf3 hset hk23 hSV hSVl hsv hk3 hx hkf hlen
    go_upto_region 5 with fail
    clear hrun hcell hfr3 y0 hxor c0 c1 c2 c3 c4 c5 c6 hSVz
    generalize w3.setCell ⟨w2.heap.size, j, none⟩ (.int .u8 ((x.toNat ^^^ mask.toNat : Nat) : Int)) = w4 at *
    have hA4 := H3.out.2.1.blk (by simp) HA2.out
    have hR4 := H3.out.2.1.blk (by simp) HR2.out
    have hK4 := HK2.out.trans H3.out.2.1
    have hBw : B + 2 ≤ w4.heap.size := by have := (Array.getElem?_eq_some_iff.1 hR4).1; omega
    have kA5 := (Keep.refl [] w4).alloc (.cells #[] 9)
    have lit5 : SRow4 (w4.alloc (.cells #[] 9)) w4.heap.size (.slice (some ⟨w4.heap.size, 0, none⟩) 0 0) [] := row_lit (enc := s4enc) (k := 1) (t := 9) w4 [] (by simp) rfl
    have fo5 := HV.out.1.fast.keep (hK4.trans kA5) (by simp)
    rw [HV.out.2.1] at fo5
    obtain ⟨v6, w6, hrun6, ho6, hk6, hl6⟩ := run_append_row (P := Try.prog) (ty := 29) s4lies Try.underlying29 s4_info rfl (by decide) (by decide) w4.heap.size lit5 fo5 (by simp; rw [HV.out.2.1]; omega) kA5.size
    rw [List.nil_append] at ho6
    obtain ⟨a6, c6', rfl⟩ := ho6.form
    rw [HV.out.2.1] at hrun6 ho6
    obtain ⟨g6, rfl, hg6, -⟩ := RowE.cells s4lies ho6 (i := 0) (by rw [HV.out.2.1]; omega)
    have k46 : Keep [] w4 w6 := kA5.trans' hk6 (fun b hb => .inr (by simp [Value.ownBlock] at hb; omega))
    have e5 := cell_of_row _ _ 1 _ _ _ (kA5.blk (by simp) hA4)
    have e6 := cell_of_row _ _ 1 _ _ _ (k46.blk (by simp) hA4)
    have f6 := frozen_of_row w6 B 1 _ _ (k46.blk (by simp) hA4)
    simp at e5 e6
    have HR6 := Lib.hid hrun6
    have H6 := Lib.hid (And.intro ho6 (And.intro k46 hg6))
    have H4 := Lib.hid (And.intro hA4 (And.intro hR4 hK4))
    clear hrun6 ho6 hk6 hl6 k46 kA5 lit5 fo5 hA4 hR4 hK4 hg6
    go_upto_region 6 with (at_builtin; refine wpList_append_run rfl (.tmp 39) (.tmp 41) 29 rfl (w' := w6) rfl rfl HR6.out ?_)
    clear e5 e6 f6 HR6
    have hA7 := heap_setCell_same w6 B 1 _ _ (.slice (some ⟨g6, 0, none⟩) N c6') (H6.out.2.1.blk (by simp) H4.out.1)
    simp only [List.setIfInBounds_toArray, List.set_cons_zero, List.set_cons_succ] at hA7
    have k67 : Keep [B] w6 (w6.setCell ⟨B, 1, none⟩ (.slice (some ⟨g6, 0, none⟩) N c6')) := (Keep.refl _ _).setCell (.inl (by simp)) _
    have hR7 := k67.blk (by simp) (H6.out.2.1.blk (by simp) H4.out.2.1)
    have hK7 : Keep [] w (w6.setCell ⟨B, 1, none⟩ (.slice (some ⟨g6, 0, none⟩) N c6')) := (H4.out.2.2.trans H6.out.2.1).trans' k67 (fun b hb => .inr (by have := HB.out; simp at hb; omega))
    have ho7 := H6.out.1.keep k67 (fun b hb hm => by have := (H6.out.1.lt b hb).1; simp at hm; omega)
    have hs7 : (w6.setCell ⟨B, 1, none⟩ (.slice (some ⟨g6, 0, none⟩) N c6')).heap.size = w6.heap.size := World.size_setCell _ _ _
    have hby7 := (H3.out.1.keep H6.out.2.1 (by simp)).keep k67 (fun b hb hm => by
      have h1 := HK2.out.size
      simp [Value.ownBlock] at hb
      simp at hm
      have h2 := HB.out
      have h3 := (Array.getElem?_eq_some_iff.1 HR2.out).1
      omega)
    generalize w6.setCell ⟨B, 1, none⟩ (.slice (some ⟨g6, 0, none⟩) N c6') = w7 at *
    have hg6lt := (ho7.lt g6 rfl).2.1
    have hg6B : B + 2 ≤ g6 := by have := H6.out.2.2; omega
    have c0 := cell_of_row w7 _ 0 _ _ _ hA7
    have c1 := cell_of_row w7 _ 1 _ _ _ hA7
    have c2 := cell_of_row w7 _ 2 _ _ _ hA7
    have c3 := cell_of_row w7 _ 3 _ _ _ hA7
    have c4 := cell_of_row w7 _ 4 _ _ _ hA7
    have c5 := cell_of_row w7 _ 5 _ _ _ hA7
    have c6 := cell_of_row w7 _ 6 _ _ _ hA7
    simp at c0 c1 c2 c3 c4 c5 c6
    have q7 := run_str (P := Try.prog) 42 9 5 Try.underlying42 Try.underlying5 Try.underlying9 hby7
    obtain ⟨RS, hRS⟩ : ∃ RS : ByteArray, ⟨(sv.set j (x ^^^ mask)).toArray⟩ = RS := ⟨_, rfl⟩
    rw [hRS] at q7
    have z0 : ∃ u, w7.cell? ⟨g6, k, none⟩ = some u := by
      obtain ⟨g', e', -, hc⟩ := RowE.cells s4lies ho7 (i := k) (by rw [HV.out.2.1]; exact hkN)
      cases e'
      have h := hc 0 _ rfl
      simp only [Nat.mul_one, Nat.add_zero] at h
      exact ⟨_, h⟩
    obtain ⟨u0, z0⟩ := z0
    have zf : w7.frozen? ⟨g6, k, none⟩ = false := by
      obtain ⟨-, hcs⟩ := ho7
      rcases hcs with ⟨e1, -⟩ | ⟨g', cap, cur, e1, -, hg, -⟩
      · cases e1
      · cases e1
        exact frozen_of_row _ _ _ _ _ hg
    have hset7 := row_set1 s4lies ho7 (j := k) (by rw [HV.out.2.1]; exact hkN) (x := sv.set j (x ^^^ mask)) (u := .string RS) (by rw [← hRS]; rfl)
    have H7 := Lib.hid (And.intro hA7 (And.intro hR7 (And.intro hK7 (And.intro hRS hset7))))
    clear hA7 hR7 hK7 ho7 k67 hs7 hby7 hRS hset7
    go_upto_region 7 with fail
    clear c0 c1 c2 c3 c4 c5 c6 q7 z0 zf
    have kE : Keep [g6] w7 (w7.setCell ⟨g6, k, none⟩ (.string RS)) := (Keep.refl _ _).setCell (.inl (by simp)) _
    have hA8 := kE.blk (by simp; omega) H7.out.1
    have hR8 := kE.blk (by simp; omega) H7.out.2.1
    have hK8 : Keep [] w (w7.setCell ⟨g6, k, none⟩ (.string RS)) := H7.out.2.2.1.trans' kE (fun b hb => .inr (by have := HB.out; simp at hb; omega))
    have ho8 := H7.out.2.2.2.2
    rw [← H3.out.2.2] at ho8
    clear kE
    generalize w7.setCell ⟨g6, k, none⟩ (.string RS) = w8 at *
    have c0 := cell_of_row w8 _ 0 _ _ _ hA8
    have c1 := cell_of_row w8 _ 1 _ _ _ hA8
    have c2 := cell_of_row w8 _ 2 _ _ _ hA8
    have c3 := cell_of_row w8 _ 3 _ _ _ hA8
    have c4 := cell_of_row w8 _ 4 _ _ _ hA8
    have c5 := cell_of_row w8 _ 5 _ _ _ hA8
    have c6 := cell_of_row w8 _ 6 _ _ _ hA8
    simp at c0 c1 c2 c3 c4 c5 c6
    have HR8 := Lib.hid hR8
    have H8 := Lib.hid (And.intro hK8 ho8)
    clear hA8 hR8 hK8 ho8
    go_wp2_with (refine wpList_store_row rfl 33 (.tmp 8) (.tmp 50) rfl (B + 1) #[.int .i64 (m.sz : Int), .slice (some ⟨g6, 0, none⟩) N c6', .slice la L lc, .slice pa PN pc, .int .i64 (m.armed : Int), .int .i64 (m.acts : Int), .bool m.down] rfl rfl 33 _ HR8.out (by kernel_rfl) (by rfl) (by kernel_rfl) ?_)
    refine bodyPost_ret (results_cell_tmp_row rfl _ _ (B + 1) 33 _ _ _ rfl (setRow_heap _ _ _ _ _ _ HR8.out) Try.underlying33 rfl (by kernel_rfl)) rfl ?_
    have k10 : Keep [B + 1] w8 (w8.setRow (B + 1) #[.int .i64 (m.sz : Int), .slice (some ⟨g6, 0, none⟩) N c6', .slice la L lc, .slice pa PN pc, .int .i64 (m.armed : Int), .int .i64 (m.acts : Int), .bool m.down]) := (Keep.refl _ _).setRow (.inl (by simp)) _
    have hk10 := H8.out.1.trans' k10 (fun b hb => .inr (by have := HB.out; simp at hb; omega))
    have ho10 := H8.out.2.keep k10 (fun b hb hm => by simp [Value.ownBlock] at hb; simp at hm; omega)
    have h := HV.out.1.keep hk10
    rw [HV.out.2.2.1, HV.out.2.2.2.2.1] at h
    rw [HE.out]
    exact ⟨.slice (some ⟨g6, 0, none⟩) N c6', .slice la L lc, .slice pa PN pc, rfl, ⟨ho10.lower (Nat.zero_le _), h.loose, h.past, fun b hb => HP.out b (by have h1 := (ho10.lt b hb).1; have h2 := HB.out; omega), h.lP, h.pP⟩, hk10⟩
end Go.Proofs.Ytjkjiabfhhnngaa
