import Derived.Test.YtjkjiabfhhnngaaFlash13
/-! The calls that write to a device, once more: bytes that were there stay as they are. -/
namespace Go.Proofs.Ytjkjiabfhhnngaa
open Go.RowKit Sg
set_option linter.unusedSimpArgs false
set_option linter.unusedVariables false

/-- bytes that were there stay -/
def U8 (w w' : World) : Prop := ∀ (b : Nat) cs fr, w.heap[b]? = some (.cells cs 5 fr) → w'.heap[b]? = some (.cells cs 5 fr)
theorem U8.refl (w : World) : U8 w w := fun _ _ _ h => h
theorem U8.trans {a b c : World} (h : U8 a b) (k : U8 b c) : U8 a c := fun g cs fr hg => k g cs fr (h g cs fr hg)
theorem U8.of {S : List Nat} {w w' : World} (k : Keep S w w') (hN : NotT w 5 S) : U8 w w' := fun b cs fr hb => k.blk (fun hm => by
  obtain ⟨o, ho, hne⟩ := hN b hm
  rw [hb] at ho
  cases ho
  exact hne cs fr rfl) hb
structure KeepU (D : List Nat) (w w' : World) : Prop extends Keep D w w' where
  u8 : U8 w w'
theorem KeepU.refl (D : List Nat) (w : World) : KeepU D w w := ⟨Keep.refl _ _, U8.refl _⟩
theorem KeepU.trans {D : List Nat} {a b c : World} (h : KeepU D a b) (k : KeepU D b c) : KeepU D a c := ⟨h.toKeep.trans k.toKeep, h.u8.trans k.u8⟩
theorem KeepU.of {S D : List Nat} {w w' : World} (k : Keep S w w') (hS : ∀ b ∈ S, b ∈ D) (hN : NotT w 5 S) : KeepU D w w' := ⟨k.mono hS, U8.of k hN⟩
theorem KeepU.bump {S D : List Nat} {w w1 w2 : World} (h : KeepU D w w1) (k : Keep S w1 w2) (hS : ∀ b ∈ S, b ∈ D ∨ w.heap.size ≤ b) (hN : NotT w1 5 S) : KeepU D w w2 := ⟨keep_bump h.toKeep k hS, h.u8.trans (U8.of k hN)⟩
theorem notT_append {w : World} {t : TypeId} {S T : List Nat} (h : NotT w t S) (k : NotT w t T) : NotT w t (S ++ T) := fun b hb => (List.mem_append.1 hb).elim (h b) (k b)

set_option maxRecDepth 100000 in
set_option maxHeartbeats 1000000 in
set_option maxHeartbeats 4000000 in
theorem writeB_go (w : World) (D : List Nat) (g : Nat) (m : Dev) (h : DV w D g m) (hacts : m.acts ≤ 1000000000) (k : Nat) (hk : k < m.n) (hdown : m.down = false) (v : Value) (l : List UInt8) (hv : Bytes w v l) (hl : l.length = m.sz) :
    Calls Try.prog 29 #[.pointer (some ⟨g, 0, none⟩), .int .i64 (k : Int), v] w fun e w' => e = .returned (.int .i64 (if m.act.down = true then 4 else 0)) ∧ ∃ D', DV w' D' g (m.write k l) ∧ Grew w D D' ∧ KeepU D w w' := by
  obtain ⟨hw, fm, pm, lv, fv, pv, h⟩ := h
  obtain ⟨ao, cap, rfl, hlc, hm, hcap⟩ := hv.form
  have hready := ready_any w g m fm pm _ h.row (k : Int)
  have hr0 : m.ready (k : Int) = 0 := by simp [Dev.ready, hdown]; omega
  rw [hr0] at hready
  have hact := act_any w g m fm pm _ h.row hacts hw.ar
  obtain ⟨dn, hdn⟩ : ∃ dn, m.act.down = dn := ⟨_, rfl⟩
  rw [hdn] at hact ⊢
  clear hdn
  have c1 := h.rowD.c1
  have s1 := hw.s1
  have s2 := hw.s2
  have hlne : l ≠ [] := by intro e; rw [e] at hl; simp at hl; omega
  obtain ⟨la, lc, rfl⟩ := h.loose.form
  have hnu := hv.ne_row hlne h.row (dev_nu m fm pm _ (by intro n h; cases h))
  rw [hl]
  rw [hl] at hv hnu
  go_enter Try.func29, Try.ntmps29
  go_wp2_with fail
  refine hready.mono ?_
  rintro e w1 ⟨rfl, rfl⟩
  go_wp2_with fail
  refine hact.mono ?_
  rintro e w2 ⟨rfl, hr2, hk2, hs2⟩
  have hv2 : Bytes w2 (.slice ao m.sz cap) l := hv.keep hk2 (by intro b hb hm; rw [List.mem_singleton] at hm; subst hm; exact hnu hb)
  have h2 : DevAt w2 D g m.act fm pm (.slice la m.loose.length lc) fv pv := h.turn2 hk2 (CellsOf.one h.row (by decide)) hr2 rfl rfl rfl rfl (h.loose.move hk2 (NotT.row h.row (by decide)) (NotT.row h.row (by decide)) (fun _ h => h)) (fun _ h => h) (fun b hb => by rw [hs2]; exact h.lt b hb)
  have hKD : KeepU D w w2 := KeepU.of hk2 (fun b hb => by rw [List.mem_singleton] at hb; rw [hb]; exact h.inG) (NotT.row h.row (by decide))
  have hDlt : ∀ b ∈ D, b < w.heap.size := h.lt
  clear hready hact h hv hnu c1
  go_wp2_with fail
  refine (clone_any _ l _ hv2).mono ?_
  rintro e w3 ⟨v3, rfl, ho3, hk3⟩
  obtain ⟨va, vc, rfl, -⟩ := (ho3.bytes (by omega)).form
  rw [hl]
  rw [hl] at ho3
  have hB3 := heap_alloc_new w3 (.cells #[.int .i64 (k : Int), .slice va m.sz vc] 177)
  have hA3 := (Keep.refl [] w3).alloc (.cells #[.int .i64 (k : Int), .slice va m.sz vc] 177)
  have hk23 := hk3.trans hA3
  clear hv2
  obtain ⟨vs, hL1, hL2, hL3⟩ : LooseV w2 D (.slice la m.loose.length lc) m.loose := h2.loose
  have hll : m.loose.length ≤ 1000000000 := Nat.le_trans hw.ll hacts
  have hS2 : CellsOf w2 (Value.slice la m.loose.length lc).ownBlock.toList [173, 177] := CellsOf.own hL1 (by decide)
  have hgS : g ∉ (Value.slice la m.loose.length lc).ownBlock.toList := fun hb => by
    rw [Option.mem_toList] at hb
    obtain ⟨cs, h3⟩ := ownsRow_block hL1 hb
    have := h2.row
    rw [h3] at this
    cases this
  have hBS : w3.heap.size ∉ (Value.slice la m.loose.length lc).ownBlock.toList := fun hb => by
    rw [Option.mem_toList] at hb
    have := ownsRow_lt hL1 hb
    have := hk3.size
    omega
  go_wp2_with fail
  refine wp_region_his (Value.slice la m.loose.length lc).ownBlock.toList [6, 7, 10] (fun _ => 0) (by kernel_rfl) (by kernel_rfl) ?_
  intro w5 hk5 hh
  clear hh
  have hk25 : Keep [] w2 w5 := hk23.trans hk5
  have hB5 := hk5.blk (by simp) hB3
  have hr5 : RowD w5 g m.act fm pm (.slice la m.loose.length lc) := h2.rowD.keep hk25 (by simp)
  have q3 := fun w' (h' : Keep (Value.slice la m.loose.length lc).ownBlock.toList w5 w') => h'.cell (p := ⟨g, 3, none⟩) hgS hr5.c3
  have qB0 := fun w' (h' : Keep (Value.slice la m.loose.length lc).ownBlock.toList w5 w') => cell_of_row w' _ 0 _ _ _ (h'.blk hBS hB5)
  have qB1 := fun w' (h' : Keep (Value.slice la m.loose.length lc).ownBlock.toList w5 w') => cell_of_row w' _ 1 _ _ _ (h'.blk hBS hB5)
  simp at qB0 qB1
  obtain ⟨lv', w7, hrun, hL', hk7, hloc⟩ := run_append_loose (ty := 171) (ownsRow_keep hL1 (hk25.alloc (.cells #[.int .i64 (k : Int), .slice va m.sz vc] 177)) (by simp)) w5.heap.size (k : Int) (.slice va m.sz vc) (heap_alloc_new _ _) rfl hll
  obtain ⟨la', lc', rfl⟩ := ownsRow_form hL'
  have hA5 := (Keep.refl [] w5).alloc (.cells #[.int .i64 (k : Int), .slice va m.sz vc] 177)
  have hr7 : RowD w7 g m.act fm pm (.slice la m.loose.length lc) := (hr5.keep hA5 (by simp)).keep hk7 hgS
  have c3 := hr7.c3
  have f3 := hr7.free 3
  have hB7 := hk7.blk hBS (hA5.blk (by simp) hB5)
  have HR := Lib.hid hrun
  have HL' := Lib.hid hL'
  have HR7 := Lib.hid hr7
  have HB7 := Lib.hid hB7
  clear hrun hL' hr7 hB7
  (repeat (first | (refine his_q rfl rfl (fun K hK => ?_); apply Exists.intro; refine ⟨fun w' hC => ?_, ?_⟩; ((try simp [Sg.upd] at hC); go_simp <;> rfl); go_simp; refine hK _ _ ?_; clear hK K) | (refine his_s rfl (fun K hK => ?_); go_simp; refine hK _ _ ?_; clear hK K)))
  (refine his_l rfl rfl (fun K hK => ?_); go_simp)
  refine hK _ _ ((Keep.refl _ _).alloc _) ?_
  clear hK K
  refine his_l rfl rfl (fun K hK => ?_)
  refine loudly_append_run (.tmp 34) (.tmp 36) 171 rfl (v := .slice la m.loose.length lc) (src := .slice (some ⟨w5.heap.size, 0, none⟩) 1 1) (w' := w7) rfl rfl HR.out ?_
  refine hK _ _ hk7 ?_
  clear hK K
  (repeat (first | (refine his_q rfl rfl (fun K hK => ?_); apply Exists.intro; refine ⟨fun w' hC => ?_, ?_⟩; ((try simp [Sg.upd] at hC); go_simp <;> rfl); go_simp; refine hK _ _ ?_; clear hK K) | (refine his_s rfl (fun K hK => ?_); go_simp; refine hK _ _ ?_; clear hK K)))
  (refine his_last rfl (by kernel_rfl) rfl (fun K hK => ?_); go_simp)
  refine hK _ _ ?_
  clear hK K q3 qB0 qB1
  refine his_nil ?_
  have hkD : ∀ b ∈ (Value.slice la m.loose.length lc).ownBlock.toList ++ [g], b ∈ D := by
    intro b hb
    rcases List.mem_append.1 hb with h | h
    · rw [Option.mem_toList] at h
      exact hL2 b h
    · rw [List.mem_singleton] at h
      rw [h]
      exact h2.inG
  have hlo := h2.looser (k := k) (l := l) hL1 hL2 hL3 hk3 ho3 ((hA3.trans (hk5.trans hA5)).mono (by simp) |>.trans hk7) HL'.out (by
    intro b hb
    rcases hloc with h | h
    · rw [h] at hb
      exact .inl hb
    · rw [h] at hb
      injection hb with hb
      have := hk25.size
      simp at hb
      omega) HR7.out
  obtain ⟨w8, hw8⟩ : ∃ w8, w7.setCell ⟨g, 3, none⟩ (.slice la' (m.loose.length + 1) lc') = w8 := ⟨_, rfl⟩
  obtain ⟨m8, hm8⟩ : ∃ m8 : Dev, m8 = { m.act with loose := m.loose ++ [(k, l)] } := ⟨_, rfl⟩
  obtain ⟨D8, hD8⟩ : ∃ D8, D8 = D ++ newer w2 w8 := ⟨_, rfl⟩
  have h8 : DevAt w8 D8 g m8 fm pm (.slice la' (m.loose.length + 1) lc') fv pv := by rw [hm8, hD8, ← hw8]; exact hlo.1
  have hk28 : Keep ((Value.slice la m.loose.length lc).ownBlock.toList ++ [g]) w2 w8 := by rw [← hw8]; exact hlo.2.1
  have ho8 : OwnB w8 0 5 (.slice va m.sz vc) l ∧ inD D8 (.slice va m.sz vc) := by rw [hD8, ← hw8]; exact hlo.2.2
  have hK8 : KeepU D w w8 := hKD.bump hk28 (fun b hb => .inl (hkD b hb)) (notT_append (NotT.own hL1 (by decide)) (NotT.row h2.row (by decide)))
  have hB8 : w8.heap[w3.heap.size]? = some (.cells #[.int .i64 (k : Int), .slice va m.sz vc] 177 (0, 0)) := by
    rw [← hw8]
    refine (heap_setCell_other _ _ _ _ ?_).trans HB7.out
    intro e
    have h1 := h2.lt _ h2.inG
    have := hk3.size
    simp at e
    omega
  have hDD : ∀ b ∈ D, b ∈ D8 := fun b hb => by rw [hD8]; exact List.mem_append_left _ hb
  have hDD2 : ∀ b ∈ D8, b ∈ D ∨ w.heap.size ≤ b := fun b hb => by
    rw [hD8] at hb
    rcases List.mem_append.1 hb with h | h
    · exact .inl h
    · have := (mem_newer.1 h).1
      exact .inr (by omega)
  have ep : m8.past = m.past := by rw [hm8]; rfl
  have en : m8.n = m.n := by rw [hm8]; rfl
  have es : m8.sz = m.sz := by rw [hm8]; rfl
  have ew : m.write k l = { m8 with past := m8.past.modify k (· ++ [l]) } := by rw [hm8]; rfl
  rw [hw8]
  clear hlo hw8 hm8 hD8 hk25 hB5 hr5 hA5 hk7 hloc HR HL' HR7 HB7 c3 f3 hL1 hL2 hL3 hS2 hgS hBS hkD h2 hk28 hKD hB3 hA3 hk23 ho3 hr2 hk2 hk5
  have hkp : k < m8.past.length := by rw [ep, hw.pl]; exact hk
  obtain ⟨vs, hP1, hP2, hP3, hP4⟩ := (h8.pasts k hkp).open
  have hwf := hw.write hk hl
  have hpl : (m8.past[k]).length ≤ 1000000000 := by
    have := (hw.ps k (by rw [hw.pl]; exact hk)).1
    have e : m8.past[k] = m.past[k]'(by rw [hw.pl]; exact hk) := by simp [ep]
    rw [e]
    omega
  have hvl : vs.length ≤ 1000000000 := by rw [hP3.1]; exact hpl
  have hpmS : pm ∉ ((pv k).getD (.slice none 0 0)).ownBlock.toList := (CellsOf.own hP1 (ts := [42]) (by decide)).notMap h8.past
  have hgS : g ∉ ((pv k).getD (.slice none 0 0)).ownBlock.toList := fun hb => by
    rw [Option.mem_toList] at hb
    obtain ⟨cs, h3⟩ := ownsRow_block hP1 hb
    have := h8.row
    rw [h3] at this
    cases this
  have hBS : w3.heap.size ∉ ((pv k).getD (.slice none 0 0)).ownBlock.toList := fun hb => by
    rw [Option.mem_toList] at hb
    obtain ⟨cs, h3⟩ := ownsRow_block hP1 hb
    rw [hB8] at h3
    cases h3
  generalize hov : (pv k).getD (.slice none 0 0) = ov at hP1 hP2 hP4 hpmS hgS hBS
  have hov' : ∀ w', Keep ov.ownBlock.toList w8 w' → (Instr.lookup 170 (.map (some pm)) (.int .i64 (k : Int)) false).run Try.prog w' = .ok ov w' := fun w' h' => by
    rw [← hov]
    exact (h8.past.keep h' hpmS).look Try.underlying3 Try.underlying170 (zeroRows _) k (by have := hw.n2; omega)
  obtain ⟨oa, oc, rfl⟩ := ownsRow_form hP1
  go_wp2_with fail
  refine wp_region_his (Value.slice oa vs.length oc).ownBlock.toList [13, 14, 15] (fun _ => 0) (by kernel_rfl) (by kernel_rfl) ?_
  intro w9 hk9 hh
  clear hh
  have hB9 := hk9.blk (by simp) hB8
  have hr9 : RowD w9 g m8 fm pm (.slice la' (m.loose.length + 1) lc') := h8.rowD.keep hk9 (by simp)
  have q4 := fun w' (h' : Keep (Value.slice oa vs.length oc).ownBlock.toList w9 w') => h'.cell (p := ⟨g, 4, none⟩) hgS hr9.c4
  have qB1 := fun w' (h' : Keep (Value.slice oa vs.length oc).ownBlock.toList w9 w') => cell_of_row w' _ 1 _ _ _ (h'.blk hBS hB9)
  have ql := fun w' (h' : Keep (Value.slice oa vs.length oc).ownBlock.toList w9 w') => hov' w' ((hk9.mono (by simp)).trans h')
  simp at qB1
  obtain ⟨nv, w11, hrun, hP', hk11, hloc⟩ := run_append_bytesRow (ty := 56) (ownsRow_keep hP1 (hk9.alloc (.cells #[.slice va m.sz vc] 42)) (by simp)) w9.heap.size (.slice va m.sz vc) (heap_alloc_new _ _) rfl hvl
  obtain ⟨na, nc, rfl⟩ := ownsRow_form hP'
  have hA9 := (Keep.refl [] w9).alloc (.cells #[.slice va m.sz vc] 42)
  have hk8b : Keep (Value.slice oa vs.length oc).ownBlock.toList w8 w11 := ((hk9.trans hA9).mono (by simp)).trans hk11
  obtain ⟨w12, hrun2, hM, hk12, hs12⟩ := (h8.past.keep hk8b hpmS).store Try.underlying3 Try.underlying170 k (by rw [en]; exact hk) (by rw [en]; have := hw.n2; omega) (.slice na (vs.length + 1) nc)
  have HR := Lib.hid hrun
  have HR2 := Lib.hid hrun2
  clear hrun hrun2
  (repeat (first | (refine his_q rfl rfl (fun K hK => ?_); apply Exists.intro; refine ⟨fun w' hC => ?_, ?_⟩; ((try simp [Sg.upd] at hC); go_simp <;> rfl); go_simp; refine hK _ _ ?_; clear hK K) | (refine his_s rfl (fun K hK => ?_); go_simp; refine hK _ _ ?_; clear hK K)))
  (refine his_l rfl rfl (fun K hK => ?_); go_simp)
  refine hK _ _ ((Keep.refl _ _).alloc _) ?_
  clear hK K
  refine his_l rfl rfl (fun K hK => ?_)
  refine loudly_append_run (.tmp 50) (.tmp 53) 56 rfl (v := .slice oa vs.length oc) (src := .slice (some ⟨w9.heap.size, 0, none⟩) 1 1) (w' := w11) rfl rfl HR.out ?_
  refine hK _ _ hk11 ?_
  clear hK K
  refine his_last rfl (by kernel_rfl) rfl (fun K hK => ?_)
  refine loudly_mapUpdate_run (.tmp 43) (.tmp 44) (.tmp 54) 170 rfl (mv := .map (some pm)) (xv := .int .i64 (k : Int)) (yv := .slice na (vs.length + 1) nc) (w' := w12) rfl rfl rfl HR2.out ?_
  refine hK _ _ ?_
  clear hK K q4 qB1 ql
  refine his_nil ?_
  have hMp : MapV Try.prog 3 w11 pm m8.n pv := h8.past.keep hk8b hpmS
  have hkk : Keep (pm :: (Value.slice oa vs.length oc).ownBlock.toList) w8 w12 := (hk8b.mono (fun b hb => List.mem_cons_of_mem _ hb)).trans (hk12.mono (fun b hb => by rw [List.mem_singleton] at hb; rw [hb]; exact List.mem_cons_self))
  have hSx : ∀ b ∈ pm :: (Value.slice oa vs.length oc).ownBlock.toList, b = pm ∨ ∃ v, pv k = some v ∧ v.ownBlock = some b := fun b hb => by
    rcases List.mem_cons.1 hb with h | h
    · exact .inl h
    · rw [Option.mem_toList] at h
      exact .inr (hP4 b h)
  have hSD : ∀ b ∈ pm :: (Value.slice oa vs.length oc).ownBlock.toList, b ∈ D8 := fun b hb => by
    rcases List.mem_cons.1 hb with h | h
    · rw [h]; exact h8.inP
    · rw [Option.mem_toList] at h
      exact hP2 b h
  have h8S : NotT w8 5 (pm :: (Value.slice oa vs.length oc).ownBlock.toList) := fun b hb => by
    rcases List.mem_cons.1 hb with h | h
    · rw [h]
      obtain ⟨es, c, h9⟩ := h8.past.isMapBlock
      exact ⟨_, h9, fun cs fr e => by cases e⟩
    · rw [Option.mem_toList] at h
      obtain ⟨cs, h3⟩ := ownsRow_block hP1 h
      exact ⟨_, h3, fun cs fr e => by cases e⟩
  have hD12 : ∀ b ∈ D8, b ∈ D8 ++ newer w8 w12 := fun b hb => List.mem_append_left _ hb
  have hrow12 : w12.ownsRow 0 42 1 (.slice na (vs.length + 1) nc) (vs.length + 1) (vs ++ [.slice va m.sz vc]) := ownsRow_move hP' hk12 (NotT.map hMp)
  have hpv : PastV w12 (D8 ++ newer w8 w12) (some (.slice na (vs.length + 1) nc)) (m8.past[k] ++ [l]) := by
    refine ⟨vs ++ [.slice va m.sz vc], ?_, ?_, (hP3.move hkk h8S hD12).snoc (ownB_move ho8.1 hkk h8S) (inD.mono ho8.2 hD12)⟩
    · rw [List.length_append]
      exact hrow12
    · intro b hb
      rcases hloc with h | h
      · rw [h] at hb
        exact hD12 b (hP2 b hb)
      · have h1 := ownsRow_lt hrow12 hb
        rw [h] at hb
        injection hb with hb
        have h2 := hk9.size
        simp at hb
        exact List.mem_append_right _ (mem_newer.2 ⟨by omega, h1⟩)
  have hfin : DevAt w12 (D8 ++ newer w8 w12) g (m.write k l) fm pm (.slice la' (m.loose.length + 1) lc') fv (updF pv k (.slice na (vs.length + 1) nc)) :=
    h8.pastTurn (by rw [ep, en]; exact hw.pl) hkp hkk hSx hD12 (fun b hb => by
      rcases List.mem_append.1 hb with h | h
      · exact Nat.lt_of_lt_of_le (h8.lt b h) hkk.size
      · exact (mem_newer.1 h).2) hM hpv (fun b hb => by
      rcases hloc with h | h
      · rw [h] at hb
        exact .inl (hP4 b hb)
      · rw [h] at hb
        injection hb with hb
        have h2 := hk9.size
        simp at hb
        exact .inr (by omega)) ew
  have hgrew : Grew w D (D8 ++ newer w8 w12) := ⟨fun b hb => hD12 b (hDD b hb), fun b hb => by
    rcases List.mem_append.1 hb with h | h
    · exact hDD2 b h
    · have := (mem_newer.1 h).1
      have := hK8.size
      exact .inr (by omega)⟩
  have hkeep : KeepU D w w12 := hK8.bump hkk (fun b hb => hDD2 b (hSD b hb)) h8S
  have hdev : DV w12 (D8 ++ newer w8 w12) g (m.write k l) := ⟨hwf, fm, pm, _, fv, _, hfin⟩
  clear hfin hpv hrow12 hD12 h8S hSD hSx hkk hMp HR HR2 hM hk12 hk8b hk11 hloc hP' hA9 hr9 hB9 h8 hP1 hP2 hP3 hP4 hov hov' ew ep en es hB8 hK8 ho8 hpmS hgS hBS
  cases dn with
  | true =>
    go_wp2
    go_ret
    exact ⟨rfl, _, hdev, hgrew, hkeep⟩
  | false =>
    go_wp2
    go_ret
    exact ⟨rfl, _, hdev, hgrew, hkeep⟩

set_option maxRecDepth 100000 in
set_option maxHeartbeats 1000000 in
theorem writeB_any (w : World) (D : List Nat) (g : Nat) (m : Dev) (h : DV w D g m) (hacts : m.acts ≤ 1000000000) (a : Int) (v : Value) (l : List UInt8) (hv : Bytes w v l) :
    Calls Try.prog 29 #[.pointer (some ⟨g, 0, none⟩), .int .i64 a, v] w fun e w' => e = .returned (.int .i64 ((m.put a l).2 : Int)) ∧ ∃ D', DV w' D' g (m.put a l).1 ∧ Grew w D D' ∧ KeepU D w w' := by
  by_cases hr : m.ready a = 0
  · have hd : m.down = false := by
      cases hd : m.down with
      | false => rfl
      | true => simp [Dev.ready, hd] at hr
    have ha : 0 ≤ a ∧ a < m.n := by
      by_cases h0 : 0 ≤ a ∧ a < m.n
      · exact h0
      · simp only [Dev.ready, hd, if_neg h0] at hr
        cases hr
    by_cases hl : l.length = m.sz
    · obtain ⟨k, rfl⟩ : ∃ k : Nat, a = k := ⟨a.toNat, by omega⟩
      have := writeB_go w D g m h hacts k (by omega) hd v l hv hl
      refine this.mono ?_
      rintro e w' ⟨rfl, h2⟩
      have e1 : m.put (k : Int) l = (m.write k l, if m.act.down = true then 4 else 0) := by
        unfold Dev.put
        rw [if_neg (by rw [hr]; simp), if_neg (by rw [hl]; simp)]
        simp
      rw [e1]
      refine ⟨?_, h2⟩
      split <;> rfl
    · have e1 : m.put a l = (m, 3) := by
        unfold Dev.put
        rw [if_neg (by rw [hr]; simp), if_pos hl]
      rw [e1]
      obtain ⟨fm, pm, lv, hrow⟩ := h.row
      have hready := ready_any w g m fm pm lv hrow a
      rw [hr] at hready
      have c1 := hrow.c1
      obtain ⟨ao, cap, rfl, hlc, hm, hcap⟩ := hv.form
      have hne : ((l.length : Int) == (m.sz : Int)) = false := by simp; omega
      have hne2 : ((l.length : Int) != (m.sz : Int)) = true := by simp; omega
      have hne3 : ¬ ((l.length : Int) = (m.sz : Int)) := by omega
      have hne4 : ¬ (l.length = m.sz) := hl
      have H := Lib.hid h
      clear h hv hrow hr e1
      go_enter Try.func29, Try.ntmps29
      go_wp2_with fail
      refine hready.mono ?_
      rintro e w1 ⟨rfl, rfl⟩
      go_wp2
      go_ret
      exact ⟨rfl, D, H.out, Grew.refl _ _, KeepU.refl _ _⟩
  · have e1 : m.put a l = (m, m.ready a) := by
      unfold Dev.put
      rw [if_pos hr]
    rw [e1]
    obtain ⟨fm, pm, lv, hrow⟩ := h.row
    have hready := ready_any w g m fm pm lv hrow a
    have hrc : ((m.ready a : Int) == 0) = false := by simp; omega
    have hrc2 : ((m.ready a : Int) != 0) = true := by simp; omega
    have hrc3 : ¬ ((m.ready a : Int) = 0) := by omega
    obtain ⟨ao, cap, rfl, hlc, hm, hcap⟩ := hv.form
    have H := Lib.hid h
    clear h hv hrow e1 hr
    generalize m.ready a = rc at *
    go_enter Try.func29, Try.ntmps29
    go_wp2_with fail
    refine hready.mono ?_
    rintro e w1 ⟨rfl, rfl⟩
    go_wp2
    go_ret
    exact ⟨rfl, D, H.out, Grew.refl _ _, KeepU.refl _ _⟩


set_option maxRecDepth 100000 in
set_option maxHeartbeats 1000000 in
set_option maxHeartbeats 4000000 in
theorem syncB_any (w : World) (D : List Nat) (g : Nat) (m : Dev) (h : DV w D g m) (hacts : m.acts ≤ 1000000000) :
    Calls Try.prog 19 #[.pointer (some ⟨g, 0, none⟩)] w fun e w' => e = .returned (.int .i64 (m.sync.2 : Int)) ∧ ∃ D', DV w' D' g m.sync.1 ∧ Grew w D D' ∧ KeepU D w w' := by
  cases hdown : m.down with
  | true =>
    have e1 : m.sync = (m, 4) := by simp [Dev.sync, hdown]
    rw [e1]
    obtain ⟨fm, pm, lv, hrow⟩ := h.row
    have c7 := hrow.c7
    rw [hdown] at c7
    have H := Lib.hid h
    clear h hrow e1
    go_enter Try.func19, Try.ntmps19
    go_wp2
    go_ret
    exact ⟨rfl, D, H.out, Grew.refl _ _, KeepU.refl _ _⟩
  | false =>
    obtain ⟨hw, fm, pm, lv, fv, pv, h⟩ := h
    have hact := act_any w g m fm pm lv h.row hacts hw.ar
    have c7 := h.rowD.c7
    rw [hdown] at c7
    cases hdn : m.act.down with
    | true =>
      have e1 : m.sync = (m.act, 4) := by simp [Dev.sync, hdown, hdn]
      rw [e1]
      rw [hdn] at hact
      have H := Lib.hid h
      clear h e1
      go_enter Try.func19, Try.ntmps19
      go_wp2_with fail
      refine hact.mono ?_
      rintro e w2 ⟨rfl, hr2, hk2, hs2⟩
      go_wp2
      go_ret
      have h := H.out
      exact ⟨rfl, D, ⟨hw.act, fm, pm, lv, fv, pv, h.turn2 hk2 (CellsOf.one h.row (by decide)) hr2 rfl rfl rfl rfl (h.loose.move hk2 (NotT.row h.row (by decide)) (NotT.row h.row (by decide)) (fun _ h => h)) (fun _ h => h) (fun b hb => by rw [hs2]; exact h.lt b hb)⟩, Grew.refl _ _, KeepU.of hk2 (fun b hb => by rw [List.mem_singleton] at hb; rw [hb]; exact h.inG) (NotT.row h.row (by decide))⟩
    | false =>
      have e1 : m.sync = (m.synced, 0) := by simp [Dev.sync, hdown, hdn]
      rw [e1]
      rw [hdn] at hact
      obtain ⟨la, lc, rfl⟩ := h.loose.form
      have hll : m.loose.length ≤ 1000000000 := Nat.le_trans hw.ll hacts
      have H := Lib.hid h
      have HDn := Lib.hid hdn
      clear h e1 hdn
      go_enter Try.func19, Try.ntmps19
      go_wp2_with fail
      refine hact.mono ?_
      rintro e w2 ⟨rfl, hr2, hk2, hs2⟩
      have h := H.out
      have h2 : DevAt w2 D g m.act fm pm (.slice la m.loose.length lc) fv pv := h.turn2 hk2 (CellsOf.one h.row (by decide)) hr2 rfl rfl rfl rfl (h.loose.move hk2 (NotT.row h.row (by decide)) (NotT.row h.row (by decide)) (fun _ h => h)) (fun _ h => h) (fun b hb => by rw [hs2]; exact h.lt b hb)
      have hKD : KeepU D w w2 := KeepU.of hk2 (fun b hb => by rw [List.mem_singleton] at hb; rw [hb]; exact h.inG) (NotT.row h.row (by decide))
      have c3 := hr2.c3
      clear h hact c7 hr2 hk2 hs2
      go_wp2
      go_loopw [22] (fun i wr => ∃ (j : Nat) (fv' : Nat → Option Value) (D' : List Nat), j ≤ m.loose.length ∧ i = .int .i64 j ∧ Hid (DevAt wr D' g { m.act with fast := (m.loose.take j).foldl (fun f p => f.set p.1 p.2) m.fast } fm pm (.slice la m.loose.length lc) fv' pv) ∧ Hid (Grew w D D') ∧ Hid (KeepU D w wr)) (fun i _ => m.loose.length - (intOf i).toNat)
      case atStart => exact ⟨0, fv, D, by omega, rfl, h2, Grew.refl _ _, hKD⟩
      case round =>
        obtain ⟨j, fv', D', hj, rfl, HD, HG, HK⟩ := hrel
        by_cases hlt : j < m.loose.length
        · have h3 := HD.out
          obtain ⟨b, cap, v, e1, a0, a1, ho, hoD, hbD, hcap1, hcap2⟩ := LooseV.at (ls := m.loose) h3.loose j hlt
          obtain rfl : la = some ⟨b, 0, none⟩ := by injection e1
          obtain ⟨hp1, hp2⟩ := hw.ls m.loose[j] (List.getElem_mem hlt)
          have hbv := ho.bytes (by have := hw.s2; omega)
          obtain ⟨va, vc, rfl, -⟩ := hbv.form
          rw [hp2] at hbv a1
          have s2 := hw.s2
          have n2 := hw.n2
          have hA := (Keep.refl [] wr).alloc (.cells #[.int .i64 (m.loose[j].1 : Int), .slice va m.sz vc] 177)
          have hB := heap_alloc_new wr (.cells #[.int .i64 (m.loose[j].1 : Int), .slice va m.sz vc] 177)
          have HB := Lib.hid hB
          have HA := Lib.hid hA
          have HV := Lib.hid hbv
          have H3 := Lib.hid h3
          have HLT := Lib.hid hlt
          clear e1 ho hoD hB hA h3 hbv
          go_wp2_with fail
          refine wp_region_his [] [9, 10] (fun _ => 0) (by kernel_rfl) (by kernel_rfl) ?_
          intro w5 hk5 hh
          clear hh
          have hk35 : Keep [] wr w5 := HA.out.trans hk5
          have h5 := H3.out.rowD.keep hk35 (by simp)
          have hB5 := hk5.blk (by simp) HB.out
          have q2 := fun w' (h' : Keep [] w5 w') => h'.cell (p := ⟨g, 2, none⟩) (by simp) h5.c2
          have qB0 := fun w' (h' : Keep [] w5 w') => cell_of_row w' _ 0 _ _ _ (h'.blk (by simp) hB5)
          have qB1 := fun w' (h' : Keep [] w5 w') => cell_of_row w' _ 1 _ _ _ (h'.blk (by simp) hB5)
          simp at qB0 qB1
          clear h5 hB5 a0 a1
          (repeat (first | (refine his_q rfl rfl (fun K hK => ?_); apply Exists.intro; refine ⟨fun w' hC => ?_, ?_⟩; ((try simp [Sg.upd] at hC); go_simp <;> rfl); go_simp; refine hK _ _ ?_; clear hK K) | (refine his_s rfl (fun K hK => ?_); go_simp; refine hK _ _ ?_; clear hK K)))
          (refine his_l rfl rfl (fun K hK => ?_); go_simp)
          refine (clone_any _ m.loose[j].2 _ (HV.out.keep hk35 (by simp))).mono ?_
          rintro x w6 ⟨v6, rfl, ho6, hk6⟩
          refine hK _ _ hk6 ?_
          clear hK K
          have h3 := H3.out
          have hk36 := hk35.trans hk6
          obtain ⟨w7, hrun, hM, hk7, hs7⟩ := (h3.fast.keep hk36 (by simp)).store Try.underlying3 Try.underlying169 m.loose[j].1 hp1 (show m.n ≤ 1000000000 by omega) v6
          have HR := Lib.hid hrun
          clear hrun
          refine his_last rfl (by kernel_rfl) rfl (fun K hK => ?_)
          refine loudly_mapUpdate_run (.tmp 29) (.tmp 32) (.tmp 35) 169 rfl (mv := .map (some fm)) (xv := .int .i64 (m.loose[j].1 : Int)) (yv := v6) (w' := w7) rfl rfl rfl HR.out ?_
          refine hK _ _ ?_
          clear hK K q2 qB0 qB1
          refine his_nil ?_
          have hk37 : Keep [fm] wr w7 := (hk36.mono (by simp)).trans hk7
          have hm6 : MapV Try.prog 3 w6 fm m.n fv' := h3.fast.keep hk36 (by simp)
          have ho7 : OwnB w7 0 5 v6 m.loose[j].2 := ownB_move (ho6.base (Nat.zero_le _)) hk7 (NotT.map hm6)
          have hD' : ∀ b ∈ D', b ∈ D' ++ newer wr w7 := fun b hb => List.mem_append_left _ hb
          have hin : inD (D' ++ newer wr w7) v6 := fun b hb => by
            refine List.mem_append_right _ (mem_newer.2 ⟨?_, ownsRow_lt ho7 hb⟩)
            have := hk35.size
            rcases ho6.2 with ⟨rfl, -⟩ | ⟨g', cap', cur, rfl, h1, -⟩
            · simp [Value.ownBlock] at hb
            · simp [Value.ownBlock] at hb
              omega
          have hnew := h3.fastTurn (m' := { m.act with fast := (m.loose.take (j + 1)).foldl (fun f p => f.set p.1 p.2) m.fast }) hk37 hD' (fun b hb => by
            rcases List.mem_append.1 hb with h | h
            · exact Nat.lt_of_lt_of_le (h3.lt b h) hk37.size
            · exact (mem_newer.1 h).2) hM ho7 hin (by rw [looseFold_succ HLT.out]; rfl)
          have hG : Grew w D (D' ++ newer wr w7) := HG.out.trans (Grew.newer wr w7 D') HK.out.size
          have hKK : KeepU D w w7 := HK.out.bump hk37 (fun b hb => by
            rw [List.mem_singleton] at hb
            rw [hb]
            exact HG.out.2 _ h3.inF) (NotT.map h3.fast)
          clear hin hD' ho7 hm6 hk37 hM hk7 hs7 ho6 hk6 hk36 h3 hk35 hk5
          go_wp2
          go_roundw
          case rel => exact ⟨j + 1, _, _, HLT.out, by go_num, hnew, hG, hKK⟩
          case measure => have := HLT.out; simp [intOf]; omega
        · have h3 := HD.out
          have hr3 := h3.rowD
          have c3 := hr3.c3
          have f3 := hr3.free 3
          have hks : Keep [g] wr (wr.setCell ⟨g, 3, none⟩ (.slice none 0 0)) := (Keep.refl _ _).setCell (.inl (by simp)) _
          have e2 : m.loose.take j = m.loose := List.take_of_length_le (by omega)
          have hfin : DevAt (wr.setCell ⟨g, 3, none⟩ (.slice none 0 0)) D' g m.synced fm pm (.slice none 0 0) fv' pv := by
            rw [e2] at h3 hr3
            exact h3.turn2 hks (CellsOf.one h3.row (by decide)) ((hr3.set 3 (.slice none 0 0)).trans (by simp [devCells, Dev.synced])) rfl rfl rfl rfl ⟨[], World.ownsRow_nil _ _ _ _, fun b hb => by simp [Value.ownBlock] at hb, rfl, fun i v l h => by simp at h⟩ (fun _ h => h) (fun b hb => by simpa using h3.lt b hb)
          have hKK : KeepU D w (wr.setCell ⟨g, 3, none⟩ (.slice none 0 0)) := HK.out.bump hks (fun b hb => by
            rw [List.mem_singleton] at hb
            rw [hb]
            exact HG.out.2 _ h3.inG) (NotT.row h3.row (by decide))
          have HF := Lib.hid hfin
          clear h3 hr3 hfin hks e2
          go_wp2
          go_ret
          exact ⟨rfl, D', ⟨hw.synced, fm, pm, _, _, _, HF.out⟩, HG.out, hKK⟩

set_option maxRecDepth 100000 in
set_option maxHeartbeats 1000000 in
set_option maxHeartbeats 4000000 in
theorem crashB_any (w : World) (D : List Nat) (g : Nat) (m : Dev) (h : DV w D g m) (hacts : m.acts ≤ 1000000000) (v : Value) (fates : List Int) (hv : Ints w v fates) (hvD : fates ≠ [] → ∀ b, v.ownBlock = some b → b ∉ D) :
    Calls Try.prog 24 #[.pointer (some ⟨g, 0, none⟩), v] w fun e w' => e = .returned (.tuple #[]) ∧ ∃ D', DV w' D' g (m.crash fates) ∧ Grew w D D' ∧ KeepU D w w' := by
  obtain ⟨hw, fm, pm, lv, fv, pv, h⟩ := h
  obtain ⟨la, lc, rfl⟩ := h.loose.form
  have hll : m.loose.length ≤ 1000000000 := Nat.le_trans hw.ll hacts
  obtain ⟨ao, cap, rfl, hlc, hm, hcap⟩ := hv.form
  have c1 := h.rowD.c1
  have c3 := h.rowD.c3
  have s2 := hw.s2
  have n2 := hw.n2
  have H := Lib.hid h
  have HV := Lib.hid hv
  clear h hv
  go_enter Try.func24, Try.ntmps24
  go_wp2
  go_loopw [20] (fun i wr => ∃ (j : Nat) (fv' : Nat → Option Value) (D' : List Nat), j ≤ m.loose.length ∧ i = .int .i64 j ∧ Hid (DevAt wr D' g { m with fast := torn m.sz fates m.fast 0 (m.loose.take j) } fm pm (.slice la m.loose.length lc) fv' pv) ∧ Hid (Grew w D D') ∧ Hid (KeepU D w wr)) (fun i _ => m.loose.length - (intOf i).toNat)
  case atStart => exact ⟨0, fv, D, by omega, rfl, H.out, Grew.refl _ _, KeepU.refl _ _⟩
  case round =>
    obtain ⟨j, fv', D', hj, rfl, HD, HG, HK⟩ := hrel
    by_cases hlt : j < m.loose.length
    · have h3 := HD.out
      obtain ⟨b, cap2, u, e1, a0, a1, ho, hoD, hbD, hcap1, hcap2⟩ := LooseV.at (ls := m.loose) h3.loose j hlt
      obtain rfl : la = some ⟨b, 0, none⟩ := by injection e1
      obtain ⟨hp1, hp2⟩ := hw.ls m.loose[j] (List.getElem_mem hlt)
      obtain ⟨⟨qk, ql⟩, hq⟩ : ∃ q, m.loose[j] = q := ⟨_, rfl⟩
      rw [hq] at a0 ho hp1 hp2
      simp only at a0 ho hp1 hp2
      have HQ := Lib.hid hq
      have hbv := ho.bytes (by have := hw.s2; omega)
      obtain ⟨va, vc, rfl, hvc, -, hvc2⟩ := hbv.form
      rw [hp2] at hbv a1 hvc
      have hA := (Keep.refl [] wr).alloc (.cells #[.int .i64 (qk : Int), .slice va m.sz vc] 177)
      have hB := heap_alloc_new wr (.cells #[.int .i64 (qk : Int), .slice va m.sz vc] 177)
      have HB := Lib.hid hB
      have HA := Lib.hid hA
      have HBV := Lib.hid hbv
      have H3 := Lib.hid h3
      have HLT := Lib.hid hlt
      obtain ⟨va', hva⟩ : ∃ a o, va = some ⟨a, o, none⟩ := by
        obtain ⟨b', o', e, -⟩ := hbv.spot (by rw [hp2]; have := hw.s1; omega)
        exact ⟨b', o', e⟩
      obtain ⟨vo, rfl⟩ := hva
      have HFV := Lib.hid ((HV.out.keep HK.out.toKeep hvD).keep ((Keep.refl [] wr).alloc (.cells #[.int .i64 (qk : Int), .slice (some ⟨va', vo, none⟩) m.sz vc] 177)) (by simp))
      by_cases hi : j < fates.length
      · obtain ⟨fb, fo, rfl, -, hfc⟩ := HFV.out.spot (by omega)
        have hfj := hfc j hi
        have hra := HFV.out.range fates[j] (List.getElem_mem hi)
        have hMpos : (0 : Int) < (m.sz : Int) + 1 := by omega
        have t1 := Int.tmod_lt_of_pos fates[j] hMpos
        have t2 := Int.lt_tmod_of_pos fates[j] hMpos
        have t3 := fate_go fates[j] _ hMpos
        have hfate : ((fate fates m.sz j : Nat) : Int) = fates[j] % ((m.sz : Int) + 1) := by
          unfold fate
          rw [if_pos hi, List.getD_eq_getElem?_getD, List.getElem?_eq_getElem hi, Option.getD_some]
          have h2 := Int.emod_nonneg fates[j] (show (m.sz : Int) + 1 ≠ 0 by omega)
          exact Int.toNat_of_nonneg h2
        rw [← hfate] at t3
        clear hfate
        generalize fates[j] = x at hfj hra t1 t2 t3
        generalize hnn : fate fates m.sz j = nn at t3
        have HNz := Lib.hid hnn
        obtain ⟨y, hy⟩ : ∃ y, x.tmod ((m.sz : Int) + 1) = y := ⟨_, rfl⟩
        rw [hy] at t1 t2 t3
        have hyw : RowKit.wrap64 (y + ((m.sz : Int) + 1)) = y + ((m.sz : Int) + 1) := by unfold RowKit.wrap64; omega
        clear e1 ho hoD hB hA h3 hbv hfc hnn hq
        have hnl := fate_le fates m.sz j
        rw [HNz.out] at hnl
        go_wp2_with fail
        refine wp_region_hisG (Since (wr.alloc (.cells #[.int .i64 (qk : Int), .slice (some ⟨va', vo, none⟩) m.sz vc] 177))) (Since.tr _) (Since.rf _) [11, 16, 19, 20] (fun _ => 0) (by kernel_rfl) (by kernel_rfl) ?_
        intro w5 hk5 hh
        clear hh
        have q2 := fun w' (h' : Since (wr.alloc (.cells #[.int .i64 (qk : Int), .slice (some ⟨va', vo, none⟩) m.sz vc] 177)) w5 w') => (HA.out.trans (h' hk5)).cell (p := ⟨g, 2, none⟩) (by simp) H3.out.rowD.c2
        have qB0 := fun w' (h' : Since (wr.alloc (.cells #[.int .i64 (qk : Int), .slice (some ⟨va', vo, none⟩) m.sz vc] 177)) w5 w') => cell_of_row w' _ 0 _ _ _ ((h' hk5).blk (by simp) HB.out)
        have qB1 := fun w' (h' : Since (wr.alloc (.cells #[.int .i64 (qk : Int), .slice (some ⟨va', vo, none⟩) m.sz vc] 177)) w5 w') => cell_of_row w' _ 1 _ _ _ ((h' hk5).blk (by simp) HB.out)
        simp at qB0 qB1
        have hnv : (nn : Int) ≤ (vc : Int) := by omega
        have hns : (nn : Int) ≤ (m.sz : Int) := by omega
        clear a0 a1
        (repeat (first | (refine his_q rfl rfl (fun K hK => ?_); apply Exists.intro; refine ⟨fun w' hC => ?_, ?_⟩; ((try simp [Sg.upd] at hC); go_simp <;> rfl); go_simp; refine hK _ _ ?_; clear hK K) | (refine his_s rfl (fun K hK => ?_); go_simp; refine hK _ _ ?_; clear hK K)))
        (refine his_l rfl rfl (fun K hK => ?_); go_simp)
        refine (clone_any _ (ql.take nn) _ ((HBV.out.keep (HA.out.trans hk5) (by simp)).take (by rw [hp2]; omega))).mono ?_
        rintro x6 w6 ⟨v6, rfl, ho6, hk6⟩
        refine hK _ _ (fun h => h.trans hk6) ?_
        clear hK K
        have hk46 := hk5.trans hk6
        have h6 := H3.out.keep0 (HA.out.trans hk46)
        have hfl := torn_lens fates (m.loose.take j) m.fast 0 ⟨hw.fl, hw.fs⟩ (fun p hp => hw.ls p (List.mem_of_mem_take hp))
        have hWf : Dev.Wf { m with fast := torn m.sz fates m.fast 0 (m.loose.take j) } := { n1 := hw.n1, n2 := hw.n2, s1 := hw.s1, s2 := hw.s2, fl := hfl.1, fs := hfl.2, pl := hw.pl, ps := hw.ps, ll := hw.ll, ls := hw.ls, ar := hw.ar }
        have hqf : qk < (torn m.sz fates m.fast 0 (m.loose.take j)).length := by rw [hfl.1]; exact hp1
        (repeat (first | (refine his_q rfl rfl (fun K hK => ?_); apply Exists.intro; refine ⟨fun w' hC => ?_, ?_⟩; ((try simp [Sg.upd] at hC); go_simp <;> rfl); go_simp; refine hK _ _ ?_; clear hK K) | (refine his_s rfl (fun K hK => ?_); go_simp; refine hK _ _ ?_; clear hK K)))
        (refine his_l rfl rfl (fun K hK => ?_); go_simp)
        refine (kept_any w6 D' g _ fm pm _ fv' pv hWf h6 qk hqf).mono ?_
        rintro x7 w7 ⟨v7, rfl, ho7, hk7⟩
        refine hK _ _ (fun h => h.trans hk7) ?_
        clear hK K
        have hk47 := hk46.trans hk7
        have hf7 := hfl.2 qk hqf
        have hb7 := ho7.bytes (by rw [hf7]; omega)
        obtain ⟨ka, kc, rfl, hkc, -, hkc2⟩ := hb7.form
        rw [hf7] at hb7 hkc
        obtain ⟨kb, ko, rfl, -, -⟩ := hb7.spot (by rw [hf7]; have := hw.s1; omega)
        have hcut := hb7.drop (k := nn) (by rw [hf7]; omega)
        rw [hf7] at hcut
        have hkn : (nn : Int) ≤ (kc : Int) := by omega
        have ho67 : OwnB w7 (wr.heap.size + 1) 5 v6 (ql.take nn) := (ho6.base (by have := hk5.size; simpa using this)).keep hk7 (by simp)
        have hql : (ql.take nn).length = nn := by rw [List.length_take, hp2]; omega
        obtain ⟨va6, vc6, rfl, -⟩ := (ho67.bytes (by rw [hql]; omega)).form
        rw [hql] at ho67
        have htl : ((torn m.sz fates m.fast 0 (m.loose.take j))[qk].drop nn).length = m.sz - nn := by rw [List.length_drop, hf7]
        clear ho7 hb7 h6 ho6
        by_cases hkn2 : kc = nn
        · rw [if_pos hkn2] at hcut
          subst hkn2
          rw [Nat.sub_self, show m.sz - kc = 0 by omega] at hcut
          (repeat (first | (refine his_q rfl rfl (fun K hK => ?_); apply Exists.intro; refine ⟨fun w' hC => ?_, ?_⟩; ((try simp [Sg.upd] at hC); go_simp <;> rfl); go_simp; refine hK _ _ ?_; clear hK K) | (refine his_s rfl (fun K hK => ?_); go_simp; refine hK _ _ ?_; clear hK K)))
          refine his_l rfl rfl (fun K hK => ?_)
          refine loudly_append (.tmp 50) (.tmp 57) 42 5 rfl (wr.heap.size + 1) Try.underlying42 (by kernel_rfl) (v := .slice va6 kc vc6) (src := .slice (some ⟨kb, ko, none⟩) 0 0) rfl rfl ho67 hcut (by rw [htl, hql]; omega) (by have := hk47.size; simpa using this) ?_
          intro v8 w8 ho8 hk8
          have hown6 : ∀ b ∈ (Value.slice va6 kc vc6).ownBlock.toList, b ∈ ([] : List Nat) ∨ (wr.alloc (.cells #[.int .i64 (qk : Int), .slice (some ⟨va', vo, none⟩) m.sz vc] 177)).heap.size ≤ b := fun b hb => by
            rw [Option.mem_toList] at hb
            rcases ho67.2 with ⟨h, -⟩ | ⟨g', c', cur, h, hg', -⟩
            · rw [h] at hb; simp [Value.ownBlock] at hb
            · rw [h] at hb
              simp [Value.ownBlock] at hb
              subst hb
              exact .inr (by simpa using hg')
          refine hK _ _ (fun h => h.trans' hk8 hown6) ?_
          clear hK K
          have hk48 := hk47.trans' hk8 hown6
          have h8 := H3.out.keep0 (HA.out.trans hk48)
          obtain ⟨w9, hrun, hM, hk9, hs9⟩ := h8.fast.store Try.underlying3 Try.underlying169 qk hp1 (show m.n ≤ 1000000000 by omega) v8
          have HR := Lib.hid hrun
          clear hrun
          refine his_last rfl (by kernel_rfl) rfl (fun K hK => ?_)
          refine loudly_mapUpdate_run (.tmp 42) (.tmp 45) (.tmp 58) 169 rfl (mv := .map (some fm)) (xv := .int .i64 (qk : Int)) (yv := v8) (w' := w9) rfl rfl rfl HR.out ?_
          refine hK _ _ ?_
          clear hK K q2 qB0 qB1
          refine his_nil ?_
          have ho9 : OwnB w9 0 5 v8 (ql.take kc ++ (torn m.sz fates m.fast 0 (m.loose.take j))[qk].drop kc) := ownB_move (ho8.base (Nat.zero_le _)) hk9 (NotT.map h8.fast)
          have hbase8 : ∀ b, v8.ownBlock = some b → wr.heap.size ≤ b := fun b hb => by
            rcases ho8.2 with ⟨h, -⟩ | ⟨g', c', cur, h, hg', -⟩
            · rw [h] at hb; simp [Value.ownBlock] at hb
            · rw [h] at hb; simp [Value.ownBlock] at hb; omega
          have hk3 : Keep [] wr w8 := HA.out.trans hk48
          have hk39 : Keep [fm] wr w9 := (hk3.mono (by simp)).trans hk9
          have hD' : ∀ b ∈ D', b ∈ D' ++ newer wr w9 := fun b hb => List.mem_append_left _ hb
          have hin : inD (D' ++ newer wr w9) v8 := fun b hb => List.mem_append_right _ (mem_newer.2 ⟨hbase8 b hb, ownsRow_lt ho9 hb⟩)
          have hnew := (H3.out).fastTurn (m' := { m with fast := torn m.sz fates m.fast 0 (m.loose.take (j + 1)) }) hk39 hD' (fun b hb => by
            rcases List.mem_append.1 hb with h | h
            · exact Nat.lt_of_lt_of_le (H3.out.lt b h) hk39.size
            · exact (mem_newer.1 h).2) hM ho9 hin (by
              rw [torn_succ _ _ _ _ _ _ HLT.out, HQ.out, Nat.zero_add]
              unfold tear
              rw [HNz.out, List.getD_eq_getElem?_getD, List.getElem?_eq_getElem hqf, Option.getD_some])
          have hG : Grew w D (D' ++ newer wr w9) := HG.out.trans (Grew.newer wr w9 D') HK.out.size
          have hKK : KeepU D w w9 := HK.out.bump hk39 (fun b hb => by
            rw [List.mem_singleton] at hb
            rw [hb]
            exact HG.out.2 _ H3.out.inF) (NotT.map H3.out.fast)
          clear hin hD' ho9 hk39 hM hk9 hs9 ho8 hk8 h8 hk48 hk47 hk46 hk3 ho67 hbase8 hk7 hk6 hk5
          go_wp2
          go_roundw
          case rel => exact ⟨j + 1, _, _, HLT.out, by go_num, hnew, hG, hKK⟩
          case measure => have := HLT.out; simp [intOf]; omega
        · rw [if_neg hkn2] at hcut
          have hcut2 : Bytes w7 (.slice (some ⟨kb, ko + nn, none⟩) (m.sz - nn) (kc - nn)) ((torn m.sz fates m.fast 0 (m.loose.take j))[qk].drop nn) := by
            have := hcut
            simp only [Option.map_some, Addr.add_lit] at this
            exact this
          clear hcut
          (repeat (first | (refine his_q rfl rfl (fun K hK => ?_); apply Exists.intro; refine ⟨fun w' hC => ?_, ?_⟩; ((try simp [Sg.upd] at hC); go_simp <;> rfl); go_simp; refine hK _ _ ?_; clear hK K) | (refine his_s rfl (fun K hK => ?_); go_simp; refine hK _ _ ?_; clear hK K)))
          refine his_l rfl rfl (fun K hK => ?_)
          refine loudly_append (.tmp 50) (.tmp 57) 42 5 rfl (wr.heap.size + 1) Try.underlying42 (by kernel_rfl) (v := .slice va6 nn vc6) (src := .slice (some ⟨kb, ko + nn, none⟩) (m.sz - nn) (kc - nn)) rfl rfl ho67 hcut2 (by rw [htl, hql]; omega) (by have := hk47.size; simpa using this) ?_
          intro v8 w8 ho8 hk8
          have hown6 : ∀ b ∈ (Value.slice va6 nn vc6).ownBlock.toList, b ∈ ([] : List Nat) ∨ (wr.alloc (.cells #[.int .i64 (qk : Int), .slice (some ⟨va', vo, none⟩) m.sz vc] 177)).heap.size ≤ b := fun b hb => by
            rw [Option.mem_toList] at hb
            rcases ho67.2 with ⟨h, -⟩ | ⟨g', c', cur, h, hg', -⟩
            · rw [h] at hb; simp [Value.ownBlock] at hb
            · rw [h] at hb
              simp [Value.ownBlock] at hb
              subst hb
              exact .inr (by simpa using hg')
          refine hK _ _ (fun h => h.trans' hk8 hown6) ?_
          clear hK K
          have hk48 := hk47.trans' hk8 hown6
          have h8 := H3.out.keep0 (HA.out.trans hk48)
          obtain ⟨w9, hrun, hM, hk9, hs9⟩ := h8.fast.store Try.underlying3 Try.underlying169 qk hp1 (show m.n ≤ 1000000000 by omega) v8
          have HR := Lib.hid hrun
          clear hrun
          refine his_last rfl (by kernel_rfl) rfl (fun K hK => ?_)
          refine loudly_mapUpdate_run (.tmp 42) (.tmp 45) (.tmp 58) 169 rfl (mv := .map (some fm)) (xv := .int .i64 (qk : Int)) (yv := v8) (w' := w9) rfl rfl rfl HR.out ?_
          refine hK _ _ ?_
          clear hK K q2 qB0 qB1
          refine his_nil ?_
          have ho9 : OwnB w9 0 5 v8 (ql.take nn ++ (torn m.sz fates m.fast 0 (m.loose.take j))[qk].drop nn) := ownB_move (ho8.base (Nat.zero_le _)) hk9 (NotT.map h8.fast)
          have hbase8 : ∀ b, v8.ownBlock = some b → wr.heap.size ≤ b := fun b hb => by
            rcases ho8.2 with ⟨h, -⟩ | ⟨g', c', cur, h, hg', -⟩
            · rw [h] at hb; simp [Value.ownBlock] at hb
            · rw [h] at hb; simp [Value.ownBlock] at hb; omega
          have hk3 : Keep [] wr w8 := HA.out.trans hk48
          have hk39 : Keep [fm] wr w9 := (hk3.mono (by simp)).trans hk9
          have hD' : ∀ b ∈ D', b ∈ D' ++ newer wr w9 := fun b hb => List.mem_append_left _ hb
          have hin : inD (D' ++ newer wr w9) v8 := fun b hb => List.mem_append_right _ (mem_newer.2 ⟨hbase8 b hb, ownsRow_lt ho9 hb⟩)
          have hnew := (H3.out).fastTurn (m' := { m with fast := torn m.sz fates m.fast 0 (m.loose.take (j + 1)) }) hk39 hD' (fun b hb => by
            rcases List.mem_append.1 hb with h | h
            · exact Nat.lt_of_lt_of_le (H3.out.lt b h) hk39.size
            · exact (mem_newer.1 h).2) hM ho9 hin (by
              rw [torn_succ _ _ _ _ _ _ HLT.out, HQ.out, Nat.zero_add]
              unfold tear
              rw [HNz.out, List.getD_eq_getElem?_getD, List.getElem?_eq_getElem hqf, Option.getD_some])
          have hG : Grew w D (D' ++ newer wr w9) := HG.out.trans (Grew.newer wr w9 D') HK.out.size
          have hKK : KeepU D w w9 := HK.out.bump hk39 (fun b hb => by
            rw [List.mem_singleton] at hb
            rw [hb]
            exact HG.out.2 _ H3.out.inF) (NotT.map H3.out.fast)
          clear hin hD' ho9 hk39 hM hk9 hs9 ho8 hk8 h8 hk48 hk47 hk46 hk3 ho67 hbase8 hk7 hk6 hk5
          go_wp2
          go_roundw
          case rel => exact ⟨j + 1, _, _, HLT.out, by go_num, hnew, hG, hKK⟩
          case measure => have := HLT.out; simp [intOf]; omega
      · have hfz : fate fates m.sz j = 0 := by
          unfold fate
          rw [if_neg hi]
        have HN0 := Lib.hid hfz
        clear e1 ho hoD hB hA h3 hbv hfz hq
        go_wp2_with fail
        refine wp_region_hisG (Since (wr.alloc (.cells #[.int .i64 (qk : Int), .slice (some ⟨va', vo, none⟩) m.sz vc] 177))) (Since.tr _) (Since.rf _) [11, 16, 19, 20] (fun _ => 0) (by kernel_rfl) (by kernel_rfl) ?_
        intro w5 hk5 hh
        clear hh
        have q2 := fun w' (h' : Since (wr.alloc (.cells #[.int .i64 (qk : Int), .slice (some ⟨va', vo, none⟩) m.sz vc] 177)) w5 w') => (HA.out.trans (h' hk5)).cell (p := ⟨g, 2, none⟩) (by simp) H3.out.rowD.c2
        have qB0 := fun w' (h' : Since (wr.alloc (.cells #[.int .i64 (qk : Int), .slice (some ⟨va', vo, none⟩) m.sz vc] 177)) w5 w') => cell_of_row w' _ 0 _ _ _ ((h' hk5).blk (by simp) HB.out)
        have qB1 := fun w' (h' : Since (wr.alloc (.cells #[.int .i64 (qk : Int), .slice (some ⟨va', vo, none⟩) m.sz vc] 177)) w5 w') => cell_of_row w' _ 1 _ _ _ ((h' hk5).blk (by simp) HB.out)
        simp at qB0 qB1
        have hnv : (0 : Int) ≤ (vc : Int) := by omega
        have hns : (0 : Int) ≤ (m.sz : Int) := by omega
        clear a0 a1
        (repeat (first | (refine his_q rfl rfl (fun K hK => ?_); apply Exists.intro; refine ⟨fun w' hC => ?_, ?_⟩; ((try simp [Sg.upd] at hC); go_simp <;> rfl); go_simp; refine hK _ _ ?_; clear hK K) | (refine his_s rfl (fun K hK => ?_); go_simp; refine hK _ _ ?_; clear hK K)))
        (refine his_l rfl rfl (fun K hK => ?_); go_simp)
        refine (clone_any _ (ql.take 0) _ ((HBV.out.keep (HA.out.trans hk5) (by simp)).take (by rw [hp2]; omega))).mono ?_
        rintro x6 w6 ⟨v6, rfl, ho6, hk6⟩
        refine hK _ _ (fun h => h.trans hk6) ?_
        clear hK K
        have hk46 := hk5.trans hk6
        have h6 := H3.out.keep0 (HA.out.trans hk46)
        have hfl := torn_lens fates (m.loose.take j) m.fast 0 ⟨hw.fl, hw.fs⟩ (fun p hp => hw.ls p (List.mem_of_mem_take hp))
        have hWf : Dev.Wf { m with fast := torn m.sz fates m.fast 0 (m.loose.take j) } := { n1 := hw.n1, n2 := hw.n2, s1 := hw.s1, s2 := hw.s2, fl := hfl.1, fs := hfl.2, pl := hw.pl, ps := hw.ps, ll := hw.ll, ls := hw.ls, ar := hw.ar }
        have hqf : qk < (torn m.sz fates m.fast 0 (m.loose.take j)).length := by rw [hfl.1]; exact hp1
        (repeat (first | (refine his_q rfl rfl (fun K hK => ?_); apply Exists.intro; refine ⟨fun w' hC => ?_, ?_⟩; ((try simp [Sg.upd] at hC); go_simp <;> rfl); go_simp; refine hK _ _ ?_; clear hK K) | (refine his_s rfl (fun K hK => ?_); go_simp; refine hK _ _ ?_; clear hK K)))
        (refine his_l rfl rfl (fun K hK => ?_); go_simp)
        refine (kept_any w6 D' g _ fm pm _ fv' pv hWf h6 qk hqf).mono ?_
        rintro x7 w7 ⟨v7, rfl, ho7, hk7⟩
        refine hK _ _ (fun h => h.trans hk7) ?_
        clear hK K
        have hk47 := hk46.trans hk7
        have hf7 := hfl.2 qk hqf
        have hb7 := ho7.bytes (by rw [hf7]; omega)
        obtain ⟨ka, kc, rfl, hkc, -, hkc2⟩ := hb7.form
        rw [hf7] at hb7 hkc
        obtain ⟨kb, ko, rfl, -, -⟩ := hb7.spot (by rw [hf7]; have := hw.s1; omega)
        have hkn : (0 : Int) ≤ (kc : Int) := by omega
        have ho67 : OwnB w7 (wr.heap.size + 1) 5 v6 (ql.take 0) := (ho6.base (by have := hk5.size; simpa using this)).keep hk7 (by simp)
        have hql : (ql.take 0).length = 0 := by rw [List.length_take, hp2]; omega
        obtain ⟨va6, vc6, rfl, -⟩ := (ho67.bytes (by rw [hql]; omega)).form
        rw [hql] at ho67
        have htl : ((torn m.sz fates m.fast 0 (m.loose.take j))[qk].drop 0).length = m.sz - 0 := by rw [List.length_drop, hf7]
        clear ho7 h6 ho6
        have hcut2 : Bytes w7 (.slice (some ⟨kb, ko, none⟩) m.sz kc) ((torn m.sz fates m.fast 0 (m.loose.take j))[qk].drop 0) := hb7
        (repeat (first | (refine his_q rfl rfl (fun K hK => ?_); apply Exists.intro; refine ⟨fun w' hC => ?_, ?_⟩; ((try simp [Sg.upd] at hC); go_simp <;> rfl); go_simp; refine hK _ _ ?_; clear hK K) | (refine his_s rfl (fun K hK => ?_); go_simp; refine hK _ _ ?_; clear hK K)))
        refine his_l rfl rfl (fun K hK => ?_)
        refine loudly_append (.tmp 50) (.tmp 57) 42 5 rfl (wr.heap.size + 1) Try.underlying42 (by kernel_rfl) (v := .slice va6 0 vc6) (src := .slice (some ⟨kb, ko, none⟩) m.sz kc) rfl rfl ho67 hcut2 (by rw [htl, hql]; omega) (by have := hk47.size; simpa using this) ?_
        intro v8 w8 ho8 hk8
        have hown6 : ∀ b ∈ (Value.slice va6 0 vc6).ownBlock.toList, b ∈ ([] : List Nat) ∨ (wr.alloc (.cells #[.int .i64 (qk : Int), .slice (some ⟨va', vo, none⟩) m.sz vc] 177)).heap.size ≤ b := fun b hb => by
          rw [Option.mem_toList] at hb
          rcases ho67.2 with ⟨h, -⟩ | ⟨g', c', cur, h, hg', -⟩
          · rw [h] at hb; simp [Value.ownBlock] at hb
          · rw [h] at hb
            simp [Value.ownBlock] at hb
            subst hb
            exact .inr (by simpa using hg')
        refine hK _ _ (fun h => h.trans' hk8 hown6) ?_
        clear hK K
        have hk48 := hk47.trans' hk8 hown6
        have h8 := H3.out.keep0 (HA.out.trans hk48)
        obtain ⟨w9, hrun, hM, hk9, hs9⟩ := h8.fast.store Try.underlying3 Try.underlying169 qk hp1 (show m.n ≤ 1000000000 by omega) v8
        have HR := Lib.hid hrun
        clear hrun
        refine his_last rfl (by kernel_rfl) rfl (fun K hK => ?_)
        refine loudly_mapUpdate_run (.tmp 42) (.tmp 45) (.tmp 58) 169 rfl (mv := .map (some fm)) (xv := .int .i64 (qk : Int)) (yv := v8) (w' := w9) rfl rfl rfl HR.out ?_
        refine hK _ _ ?_
        clear hK K q2 qB0 qB1
        refine his_nil ?_
        have ho9 : OwnB w9 0 5 v8 (ql.take 0 ++ (torn m.sz fates m.fast 0 (m.loose.take j))[qk].drop 0) := ownB_move (ho8.base (Nat.zero_le _)) hk9 (NotT.map h8.fast)
        have hbase8 : ∀ b, v8.ownBlock = some b → wr.heap.size ≤ b := fun b hb => by
          rcases ho8.2 with ⟨h, -⟩ | ⟨g', c', cur, h, hg', -⟩
          · rw [h] at hb; simp [Value.ownBlock] at hb
          · rw [h] at hb; simp [Value.ownBlock] at hb; omega
        have hk3 : Keep [] wr w8 := HA.out.trans hk48
        have hk39 : Keep [fm] wr w9 := (hk3.mono (by simp)).trans hk9
        have hD' : ∀ b ∈ D', b ∈ D' ++ newer wr w9 := fun b hb => List.mem_append_left _ hb
        have hin : inD (D' ++ newer wr w9) v8 := fun b hb => List.mem_append_right _ (mem_newer.2 ⟨hbase8 b hb, ownsRow_lt ho9 hb⟩)
        have hnew := (H3.out).fastTurn (m' := { m with fast := torn m.sz fates m.fast 0 (m.loose.take (j + 1)) }) hk39 hD' (fun b hb => by
          rcases List.mem_append.1 hb with h | h
          · exact Nat.lt_of_lt_of_le (H3.out.lt b h) hk39.size
          · exact (mem_newer.1 h).2) hM ho9 hin (by
            rw [torn_succ _ _ _ _ _ _ HLT.out, HQ.out, Nat.zero_add]
            unfold tear
            rw [HN0.out, List.getD_eq_getElem?_getD, List.getElem?_eq_getElem hqf, Option.getD_some])
        have hG : Grew w D (D' ++ newer wr w9) := HG.out.trans (Grew.newer wr w9 D') HK.out.size
        have hKK : KeepU D w w9 := HK.out.bump hk39 (fun b hb => by
          rw [List.mem_singleton] at hb
          rw [hb]
          exact HG.out.2 _ H3.out.inF) (NotT.map H3.out.fast)
        clear hin hD' ho9 hk39 hM hk9 hs9 ho8 hk8 h8 hk48 hk47 hk46 hk3 ho67 hbase8 hk7 hk6 hk5
        go_wp2
        go_roundw
        case rel => exact ⟨j + 1, _, _, HLT.out, by go_num, hnew, hG, hKK⟩
        case measure => have := HLT.out; simp [intOf]; omega
    · have h3 := HD.out
      have hr3 := h3.rowD
      have c3 := hr3.c3
      have f3 := hr3.free 3
      have c5 := hr3.c5
      have f5 := hr3.free 5
      have c7 := hr3.c7
      have f7 := hr3.free 7
      have e2 : m.loose.take j = m.loose := List.take_of_length_le (by omega)
      obtain ⟨wf, hwf⟩ : ∃ wf, ((wr.setCell ⟨g, 3, none⟩ (.slice none 0 0)).setCell ⟨g, 5, none⟩ (.int .i64 0)).setCell ⟨g, 7, none⟩ (.bool false) = wf := ⟨_, rfl⟩
      have hks : Keep [g] wr wf := by rw [← hwf]; exact (((Keep.refl _ _).setCell (.inl (by simp)) _).setCell (.inl (by simp)) _).setCell (.inl (by simp)) _
      have hsz : wf.heap.size = wr.heap.size := by rw [← hwf]; simp
      have hrf : RowD wf g (m.crash fates) fm pm (.slice none 0 0) := by
        rw [← hwf]
        have e1 := hr3.set 3 (.slice none 0 0)
        have e2' := heap_setCell_same _ g 5 _ _ (.int .i64 0) e1
        have e3 := heap_setCell_same _ g 7 _ _ (.bool false) e2'
        refine e3.trans ?_
        simp [devCells, Dev.crash]
      have hfin : DevAt wf D' g (m.crash fates) fm pm (.slice none 0 0) fv' pv := by
        rw [e2] at h3
        exact h3.turn2 hks (CellsOf.one h3.row (by decide)) hrf rfl rfl rfl rfl ⟨[], World.ownsRow_nil _ _ _ _, fun b hb => by simp [Value.ownBlock] at hb, rfl, fun i v l h => by simp at h⟩ (fun _ h => h) (fun b hb => by rw [hsz]; exact h3.lt b hb)
      have hKK : KeepU D w wf := HK.out.bump hks (fun b hb => by
        rw [List.mem_singleton] at hb
        rw [hb]
        exact HG.out.2 _ h3.inG) (NotT.row h3.row (by decide))
      have HF := Lib.hid hfin
      have HKK := Lib.hid hKK
      rw [← hwf] at HF HKK
      clear h3 hr3 hfin hks e2 hrf hsz hKK hwf
      go_wp2
      go_end0
      exact ⟨rfl, D', ⟨hw.crash fates, fm, pm, _, _, _, HF.out⟩, HG.out, HKK.out⟩

set_option maxRecDepth 100000 in
set_option maxHeartbeats 1000000 in
set_option maxHeartbeats 4000000 in
theorem rotB_any (w : World) (D : List Nat) (g : Nat) (m : Dev) (h : DV w D g m) (a b : Int) (c : UInt8) :
    Calls Try.prog 26 #[.pointer (some ⟨g, 0, none⟩), .int .i64 a, .int .i64 b, .int .u8 (c.toNat : Int)] w fun e w' => e = .returned (.int .i64 ((m.rot a b c).2 : Int)) ∧ ∃ D', DV w' D' g (m.rot a b c).1 ∧ Grew w D D' ∧ KeepU D w w' := by
  obtain ⟨hw, fm, pm, lv, fv, pv, h⟩ := h
  have ht := there_any w g m fm pm lv h.row a
  have c1 := h.rowD.c1
  by_cases hbad : (0 ≤ a ∧ a < (m.n : Int)) ∧ 0 ≤ b ∧ b < (m.sz : Int)
  · obtain ⟨k, rfl⟩ : ∃ k : Nat, a = (k : Int) := ⟨a.toNat, by omega⟩
    obtain ⟨j, rfl⟩ : ∃ j : Nat, b = (j : Int) := ⟨b.toNat, by omega⟩
    have e0 : m.rot (k : Int) (j : Int) c = ({ m with fast := m.fast.modify k (fun l => l.modify j (· ^^^ c)) }, 0) := by
      unfold Dev.rot
      rw [if_pos hbad]
      rfl
    rw [e0]
    have hd : decide (0 ≤ (k : Int) ∧ (k : Int) < (m.n : Int)) = true := by simpa using hbad.1
    rw [hd] at ht
    have hkn : k < m.n := by omega
    have hkf : k < m.fast.length := by rw [hw.fl]; exact hkn
    have hlen := hw.fs k hkf
    have hjs : j < m.sz := by omega
    have t1 : (j : Int) < (m.sz : Int) := by omega
    have t2 : ¬ (m.sz : Int) ≤ (j : Int) := by omega
    have hkept := kept_any w D g m fm pm lv fv pv hw h k hkf
    have H := Lib.hid h
    have hn2 := hw.n2
    have hs2 := hw.s2
    clear h e0 hbad hd
    go_enter Try.func26, Try.ntmps26
    go_wp2_with fail
    refine ht.mono ?_
    rintro e w1 ⟨rfl, rfl⟩
    clear ht
    go_wp2_with fail
    refine hkept.mono ?_
    rintro e w1 ⟨v1, rfl, ho1, hk1⟩
    clear hkept
    go_wp2_with fail
    refine (clone_any _ _ _ (ho1.bytes (by omega))).mono ?_
    rintro e w2 ⟨v2, rfl, ho2, hk2⟩
    obtain ⟨g2, cap2, rfl, hgw⟩ : ∃ g cap, v2 = .slice (some ⟨g, 0, none⟩) m.sz cap ∧ w1.heap.size ≤ g := by
      rcases ho2.2 with ⟨-, h0⟩ | ⟨g', cp, cur, rfl, hb, -⟩
      · omega
      · exact ⟨g', cp, by rw [hlen], hb⟩
    obtain ⟨L, hL⟩ : ∃ L, m.fast[k] = L := ⟨_, rfl⟩
    rw [hL] at ho2 hlen
    have hjl : j < L.length := by omega
    have hcell := ho2.cell hjl
    have hfree := ho2.free j
    obtain ⟨x, hx⟩ : ∃ x, L[j] = x := ⟨_, rfl⟩
    rw [hx] at hcell
    have hxor := u8_xor_nat x.toNat c.toNat x.toNat_lt c.toNat_lt
    have hset := ho2.setCell hjl (x ^^^ c)
    have h2 := H.out.rowD.keep (hk1.trans hk2) (by simp)
    have hlt2 : g < w2.heap.size := (Array.getElem?_eq_some_iff.1 h2).1
    have hne : g ≠ g2 := by
      have := H.out.lt _ H.out.inG
      have := hk1.size
      omega
    unfold u8v at hset
    rw [UInt8.toNat_xor] at hset
    obtain ⟨w3, hw3⟩ : ∃ w3, w2.setCell ⟨g2, j, none⟩ (.int .u8 ((x.toNat ^^^ c.toNat : Nat) : Int)) = w3 := ⟨_, rfl⟩
    rw [hw3] at hset
    have hk3 : Keep [] w w3 := by
      rw [← hw3]
      exact (hk1.trans hk2).setCell (.inr (show w.heap.size ≤ g2 by have := hk1.size; omega)) _
    have h3 := H.out.keep0 hk3
    have c2 := (H.out.keep0 (hk1.trans hk2)).rowD.c2
    obtain ⟨w9, hrun, hM, hk9, hs9⟩ := h3.fast.store Try.underlying3 Try.underlying169 k hkn (show m.n ≤ 1000000000 by omega) (.slice (some ⟨g2, 0, none⟩) m.sz cap2)
    have ho9 : OwnB w9 0 5 (.slice (some ⟨g2, 0, none⟩) m.sz cap2) (L.set j (x ^^^ c)) := ownB_move (hset.base (Nat.zero_le _)) hk9 (NotT.map h3.fast)
    have hk39 : Keep [fm] w w9 := (hk3.mono (by simp)).trans hk9
    have hD' : ∀ b ∈ D, b ∈ D ++ newer w w9 := fun b hb => List.mem_append_left _ hb
    have hin : inD (D ++ newer w w9) (.slice (some ⟨g2, 0, none⟩) m.sz cap2) := fun b hb => List.mem_append_right _ (mem_newer.2 ⟨by
      simp [Value.ownBlock] at hb
      have := hk1.size
      omega, ownsRow_lt ho9 hb⟩)
    have hnew := (H.out).fastTurn (m' := { m with fast := m.fast.modify k (fun l => l.modify j (· ^^^ c)) }) hk39 hD' (fun b hb => by
      rcases List.mem_append.1 hb with h | h
      · exact Nat.lt_of_lt_of_le (H.out.lt b h) hk39.size
      · exact (mem_newer.1 h).2) hM ho9 hin (by
        rw [modify_set _ _ _ hkf, hL, modify_set _ _ _ hjl, hx])
    have hKK : KeepU D w w9 := KeepU.of hk39 (fun b hb => by
      rw [List.mem_singleton] at hb
      rw [hb]
      exact H.out.inF) (NotT.map H.out.fast)
    have HN := Lib.hid (And.intro hnew (And.intro (Grew.newer w w9 D) hKK))
    have HR := Lib.hid hrun
    have HW := Lib.hid hw3
    clear hnew hKK hin hD' hk39 ho9 hM hk9 hs9 hrun h3 hk3 hset h2 hlt2 hx hL ho2 ho1 hk1 hk2 hlen hgw hw3
    go_wp2_with fail
    rw [HW.out]
    rw [HR.out]
    go_wp2
    go_ret
    exact ⟨rfl, _, ⟨rot_wf hw k j c, fm, pm, _, _, _, HN.out.1⟩, HN.out.2.1, HN.out.2.2⟩
  · have e0 : m.rot a b c = (m, 2) := by
      unfold Dev.rot
      rw [if_neg hbad]
    rw [e0]
    have HV : DV w D g m := ⟨hw, fm, pm, lv, fv, pv, h⟩
    have H := Lib.hid HV
    clear h HV e0
    by_cases h1 : 0 ≤ a ∧ a < (m.n : Int)
    · have hd : decide (0 ≤ a ∧ a < (m.n : Int)) = true := by simpa using h1
      rw [hd] at ht
      clear hd
      by_cases h2 : b < 0
      · clear hbad
        go_enter Try.func26, Try.ntmps26
        go_wp2_with fail
        refine ht.mono ?_
        rintro e w1 ⟨rfl, rfl⟩
        go_wp2
        go_ret
        exact ⟨rfl, D, H.out, Grew.refl _ _, KeepU.refl _ _⟩
      · have h3 : (m.sz : Int) ≤ b := by omega
        clear hbad
        go_enter Try.func26, Try.ntmps26
        go_wp2_with fail
        refine ht.mono ?_
        rintro e w1 ⟨rfl, rfl⟩
        go_wp2
        go_ret
        exact ⟨rfl, D, H.out, Grew.refl _ _, KeepU.refl _ _⟩
    · have hd : decide (0 ≤ a ∧ a < (m.n : Int)) = false := by simpa using h1
      rw [hd] at ht
      clear hd hbad
      go_enter Try.func26, Try.ntmps26
      go_wp2_with fail
      refine ht.mono ?_
      rintro e w1 ⟨rfl, rfl⟩
      go_wp2
      go_ret
      exact ⟨rfl, D, H.out, Grew.refl _ _, KeepU.refl _ _⟩

set_option maxRecDepth 100000 in
set_option maxHeartbeats 1000000 in
theorem armB_any (w : World) (D : List Nat) (g : Nat) (m : Dev) (h : DV w D g m) (n : Int) (hn : n ≤ 9223372036854775807) : Calls Try.prog 23 #[.pointer (some ⟨g, 0, none⟩), .int .i64 n] w fun e w' => e = .returned (.tuple #[]) ∧ DV w' D g (m.arm n) ∧ KeepU D w w' := by
  obtain ⟨hw, fm, pm, lv, fv, pv, h⟩ := h
  have c5 := h.rowD.c5
  have f5 := h.rowD.free 5
  have hl : LooseV (w.setCell ⟨g, 5, none⟩ (.int .i64 (n.toNat : Int))) D lv (m.arm n).loose := h.loose.move ((Keep.refl [g] w).setCell (.inl (by simp)) _) (NotT.row h.row (by decide)) (NotT.row h.row (by decide)) (fun _ h => h)
  have hr : RowD (w.setCell ⟨g, 5, none⟩ (.int .i64 (n.toNat : Int))) g (m.arm n) fm pm lv := (h.rowD.set 5 (.int .i64 (n.toNat : Int))).trans (by simp [devCells, Dev.arm])
  have hd := h.turn ((Keep.refl [g] w).setCell (.inl (by simp)) _) hr rfl rfl rfl rfl hl
  have hw' : (m.arm n).Wf := { n1 := hw.n1, n2 := hw.n2, s1 := hw.s1, s2 := hw.s2, fl := hw.fl, fs := hw.fs, pl := hw.pl, ps := hw.ps, ll := hw.ll, ls := hw.ls, ar := by simp only [Dev.arm]; omega }
  have hk : KeepU D w (w.setCell ⟨g, 5, none⟩ (.int .i64 (n.toNat : Int))) := KeepU.of ((Keep.refl [g] w).setCell (.inl (by simp)) _) (fun b hb => by rw [List.mem_singleton] at hb; rw [hb]; exact h.inG) (NotT.row h.row (by decide))
  have HD := Lib.hid hd
  have HK := Lib.hid hk
  clear h hl hr hd hk
  by_cases h0 : 0 ≤ n
  · have e0 : ((n.toNat : Nat) : Int) = n := by omega
    rw [e0] at HD HK
    go_enter Try.func23, Try.ntmps23
    go_wp2
    go_end0
    exact ⟨rfl, ⟨hw', fm, pm, lv, fv, pv, HD.out⟩, HK.out⟩
  · have e0 : ((n.toNat : Nat) : Int) = 0 := by omega
    rw [e0] at HD HK
    go_enter Try.func23, Try.ntmps23
    go_wp2
    go_end0
    exact ⟨rfl, ⟨hw', fm, pm, lv, fv, pv, HD.out⟩, HK.out⟩

set_option maxRecDepth 100000 in
set_option maxHeartbeats 1000000 in
set_option maxHeartbeats 4000000 in
theorem didB_any (w : World) (D : List Nat) (g : Nat) (m : Dev) (h : DV w D g m) (hacts : m.acts ≤ 1000000000) (kd at_ ln : Int) (b : UInt8) (fv : Value) (fates : List Int) (hv : Ints w fv fates) (hvD : fates ≠ [] → ∀ b, fv.ownBlock = some b → b ∉ D) (hln : ln ≤ 9223372036854775807) (hat : at_ ≤ 9223372036854775807) :
    Calls Try.prog 36 #[.pointer (some ⟨g, 0, none⟩), .agg #[.int .i64 kd, .int .i64 at_, .int .i64 ln, .int .u8 (b.toNat : Int), fv]] w fun e w' => e = .returned (.tuple #[]) ∧ ∃ D' m', DV w' D' g m' ∧ Did at_ m m' ∧ Grew w D D' ∧ KeepU D w w' := by
  obtain ⟨fa, fc, rfl, -⟩ := hv.form
  obtain ⟨w1, hw1⟩ : ∃ w1, w.alloc (.cells #[.int .i64 kd, .int .i64 at_, .int .i64 ln, .int .u8 (b.toNat : Int), .slice fa fates.length fc] 37) = w1 := ⟨_, rfl⟩
  have hA : Keep [] w w1 := by rw [← hw1]; exact (Keep.refl [] w).alloc _
  have hB : w1.heap[w.heap.size]? = some (.cells #[.int .i64 kd, .int .i64 at_, .int .i64 ln, .int .u8 (b.toNat : Int), .slice fa fates.length fc] 37 (0, 0)) := by rw [← hw1]; exact heap_alloc_new w _
  have hD1 := h.keep hA (by simp)
  have hG1 : Grew w D D := Grew.refl _ _
  have g0 := cell_of_row w1 _ 0 _ _ _ hB
  have g1 := cell_of_row w1 _ 1 _ _ _ hB
  have g2 := cell_of_row w1 _ 2 _ _ _ hB
  have g3 := cell_of_row w1 _ 3 _ _ _ hB
  have g4 := cell_of_row w1 _ 4 _ _ _ hB
  simp at g0 g1 g2 g3 g4
  have hv1 := hv.keep hA (by simp)
  obtain ⟨r, hr, hr1, hr2, q, hq, hq1, hq2⟩ := mod8 kd
  have q4 : IntKind.i64.wrap (r + 8) = r + 8 := i64_wrap (by omega) (by omega)
  have fin : ∀ (w' : World) (D' : List Nat), Grew w1 D D' → KeepU D w1 w' → Grew w D D' ∧ KeepU D w w' := fun _ _ hg hk =>
    ⟨⟨hg.1, fun b hb => (hg.2 b hb).elim .inl (fun h => .inr (Nat.le_trans hA.size h))⟩, (KeepU.of (D := D) hA (by simp) NotT.nil).trans hk⟩
  have HV := Lib.hid (And.intro hv1 hD1)
  have HB := Lib.hid hB
  have HF := Lib.hid fin
  clear hv1 hD1 hB fin h hv hA
  rcases (by omega : q = 3 ∨ q = 4 ∨ q = 5 ∨ q = 6 ∨ q = 7 ∨ (q ≠ 3 ∧ q ≠ 4 ∧ q ≠ 5 ∧ q ≠ 6 ∧ q ≠ 7)) with rfl | rfl | rfl | rfl | rfl | ⟨x3, x4, x5, x6, x7⟩
  · have hc := syncB_any w1 D g m HV.out.2 hacts
    go_enter Try.func36, Try.ntmps36
    go_wp2_with fail
    refine hc.mono ?_
    rintro e w2 ⟨rfl, D', hD', hG', hK'⟩
    go_wp2
    go_end0
    exact ⟨rfl, D', _, hD', Did.sync _ _, HF.out _ _ hG' hK'⟩
  · have hc := read_any w1 D g m HV.out.2 hacts at_
    go_enter Try.func36, Try.ntmps36
    go_wp2_with fail
    refine hc.mono ?_
    rintro e w2 ⟨v, rfl, -, hK'⟩
    go_wp2
    go_end0
    exact ⟨rfl, D, m, HV.out.2.keep hK' (by simp), Did.refl _ _, HF.out _ _ (Grew.refl _ _) (KeepU.of hK' (by simp) NotT.nil)⟩
  · have hc := armB_any w1 D g m HV.out.2 at_ hat
    go_enter Try.func36, Try.ntmps36
    go_wp2_with fail
    refine hc.mono ?_
    rintro e w2 ⟨rfl, hD', hK'⟩
    go_wp2
    go_end0
    exact ⟨rfl, D, _, hD', Did.arm _ _ _, HF.out _ _ (Grew.refl _ _) hK'⟩
  · have hc := crashB_any w1 D g m HV.out.2 hacts _ fates HV.out.1 hvD
    go_enter Try.func36, Try.ntmps36
    go_wp2_with fail
    refine hc.mono ?_
    rintro e w2 ⟨rfl, D', hD', hG', hK'⟩
    go_wp2
    go_end0
    exact ⟨rfl, D', _, hD', Did.crash _ _ _, HF.out _ _ hG' hK'⟩
  · have hc := rotB_any w1 D g m HV.out.2 at_ ln b
    go_enter Try.func36, Try.ntmps36
    go_wp2_with fail
    refine hc.mono ?_
    rintro e w2 ⟨rfl, D', hD', hG', hK'⟩
    go_wp2
    go_end0
    exact ⟨rfl, D', _, hD', Did.rot _ _ _ _, HF.out _ _ hG' hK'⟩
  · clear g1 g2 g3 g4
    go_enter Try.func36, Try.ntmps36
    go_wp2_with fail
    refine wp_region_his [] [6, 7] (fun _ => 0) (by kernel_rfl) (by kernel_rfl) ?_
    intro w2 hk2 hh
    clear hh g0
    have g0 := fun w' (h' : Keep [] w2 w') => cell_of_row w' _ 0 _ _ _ ((hk2.trans h').blk (by simp) HB.out)
    have g1 := fun w' (h' : Keep [] w2 w') => cell_of_row w' _ 1 _ _ _ ((hk2.trans h').blk (by simp) HB.out)
    have g2 := fun w' (h' : Keep [] w2 w') => cell_of_row w' _ 2 _ _ _ ((hk2.trans h').blk (by simp) HB.out)
    have g3 := fun w' (h' : Keep [] w2 w') => cell_of_row w' _ 3 _ _ _ ((hk2.trans h').blk (by simp) HB.out)
    have g4 := fun w' (h' : Keep [] w2 w') => cell_of_row w' _ 4 _ _ _ ((hk2.trans h').blk (by simp) HB.out)
    simp at g0 g1 g2 g3 g4
    (refine his_q rfl rfl (fun K hK => ?_); apply Exists.intro; refine ⟨fun w' hC => ?_, ?_⟩; ((try simp [Sg.upd] at hC); go_simp <;> rfl); go_simp; refine hK _ _ ?_; clear hK K)
    (refine his_q rfl rfl (fun K hK => ?_); apply Exists.intro; refine ⟨fun w' hC => ?_, ?_⟩; ((try simp [Sg.upd] at hC); go_simp <;> rfl); go_simp; refine hK _ _ ?_; clear hK K)
    (refine his_q rfl rfl (fun K hK => ?_); apply Exists.intro; refine ⟨fun w' hC => ?_, ?_⟩; ((try simp [Sg.upd] at hC); go_simp <;> rfl); go_simp; refine hK _ _ ?_; clear hK K)
    (refine his_q rfl rfl (fun K hK => ?_); apply Exists.intro; refine ⟨fun w' hC => ?_, ?_⟩; ((try simp [Sg.upd] at hC); go_simp <;> rfl); go_simp; refine hK _ _ ?_; clear hK K)
    (refine his_q rfl rfl (fun K hK => ?_); apply Exists.intro; refine ⟨fun w' hC => ?_, ?_⟩; ((try simp [Sg.upd] at hC); go_simp <;> rfl); go_simp; refine hK _ _ ?_; clear hK K)
    refine his_c rfl rfl (.int .i64 (m.sz : Int)) (fun K hK => ?_)
    refine ⟨fun w' hC => Yields.call 16 #[.pointer (some ⟨g, 0, none⟩)] ?_ (by kernel_rfl) ?_, ?_⟩
    · go_simp
    · exact size_dev_any w' D g m (HV.out.2.keep (hk2.trans hC) (by simp))
    go_simp
    refine hK _ _ ?_
    clear hK K
    (refine his_l rfl rfl (fun K hK => ?_); go_simp)
    refine (bytes_any kd at_ ln b (.slice fa fates.length fc) m.sz (by obtain ⟨hw, -⟩ := HV.out.2; exact hw.s2) _ ⟨_, _, _, rfl⟩).mono ?_
    rintro x w3 ⟨v3, l3, rfl, ho3, hl3, hk3⟩
    refine hK _ _ hk3 ?_
    clear hK K
    have hk13 := hk2.trans hk3
    (refine his_last rfl (by kernel_rfl) rfl (fun K hK => ?_); go_simp)
    refine (writeB_any w3 D g m (HV.out.2.keep hk13 (by simp)) hacts at_ v3 l3 (ho3.bytes (by omega))).mono ?_
    rintro x w4 ⟨rfl, D', hD', hG', hK'⟩
    refine hK _ _ ?_
    clear hK K
    refine his_nil ?_
    have hG2 : Grew w1 D D' := ⟨hG'.1, fun b hb => (hG'.2 b hb).elim .inl (fun h => .inr (Nat.le_trans hk13.size h))⟩
    have hK2 : KeepU D w1 w4 := (KeepU.of (D := D) hk13 (by simp) NotT.nil).trans hK'
    have HH := Lib.hid (And.intro hD' (HF.out _ _ hG2 hK2))
    clear hG2 hK2 hD' hG' hK' ho3 hk13 hk3 hk2 g0 g1 g2 g3 g4
    go_wp2
    go_end0
    exact ⟨rfl, D', _, HH.out.1, Did.put _ _ _, HH.out.2⟩
end Go.Proofs.Ytjkjiabfhhnngaa
