import Derived.Test.YtjkjiabfhhnngaaFlash12
/-! The chapter's bytes and did. -/
namespace Go.Proofs.Ytjkjiabfhhnngaa
open Go.RowKit Sg
set_option linter.unusedSimpArgs false
set_option linter.unusedVariables false


/-- what an act of flash does, as far as a sector k is concerned that it does not name -/
structure Did (a : Int) (m m' : Dev) : Prop where
  n : m'.n = m.n
  sz : m'.sz = m.sz
  acts : m'.acts ≤ m.acts + 1
  keep : ∀ k : Nat, a ≠ (k : Int) → (∀ p ∈ m.loose, p.1 ≠ k) → m'.fast.getD k [] = m.fast.getD k [] ∧ ∀ p ∈ m'.loose, p.1 ≠ k
theorem Did.refl (a : Int) (m : Dev) : Did a m m := ⟨rfl, rfl, by omega, fun k _ h => ⟨rfl, h⟩⟩
theorem Did.act (a : Int) (m : Dev) : Did a m m.act := ⟨rfl, rfl, by show m.acts + 1 ≤ _; omega, fun k _ h => ⟨rfl, h⟩⟩
theorem Did.put (a : Int) (m : Dev) (l : List UInt8) : Did a m (m.put a l).1 := by
  unfold Dev.put
  split
  · exact Did.refl _ _
  · next hr =>
    split
    · exact Did.refl _ _
    · have h0 : 0 ≤ a := by
        by_cases hd : m.down = true
        · simp [Dev.ready, hd] at hr
        · by_cases h : 0 ≤ a ∧ a < m.n
          · exact h.1
          · simp [Dev.ready, hd, h] at hr
      refine ⟨rfl, rfl, by show m.acts + 1 ≤ _; omega, fun k hk h => ⟨rfl, fun p hp => ?_⟩⟩
      rcases List.mem_append.1 hp with hp | hp
      · exact h p hp
      · rw [List.mem_singleton.1 hp]
        show a.toNat ≠ k
        omega
theorem foldl_other (k : Nat) : ∀ (ls : List (Nat × List UInt8)) (f : List (List UInt8)), (∀ p ∈ ls, p.1 ≠ k) → (ls.foldl (fun f p => f.set p.1 p.2) f).getD k [] = f.getD k []
  | [], _, _ => rfl
  | p :: ls, f, h => (foldl_other k ls _ (fun q hq => h q (by simp [hq]))).trans (by
      have := h p (by simp)
      rw [List.getD_eq_getElem?_getD, List.getElem?_set_ne this, ← List.getD_eq_getElem?_getD])
theorem torn_other (sz : Nat) (fates : List Int) (k : Nat) : ∀ (ls : List (Nat × List UInt8)) (f : List (List UInt8)) (i : Nat), (∀ p ∈ ls, p.1 ≠ k) → (torn sz fates f i ls).getD k [] = f.getD k []
  | [], _, _, _ => rfl
  | p :: ls, f, i, h => (torn_other sz fates k ls _ (i + 1) (fun q hq => h q (by simp [hq]))).trans (by
      have := h p (by simp)
      unfold tear
      rw [List.getD_eq_getElem?_getD, List.getElem?_set_ne this, ← List.getD_eq_getElem?_getD])
theorem Did.sync (a : Int) (m : Dev) : Did a m m.sync.1 := by
  unfold Dev.sync
  split
  · exact Did.refl _ _
  · split
    · exact Did.act _ _
    · exact ⟨rfl, rfl, by show m.acts + 1 ≤ _; omega, fun k _ h => ⟨foldl_other k _ _ h, by simp [Dev.synced]⟩⟩
theorem Did.crash (a : Int) (m : Dev) (fates : List Int) : Did a m (m.crash fates) :=
  ⟨rfl, rfl, by show m.acts ≤ _; omega, fun k _ h => ⟨torn_other _ _ k _ _ _ h, by simp [Dev.crash]⟩⟩
theorem Did.arm (a : Int) (m : Dev) (n : Int) : Did a m (m.arm n) := ⟨rfl, rfl, by show m.acts ≤ _; omega, fun k _ h => ⟨rfl, h⟩⟩
theorem Did.rot (a : Int) (m : Dev) (b : Int) (c : UInt8) : Did a m (m.rot a b c).1 := by
  unfold Dev.rot
  split
  · next h0 =>
    refine ⟨rfl, rfl, by show m.acts ≤ _; omega, fun k hk h => ⟨?_, h⟩⟩
    have : a.toNat ≠ k := by omega
    show (m.fast.modify a.toNat _).getD k [] = _
    simp [List.getD_eq_getElem?_getD, List.getElem?_modify, this]
  · exact Did.refl _ _

theorem mod8 (kd : Int) : ∃ r : Int, kd.tmod 8 = r ∧ -8 < r ∧ r < 8 ∧ ∃ q : Int, (r + 8).tmod 8 = q ∧ 0 ≤ q ∧ q < 8 := by
  have h1 := Int.tmod_lt_of_pos kd (show (0 : Int) < 8 by decide)
  have h2 : -8 < kd.tmod 8 := by
    rcases Int.le_total 0 kd with h | h
    · have := Int.tmod_nonneg 8 h
      omega
    · have e := Int.neg_tmod kd 8
      have h3 := Int.tmod_lt_of_pos (-kd) (show (0 : Int) < 8 by decide)
      omega
  refine ⟨_, rfl, h2, h1, _, rfl, Int.tmod_nonneg _ (by omega), Int.tmod_lt_of_pos _ (by decide)⟩
set_option maxRecDepth 100000 in
set_option maxHeartbeats 1000000 in
set_option maxHeartbeats 4000000 in
theorem did_any (w : World) (D : List Nat) (g : Nat) (m : Dev) (h : DV w D g m) (hacts : m.acts ≤ 1000000000) (kd at_ ln : Int) (b : UInt8) (fv : Value) (fates : List Int) (hv : Ints w fv fates) (hvD : fates ≠ [] → ∀ b, fv.ownBlock = some b → b ∉ D) (hln : ln ≤ 9223372036854775807) (hat : at_ ≤ 9223372036854775807) :
    Calls Try.prog 36 #[.pointer (some ⟨g, 0, none⟩), .agg #[.int .i64 kd, .int .i64 at_, .int .i64 ln, .int .u8 (b.toNat : Int), fv]] w fun e w' => e = .returned (.tuple #[]) ∧ ∃ D' m', DV w' D' g m' ∧ Did at_ m m' ∧ Grew w D D' ∧ Keep D w w' := by
  obtain ⟨fa, fc, rfl, -⟩ := hv.form
  obtain ⟨w1, hw1⟩ : ∃ w1, w.alloc (.cells #[.int .i64 kd, .int .i64 at_, .int .i64 ln, .int .u8 (b.toNat : Int), .slice fa fates.length fc] 37) = w1 := ⟨_, rfl⟩
  have hA : Keep [] w w1 := by rw [← hw1]; exact (Keep.refl [] w).alloc _
  have hB : w1.heap[w.heap.size]? = some (.cells #[.int .i64 kd, .int .i64 at_, .int .i64 ln, .int .u8 (b.toNat : Int), .slice fa fates.length fc] 37 (0, 0)) := by rw [← hw1]; exact heap_alloc_new w _
  have hD1 := h.keep hA (by simp)
  have hG1 : Grew w D D := Grew.refl _ _
  have g0 := cell_of_row w1 _ 0 _ _ _ hB
  have g1 := cell_of_row w1 _ 1 _ _ _ hB
  have g2 := cell_of_row w1 _ 2 _ _ _ hB
  have g3 := cell_of_row w1 _ 3 _ _ _ hB
  have g4 := cell_of_row w1 _ 4 _ _ _ hB
  simp at g0 g1 g2 g3 g4
  have hv1 := hv.keep hA (by simp)
  obtain ⟨r, hr, hr1, hr2, q, hq, hq1, hq2⟩ := mod8 kd
  have q4 : IntKind.i64.wrap (r + 8) = r + 8 := i64_wrap (by omega) (by omega)
  have fin : ∀ (w' : World) (D' : List Nat), Grew w1 D D' → Keep D w1 w' → Grew w D D' ∧ Keep D w w' := fun _ _ hg hk =>
    ⟨⟨hg.1, fun b hb => (hg.2 b hb).elim .inl (fun h => .inr (Nat.le_trans hA.size h))⟩, keep_bump (hA.mono (by simp)) hk (fun b hb => .inl hb)⟩
  have HV := Lib.hid (And.intro hv1 hD1)
  have HB := Lib.hid hB
  have HF := Lib.hid fin
  clear hv1 hD1 hB fin h hv hA
  rcases (by omega : q = 3 ∨ q = 4 ∨ q = 5 ∨ q = 6 ∨ q = 7 ∨ (q ≠ 3 ∧ q ≠ 4 ∧ q ≠ 5 ∧ q ≠ 6 ∧ q ≠ 7)) with rfl | rfl | rfl | rfl | rfl | ⟨x3, x4, x5, x6, x7⟩
  · have hc := sync_any w1 D g m HV.out.2 hacts
    go_enter Try.func36, Try.ntmps36
    go_wp2_with fail
    refine hc.mono ?_
    rintro e w2 ⟨rfl, D', hD', hG', hK'⟩
    go_wp2
    go_end0
    exact ⟨rfl, D', _, hD', Did.sync _ _, HF.out _ _ hG' hK'⟩
  · have hc := read_any w1 D g m HV.out.2 hacts at_
    go_enter Try.func36, Try.ntmps36
    go_wp2_with fail
    refine hc.mono ?_
    rintro e w2 ⟨v, rfl, -, hK'⟩
    go_wp2
    go_end0
    exact ⟨rfl, D, m, HV.out.2.keep hK' (by simp), Did.refl _ _, HF.out _ _ (Grew.refl _ _) (hK'.mono (by simp))⟩
  · have hc := arm_any w1 D g m HV.out.2 at_ hat
    go_enter Try.func36, Try.ntmps36
    go_wp2_with fail
    refine hc.mono ?_
    rintro e w2 ⟨rfl, hD', hK'⟩
    go_wp2
    go_end0
    exact ⟨rfl, D, _, hD', Did.arm _ _ _, HF.out _ _ (Grew.refl _ _) hK'⟩
  · have hc := crash_any w1 D g m HV.out.2 hacts _ fates HV.out.1 hvD
    go_enter Try.func36, Try.ntmps36
    go_wp2_with fail
    refine hc.mono ?_
    rintro e w2 ⟨rfl, D', hD', hG', hK'⟩
    go_wp2
    go_end0
    exact ⟨rfl, D', _, hD', Did.crash _ _ _, HF.out _ _ hG' hK'⟩
  · have hc := rot_any w1 D g m HV.out.2 at_ ln b
    go_enter Try.func36, Try.ntmps36
    go_wp2_with fail
    refine hc.mono ?_
    rintro e w2 ⟨rfl, D', hD', hG', hK'⟩
    go_wp2
    go_end0
    exact ⟨rfl, D', _, hD', Did.rot _ _ _ _, HF.out _ _ hG' hK'⟩
  · clear g1 g2 g3 g4
    go_enter Try.func36, Try.ntmps36
    go_wp2_with fail
    refine wp_region_his [] [6, 7] (fun _ => 0) (by kernel_rfl) (by kernel_rfl) ?_
    intro w2 hk2 hh
    clear hh g0
    have g0 := fun w' (h' : Keep [] w2 w') => cell_of_row w' _ 0 _ _ _ ((hk2.trans h').blk (by simp) HB.out)
    have g1 := fun w' (h' : Keep [] w2 w') => cell_of_row w' _ 1 _ _ _ ((hk2.trans h').blk (by simp) HB.out)
    have g2 := fun w' (h' : Keep [] w2 w') => cell_of_row w' _ 2 _ _ _ ((hk2.trans h').blk (by simp) HB.out)
    have g3 := fun w' (h' : Keep [] w2 w') => cell_of_row w' _ 3 _ _ _ ((hk2.trans h').blk (by simp) HB.out)
    have g4 := fun w' (h' : Keep [] w2 w') => cell_of_row w' _ 4 _ _ _ ((hk2.trans h').blk (by simp) HB.out)
    simp at g0 g1 g2 g3 g4
    (refine his_q rfl rfl (fun K hK => ?_); apply Exists.intro; refine ⟨fun w' hC => ?_, ?_⟩; ((try simp [Sg.upd] at hC); go_simp <;> rfl); go_simp; refine hK _ _ ?_; clear hK K)
    (refine his_q rfl rfl (fun K hK => ?_); apply Exists.intro; refine ⟨fun w' hC => ?_, ?_⟩; ((try simp [Sg.upd] at hC); go_simp <;> rfl); go_simp; refine hK _ _ ?_; clear hK K)
    (refine his_q rfl rfl (fun K hK => ?_); apply Exists.intro; refine ⟨fun w' hC => ?_, ?_⟩; ((try simp [Sg.upd] at hC); go_simp <;> rfl); go_simp; refine hK _ _ ?_; clear hK K)
    (refine his_q rfl rfl (fun K hK => ?_); apply Exists.intro; refine ⟨fun w' hC => ?_, ?_⟩; ((try simp [Sg.upd] at hC); go_simp <;> rfl); go_simp; refine hK _ _ ?_; clear hK K)
    (refine his_q rfl rfl (fun K hK => ?_); apply Exists.intro; refine ⟨fun w' hC => ?_, ?_⟩; ((try simp [Sg.upd] at hC); go_simp <;> rfl); go_simp; refine hK _ _ ?_; clear hK K)
    refine his_c rfl rfl (.int .i64 (m.sz : Int)) (fun K hK => ?_)
    refine ⟨fun w' hC => Yields.call 16 #[.pointer (some ⟨g, 0, none⟩)] ?_ (by kernel_rfl) ?_, ?_⟩
    · go_simp
    · exact size_dev_any w' D g m (HV.out.2.keep (hk2.trans hC) (by simp))
    go_simp
    refine hK _ _ ?_
    clear hK K
    (refine his_l rfl rfl (fun K hK => ?_); go_simp)
    refine (bytes_any kd at_ ln b (.slice fa fates.length fc) m.sz (by obtain ⟨hw, -⟩ := HV.out.2; exact hw.s2) _ ⟨_, _, _, rfl⟩).mono ?_
    rintro x w3 ⟨v3, l3, rfl, ho3, hl3, hk3⟩
    refine hK _ _ hk3 ?_
    clear hK K
    have hk13 := hk2.trans hk3
    (refine his_last rfl (by kernel_rfl) rfl (fun K hK => ?_); go_simp)
    refine (write_any w3 D g m (HV.out.2.keep hk13 (by simp)) hacts at_ v3 l3 (ho3.bytes (by omega))).mono ?_
    rintro x w4 ⟨rfl, D', hD', hG', hK'⟩
    refine hK _ _ ?_
    clear hK K
    refine his_nil ?_
    have hG2 : Grew w1 D D' := ⟨hG'.1, fun b hb => (hG'.2 b hb).elim .inl (fun h => .inr (Nat.le_trans hk13.size h))⟩
    have hK2 : Keep D w1 w4 := keep_bump (hk13.mono (by simp)) hK' (fun b hb => .inl hb)
    have HH := Lib.hid (And.intro hD' (HF.out _ _ hG2 hK2))
    clear hG2 hK2 hD' hG' hK' ho3 hk13 hk3 hk2 g0 g1 g2 g3 g4
    go_wp2
    go_end0
    exact ⟨rfl, D', _, HH.out.1, Did.put _ _ _, HH.out.2⟩
end Go.Proofs.Ytjkjiabfhhnngaa
