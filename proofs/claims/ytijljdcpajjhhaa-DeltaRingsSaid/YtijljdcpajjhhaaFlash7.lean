import Derived.Test.YtijljdcpajjhhaaFlash6
/-! The walk of flash's Crash. -/
namespace Go.Proofs.Ytijljdcpajjhhaa
open Go.RowKit Sg
set_option linter.unusedSimpArgs false
set_option linter.unusedVariables false

/-- A slice shows these numbers. -/
def Ints (w : World) (v : Value) (l : List Int) : Prop :=
  ∃ ao cap, v = .slice ao l.length cap ∧ l.length ≤ cap ∧ (cap ≤ 9223372036854775807 ∧ l.length ≤ 140737488355328) ∧ (ao = none → l = []) ∧ (∀ x ∈ l, -9223372036854775808 ≤ x ∧ x ≤ 9223372036854775807) ∧
    ∀ ad, ao = some ad → ∀ i (h : i < l.length), w.cell? (ad.add i) = some (.int .i64 l[i])
theorem Ints.nil (w : World) : Ints w (.slice none 0 0) [] := ⟨none, 0, rfl, by simp, ⟨by decide, by decide⟩, fun _ => rfl, by simp, fun _ h => by cases h⟩
theorem Ints.keep {S : List Nat} {w w' : World} {v : Value} {l : List Int} (h : Ints w v l) (k : Keep S w w') (hv : l ≠ [] → ∀ b, v.ownBlock = some b → b ∉ S) : Ints w' v l := by
  obtain ⟨ao, cap, rfl, h1, h2, h3, h5, h4⟩ := h
  refine ⟨ao, cap, rfl, h1, h2, h3, h5, fun ad e i hi => k.cell ?_ (h4 ad e i hi)⟩
  subst e
  have := hv (fun e => by rw [e] at hi; simp at hi) ad.block rfl
  have e : (ad.add i).block = ad.block := by unfold Addr.add; split <;> rfl
  rw [e]; exact this
theorem Ints.form {w : World} {v : Value} {l : List Int} (h : Ints w v l) : ∃ ao cap, v = .slice ao l.length cap ∧ l.length ≤ cap ∧ l.length ≤ 140737488355328 ∧ cap ≤ 9223372036854775807 := by
  obtain ⟨ao, cap, rfl, h1, h2, _⟩ := h
  exact ⟨ao, cap, rfl, h1, h2.2, h2.1⟩
theorem Ints.spot {w : World} {ao : Option Addr} {n cap : Nat} {l : List Int} (h : Ints w (.slice ao n cap) l) (hl : 0 < l.length) :
    ∃ b o, ao = some ⟨b, o, none⟩ ∧ b < w.heap.size ∧ ∀ i (h : i < l.length), w.cell? ⟨b, o + i, none⟩ = some (.int .i64 l[i]) := by
  obtain ⟨ao', cap', e, h1, h2, h3, h5, h4⟩ := h
  cases e
  cases ao with
  | none => rw [h3 rfl] at hl; simp at hl
  | some ad =>
    have h0 := h4 ad rfl 0 hl
    rw [show ad.add 0 = ad by simp [Addr.add]] at h0
    have hs : ad.spot = none := by
      cases hsp : ad.spot with
      | none => rfl
      | some x =>
        unfold World.cell? at h0
        split at h0
        · simp [hsp] at h0
        · cases h0
    obtain ⟨b, o, sp⟩ := ad
    simp only at hs
    subst hs
    refine ⟨b, o, rfl, World.block_lt_of_cell? w _ h0, fun i hi => ?_⟩
    have := h4 _ rfl i hi
    rwa [Addr.add_lit] at this
theorem Ints.range {w : World} {v : Value} {l : List Int} (h : Ints w v l) : ∀ x ∈ l, -9223372036854775808 ≤ x ∧ x ≤ 9223372036854775807 := by
  obtain ⟨_, _, _, _, _, _, h5, _⟩ := h
  exact h5

theorem fate_go (x M : Int) (hM : 0 < M) : (x.tmod M + M).tmod M = x % M := by
  have h1 := Int.tmod_lt_of_pos x hM
  have h2 : -M < x.tmod M := by
    have := Int.lt_tmod_of_pos x hM
    exact this
  rw [Int.tmod_eq_emod_of_nonneg (by omega), Int.add_emod_right]
  have h3 := Int.mul_tdiv_add_tmod x M
  conv => rhs; rw [← h3]
  rw [Int.add_comm, Int.add_mul_emod_self_left]
theorem torn_succ (sz : Nat) (fates : List Int) : ∀ (l : List (Nat × List UInt8)) (f : List (List UInt8)) (i j : Nat) (hj : j < l.length), torn sz fates f i (l.take (j + 1)) = tear sz fates (torn sz fates f i (l.take j)) (i + j) l[j]
  | [], f, i, j, hj => by simp at hj
  | p :: l, f, i, 0, hj => rfl
  | p :: l, f, i, j + 1, hj => by
    have := torn_succ sz fates l (tear sz fates f i p) (i + 1) j (by simpa using hj)
    simp only [List.take_succ_cons, torn, List.getElem_cons_succ]
    rw [this]
    congr 1
    omega

theorem DevAt.keep0 {w w' : World} {D : List Nat} {g : Nat} {m : Dev} {fm pm : Nat} {lv : Value} {fv pv : Nat → Option Value} (h : DevAt w D g m fm pm lv fv pv) (k : Keep [] w w') : DevAt w' D g m fm pm lv fv pv :=
  h.turn2 k (CellsOf.nil _ _) (h.rowD.keep k (by simp)) rfl rfl rfl rfl (h.loose.move k NotT.nil NotT.nil (fun _ h => h)) (fun _ h => h) (fun b hb => Nat.lt_of_lt_of_le (h.lt b hb) k.size)

set_option maxRecDepth 100000 in
set_option maxHeartbeats 1000000 in
set_option maxHeartbeats 4000000 in
theorem crash_any (w : World) (D : List Nat) (g : Nat) (m : Dev) (h : DV w D g m) (hacts : m.acts ≤ 1000000000) (v : Value) (fates : List Int) (hv : Ints w v fates) (hvD : fates ≠ [] → ∀ b, v.ownBlock = some b → b ∉ D) :
    Calls Try.prog 20 #[.pointer (some ⟨g, 0, none⟩), v] w fun e w' => e = .returned (.tuple #[]) ∧ ∃ D', DV w' D' g (m.crash fates) ∧ Grew w D D' ∧ Keep D w w' := by
  obtain ⟨hw, fm, pm, lv, fv, pv, h⟩ := h
  obtain ⟨la, lc, rfl⟩ := h.loose.form
  have hll : m.loose.length ≤ 1000000000 := Nat.le_trans hw.ll hacts
  obtain ⟨ao, cap, rfl, hlc, hm, hcap⟩ := hv.form
  have c1 := h.rowD.c1
  have c3 := h.rowD.c3
  have s2 := hw.s2
  have n2 := hw.n2
  have H := Lib.hid h
  have HV := Lib.hid hv
  clear h hv
  go_enter Try.func20, Try.ntmps20
  go_wp2
  go_loopw [20] (fun i wr => ∃ (j : Nat) (fv' : Nat → Option Value) (D' : List Nat), j ≤ m.loose.length ∧ i = .int .i64 j ∧ Hid (DevAt wr D' g { m with fast := torn m.sz fates m.fast 0 (m.loose.take j) } fm pm (.slice la m.loose.length lc) fv' pv) ∧ Hid (Grew w D D') ∧ Hid (Keep D w wr)) (fun i _ => m.loose.length - (intOf i).toNat)
  case atStart => exact ⟨0, fv, D, by omega, rfl, H.out, Grew.refl _ _, Keep.refl _ _⟩
  case round =>
    obtain ⟨j, fv', D', hj, rfl, HD, HG, HK⟩ := hrel
    by_cases hlt : j < m.loose.length
    · have h3 := HD.out
      obtain ⟨b, cap2, u, e1, a0, a1, ho, hoD, hbD, hcap1, hcap2⟩ := LooseV.at (ls := m.loose) h3.loose j hlt
      obtain rfl : la = some ⟨b, 0, none⟩ := by injection e1
      obtain ⟨hp1, hp2⟩ := hw.ls m.loose[j] (List.getElem_mem hlt)
      obtain ⟨⟨qk, ql⟩, hq⟩ : ∃ q, m.loose[j] = q := ⟨_, rfl⟩
      rw [hq] at a0 ho hp1 hp2
      simp only at a0 ho hp1 hp2
      have HQ := Lib.hid hq
      have hbv := ho.bytes (by have := hw.s2; omega)
      obtain ⟨va, vc, rfl, hvc, -, hvc2⟩ := hbv.form
      rw [hp2] at hbv a1 hvc
      have hA := (Keep.refl [] wr).alloc (.cells #[.int .i64 (qk : Int), .slice va m.sz vc] 156)
      have hB := heap_alloc_new wr (.cells #[.int .i64 (qk : Int), .slice va m.sz vc] 156)
      have HB := Lib.hid hB
      have HA := Lib.hid hA
      have HBV := Lib.hid hbv
      have H3 := Lib.hid h3
      have HLT := Lib.hid hlt
      obtain ⟨va', hva⟩ : ∃ a o, va = some ⟨a, o, none⟩ := by
        obtain ⟨b', o', e, -⟩ := hbv.spot (by rw [hp2]; have := hw.s1; omega)
        exact ⟨b', o', e⟩
      obtain ⟨vo, rfl⟩ := hva
      have HFV := Lib.hid ((HV.out.keep HK.out hvD).keep ((Keep.refl [] wr).alloc (.cells #[.int .i64 (qk : Int), .slice (some ⟨va', vo, none⟩) m.sz vc] 156)) (by simp))
      by_cases hi : j < fates.length
      · obtain ⟨fb, fo, rfl, -, hfc⟩ := HFV.out.spot (by omega)
        have hfj := hfc j hi
        have hra := HFV.out.range fates[j] (List.getElem_mem hi)
        have hMpos : (0 : Int) < (m.sz : Int) + 1 := by omega
        have t1 := Int.tmod_lt_of_pos fates[j] hMpos
        have t2 := Int.lt_tmod_of_pos fates[j] hMpos
        have t3 := fate_go fates[j] _ hMpos
        have hfate : ((fate fates m.sz j : Nat) : Int) = fates[j] % ((m.sz : Int) + 1) := by
          unfold fate
          rw [if_pos hi, List.getD_eq_getElem?_getD, List.getElem?_eq_getElem hi, Option.getD_some]
          have h2 := Int.emod_nonneg fates[j] (show (m.sz : Int) + 1 ≠ 0 by omega)
          exact Int.toNat_of_nonneg h2
        rw [← hfate] at t3
        clear hfate
        generalize fates[j] = x at hfj hra t1 t2 t3
        generalize hnn : fate fates m.sz j = nn at t3
        have HNz := Lib.hid hnn
        obtain ⟨y, hy⟩ : ∃ y, x.tmod ((m.sz : Int) + 1) = y := ⟨_, rfl⟩
        rw [hy] at t1 t2 t3
        have hyw : RowKit.wrap64 (y + ((m.sz : Int) + 1)) = y + ((m.sz : Int) + 1) := by unfold RowKit.wrap64; omega
        clear e1 ho hoD hB hA h3 hbv hfc hnn hq
        have hnl := fate_le fates m.sz j
        rw [HNz.out] at hnl
        go_wp2_with fail
        refine wp_region_hisG (Since (wr.alloc (.cells #[.int .i64 (qk : Int), .slice (some ⟨va', vo, none⟩) m.sz vc] 156))) (Since.tr _) (Since.rf _) [11, 16, 19, 20] (fun _ => 0) (by kernel_rfl) (by kernel_rfl) ?_
        intro w5 hk5 hh
        clear hh
        have q2 := fun w' (h' : Since (wr.alloc (.cells #[.int .i64 (qk : Int), .slice (some ⟨va', vo, none⟩) m.sz vc] 156)) w5 w') => (HA.out.trans (h' hk5)).cell (p := ⟨g, 2, none⟩) (by simp) H3.out.rowD.c2
        have qB0 := fun w' (h' : Since (wr.alloc (.cells #[.int .i64 (qk : Int), .slice (some ⟨va', vo, none⟩) m.sz vc] 156)) w5 w') => cell_of_row w' _ 0 _ _ _ ((h' hk5).blk (by simp) HB.out)
        have qB1 := fun w' (h' : Since (wr.alloc (.cells #[.int .i64 (qk : Int), .slice (some ⟨va', vo, none⟩) m.sz vc] 156)) w5 w') => cell_of_row w' _ 1 _ _ _ ((h' hk5).blk (by simp) HB.out)
        simp at qB0 qB1
        have hnv : (nn : Int) ≤ (vc : Int) := by omega
        have hns : (nn : Int) ≤ (m.sz : Int) := by omega
        clear a0 a1
        (repeat (first | (refine his_q rfl rfl (fun K hK => ?_); apply Exists.intro; refine ⟨fun w' hC => ?_, ?_⟩; ((try simp [Sg.upd] at hC); go_simp <;> rfl); go_simp; refine hK _ _ ?_; clear hK K) | (refine his_s rfl (fun K hK => ?_); go_simp; refine hK _ _ ?_; clear hK K)))
        (refine his_l rfl rfl (fun K hK => ?_); go_simp)
        refine (clone_any _ (ql.take nn) _ ((HBV.out.keep (HA.out.trans hk5) (by simp)).take (by rw [hp2]; omega))).mono ?_
        rintro x6 w6 ⟨v6, rfl, ho6, hk6⟩
        refine hK _ _ (fun h => h.trans hk6) ?_
        clear hK K
        have hk46 := hk5.trans hk6
        have h6 := H3.out.keep0 (HA.out.trans hk46)
        have hfl := torn_lens fates (m.loose.take j) m.fast 0 ⟨hw.fl, hw.fs⟩ (fun p hp => hw.ls p (List.mem_of_mem_take hp))
        have hWf : Dev.Wf { m with fast := torn m.sz fates m.fast 0 (m.loose.take j) } := { n1 := hw.n1, n2 := hw.n2, s1 := hw.s1, s2 := hw.s2, fl := hfl.1, fs := hfl.2, pl := hw.pl, ps := hw.ps, ll := hw.ll, ls := hw.ls, ar := hw.ar }
        have hqf : qk < (torn m.sz fates m.fast 0 (m.loose.take j)).length := by rw [hfl.1]; exact hp1
        (repeat (first | (refine his_q rfl rfl (fun K hK => ?_); apply Exists.intro; refine ⟨fun w' hC => ?_, ?_⟩; ((try simp [Sg.upd] at hC); go_simp <;> rfl); go_simp; refine hK _ _ ?_; clear hK K) | (refine his_s rfl (fun K hK => ?_); go_simp; refine hK _ _ ?_; clear hK K)))
        (refine his_l rfl rfl (fun K hK => ?_); go_simp)
        refine (kept_any w6 D' g _ fm pm _ fv' pv hWf h6 qk hqf).mono ?_
        rintro x7 w7 ⟨v7, rfl, ho7, hk7⟩
        refine hK _ _ (fun h => h.trans hk7) ?_
        clear hK K
        have hk47 := hk46.trans hk7
        have hf7 := hfl.2 qk hqf
        have hb7 := ho7.bytes (by rw [hf7]; omega)
        obtain ⟨ka, kc, rfl, hkc, -, hkc2⟩ := hb7.form
        rw [hf7] at hb7 hkc
        obtain ⟨kb, ko, rfl, -, -⟩ := hb7.spot (by rw [hf7]; have := hw.s1; omega)
        have hcut := hb7.drop (k := nn) (by rw [hf7]; omega)
        rw [hf7] at hcut
        have hkn : (nn : Int) ≤ (kc : Int) := by omega
        have ho67 : OwnB w7 (wr.heap.size + 1) 5 v6 (ql.take nn) := (ho6.base (by have := hk5.size; simpa using this)).keep hk7 (by simp)
        have hql : (ql.take nn).length = nn := by rw [List.length_take, hp2]; omega
        obtain ⟨va6, vc6, rfl, -⟩ := (ho67.bytes (by rw [hql]; omega)).form
        rw [hql] at ho67
        have htl : ((torn m.sz fates m.fast 0 (m.loose.take j))[qk].drop nn).length = m.sz - nn := by rw [List.length_drop, hf7]
        clear ho7 hb7 h6 ho6
        by_cases hkn2 : kc = nn
        · rw [if_pos hkn2] at hcut
          subst hkn2
          rw [Nat.sub_self, show m.sz - kc = 0 by omega] at hcut
          (repeat (first | (refine his_q rfl rfl (fun K hK => ?_); apply Exists.intro; refine ⟨fun w' hC => ?_, ?_⟩; ((try simp [Sg.upd] at hC); go_simp <;> rfl); go_simp; refine hK _ _ ?_; clear hK K) | (refine his_s rfl (fun K hK => ?_); go_simp; refine hK _ _ ?_; clear hK K)))
          refine his_l rfl rfl (fun K hK => ?_)
          refine loudly_append (.tmp 50) (.tmp 57) 30 5 rfl (wr.heap.size + 1) Try.underlying30 (by kernel_rfl) (v := .slice va6 kc vc6) (src := .slice (some ⟨kb, ko, none⟩) 0 0) rfl rfl ho67 hcut (by rw [htl, hql]; omega) (by have := hk47.size; simpa using this) ?_
          intro v8 w8 ho8 hk8
          have hown6 : ∀ b ∈ (Value.slice va6 kc vc6).ownBlock.toList, b ∈ ([] : List Nat) ∨ (wr.alloc (.cells #[.int .i64 (qk : Int), .slice (some ⟨va', vo, none⟩) m.sz vc] 156)).heap.size ≤ b := fun b hb => by
            rw [Option.mem_toList] at hb
            rcases ho67.2 with ⟨h, -⟩ | ⟨g', c', cur, h, hg', -⟩
            · rw [h] at hb; simp [Value.ownBlock] at hb
            · rw [h] at hb
              simp [Value.ownBlock] at hb
              subst hb
              exact .inr (by simpa using hg')
          refine hK _ _ (fun h => h.trans' hk8 hown6) ?_
          clear hK K
          have hk48 := hk47.trans' hk8 hown6
          have h8 := H3.out.keep0 (HA.out.trans hk48)
          obtain ⟨w9, hrun, hM, hk9, hs9⟩ := h8.fast.store Try.underlying3 Try.underlying147 qk hp1 (show m.n ≤ 1000000000 by omega) v8
          have HR := Lib.hid hrun
          clear hrun
          refine his_last rfl (by kernel_rfl) rfl (fun K hK => ?_)
          refine loudly_mapUpdate_run (.tmp 42) (.tmp 45) (.tmp 58) 147 rfl (mv := .map (some fm)) (xv := .int .i64 (qk : Int)) (yv := v8) (w' := w9) rfl rfl rfl HR.out ?_
          refine hK _ _ ?_
          clear hK K q2 qB0 qB1
          refine his_nil ?_
          have ho9 : OwnB w9 0 5 v8 (ql.take kc ++ (torn m.sz fates m.fast 0 (m.loose.take j))[qk].drop kc) := ownB_move (ho8.base (Nat.zero_le _)) hk9 (NotT.map h8.fast)
          have hbase8 : ∀ b, v8.ownBlock = some b → wr.heap.size ≤ b := fun b hb => by
            rcases ho8.2 with ⟨h, -⟩ | ⟨g', c', cur, h, hg', -⟩
            · rw [h] at hb; simp [Value.ownBlock] at hb
            · rw [h] at hb; simp [Value.ownBlock] at hb; omega
          have hk3 : Keep [] wr w8 := HA.out.trans hk48
          have hk39 : Keep [fm] wr w9 := (hk3.mono (by simp)).trans hk9
          have hD' : ∀ b ∈ D', b ∈ D' ++ newer wr w9 := fun b hb => List.mem_append_left _ hb
          have hin : inD (D' ++ newer wr w9) v8 := fun b hb => List.mem_append_right _ (mem_newer.2 ⟨hbase8 b hb, ownsRow_lt ho9 hb⟩)
          have hnew := (H3.out).fastTurn (m' := { m with fast := torn m.sz fates m.fast 0 (m.loose.take (j + 1)) }) hk39 hD' (fun b hb => by
            rcases List.mem_append.1 hb with h | h
            · exact Nat.lt_of_lt_of_le (H3.out.lt b h) hk39.size
            · exact (mem_newer.1 h).2) hM ho9 hin (by
              rw [torn_succ _ _ _ _ _ _ HLT.out, HQ.out, Nat.zero_add]
              unfold tear
              rw [HNz.out, List.getD_eq_getElem?_getD, List.getElem?_eq_getElem hqf, Option.getD_some])
          have hG : Grew w D (D' ++ newer wr w9) := HG.out.trans (Grew.newer wr w9 D') HK.out.size
          have hKK : Keep D w w9 := keep_bump HK.out hk39 (fun b hb => by
            rw [List.mem_singleton] at hb
            rw [hb]
            exact HG.out.2 _ H3.out.inF)
          clear hin hD' ho9 hk39 hM hk9 hs9 ho8 hk8 h8 hk48 hk47 hk46 hk3 ho67 hbase8 hk7 hk6 hk5
          go_wp2
          go_roundw
          case rel => exact ⟨j + 1, _, _, HLT.out, by go_num, hnew, hG, hKK⟩
          case measure => have := HLT.out; simp [intOf]; omega
        · rw [if_neg hkn2] at hcut
          have hcut2 : Bytes w7 (.slice (some ⟨kb, ko + nn, none⟩) (m.sz - nn) (kc - nn)) ((torn m.sz fates m.fast 0 (m.loose.take j))[qk].drop nn) := by
            have := hcut
            simp only [Option.map_some, Addr.add_lit] at this
            exact this
          clear hcut
          (repeat (first | (refine his_q rfl rfl (fun K hK => ?_); apply Exists.intro; refine ⟨fun w' hC => ?_, ?_⟩; ((try simp [Sg.upd] at hC); go_simp <;> rfl); go_simp; refine hK _ _ ?_; clear hK K) | (refine his_s rfl (fun K hK => ?_); go_simp; refine hK _ _ ?_; clear hK K)))
          refine his_l rfl rfl (fun K hK => ?_)
          refine loudly_append (.tmp 50) (.tmp 57) 30 5 rfl (wr.heap.size + 1) Try.underlying30 (by kernel_rfl) (v := .slice va6 nn vc6) (src := .slice (some ⟨kb, ko + nn, none⟩) (m.sz - nn) (kc - nn)) rfl rfl ho67 hcut2 (by rw [htl, hql]; omega) (by have := hk47.size; simpa using this) ?_
          intro v8 w8 ho8 hk8
          have hown6 : ∀ b ∈ (Value.slice va6 nn vc6).ownBlock.toList, b ∈ ([] : List Nat) ∨ (wr.alloc (.cells #[.int .i64 (qk : Int), .slice (some ⟨va', vo, none⟩) m.sz vc] 156)).heap.size ≤ b := fun b hb => by
            rw [Option.mem_toList] at hb
            rcases ho67.2 with ⟨h, -⟩ | ⟨g', c', cur, h, hg', -⟩
            · rw [h] at hb; simp [Value.ownBlock] at hb
            · rw [h] at hb
              simp [Value.ownBlock] at hb
              subst hb
              exact .inr (by simpa using hg')
          refine hK _ _ (fun h => h.trans' hk8 hown6) ?_
          clear hK K
          have hk48 := hk47.trans' hk8 hown6
          have h8 := H3.out.keep0 (HA.out.trans hk48)
          obtain ⟨w9, hrun, hM, hk9, hs9⟩ := h8.fast.store Try.underlying3 Try.underlying147 qk hp1 (show m.n ≤ 1000000000 by omega) v8
          have HR := Lib.hid hrun
          clear hrun
          refine his_last rfl (by kernel_rfl) rfl (fun K hK => ?_)
          refine loudly_mapUpdate_run (.tmp 42) (.tmp 45) (.tmp 58) 147 rfl (mv := .map (some fm)) (xv := .int .i64 (qk : Int)) (yv := v8) (w' := w9) rfl rfl rfl HR.out ?_
          refine hK _ _ ?_
          clear hK K q2 qB0 qB1
          refine his_nil ?_
          have ho9 : OwnB w9 0 5 v8 (ql.take nn ++ (torn m.sz fates m.fast 0 (m.loose.take j))[qk].drop nn) := ownB_move (ho8.base (Nat.zero_le _)) hk9 (NotT.map h8.fast)
          have hbase8 : ∀ b, v8.ownBlock = some b → wr.heap.size ≤ b := fun b hb => by
            rcases ho8.2 with ⟨h, -⟩ | ⟨g', c', cur, h, hg', -⟩
            · rw [h] at hb; simp [Value.ownBlock] at hb
            · rw [h] at hb; simp [Value.ownBlock] at hb; omega
          have hk3 : Keep [] wr w8 := HA.out.trans hk48
          have hk39 : Keep [fm] wr w9 := (hk3.mono (by simp)).trans hk9
          have hD' : ∀ b ∈ D', b ∈ D' ++ newer wr w9 := fun b hb => List.mem_append_left _ hb
          have hin : inD (D' ++ newer wr w9) v8 := fun b hb => List.mem_append_right _ (mem_newer.2 ⟨hbase8 b hb, ownsRow_lt ho9 hb⟩)
          have hnew := (H3.out).fastTurn (m' := { m with fast := torn m.sz fates m.fast 0 (m.loose.take (j + 1)) }) hk39 hD' (fun b hb => by
            rcases List.mem_append.1 hb with h | h
            · exact Nat.lt_of_lt_of_le (H3.out.lt b h) hk39.size
            · exact (mem_newer.1 h).2) hM ho9 hin (by
              rw [torn_succ _ _ _ _ _ _ HLT.out, HQ.out, Nat.zero_add]
              unfold tear
              rw [HNz.out, List.getD_eq_getElem?_getD, List.getElem?_eq_getElem hqf, Option.getD_some])
          have hG : Grew w D (D' ++ newer wr w9) := HG.out.trans (Grew.newer wr w9 D') HK.out.size
          have hKK : Keep D w w9 := keep_bump HK.out hk39 (fun b hb => by
            rw [List.mem_singleton] at hb
            rw [hb]
            exact HG.out.2 _ H3.out.inF)
          clear hin hD' ho9 hk39 hM hk9 hs9 ho8 hk8 h8 hk48 hk47 hk46 hk3 ho67 hbase8 hk7 hk6 hk5
          go_wp2
          go_roundw
          case rel => exact ⟨j + 1, _, _, HLT.out, by go_num, hnew, hG, hKK⟩
          case measure => have := HLT.out; simp [intOf]; omega
      · have hfz : fate fates m.sz j = 0 := by
          unfold fate
          rw [if_neg hi]
        have HN0 := Lib.hid hfz
        clear e1 ho hoD hB hA h3 hbv hfz hq
        go_wp2_with fail
        refine wp_region_hisG (Since (wr.alloc (.cells #[.int .i64 (qk : Int), .slice (some ⟨va', vo, none⟩) m.sz vc] 156))) (Since.tr _) (Since.rf _) [11, 16, 19, 20] (fun _ => 0) (by kernel_rfl) (by kernel_rfl) ?_
        intro w5 hk5 hh
        clear hh
        have q2 := fun w' (h' : Since (wr.alloc (.cells #[.int .i64 (qk : Int), .slice (some ⟨va', vo, none⟩) m.sz vc] 156)) w5 w') => (HA.out.trans (h' hk5)).cell (p := ⟨g, 2, none⟩) (by simp) H3.out.rowD.c2
        have qB0 := fun w' (h' : Since (wr.alloc (.cells #[.int .i64 (qk : Int), .slice (some ⟨va', vo, none⟩) m.sz vc] 156)) w5 w') => cell_of_row w' _ 0 _ _ _ ((h' hk5).blk (by simp) HB.out)
        have qB1 := fun w' (h' : Since (wr.alloc (.cells #[.int .i64 (qk : Int), .slice (some ⟨va', vo, none⟩) m.sz vc] 156)) w5 w') => cell_of_row w' _ 1 _ _ _ ((h' hk5).blk (by simp) HB.out)
        simp at qB0 qB1
        have hnv : (0 : Int) ≤ (vc : Int) := by omega
        have hns : (0 : Int) ≤ (m.sz : Int) := by omega
        clear a0 a1
        (repeat (first | (refine his_q rfl rfl (fun K hK => ?_); apply Exists.intro; refine ⟨fun w' hC => ?_, ?_⟩; ((try simp [Sg.upd] at hC); go_simp <;> rfl); go_simp; refine hK _ _ ?_; clear hK K) | (refine his_s rfl (fun K hK => ?_); go_simp; refine hK _ _ ?_; clear hK K)))
        (refine his_l rfl rfl (fun K hK => ?_); go_simp)
        refine (clone_any _ (ql.take 0) _ ((HBV.out.keep (HA.out.trans hk5) (by simp)).take (by rw [hp2]; omega))).mono ?_
        rintro x6 w6 ⟨v6, rfl, ho6, hk6⟩
        refine hK _ _ (fun h => h.trans hk6) ?_
        clear hK K
        have hk46 := hk5.trans hk6
        have h6 := H3.out.keep0 (HA.out.trans hk46)
        have hfl := torn_lens fates (m.loose.take j) m.fast 0 ⟨hw.fl, hw.fs⟩ (fun p hp => hw.ls p (List.mem_of_mem_take hp))
        have hWf : Dev.Wf { m with fast := torn m.sz fates m.fast 0 (m.loose.take j) } := { n1 := hw.n1, n2 := hw.n2, s1 := hw.s1, s2 := hw.s2, fl := hfl.1, fs := hfl.2, pl := hw.pl, ps := hw.ps, ll := hw.ll, ls := hw.ls, ar := hw.ar }
        have hqf : qk < (torn m.sz fates m.fast 0 (m.loose.take j)).length := by rw [hfl.1]; exact hp1
        (repeat (first | (refine his_q rfl rfl (fun K hK => ?_); apply Exists.intro; refine ⟨fun w' hC => ?_, ?_⟩; ((try simp [Sg.upd] at hC); go_simp <;> rfl); go_simp; refine hK _ _ ?_; clear hK K) | (refine his_s rfl (fun K hK => ?_); go_simp; refine hK _ _ ?_; clear hK K)))
        (refine his_l rfl rfl (fun K hK => ?_); go_simp)
        refine (kept_any w6 D' g _ fm pm _ fv' pv hWf h6 qk hqf).mono ?_
        rintro x7 w7 ⟨v7, rfl, ho7, hk7⟩
        refine hK _ _ (fun h => h.trans hk7) ?_
        clear hK K
        have hk47 := hk46.trans hk7
        have hf7 := hfl.2 qk hqf
        have hb7 := ho7.bytes (by rw [hf7]; omega)
        obtain ⟨ka, kc, rfl, hkc, -, hkc2⟩ := hb7.form
        rw [hf7] at hb7 hkc
        obtain ⟨kb, ko, rfl, -, -⟩ := hb7.spot (by rw [hf7]; have := hw.s1; omega)
        have hkn : (0 : Int) ≤ (kc : Int) := by omega
        have ho67 : OwnB w7 (wr.heap.size + 1) 5 v6 (ql.take 0) := (ho6.base (by have := hk5.size; simpa using this)).keep hk7 (by simp)
        have hql : (ql.take 0).length = 0 := by rw [List.length_take, hp2]; omega
        obtain ⟨va6, vc6, rfl, -⟩ := (ho67.bytes (by rw [hql]; omega)).form
        rw [hql] at ho67
        have htl : ((torn m.sz fates m.fast 0 (m.loose.take j))[qk].drop 0).length = m.sz - 0 := by rw [List.length_drop, hf7]
        clear ho7 h6 ho6
        have hcut2 : Bytes w7 (.slice (some ⟨kb, ko, none⟩) m.sz kc) ((torn m.sz fates m.fast 0 (m.loose.take j))[qk].drop 0) := hb7
        (repeat (first | (refine his_q rfl rfl (fun K hK => ?_); apply Exists.intro; refine ⟨fun w' hC => ?_, ?_⟩; ((try simp [Sg.upd] at hC); go_simp <;> rfl); go_simp; refine hK _ _ ?_; clear hK K) | (refine his_s rfl (fun K hK => ?_); go_simp; refine hK _ _ ?_; clear hK K)))
        refine his_l rfl rfl (fun K hK => ?_)
        refine loudly_append (.tmp 50) (.tmp 57) 30 5 rfl (wr.heap.size + 1) Try.underlying30 (by kernel_rfl) (v := .slice va6 0 vc6) (src := .slice (some ⟨kb, ko, none⟩) m.sz kc) rfl rfl ho67 hcut2 (by rw [htl, hql]; omega) (by have := hk47.size; simpa using this) ?_
        intro v8 w8 ho8 hk8
        have hown6 : ∀ b ∈ (Value.slice va6 0 vc6).ownBlock.toList, b ∈ ([] : List Nat) ∨ (wr.alloc (.cells #[.int .i64 (qk : Int), .slice (some ⟨va', vo, none⟩) m.sz vc] 156)).heap.size ≤ b := fun b hb => by
          rw [Option.mem_toList] at hb
          rcases ho67.2 with ⟨h, -⟩ | ⟨g', c', cur, h, hg', -⟩
          · rw [h] at hb; simp [Value.ownBlock] at hb
          · rw [h] at hb
            simp [Value.ownBlock] at hb
            subst hb
            exact .inr (by simpa using hg')
        refine hK _ _ (fun h => h.trans' hk8 hown6) ?_
        clear hK K
        have hk48 := hk47.trans' hk8 hown6
        have h8 := H3.out.keep0 (HA.out.trans hk48)
        obtain ⟨w9, hrun, hM, hk9, hs9⟩ := h8.fast.store Try.underlying3 Try.underlying147 qk hp1 (show m.n ≤ 1000000000 by omega) v8
        have HR := Lib.hid hrun
        clear hrun
        refine his_last rfl (by kernel_rfl) rfl (fun K hK => ?_)
        refine loudly_mapUpdate_run (.tmp 42) (.tmp 45) (.tmp 58) 147 rfl (mv := .map (some fm)) (xv := .int .i64 (qk : Int)) (yv := v8) (w' := w9) rfl rfl rfl HR.out ?_
        refine hK _ _ ?_
        clear hK K q2 qB0 qB1
        refine his_nil ?_
        have ho9 : OwnB w9 0 5 v8 (ql.take 0 ++ (torn m.sz fates m.fast 0 (m.loose.take j))[qk].drop 0) := ownB_move (ho8.base (Nat.zero_le _)) hk9 (NotT.map h8.fast)
        have hbase8 : ∀ b, v8.ownBlock = some b → wr.heap.size ≤ b := fun b hb => by
          rcases ho8.2 with ⟨h, -⟩ | ⟨g', c', cur, h, hg', -⟩
          · rw [h] at hb; simp [Value.ownBlock] at hb
          · rw [h] at hb; simp [Value.ownBlock] at hb; omega
        have hk3 : Keep [] wr w8 := HA.out.trans hk48
        have hk39 : Keep [fm] wr w9 := (hk3.mono (by simp)).trans hk9
        have hD' : ∀ b ∈ D', b ∈ D' ++ newer wr w9 := fun b hb => List.mem_append_left _ hb
        have hin : inD (D' ++ newer wr w9) v8 := fun b hb => List.mem_append_right _ (mem_newer.2 ⟨hbase8 b hb, ownsRow_lt ho9 hb⟩)
        have hnew := (H3.out).fastTurn (m' := { m with fast := torn m.sz fates m.fast 0 (m.loose.take (j + 1)) }) hk39 hD' (fun b hb => by
          rcases List.mem_append.1 hb with h | h
          · exact Nat.lt_of_lt_of_le (H3.out.lt b h) hk39.size
          · exact (mem_newer.1 h).2) hM ho9 hin (by
            rw [torn_succ _ _ _ _ _ _ HLT.out, HQ.out, Nat.zero_add]
            unfold tear
            rw [HN0.out, List.getD_eq_getElem?_getD, List.getElem?_eq_getElem hqf, Option.getD_some])
        have hG : Grew w D (D' ++ newer wr w9) := HG.out.trans (Grew.newer wr w9 D') HK.out.size
        have hKK : Keep D w w9 := keep_bump HK.out hk39 (fun b hb => by
          rw [List.mem_singleton] at hb
          rw [hb]
          exact HG.out.2 _ H3.out.inF)
        clear hin hD' ho9 hk39 hM hk9 hs9 ho8 hk8 h8 hk48 hk47 hk46 hk3 ho67 hbase8 hk7 hk6 hk5
        go_wp2
        go_roundw
        case rel => exact ⟨j + 1, _, _, HLT.out, by go_num, hnew, hG, hKK⟩
        case measure => have := HLT.out; simp [intOf]; omega
    · have h3 := HD.out
      have hr3 := h3.rowD
      have c3 := hr3.c3
      have f3 := hr3.free 3
      have c5 := hr3.c5
      have f5 := hr3.free 5
      have c7 := hr3.c7
      have f7 := hr3.free 7
      have e2 : m.loose.take j = m.loose := List.take_of_length_le (by omega)
      obtain ⟨wf, hwf⟩ : ∃ wf, ((wr.setCell ⟨g, 3, none⟩ (.slice none 0 0)).setCell ⟨g, 5, none⟩ (.int .i64 0)).setCell ⟨g, 7, none⟩ (.bool false) = wf := ⟨_, rfl⟩
      have hks : Keep [g] wr wf := by rw [← hwf]; exact (((Keep.refl _ _).setCell (.inl (by simp)) _).setCell (.inl (by simp)) _).setCell (.inl (by simp)) _
      have hsz : wf.heap.size = wr.heap.size := by rw [← hwf]; simp
      have hrf : RowD wf g (m.crash fates) fm pm (.slice none 0 0) := by
        rw [← hwf]
        have e1 := hr3.set 3 (.slice none 0 0)
        have e2' := heap_setCell_same _ g 5 _ _ (.int .i64 0) e1
        have e3 := heap_setCell_same _ g 7 _ _ (.bool false) e2'
        refine e3.trans ?_
        simp [devCells, Dev.crash]
      have hfin : DevAt wf D' g (m.crash fates) fm pm (.slice none 0 0) fv' pv := by
        rw [e2] at h3
        exact h3.turn2 hks (CellsOf.one h3.row (by decide)) hrf rfl rfl rfl rfl ⟨[], World.ownsRow_nil _ _ _ _, fun b hb => by simp [Value.ownBlock] at hb, rfl, fun i v l h => by simp at h⟩ (fun _ h => h) (fun b hb => by rw [hsz]; exact h3.lt b hb)
      have hKK : Keep D w wf := keep_bump HK.out hks (fun b hb => by
        rw [List.mem_singleton] at hb
        rw [hb]
        exact HG.out.2 _ h3.inG)
      have HF := Lib.hid hfin
      have HKK := Lib.hid hKK
      rw [← hwf] at HF HKK
      clear h3 hr3 hfin hks e2 hrf hsz hKK hwf
      go_wp2
      go_end0
      exact ⟨rfl, D', ⟨hw.crash fates, fm, pm, _, _, _, HF.out⟩, HG.out, HKK.out⟩
end Go.Proofs.Ytijljdcpajjhhaa
