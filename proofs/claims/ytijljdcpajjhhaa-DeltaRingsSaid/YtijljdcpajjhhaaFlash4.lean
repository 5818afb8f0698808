import Derived.Test.YtijljdcpajjhhaaFlash3
/-! The walk of flash's Write. -/
namespace Go.Proofs.Ytijljdcpajjhhaa
open Go.RowKit Sg
set_option linter.unusedSimpArgs false
set_option linter.unusedVariables false

theorem dev_nu (m : Dev) (fm pm : Nat) (lv : Value) (hlv : ∀ n : Int, lv ≠ .int .u8 n) : ∀ (i : Nat) (x : Value), (devCells m fm pm lv)[i]? = some x → ∀ n : Int, x ≠ Value.int .u8 n := by
  intro i x hx n e
  subst e
  match i, hx with
  | 0, h => simp [devCells] at h
  | 1, h => simp [devCells] at h
  | 2, h => simp [devCells] at h
  | 3, h => simp [devCells] at h; exact hlv _ h
  | 4, h => simp [devCells] at h
  | 5, h => simp [devCells] at h
  | 6, h => simp [devCells] at h
  | 7, h => simp [devCells] at h
  | i + 8, h => simp [devCells] at h
theorem keep_bump {D : List Nat} {w w1 w2 : World} {S : List Nat} (h : Keep D w w1) (k : Keep S w1 w2) (hS : ∀ b ∈ S, b ∈ D ∨ w.heap.size ≤ b) : Keep D w w2 :=
  ⟨k.os.trans h.os, k.tape.trans h.tape, k.output.trans h.output, Nat.le_trans h.size k.size, fun b hb hD => by
    rw [k.block b (Nat.lt_of_lt_of_le hb h.size) (fun hm => (hS b hm).elim hD (fun h' => by omega))]
    exact h.block b hb hD⟩
theorem looseCells_snoc {ls : List (Nat × List UInt8)} {vs : List Value} (h : vs.length = ls.length) (k : Nat) (l : List UInt8) (v : Value) : looseCells (ls ++ [(k, l)]) (vs ++ [v]) = looseCells ls vs ++ [.int .i64 (k : Int), v] := by
  unfold looseCells
  rw [List.zip_append h.symm, List.flatMap_append]
  rfl

theorem MapV.dom {P : Program} {K : TypeId} {w : World} {B S : Nat} {f : Nat → Option Value} (h : MapV P K w B S f) {a : Nat} {v : Value} (hv : f a = some v) : a < S := by
  obtain ⟨D, n, -, h2, h3⟩ := h
  have := h2 a
  rw [hv] at this
  obtain ⟨b, hb, e⟩ := h3 _ (Maps.has_true_of_atKey this)
  injection e with _ e
  rw [Int.ofNat_inj.1 e]
  exact hb

/-- a row of what a sector was given is one longer -/
theorem DevAt.pastTurn {w w' : World} {D D' : List Nat} {g : Nat} {m m' : Dev} {fm pm : Nat} {lv : Value} {fv pv : Nat → Option Value} (h : DevAt w D g m fm pm lv fv pv) (hpl : m.past.length = m.n) {k : Nat} (hk : k < m.past.length) {S : List Nat} (kk : Keep S w w')
    (hS : ∀ b ∈ S, b = pm ∨ (∃ v, pv k = some v ∧ v.ownBlock = some b)) (hd : ∀ b ∈ D, b ∈ D') (hlt : ∀ b ∈ D', b < w'.heap.size) {v' : Value} {l : List UInt8}
    (hp : MapV Try.prog 3 w' pm m.n (updF pv k v')) (hv : PastV w' D' (some v') (m.past[k] ++ [l])) (hloc : ∀ b, v'.ownBlock = some b → (∃ v, pv k = some v ∧ v.ownBlock = some b) ∨ w.heap.size ≤ b)
    (em : m' = { m with past := m.past.modify k (· ++ [l]) }) : DevAt w' D' g m' fm pm lv fv (updF pv k v') := by
  subst em
  have row_of : ∀ {i : Nat} (hi : i < m.past.length) {v : Value} {b : Nat}, pv i = some v → v.ownBlock = some b → ∃ cs, w.heap[b]? = some (.cells cs 30 (0, 0)) := by
    intro i hi v b hv hb
    have := h.pasts i hi
    rw [hv] at this
    obtain ⟨vs, h1, -⟩ := this
    exact ownsRow_block h1 hb
  have inD_of : ∀ {i : Nat} (hi : i < m.past.length) {v : Value} {b : Nat}, pv i = some v → v.ownBlock = some b → b ∈ D := by
    intro i hi v b hv hb
    have := h.pasts i hi
    rw [hv] at this
    obtain ⟨vs, -, h1, -⟩ := this
    exact h1 b hb
  have hmap : ∃ es c, w.heap[pm]? = some (.map es c) := h.past.isMapBlock
  obtain ⟨es, c, hmap⟩ := hmap
  have h8 : NotT w 5 S := fun b hb => by
    rcases hS b hb with rfl | ⟨v, h1, h2⟩
    · exact ⟨_, hmap, fun cs fr e => by cases e⟩
    · obtain ⟨cs, h3⟩ := row_of hk h1 h2
      exact ⟨_, h3, fun cs fr e => by cases e⟩
  have hw : NotT w 156 S := fun b hb => by
    rcases hS b hb with rfl | ⟨v, h1, h2⟩
    · exact ⟨_, hmap, fun cs fr e => by cases e⟩
    · obtain ⟨cs, h3⟩ := row_of hk h1 h2
      exact ⟨_, h3, fun cs fr e => by cases e⟩
  have hg : g ∉ S := fun hb => by
    rcases hS g hb with rfl | ⟨v, h1, h2⟩
    · have := h.row
      rw [hmap] at this
      cases this
    · obtain ⟨cs, h3⟩ := row_of hk h1 h2
      have := h.row
      rw [h3] at this
      cases this
  have hf : fm ∉ S := fun hb => by
    rcases hS fm hb with rfl | ⟨v, h1, h2⟩
    · exact h.two rfl
    · obtain ⟨cs, h3⟩ := row_of hk h1 h2
      obtain ⟨es, c, h4⟩ := h.fast.isMapBlock
      rw [h3] at h4
      cases h4
  refine ⟨kk.blk hg h.row, h.fast.keep kk hf, hp, fun i hi => (h.fasts i hi).move kk h8 hd, fun i hi => ?_, fun i j v u b h1 h2 h3 h4 => ?_, h.loose.move kk h8 hw hd, hd _ h.inG, hd _ h.inF, hd _ h.inP, h.two, hlt⟩
  · have hi' : i < m.past.length := by simpa using hi
    by_cases hik : i = k
    · subst hik
      have e1 : updF pv i v' i = some v' := by simp [updF]
      rw [e1]
      simp only [List.getElem_modify, if_true]
      exact hv
    · have e1 : updF pv k v' i = pv i := by simp [updF, hik]
      rw [e1]
      simp only [List.getElem_modify, if_neg (fun e => hik (Eq.symm e) : ¬ k = i)]
      have hpi := h.pasts i hi'
      cases hq : pv i with
      | none => rw [hq] at hpi; exact hpi
      | some v =>
        rw [hq] at hpi
        obtain ⟨vs, h1, h2, h3⟩ := hpi
        refine ⟨vs, ownsRow_keep h1 kk (fun b hb hm => ?_), inD.mono h2 hd, h3.move kk h8 hd⟩
        rcases hS b hm with rfl | ⟨v2, h4, h5⟩
        · obtain ⟨cs, h6⟩ := ownsRow_block h1 hb
          rw [hmap] at h6
          cases h6
        · exact hik (h.apart i k v v2 b hq h4 hb h5)
  · have old : ∀ {i v b}, i ≠ k → updF pv k v' i = some v → v.ownBlock = some b → pv i = some v ∧ b < w.heap.size := by
      intro i v b hi h1 h2
      have e1 : pv i = some v := by simpa [updF, hi] using h1
      refine ⟨e1, ?_⟩
      have hin : i < m.past.length := by
        rw [hpl]
        exact MapV.dom h.past e1
      exact h.lt _ (inD_of hin e1 h2)
    by_cases hi : i = k
    · by_cases hj : j = k
      · rw [hi, hj]
      · obtain ⟨h5, h6⟩ := old hj h2 h4
        have hv' : v = v' := by rw [hi] at h1; simpa [updF] using h1.symm
        subst hv'
        rcases hloc b h3 with ⟨v2, h7, h8⟩ | h7
        · exact absurd (h.apart k j v2 u b h7 h5 h8 h4).symm hj
        · omega
    · by_cases hj : j = k
      · obtain ⟨h5, h6⟩ := old hi h1 h3
        have hv' : u = v' := by rw [hj] at h2; simpa [updF] using h2.symm
        subst hv'
        rcases hloc b h4 with ⟨v2, h7, h8⟩ | h7
        · exact absurd (h.apart k i v2 v b h7 h5 h8 h3).symm hi
        · omega
      · exact h.apart i j v u b (old hi h1 h3).1 (old hj h2 h4).1 h3 h4

theorem CellsOf.keep {w w' : World} {S T : List Nat} {ts : List TypeId} (h : CellsOf w S ts) (k : Keep T w w') (hd : ∀ b ∈ S, b ∉ T) : CellsOf w' S ts := fun b hb => by
  obtain ⟨cs, t, fr, h1, h2⟩ := h b hb
  exact ⟨cs, t, fr, k.blk (hd b hb) h1, h2⟩
/-- what a sector was given, as a row that may be nil -/
theorem PastV.open {w : World} {D : List Nat} {o : Option Value} {ls : List (List UInt8)} (h : PastV w D o ls) : ∃ vs, w.ownsRow 0 30 1 (o.getD (.slice none 0 0)) vs.length vs ∧ inD D (o.getD (.slice none 0 0)) ∧ Each w D vs ls ∧ (∀ b, (o.getD (.slice none 0 0)).ownBlock = some b → ∃ v, o = some v ∧ v.ownBlock = some b) := by
  cases o with
  | none =>
    have e : ls = [] := h
    subst e
    exact ⟨[], World.ownsRow_nil _ _ _ _, fun b hb => by simp [Value.ownBlock] at hb, ⟨rfl, fun i v l h => by simp at h⟩, fun b hb => by simp [Value.ownBlock] at hb⟩
  | some v =>
    obtain ⟨vs, h1, h2, h3⟩ := h
    exact ⟨vs, h1, h2, h3, fun b hb => ⟨v, rfl, hb⟩⟩
theorem ownsRow_form {w : World} {base : Nat} {e : TypeId} {sz n : Nat} {v : Value} {xs : List Value} (h : w.ownsRow base e sz v n xs) : ∃ a c, v = .slice a n c := by
  rcases h.2 with ⟨rfl, h0⟩ | ⟨g', cap, cur, rfl, -⟩
  · exact ⟨_, _, by rw [h0]⟩
  · exact ⟨_, _, rfl⟩
theorem ownsRow_lt {w : World} {base : Nat} {e : TypeId} {sz n : Nat} {v : Value} {xs : List Value} (h : w.ownsRow base e sz v n xs) {b : Nat} (hb : v.ownBlock = some b) : b < w.heap.size := by
  obtain ⟨cs, h1⟩ := ownsRow_block h hb
  exact (Array.getElem?_eq_some_iff.1 h1).1

/-- a device whose loose writes are one more -/
theorem DevAt.looser {w2 w3 w7 : World} {D : List Nat} {g : Nat} {m : Dev} {fm pm n lc : Nat} {lo : Option Addr} {lv' v3 : Value} {fv pv : Nat → Option Value} {vs : List Value} {k : Nat} {l : List UInt8}
    (h2 : DevAt w2 D g m fm pm (.slice lo n lc) fv pv) (hL1 : w2.ownsRow 0 156 2 (.slice lo n lc) m.loose.length (looseCells m.loose vs)) (hL2 : inD D (.slice lo n lc)) (hL3 : Each w2 D vs (m.loose.map (·.2)))
    (hk3 : Keep [] w2 w3) (ho3 : OwnB w3 w2.heap.size 5 v3 l) (hk37 : Keep (Value.slice lo n lc).ownBlock.toList w3 w7)
    (hL' : w7.ownsRow 0 156 2 lv' (m.loose.length + 1) (looseCells m.loose vs ++ [.int .i64 (k : Int), v3])) (hloc : ∀ b, lv'.ownBlock = some b → (Value.slice lo n lc).ownBlock = some b ∨ w2.heap.size ≤ b)
    (hr7 : RowD w7 g m fm pm (.slice lo n lc)) :
    DevAt (w7.setCell ⟨g, 3, none⟩ lv') (D ++ newer w2 (w7.setCell ⟨g, 3, none⟩ lv')) g { m with loose := m.loose ++ [(k, l)] } fm pm lv' fv pv ∧ Keep ((Value.slice lo n lc).ownBlock.toList ++ [g]) w2 (w7.setCell ⟨g, 3, none⟩ lv') ∧ OwnB (w7.setCell ⟨g, 3, none⟩ lv') 0 5 v3 l ∧ inD (D ++ newer w2 (w7.setCell ⟨g, 3, none⟩ lv')) v3 := by
  have hc1 : CellsOf w2 ((Value.slice lo n lc).ownBlock.toList ++ [g]) [151, 156] := (CellsOf.own hL1 (by decide)).append (CellsOf.one h2.row (by decide))
  have hk7 : Keep ((Value.slice lo n lc).ownBlock.toList ++ [g]) w2 w7 := (hk3.mono (by simp)).trans (hk37.mono (fun b hb => List.mem_append_left _ hb))
  have hks : Keep [g] w7 (w7.setCell ⟨g, 3, none⟩ lv') := (Keep.refl _ _).setCell (.inl (by simp)) _
  have hk8 : Keep ((Value.slice lo n lc).ownBlock.toList ++ [g]) w2 (w7.setCell ⟨g, 3, none⟩ lv') := hk7.trans (hks.mono (fun b hb => List.mem_append_right _ hb))
  have hc3 : CellsOf w3 (Value.slice lo n lc).ownBlock.toList [156] := (CellsOf.own hL1 (by decide)).keep hk3 (by simp)
  have hr8 : RowD (w7.setCell ⟨g, 3, none⟩ lv') g { m with loose := m.loose ++ [(k, l)] } fm pm lv' := (hr7.set 3 lv').trans (by simp [devCells])
  have hD : ∀ b ∈ D, b ∈ D ++ newer w2 (w7.setCell ⟨g, 3, none⟩ lv') := fun b hb => List.mem_append_left _ hb
  have hsz := hk8.size
  have ho : OwnB (w7.setCell ⟨g, 3, none⟩ lv') 0 5 v3 l := ownsRow_move (ownsRow_move (ho3.base (Nat.zero_le _)) hk37 (hc3.notT (by decide))) hks (NotT.row hr7 (by decide))
  have hoD : inD (D ++ newer w2 (w7.setCell ⟨g, 3, none⟩ lv')) v3 := fun b hb => by
    refine List.mem_append_right _ (mem_newer.2 ⟨?_, ownsRow_lt ho hb⟩)
    rcases ho3.2 with ⟨rfl, -⟩ | ⟨g', cap', cur, rfl, h1, -⟩
    · simp [Value.ownBlock] at hb
    · simp [Value.ownBlock] at hb
      omega
  refine ⟨h2.turn2 hk8 hc1 hr8 rfl rfl rfl rfl ⟨vs ++ [v3], ?_, ?_, ?_⟩ hD ?_, hk8, ho, hoD⟩
  · have e1 : (looseCells (m.loose ++ [(k, l)]) (vs ++ [v3])) = looseCells m.loose vs ++ [.int .i64 (k : Int), v3] := looseCells_snoc (by simpa using hL3.1) k l v3
    show World.ownsRow _ _ _ _ _ (m.loose ++ [(k, l)]).length (looseCells (m.loose ++ [(k, l)]) (vs ++ [v3]))
    rw [e1, List.length_append]
    exact ownsRow_move hL' hks (NotT.row hr7 (by decide))
  · intro b hb
    rcases hloc b hb with h | h
    · exact hD b (hL2 b h)
    · refine List.mem_append_right _ (mem_newer.2 ⟨h, ?_⟩)
      have := ownsRow_lt hL' hb
      simpa using this
  · show Each _ _ (vs ++ [v3]) ((m.loose ++ [(k, l)]).map (·.2))
    rw [List.map_append]
    exact (hL3.move hk8 (hc1.notT (by decide)) hD).snoc ho hoD
  · intro b hb
    rcases List.mem_append.1 hb with h | h
    · exact Nat.lt_of_lt_of_le (h2.lt b h) hsz
    · exact (mem_newer.1 h).2

set_option maxRecDepth 100000 in
set_option maxHeartbeats 1000000 in
set_option maxHeartbeats 4000000 in
theorem write_go (w : World) (D : List Nat) (g : Nat) (m : Dev) (h : DV w D g m) (hacts : m.acts ≤ 1000000000) (k : Nat) (hk : k < m.n) (hdown : m.down = false) (v : Value) (l : List UInt8) (hv : Bytes w v l) (hl : l.length = m.sz) :
    Calls Try.prog 16 #[.pointer (some ⟨g, 0, none⟩), .int .i64 (k : Int), v] w fun e w' => e = .returned (.int .i64 (if m.act.down = true then 4 else 0)) ∧ ∃ D', DV w' D' g (m.write k l) ∧ Grew w D D' ∧ Keep D w w' := by
  obtain ⟨hw, fm, pm, lv, fv, pv, h⟩ := h
  obtain ⟨ao, cap, rfl, hlc, hm, hcap⟩ := hv.form
  have hready := ready_any w g m fm pm _ h.row (k : Int)
  have hr0 : m.ready (k : Int) = 0 := by simp [Dev.ready, hdown]; omega
  rw [hr0] at hready
  have hact := act_any w g m fm pm _ h.row hacts hw.ar
  obtain ⟨dn, hdn⟩ : ∃ dn, m.act.down = dn := ⟨_, rfl⟩
  rw [hdn] at hact ⊢
  clear hdn
  have c1 := h.rowD.c1
  have s1 := hw.s1
  have s2 := hw.s2
  have hlne : l ≠ [] := by intro e; rw [e] at hl; simp at hl; omega
  obtain ⟨la, lc, rfl⟩ := h.loose.form
  have hnu := hv.ne_row hlne h.row (dev_nu m fm pm _ (by intro n h; cases h))
  rw [hl]
  rw [hl] at hv hnu
  go_enter Try.func16, Try.ntmps16
  go_wp2_with fail
  refine hready.mono ?_
  rintro e w1 ⟨rfl, rfl⟩
  go_wp2_with fail
  refine hact.mono ?_
  rintro e w2 ⟨rfl, hr2, hk2, hs2⟩
  have hv2 : Bytes w2 (.slice ao m.sz cap) l := hv.keep hk2 (by intro b hb hm; rw [List.mem_singleton] at hm; subst hm; exact hnu hb)
  have h2 : DevAt w2 D g m.act fm pm (.slice la m.loose.length lc) fv pv := h.turn2 hk2 (CellsOf.one h.row (by decide)) hr2 rfl rfl rfl rfl (h.loose.move hk2 (NotT.row h.row (by decide)) (NotT.row h.row (by decide)) (fun _ h => h)) (fun _ h => h) (fun b hb => by rw [hs2]; exact h.lt b hb)
  have hKD : Keep D w w2 := hk2.mono (fun b hb => by rw [List.mem_singleton] at hb; rw [hb]; exact h.inG)
  have hDlt : ∀ b ∈ D, b < w.heap.size := h.lt
  clear hready hact h hv hnu c1
  go_wp2_with fail
  refine (clone_any _ l _ hv2).mono ?_
  rintro e w3 ⟨v3, rfl, ho3, hk3⟩
  obtain ⟨va, vc, rfl, -⟩ := (ho3.bytes (by omega)).form
  rw [hl]
  rw [hl] at ho3
  have hB3 := heap_alloc_new w3 (.cells #[.int .i64 (k : Int), .slice va m.sz vc] 156)
  have hA3 := (Keep.refl [] w3).alloc (.cells #[.int .i64 (k : Int), .slice va m.sz vc] 156)
  have hk23 := hk3.trans hA3
  clear hv2
  obtain ⟨vs, hL1, hL2, hL3⟩ : LooseV w2 D (.slice la m.loose.length lc) m.loose := h2.loose
  have hll : m.loose.length ≤ 1000000000 := Nat.le_trans hw.ll hacts
  have hS2 : CellsOf w2 (Value.slice la m.loose.length lc).ownBlock.toList [151, 156] := CellsOf.own hL1 (by decide)
  have hgS : g ∉ (Value.slice la m.loose.length lc).ownBlock.toList := fun hb => by
    rw [Option.mem_toList] at hb
    obtain ⟨cs, h3⟩ := ownsRow_block hL1 hb
    have := h2.row
    rw [h3] at this
    cases this
  have hBS : w3.heap.size ∉ (Value.slice la m.loose.length lc).ownBlock.toList := fun hb => by
    rw [Option.mem_toList] at hb
    have := ownsRow_lt hL1 hb
    have := hk3.size
    omega
  go_wp2_with fail
  refine wp_region_his (Value.slice la m.loose.length lc).ownBlock.toList [6, 7, 10] (fun _ => 0) (by kernel_rfl) (by kernel_rfl) ?_
  intro w5 hk5 hh
  clear hh
  have hk25 : Keep [] w2 w5 := hk23.trans hk5
  have hB5 := hk5.blk (by simp) hB3
  have hr5 : RowD w5 g m.act fm pm (.slice la m.loose.length lc) := h2.rowD.keep hk25 (by simp)
  have q3 := fun w' (h' : Keep (Value.slice la m.loose.length lc).ownBlock.toList w5 w') => h'.cell (p := ⟨g, 3, none⟩) hgS hr5.c3
  have qB0 := fun w' (h' : Keep (Value.slice la m.loose.length lc).ownBlock.toList w5 w') => cell_of_row w' _ 0 _ _ _ (h'.blk hBS hB5)
  have qB1 := fun w' (h' : Keep (Value.slice la m.loose.length lc).ownBlock.toList w5 w') => cell_of_row w' _ 1 _ _ _ (h'.blk hBS hB5)
  simp at qB0 qB1
  obtain ⟨lv', w7, hrun, hL', hk7, hloc⟩ := run_append_loose (ty := 149) (ownsRow_keep hL1 (hk25.alloc (.cells #[.int .i64 (k : Int), .slice va m.sz vc] 156)) (by simp)) w5.heap.size (k : Int) (.slice va m.sz vc) (heap_alloc_new _ _) rfl hll
  obtain ⟨la', lc', rfl⟩ := ownsRow_form hL'
  have hA5 := (Keep.refl [] w5).alloc (.cells #[.int .i64 (k : Int), .slice va m.sz vc] 156)
  have hr7 : RowD w7 g m.act fm pm (.slice la m.loose.length lc) := (hr5.keep hA5 (by simp)).keep hk7 hgS
  have c3 := hr7.c3
  have f3 := hr7.free 3
  have hB7 := hk7.blk hBS (hA5.blk (by simp) hB5)
  have HR := Lib.hid hrun
  have HL' := Lib.hid hL'
  have HR7 := Lib.hid hr7
  have HB7 := Lib.hid hB7
  clear hrun hL' hr7 hB7
  (repeat (first | (refine his_q rfl rfl (fun K hK => ?_); apply Exists.intro; refine ⟨fun w' hC => ?_, ?_⟩; ((try simp [Sg.upd] at hC); go_simp <;> rfl); go_simp; refine hK _ _ ?_; clear hK K) | (refine his_s rfl (fun K hK => ?_); go_simp; refine hK _ _ ?_; clear hK K)))
  (refine his_l rfl rfl (fun K hK => ?_); go_simp)
  refine hK _ _ ((Keep.refl _ _).alloc _) ?_
  clear hK K
  refine his_l rfl rfl (fun K hK => ?_)
  refine loudly_append_run (.tmp 34) (.tmp 36) 149 rfl (v := .slice la m.loose.length lc) (src := .slice (some ⟨w5.heap.size, 0, none⟩) 1 1) (w' := w7) rfl rfl HR.out ?_
  refine hK _ _ hk7 ?_
  clear hK K
  (repeat (first | (refine his_q rfl rfl (fun K hK => ?_); apply Exists.intro; refine ⟨fun w' hC => ?_, ?_⟩; ((try simp [Sg.upd] at hC); go_simp <;> rfl); go_simp; refine hK _ _ ?_; clear hK K) | (refine his_s rfl (fun K hK => ?_); go_simp; refine hK _ _ ?_; clear hK K)))
  (refine his_last rfl (by kernel_rfl) rfl (fun K hK => ?_); go_simp)
  refine hK _ _ ?_
  clear hK K q3 qB0 qB1
  refine his_nil ?_
  have hkD : ∀ b ∈ (Value.slice la m.loose.length lc).ownBlock.toList ++ [g], b ∈ D := by
    intro b hb
    rcases List.mem_append.1 hb with h | h
    · rw [Option.mem_toList] at h
      exact hL2 b h
    · rw [List.mem_singleton] at h
      rw [h]
      exact h2.inG
  have hlo := h2.looser (k := k) (l := l) hL1 hL2 hL3 hk3 ho3 ((hA3.trans (hk5.trans hA5)).mono (by simp) |>.trans hk7) HL'.out (by
    intro b hb
    rcases hloc with h | h
    · rw [h] at hb
      exact .inl hb
    · rw [h] at hb
      injection hb with hb
      have := hk25.size
      simp at hb
      omega) HR7.out
  obtain ⟨w8, hw8⟩ : ∃ w8, w7.setCell ⟨g, 3, none⟩ (.slice la' (m.loose.length + 1) lc') = w8 := ⟨_, rfl⟩
  obtain ⟨m8, hm8⟩ : ∃ m8 : Dev, m8 = { m.act with loose := m.loose ++ [(k, l)] } := ⟨_, rfl⟩
  obtain ⟨D8, hD8⟩ : ∃ D8, D8 = D ++ newer w2 w8 := ⟨_, rfl⟩
  have h8 : DevAt w8 D8 g m8 fm pm (.slice la' (m.loose.length + 1) lc') fv pv := by rw [hm8, hD8, ← hw8]; exact hlo.1
  have hk28 : Keep ((Value.slice la m.loose.length lc).ownBlock.toList ++ [g]) w2 w8 := by rw [← hw8]; exact hlo.2.1
  have ho8 : OwnB w8 0 5 (.slice va m.sz vc) l ∧ inD D8 (.slice va m.sz vc) := by rw [hD8, ← hw8]; exact hlo.2.2
  have hK8 : Keep D w w8 := hKD.trans (hk28.mono hkD)
  have hB8 : w8.heap[w3.heap.size]? = some (.cells #[.int .i64 (k : Int), .slice va m.sz vc] 156 (0, 0)) := by
    rw [← hw8]
    refine (heap_setCell_other _ _ _ _ ?_).trans HB7.out
    intro e
    have h1 := h2.lt _ h2.inG
    have := hk3.size
    simp at e
    omega
  have hDD : ∀ b ∈ D, b ∈ D8 := fun b hb => by rw [hD8]; exact List.mem_append_left _ hb
  have hDD2 : ∀ b ∈ D8, b ∈ D ∨ w.heap.size ≤ b := fun b hb => by
    rw [hD8] at hb
    rcases List.mem_append.1 hb with h | h
    · exact .inl h
    · have := (mem_newer.1 h).1
      exact .inr (by omega)
  have ep : m8.past = m.past := by rw [hm8]; rfl
  have en : m8.n = m.n := by rw [hm8]; rfl
  have es : m8.sz = m.sz := by rw [hm8]; rfl
  have ew : m.write k l = { m8 with past := m8.past.modify k (· ++ [l]) } := by rw [hm8]; rfl
  rw [hw8]
  clear hlo hw8 hm8 hD8 hk25 hB5 hr5 hA5 hk7 hloc HR HL' HR7 HB7 c3 f3 hL1 hL2 hL3 hS2 hgS hBS hkD h2 hk28 hKD hB3 hA3 hk23 ho3 hr2 hk2 hk5
  have hkp : k < m8.past.length := by rw [ep, hw.pl]; exact hk
  obtain ⟨vs, hP1, hP2, hP3, hP4⟩ := (h8.pasts k hkp).open
  have hwf := hw.write hk hl
  have hpl : (m8.past[k]).length ≤ 1000000000 := by
    have := (hw.ps k (by rw [hw.pl]; exact hk)).1
    have e : m8.past[k] = m.past[k]'(by rw [hw.pl]; exact hk) := by simp [ep]
    rw [e]
    omega
  have hvl : vs.length ≤ 1000000000 := by rw [hP3.1]; exact hpl
  have hpmS : pm ∉ ((pv k).getD (.slice none 0 0)).ownBlock.toList := (CellsOf.own hP1 (ts := [30]) (by decide)).notMap h8.past
  have hgS : g ∉ ((pv k).getD (.slice none 0 0)).ownBlock.toList := fun hb => by
    rw [Option.mem_toList] at hb
    obtain ⟨cs, h3⟩ := ownsRow_block hP1 hb
    have := h8.row
    rw [h3] at this
    cases this
  have hBS : w3.heap.size ∉ ((pv k).getD (.slice none 0 0)).ownBlock.toList := fun hb => by
    rw [Option.mem_toList] at hb
    obtain ⟨cs, h3⟩ := ownsRow_block hP1 hb
    rw [hB8] at h3
    cases h3
  generalize hov : (pv k).getD (.slice none 0 0) = ov at hP1 hP2 hP4 hpmS hgS hBS
  have hov' : ∀ w', Keep ov.ownBlock.toList w8 w' → (Instr.lookup 148 (.map (some pm)) (.int .i64 (k : Int)) false).run Try.prog w' = .ok ov w' := fun w' h' => by
    rw [← hov]
    exact (h8.past.keep h' hpmS).look Try.underlying3 Try.underlying148 (zeroRows _) k (by have := hw.n2; omega)
  obtain ⟨oa, oc, rfl⟩ := ownsRow_form hP1
  go_wp2_with fail
  refine wp_region_his (Value.slice oa vs.length oc).ownBlock.toList [13, 14, 15] (fun _ => 0) (by kernel_rfl) (by kernel_rfl) ?_
  intro w9 hk9 hh
  clear hh
  have hB9 := hk9.blk (by simp) hB8
  have hr9 : RowD w9 g m8 fm pm (.slice la' (m.loose.length + 1) lc') := h8.rowD.keep hk9 (by simp)
  have q4 := fun w' (h' : Keep (Value.slice oa vs.length oc).ownBlock.toList w9 w') => h'.cell (p := ⟨g, 4, none⟩) hgS hr9.c4
  have qB1 := fun w' (h' : Keep (Value.slice oa vs.length oc).ownBlock.toList w9 w') => cell_of_row w' _ 1 _ _ _ (h'.blk hBS hB9)
  have ql := fun w' (h' : Keep (Value.slice oa vs.length oc).ownBlock.toList w9 w') => hov' w' ((hk9.mono (by simp)).trans h')
  simp at qB1
  obtain ⟨nv, w11, hrun, hP', hk11, hloc⟩ := run_append_bytesRow (ty := 50) (ownsRow_keep hP1 (hk9.alloc (.cells #[.slice va m.sz vc] 30)) (by simp)) w9.heap.size (.slice va m.sz vc) (heap_alloc_new _ _) rfl hvl
  obtain ⟨na, nc, rfl⟩ := ownsRow_form hP'
  have hA9 := (Keep.refl [] w9).alloc (.cells #[.slice va m.sz vc] 30)
  have hk8b : Keep (Value.slice oa vs.length oc).ownBlock.toList w8 w11 := ((hk9.trans hA9).mono (by simp)).trans hk11
  obtain ⟨w12, hrun2, hM, hk12, hs12⟩ := (h8.past.keep hk8b hpmS).store Try.underlying3 Try.underlying148 k (by rw [en]; exact hk) (by rw [en]; have := hw.n2; omega) (.slice na (vs.length + 1) nc)
  have HR := Lib.hid hrun
  have HR2 := Lib.hid hrun2
  clear hrun hrun2
  (repeat (first | (refine his_q rfl rfl (fun K hK => ?_); apply Exists.intro; refine ⟨fun w' hC => ?_, ?_⟩; ((try simp [Sg.upd] at hC); go_simp <;> rfl); go_simp; refine hK _ _ ?_; clear hK K) | (refine his_s rfl (fun K hK => ?_); go_simp; refine hK _ _ ?_; clear hK K)))
  (refine his_l rfl rfl (fun K hK => ?_); go_simp)
  refine hK _ _ ((Keep.refl _ _).alloc _) ?_
  clear hK K
  refine his_l rfl rfl (fun K hK => ?_)
  refine loudly_append_run (.tmp 50) (.tmp 53) 50 rfl (v := .slice oa vs.length oc) (src := .slice (some ⟨w9.heap.size, 0, none⟩) 1 1) (w' := w11) rfl rfl HR.out ?_
  refine hK _ _ hk11 ?_
  clear hK K
  refine his_last rfl (by kernel_rfl) rfl (fun K hK => ?_)
  refine loudly_mapUpdate_run (.tmp 43) (.tmp 44) (.tmp 54) 148 rfl (mv := .map (some pm)) (xv := .int .i64 (k : Int)) (yv := .slice na (vs.length + 1) nc) (w' := w12) rfl rfl rfl HR2.out ?_
  refine hK _ _ ?_
  clear hK K q4 qB1 ql
  refine his_nil ?_
  have hMp : MapV Try.prog 3 w11 pm m8.n pv := h8.past.keep hk8b hpmS
  have hkk : Keep (pm :: (Value.slice oa vs.length oc).ownBlock.toList) w8 w12 := (hk8b.mono (fun b hb => List.mem_cons_of_mem _ hb)).trans (hk12.mono (fun b hb => by rw [List.mem_singleton] at hb; rw [hb]; exact List.mem_cons_self))
  have hSx : ∀ b ∈ pm :: (Value.slice oa vs.length oc).ownBlock.toList, b = pm ∨ ∃ v, pv k = some v ∧ v.ownBlock = some b := fun b hb => by
    rcases List.mem_cons.1 hb with h | h
    · exact .inl h
    · rw [Option.mem_toList] at h
      exact .inr (hP4 b h)
  have hSD : ∀ b ∈ pm :: (Value.slice oa vs.length oc).ownBlock.toList, b ∈ D8 := fun b hb => by
    rcases List.mem_cons.1 hb with h | h
    · rw [h]; exact h8.inP
    · rw [Option.mem_toList] at h
      exact hP2 b h
  have h8S : NotT w8 5 (pm :: (Value.slice oa vs.length oc).ownBlock.toList) := fun b hb => by
    rcases List.mem_cons.1 hb with h | h
    · rw [h]
      obtain ⟨es, c, h9⟩ := h8.past.isMapBlock
      exact ⟨_, h9, fun cs fr e => by cases e⟩
    · rw [Option.mem_toList] at h
      obtain ⟨cs, h3⟩ := ownsRow_block hP1 h
      exact ⟨_, h3, fun cs fr e => by cases e⟩
  have hD12 : ∀ b ∈ D8, b ∈ D8 ++ newer w8 w12 := fun b hb => List.mem_append_left _ hb
  have hrow12 : w12.ownsRow 0 30 1 (.slice na (vs.length + 1) nc) (vs.length + 1) (vs ++ [.slice va m.sz vc]) := ownsRow_move hP' hk12 (NotT.map hMp)
  have hpv : PastV w12 (D8 ++ newer w8 w12) (some (.slice na (vs.length + 1) nc)) (m8.past[k] ++ [l]) := by
    refine ⟨vs ++ [.slice va m.sz vc], ?_, ?_, (hP3.move hkk h8S hD12).snoc (ownB_move ho8.1 hkk h8S) (inD.mono ho8.2 hD12)⟩
    · rw [List.length_append]
      exact hrow12
    · intro b hb
      rcases hloc with h | h
      · rw [h] at hb
        exact hD12 b (hP2 b hb)
      · have h1 := ownsRow_lt hrow12 hb
        rw [h] at hb
        injection hb with hb
        have h2 := hk9.size
        simp at hb
        exact List.mem_append_right _ (mem_newer.2 ⟨by omega, h1⟩)
  have hfin : DevAt w12 (D8 ++ newer w8 w12) g (m.write k l) fm pm (.slice la' (m.loose.length + 1) lc') fv (updF pv k (.slice na (vs.length + 1) nc)) :=
    h8.pastTurn (by rw [ep, en]; exact hw.pl) hkp hkk hSx hD12 (fun b hb => by
      rcases List.mem_append.1 hb with h | h
      · exact Nat.lt_of_lt_of_le (h8.lt b h) hkk.size
      · exact (mem_newer.1 h).2) hM hpv (fun b hb => by
      rcases hloc with h | h
      · rw [h] at hb
        exact .inl (hP4 b hb)
      · rw [h] at hb
        injection hb with hb
        have h2 := hk9.size
        simp at hb
        exact .inr (by omega)) ew
  have hgrew : Grew w D (D8 ++ newer w8 w12) := ⟨fun b hb => hD12 b (hDD b hb), fun b hb => by
    rcases List.mem_append.1 hb with h | h
    · exact hDD2 b h
    · have := (mem_newer.1 h).1
      have := hK8.size
      exact .inr (by omega)⟩
  have hkeep : Keep D w w12 := keep_bump hK8 hkk (fun b hb => hDD2 b (hSD b hb))
  have hdev : DV w12 (D8 ++ newer w8 w12) g (m.write k l) := ⟨hwf, fm, pm, _, fv, _, hfin⟩
  clear hfin hpv hrow12 hD12 h8S hSD hSx hkk hMp HR HR2 hM hk12 hk8b hk11 hloc hP' hA9 hr9 hB9 h8 hP1 hP2 hP3 hP4 hov hov' ew ep en es hB8 hK8 ho8 hpmS hgS hBS
  cases dn with
  | true =>
    go_wp2
    go_ret
    exact ⟨rfl, _, hdev, hgrew, hkeep⟩
  | false =>
    go_wp2
    go_ret
    exact ⟨rfl, _, hdev, hgrew, hkeep⟩
end Go.Proofs.Ytijljdcpajjhhaa
