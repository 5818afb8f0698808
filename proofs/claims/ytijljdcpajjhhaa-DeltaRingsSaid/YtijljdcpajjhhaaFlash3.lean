import Derived.Test.YtijljdcpajjhhaaFlash2
import Derived.Test.YtijljdcpajjhhaaApp
import Derived.Outline
/-! The walks of flash: a new device; a write. -/
namespace Go.Proofs.Ytijljdcpajjhhaa
open Go.RowKit Sg
set_option linter.unusedSimpArgs false
set_option linter.unusedVariables false

set_option maxRecDepth 100000 in
set_option maxHeartbeats 1000000 in
theorem newDev_any (n sz : Nat) (hn : 1 ≤ n ∧ n ≤ 16384 ∧ 96 ≤ sz ∧ sz ≤ 512) (w : World) :
    Calls Try.prog 15 #[.int .i64 (n : Int), .int .i64 (sz : Int)] w fun e w' => ∃ g D, e = .returned (.pointer (some ⟨g, 0, none⟩)) ∧ DV w' D g (Dev.new n sz) ∧ Keep [] w w' ∧ ∀ b ∈ D, w.heap.size ≤ b := by
  obtain ⟨h1, h2, h3, h4⟩ := hn
  have hmm := @run_makeMap Try.prog
  have d1 : ¬ ((n : Int) < 1) := by omega
  have d2 : ¬ ((16384 : Int) < n) := by omega
  have d3 : ¬ ((sz : Int) < 96) := by omega
  have d4 : ¬ ((512 : Int) < sz) := by omega
  obtain ⟨fin, hfin⟩ : ∃ fin, ((w.alloc (.map #[] 0)).alloc (.map #[] 0)).alloc (.cells (devCells (Dev.new n sz) w.heap.size (w.heap.size + 1) (.slice none 0 0)) 151) = fin := ⟨_, rfl⟩
  have hK1 : Keep [] (w.alloc (.map #[] 0)) fin := by rw [← hfin]; exact ((Keep.refl [] _).alloc _).alloc _
  have hK2 : Keep [] ((w.alloc (.map #[] 0)).alloc (.map #[] 0)) fin := by rw [← hfin]; exact (Keep.refl [] _).alloc _
  have hK : Keep [] w fin := by rw [← hfin]; exact (((Keep.refl [] w).alloc _).alloc _).alloc _
  have hs : fin.heap.size = w.heap.size + 3 := by rw [← hfin]; simp
  have hrow : RowD fin (w.heap.size + 2) (Dev.new n sz) w.heap.size (w.heap.size + 1) (.slice none 0 0) := by
    rw [← hfin]
    have := heap_alloc_new ((w.alloc (.map #[] 0)).alloc (.map #[] 0)) (.cells (devCells (Dev.new n sz) w.heap.size (w.heap.size + 1) (.slice none 0 0)) 151)
    rw [World.size_alloc, World.size_alloc] at this
    exact this
  have hf : MapV Try.prog 3 fin w.heap.size n (fun _ => none) := (MapV.made w _ _ _).keep hK1 (by simp)
  have hp : MapV Try.prog 3 fin (w.heap.size + 1) n (fun _ => none) := by
    have := (MapV.made (w.alloc (.map #[] 0)) Try.prog 3 n).keep hK2 (by simp)
    rwa [World.size_alloc] at this
  have hD : DV fin [w.heap.size, w.heap.size + 1, w.heap.size + 2] (w.heap.size + 2) (Dev.new n sz) := by
    refine ⟨Dev.new_wf n sz ⟨h1, h2, h3, h4⟩, w.heap.size, w.heap.size + 1, .slice none 0 0, fun _ => none, fun _ => none, hrow, hf, hp, ?_, ?_, ?_, ?_, by simp, by simp, by simp, by omega, ?_⟩
    · intro k hk
      simp [SecV, Dev.new]
    · intro k hk
      simp [PastV, Dev.new]
    · intro j k v u b h
      cases h
    · exact ⟨[], World.ownsRow_nil _ _ _ _, fun b hb => by simp [Value.ownBlock] at hb, rfl, fun i v l h => by simp at h⟩
    · intro b hb
      simp at hb
      omega
  have HD := Lib.hid hD
  have HK := Lib.hid hK
  have HF := Lib.hid hfin
  clear hD hK hfin hf hp hrow hs hK1 hK2
  go_enter Try.func15, Try.ntmps15
  go_wp2
  go_ret
  refine ⟨w.heap.size + 2, rfl, [w.heap.size, w.heap.size + 1, w.heap.size + 2], ?_, ?_, ?_⟩
  rotate_left
  · have := HK.out
    rw [← HF.out] at this
    exact this
  · simp
  · have := HD.out
    rw [← HF.out] at this
    exact this

theorem Keep.of0 {S : List Nat} {w w' : World} (h : Keep [] w w') : Keep S w w' := h.mono (by simp)


/-- blocks of cells of these types -/
def CellsOf (w : World) (S : List Nat) (ts : List TypeId) : Prop := ∀ b ∈ S, ∃ cs t fr, w.heap[b]? = some (.cells cs t fr) ∧ t ∈ ts
theorem CellsOf.nil (w : World) (ts : List TypeId) : CellsOf w [] ts := fun b hb => by simp at hb
theorem CellsOf.one {w : World} {g : Nat} {cs : Array Value} {t : TypeId} {fr : Nat × Nat} {ts : List TypeId} (h : w.heap[g]? = some (.cells cs t fr)) (ht : t ∈ ts) : CellsOf w [g] ts := fun b hb => by
  rw [List.mem_singleton] at hb
  subst hb
  exact ⟨_, _, _, h, ht⟩
theorem CellsOf.own {w : World} {base : Nat} {t : TypeId} {sz n : Nat} {v : Value} {xs : List Value} {ts : List TypeId} (h : w.ownsRow base t sz v n xs) (ht : t ∈ ts) : CellsOf w v.ownBlock.toList ts := fun b hb => by
  rw [Option.mem_toList] at hb
  obtain ⟨cs, h⟩ := ownsRow_block h hb
  exact ⟨_, _, _, h, ht⟩
theorem CellsOf.append {w : World} {S T : List Nat} {ts : List TypeId} (h : CellsOf w S ts) (k : CellsOf w T ts) : CellsOf w (S ++ T) ts := fun b hb => (List.mem_append.1 hb).elim (h b) (k b)
theorem CellsOf.notT {w : World} {S : List Nat} {ts : List TypeId} {e : TypeId} (h : CellsOf w S ts) (he : e ∉ ts) : NotT w e S := fun b hb => by
  obtain ⟨cs, t, fr, h1, h2⟩ := h b hb
  exact ⟨_, h1, fun cs fr e => by injection e with _ e; exact he (e ▸ h2)⟩
theorem CellsOf.notMap {w : World} {S : List Nat} {ts : List TypeId} {fm n : Nat} {f : Nat → Option Value} (h : CellsOf w S ts) (hm : MapV Try.prog 3 w fm n f) : fm ∉ S := fun hb => by
  obtain ⟨cs, t, fr, h1, h2⟩ := h fm hb
  obtain ⟨es, c, h3⟩ := hm.isMapBlock
  rw [h1] at h3
  cases h3

/-- the row of a device is written, and loose writes, and nothing else that it looks at -/
theorem DevAt.turn2 {w w' : World} {D D' S : List Nat} {g : Nat} {m m' : Dev} {fm pm : Nat} {lv lv' : Value} {fv pv : Nat → Option Value} (h : DevAt w D g m fm pm lv fv pv) (k : Keep S w w') (hS : CellsOf w S [151, 156]) (hr : RowD w' g m' fm pm lv')
    (e1 : m'.n = m.n) (e2 : m'.sz = m.sz) (e3 : m'.fast = m.fast) (e4 : m'.past = m.past) (hl : LooseV w' D' lv' m'.loose) (hD : ∀ b ∈ D, b ∈ D') (hlt : ∀ b ∈ D', b < w'.heap.size) : DevAt w' D' g m' fm pm lv' fv pv := by
  obtain ⟨n, sz, fast, loose, past, armed, acts, down⟩ := m
  obtain ⟨n', sz', fast', loose', past', armed', acts', down'⟩ := m'
  simp only at e1 e2 e3 e4
  subst e1 e2 e3 e4
  have h1 : NotT w 5 S := hS.notT (by decide)
  have h2 : NotT w 30 S := hS.notT (by decide)
  exact ⟨hr, h.fast.keep k (hS.notMap h.fast), h.past.keep k (hS.notMap h.past), fun i hi => (h.fasts i hi).move k h1 hD, fun i hi => (h.pasts i hi).move k h1 h2 hD, h.apart, hl, hD _ h.inG, hD _ h.inF, hD _ h.inP, h.two, hlt⟩

theorem run_append_loose {w : World} {ty : TypeId} {v : Value} {n : Nat} {xs : List Value} (hown : w.ownsRow 0 156 2 v n xs) (g : Nat) (k : Int) (u : Value) {fr : Nat × Nat}
    (hg : w.heap[g]? = some (.cells #[.int .i64 k, u] 156 fr)) (hu : u.oneCell' = true) (hn : n ≤ 1000000000) :
    ∃ v' w', (Builtin.append_ #[149, 149] ty #[v, .slice (some ⟨g, 0, none⟩) 1 1]).run Try.prog w = .ok v' w' ∧ w'.ownsRow 0 156 2 v' (n + 1) (xs ++ [.int .i64 k, u]) ∧ Keep v.ownBlock.toList w w' ∧ (v'.ownBlock = v.ownBlock ∨ v'.ownBlock = some w.heap.size) := by
  obtain ⟨i, hi1, hz, hs1, hb1⟩ := info_parts (show (Try.prog.info? 156).map (fun i => (i.zero, i.size, i.bytes)) = some (some (.agg #[.int .i64 0, .slice none 0 0]), 2, 32) by kernel_rfl)
  obtain ⟨v', w', hrun, hown', hgr, -, hloc⟩ := run_append_own_at (P := Try.prog) w 0 149 ty 156 i _ 2 32 Try.underlying149 hi1 hz hs1 hb1 rfl (by decide) v n xs hown ⟨g, 0, none⟩ 1 1 [.int .i64 k, u] (by rfl)
    (fun j x hx => by
      rw [Addr.add_lit, Nat.zero_add, cell_of_row _ _ _ _ _ _ hg]
      match j, hx with
      | 0, hx => exact hx
      | 1, hx => exact hx
      | j + 2, hx => simp at hx)
    (by
      intro x hx
      simp at hx
      rcases hx with rfl | rfl
      · rfl
      · exact hu) (by simp [maxLen]; omega) (by omega) (Nat.zero_le _)
  exact ⟨v', w', hrun, hown', Keep.grown hgr, hloc⟩
theorem run_append_bytesRow {w : World} {ty : TypeId} {v : Value} {n : Nat} {xs : List Value} (hown : w.ownsRow 0 30 1 v n xs) (g : Nat) (u : Value) {fr : Nat × Nat}
    (hg : w.heap[g]? = some (.cells #[u] 30 fr)) (hu : u.oneCell' = true) (hn : n ≤ 1000000000) :
    ∃ v' w', (Builtin.append_ #[50, 50] ty #[v, .slice (some ⟨g, 0, none⟩) 1 1]).run Try.prog w = .ok v' w' ∧ w'.ownsRow 0 30 1 v' (n + 1) (xs ++ [u]) ∧ Keep v.ownBlock.toList w w' ∧ (v'.ownBlock = v.ownBlock ∨ v'.ownBlock = some w.heap.size) := by
  obtain ⟨i, hi1, hz, hs1, hb1⟩ := info_parts (show (Try.prog.info? 30).map (fun i => (i.zero, i.size, i.bytes)) = some (some (.slice none 0 0), 1, 24) by kernel_rfl)
  obtain ⟨v', w', hrun, hown', hgr, -, hloc⟩ := run_append_own_at (P := Try.prog) w 0 50 ty 30 i _ 1 24 Try.underlying50 hi1 hz hs1 hb1 rfl (by decide) v n xs hown ⟨g, 0, none⟩ 1 1 [u] (by rfl)
    (fun j x hx => by
      rw [Addr.add_lit, Nat.zero_add, cell_of_row _ _ _ _ _ _ hg]
      match j, hx with
      | 0, hx => exact hx
      | j + 1, hx => simp at hx)
    (by
      intro x hx
      simp at hx
      subst hx
      exact hu) (by simp [maxLen]; omega) (by omega) (Nat.zero_le _)
  exact ⟨v', w', hrun, hown', Keep.grown hgr, hloc⟩

end Go.Proofs.Ytijljdcpajjhhaa
