import Derived.Test.YtjkjiabfhhnngaaDev
import Derived.Test.YtjkjiabfhhnngaaWire
import Derived.Test.YtjkjiabfhhnngaaHist
import Derived.Carry
import Derived.Test.YtjkjiabfhhnngaaOwn
import Derived.Outline
/-! The walks of flash: what asks a device, counts an act, makes one. -/
namespace Go.Proofs.Ytjkjiabfhhnngaa
open Go.RowKit Sg
set_option linter.unusedSimpArgs false
set_option linter.unusedVariables false

/-- a device's row -/
def RowD (w : World) (g : Nat) (m : Dev) (fm pm : Nat) (lv : Value) : Prop := w.heap[g]? = some (.cells (devCells m fm pm lv) 173 (0, 0))
theorem RowD.c0 {w : World} {g fm pm : Nat} {m : Dev} {lv : Value} (h : RowD w g m fm pm lv) : w.cell? ⟨g, 0, none⟩ = some (.int .i64 (m.n : Int)) := by rw [cell_of_row _ _ _ _ _ _ h]; rfl
theorem RowD.c1 {w : World} {g fm pm : Nat} {m : Dev} {lv : Value} (h : RowD w g m fm pm lv) : w.cell? ⟨g, 1, none⟩ = some (.int .i64 (m.sz : Int)) := by rw [cell_of_row _ _ _ _ _ _ h]; rfl
theorem RowD.c2 {w : World} {g fm pm : Nat} {m : Dev} {lv : Value} (h : RowD w g m fm pm lv) : w.cell? ⟨g, 2, none⟩ = some (.map (some fm)) := by rw [cell_of_row _ _ _ _ _ _ h]; rfl
theorem RowD.c3 {w : World} {g fm pm : Nat} {m : Dev} {lv : Value} (h : RowD w g m fm pm lv) : w.cell? ⟨g, 3, none⟩ = some lv := by rw [cell_of_row _ _ _ _ _ _ h]; rfl
theorem RowD.c4 {w : World} {g fm pm : Nat} {m : Dev} {lv : Value} (h : RowD w g m fm pm lv) : w.cell? ⟨g, 4, none⟩ = some (.map (some pm)) := by rw [cell_of_row _ _ _ _ _ _ h]; rfl
theorem RowD.c5 {w : World} {g fm pm : Nat} {m : Dev} {lv : Value} (h : RowD w g m fm pm lv) : w.cell? ⟨g, 5, none⟩ = some (.int .i64 (m.armed : Int)) := by rw [cell_of_row _ _ _ _ _ _ h]; rfl
theorem RowD.c6 {w : World} {g fm pm : Nat} {m : Dev} {lv : Value} (h : RowD w g m fm pm lv) : w.cell? ⟨g, 6, none⟩ = some (.int .i64 (m.acts : Int)) := by rw [cell_of_row _ _ _ _ _ _ h]; rfl
theorem RowD.c7 {w : World} {g fm pm : Nat} {m : Dev} {lv : Value} (h : RowD w g m fm pm lv) : w.cell? ⟨g, 7, none⟩ = some (.bool m.down) := by rw [cell_of_row _ _ _ _ _ _ h]; rfl
theorem RowD.free {w : World} {g fm pm : Nat} {m : Dev} {lv : Value} (h : RowD w g m fm pm lv) (j : Nat) : w.frozen? ⟨g, j, none⟩ = false := frozen_of_row _ _ _ _ _ h
theorem RowD.keep {w w' : World} {S : List Nat} {g fm pm : Nat} {m : Dev} {lv : Value} (h : RowD w g m fm pm lv) (k : Keep S w w') (hS : g ∉ S) : RowD w' g m fm pm lv := k.blk hS h
theorem RowD.set {w : World} {g fm pm : Nat} {m : Dev} {lv : Value} (h : RowD w g m fm pm lv) (j : Nat) (v : Value) : (w.setCell ⟨g, j, none⟩ v).heap[g]? = some (.cells ((devCells m fm pm lv).setIfInBounds j v) 173 (0, 0)) := heap_setCell_same _ _ _ _ _ _ h

set_option maxRecDepth 100000 in
set_option maxHeartbeats 1000000 in
theorem there_any (w : World) (g : Nat) (m : Dev) (fm pm : Nat) (lv : Value) (h : RowD w g m fm pm lv) (a : Int) :
    Calls Try.prog 94 #[.pointer (some ⟨g, 0, none⟩), .int .i64 a] w fun e w' => e = .returned (.bool (decide (0 ≤ a ∧ a < m.n))) ∧ w = w' := by
  have c0 := h.c0
  clear h
  by_cases h1 : 0 ≤ a
  · by_cases h2 : a < (m.n : Int)
    · go_enter Try.func94, Try.ntmps94
      go_wp2
      go_ret
      simp [h1, h2]
    · go_enter Try.func94, Try.ntmps94
      go_wp2
      go_ret
      simp [h1, h2]
  · go_enter Try.func94, Try.ntmps94
    go_wp2
    go_ret
    simp
    omega

set_option maxRecDepth 100000 in
set_option maxHeartbeats 1000000 in
theorem ready_any (w : World) (g : Nat) (m : Dev) (fm pm : Nat) (lv : Value) (h : RowD w g m fm pm lv) (a : Int) :
    Calls Try.prog 90 #[.pointer (some ⟨g, 0, none⟩), .int .i64 a] w fun e w' => e = .returned (.int .i64 (m.ready a : Int)) ∧ w = w' := by
  have c7 := h.c7
  have ht := there_any w g m fm pm lv h a
  clear h
  cases hd : m.down with
  | true =>
    rw [hd] at c7
    go_enter Try.func90, Try.ntmps90
    go_wp2
    go_ret
    simp [Dev.ready, hd]
  | false =>
    rw [hd] at c7
    by_cases h1 : 0 ≤ a ∧ a < (m.n : Int)
    · have e1 : decide (0 ≤ a ∧ a < (m.n : Int)) = true := by simpa using h1
      rw [e1] at ht
      go_enter Try.func90, Try.ntmps90
      go_wp2_with fail
      refine ht.mono ?_
      rintro e w' ⟨rfl, rfl⟩
      go_wp2
      go_ret
      simp [Dev.ready, hd, h1]
    · have e1 : decide (0 ≤ a ∧ a < (m.n : Int)) = false := by simpa using h1
      rw [e1] at ht
      go_enter Try.func90, Try.ntmps90
      go_wp2_with fail
      refine ht.mono ?_
      rintro e w' ⟨rfl, rfl⟩
      go_wp2
      go_ret
      simp [Dev.ready, hd, h1]

set_option maxRecDepth 100000 in
set_option maxHeartbeats 1000000 in
theorem act_any (w : World) (g : Nat) (m : Dev) (fm pm : Nat) (lv : Value) (h : RowD w g m fm pm lv) (hb : m.acts ≤ 1000000000) (ha : m.armed ≤ 9223372036854775807) :
    Calls Try.prog 87 #[.pointer (some ⟨g, 0, none⟩)] w fun e w' => e = .returned (.bool m.act.down) ∧ RowD w' g m.act fm pm lv ∧ Keep [g] w w' ∧ w'.heap.size = w.heap.size := by
  have c6 := h.c6
  have c5 := h.c5
  have c7 := h.c7
  have f6 := h.free 6
  have f5 := h.free 5
  have f7 := h.free 7
  by_cases h0 : 0 < m.armed
  · by_cases h1 : m.armed = 1
    · have hr : RowD (((w.setCell ⟨g, 6, none⟩ (.int .i64 (m.acts + 1 : Int))).setCell ⟨g, 5, none⟩ (.int .i64 0)).setCell ⟨g, 7, none⟩ (.bool true)) g m.act fm pm lv := by
        have e1 := h.set 6 (.int .i64 (m.acts + 1 : Int))
        have e2 := heap_setCell_same _ g 5 _ _ (.int .i64 0) e1
        have e3 := heap_setCell_same _ g 7 _ _ (.bool true) e2
        refine e3.trans ?_
        simp [devCells, Dev.act, h1]
      rw [h1] at c5
      clear h
      go_enter Try.func87, Try.ntmps87
      go_wp2
      go_ret
      refine ⟨by simp [Dev.act, h1], hr, (((Keep.refl _ _).setCell (.inl (by simp)) _).setCell (.inl (by simp)) _).setCell (.inl (by simp)) _, by simp⟩
    · have hr : RowD (((w.setCell ⟨g, 6, none⟩ (.int .i64 (m.acts + 1 : Int))).setCell ⟨g, 5, none⟩ (.int .i64 (m.armed - 1 : Int))).setCell ⟨g, 7, none⟩ (.bool false)) g m.act fm pm lv := by
        have e1 := h.set 6 (.int .i64 (m.acts + 1 : Int))
        have e2 := heap_setCell_same _ g 5 _ _ (.int .i64 (m.armed - 1 : Int)) e1
        have e3 := heap_setCell_same _ g 7 _ _ (.bool false) e2
        refine e3.trans ?_
        simp [devCells, Dev.act, h1, h0]
        omega
      clear h
      have d1 : ((m.armed : Int) - 1 == 0) = false := by simp; omega
      go_enter Try.func87, Try.ntmps87
      go_wp2
      go_ret
      refine ⟨by simp [Dev.act, h1, h0], hr, (((Keep.refl _ _).setCell (.inl (by simp)) _).setCell (.inl (by simp)) _).setCell (.inl (by simp)) _, by simp⟩
  · have h1 : m.armed = 0 := by omega
    have hr : RowD (w.setCell ⟨g, 6, none⟩ (.int .i64 (m.acts + 1 : Int))) g m.act fm pm lv := by
      have e1 := h.set 6 (.int .i64 (m.acts + 1 : Int))
      refine e1.trans ?_
      simp [devCells, Dev.act, h1]
    rw [h1] at c5
    clear h
    go_enter Try.func87, Try.ntmps87
    go_wp2
    go_ret
    refine ⟨by simp [Dev.act, h1], hr, (Keep.refl _ _).setCell (.inl (by simp)) _, by simp⟩
end Go.Proofs.Ytjkjiabfhhnngaa

/-! The walks of flash: what a sector holds fast; small questions; a new device. -/
namespace Go.Proofs.Ytjkjiabfhhnngaa
open Go.RowKit Sg
set_option linter.unusedSimpArgs false
set_option linter.unusedVariables false

theorem zeroBytes (w : World) : (zeroValue 42).run Try.prog w = .ok (.slice none 0 0) w := by kernel_rfl
theorem zeroRows (w : World) : (zeroValue 56).run Try.prog w = .ok (.slice none 0 0) w := by kernel_rfl
theorem DevAt.rowD {w : World} {D : List Nat} {g : Nat} {m : Dev} {fm pm : Nat} {lv : Value} {fv pv : Nat → Option Value} (h : DevAt w D g m fm pm lv fv pv) : RowD w g m fm pm lv := h.row

set_option maxRecDepth 100000 in
set_option maxHeartbeats 1000000 in
theorem kept_any (w : World) (D : List Nat) (g : Nat) (m : Dev) (fm pm : Nat) (lv : Value) (fv pv : Nat → Option Value) (hw : m.Wf) (h : DevAt w D g m fm pm lv fv pv) (k : Nat) (hk : k < m.fast.length) :
    Calls Try.prog 92 #[.pointer (some ⟨g, 0, none⟩), .int .i64 (k : Int)] w fun e w' => ∃ v, e = .returned v ∧ OwnB w' 0 5 v m.fast[k] ∧ Keep [] w w' := by
  have hkn : k ≤ 1000000000 := by have := hw.fl; have := hw.n2; omega
  have hl := h.fast.look_ok Try.underlying3 Try.underlying169 (zeroBytes w) k hkn
  have c1 := h.rowD.c1
  have c2 := h.rowD.c2
  have hs := h.fasts k hk
  have s2 := hw.s2
  cases hf : fv k with
  | none =>
    rw [hf] at hl hs
    simp only [Option.getD_none, Option.isSome_none] at hl
    have hs' : m.fast[k] = List.replicate m.sz 0 := hs
    rw [hs']
    clear h hs hs' hf
    go_enter Try.func92, Try.ntmps92
    go_wp2_with (refine wpList_make_bytes rfl (.tmp 21) (.tmp 21) 42 5 rfl 0 Try.underlying42 (by kernel_rfl) .i64 .i64 (n := m.sz) rfl rfl (by omega) (Nat.zero_le _) ?_)
    intro w2 ho2 hk2 _
    go_wp2
    go_ret
    exact ⟨_, rfl, ho2, hk2⟩
  | some v =>
    rw [hf] at hl hs
    simp only [Option.getD_some, Option.isSome_some] at hl
    have hs' := hs.1
    clear h hs hf
    go_enter Try.func92, Try.ntmps92
    go_wp2
    go_ret
    exact ⟨_, rfl, hs', Keep.refl _ _⟩

theorem DV.row {w : World} {D : List Nat} {g : Nat} {m : Dev} (h : DV w D g m) : ∃ fm pm lv, RowD w g m fm pm lv := by
  obtain ⟨-, fm, pm, lv, fv, pv, h⟩ := h
  exact ⟨fm, pm, lv, h.row⟩

set_option maxRecDepth 100000 in
set_option maxHeartbeats 1000000 in
theorem sectors_any (w : World) (D : List Nat) (g : Nat) (m : Dev) (h : DV w D g m) : Calls Try.prog 15 #[.pointer (some ⟨g, 0, none⟩)] w fun e w' => e = .returned (.int .i64 (m.n : Int)) ∧ w = w' := by
  obtain ⟨fm, pm, lv, hr⟩ := h.row
  have c0 := hr.c0
  clear hr h
  go_enter Try.func15, Try.ntmps15
  go_wp2
  go_ret
  exact ⟨rfl, rfl⟩
set_option maxRecDepth 100000 in
set_option maxHeartbeats 1000000 in
theorem size_dev_any (w : World) (D : List Nat) (g : Nat) (m : Dev) (h : DV w D g m) : Calls Try.prog 16 #[.pointer (some ⟨g, 0, none⟩)] w fun e w' => e = .returned (.int .i64 (m.sz : Int)) ∧ w = w' := by
  obtain ⟨fm, pm, lv, hr⟩ := h.row
  have c1 := hr.c1
  clear hr h
  go_enter Try.func16, Try.ntmps16
  go_wp2
  go_ret
  exact ⟨rfl, rfl⟩
set_option maxRecDepth 100000 in
set_option maxHeartbeats 1000000 in
theorem acts_any (w : World) (D : List Nat) (g : Nat) (m : Dev) (h : DV w D g m) : Calls Try.prog 33 #[.pointer (some ⟨g, 0, none⟩)] w fun e w' => e = .returned (.int .i64 (m.acts : Int)) ∧ w = w' := by
  obtain ⟨fm, pm, lv, hr⟩ := h.row
  have c6 := hr.c6
  clear hr h
  go_enter Try.func33, Try.ntmps33
  go_wp2
  go_ret
  exact ⟨rfl, rfl⟩
set_option maxRecDepth 100000 in
set_option maxHeartbeats 1000000 in
theorem down_any (w : World) (D : List Nat) (g : Nat) (m : Dev) (h : DV w D g m) : Calls Try.prog 31 #[.pointer (some ⟨g, 0, none⟩)] w fun e w' => e = .returned (.bool m.down) ∧ w = w' := by
  obtain ⟨fm, pm, lv, hr⟩ := h.row
  have c7 := hr.c7
  clear hr h
  go_enter Try.func31, Try.ntmps31
  go_wp2
  go_ret
  exact ⟨rfl, rfl⟩
set_option maxRecDepth 100000 in
set_option maxHeartbeats 1000000 in
theorem loose_any (w : World) (D : List Nat) (g : Nat) (m : Dev) (h : DV w D g m) : Calls Try.prog 32 #[.pointer (some ⟨g, 0, none⟩)] w fun e w' => e = .returned (.int .i64 (m.loose.length : Int)) ∧ w = w' := by
  obtain ⟨-, fm, pm, lv, fv, pv, h⟩ := h
  have c3 := h.rowD.c3
  obtain ⟨vs, h1, -, -⟩ := h.loose
  obtain ⟨a, c, rfl⟩ : ∃ a c, lv = .slice a m.loose.length c := by
    rcases h1.2 with ⟨rfl, h0⟩ | ⟨g', cap, cur, rfl, -⟩
    · exact ⟨_, _, by rw [h0]⟩
    · exact ⟨_, _, rfl⟩
  clear h h1
  go_enter Try.func32, Try.ntmps32
  go_wp2
  go_ret
  exact ⟨rfl, rfl⟩

/-- no block of cells of this type -/
def NotT (w : World) (t : TypeId) (S : List Nat) : Prop := ∀ b ∈ S, ∃ o, w.heap[b]? = some o ∧ ∀ cs fr, o ≠ .cells cs t fr
theorem NotT.row {w : World} {g : Nat} {cs : Array Value} {t e : TypeId} {fr : Nat × Nat} (h : w.heap[g]? = some (.cells cs t fr)) (ht : t ≠ e) : NotT w e [g] := fun b hb => by
  rw [List.mem_singleton] at hb
  subst hb
  exact ⟨_, h, fun cs fr e => by injection e with _ e; exact ht e⟩
theorem NotT.map {w : World} {g : Nat} {e : TypeId} {S : Nat} {f : Nat → Option Value} (h : MapV Try.prog 3 w g S f) : NotT w e [g] := fun b hb => by
  rw [List.mem_singleton] at hb
  subst hb
  obtain ⟨es, c, h⟩ := h.isMapBlock
  exact ⟨_, h, fun cs fr e => by cases e⟩
theorem NotT.nil {w : World} {e : TypeId} : NotT w e [] := fun b hb => by simp at hb
theorem NotT.own {w : World} {base : Nat} {t e : TypeId} {sz n : Nat} {v : Value} {xs : List Value} (h : w.ownsRow base t sz v n xs) (ht : t ≠ e) : NotT w e v.ownBlock.toList := fun b hb => by
  rw [Option.mem_toList] at hb
  obtain ⟨cs, h⟩ := ownsRow_block h hb
  exact ⟨_, h, fun cs fr e => by injection e with _ e; exact ht e⟩
theorem ownsRow_move {w w' : World} {S : List Nat} {base : Nat} {e : TypeId} {sz n : Nat} {v : Value} {xs : List Value} (h : w.ownsRow base e sz v n xs) (k : Keep S w w') (hS : NotT w e S) : w'.ownsRow base e sz v n xs :=
  ownsRow_keep h k fun b hb hm => by
    obtain ⟨cs, h1⟩ := ownsRow_block h hb
    obtain ⟨o, h2, h3⟩ := hS b hm
    rw [h1] at h2
    cases h2
    exact h3 _ _ rfl
theorem SecV.move {w w' : World} {S D D' : List Nat} {sz : Nat} {o : Option Value} {l : List UInt8} (h : SecV w D sz o l) (k : Keep S w w') (hS : NotT w 5 S) (hD : ∀ b ∈ D, b ∈ D') : SecV w' D' sz o l := by
  cases o with
  | none => exact h
  | some v => exact ⟨ownsRow_move h.1 k hS, inD.mono h.2 hD⟩
theorem PastV.move {w w' : World} {S D D' : List Nat} {o : Option Value} {ls : List (List UInt8)} (h : PastV w D o ls) (k : Keep S w w') (hS : NotT w 5 S) (hS2 : NotT w 42 S) (hD : ∀ b ∈ D, b ∈ D') : PastV w' D' o ls := by
  cases o with
  | none => exact h
  | some v =>
    obtain ⟨vs, h1, h2, h3⟩ := h
    exact ⟨vs, ownsRow_move h1 k hS2, inD.mono h2 hD, h3.move k hS hD⟩
theorem LooseV.move {w w' : World} {S D D' : List Nat} {lv : Value} {ls : List (Nat × List UInt8)} (h : LooseV w D lv ls) (k : Keep S w w') (hS : NotT w 5 S) (hS2 : NotT w 177 S) (hD : ∀ b ∈ D, b ∈ D') : LooseV w' D' lv ls := by
  obtain ⟨vs, h1, h2, h3⟩ := h
  exact ⟨vs, ownsRow_move h1 k hS2, inD.mono h2 hD, h3.move k hS hD⟩
theorem LooseV.form {w : World} {D : List Nat} {lv : Value} {ls : List (Nat × List UInt8)} (h : LooseV w D lv ls) : ∃ a c, lv = .slice a ls.length c := by
  obtain ⟨vs, h1, -, -⟩ := h
  rcases h1.2 with ⟨rfl, h0⟩ | ⟨g', cap, cur, rfl, -⟩
  · exact ⟨_, _, by rw [h0]⟩
  · exact ⟨_, _, rfl⟩

/-- the row of a device is written, and nothing else that it looks at -/
theorem DevAt.turn {w w' : World} {D : List Nat} {g : Nat} {m m' : Dev} {fm pm : Nat} {lv lv' : Value} {fv pv : Nat → Option Value} (h : DevAt w D g m fm pm lv fv pv) (k : Keep [g] w w') (hr : RowD w' g m' fm pm lv')
    (e1 : m'.n = m.n) (e2 : m'.sz = m.sz) (e3 : m'.fast = m.fast) (e4 : m'.past = m.past) (hl : LooseV w' D lv' m'.loose) : DevAt w' D g m' fm pm lv' fv pv := by
  have h1 : NotT w 5 [g] := NotT.row h.row (by decide)
  have h2 : NotT w 42 [g] := NotT.row h.row (by decide)
  have hf : fm ∉ [g] := by
    obtain ⟨es, c, hb⟩ := h.fast.isMapBlock
    intro hm
    rw [List.mem_singleton] at hm
    subst hm
    have := h.row
    rw [hb] at this
    cases this
  have hp : pm ∉ [g] := by
    obtain ⟨es, c, hb⟩ := h.past.isMapBlock
    intro hm
    rw [List.mem_singleton] at hm
    subst hm
    have := h.row
    rw [hb] at this
    cases this
  obtain ⟨n, sz, fast, loose, past, armed, acts, down⟩ := m
  obtain ⟨n', sz', fast', loose', past', armed', acts', down'⟩ := m'
  simp only at e1 e2 e3 e4
  subst e1 e2 e3 e4
  exact ⟨hr, h.fast.keep k hf, h.past.keep k hp, fun i hi => (h.fasts i hi).move k h1 (fun _ h => h), fun i hi => (h.pasts i hi).move k h1 h2 (fun _ h => h), h.apart, hl, h.inG, h.inF, h.inP, h.two, fun b hb => Nat.lt_of_lt_of_le (h.lt b hb) k.size⟩

set_option maxRecDepth 100000 in
set_option maxHeartbeats 1000000 in
theorem arm_any (w : World) (D : List Nat) (g : Nat) (m : Dev) (h : DV w D g m) (n : Int) (hn : n ≤ 9223372036854775807) : Calls Try.prog 23 #[.pointer (some ⟨g, 0, none⟩), .int .i64 n] w fun e w' => e = .returned (.tuple #[]) ∧ DV w' D g (m.arm n) ∧ Keep D w w' := by
  obtain ⟨hw, fm, pm, lv, fv, pv, h⟩ := h
  have c5 := h.rowD.c5
  have f5 := h.rowD.free 5
  have hl : LooseV (w.setCell ⟨g, 5, none⟩ (.int .i64 (n.toNat : Int))) D lv (m.arm n).loose := h.loose.move ((Keep.refl [g] w).setCell (.inl (by simp)) _) (NotT.row h.row (by decide)) (NotT.row h.row (by decide)) (fun _ h => h)
  have hr : RowD (w.setCell ⟨g, 5, none⟩ (.int .i64 (n.toNat : Int))) g (m.arm n) fm pm lv := (h.rowD.set 5 (.int .i64 (n.toNat : Int))).trans (by simp [devCells, Dev.arm])
  have hd := h.turn ((Keep.refl [g] w).setCell (.inl (by simp)) _) hr rfl rfl rfl rfl hl
  have hw' : (m.arm n).Wf := { n1 := hw.n1, n2 := hw.n2, s1 := hw.s1, s2 := hw.s2, fl := hw.fl, fs := hw.fs, pl := hw.pl, ps := hw.ps, ll := hw.ll, ls := hw.ls, ar := by simp only [Dev.arm]; omega }
  have hk : Keep D w (w.setCell ⟨g, 5, none⟩ (.int .i64 (n.toNat : Int))) := (Keep.refl D w).setCell (.inl h.inG) _
  have HD := Lib.hid hd
  have HK := Lib.hid hk
  clear h hl hr hd hk
  by_cases h0 : 0 ≤ n
  · have e0 : ((n.toNat : Nat) : Int) = n := by omega
    rw [e0] at HD HK
    go_enter Try.func23, Try.ntmps23
    go_wp2
    go_end0
    exact ⟨rfl, ⟨hw', fm, pm, lv, fv, pv, HD.out⟩, HK.out⟩
  · have e0 : ((n.toNat : Nat) : Int) = 0 := by omega
    rw [e0] at HD HK
    go_enter Try.func23, Try.ntmps23
    go_wp2
    go_end0
    exact ⟨rfl, ⟨hw', fm, pm, lv, fv, pv, HD.out⟩, HK.out⟩
end Go.Proofs.Ytjkjiabfhhnngaa

/-! append, whatever its law says, at each place of a walk; a store into a map likewise. -/
namespace Sg
open Go Go.RowKit

section
variable {P : Program} {ops : Array Oper} {Q : Exit → Act → World → Prop} {w : World}

theorem loudly_append_run {o : Oper} {a : Act} {K : Act → World → Prop} (s x : Operand) (t : TypeId) (hop : o.op = Op.call { callee := Callee.builtin Builtin.append, args := #[s, x], argTypes := #[t, t] })
    {v src v' : Value} {w' : World} (hs : a.eval s = v) (hx : a.eval x = src) (hrun : (Builtin.append_ #[t, t] o.type #[v, src]).run P w = .ok v' w') (hK : K (a.put o.dst v') w') : loudly P o a w K := by
  have e1 : (execOp a.eval o).run P w = .ok (.value v') w' := by
    simp [execOp, hop, resolve, invoke, builtin, hs, hx, hrun, Result.andThen]
  unfold loudly
  rw [e1]
  exact hK
theorem wpList_append_run {rest : List Oper} {o : Oper} {a : Act} (hg : o.guard = none) (s x : Operand) (t : TypeId) (hop : o.op = Op.call { callee := Callee.builtin Builtin.append, args := #[s, x], argTypes := #[t, t] })
    {v src v' : Value} {w' : World} (hs : a.eval s = v) (hx : a.eval x = src) (hrun : (Builtin.append_ #[t, t] o.type #[v, src]).run P w = .ok v' w') (hK : wpList P ops Q rest (a.put o.dst v') w') : wpList P ops Q (o :: rest) a w :=
  wpList_plain hg fun _ hK' => loudly_wp (loudly_append_run s x t hop hs hx hrun (hK' _ _ hK))
theorem wpListIn_append_run {F : Fence} {n : Nat} {rest : List Oper} {o : Oper} {a : Act} (hg : o.guard = none) (s x : Operand) (t : TypeId) (hop : o.op = Op.call { callee := Callee.builtin Builtin.append, args := #[s, x], argTypes := #[t, t] })
    {v src v' : Value} {w' : World} (hs : a.eval s = v) (hx : a.eval x = src) (hrun : (Builtin.append_ #[t, t] o.type #[v, src]).run P w = .ok v' w') (hK : wpListIn F n P ops Q rest (a.put o.dst v') w') : wpListIn F n P ops Q (o :: rest) a w := by
  refine wpListIn_plain hg fun K hK' => ?_
  unfold Oper.wpIn
  refine ⟨?_, ?_⟩
  · simp [Oper.about, hop, resolve, Target.leads, Sem.run_pure]
  · rw [Oper.semAt_plain F _ _ (by rw [hop]; intro c hc'; cases hc')]
    simp [execOp, hop, resolve, invoke, builtin, hs, hx, hrun, Result.andThen]
    exact hK' _ _ hK

theorem loudly_mapUpdate_run {o : Oper} {a : Act} {K : Act → World → Prop} (m x y : Operand) (t : TypeId) (hop : o.op = Op.mapUpdate t m x y)
    {mv xv yv : Value} {w' : World} (hm : a.eval m = mv) (hx : a.eval x = xv) (hy : a.eval y = yv) (hrun : (Instr.mapUpdate t mv xv yv).run P w = .ok () w') (hK : K (a.put o.dst undef) w') : loudly P o a w K := by
  have e1 : (execOp a.eval o).run P w = .ok .skip w' := by
    simp [execOp, hop, hm, hx, hy, hrun, Result.andThen]
  unfold loudly
  rw [e1]
  exact hK
theorem wpList_mapUpdate_run {rest : List Oper} {o : Oper} {a : Act} (hg : o.guard = none) (m x y : Operand) (t : TypeId) (hop : o.op = Op.mapUpdate t m x y)
    {mv xv yv : Value} {w' : World} (hm : a.eval m = mv) (hx : a.eval x = xv) (hy : a.eval y = yv) (hrun : (Instr.mapUpdate t mv xv yv).run P w = .ok () w') (hK : wpList P ops Q rest (a.put o.dst undef) w') : wpList P ops Q (o :: rest) a w :=
  wpList_plain hg fun _ hK' => loudly_wp (loudly_mapUpdate_run m x y t hop hm hx hy hrun (hK' _ _ hK))
end
end Sg

/-! The walks of flash: a new device; a write. -/
namespace Go.Proofs.Ytjkjiabfhhnngaa
open Go.RowKit Sg
set_option linter.unusedSimpArgs false
set_option linter.unusedVariables false

set_option maxRecDepth 100000 in
set_option maxHeartbeats 1000000 in
theorem newDev_any (n sz : Nat) (hn : 1 ≤ n ∧ n ≤ 16384 ∧ 96 ≤ sz ∧ sz ≤ 512) (w : World) :
    Calls Try.prog 13 #[.int .i64 (n : Int), .int .i64 (sz : Int)] w fun e w' => ∃ g D, e = .returned (.pointer (some ⟨g, 0, none⟩)) ∧ DV w' D g (Dev.new n sz) ∧ Keep [] w w' ∧ ∀ b ∈ D, w.heap.size ≤ b := by
  obtain ⟨h1, h2, h3, h4⟩ := hn
  have hmm := @run_makeMap Try.prog
  have d1 : ¬ ((n : Int) < 1) := by omega
  have d2 : ¬ ((16384 : Int) < n) := by omega
  have d3 : ¬ ((sz : Int) < 96) := by omega
  have d4 : ¬ ((512 : Int) < sz) := by omega
  obtain ⟨fin, hfin⟩ : ∃ fin, ((w.alloc (.map #[] 0)).alloc (.map #[] 0)).alloc (.cells (devCells (Dev.new n sz) w.heap.size (w.heap.size + 1) (.slice none 0 0)) 173) = fin := ⟨_, rfl⟩
  have hK1 : Keep [] (w.alloc (.map #[] 0)) fin := by rw [← hfin]; exact ((Keep.refl [] _).alloc _).alloc _
  have hK2 : Keep [] ((w.alloc (.map #[] 0)).alloc (.map #[] 0)) fin := by rw [← hfin]; exact (Keep.refl [] _).alloc _
  have hK : Keep [] w fin := by rw [← hfin]; exact (((Keep.refl [] w).alloc _).alloc _).alloc _
  have hs : fin.heap.size = w.heap.size + 3 := by rw [← hfin]; simp
  have hrow : RowD fin (w.heap.size + 2) (Dev.new n sz) w.heap.size (w.heap.size + 1) (.slice none 0 0) := by
    rw [← hfin]
    have := heap_alloc_new ((w.alloc (.map #[] 0)).alloc (.map #[] 0)) (.cells (devCells (Dev.new n sz) w.heap.size (w.heap.size + 1) (.slice none 0 0)) 173)
    rw [World.size_alloc, World.size_alloc] at this
    exact this
  have hf : MapV Try.prog 3 fin w.heap.size n (fun _ => none) := (MapV.made w _ _ _).keep hK1 (by simp)
  have hp : MapV Try.prog 3 fin (w.heap.size + 1) n (fun _ => none) := by
    have := (MapV.made (w.alloc (.map #[] 0)) Try.prog 3 n).keep hK2 (by simp)
    rwa [World.size_alloc] at this
  have hD : DV fin [w.heap.size, w.heap.size + 1, w.heap.size + 2] (w.heap.size + 2) (Dev.new n sz) := by
    refine ⟨Dev.new_wf n sz ⟨h1, h2, h3, h4⟩, w.heap.size, w.heap.size + 1, .slice none 0 0, fun _ => none, fun _ => none, hrow, hf, hp, ?_, ?_, ?_, ?_, by simp, by simp, by simp, by omega, ?_⟩
    · intro k hk
      simp [SecV, Dev.new]
    · intro k hk
      simp [PastV, Dev.new]
    · intro j k v u b h
      cases h
    · exact ⟨[], World.ownsRow_nil _ _ _ _, fun b hb => by simp [Value.ownBlock] at hb, rfl, fun i v l h => by simp at h⟩
    · intro b hb
      simp at hb
      omega
  have HD := Lib.hid hD
  have HK := Lib.hid hK
  have HF := Lib.hid hfin
  clear hD hK hfin hf hp hrow hs hK1 hK2
  go_enter Try.func13, Try.ntmps13
  go_wp2
  go_ret
  refine ⟨w.heap.size + 2, rfl, [w.heap.size, w.heap.size + 1, w.heap.size + 2], ?_, ?_, ?_⟩
  rotate_left
  · have := HK.out
    rw [← HF.out] at this
    exact this
  · simp
  · have := HD.out
    rw [← HF.out] at this
    exact this

theorem Keep.of0 {S : List Nat} {w w' : World} (h : Keep [] w w') : Keep S w w' := h.mono (by simp)


/-- blocks of cells of these types -/
def CellsOf (w : World) (S : List Nat) (ts : List TypeId) : Prop := ∀ b ∈ S, ∃ cs t fr, w.heap[b]? = some (.cells cs t fr) ∧ t ∈ ts
theorem CellsOf.nil (w : World) (ts : List TypeId) : CellsOf w [] ts := fun b hb => by simp at hb
theorem CellsOf.one {w : World} {g : Nat} {cs : Array Value} {t : TypeId} {fr : Nat × Nat} {ts : List TypeId} (h : w.heap[g]? = some (.cells cs t fr)) (ht : t ∈ ts) : CellsOf w [g] ts := fun b hb => by
  rw [List.mem_singleton] at hb
  subst hb
  exact ⟨_, _, _, h, ht⟩
theorem CellsOf.own {w : World} {base : Nat} {t : TypeId} {sz n : Nat} {v : Value} {xs : List Value} {ts : List TypeId} (h : w.ownsRow base t sz v n xs) (ht : t ∈ ts) : CellsOf w v.ownBlock.toList ts := fun b hb => by
  rw [Option.mem_toList] at hb
  obtain ⟨cs, h⟩ := ownsRow_block h hb
  exact ⟨_, _, _, h, ht⟩
theorem CellsOf.append {w : World} {S T : List Nat} {ts : List TypeId} (h : CellsOf w S ts) (k : CellsOf w T ts) : CellsOf w (S ++ T) ts := fun b hb => (List.mem_append.1 hb).elim (h b) (k b)
theorem CellsOf.notT {w : World} {S : List Nat} {ts : List TypeId} {e : TypeId} (h : CellsOf w S ts) (he : e ∉ ts) : NotT w e S := fun b hb => by
  obtain ⟨cs, t, fr, h1, h2⟩ := h b hb
  exact ⟨_, h1, fun cs fr e => by injection e with _ e; exact he (e ▸ h2)⟩
theorem CellsOf.notMap {w : World} {S : List Nat} {ts : List TypeId} {fm n : Nat} {f : Nat → Option Value} (h : CellsOf w S ts) (hm : MapV Try.prog 3 w fm n f) : fm ∉ S := fun hb => by
  obtain ⟨cs, t, fr, h1, h2⟩ := h fm hb
  obtain ⟨es, c, h3⟩ := hm.isMapBlock
  rw [h1] at h3
  cases h3

/-- the row of a device is written, and loose writes, and nothing else that it looks at -/
theorem DevAt.turn2 {w w' : World} {D D' S : List Nat} {g : Nat} {m m' : Dev} {fm pm : Nat} {lv lv' : Value} {fv pv : Nat → Option Value} (h : DevAt w D g m fm pm lv fv pv) (k : Keep S w w') (hS : CellsOf w S [173, 177]) (hr : RowD w' g m' fm pm lv')
    (e1 : m'.n = m.n) (e2 : m'.sz = m.sz) (e3 : m'.fast = m.fast) (e4 : m'.past = m.past) (hl : LooseV w' D' lv' m'.loose) (hD : ∀ b ∈ D, b ∈ D') (hlt : ∀ b ∈ D', b < w'.heap.size) : DevAt w' D' g m' fm pm lv' fv pv := by
  obtain ⟨n, sz, fast, loose, past, armed, acts, down⟩ := m
  obtain ⟨n', sz', fast', loose', past', armed', acts', down'⟩ := m'
  simp only at e1 e2 e3 e4
  subst e1 e2 e3 e4
  have h1 : NotT w 5 S := hS.notT (by decide)
  have h2 : NotT w 42 S := hS.notT (by decide)
  exact ⟨hr, h.fast.keep k (hS.notMap h.fast), h.past.keep k (hS.notMap h.past), fun i hi => (h.fasts i hi).move k h1 hD, fun i hi => (h.pasts i hi).move k h1 h2 hD, h.apart, hl, hD _ h.inG, hD _ h.inF, hD _ h.inP, h.two, hlt⟩

theorem run_append_loose {w : World} {ty : TypeId} {v : Value} {n : Nat} {xs : List Value} (hown : w.ownsRow 0 177 2 v n xs) (g : Nat) (k : Int) (u : Value) {fr : Nat × Nat}
    (hg : w.heap[g]? = some (.cells #[.int .i64 k, u] 177 fr)) (hu : u.oneCell' = true) (hn : n ≤ 1000000000) :
    ∃ v' w', (Builtin.append_ #[171, 171] ty #[v, .slice (some ⟨g, 0, none⟩) 1 1]).run Try.prog w = .ok v' w' ∧ w'.ownsRow 0 177 2 v' (n + 1) (xs ++ [.int .i64 k, u]) ∧ Keep v.ownBlock.toList w w' ∧ (v'.ownBlock = v.ownBlock ∨ v'.ownBlock = some w.heap.size) := by
  obtain ⟨i, hi1, hz, hs1, hb1⟩ := info_parts (show (Try.prog.info? 177).map (fun i => (i.zero, i.size, i.bytes)) = some (some (.agg #[.int .i64 0, .slice none 0 0]), 2, 32) by kernel_rfl)
  obtain ⟨v', w', hrun, hown', hgr, -, hloc⟩ := run_append_own_at (P := Try.prog) w 0 171 ty 177 i _ 2 32 Try.underlying171 hi1 hz hs1 hb1 rfl (by decide) v n xs hown ⟨g, 0, none⟩ 1 1 [.int .i64 k, u] (by rfl)
    (fun j x hx => by
      rw [Addr.add_lit, Nat.zero_add, cell_of_row _ _ _ _ _ _ hg]
      match j, hx with
      | 0, hx => exact hx
      | 1, hx => exact hx
      | j + 2, hx => simp at hx)
    (by
      intro x hx
      simp at hx
      rcases hx with rfl | rfl
      · rfl
      · exact hu) (by simp [maxLen]; omega) (by omega) (Nat.zero_le _)
  exact ⟨v', w', hrun, hown', Keep.grown hgr, hloc⟩
theorem run_append_bytesRow {w : World} {ty : TypeId} {v : Value} {n : Nat} {xs : List Value} (hown : w.ownsRow 0 42 1 v n xs) (g : Nat) (u : Value) {fr : Nat × Nat}
    (hg : w.heap[g]? = some (.cells #[u] 42 fr)) (hu : u.oneCell' = true) (hn : n ≤ 1000000000) :
    ∃ v' w', (Builtin.append_ #[56, 56] ty #[v, .slice (some ⟨g, 0, none⟩) 1 1]).run Try.prog w = .ok v' w' ∧ w'.ownsRow 0 42 1 v' (n + 1) (xs ++ [u]) ∧ Keep v.ownBlock.toList w w' ∧ (v'.ownBlock = v.ownBlock ∨ v'.ownBlock = some w.heap.size) := by
  obtain ⟨i, hi1, hz, hs1, hb1⟩ := info_parts (show (Try.prog.info? 42).map (fun i => (i.zero, i.size, i.bytes)) = some (some (.slice none 0 0), 1, 24) by kernel_rfl)
  obtain ⟨v', w', hrun, hown', hgr, -, hloc⟩ := run_append_own_at (P := Try.prog) w 0 56 ty 42 i _ 1 24 Try.underlying56 hi1 hz hs1 hb1 rfl (by decide) v n xs hown ⟨g, 0, none⟩ 1 1 [u] (by rfl)
    (fun j x hx => by
      rw [Addr.add_lit, Nat.zero_add, cell_of_row _ _ _ _ _ _ hg]
      match j, hx with
      | 0, hx => exact hx
      | j + 1, hx => simp at hx)
    (by
      intro x hx
      simp at hx
      subst hx
      exact hu) (by simp [maxLen]; omega) (by omega) (Nat.zero_le _)
  exact ⟨v', w', hrun, hown', Keep.grown hgr, hloc⟩

end Go.Proofs.Ytjkjiabfhhnngaa

/-! The walk of flash's Write. -/
namespace Go.Proofs.Ytjkjiabfhhnngaa
open Go.RowKit Sg
set_option linter.unusedSimpArgs false
set_option linter.unusedVariables false

theorem dev_nu (m : Dev) (fm pm : Nat) (lv : Value) (hlv : ∀ n : Int, lv ≠ .int .u8 n) : ∀ (i : Nat) (x : Value), (devCells m fm pm lv)[i]? = some x → ∀ n : Int, x ≠ Value.int .u8 n := by
  intro i x hx n e
  subst e
  match i, hx with
  | 0, h => simp [devCells] at h
  | 1, h => simp [devCells] at h
  | 2, h => simp [devCells] at h
  | 3, h => simp [devCells] at h; exact hlv _ h
  | 4, h => simp [devCells] at h
  | 5, h => simp [devCells] at h
  | 6, h => simp [devCells] at h
  | 7, h => simp [devCells] at h
  | i + 8, h => simp [devCells] at h
theorem keep_bump {D : List Nat} {w w1 w2 : World} {S : List Nat} (h : Keep D w w1) (k : Keep S w1 w2) (hS : ∀ b ∈ S, b ∈ D ∨ w.heap.size ≤ b) : Keep D w w2 :=
  ⟨k.os.trans h.os, k.tape.trans h.tape, k.output.trans h.output, Nat.le_trans h.size k.size, fun b hb hD => by
    rw [k.block b (Nat.lt_of_lt_of_le hb h.size) (fun hm => (hS b hm).elim hD (fun h' => by omega))]
    exact h.block b hb hD⟩
theorem looseCells_snoc {ls : List (Nat × List UInt8)} {vs : List Value} (h : vs.length = ls.length) (k : Nat) (l : List UInt8) (v : Value) : looseCells (ls ++ [(k, l)]) (vs ++ [v]) = looseCells ls vs ++ [.int .i64 (k : Int), v] := by
  unfold looseCells
  rw [List.zip_append h.symm, List.flatMap_append]
  rfl

theorem MapV.dom {P : Program} {K : TypeId} {w : World} {B S : Nat} {f : Nat → Option Value} (h : MapV P K w B S f) {a : Nat} {v : Value} (hv : f a = some v) : a < S := by
  obtain ⟨D, n, -, h2, h3⟩ := h
  have := h2 a
  rw [hv] at this
  obtain ⟨b, hb, e⟩ := h3 _ (Maps.has_true_of_atKey this)
  injection e with _ e
  rw [Int.ofNat_inj.1 e]
  exact hb

/-- a row of what a sector was given is one longer -/
theorem DevAt.pastTurn {w w' : World} {D D' : List Nat} {g : Nat} {m m' : Dev} {fm pm : Nat} {lv : Value} {fv pv : Nat → Option Value} (h : DevAt w D g m fm pm lv fv pv) (hpl : m.past.length = m.n) {k : Nat} (hk : k < m.past.length) {S : List Nat} (kk : Keep S w w')
    (hS : ∀ b ∈ S, b = pm ∨ (∃ v, pv k = some v ∧ v.ownBlock = some b)) (hd : ∀ b ∈ D, b ∈ D') (hlt : ∀ b ∈ D', b < w'.heap.size) {v' : Value} {l : List UInt8}
    (hp : MapV Try.prog 3 w' pm m.n (updF pv k v')) (hv : PastV w' D' (some v') (m.past[k] ++ [l])) (hloc : ∀ b, v'.ownBlock = some b → (∃ v, pv k = some v ∧ v.ownBlock = some b) ∨ w.heap.size ≤ b)
    (em : m' = { m with past := m.past.modify k (· ++ [l]) }) : DevAt w' D' g m' fm pm lv fv (updF pv k v') := by
  subst em
  have row_of : ∀ {i : Nat} (hi : i < m.past.length) {v : Value} {b : Nat}, pv i = some v → v.ownBlock = some b → ∃ cs, w.heap[b]? = some (.cells cs 42 (0, 0)) := by
    intro i hi v b hv hb
    have := h.pasts i hi
    rw [hv] at this
    obtain ⟨vs, h1, -⟩ := this
    exact ownsRow_block h1 hb
  have inD_of : ∀ {i : Nat} (hi : i < m.past.length) {v : Value} {b : Nat}, pv i = some v → v.ownBlock = some b → b ∈ D := by
    intro i hi v b hv hb
    have := h.pasts i hi
    rw [hv] at this
    obtain ⟨vs, -, h1, -⟩ := this
    exact h1 b hb
  have hmap : ∃ es c, w.heap[pm]? = some (.map es c) := h.past.isMapBlock
  obtain ⟨es, c, hmap⟩ := hmap
  have h8 : NotT w 5 S := fun b hb => by
    rcases hS b hb with rfl | ⟨v, h1, h2⟩
    · exact ⟨_, hmap, fun cs fr e => by cases e⟩
    · obtain ⟨cs, h3⟩ := row_of hk h1 h2
      exact ⟨_, h3, fun cs fr e => by cases e⟩
  have hw : NotT w 177 S := fun b hb => by
    rcases hS b hb with rfl | ⟨v, h1, h2⟩
    · exact ⟨_, hmap, fun cs fr e => by cases e⟩
    · obtain ⟨cs, h3⟩ := row_of hk h1 h2
      exact ⟨_, h3, fun cs fr e => by cases e⟩
  have hg : g ∉ S := fun hb => by
    rcases hS g hb with rfl | ⟨v, h1, h2⟩
    · have := h.row
      rw [hmap] at this
      cases this
    · obtain ⟨cs, h3⟩ := row_of hk h1 h2
      have := h.row
      rw [h3] at this
      cases this
  have hf : fm ∉ S := fun hb => by
    rcases hS fm hb with rfl | ⟨v, h1, h2⟩
    · exact h.two rfl
    · obtain ⟨cs, h3⟩ := row_of hk h1 h2
      obtain ⟨es, c, h4⟩ := h.fast.isMapBlock
      rw [h3] at h4
      cases h4
  refine ⟨kk.blk hg h.row, h.fast.keep kk hf, hp, fun i hi => (h.fasts i hi).move kk h8 hd, fun i hi => ?_, fun i j v u b h1 h2 h3 h4 => ?_, h.loose.move kk h8 hw hd, hd _ h.inG, hd _ h.inF, hd _ h.inP, h.two, hlt⟩
  · have hi' : i < m.past.length := by simpa using hi
    by_cases hik : i = k
    · subst hik
      have e1 : updF pv i v' i = some v' := by simp [updF]
      rw [e1]
      simp only [List.getElem_modify, if_true]
      exact hv
    · have e1 : updF pv k v' i = pv i := by simp [updF, hik]
      rw [e1]
      simp only [List.getElem_modify, if_neg (fun e => hik (Eq.symm e) : ¬ k = i)]
      have hpi := h.pasts i hi'
      cases hq : pv i with
      | none => rw [hq] at hpi; exact hpi
      | some v =>
        rw [hq] at hpi
        obtain ⟨vs, h1, h2, h3⟩ := hpi
        refine ⟨vs, ownsRow_keep h1 kk (fun b hb hm => ?_), inD.mono h2 hd, h3.move kk h8 hd⟩
        rcases hS b hm with rfl | ⟨v2, h4, h5⟩
        · obtain ⟨cs, h6⟩ := ownsRow_block h1 hb
          rw [hmap] at h6
          cases h6
        · exact hik (h.apart i k v v2 b hq h4 hb h5)
  · have old : ∀ {i v b}, i ≠ k → updF pv k v' i = some v → v.ownBlock = some b → pv i = some v ∧ b < w.heap.size := by
      intro i v b hi h1 h2
      have e1 : pv i = some v := by simpa [updF, hi] using h1
      refine ⟨e1, ?_⟩
      have hin : i < m.past.length := by
        rw [hpl]
        exact MapV.dom h.past e1
      exact h.lt _ (inD_of hin e1 h2)
    by_cases hi : i = k
    · by_cases hj : j = k
      · rw [hi, hj]
      · obtain ⟨h5, h6⟩ := old hj h2 h4
        have hv' : v = v' := by rw [hi] at h1; simpa [updF] using h1.symm
        subst hv'
        rcases hloc b h3 with ⟨v2, h7, h8⟩ | h7
        · exact absurd (h.apart k j v2 u b h7 h5 h8 h4).symm hj
        · omega
    · by_cases hj : j = k
      · obtain ⟨h5, h6⟩ := old hi h1 h3
        have hv' : u = v' := by rw [hj] at h2; simpa [updF] using h2.symm
        subst hv'
        rcases hloc b h4 with ⟨v2, h7, h8⟩ | h7
        · exact absurd (h.apart k i v2 v b h7 h5 h8 h3).symm hi
        · omega
      · exact h.apart i j v u b (old hi h1 h3).1 (old hj h2 h4).1 h3 h4

theorem CellsOf.keep {w w' : World} {S T : List Nat} {ts : List TypeId} (h : CellsOf w S ts) (k : Keep T w w') (hd : ∀ b ∈ S, b ∉ T) : CellsOf w' S ts := fun b hb => by
  obtain ⟨cs, t, fr, h1, h2⟩ := h b hb
  exact ⟨cs, t, fr, k.blk (hd b hb) h1, h2⟩
/-- what a sector was given, as a row that may be nil -/
theorem PastV.open {w : World} {D : List Nat} {o : Option Value} {ls : List (List UInt8)} (h : PastV w D o ls) : ∃ vs, w.ownsRow 0 42 1 (o.getD (.slice none 0 0)) vs.length vs ∧ inD D (o.getD (.slice none 0 0)) ∧ Each w D vs ls ∧ (∀ b, (o.getD (.slice none 0 0)).ownBlock = some b → ∃ v, o = some v ∧ v.ownBlock = some b) := by
  cases o with
  | none =>
    have e : ls = [] := h
    subst e
    exact ⟨[], World.ownsRow_nil _ _ _ _, fun b hb => by simp [Value.ownBlock] at hb, ⟨rfl, fun i v l h => by simp at h⟩, fun b hb => by simp [Value.ownBlock] at hb⟩
  | some v =>
    obtain ⟨vs, h1, h2, h3⟩ := h
    exact ⟨vs, h1, h2, h3, fun b hb => ⟨v, rfl, hb⟩⟩
theorem ownsRow_form {w : World} {base : Nat} {e : TypeId} {sz n : Nat} {v : Value} {xs : List Value} (h : w.ownsRow base e sz v n xs) : ∃ a c, v = .slice a n c := by
  rcases h.2 with ⟨rfl, h0⟩ | ⟨g', cap, cur, rfl, -⟩
  · exact ⟨_, _, by rw [h0]⟩
  · exact ⟨_, _, rfl⟩
theorem ownsRow_lt {w : World} {base : Nat} {e : TypeId} {sz n : Nat} {v : Value} {xs : List Value} (h : w.ownsRow base e sz v n xs) {b : Nat} (hb : v.ownBlock = some b) : b < w.heap.size := by
  obtain ⟨cs, h1⟩ := ownsRow_block h hb
  exact (Array.getElem?_eq_some_iff.1 h1).1

/-- a device whose loose writes are one more -/
theorem DevAt.looser {w2 w3 w7 : World} {D : List Nat} {g : Nat} {m : Dev} {fm pm n lc : Nat} {lo : Option Addr} {lv' v3 : Value} {fv pv : Nat → Option Value} {vs : List Value} {k : Nat} {l : List UInt8}
    (h2 : DevAt w2 D g m fm pm (.slice lo n lc) fv pv) (hL1 : w2.ownsRow 0 177 2 (.slice lo n lc) m.loose.length (looseCells m.loose vs)) (hL2 : inD D (.slice lo n lc)) (hL3 : Each w2 D vs (m.loose.map (·.2)))
    (hk3 : Keep [] w2 w3) (ho3 : OwnB w3 w2.heap.size 5 v3 l) (hk37 : Keep (Value.slice lo n lc).ownBlock.toList w3 w7)
    (hL' : w7.ownsRow 0 177 2 lv' (m.loose.length + 1) (looseCells m.loose vs ++ [.int .i64 (k : Int), v3])) (hloc : ∀ b, lv'.ownBlock = some b → (Value.slice lo n lc).ownBlock = some b ∨ w2.heap.size ≤ b)
    (hr7 : RowD w7 g m fm pm (.slice lo n lc)) :
    DevAt (w7.setCell ⟨g, 3, none⟩ lv') (D ++ newer w2 (w7.setCell ⟨g, 3, none⟩ lv')) g { m with loose := m.loose ++ [(k, l)] } fm pm lv' fv pv ∧ Keep ((Value.slice lo n lc).ownBlock.toList ++ [g]) w2 (w7.setCell ⟨g, 3, none⟩ lv') ∧ OwnB (w7.setCell ⟨g, 3, none⟩ lv') 0 5 v3 l ∧ inD (D ++ newer w2 (w7.setCell ⟨g, 3, none⟩ lv')) v3 := by
  have hc1 : CellsOf w2 ((Value.slice lo n lc).ownBlock.toList ++ [g]) [173, 177] := (CellsOf.own hL1 (by decide)).append (CellsOf.one h2.row (by decide))
  have hk7 : Keep ((Value.slice lo n lc).ownBlock.toList ++ [g]) w2 w7 := (hk3.mono (by simp)).trans (hk37.mono (fun b hb => List.mem_append_left _ hb))
  have hks : Keep [g] w7 (w7.setCell ⟨g, 3, none⟩ lv') := (Keep.refl _ _).setCell (.inl (by simp)) _
  have hk8 : Keep ((Value.slice lo n lc).ownBlock.toList ++ [g]) w2 (w7.setCell ⟨g, 3, none⟩ lv') := hk7.trans (hks.mono (fun b hb => List.mem_append_right _ hb))
  have hc3 : CellsOf w3 (Value.slice lo n lc).ownBlock.toList [177] := (CellsOf.own hL1 (by decide)).keep hk3 (by simp)
  have hr8 : RowD (w7.setCell ⟨g, 3, none⟩ lv') g { m with loose := m.loose ++ [(k, l)] } fm pm lv' := (hr7.set 3 lv').trans (by simp [devCells])
  have hD : ∀ b ∈ D, b ∈ D ++ newer w2 (w7.setCell ⟨g, 3, none⟩ lv') := fun b hb => List.mem_append_left _ hb
  have hsz := hk8.size
  have ho : OwnB (w7.setCell ⟨g, 3, none⟩ lv') 0 5 v3 l := ownsRow_move (ownsRow_move (ho3.base (Nat.zero_le _)) hk37 (hc3.notT (by decide))) hks (NotT.row hr7 (by decide))
  have hoD : inD (D ++ newer w2 (w7.setCell ⟨g, 3, none⟩ lv')) v3 := fun b hb => by
    refine List.mem_append_right _ (mem_newer.2 ⟨?_, ownsRow_lt ho hb⟩)
    rcases ho3.2 with ⟨rfl, -⟩ | ⟨g', cap', cur, rfl, h1, -⟩
    · simp [Value.ownBlock] at hb
    · simp [Value.ownBlock] at hb
      omega
  refine ⟨h2.turn2 hk8 hc1 hr8 rfl rfl rfl rfl ⟨vs ++ [v3], ?_, ?_, ?_⟩ hD ?_, hk8, ho, hoD⟩
  · have e1 : (looseCells (m.loose ++ [(k, l)]) (vs ++ [v3])) = looseCells m.loose vs ++ [.int .i64 (k : Int), v3] := looseCells_snoc (by simpa using hL3.1) k l v3
    show World.ownsRow _ _ _ _ _ (m.loose ++ [(k, l)]).length (looseCells (m.loose ++ [(k, l)]) (vs ++ [v3]))
    rw [e1, List.length_append]
    exact ownsRow_move hL' hks (NotT.row hr7 (by decide))
  · intro b hb
    rcases hloc b hb with h | h
    · exact hD b (hL2 b h)
    · refine List.mem_append_right _ (mem_newer.2 ⟨h, ?_⟩)
      have := ownsRow_lt hL' hb
      simpa using this
  · show Each _ _ (vs ++ [v3]) ((m.loose ++ [(k, l)]).map (·.2))
    rw [List.map_append]
    exact (hL3.move hk8 (hc1.notT (by decide)) hD).snoc ho hoD
  · intro b hb
    rcases List.mem_append.1 hb with h | h
    · exact Nat.lt_of_lt_of_le (h2.lt b h) hsz
    · exact (mem_newer.1 h).2

set_option maxRecDepth 100000 in
set_option maxHeartbeats 1000000 in
set_option maxHeartbeats 4000000 in
theorem write_go (w : World) (D : List Nat) (g : Nat) (m : Dev) (h : DV w D g m) (hacts : m.acts ≤ 1000000000) (k : Nat) (hk : k < m.n) (hdown : m.down = false) (v : Value) (l : List UInt8) (hv : Bytes w v l) (hl : l.length = m.sz) :
    Calls Try.prog 29 #[.pointer (some ⟨g, 0, none⟩), .int .i64 (k : Int), v] w fun e w' => e = .returned (.int .i64 (if m.act.down = true then 4 else 0)) ∧ ∃ D', DV w' D' g (m.write k l) ∧ Grew w D D' ∧ Keep D w w' := by
  obtain ⟨hw, fm, pm, lv, fv, pv, h⟩ := h
  obtain ⟨ao, cap, rfl, hlc, hm, hcap⟩ := hv.form
  have hready := ready_any w g m fm pm _ h.row (k : Int)
  have hr0 : m.ready (k : Int) = 0 := by simp [Dev.ready, hdown]; omega
  rw [hr0] at hready
  have hact := act_any w g m fm pm _ h.row hacts hw.ar
  obtain ⟨dn, hdn⟩ : ∃ dn, m.act.down = dn := ⟨_, rfl⟩
  rw [hdn] at hact ⊢
  clear hdn
  have c1 := h.rowD.c1
  have s1 := hw.s1
  have s2 := hw.s2
  have hlne : l ≠ [] := by intro e; rw [e] at hl; simp at hl; omega
  obtain ⟨la, lc, rfl⟩ := h.loose.form
  have hnu := hv.ne_row hlne h.row (dev_nu m fm pm _ (by intro n h; cases h))
  rw [hl]
  rw [hl] at hv hnu
  go_enter Try.func29, Try.ntmps29
  go_wp2_with fail
  refine hready.mono ?_
  rintro e w1 ⟨rfl, rfl⟩
  go_wp2_with fail
  refine hact.mono ?_
  rintro e w2 ⟨rfl, hr2, hk2, hs2⟩
  have hv2 : Bytes w2 (.slice ao m.sz cap) l := hv.keep hk2 (by intro b hb hm; rw [List.mem_singleton] at hm; subst hm; exact hnu hb)
  have h2 : DevAt w2 D g m.act fm pm (.slice la m.loose.length lc) fv pv := h.turn2 hk2 (CellsOf.one h.row (by decide)) hr2 rfl rfl rfl rfl (h.loose.move hk2 (NotT.row h.row (by decide)) (NotT.row h.row (by decide)) (fun _ h => h)) (fun _ h => h) (fun b hb => by rw [hs2]; exact h.lt b hb)
  have hKD : Keep D w w2 := hk2.mono (fun b hb => by rw [List.mem_singleton] at hb; rw [hb]; exact h.inG)
  have hDlt : ∀ b ∈ D, b < w.heap.size := h.lt
  clear hready hact h hv hnu c1
  go_wp2_with fail
  refine (clone_any _ l _ hv2).mono ?_
  rintro e w3 ⟨v3, rfl, ho3, hk3⟩
  obtain ⟨va, vc, rfl, -⟩ := (ho3.bytes (by omega)).form
  rw [hl]
  rw [hl] at ho3
  have hB3 := heap_alloc_new w3 (.cells #[.int .i64 (k : Int), .slice va m.sz vc] 177)
  have hA3 := (Keep.refl [] w3).alloc (.cells #[.int .i64 (k : Int), .slice va m.sz vc] 177)
  have hk23 := hk3.trans hA3
  clear hv2
  obtain ⟨vs, hL1, hL2, hL3⟩ : LooseV w2 D (.slice la m.loose.length lc) m.loose := h2.loose
  have hll : m.loose.length ≤ 1000000000 := Nat.le_trans hw.ll hacts
  have hS2 : CellsOf w2 (Value.slice la m.loose.length lc).ownBlock.toList [173, 177] := CellsOf.own hL1 (by decide)
  have hgS : g ∉ (Value.slice la m.loose.length lc).ownBlock.toList := fun hb => by
    rw [Option.mem_toList] at hb
    obtain ⟨cs, h3⟩ := ownsRow_block hL1 hb
    have := h2.row
    rw [h3] at this
    cases this
  have hBS : w3.heap.size ∉ (Value.slice la m.loose.length lc).ownBlock.toList := fun hb => by
    rw [Option.mem_toList] at hb
    have := ownsRow_lt hL1 hb
    have := hk3.size
    omega
  go_wp2_with fail
  refine wp_region_his (Value.slice la m.loose.length lc).ownBlock.toList [6, 7, 10] (fun _ => 0) (by kernel_rfl) (by kernel_rfl) ?_
  intro w5 hk5 hh
  clear hh
  have hk25 : Keep [] w2 w5 := hk23.trans hk5
  have hB5 := hk5.blk (by simp) hB3
  have hr5 : RowD w5 g m.act fm pm (.slice la m.loose.length lc) := h2.rowD.keep hk25 (by simp)
  have q3 := fun w' (h' : Keep (Value.slice la m.loose.length lc).ownBlock.toList w5 w') => h'.cell (p := ⟨g, 3, none⟩) hgS hr5.c3
  have qB0 := fun w' (h' : Keep (Value.slice la m.loose.length lc).ownBlock.toList w5 w') => cell_of_row w' _ 0 _ _ _ (h'.blk hBS hB5)
  have qB1 := fun w' (h' : Keep (Value.slice la m.loose.length lc).ownBlock.toList w5 w') => cell_of_row w' _ 1 _ _ _ (h'.blk hBS hB5)
  simp at qB0 qB1
  obtain ⟨lv', w7, hrun, hL', hk7, hloc⟩ := run_append_loose (ty := 171) (ownsRow_keep hL1 (hk25.alloc (.cells #[.int .i64 (k : Int), .slice va m.sz vc] 177)) (by simp)) w5.heap.size (k : Int) (.slice va m.sz vc) (heap_alloc_new _ _) rfl hll
  obtain ⟨la', lc', rfl⟩ := ownsRow_form hL'
  have hA5 := (Keep.refl [] w5).alloc (.cells #[.int .i64 (k : Int), .slice va m.sz vc] 177)
  have hr7 : RowD w7 g m.act fm pm (.slice la m.loose.length lc) := (hr5.keep hA5 (by simp)).keep hk7 hgS
  have c3 := hr7.c3
  have f3 := hr7.free 3
  have hB7 := hk7.blk hBS (hA5.blk (by simp) hB5)
  have HR := Lib.hid hrun
  have HL' := Lib.hid hL'
  have HR7 := Lib.hid hr7
  have HB7 := Lib.hid hB7
  clear hrun hL' hr7 hB7
  (repeat (first | (refine his_q rfl rfl (fun K hK => ?_); apply Exists.intro; refine ⟨fun w' hC => ?_, ?_⟩; ((try simp [Sg.upd] at hC); go_simp <;> rfl); go_simp; refine hK _ _ ?_; clear hK K) | (refine his_s rfl (fun K hK => ?_); go_simp; refine hK _ _ ?_; clear hK K)))
  (refine his_l rfl rfl (fun K hK => ?_); go_simp)
  refine hK _ _ ((Keep.refl _ _).alloc _) ?_
  clear hK K
  refine his_l rfl rfl (fun K hK => ?_)
  refine loudly_append_run (.tmp 34) (.tmp 36) 171 rfl (v := .slice la m.loose.length lc) (src := .slice (some ⟨w5.heap.size, 0, none⟩) 1 1) (w' := w7) rfl rfl HR.out ?_
  refine hK _ _ hk7 ?_
  clear hK K
  (repeat (first | (refine his_q rfl rfl (fun K hK => ?_); apply Exists.intro; refine ⟨fun w' hC => ?_, ?_⟩; ((try simp [Sg.upd] at hC); go_simp <;> rfl); go_simp; refine hK _ _ ?_; clear hK K) | (refine his_s rfl (fun K hK => ?_); go_simp; refine hK _ _ ?_; clear hK K)))
  (refine his_last rfl (by kernel_rfl) rfl (fun K hK => ?_); go_simp)
  refine hK _ _ ?_
  clear hK K q3 qB0 qB1
  refine his_nil ?_
  have hkD : ∀ b ∈ (Value.slice la m.loose.length lc).ownBlock.toList ++ [g], b ∈ D := by
    intro b hb
    rcases List.mem_append.1 hb with h | h
    · rw [Option.mem_toList] at h
      exact hL2 b h
    · rw [List.mem_singleton] at h
      rw [h]
      exact h2.inG
  have hlo := h2.looser (k := k) (l := l) hL1 hL2 hL3 hk3 ho3 ((hA3.trans (hk5.trans hA5)).mono (by simp) |>.trans hk7) HL'.out (by
    intro b hb
    rcases hloc with h | h
    · rw [h] at hb
      exact .inl hb
    · rw [h] at hb
      injection hb with hb
      have := hk25.size
      simp at hb
      omega) HR7.out
  obtain ⟨w8, hw8⟩ : ∃ w8, w7.setCell ⟨g, 3, none⟩ (.slice la' (m.loose.length + 1) lc') = w8 := ⟨_, rfl⟩
  obtain ⟨m8, hm8⟩ : ∃ m8 : Dev, m8 = { m.act with loose := m.loose ++ [(k, l)] } := ⟨_, rfl⟩
  obtain ⟨D8, hD8⟩ : ∃ D8, D8 = D ++ newer w2 w8 := ⟨_, rfl⟩
  have h8 : DevAt w8 D8 g m8 fm pm (.slice la' (m.loose.length + 1) lc') fv pv := by rw [hm8, hD8, ← hw8]; exact hlo.1
  have hk28 : Keep ((Value.slice la m.loose.length lc).ownBlock.toList ++ [g]) w2 w8 := by rw [← hw8]; exact hlo.2.1
  have ho8 : OwnB w8 0 5 (.slice va m.sz vc) l ∧ inD D8 (.slice va m.sz vc) := by rw [hD8, ← hw8]; exact hlo.2.2
  have hK8 : Keep D w w8 := hKD.trans (hk28.mono hkD)
  have hB8 : w8.heap[w3.heap.size]? = some (.cells #[.int .i64 (k : Int), .slice va m.sz vc] 177 (0, 0)) := by
    rw [← hw8]
    refine (heap_setCell_other _ _ _ _ ?_).trans HB7.out
    intro e
    have h1 := h2.lt _ h2.inG
    have := hk3.size
    simp at e
    omega
  have hDD : ∀ b ∈ D, b ∈ D8 := fun b hb => by rw [hD8]; exact List.mem_append_left _ hb
  have hDD2 : ∀ b ∈ D8, b ∈ D ∨ w.heap.size ≤ b := fun b hb => by
    rw [hD8] at hb
    rcases List.mem_append.1 hb with h | h
    · exact .inl h
    · have := (mem_newer.1 h).1
      exact .inr (by omega)
  have ep : m8.past = m.past := by rw [hm8]; rfl
  have en : m8.n = m.n := by rw [hm8]; rfl
  have es : m8.sz = m.sz := by rw [hm8]; rfl
  have ew : m.write k l = { m8 with past := m8.past.modify k (· ++ [l]) } := by rw [hm8]; rfl
  rw [hw8]
  clear hlo hw8 hm8 hD8 hk25 hB5 hr5 hA5 hk7 hloc HR HL' HR7 HB7 c3 f3 hL1 hL2 hL3 hS2 hgS hBS hkD h2 hk28 hKD hB3 hA3 hk23 ho3 hr2 hk2 hk5
  have hkp : k < m8.past.length := by rw [ep, hw.pl]; exact hk
  obtain ⟨vs, hP1, hP2, hP3, hP4⟩ := (h8.pasts k hkp).open
  have hwf := hw.write hk hl
  have hpl : (m8.past[k]).length ≤ 1000000000 := by
    have := (hw.ps k (by rw [hw.pl]; exact hk)).1
    have e : m8.past[k] = m.past[k]'(by rw [hw.pl]; exact hk) := by simp [ep]
    rw [e]
    omega
  have hvl : vs.length ≤ 1000000000 := by rw [hP3.1]; exact hpl
  have hpmS : pm ∉ ((pv k).getD (.slice none 0 0)).ownBlock.toList := (CellsOf.own hP1 (ts := [42]) (by decide)).notMap h8.past
  have hgS : g ∉ ((pv k).getD (.slice none 0 0)).ownBlock.toList := fun hb => by
    rw [Option.mem_toList] at hb
    obtain ⟨cs, h3⟩ := ownsRow_block hP1 hb
    have := h8.row
    rw [h3] at this
    cases this
  have hBS : w3.heap.size ∉ ((pv k).getD (.slice none 0 0)).ownBlock.toList := fun hb => by
    rw [Option.mem_toList] at hb
    obtain ⟨cs, h3⟩ := ownsRow_block hP1 hb
    rw [hB8] at h3
    cases h3
  generalize hov : (pv k).getD (.slice none 0 0) = ov at hP1 hP2 hP4 hpmS hgS hBS
  have hov' : ∀ w', Keep ov.ownBlock.toList w8 w' → (Instr.lookup 170 (.map (some pm)) (.int .i64 (k : Int)) false).run Try.prog w' = .ok ov w' := fun w' h' => by
    rw [← hov]
    exact (h8.past.keep h' hpmS).look Try.underlying3 Try.underlying170 (zeroRows _) k (by have := hw.n2; omega)
  obtain ⟨oa, oc, rfl⟩ := ownsRow_form hP1
  go_wp2_with fail
  refine wp_region_his (Value.slice oa vs.length oc).ownBlock.toList [13, 14, 15] (fun _ => 0) (by kernel_rfl) (by kernel_rfl) ?_
  intro w9 hk9 hh
  clear hh
  have hB9 := hk9.blk (by simp) hB8
  have hr9 : RowD w9 g m8 fm pm (.slice la' (m.loose.length + 1) lc') := h8.rowD.keep hk9 (by simp)
  have q4 := fun w' (h' : Keep (Value.slice oa vs.length oc).ownBlock.toList w9 w') => h'.cell (p := ⟨g, 4, none⟩) hgS hr9.c4
  have qB1 := fun w' (h' : Keep (Value.slice oa vs.length oc).ownBlock.toList w9 w') => cell_of_row w' _ 1 _ _ _ (h'.blk hBS hB9)
  have ql := fun w' (h' : Keep (Value.slice oa vs.length oc).ownBlock.toList w9 w') => hov' w' ((hk9.mono (by simp)).trans h')
  simp at qB1
  obtain ⟨nv, w11, hrun, hP', hk11, hloc⟩ := run_append_bytesRow (ty := 56) (ownsRow_keep hP1 (hk9.alloc (.cells #[.slice va m.sz vc] 42)) (by simp)) w9.heap.size (.slice va m.sz vc) (heap_alloc_new _ _) rfl hvl
  obtain ⟨na, nc, rfl⟩ := ownsRow_form hP'
  have hA9 := (Keep.refl [] w9).alloc (.cells #[.slice va m.sz vc] 42)
  have hk8b : Keep (Value.slice oa vs.length oc).ownBlock.toList w8 w11 := ((hk9.trans hA9).mono (by simp)).trans hk11
  obtain ⟨w12, hrun2, hM, hk12, hs12⟩ := (h8.past.keep hk8b hpmS).store Try.underlying3 Try.underlying170 k (by rw [en]; exact hk) (by rw [en]; have := hw.n2; omega) (.slice na (vs.length + 1) nc)
  have HR := Lib.hid hrun
  have HR2 := Lib.hid hrun2
  clear hrun hrun2
  (repeat (first | (refine his_q rfl rfl (fun K hK => ?_); apply Exists.intro; refine ⟨fun w' hC => ?_, ?_⟩; ((try simp [Sg.upd] at hC); go_simp <;> rfl); go_simp; refine hK _ _ ?_; clear hK K) | (refine his_s rfl (fun K hK => ?_); go_simp; refine hK _ _ ?_; clear hK K)))
  (refine his_l rfl rfl (fun K hK => ?_); go_simp)
  refine hK _ _ ((Keep.refl _ _).alloc _) ?_
  clear hK K
  refine his_l rfl rfl (fun K hK => ?_)
  refine loudly_append_run (.tmp 50) (.tmp 53) 56 rfl (v := .slice oa vs.length oc) (src := .slice (some ⟨w9.heap.size, 0, none⟩) 1 1) (w' := w11) rfl rfl HR.out ?_
  refine hK _ _ hk11 ?_
  clear hK K
  refine his_last rfl (by kernel_rfl) rfl (fun K hK => ?_)
  refine loudly_mapUpdate_run (.tmp 43) (.tmp 44) (.tmp 54) 170 rfl (mv := .map (some pm)) (xv := .int .i64 (k : Int)) (yv := .slice na (vs.length + 1) nc) (w' := w12) rfl rfl rfl HR2.out ?_
  refine hK _ _ ?_
  clear hK K q4 qB1 ql
  refine his_nil ?_
  have hMp : MapV Try.prog 3 w11 pm m8.n pv := h8.past.keep hk8b hpmS
  have hkk : Keep (pm :: (Value.slice oa vs.length oc).ownBlock.toList) w8 w12 := (hk8b.mono (fun b hb => List.mem_cons_of_mem _ hb)).trans (hk12.mono (fun b hb => by rw [List.mem_singleton] at hb; rw [hb]; exact List.mem_cons_self))
  have hSx : ∀ b ∈ pm :: (Value.slice oa vs.length oc).ownBlock.toList, b = pm ∨ ∃ v, pv k = some v ∧ v.ownBlock = some b := fun b hb => by
    rcases List.mem_cons.1 hb with h | h
    · exact .inl h
    · rw [Option.mem_toList] at h
      exact .inr (hP4 b h)
  have hSD : ∀ b ∈ pm :: (Value.slice oa vs.length oc).ownBlock.toList, b ∈ D8 := fun b hb => by
    rcases List.mem_cons.1 hb with h | h
    · rw [h]; exact h8.inP
    · rw [Option.mem_toList] at h
      exact hP2 b h
  have h8S : NotT w8 5 (pm :: (Value.slice oa vs.length oc).ownBlock.toList) := fun b hb => by
    rcases List.mem_cons.1 hb with h | h
    · rw [h]
      obtain ⟨es, c, h9⟩ := h8.past.isMapBlock
      exact ⟨_, h9, fun cs fr e => by cases e⟩
    · rw [Option.mem_toList] at h
      obtain ⟨cs, h3⟩ := ownsRow_block hP1 h
      exact ⟨_, h3, fun cs fr e => by cases e⟩
  have hD12 : ∀ b ∈ D8, b ∈ D8 ++ newer w8 w12 := fun b hb => List.mem_append_left _ hb
  have hrow12 : w12.ownsRow 0 42 1 (.slice na (vs.length + 1) nc) (vs.length + 1) (vs ++ [.slice va m.sz vc]) := ownsRow_move hP' hk12 (NotT.map hMp)
  have hpv : PastV w12 (D8 ++ newer w8 w12) (some (.slice na (vs.length + 1) nc)) (m8.past[k] ++ [l]) := by
    refine ⟨vs ++ [.slice va m.sz vc], ?_, ?_, (hP3.move hkk h8S hD12).snoc (ownB_move ho8.1 hkk h8S) (inD.mono ho8.2 hD12)⟩
    · rw [List.length_append]
      exact hrow12
    · intro b hb
      rcases hloc with h | h
      · rw [h] at hb
        exact hD12 b (hP2 b hb)
      · have h1 := ownsRow_lt hrow12 hb
        rw [h] at hb
        injection hb with hb
        have h2 := hk9.size
        simp at hb
        exact List.mem_append_right _ (mem_newer.2 ⟨by omega, h1⟩)
  have hfin : DevAt w12 (D8 ++ newer w8 w12) g (m.write k l) fm pm (.slice la' (m.loose.length + 1) lc') fv (updF pv k (.slice na (vs.length + 1) nc)) :=
    h8.pastTurn (by rw [ep, en]; exact hw.pl) hkp hkk hSx hD12 (fun b hb => by
      rcases List.mem_append.1 hb with h | h
      · exact Nat.lt_of_lt_of_le (h8.lt b h) hkk.size
      · exact (mem_newer.1 h).2) hM hpv (fun b hb => by
      rcases hloc with h | h
      · rw [h] at hb
        exact .inl (hP4 b hb)
      · rw [h] at hb
        injection hb with hb
        have h2 := hk9.size
        simp at hb
        exact .inr (by omega)) ew
  have hgrew : Grew w D (D8 ++ newer w8 w12) := ⟨fun b hb => hD12 b (hDD b hb), fun b hb => by
    rcases List.mem_append.1 hb with h | h
    · exact hDD2 b h
    · have := (mem_newer.1 h).1
      have := hK8.size
      exact .inr (by omega)⟩
  have hkeep : Keep D w w12 := keep_bump hK8 hkk (fun b hb => hDD2 b (hSD b hb))
  have hdev : DV w12 (D8 ++ newer w8 w12) g (m.write k l) := ⟨hwf, fm, pm, _, fv, _, hfin⟩
  clear hfin hpv hrow12 hD12 h8S hSD hSx hkk hMp HR HR2 hM hk12 hk8b hk11 hloc hP' hA9 hr9 hB9 h8 hP1 hP2 hP3 hP4 hov hov' ew ep en es hB8 hK8 ho8 hpmS hgS hBS
  cases dn with
  | true =>
    go_wp2
    go_ret
    exact ⟨rfl, _, hdev, hgrew, hkeep⟩
  | false =>
    go_wp2
    go_ret
    exact ⟨rfl, _, hdev, hgrew, hkeep⟩
end Go.Proofs.Ytjkjiabfhhnngaa

/-! The walks of flash: any write; a sync. -/
namespace Go.Proofs.Ytjkjiabfhhnngaa
open Go.RowKit Sg
set_option linter.unusedSimpArgs false
set_option linter.unusedVariables false

set_option maxRecDepth 100000 in
set_option maxHeartbeats 1000000 in
theorem write_any (w : World) (D : List Nat) (g : Nat) (m : Dev) (h : DV w D g m) (hacts : m.acts ≤ 1000000000) (a : Int) (v : Value) (l : List UInt8) (hv : Bytes w v l) :
    Calls Try.prog 29 #[.pointer (some ⟨g, 0, none⟩), .int .i64 a, v] w fun e w' => e = .returned (.int .i64 ((m.put a l).2 : Int)) ∧ ∃ D', DV w' D' g (m.put a l).1 ∧ Grew w D D' ∧ Keep D w w' := by
  by_cases hr : m.ready a = 0
  · have hd : m.down = false := by
      cases hd : m.down with
      | false => rfl
      | true => simp [Dev.ready, hd] at hr
    have ha : 0 ≤ a ∧ a < m.n := by
      by_cases h0 : 0 ≤ a ∧ a < m.n
      · exact h0
      · simp only [Dev.ready, hd, if_neg h0] at hr
        cases hr
    by_cases hl : l.length = m.sz
    · obtain ⟨k, rfl⟩ : ∃ k : Nat, a = k := ⟨a.toNat, by omega⟩
      have := write_go w D g m h hacts k (by omega) hd v l hv hl
      refine this.mono ?_
      rintro e w' ⟨rfl, h2⟩
      have e1 : m.put (k : Int) l = (m.write k l, if m.act.down = true then 4 else 0) := by
        unfold Dev.put
        rw [if_neg (by rw [hr]; simp), if_neg (by rw [hl]; simp)]
        simp
      rw [e1]
      refine ⟨?_, h2⟩
      split <;> rfl
    · have e1 : m.put a l = (m, 3) := by
        unfold Dev.put
        rw [if_neg (by rw [hr]; simp), if_pos hl]
      rw [e1]
      obtain ⟨fm, pm, lv, hrow⟩ := h.row
      have hready := ready_any w g m fm pm lv hrow a
      rw [hr] at hready
      have c1 := hrow.c1
      obtain ⟨ao, cap, rfl, hlc, hm, hcap⟩ := hv.form
      have hne : ((l.length : Int) == (m.sz : Int)) = false := by simp; omega
      have hne2 : ((l.length : Int) != (m.sz : Int)) = true := by simp; omega
      have hne3 : ¬ ((l.length : Int) = (m.sz : Int)) := by omega
      have hne4 : ¬ (l.length = m.sz) := hl
      have H := Lib.hid h
      clear h hv hrow hr e1
      go_enter Try.func29, Try.ntmps29
      go_wp2_with fail
      refine hready.mono ?_
      rintro e w1 ⟨rfl, rfl⟩
      go_wp2
      go_ret
      exact ⟨rfl, D, H.out, Grew.refl _ _, Keep.refl _ _⟩
  · have e1 : m.put a l = (m, m.ready a) := by
      unfold Dev.put
      rw [if_pos hr]
    rw [e1]
    obtain ⟨fm, pm, lv, hrow⟩ := h.row
    have hready := ready_any w g m fm pm lv hrow a
    have hrc : ((m.ready a : Int) == 0) = false := by simp; omega
    have hrc2 : ((m.ready a : Int) != 0) = true := by simp; omega
    have hrc3 : ¬ ((m.ready a : Int) = 0) := by omega
    obtain ⟨ao, cap, rfl, hlc, hm, hcap⟩ := hv.form
    have H := Lib.hid h
    clear h hv hrow e1 hr
    generalize m.ready a = rc at *
    go_enter Try.func29, Try.ntmps29
    go_wp2_with fail
    refine hready.mono ?_
    rintro e w1 ⟨rfl, rfl⟩
    go_wp2
    go_ret
    exact ⟨rfl, D, H.out, Grew.refl _ _, Keep.refl _ _⟩

theorem flat2 {α β : Type} (f : α → List β) (h2 : ∀ x, (f x).length = 2) : ∀ (l : List α) (i j : Nat) (x : α), l[i]? = some x → j < 2 → (l.flatMap f)[i * 2 + j]? = (f x)[j]?
  | [], i, j, x, h, _ => by simp at h
  | y :: l, 0, j, x, h, hj => by
    simp at h
    subst h
    rw [List.flatMap_cons, List.getElem?_append_left (by rw [h2]; omega)]
    simp
  | y :: l, i + 1, j, x, h, hj => by
    rw [List.flatMap_cons, List.getElem?_append_right (by rw [h2]; omega), h2, show (i + 1) * 2 + j - 2 = i * 2 + j by omega]
    exact flat2 f h2 l i j x (by simpa using h) hj

/-- one loose write -/
theorem LooseV.at {w : World} {D : List Nat} {lv : Value} {ls : List (Nat × List UInt8)} (h : LooseV w D lv ls) (j : Nat) (hj : j < ls.length) :
    ∃ b cap v, lv = .slice (some ⟨b, 0, none⟩) ls.length cap ∧ w.cell? ⟨b, j * 2, none⟩ = some (.int .i64 (ls[j].1 : Int)) ∧ w.cell? ⟨b, j * 2 + 1, none⟩ = some v ∧ OwnB w 0 5 v ls[j].2 ∧ inD D v ∧ b ∈ D ∧ ls.length ≤ cap ∧ cap ≤ 9223372036854775807 := by
  obtain ⟨vs, h1, h2, h3⟩ := h
  have hvl : vs.length = ls.length := by simpa using h3.1
  have hjv : j < vs.length := by omega
  rcases id h1.2 with ⟨-, h0⟩ | ⟨b, cap, cur, rfl, -, -, hc1, hc2, -⟩
  · omega
  · have hz : (ls.zip vs)[j]? = some (ls[j], vs[j]) := by
      rw [List.getElem?_eq_getElem (by simp; omega)]
      simp
    have c := fun i hi u hu => World.ownsRow.cells (g := b) h1 rfl (j * 2 + i) u ((flat2 _ (fun _ => rfl) (ls.zip vs) j i _ hz hi).trans hu)
    simp only [Addr.add_lit, Nat.zero_add] at c
    obtain ⟨h4, h5⟩ := h3.2 j vs[j] ls[j].2 (List.getElem?_eq_getElem hjv) (by simp [hj])
    exact ⟨b, cap, vs[j], rfl, c 0 (by decide) _ rfl, c 1 (by decide) _ rfl, h4, h5, h2 b rfl, hc1, by simpa [maxLen] using hc2⟩

/-- a sector's fast bytes are others -/
theorem DevAt.fastTurn {w w' : World} {D D' : List Nat} {g : Nat} {m m' : Dev} {fm pm : Nat} {lv : Value} {fv pv : Nat → Option Value} (h : DevAt w D g m fm pm lv fv pv) {k : Nat} (kk : Keep [fm] w w')
    (hd : ∀ b ∈ D, b ∈ D') (hlt : ∀ b ∈ D', b < w'.heap.size) {v' : Value} {l : List UInt8}
    (hp : MapV Try.prog 3 w' fm m.n (updF fv k v')) (hv : OwnB w' 0 5 v' l) (hvD : inD D' v') (em : m' = { m with fast := m.fast.set k l }) : DevAt w' D' g m' fm pm lv (updF fv k v') pv := by
  subst em
  obtain ⟨es, c, hmap⟩ := h.fast.isMapBlock
  have nt : ∀ t, NotT w t [fm] := fun t b hb => by
    rw [List.mem_singleton] at hb
    subst hb
    exact ⟨_, hmap, fun cs fr e => by cases e⟩
  have hg : g ∉ [fm] := fun hb => by
    rw [List.mem_singleton] at hb
    have := h.row
    rw [hb, hmap] at this
    cases this
  refine ⟨kk.blk hg h.row, hp, h.past.keep kk (by simp; exact fun e => h.two e.symm), fun i hi => ?_, fun i hi => (h.pasts i hi).move kk (nt _) (nt _) hd, h.apart, h.loose.move kk (nt _) (nt _) hd, hd _ h.inG, hd _ h.inF, hd _ h.inP, h.two, hlt⟩
  have hi' : i < m.fast.length := by simpa using hi
  by_cases hik : i = k
  · subst hik
    have e1 : updF fv i v' i = some v' := by simp [updF]
    rw [e1]
    simp only [List.getElem_set, if_true]
    exact ⟨hv, hvD⟩
  · have e1 : updF fv k v' i = fv i := by simp [updF, hik]
    rw [e1]
    simp only [List.getElem_set, if_neg (fun e => hik (Eq.symm e) : ¬ k = i)]
    exact (h.fasts i hi').move kk (nt _) hd
end Go.Proofs.Ytjkjiabfhhnngaa

/-! The walk of flash's Sync. -/
namespace Go.Proofs.Ytjkjiabfhhnngaa
open Go.RowKit Sg
set_option linter.unusedSimpArgs false
set_option linter.unusedVariables false

theorem looseFold_succ {ls : List (Nat × List UInt8)} {f : List (List UInt8)} {j : Nat} (hj : j < ls.length) :
    (ls.take (j + 1)).foldl (fun f p => f.set p.1 p.2) f = ((ls.take j).foldl (fun f p => f.set p.1 p.2) f).set ls[j].1 ls[j].2 := by
  rw [List.take_succ_eq_append_getElem hj, List.foldl_append]
  rfl

set_option maxRecDepth 100000 in
set_option maxHeartbeats 1000000 in
set_option maxHeartbeats 4000000 in
theorem sync_any (w : World) (D : List Nat) (g : Nat) (m : Dev) (h : DV w D g m) (hacts : m.acts ≤ 1000000000) :
    Calls Try.prog 19 #[.pointer (some ⟨g, 0, none⟩)] w fun e w' => e = .returned (.int .i64 (m.sync.2 : Int)) ∧ ∃ D', DV w' D' g m.sync.1 ∧ Grew w D D' ∧ Keep D w w' := by
  cases hdown : m.down with
  | true =>
    have e1 : m.sync = (m, 4) := by simp [Dev.sync, hdown]
    rw [e1]
    obtain ⟨fm, pm, lv, hrow⟩ := h.row
    have c7 := hrow.c7
    rw [hdown] at c7
    have H := Lib.hid h
    clear h hrow e1
    go_enter Try.func19, Try.ntmps19
    go_wp2
    go_ret
    exact ⟨rfl, D, H.out, Grew.refl _ _, Keep.refl _ _⟩
  | false =>
    obtain ⟨hw, fm, pm, lv, fv, pv, h⟩ := h
    have hact := act_any w g m fm pm lv h.row hacts hw.ar
    have c7 := h.rowD.c7
    rw [hdown] at c7
    cases hdn : m.act.down with
    | true =>
      have e1 : m.sync = (m.act, 4) := by simp [Dev.sync, hdown, hdn]
      rw [e1]
      rw [hdn] at hact
      have H := Lib.hid h
      clear h e1
      go_enter Try.func19, Try.ntmps19
      go_wp2_with fail
      refine hact.mono ?_
      rintro e w2 ⟨rfl, hr2, hk2, hs2⟩
      go_wp2
      go_ret
      have h := H.out
      exact ⟨rfl, D, ⟨hw.act, fm, pm, lv, fv, pv, h.turn2 hk2 (CellsOf.one h.row (by decide)) hr2 rfl rfl rfl rfl (h.loose.move hk2 (NotT.row h.row (by decide)) (NotT.row h.row (by decide)) (fun _ h => h)) (fun _ h => h) (fun b hb => by rw [hs2]; exact h.lt b hb)⟩, Grew.refl _ _, hk2.mono (fun b hb => by rw [List.mem_singleton] at hb; rw [hb]; exact h.inG)⟩
    | false =>
      have e1 : m.sync = (m.synced, 0) := by simp [Dev.sync, hdown, hdn]
      rw [e1]
      rw [hdn] at hact
      obtain ⟨la, lc, rfl⟩ := h.loose.form
      have hll : m.loose.length ≤ 1000000000 := Nat.le_trans hw.ll hacts
      have H := Lib.hid h
      have HDn := Lib.hid hdn
      clear h e1 hdn
      go_enter Try.func19, Try.ntmps19
      go_wp2_with fail
      refine hact.mono ?_
      rintro e w2 ⟨rfl, hr2, hk2, hs2⟩
      have h := H.out
      have h2 : DevAt w2 D g m.act fm pm (.slice la m.loose.length lc) fv pv := h.turn2 hk2 (CellsOf.one h.row (by decide)) hr2 rfl rfl rfl rfl (h.loose.move hk2 (NotT.row h.row (by decide)) (NotT.row h.row (by decide)) (fun _ h => h)) (fun _ h => h) (fun b hb => by rw [hs2]; exact h.lt b hb)
      have hKD : Keep D w w2 := hk2.mono (fun b hb => by rw [List.mem_singleton] at hb; rw [hb]; exact h.inG)
      have c3 := hr2.c3
      clear h hact c7 hr2 hk2 hs2
      go_wp2
      go_loopw [22] (fun i wr => ∃ (j : Nat) (fv' : Nat → Option Value) (D' : List Nat), j ≤ m.loose.length ∧ i = .int .i64 j ∧ Hid (DevAt wr D' g { m.act with fast := (m.loose.take j).foldl (fun f p => f.set p.1 p.2) m.fast } fm pm (.slice la m.loose.length lc) fv' pv) ∧ Hid (Grew w D D') ∧ Hid (Keep D w wr)) (fun i _ => m.loose.length - (intOf i).toNat)
      case atStart => exact ⟨0, fv, D, by omega, rfl, h2, Grew.refl _ _, hKD⟩
      case round =>
        obtain ⟨j, fv', D', hj, rfl, HD, HG, HK⟩ := hrel
        by_cases hlt : j < m.loose.length
        · have h3 := HD.out
          obtain ⟨b, cap, v, e1, a0, a1, ho, hoD, hbD, hcap1, hcap2⟩ := LooseV.at (ls := m.loose) h3.loose j hlt
          obtain rfl : la = some ⟨b, 0, none⟩ := by injection e1
          obtain ⟨hp1, hp2⟩ := hw.ls m.loose[j] (List.getElem_mem hlt)
          have hbv := ho.bytes (by have := hw.s2; omega)
          obtain ⟨va, vc, rfl, -⟩ := hbv.form
          rw [hp2] at hbv a1
          have s2 := hw.s2
          have n2 := hw.n2
          have hA := (Keep.refl [] wr).alloc (.cells #[.int .i64 (m.loose[j].1 : Int), .slice va m.sz vc] 177)
          have hB := heap_alloc_new wr (.cells #[.int .i64 (m.loose[j].1 : Int), .slice va m.sz vc] 177)
          have HB := Lib.hid hB
          have HA := Lib.hid hA
          have HV := Lib.hid hbv
          have H3 := Lib.hid h3
          have HLT := Lib.hid hlt
          clear e1 ho hoD hB hA h3 hbv
          go_wp2_with fail
          refine wp_region_his [] [9, 10] (fun _ => 0) (by kernel_rfl) (by kernel_rfl) ?_
          intro w5 hk5 hh
          clear hh
          have hk35 : Keep [] wr w5 := HA.out.trans hk5
          have h5 := H3.out.rowD.keep hk35 (by simp)
          have hB5 := hk5.blk (by simp) HB.out
          have q2 := fun w' (h' : Keep [] w5 w') => h'.cell (p := ⟨g, 2, none⟩) (by simp) h5.c2
          have qB0 := fun w' (h' : Keep [] w5 w') => cell_of_row w' _ 0 _ _ _ (h'.blk (by simp) hB5)
          have qB1 := fun w' (h' : Keep [] w5 w') => cell_of_row w' _ 1 _ _ _ (h'.blk (by simp) hB5)
          simp at qB0 qB1
          clear h5 hB5 a0 a1
          (repeat (first | (refine his_q rfl rfl (fun K hK => ?_); apply Exists.intro; refine ⟨fun w' hC => ?_, ?_⟩; ((try simp [Sg.upd] at hC); go_simp <;> rfl); go_simp; refine hK _ _ ?_; clear hK K) | (refine his_s rfl (fun K hK => ?_); go_simp; refine hK _ _ ?_; clear hK K)))
          (refine his_l rfl rfl (fun K hK => ?_); go_simp)
          refine (clone_any _ m.loose[j].2 _ (HV.out.keep hk35 (by simp))).mono ?_
          rintro x w6 ⟨v6, rfl, ho6, hk6⟩
          refine hK _ _ hk6 ?_
          clear hK K
          have h3 := H3.out
          have hk36 := hk35.trans hk6
          obtain ⟨w7, hrun, hM, hk7, hs7⟩ := (h3.fast.keep hk36 (by simp)).store Try.underlying3 Try.underlying169 m.loose[j].1 hp1 (show m.n ≤ 1000000000 by omega) v6
          have HR := Lib.hid hrun
          clear hrun
          refine his_last rfl (by kernel_rfl) rfl (fun K hK => ?_)
          refine loudly_mapUpdate_run (.tmp 29) (.tmp 32) (.tmp 35) 169 rfl (mv := .map (some fm)) (xv := .int .i64 (m.loose[j].1 : Int)) (yv := v6) (w' := w7) rfl rfl rfl HR.out ?_
          refine hK _ _ ?_
          clear hK K q2 qB0 qB1
          refine his_nil ?_
          have hk37 : Keep [fm] wr w7 := (hk36.mono (by simp)).trans hk7
          have hm6 : MapV Try.prog 3 w6 fm m.n fv' := h3.fast.keep hk36 (by simp)
          have ho7 : OwnB w7 0 5 v6 m.loose[j].2 := ownB_move (ho6.base (Nat.zero_le _)) hk7 (NotT.map hm6)
          have hD' : ∀ b ∈ D', b ∈ D' ++ newer wr w7 := fun b hb => List.mem_append_left _ hb
          have hin : inD (D' ++ newer wr w7) v6 := fun b hb => by
            refine List.mem_append_right _ (mem_newer.2 ⟨?_, ownsRow_lt ho7 hb⟩)
            have := hk35.size
            rcases ho6.2 with ⟨rfl, -⟩ | ⟨g', cap', cur, rfl, h1, -⟩
            · simp [Value.ownBlock] at hb
            · simp [Value.ownBlock] at hb
              omega
          have hnew := h3.fastTurn (m' := { m.act with fast := (m.loose.take (j + 1)).foldl (fun f p => f.set p.1 p.2) m.fast }) hk37 hD' (fun b hb => by
            rcases List.mem_append.1 hb with h | h
            · exact Nat.lt_of_lt_of_le (h3.lt b h) hk37.size
            · exact (mem_newer.1 h).2) hM ho7 hin (by rw [looseFold_succ HLT.out]; rfl)
          have hG : Grew w D (D' ++ newer wr w7) := HG.out.trans (Grew.newer wr w7 D') HK.out.size
          have hKK : Keep D w w7 := keep_bump HK.out hk37 (fun b hb => by
            rw [List.mem_singleton] at hb
            rw [hb]
            exact HG.out.2 _ h3.inF)
          clear hin hD' ho7 hm6 hk37 hM hk7 hs7 ho6 hk6 hk36 h3 hk35 hk5
          go_wp2
          go_roundw
          case rel => exact ⟨j + 1, _, _, HLT.out, by go_num, hnew, hG, hKK⟩
          case measure => have := HLT.out; simp [intOf]; omega
        · have h3 := HD.out
          have hr3 := h3.rowD
          have c3 := hr3.c3
          have f3 := hr3.free 3
          have hks : Keep [g] wr (wr.setCell ⟨g, 3, none⟩ (.slice none 0 0)) := (Keep.refl _ _).setCell (.inl (by simp)) _
          have e2 : m.loose.take j = m.loose := List.take_of_length_le (by omega)
          have hfin : DevAt (wr.setCell ⟨g, 3, none⟩ (.slice none 0 0)) D' g m.synced fm pm (.slice none 0 0) fv' pv := by
            rw [e2] at h3 hr3
            exact h3.turn2 hks (CellsOf.one h3.row (by decide)) ((hr3.set 3 (.slice none 0 0)).trans (by simp [devCells, Dev.synced])) rfl rfl rfl rfl ⟨[], World.ownsRow_nil _ _ _ _, fun b hb => by simp [Value.ownBlock] at hb, rfl, fun i v l h => by simp at h⟩ (fun _ h => h) (fun b hb => by simpa using h3.lt b hb)
          have hKK : Keep D w (wr.setCell ⟨g, 3, none⟩ (.slice none 0 0)) := keep_bump HK.out hks (fun b hb => by
            rw [List.mem_singleton] at hb
            rw [hb]
            exact HG.out.2 _ h3.inG)
          have HF := Lib.hid hfin
          clear h3 hr3 hfin hks e2
          go_wp2
          go_ret
          exact ⟨rfl, D', ⟨hw.synced, fm, pm, _, _, _, HF.out⟩, HG.out, hKK⟩
end Go.Proofs.Ytjkjiabfhhnngaa

/-! The walk of flash's Crash. -/
namespace Go.Proofs.Ytjkjiabfhhnngaa
open Go.RowKit Sg
set_option linter.unusedSimpArgs false
set_option linter.unusedVariables false

/-- A slice shows these numbers. -/
def Ints (w : World) (v : Value) (l : List Int) : Prop :=
  ∃ ao cap, v = .slice ao l.length cap ∧ l.length ≤ cap ∧ (cap ≤ 9223372036854775807 ∧ l.length ≤ 140737488355328) ∧ (ao = none → l = []) ∧ (∀ x ∈ l, -9223372036854775808 ≤ x ∧ x ≤ 9223372036854775807) ∧
    ∀ ad, ao = some ad → ∀ i (h : i < l.length), w.cell? (ad.add i) = some (.int .i64 l[i])
theorem Ints.nil (w : World) : Ints w (.slice none 0 0) [] := ⟨none, 0, rfl, by simp, ⟨by decide, by decide⟩, fun _ => rfl, by simp, fun _ h => by cases h⟩
theorem Ints.keep {S : List Nat} {w w' : World} {v : Value} {l : List Int} (h : Ints w v l) (k : Keep S w w') (hv : l ≠ [] → ∀ b, v.ownBlock = some b → b ∉ S) : Ints w' v l := by
  obtain ⟨ao, cap, rfl, h1, h2, h3, h5, h4⟩ := h
  refine ⟨ao, cap, rfl, h1, h2, h3, h5, fun ad e i hi => k.cell ?_ (h4 ad e i hi)⟩
  subst e
  have := hv (fun e => by rw [e] at hi; simp at hi) ad.block rfl
  have e : (ad.add i).block = ad.block := by unfold Addr.add; split <;> rfl
  rw [e]; exact this
theorem Ints.form {w : World} {v : Value} {l : List Int} (h : Ints w v l) : ∃ ao cap, v = .slice ao l.length cap ∧ l.length ≤ cap ∧ l.length ≤ 140737488355328 ∧ cap ≤ 9223372036854775807 := by
  obtain ⟨ao, cap, rfl, h1, h2, _⟩ := h
  exact ⟨ao, cap, rfl, h1, h2.2, h2.1⟩
theorem Ints.spot {w : World} {ao : Option Addr} {n cap : Nat} {l : List Int} (h : Ints w (.slice ao n cap) l) (hl : 0 < l.length) :
    ∃ b o, ao = some ⟨b, o, none⟩ ∧ b < w.heap.size ∧ ∀ i (h : i < l.length), w.cell? ⟨b, o + i, none⟩ = some (.int .i64 l[i]) := by
  obtain ⟨ao', cap', e, h1, h2, h3, h5, h4⟩ := h
  cases e
  cases ao with
  | none => rw [h3 rfl] at hl; simp at hl
  | some ad =>
    have h0 := h4 ad rfl 0 hl
    rw [show ad.add 0 = ad by simp [Addr.add]] at h0
    have hs : ad.spot = none := by
      cases hsp : ad.spot with
      | none => rfl
      | some x =>
        unfold World.cell? at h0
        split at h0
        · simp [hsp] at h0
        · cases h0
    obtain ⟨b, o, sp⟩ := ad
    simp only at hs
    subst hs
    refine ⟨b, o, rfl, World.block_lt_of_cell? w _ h0, fun i hi => ?_⟩
    have := h4 _ rfl i hi
    rwa [Addr.add_lit] at this
theorem Ints.range {w : World} {v : Value} {l : List Int} (h : Ints w v l) : ∀ x ∈ l, -9223372036854775808 ≤ x ∧ x ≤ 9223372036854775807 := by
  obtain ⟨_, _, _, _, _, _, h5, _⟩ := h
  exact h5

theorem fate_go (x M : Int) (hM : 0 < M) : (x.tmod M + M).tmod M = x % M := by
  have h1 := Int.tmod_lt_of_pos x hM
  have h2 : -M < x.tmod M := by
    have := Int.lt_tmod_of_pos x hM
    exact this
  rw [Int.tmod_eq_emod_of_nonneg (by omega), Int.add_emod_right]
  have h3 := Int.mul_tdiv_add_tmod x M
  conv => rhs; rw [← h3]
  rw [Int.add_comm, Int.add_mul_emod_self_left]
theorem torn_succ (sz : Nat) (fates : List Int) : ∀ (l : List (Nat × List UInt8)) (f : List (List UInt8)) (i j : Nat) (hj : j < l.length), torn sz fates f i (l.take (j + 1)) = tear sz fates (torn sz fates f i (l.take j)) (i + j) l[j]
  | [], f, i, j, hj => by simp at hj
  | p :: l, f, i, 0, hj => rfl
  | p :: l, f, i, j + 1, hj => by
    have := torn_succ sz fates l (tear sz fates f i p) (i + 1) j (by simpa using hj)
    simp only [List.take_succ_cons, torn, List.getElem_cons_succ]
    rw [this]
    congr 1
    omega

theorem DevAt.keep0 {w w' : World} {D : List Nat} {g : Nat} {m : Dev} {fm pm : Nat} {lv : Value} {fv pv : Nat → Option Value} (h : DevAt w D g m fm pm lv fv pv) (k : Keep [] w w') : DevAt w' D g m fm pm lv fv pv :=
  h.turn2 k (CellsOf.nil _ _) (h.rowD.keep k (by simp)) rfl rfl rfl rfl (h.loose.move k NotT.nil NotT.nil (fun _ h => h)) (fun _ h => h) (fun b hb => Nat.lt_of_lt_of_le (h.lt b hb) k.size)

set_option maxRecDepth 100000 in
set_option maxHeartbeats 1000000 in
set_option maxHeartbeats 4000000 in
theorem crash_any (w : World) (D : List Nat) (g : Nat) (m : Dev) (h : DV w D g m) (hacts : m.acts ≤ 1000000000) (v : Value) (fates : List Int) (hv : Ints w v fates) (hvD : fates ≠ [] → ∀ b, v.ownBlock = some b → b ∉ D) :
    Calls Try.prog 24 #[.pointer (some ⟨g, 0, none⟩), v] w fun e w' => e = .returned (.tuple #[]) ∧ ∃ D', DV w' D' g (m.crash fates) ∧ Grew w D D' ∧ Keep D w w' := by
  obtain ⟨hw, fm, pm, lv, fv, pv, h⟩ := h
  obtain ⟨la, lc, rfl⟩ := h.loose.form
  have hll : m.loose.length ≤ 1000000000 := Nat.le_trans hw.ll hacts
  obtain ⟨ao, cap, rfl, hlc, hm, hcap⟩ := hv.form
  have c1 := h.rowD.c1
  have c3 := h.rowD.c3
  have s2 := hw.s2
  have n2 := hw.n2
  have H := Lib.hid h
  have HV := Lib.hid hv
  clear h hv
  go_enter Try.func24, Try.ntmps24
  go_wp2
  go_loopw [20] (fun i wr => ∃ (j : Nat) (fv' : Nat → Option Value) (D' : List Nat), j ≤ m.loose.length ∧ i = .int .i64 j ∧ Hid (DevAt wr D' g { m with fast := torn m.sz fates m.fast 0 (m.loose.take j) } fm pm (.slice la m.loose.length lc) fv' pv) ∧ Hid (Grew w D D') ∧ Hid (Keep D w wr)) (fun i _ => m.loose.length - (intOf i).toNat)
  case atStart => exact ⟨0, fv, D, by omega, rfl, H.out, Grew.refl _ _, Keep.refl _ _⟩
  case round =>
    obtain ⟨j, fv', D', hj, rfl, HD, HG, HK⟩ := hrel
    by_cases hlt : j < m.loose.length
    · have h3 := HD.out
      obtain ⟨b, cap2, u, e1, a0, a1, ho, hoD, hbD, hcap1, hcap2⟩ := LooseV.at (ls := m.loose) h3.loose j hlt
      obtain rfl : la = some ⟨b, 0, none⟩ := by injection e1
      obtain ⟨hp1, hp2⟩ := hw.ls m.loose[j] (List.getElem_mem hlt)
      obtain ⟨⟨qk, ql⟩, hq⟩ : ∃ q, m.loose[j] = q := ⟨_, rfl⟩
      rw [hq] at a0 ho hp1 hp2
      simp only at a0 ho hp1 hp2
      have HQ := Lib.hid hq
      have hbv := ho.bytes (by have := hw.s2; omega)
      obtain ⟨va, vc, rfl, hvc, -, hvc2⟩ := hbv.form
      rw [hp2] at hbv a1 hvc
      have hA := (Keep.refl [] wr).alloc (.cells #[.int .i64 (qk : Int), .slice va m.sz vc] 177)
      have hB := heap_alloc_new wr (.cells #[.int .i64 (qk : Int), .slice va m.sz vc] 177)
      have HB := Lib.hid hB
      have HA := Lib.hid hA
      have HBV := Lib.hid hbv
      have H3 := Lib.hid h3
      have HLT := Lib.hid hlt
      obtain ⟨va', hva⟩ : ∃ a o, va = some ⟨a, o, none⟩ := by
        obtain ⟨b', o', e, -⟩ := hbv.spot (by rw [hp2]; have := hw.s1; omega)
        exact ⟨b', o', e⟩
      obtain ⟨vo, rfl⟩ := hva
      have HFV := Lib.hid ((HV.out.keep HK.out hvD).keep ((Keep.refl [] wr).alloc (.cells #[.int .i64 (qk : Int), .slice (some ⟨va', vo, none⟩) m.sz vc] 177)) (by simp))
      by_cases hi : j < fates.length
      · obtain ⟨fb, fo, rfl, -, hfc⟩ := HFV.out.spot (by omega)
        have hfj := hfc j hi
        have hra := HFV.out.range fates[j] (List.getElem_mem hi)
        have hMpos : (0 : Int) < (m.sz : Int) + 1 := by omega
        have t1 := Int.tmod_lt_of_pos fates[j] hMpos
        have t2 := Int.lt_tmod_of_pos fates[j] hMpos
        have t3 := fate_go fates[j] _ hMpos
        have hfate : ((fate fates m.sz j : Nat) : Int) = fates[j] % ((m.sz : Int) + 1) := by
          unfold fate
          rw [if_pos hi, List.getD_eq_getElem?_getD, List.getElem?_eq_getElem hi, Option.getD_some]
          have h2 := Int.emod_nonneg fates[j] (show (m.sz : Int) + 1 ≠ 0 by omega)
          exact Int.toNat_of_nonneg h2
        rw [← hfate] at t3
        clear hfate
        generalize fates[j] = x at hfj hra t1 t2 t3
        generalize hnn : fate fates m.sz j = nn at t3
        have HNz := Lib.hid hnn
        obtain ⟨y, hy⟩ : ∃ y, x.tmod ((m.sz : Int) + 1) = y := ⟨_, rfl⟩
        rw [hy] at t1 t2 t3
        have hyw : RowKit.wrap64 (y + ((m.sz : Int) + 1)) = y + ((m.sz : Int) + 1) := by unfold RowKit.wrap64; omega
        clear e1 ho hoD hB hA h3 hbv hfc hnn hq
        have hnl := fate_le fates m.sz j
        rw [HNz.out] at hnl
        go_wp2_with fail
        refine wp_region_hisG (Since (wr.alloc (.cells #[.int .i64 (qk : Int), .slice (some ⟨va', vo, none⟩) m.sz vc] 177))) (Since.tr _) (Since.rf _) [11, 16, 19, 20] (fun _ => 0) (by kernel_rfl) (by kernel_rfl) ?_
        intro w5 hk5 hh
        clear hh
        have q2 := fun w' (h' : Since (wr.alloc (.cells #[.int .i64 (qk : Int), .slice (some ⟨va', vo, none⟩) m.sz vc] 177)) w5 w') => (HA.out.trans (h' hk5)).cell (p := ⟨g, 2, none⟩) (by simp) H3.out.rowD.c2
        have qB0 := fun w' (h' : Since (wr.alloc (.cells #[.int .i64 (qk : Int), .slice (some ⟨va', vo, none⟩) m.sz vc] 177)) w5 w') => cell_of_row w' _ 0 _ _ _ ((h' hk5).blk (by simp) HB.out)
        have qB1 := fun w' (h' : Since (wr.alloc (.cells #[.int .i64 (qk : Int), .slice (some ⟨va', vo, none⟩) m.sz vc] 177)) w5 w') => cell_of_row w' _ 1 _ _ _ ((h' hk5).blk (by simp) HB.out)
        simp at qB0 qB1
        have hnv : (nn : Int) ≤ (vc : Int) := by omega
        have hns : (nn : Int) ≤ (m.sz : Int) := by omega
        clear a0 a1
        (repeat (first | (refine his_q rfl rfl (fun K hK => ?_); apply Exists.intro; refine ⟨fun w' hC => ?_, ?_⟩; ((try simp [Sg.upd] at hC); go_simp <;> rfl); go_simp; refine hK _ _ ?_; clear hK K) | (refine his_s rfl (fun K hK => ?_); go_simp; refine hK _ _ ?_; clear hK K)))
        (refine his_l rfl rfl (fun K hK => ?_); go_simp)
        refine (clone_any _ (ql.take nn) _ ((HBV.out.keep (HA.out.trans hk5) (by simp)).take (by rw [hp2]; omega))).mono ?_
        rintro x6 w6 ⟨v6, rfl, ho6, hk6⟩
        refine hK _ _ (fun h => h.trans hk6) ?_
        clear hK K
        have hk46 := hk5.trans hk6
        have h6 := H3.out.keep0 (HA.out.trans hk46)
        have hfl := torn_lens fates (m.loose.take j) m.fast 0 ⟨hw.fl, hw.fs⟩ (fun p hp => hw.ls p (List.mem_of_mem_take hp))
        have hWf : Dev.Wf { m with fast := torn m.sz fates m.fast 0 (m.loose.take j) } := { n1 := hw.n1, n2 := hw.n2, s1 := hw.s1, s2 := hw.s2, fl := hfl.1, fs := hfl.2, pl := hw.pl, ps := hw.ps, ll := hw.ll, ls := hw.ls, ar := hw.ar }
        have hqf : qk < (torn m.sz fates m.fast 0 (m.loose.take j)).length := by rw [hfl.1]; exact hp1
        (repeat (first | (refine his_q rfl rfl (fun K hK => ?_); apply Exists.intro; refine ⟨fun w' hC => ?_, ?_⟩; ((try simp [Sg.upd] at hC); go_simp <;> rfl); go_simp; refine hK _ _ ?_; clear hK K) | (refine his_s rfl (fun K hK => ?_); go_simp; refine hK _ _ ?_; clear hK K)))
        (refine his_l rfl rfl (fun K hK => ?_); go_simp)
        refine (kept_any w6 D' g _ fm pm _ fv' pv hWf h6 qk hqf).mono ?_
        rintro x7 w7 ⟨v7, rfl, ho7, hk7⟩
        refine hK _ _ (fun h => h.trans hk7) ?_
        clear hK K
        have hk47 := hk46.trans hk7
        have hf7 := hfl.2 qk hqf
        have hb7 := ho7.bytes (by rw [hf7]; omega)
        obtain ⟨ka, kc, rfl, hkc, -, hkc2⟩ := hb7.form
        rw [hf7] at hb7 hkc
        obtain ⟨kb, ko, rfl, -, -⟩ := hb7.spot (by rw [hf7]; have := hw.s1; omega)
        have hcut := hb7.drop (k := nn) (by rw [hf7]; omega)
        rw [hf7] at hcut
        have hkn : (nn : Int) ≤ (kc : Int) := by omega
        have ho67 : OwnB w7 (wr.heap.size + 1) 5 v6 (ql.take nn) := (ho6.base (by have := hk5.size; simpa using this)).keep hk7 (by simp)
        have hql : (ql.take nn).length = nn := by rw [List.length_take, hp2]; omega
        obtain ⟨va6, vc6, rfl, -⟩ := (ho67.bytes (by rw [hql]; omega)).form
        rw [hql] at ho67
        have htl : ((torn m.sz fates m.fast 0 (m.loose.take j))[qk].drop nn).length = m.sz - nn := by rw [List.length_drop, hf7]
        clear ho7 hb7 h6 ho6
        by_cases hkn2 : kc = nn
        · rw [if_pos hkn2] at hcut
          subst hkn2
          rw [Nat.sub_self, show m.sz - kc = 0 by omega] at hcut
          (repeat (first | (refine his_q rfl rfl (fun K hK => ?_); apply Exists.intro; refine ⟨fun w' hC => ?_, ?_⟩; ((try simp [Sg.upd] at hC); go_simp <;> rfl); go_simp; refine hK _ _ ?_; clear hK K) | (refine his_s rfl (fun K hK => ?_); go_simp; refine hK _ _ ?_; clear hK K)))
          refine his_l rfl rfl (fun K hK => ?_)
          refine loudly_append (.tmp 50) (.tmp 57) 42 5 rfl (wr.heap.size + 1) Try.underlying42 (by kernel_rfl) (v := .slice va6 kc vc6) (src := .slice (some ⟨kb, ko, none⟩) 0 0) rfl rfl ho67 hcut (by rw [htl, hql]; omega) (by have := hk47.size; simpa using this) ?_
          intro v8 w8 ho8 hk8
          have hown6 : ∀ b ∈ (Value.slice va6 kc vc6).ownBlock.toList, b ∈ ([] : List Nat) ∨ (wr.alloc (.cells #[.int .i64 (qk : Int), .slice (some ⟨va', vo, none⟩) m.sz vc] 177)).heap.size ≤ b := fun b hb => by
            rw [Option.mem_toList] at hb
            rcases ho67.2 with ⟨h, -⟩ | ⟨g', c', cur, h, hg', -⟩
            · rw [h] at hb; simp [Value.ownBlock] at hb
            · rw [h] at hb
              simp [Value.ownBlock] at hb
              subst hb
              exact .inr (by simpa using hg')
          refine hK _ _ (fun h => h.trans' hk8 hown6) ?_
          clear hK K
          have hk48 := hk47.trans' hk8 hown6
          have h8 := H3.out.keep0 (HA.out.trans hk48)
          obtain ⟨w9, hrun, hM, hk9, hs9⟩ := h8.fast.store Try.underlying3 Try.underlying169 qk hp1 (show m.n ≤ 1000000000 by omega) v8
          have HR := Lib.hid hrun
          clear hrun
          refine his_last rfl (by kernel_rfl) rfl (fun K hK => ?_)
          refine loudly_mapUpdate_run (.tmp 42) (.tmp 45) (.tmp 58) 169 rfl (mv := .map (some fm)) (xv := .int .i64 (qk : Int)) (yv := v8) (w' := w9) rfl rfl rfl HR.out ?_
          refine hK _ _ ?_
          clear hK K q2 qB0 qB1
          refine his_nil ?_
          have ho9 : OwnB w9 0 5 v8 (ql.take kc ++ (torn m.sz fates m.fast 0 (m.loose.take j))[qk].drop kc) := ownB_move (ho8.base (Nat.zero_le _)) hk9 (NotT.map h8.fast)
          have hbase8 : ∀ b, v8.ownBlock = some b → wr.heap.size ≤ b := fun b hb => by
            rcases ho8.2 with ⟨h, -⟩ | ⟨g', c', cur, h, hg', -⟩
            · rw [h] at hb; simp [Value.ownBlock] at hb
            · rw [h] at hb; simp [Value.ownBlock] at hb; omega
          have hk3 : Keep [] wr w8 := HA.out.trans hk48
          have hk39 : Keep [fm] wr w9 := (hk3.mono (by simp)).trans hk9
          have hD' : ∀ b ∈ D', b ∈ D' ++ newer wr w9 := fun b hb => List.mem_append_left _ hb
          have hin : inD (D' ++ newer wr w9) v8 := fun b hb => List.mem_append_right _ (mem_newer.2 ⟨hbase8 b hb, ownsRow_lt ho9 hb⟩)
          have hnew := (H3.out).fastTurn (m' := { m with fast := torn m.sz fates m.fast 0 (m.loose.take (j + 1)) }) hk39 hD' (fun b hb => by
            rcases List.mem_append.1 hb with h | h
            · exact Nat.lt_of_lt_of_le (H3.out.lt b h) hk39.size
            · exact (mem_newer.1 h).2) hM ho9 hin (by
              rw [torn_succ _ _ _ _ _ _ HLT.out, HQ.out, Nat.zero_add]
              unfold tear
              rw [HNz.out, List.getD_eq_getElem?_getD, List.getElem?_eq_getElem hqf, Option.getD_some])
          have hG : Grew w D (D' ++ newer wr w9) := HG.out.trans (Grew.newer wr w9 D') HK.out.size
          have hKK : Keep D w w9 := keep_bump HK.out hk39 (fun b hb => by
            rw [List.mem_singleton] at hb
            rw [hb]
            exact HG.out.2 _ H3.out.inF)
          clear hin hD' ho9 hk39 hM hk9 hs9 ho8 hk8 h8 hk48 hk47 hk46 hk3 ho67 hbase8 hk7 hk6 hk5
          go_wp2
          go_roundw
          case rel => exact ⟨j + 1, _, _, HLT.out, by go_num, hnew, hG, hKK⟩
          case measure => have := HLT.out; simp [intOf]; omega
        · rw [if_neg hkn2] at hcut
          have hcut2 : Bytes w7 (.slice (some ⟨kb, ko + nn, none⟩) (m.sz - nn) (kc - nn)) ((torn m.sz fates m.fast 0 (m.loose.take j))[qk].drop nn) := by
            have := hcut
            simp only [Option.map_some, Addr.add_lit] at this
            exact this
          clear hcut
          (repeat (first | (refine his_q rfl rfl (fun K hK => ?_); apply Exists.intro; refine ⟨fun w' hC => ?_, ?_⟩; ((try simp [Sg.upd] at hC); go_simp <;> rfl); go_simp; refine hK _ _ ?_; clear hK K) | (refine his_s rfl (fun K hK => ?_); go_simp; refine hK _ _ ?_; clear hK K)))
          refine his_l rfl rfl (fun K hK => ?_)
          refine loudly_append (.tmp 50) (.tmp 57) 42 5 rfl (wr.heap.size + 1) Try.underlying42 (by kernel_rfl) (v := .slice va6 nn vc6) (src := .slice (some ⟨kb, ko + nn, none⟩) (m.sz - nn) (kc - nn)) rfl rfl ho67 hcut2 (by rw [htl, hql]; omega) (by have := hk47.size; simpa using this) ?_
          intro v8 w8 ho8 hk8
          have hown6 : ∀ b ∈ (Value.slice va6 nn vc6).ownBlock.toList, b ∈ ([] : List Nat) ∨ (wr.alloc (.cells #[.int .i64 (qk : Int), .slice (some ⟨va', vo, none⟩) m.sz vc] 177)).heap.size ≤ b := fun b hb => by
            rw [Option.mem_toList] at hb
            rcases ho67.2 with ⟨h, -⟩ | ⟨g', c', cur, h, hg', -⟩
            · rw [h] at hb; simp [Value.ownBlock] at hb
            · rw [h] at hb
              simp [Value.ownBlock] at hb
              subst hb
              exact .inr (by simpa using hg')
          refine hK _ _ (fun h => h.trans' hk8 hown6) ?_
          clear hK K
          have hk48 := hk47.trans' hk8 hown6
          have h8 := H3.out.keep0 (HA.out.trans hk48)
          obtain ⟨w9, hrun, hM, hk9, hs9⟩ := h8.fast.store Try.underlying3 Try.underlying169 qk hp1 (show m.n ≤ 1000000000 by omega) v8
          have HR := Lib.hid hrun
          clear hrun
          refine his_last rfl (by kernel_rfl) rfl (fun K hK => ?_)
          refine loudly_mapUpdate_run (.tmp 42) (.tmp 45) (.tmp 58) 169 rfl (mv := .map (some fm)) (xv := .int .i64 (qk : Int)) (yv := v8) (w' := w9) rfl rfl rfl HR.out ?_
          refine hK _ _ ?_
          clear hK K q2 qB0 qB1
          refine his_nil ?_
          have ho9 : OwnB w9 0 5 v8 (ql.take nn ++ (torn m.sz fates m.fast 0 (m.loose.take j))[qk].drop nn) := ownB_move (ho8.base (Nat.zero_le _)) hk9 (NotT.map h8.fast)
          have hbase8 : ∀ b, v8.ownBlock = some b → wr.heap.size ≤ b := fun b hb => by
            rcases ho8.2 with ⟨h, -⟩ | ⟨g', c', cur, h, hg', -⟩
            · rw [h] at hb; simp [Value.ownBlock] at hb
            · rw [h] at hb; simp [Value.ownBlock] at hb; omega
          have hk3 : Keep [] wr w8 := HA.out.trans hk48
          have hk39 : Keep [fm] wr w9 := (hk3.mono (by simp)).trans hk9
          have hD' : ∀ b ∈ D', b ∈ D' ++ newer wr w9 := fun b hb => List.mem_append_left _ hb
          have hin : inD (D' ++ newer wr w9) v8 := fun b hb => List.mem_append_right _ (mem_newer.2 ⟨hbase8 b hb, ownsRow_lt ho9 hb⟩)
          have hnew := (H3.out).fastTurn (m' := { m with fast := torn m.sz fates m.fast 0 (m.loose.take (j + 1)) }) hk39 hD' (fun b hb => by
            rcases List.mem_append.1 hb with h | h
            · exact Nat.lt_of_lt_of_le (H3.out.lt b h) hk39.size
            · exact (mem_newer.1 h).2) hM ho9 hin (by
              rw [torn_succ _ _ _ _ _ _ HLT.out, HQ.out, Nat.zero_add]
              unfold tear
              rw [HNz.out, List.getD_eq_getElem?_getD, List.getElem?_eq_getElem hqf, Option.getD_some])
          have hG : Grew w D (D' ++ newer wr w9) := HG.out.trans (Grew.newer wr w9 D') HK.out.size
          have hKK : Keep D w w9 := keep_bump HK.out hk39 (fun b hb => by
            rw [List.mem_singleton] at hb
            rw [hb]
            exact HG.out.2 _ H3.out.inF)
          clear hin hD' ho9 hk39 hM hk9 hs9 ho8 hk8 h8 hk48 hk47 hk46 hk3 ho67 hbase8 hk7 hk6 hk5
          go_wp2
          go_roundw
          case rel => exact ⟨j + 1, _, _, HLT.out, by go_num, hnew, hG, hKK⟩
          case measure => have := HLT.out; simp [intOf]; omega
      · have hfz : fate fates m.sz j = 0 := by
          unfold fate
          rw [if_neg hi]
        have HN0 := Lib.hid hfz
        clear e1 ho hoD hB hA h3 hbv hfz hq
        go_wp2_with fail
        refine wp_region_hisG (Since (wr.alloc (.cells #[.int .i64 (qk : Int), .slice (some ⟨va', vo, none⟩) m.sz vc] 177))) (Since.tr _) (Since.rf _) [11, 16, 19, 20] (fun _ => 0) (by kernel_rfl) (by kernel_rfl) ?_
        intro w5 hk5 hh
        clear hh
        have q2 := fun w' (h' : Since (wr.alloc (.cells #[.int .i64 (qk : Int), .slice (some ⟨va', vo, none⟩) m.sz vc] 177)) w5 w') => (HA.out.trans (h' hk5)).cell (p := ⟨g, 2, none⟩) (by simp) H3.out.rowD.c2
        have qB0 := fun w' (h' : Since (wr.alloc (.cells #[.int .i64 (qk : Int), .slice (some ⟨va', vo, none⟩) m.sz vc] 177)) w5 w') => cell_of_row w' _ 0 _ _ _ ((h' hk5).blk (by simp) HB.out)
        have qB1 := fun w' (h' : Since (wr.alloc (.cells #[.int .i64 (qk : Int), .slice (some ⟨va', vo, none⟩) m.sz vc] 177)) w5 w') => cell_of_row w' _ 1 _ _ _ ((h' hk5).blk (by simp) HB.out)
        simp at qB0 qB1
        have hnv : (0 : Int) ≤ (vc : Int) := by omega
        have hns : (0 : Int) ≤ (m.sz : Int) := by omega
        clear a0 a1
        (repeat (first | (refine his_q rfl rfl (fun K hK => ?_); apply Exists.intro; refine ⟨fun w' hC => ?_, ?_⟩; ((try simp [Sg.upd] at hC); go_simp <;> rfl); go_simp; refine hK _ _ ?_; clear hK K) | (refine his_s rfl (fun K hK => ?_); go_simp; refine hK _ _ ?_; clear hK K)))
        (refine his_l rfl rfl (fun K hK => ?_); go_simp)
        refine (clone_any _ (ql.take 0) _ ((HBV.out.keep (HA.out.trans hk5) (by simp)).take (by rw [hp2]; omega))).mono ?_
        rintro x6 w6 ⟨v6, rfl, ho6, hk6⟩
        refine hK _ _ (fun h => h.trans hk6) ?_
        clear hK K
        have hk46 := hk5.trans hk6
        have h6 := H3.out.keep0 (HA.out.trans hk46)
        have hfl := torn_lens fates (m.loose.take j) m.fast 0 ⟨hw.fl, hw.fs⟩ (fun p hp => hw.ls p (List.mem_of_mem_take hp))
        have hWf : Dev.Wf { m with fast := torn m.sz fates m.fast 0 (m.loose.take j) } := { n1 := hw.n1, n2 := hw.n2, s1 := hw.s1, s2 := hw.s2, fl := hfl.1, fs := hfl.2, pl := hw.pl, ps := hw.ps, ll := hw.ll, ls := hw.ls, ar := hw.ar }
        have hqf : qk < (torn m.sz fates m.fast 0 (m.loose.take j)).length := by rw [hfl.1]; exact hp1
        (repeat (first | (refine his_q rfl rfl (fun K hK => ?_); apply Exists.intro; refine ⟨fun w' hC => ?_, ?_⟩; ((try simp [Sg.upd] at hC); go_simp <;> rfl); go_simp; refine hK _ _ ?_; clear hK K) | (refine his_s rfl (fun K hK => ?_); go_simp; refine hK _ _ ?_; clear hK K)))
        (refine his_l rfl rfl (fun K hK => ?_); go_simp)
        refine (kept_any w6 D' g _ fm pm _ fv' pv hWf h6 qk hqf).mono ?_
        rintro x7 w7 ⟨v7, rfl, ho7, hk7⟩
        refine hK _ _ (fun h => h.trans hk7) ?_
        clear hK K
        have hk47 := hk46.trans hk7
        have hf7 := hfl.2 qk hqf
        have hb7 := ho7.bytes (by rw [hf7]; omega)
        obtain ⟨ka, kc, rfl, hkc, -, hkc2⟩ := hb7.form
        rw [hf7] at hb7 hkc
        obtain ⟨kb, ko, rfl, -, -⟩ := hb7.spot (by rw [hf7]; have := hw.s1; omega)
        have hkn : (0 : Int) ≤ (kc : Int) := by omega
        have ho67 : OwnB w7 (wr.heap.size + 1) 5 v6 (ql.take 0) := (ho6.base (by have := hk5.size; simpa using this)).keep hk7 (by simp)
        have hql : (ql.take 0).length = 0 := by rw [List.length_take, hp2]; omega
        obtain ⟨va6, vc6, rfl, -⟩ := (ho67.bytes (by rw [hql]; omega)).form
        rw [hql] at ho67
        have htl : ((torn m.sz fates m.fast 0 (m.loose.take j))[qk].drop 0).length = m.sz - 0 := by rw [List.length_drop, hf7]
        clear ho7 h6 ho6
        have hcut2 : Bytes w7 (.slice (some ⟨kb, ko, none⟩) m.sz kc) ((torn m.sz fates m.fast 0 (m.loose.take j))[qk].drop 0) := hb7
        (repeat (first | (refine his_q rfl rfl (fun K hK => ?_); apply Exists.intro; refine ⟨fun w' hC => ?_, ?_⟩; ((try simp [Sg.upd] at hC); go_simp <;> rfl); go_simp; refine hK _ _ ?_; clear hK K) | (refine his_s rfl (fun K hK => ?_); go_simp; refine hK _ _ ?_; clear hK K)))
        refine his_l rfl rfl (fun K hK => ?_)
        refine loudly_append (.tmp 50) (.tmp 57) 42 5 rfl (wr.heap.size + 1) Try.underlying42 (by kernel_rfl) (v := .slice va6 0 vc6) (src := .slice (some ⟨kb, ko, none⟩) m.sz kc) rfl rfl ho67 hcut2 (by rw [htl, hql]; omega) (by have := hk47.size; simpa using this) ?_
        intro v8 w8 ho8 hk8
        have hown6 : ∀ b ∈ (Value.slice va6 0 vc6).ownBlock.toList, b ∈ ([] : List Nat) ∨ (wr.alloc (.cells #[.int .i64 (qk : Int), .slice (some ⟨va', vo, none⟩) m.sz vc] 177)).heap.size ≤ b := fun b hb => by
          rw [Option.mem_toList] at hb
          rcases ho67.2 with ⟨h, -⟩ | ⟨g', c', cur, h, hg', -⟩
          · rw [h] at hb; simp [Value.ownBlock] at hb
          · rw [h] at hb
            simp [Value.ownBlock] at hb
            subst hb
            exact .inr (by simpa using hg')
        refine hK _ _ (fun h => h.trans' hk8 hown6) ?_
        clear hK K
        have hk48 := hk47.trans' hk8 hown6
        have h8 := H3.out.keep0 (HA.out.trans hk48)
        obtain ⟨w9, hrun, hM, hk9, hs9⟩ := h8.fast.store Try.underlying3 Try.underlying169 qk hp1 (show m.n ≤ 1000000000 by omega) v8
        have HR := Lib.hid hrun
        clear hrun
        refine his_last rfl (by kernel_rfl) rfl (fun K hK => ?_)
        refine loudly_mapUpdate_run (.tmp 42) (.tmp 45) (.tmp 58) 169 rfl (mv := .map (some fm)) (xv := .int .i64 (qk : Int)) (yv := v8) (w' := w9) rfl rfl rfl HR.out ?_
        refine hK _ _ ?_
        clear hK K q2 qB0 qB1
        refine his_nil ?_
        have ho9 : OwnB w9 0 5 v8 (ql.take 0 ++ (torn m.sz fates m.fast 0 (m.loose.take j))[qk].drop 0) := ownB_move (ho8.base (Nat.zero_le _)) hk9 (NotT.map h8.fast)
        have hbase8 : ∀ b, v8.ownBlock = some b → wr.heap.size ≤ b := fun b hb => by
          rcases ho8.2 with ⟨h, -⟩ | ⟨g', c', cur, h, hg', -⟩
          · rw [h] at hb; simp [Value.ownBlock] at hb
          · rw [h] at hb; simp [Value.ownBlock] at hb; omega
        have hk3 : Keep [] wr w8 := HA.out.trans hk48
        have hk39 : Keep [fm] wr w9 := (hk3.mono (by simp)).trans hk9
        have hD' : ∀ b ∈ D', b ∈ D' ++ newer wr w9 := fun b hb => List.mem_append_left _ hb
        have hin : inD (D' ++ newer wr w9) v8 := fun b hb => List.mem_append_right _ (mem_newer.2 ⟨hbase8 b hb, ownsRow_lt ho9 hb⟩)
        have hnew := (H3.out).fastTurn (m' := { m with fast := torn m.sz fates m.fast 0 (m.loose.take (j + 1)) }) hk39 hD' (fun b hb => by
          rcases List.mem_append.1 hb with h | h
          · exact Nat.lt_of_lt_of_le (H3.out.lt b h) hk39.size
          · exact (mem_newer.1 h).2) hM ho9 hin (by
            rw [torn_succ _ _ _ _ _ _ HLT.out, HQ.out, Nat.zero_add]
            unfold tear
            rw [HN0.out, List.getD_eq_getElem?_getD, List.getElem?_eq_getElem hqf, Option.getD_some])
        have hG : Grew w D (D' ++ newer wr w9) := HG.out.trans (Grew.newer wr w9 D') HK.out.size
        have hKK : Keep D w w9 := keep_bump HK.out hk39 (fun b hb => by
          rw [List.mem_singleton] at hb
          rw [hb]
          exact HG.out.2 _ H3.out.inF)
        clear hin hD' ho9 hk39 hM hk9 hs9 ho8 hk8 h8 hk48 hk47 hk46 hk3 ho67 hbase8 hk7 hk6 hk5
        go_wp2
        go_roundw
        case rel => exact ⟨j + 1, _, _, HLT.out, by go_num, hnew, hG, hKK⟩
        case measure => have := HLT.out; simp [intOf]; omega
    · have h3 := HD.out
      have hr3 := h3.rowD
      have c3 := hr3.c3
      have f3 := hr3.free 3
      have c5 := hr3.c5
      have f5 := hr3.free 5
      have c7 := hr3.c7
      have f7 := hr3.free 7
      have e2 : m.loose.take j = m.loose := List.take_of_length_le (by omega)
      obtain ⟨wf, hwf⟩ : ∃ wf, ((wr.setCell ⟨g, 3, none⟩ (.slice none 0 0)).setCell ⟨g, 5, none⟩ (.int .i64 0)).setCell ⟨g, 7, none⟩ (.bool false) = wf := ⟨_, rfl⟩
      have hks : Keep [g] wr wf := by rw [← hwf]; exact (((Keep.refl _ _).setCell (.inl (by simp)) _).setCell (.inl (by simp)) _).setCell (.inl (by simp)) _
      have hsz : wf.heap.size = wr.heap.size := by rw [← hwf]; simp
      have hrf : RowD wf g (m.crash fates) fm pm (.slice none 0 0) := by
        rw [← hwf]
        have e1 := hr3.set 3 (.slice none 0 0)
        have e2' := heap_setCell_same _ g 5 _ _ (.int .i64 0) e1
        have e3 := heap_setCell_same _ g 7 _ _ (.bool false) e2'
        refine e3.trans ?_
        simp [devCells, Dev.crash]
      have hfin : DevAt wf D' g (m.crash fates) fm pm (.slice none 0 0) fv' pv := by
        rw [e2] at h3
        exact h3.turn2 hks (CellsOf.one h3.row (by decide)) hrf rfl rfl rfl rfl ⟨[], World.ownsRow_nil _ _ _ _, fun b hb => by simp [Value.ownBlock] at hb, rfl, fun i v l h => by simp at h⟩ (fun _ h => h) (fun b hb => by rw [hsz]; exact h3.lt b hb)
      have hKK : Keep D w wf := keep_bump HK.out hks (fun b hb => by
        rw [List.mem_singleton] at hb
        rw [hb]
        exact HG.out.2 _ h3.inG)
      have HF := Lib.hid hfin
      have HKK := Lib.hid hKK
      rw [← hwf] at HF HKK
      clear h3 hr3 hfin hks e2 hrf hsz hKK hwf
      go_wp2
      go_end0
      exact ⟨rfl, D', ⟨hw.crash fates, fm, pm, _, _, _, HF.out⟩, HG.out, HKK.out⟩
end Go.Proofs.Ytjkjiabfhhnngaa
