import Derived.Test.YtijljdcpajjhhaaFlash1
/-! The walks of flash: what a sector holds fast; small questions; a new device. -/
namespace Go.Proofs.Ytijljdcpajjhhaa
open Go.RowKit Sg
set_option linter.unusedSimpArgs false
set_option linter.unusedVariables false

theorem zeroBytes (w : World) : (zeroValue 30).run Try.prog w = .ok (.slice none 0 0) w := by kernel_rfl
theorem zeroRows (w : World) : (zeroValue 50).run Try.prog w = .ok (.slice none 0 0) w := by kernel_rfl
theorem DevAt.rowD {w : World} {D : List Nat} {g : Nat} {m : Dev} {fm pm : Nat} {lv : Value} {fv pv : Nat → Option Value} (h : DevAt w D g m fm pm lv fv pv) : RowD w g m fm pm lv := h.row

set_option maxRecDepth 100000 in
set_option maxHeartbeats 1000000 in
theorem kept_any (w : World) (D : List Nat) (g : Nat) (m : Dev) (fm pm : Nat) (lv : Value) (fv pv : Nat → Option Value) (hw : m.Wf) (h : DevAt w D g m fm pm lv fv pv) (k : Nat) (hk : k < m.fast.length) :
    Calls Try.prog 80 #[.pointer (some ⟨g, 0, none⟩), .int .i64 (k : Int)] w fun e w' => ∃ v, e = .returned v ∧ OwnB w' 0 5 v m.fast[k] ∧ Keep [] w w' := by
  have hkn : k ≤ 1000000000 := by have := hw.fl; have := hw.n2; omega
  have hl := h.fast.look_ok Try.underlying3 Try.underlying147 (zeroBytes w) k hkn
  have c1 := h.rowD.c1
  have c2 := h.rowD.c2
  have hs := h.fasts k hk
  have s2 := hw.s2
  cases hf : fv k with
  | none =>
    rw [hf] at hl hs
    simp only [Option.getD_none, Option.isSome_none] at hl
    have hs' : m.fast[k] = List.replicate m.sz 0 := hs
    rw [hs']
    clear h hs hs' hf
    go_enter Try.func80, Try.ntmps80
    go_wp2_with (refine wpList_make_bytes rfl (.tmp 21) (.tmp 21) 30 5 rfl 0 Try.underlying30 (by kernel_rfl) .i64 .i64 (n := m.sz) rfl rfl (by omega) (Nat.zero_le _) ?_)
    intro w2 ho2 hk2 _
    go_wp2
    go_ret
    exact ⟨_, rfl, ho2, hk2⟩
  | some v =>
    rw [hf] at hl hs
    simp only [Option.getD_some, Option.isSome_some] at hl
    have hs' := hs.1
    clear h hs hf
    go_enter Try.func80, Try.ntmps80
    go_wp2
    go_ret
    exact ⟨_, rfl, hs', Keep.refl _ _⟩

theorem DV.row {w : World} {D : List Nat} {g : Nat} {m : Dev} (h : DV w D g m) : ∃ fm pm lv, RowD w g m fm pm lv := by
  obtain ⟨-, fm, pm, lv, fv, pv, h⟩ := h
  exact ⟨fm, pm, lv, h.row⟩

set_option maxRecDepth 100000 in
set_option maxHeartbeats 1000000 in
theorem sectors_any (w : World) (D : List Nat) (g : Nat) (m : Dev) (h : DV w D g m) : Calls Try.prog 89 #[.pointer (some ⟨g, 0, none⟩)] w fun e w' => e = .returned (.int .i64 (m.n : Int)) ∧ w = w' := by
  obtain ⟨fm, pm, lv, hr⟩ := h.row
  have c0 := hr.c0
  clear hr h
  go_enter Try.func89, Try.ntmps89
  go_wp2
  go_ret
  exact ⟨rfl, rfl⟩
set_option maxRecDepth 100000 in
set_option maxHeartbeats 1000000 in
theorem size_dev_any (w : World) (D : List Nat) (g : Nat) (m : Dev) (h : DV w D g m) : Calls Try.prog 79 #[.pointer (some ⟨g, 0, none⟩)] w fun e w' => e = .returned (.int .i64 (m.sz : Int)) ∧ w = w' := by
  obtain ⟨fm, pm, lv, hr⟩ := h.row
  have c1 := hr.c1
  clear hr h
  go_enter Try.func79, Try.ntmps79
  go_wp2
  go_ret
  exact ⟨rfl, rfl⟩
set_option maxRecDepth 100000 in
set_option maxHeartbeats 1000000 in
theorem down_any (w : World) (D : List Nat) (g : Nat) (m : Dev) (h : DV w D g m) : Calls Try.prog 119 #[.pointer (some ⟨g, 0, none⟩)] w fun e w' => e = .returned (.bool m.down) ∧ w = w' := by
  obtain ⟨fm, pm, lv, hr⟩ := h.row
  have c7 := hr.c7
  clear hr h
  go_enter Try.func119, Try.ntmps119
  go_wp2
  go_ret
  exact ⟨rfl, rfl⟩
/-- no block of cells of this type -/
def NotT (w : World) (t : TypeId) (S : List Nat) : Prop := ∀ b ∈ S, ∃ o, w.heap[b]? = some o ∧ ∀ cs fr, o ≠ .cells cs t fr
theorem NotT.row {w : World} {g : Nat} {cs : Array Value} {t e : TypeId} {fr : Nat × Nat} (h : w.heap[g]? = some (.cells cs t fr)) (ht : t ≠ e) : NotT w e [g] := fun b hb => by
  rw [List.mem_singleton] at hb
  subst hb
  exact ⟨_, h, fun cs fr e => by injection e with _ e; exact ht e⟩
theorem NotT.map {w : World} {g : Nat} {e : TypeId} {S : Nat} {f : Nat → Option Value} (h : MapV Try.prog 3 w g S f) : NotT w e [g] := fun b hb => by
  rw [List.mem_singleton] at hb
  subst hb
  obtain ⟨es, c, h⟩ := h.isMapBlock
  exact ⟨_, h, fun cs fr e => by cases e⟩
theorem NotT.nil {w : World} {e : TypeId} : NotT w e [] := fun b hb => by simp at hb
theorem NotT.own {w : World} {base : Nat} {t e : TypeId} {sz n : Nat} {v : Value} {xs : List Value} (h : w.ownsRow base t sz v n xs) (ht : t ≠ e) : NotT w e v.ownBlock.toList := fun b hb => by
  rw [Option.mem_toList] at hb
  obtain ⟨cs, h⟩ := ownsRow_block h hb
  exact ⟨_, h, fun cs fr e => by injection e with _ e; exact ht e⟩
theorem ownsRow_move {w w' : World} {S : List Nat} {base : Nat} {e : TypeId} {sz n : Nat} {v : Value} {xs : List Value} (h : w.ownsRow base e sz v n xs) (k : Keep S w w') (hS : NotT w e S) : w'.ownsRow base e sz v n xs :=
  ownsRow_keep h k fun b hb hm => by
    obtain ⟨cs, h1⟩ := ownsRow_block h hb
    obtain ⟨o, h2, h3⟩ := hS b hm
    rw [h1] at h2
    cases h2
    exact h3 _ _ rfl
theorem SecV.move {w w' : World} {S D D' : List Nat} {sz : Nat} {o : Option Value} {l : List UInt8} (h : SecV w D sz o l) (k : Keep S w w') (hS : NotT w 5 S) (hD : ∀ b ∈ D, b ∈ D') : SecV w' D' sz o l := by
  cases o with
  | none => exact h
  | some v => exact ⟨ownsRow_move h.1 k hS, inD.mono h.2 hD⟩
theorem PastV.move {w w' : World} {S D D' : List Nat} {o : Option Value} {ls : List (List UInt8)} (h : PastV w D o ls) (k : Keep S w w') (hS : NotT w 5 S) (hS2 : NotT w 30 S) (hD : ∀ b ∈ D, b ∈ D') : PastV w' D' o ls := by
  cases o with
  | none => exact h
  | some v =>
    obtain ⟨vs, h1, h2, h3⟩ := h
    exact ⟨vs, ownsRow_move h1 k hS2, inD.mono h2 hD, h3.move k hS hD⟩
theorem LooseV.move {w w' : World} {S D D' : List Nat} {lv : Value} {ls : List (Nat × List UInt8)} (h : LooseV w D lv ls) (k : Keep S w w') (hS : NotT w 5 S) (hS2 : NotT w 156 S) (hD : ∀ b ∈ D, b ∈ D') : LooseV w' D' lv ls := by
  obtain ⟨vs, h1, h2, h3⟩ := h
  exact ⟨vs, ownsRow_move h1 k hS2, inD.mono h2 hD, h3.move k hS hD⟩
theorem LooseV.form {w : World} {D : List Nat} {lv : Value} {ls : List (Nat × List UInt8)} (h : LooseV w D lv ls) : ∃ a c, lv = .slice a ls.length c := by
  obtain ⟨vs, h1, -, -⟩ := h
  rcases h1.2 with ⟨rfl, h0⟩ | ⟨g', cap, cur, rfl, -⟩
  · exact ⟨_, _, by rw [h0]⟩
  · exact ⟨_, _, rfl⟩

/-- the row of a device is written, and nothing else that it looks at -/
theorem DevAt.turn {w w' : World} {D : List Nat} {g : Nat} {m m' : Dev} {fm pm : Nat} {lv lv' : Value} {fv pv : Nat → Option Value} (h : DevAt w D g m fm pm lv fv pv) (k : Keep [g] w w') (hr : RowD w' g m' fm pm lv')
    (e1 : m'.n = m.n) (e2 : m'.sz = m.sz) (e3 : m'.fast = m.fast) (e4 : m'.past = m.past) (hl : LooseV w' D lv' m'.loose) : DevAt w' D g m' fm pm lv' fv pv := by
  have h1 : NotT w 5 [g] := NotT.row h.row (by decide)
  have h2 : NotT w 30 [g] := NotT.row h.row (by decide)
  have hf : fm ∉ [g] := by
    obtain ⟨es, c, hb⟩ := h.fast.isMapBlock
    intro hm
    rw [List.mem_singleton] at hm
    subst hm
    have := h.row
    rw [hb] at this
    cases this
  have hp : pm ∉ [g] := by
    obtain ⟨es, c, hb⟩ := h.past.isMapBlock
    intro hm
    rw [List.mem_singleton] at hm
    subst hm
    have := h.row
    rw [hb] at this
    cases this
  obtain ⟨n, sz, fast, loose, past, armed, acts, down⟩ := m
  obtain ⟨n', sz', fast', loose', past', armed', acts', down'⟩ := m'
  simp only at e1 e2 e3 e4
  subst e1 e2 e3 e4
  exact ⟨hr, h.fast.keep k hf, h.past.keep k hp, fun i hi => (h.fasts i hi).move k h1 (fun _ h => h), fun i hi => (h.pasts i hi).move k h1 h2 (fun _ h => h), h.apart, hl, h.inG, h.inF, h.inP, h.two, fun b hb => Nat.lt_of_lt_of_le (h.lt b hb) k.size⟩

set_option maxRecDepth 100000 in
set_option maxHeartbeats 1000000 in
theorem arm_any (w : World) (D : List Nat) (g : Nat) (m : Dev) (h : DV w D g m) (n : Int) (hn : n ≤ 9223372036854775807) : Calls Try.prog 72 #[.pointer (some ⟨g, 0, none⟩), .int .i64 n] w fun e w' => e = .returned (.tuple #[]) ∧ DV w' D g (m.arm n) ∧ Keep D w w' := by
  obtain ⟨hw, fm, pm, lv, fv, pv, h⟩ := h
  have c5 := h.rowD.c5
  have f5 := h.rowD.free 5
  have hl : LooseV (w.setCell ⟨g, 5, none⟩ (.int .i64 (n.toNat : Int))) D lv (m.arm n).loose := h.loose.move ((Keep.refl [g] w).setCell (.inl (by simp)) _) (NotT.row h.row (by decide)) (NotT.row h.row (by decide)) (fun _ h => h)
  have hr : RowD (w.setCell ⟨g, 5, none⟩ (.int .i64 (n.toNat : Int))) g (m.arm n) fm pm lv := (h.rowD.set 5 (.int .i64 (n.toNat : Int))).trans (by simp [devCells, Dev.arm])
  have hd := h.turn ((Keep.refl [g] w).setCell (.inl (by simp)) _) hr rfl rfl rfl rfl hl
  have hw' : (m.arm n).Wf := { n1 := hw.n1, n2 := hw.n2, s1 := hw.s1, s2 := hw.s2, fl := hw.fl, fs := hw.fs, pl := hw.pl, ps := hw.ps, ll := hw.ll, ls := hw.ls, ar := by simp only [Dev.arm]; omega }
  have hk : Keep D w (w.setCell ⟨g, 5, none⟩ (.int .i64 (n.toNat : Int))) := (Keep.refl D w).setCell (.inl h.inG) _
  have HD := Lib.hid hd
  have HK := Lib.hid hk
  clear h hl hr hd hk
  by_cases h0 : 0 ≤ n
  · have e0 : ((n.toNat : Nat) : Int) = n := by omega
    rw [e0] at HD HK
    go_enter Try.func72, Try.ntmps72
    go_wp2
    go_end0
    exact ⟨rfl, ⟨hw', fm, pm, lv, fv, pv, HD.out⟩, HK.out⟩
  · have e0 : ((n.toNat : Nat) : Int) = 0 := by omega
    rw [e0] at HD HK
    go_enter Try.func72, Try.ntmps72
    go_wp2
    go_end0
    exact ⟨rfl, ⟨hw', fm, pm, lv, fv, pv, HD.out⟩, HK.out⟩
end Go.Proofs.Ytijljdcpajjhhaa
