import Derived.Test.YtjkjiabfhhnngaaStorm12Law
import Derived.Test.YtjkjiabfhhnngaaBegins12
/-! A log on a device that may go down, in memory. -/
namespace Go.Proofs.Ytjkjiabfhhnngaa
open Go.RowKit Sg
set_option linter.unusedSimpArgs false
set_option linter.unusedVariables false

section
variable {l : Dl} {m : Dev} {B : List Bt} {s : Nat} {added : List Ch} {sure : Nat}
theorem Sd.flush (h : Sd l m B s added sure) (hd : m.down = false) (hn : l.nx < 1099511628032) (t : Int) :
    ∃ l' m' r B', dc12.flush l m t = (l', m', r) ∧ Sd l' m' B' s added sure ∧ l'.fr = l.fr ∧ l'.nx ≤ l.nx + 1 ∧ m'.acts ≤ m.acts + 1 ∧
      (((r = 1 ∨ r = 6) ∧ m'.down = false) ∨ (r = 0 ∧ m'.down = false ∧ l'.pend = []) ∨ (r = 4 ∧ m'.down = true)) := by
  unfold Dc.flush
  by_cases h1 : ¬ Tm t
  · rw [if_pos h1]
    exact ⟨l, m, 1, B, rfl, h, rfl, Nat.le_succ _, Nat.le_succ _, .inl ⟨.inl rfl, hd⟩⟩
  rw [if_neg h1]
  by_cases h2 : l.pend = [] ∧ t = (l.tm : Int)
  · rw [if_pos h2]
    exact ⟨l, m, 0, B, rfl, h, rfl, Nat.le_succ _, Nat.le_succ _, .inr (.inl ⟨rfl, hd, h2.1⟩)⟩
  rw [if_neg h2]
  by_cases h3 : dc12.left l = 0
  · rw [if_pos h3]
    exact ⟨l, m, 6, B, rfl, h, rfl, Nat.le_succ _, Nat.le_succ _, .inl ⟨.inr rfl, hd⟩⟩
  rw [if_neg h3]
  have hlt : l.nx < l.fr + 5 := by
    unfold Dc.left at h3
    have : dc12.S = 5 := rfl
    omega
  have ht : t.toNat ≤ 281474976710656 := by unfold Tm at h1; omega
  obtain ⟨m', r, e, hs, ha, hor⟩ := h.wr hd hn hlt ht (p := l.pend) (q := []) (by simp) (by have := h.pl; omega) h.fit.good
  rw [List.append_nil] at hs
  refine ⟨_, m', r, _, e, hs, rfl, Nat.le_refl _, by omega, ?_⟩
  rcases hor with ⟨e, d⟩ | ⟨e, d⟩
  · exact .inr (.inl ⟨e, d, rfl⟩)
  · exact .inr (.inr ⟨e, d⟩)
theorem Sd.add (h : Sd l m B s added sure) (hd : m.down = false) (hn : l.nx < 1099511628032) (x : Ch) (hh : x.hash < 18446744073709551616) (t : Int) :
    ∃ l' m' r B' added', dc12.add l m x t = (l', m', r) ∧ Sd l' m' B' s added' sure ∧ l'.fr = l.fr ∧ l'.nx ≤ l.nx + 1 ∧ m'.acts ≤ m.acts + 1 ∧
      (((r = 1 ∨ r = 6) ∧ m'.down = false ∧ added' = added) ∨ (r = 0 ∧ m'.down = false ∧ added' = added ++ [x]) ∨ (r = 4 ∧ m'.down = true ∧ added' = added ++ [x])) := by
  unfold Dc.add
  by_cases h1 : ¬ x.Right ∨ ¬ Tm t
  · rw [if_pos h1]
    exact ⟨l, m, 1, B, added, rfl, h, rfl, Nat.le_succ _, Nat.le_succ _, .inl ⟨.inl rfl, hd, rfl⟩⟩
  rw [if_neg h1]
  have hxr : x.Right := Classical.byContradiction fun hx => h1 (.inl hx)
  have hTm : Tm t := Classical.byContradiction fun hx => h1 (.inr hx)
  by_cases h3 : dc12.left l = 0
  · rw [if_pos h3]
    exact ⟨l, m, 6, B, added, rfl, h, rfl, Nat.le_succ _, Nat.le_succ _, .inl ⟨.inr rfl, hd, rfl⟩⟩
  rw [if_neg h3]
  have hlt : l.nx < l.fr + 5 := by
    unfold Dc.left at h3
    have : dc12.S = 5 := rfl
    omega
  have hgood : GoodC (l.pend ++ [x]) := by
    refine ⟨fun y hy => ?_, fun y hy => ?_⟩
    · rcases List.mem_append.1 hy with hy | hy
      · exact h.fit.good.r y hy
      · rw [List.mem_singleton.1 hy]; exact hxr
    · rcases List.mem_append.1 hy with hy | hy
      · exact h.fit.good.h y hy
      · rw [List.mem_singleton.1 hy]; exact hh
  have hpl := h.pl
  by_cases h4 : l.pend.length + 1 < dc12.per
  · rw [if_pos h4]
    exact ⟨_, m, 0, B, _, rfl, h.more hgood h4, rfl, Nat.le_succ _, Nat.le_succ _, .inr (.inl ⟨rfl, hd, rfl⟩)⟩
  rw [if_neg h4]
  have ht : t.toNat ≤ 281474976710656 := by unfold Tm at hTm; omega
  obtain ⟨m', r, e, hs, ha, hor⟩ := h.wr hd hn hlt ht (p := l.pend ++ [x]) (q := [x]) rfl (by simp; omega) hgood
  refine ⟨_, m', r, _, _, e, hs, rfl, Nat.le_refl _, by omega, ?_⟩
  rcases hor with ⟨e, d⟩ | ⟨e, d⟩
  · exact .inr (.inl ⟨e, d, rfl⟩)
  · exact .inr (.inr ⟨e, d, rfl⟩)
end
/-- a call upon the device of a log -/
theorem DL.dev {w w' : World} {D D' E : List Nat} {gl g : Nat} {c : Dc} {l : Dl} {m m' : Dev} (h : DL w D E gl g c l m) (hd : DV w' D' g m') (hg : Grew w D D') (k : Keep D w w') (hn : m'.n = m.n) (hz : m'.sz = m.sz) : DL w' D' E gl g c l m' := by
  obtain ⟨pv, h⟩ := h
  refine ⟨pv, { dv := hd, row := h.row.keep k (h.apart gl h.gl), own := h.own.keep k (fun b hb => h.apart b (h.inE b hb)), inE := h.inE, gl := h.gl, apart := fun b hb hm => ?_, lt := fun b hb => Nat.lt_of_lt_of_le (h.lt b hb) k.size, ok := h.ok.of hn hz }⟩
  rcases hg.2 b hm with h1 | h1
  · exact h.apart b hb h1
  · have := h.lt b hb; omega

/-- the law's state, in memory: W, the world ahead; the row of what was added -/
structure St12 (W w : World) (gl g : Nat) (l : Dl) (m : Dev) (va : Value) (ra : List Ch) : Prop where
  k : Keep [] W w
  mem : ∃ D E, DL w D E gl g dc12 l m ∧ ∀ b, (b ∈ E ∨ b ∈ D) → W.heap.size ≤ b ∧ va.ownBlock ≠ some b
  row : ARow w W.heap.size va ra
section
variable {W w w' : World} {gl g : Nat} {l l' : Dl} {m m' : Dev} {va va' : Value} {ra : List Ch}
theorem St12.keep (h : St12 W w gl g l m va ra) (k : Keep [] w w') : St12 W w' gl g l m va ra := by
  obtain ⟨D, E, h1, h2⟩ := h.mem
  exact ⟨h.k.trans k, ⟨D, E, h1.keep k (by simp), h2⟩, h.row.keep k (by simp)⟩
theorem St12.lt (h : St12 W w gl g l m va ra) : ∀ b, va.ownBlock = some b → b < w.heap.size := fun b hb => (h.row.lt b hb).2.1
theorem St12.step (h : St12 W w gl g l m va ra) {D E : List Nat} (r2 : ∀ b, (b ∈ E ∨ b ∈ D) → W.heap.size ≤ b ∧ va.ownBlock ≠ some b) (hs : DlStep w D E gl g dc12 l' m' w') : St12 W w' gl g l' m' va ra := by
  obtain ⟨D', E', s1, s2, s3, s4⟩ := hs
  have hnn : ∀ b, b ∈ E ++ D → W.heap.size ≤ b ∧ va.ownBlock ≠ some b := fun b hb => r2 b (List.mem_append.1 hb)
  refine ⟨h.k.trans' s4 (fun b hb => .inr (hnn b hb).1), ⟨D', E', s1, fun b hb => ?_⟩, h.row.keep s4 (fun b hb hm => (hnn b hm).2 hb)⟩
  have hor : (b ∈ E ∨ b ∈ D) ∨ w.heap.size ≤ b := by
    rcases hb with hb | hb
    · exact (s3.2 b hb).elim (fun h => .inl (.inl h)) .inr
    · exact (s2.2 b hb).elim (fun h => .inl (.inr h)) .inr
  rcases hor with h1 | h1
  · exact r2 b h1
  · exact ⟨Nat.le_trans h.k.size h1, fun hm => by have := h.lt b hm; omega⟩
theorem St12.dev (h : St12 W w gl g l m va ra) {D D' E : List Nat} (r1 : DL w D E gl g dc12 l m) (r2 : ∀ b, (b ∈ E ∨ b ∈ D) → W.heap.size ≤ b ∧ va.ownBlock ≠ some b) (hd : DV w' D' g m') (hg : Grew w D D') (k : Keep D w w') (hn : m'.n = m.n) (hz : m'.sz = m.sz) : St12 W w' gl g l m' va ra :=
  h.step r2 ⟨D', E, r1.dev hd hg k hn hz, hg, Grew.refl _ _, k.mono (fun b hb => List.mem_append_right _ hb)⟩
theorem St12.app (h : St12 W w gl g l m va ra) {x : Ch} (ho : ARow w' W.heap.size va' (ra ++ [x])) (k : Keep va.ownBlock.toList w w') (hloc : va'.ownBlock = va.ownBlock ∨ va'.ownBlock = some w.heap.size) : St12 W w' gl g l m va' (ra ++ [x]) := by
  obtain ⟨D, E, h1, h2⟩ := h.mem
  have hlt : ∀ b, (b ∈ E ∨ b ∈ D) → b < w.heap.size := dl_lt h1
  refine ⟨h.k.trans' k (fun b hb => .inr ?_), ⟨D, E, h1.keep k (fun b hb => ⟨fun hm => (h2 b (.inr hm)).2 (by simpa using hb), fun hm => (h2 b (.inl hm)).2 (by simpa using hb)⟩), fun b hb => ⟨(h2 b hb).1, fun hm => ?_⟩⟩, ho⟩
  · exact (h.row.lt b (by simpa using hb)).1
  · rcases hloc with e | e
    · exact (h2 b hb).2 (e ▸ hm)
    · rw [e] at hm
      injection hm with hm
      have := hlt b hb
      omega
theorem St12.nil (h : St12 W w gl g l m va ra) : St12 W w gl g l m (.slice none 0 0) [] := by
  obtain ⟨D, E, h1, h2⟩ := h.mem
  exact ⟨h.k, ⟨D, E, h1, fun b hb => ⟨(h2 b hb).1, by simp [Value.ownBlock]⟩⟩, RowE.nil⟩
/-- the walked calls upon it -/
theorem flush12 (h : St12 W w gl g l m va ra) {B : List Bt} {s sure : Nat} {added : List Ch} (hsd : Sd l m B s added sure) (hd : m.down = false) (ha : m.acts ≤ 1000000000) (hn : l.nx < 1099511628032) (t : Int) :
    ∃ l' m' r B', Sd l' m' B' s added sure ∧ l'.fr = l.fr ∧ l'.nx ≤ l.nx + 1 ∧ m'.acts ≤ m.acts + 1 ∧
      (((r = 1 ∨ r = 6) ∧ m'.down = false) ∨ (r = 0 ∧ m'.down = false ∧ l'.pend = []) ∨ (r = 4 ∧ m'.down = true)) ∧
      Calls Try.prog 78 #[.pointer (some ⟨gl, 0, none⟩), .int .i64 t] w fun e w' => e = .returned (.int .i64 r) ∧ St12 W w' gl g l' m' va ra := by
  obtain ⟨l', m', r, B', e, h1, h2, h3, h4, h5⟩ := hsd.flush hd hn t
  obtain ⟨D, E, r1, r2⟩ := h.mem
  refine ⟨l', m', r, B', h1, h2, h3, h4, h5, (flushDl_any w D E gl g dc12 l m r1 hsd.fit ha hn t).mono ?_⟩
  rintro x w' ⟨rfl, hs⟩
  rw [e] at hs ⊢
  exact ⟨rfl, h.step r2 hs⟩
theorem add12 (h : St12 W w gl g l m va ra) {B : List Bt} {s sure : Nat} {added : List Ch} (hsd : Sd l m B s added sure) (hd : m.down = false) (ha : m.acts ≤ 1000000000) (hn : l.nx < 1099511628032) (x : Ch) (hh : x.hash < 18446744073709551616) (t : Int) :
    ∃ l' m' r B' added', Sd l' m' B' s added' sure ∧ l'.fr = l.fr ∧ l'.nx ≤ l.nx + 1 ∧ m'.acts ≤ m.acts + 1 ∧
      (((r = 1 ∨ r = 6) ∧ m'.down = false ∧ added' = added) ∨ (r = 0 ∧ m'.down = false ∧ added' = added ++ [x]) ∨ (r = 4 ∧ m'.down = true ∧ added' = added ++ [x])) ∧
      ∃ S, (∀ b ∈ S, W.heap.size ≤ b ∧ b < w.heap.size ∧ va.ownBlock ≠ some b) ∧ ∀ w2, Keep [] w w2 → Calls Try.prog 81 #[.pointer (some ⟨gl, 0, none⟩), x.v, .int .i64 t] w2 fun e w' => e = .returned (.int .i64 r) ∧ St12 W w' gl g l' m' va ra ∧ Keep S w2 w' := by
  obtain ⟨l', m', r, B', added', e, h1, h2, h3, h4, h5⟩ := hsd.add hd hn x hh t
  obtain ⟨D, E, r1, r2⟩ := h.mem
  refine ⟨l', m', r, B', added', h1, h2, h3, h4, h5, E ++ D, fun b hb => ?_, fun w2 k2 => (addDl_any w2 D E gl g dc12 l m (r1.keep k2 (by simp)) hsd.fit hsd.pl ha hn x hh t).mono ?_⟩
  · have hb' := List.mem_append.1 hb
    exact ⟨(r2 b hb').1, dl_lt r1 b hb', (r2 b hb').2⟩
  rintro x w' ⟨rfl, hs⟩
  rw [e] at hs ⊢
  exact ⟨rfl, (h.keep k2).step r2 hs, hs.choose_spec.choose_spec.2.2.2⟩
theorem sync12 (h : St12 W w gl g l m va ra) (ha : m.acts ≤ 1000000000) (hn : m.sync.1.n = m.n) (hz : m.sync.1.sz = m.sz) :
    Calls Try.prog 19 #[.pointer (some ⟨g, 0, none⟩)] w fun e w' => e = .returned (.int .i64 (m.sync.2 : Int)) ∧ St12 W w' gl g l m.sync.1 va ra := by
  obtain ⟨D, E, r1, r2⟩ := h.mem
  obtain ⟨pv, r1'⟩ := id r1
  refine (sync_any w D g m r1'.dv ha).mono ?_
  rintro x w' ⟨rfl, D', h1, h2, h3⟩
  exact ⟨rfl, h.dev r1 r2 h1 h2 h3 hn hz⟩
theorem down12 (h : St12 W w gl g l m va ra) : Calls Try.prog 31 #[.pointer (some ⟨g, 0, none⟩)] w fun e w' => e = .returned (.bool m.down) ∧ w = w' := by
  obtain ⟨D, E, ⟨pv, r1⟩, r2⟩ := h.mem
  exact down_any w D g m r1.dv
theorem next12 (h : St12 W w gl g l m va ra) : Calls Try.prog 80 #[.pointer (some ⟨gl, 0, none⟩)] w fun e w' => e = .returned (.int .i64 (l.nx : Int)) ∧ w = w' := by
  obtain ⟨D, E, ⟨pv, r1⟩, r2⟩ := h.mem
  exact nextD_any r1.row
theorem restart12 (h : St12 W w gl g l m va ra) : Calls Try.prog 79 #[.pointer (some ⟨gl, 0, none⟩)] w fun e w' => e = .returned (.tuple #[]) ∧ St12 W w' gl g ⟨l.nx, l.nx, l.tm, []⟩ m va ra := by
  obtain ⟨D, E, r1, r2⟩ := h.mem
  obtain ⟨pv, r1'⟩ := id r1
  refine (restartD_any r1'.row).mono ?_
  rintro e w' ⟨rfl, hr, hk⟩
  exact ⟨rfl, h.step r2 ⟨D, E, ⟨_, r1'.turn hk (fun b hb => .inl (by simpa using hb)) hr RowE.nil (fun b hb => hb) (fun b hb => .inl hb) (fun b hb => by simp [Value.ownBlock] at hb)⟩, Grew.refl _ _, Grew.refl _ _, hk.mono (fun b hb => by rw [List.mem_singleton] at hb; subst hb; exact List.mem_append_left _ r1'.gl)⟩⟩
end
theorem sync_same (m : Dev) : m.sync.1.n = m.n ∧ m.sync.1.sz = m.sz := by
  unfold Dev.sync
  split
  · exact ⟨rfl, rfl⟩
  · split <;> exact ⟨rfl, rfl⟩
theorem kind6 (k : Int) : ∃ t r : Int, k.tmod 6 = t ∧ IntKind.i64.wrap t = t ∧ IntKind.i64.wrap (t + 6) = t + 6 ∧ (t + 6).tmod 6 = r ∧ IntKind.i64.wrap r = r ∧ 0 ≤ r ∧ r ≤ 5 := by
  have h1 : -6 < k.tmod 6 := by
    have := Int.lt_tmod_of_pos k (b := 6) (by decide)
    simpa using this
  have h2 : k.tmod 6 < 6 := Int.tmod_lt_of_pos k (by decide)
  have h3 : (k.tmod 6 + 6).tmod 6 = (k.tmod 6 + 6) % 6 := Int.tmod_eq_emod_of_nonneg (by omega)
  refine ⟨_, _, rfl, i64_wrap (by omega) (by omega), i64_wrap (by omega) (by omega), rfl, i64_wrap (by omega) (by omega), by omega, by omega⟩
end Go.Proofs.Ytjkjiabfhhnngaa
