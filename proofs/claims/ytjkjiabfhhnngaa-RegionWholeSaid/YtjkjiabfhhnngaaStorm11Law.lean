import Derived.Test.YtjkjiabfhhnngaaStormDev
/-! What a crash leaves of a region's log: the plain law. -/
namespace Go.Proofs.Ytjkjiabfhhnngaa
open Go.RowKit Sg
set_option linter.unusedSimpArgs false
set_option linter.unusedVariables false

/-! ### a device that may go down, beside one that does not -/
def _root_.Sg.Dev.calm (m : Dev) : Dev := { m with armed := 0, down := false }
/-- what m' has is what m has, and more -/
structure Pre (m m' : Dev) : Prop where
  n : m.n = m'.n
  sz : m.sz = m'.sz
  fast : m.fast = m'.fast
  loose : ∃ t, m'.loose = m.loose ++ t
  past : ∀ k y, y ∈ m.past.getD k [] → y ∈ m'.past.getD k []
  acts : m.acts ≤ m'.acts
theorem Pre.refl (m : Dev) : Pre m m := ⟨rfl, rfl, rfl, ⟨[], by simp⟩, fun _ _ h => h, Nat.le_refl _⟩
theorem Pre.trans {a b c : Dev} (h : Pre a b) (k : Pre b c) : Pre a c := by
  obtain ⟨t, ht⟩ := h.loose
  obtain ⟨u, hu⟩ := k.loose
  exact ⟨h.n.trans k.n, h.sz.trans k.sz, h.fast.trans k.fast, ⟨t ++ u, by rw [hu, ht, List.append_assoc]⟩, fun q y hy => k.past q y (h.past q y hy), Nat.le_trans h.acts k.acts⟩
theorem Pre.calm (m : Dev) : Pre m m.calm := ⟨rfl, rfl, rfl, ⟨[], by simp [Dev.calm]⟩, fun _ _ h => h, Nat.le_refl _⟩
theorem Pre.write (m : Dev) (k : Nat) (b : List UInt8) : Pre m (m.write k b) := by
  refine ⟨rfl, rfl, rfl, ⟨[(k, b)], rfl⟩, fun q y hy => ?_, Nat.le_succ _⟩
  have e : (m.write k b).past = m.past.modify k (· ++ [b]) := rfl
  rw [e, List.getD_eq_getElem?_getD, List.getElem?_modify]
  rw [List.getD_eq_getElem?_getD] at hy
  cases hp : m.past[q]? with
  | none => rw [hp] at hy; simp at hy
  | some l =>
    rw [hp] at hy
    by_cases hkq : k = q
    · simp [hkq] at hy ⊢
      exact .inl hy
    · simp [hkq] at hy ⊢
      exact hy
theorem Pre.ofPut (m : Dev) (a : Int) (b : List UInt8) : Pre m (m.put a b).1 := by
  unfold Dev.put
  split
  · exact Pre.refl _
  · split
    · exact Pre.refl _
    · exact Pre.write _ _ _
theorem Pre.ofLput (m : Dev) (a k p s : Int) (b : List UInt8) : Pre m (lput m a k p s b).1 := by
  unfold lput
  split
  · exact Pre.refl _
  · exact Pre.ofPut _ _ _
theorem calm_write (m : Dev) (k : Nat) (b : List UInt8) : (m.write k b).calm = m.calm.write k b := by
  simp [Dev.calm, Dev.write, Dev.act]
theorem put_calm {m : Dev} (hd : m.down = false) (a : Int) (b : List UInt8) : (m.put a b).1.calm = (m.calm.put a b).1 ∧ (((m.put a b).2 = (m.calm.put a b).2 ∧ (m.put a b).1.down = false) ∨ ((m.put a b).2 = 4 ∧ (m.put a b).1.down = true)) := by
  have hr : m.calm.ready a = m.ready a := by unfold Dev.ready Dev.calm; simp [hd]
  unfold Dev.put
  rw [hr]
  split
  · exact ⟨rfl, .inl ⟨rfl, hd⟩⟩
  · split
    · next h1 h2 =>
      rw [if_pos (show b.length ≠ m.calm.sz from h2)]
      exact ⟨rfl, .inl ⟨rfl, hd⟩⟩
    · next h1 h2 =>
      rw [if_neg (show ¬ b.length ≠ m.calm.sz from h2)]
      refine ⟨calm_write _ _ _, ?_⟩
      have e : m.calm.act.down = false := rfl
      by_cases h : m.act.down = true
      · exact .inr ⟨by simp only [h]; rfl, h⟩
      · exact .inl ⟨by simp [h, e], by show m.act.down = false; simpa using h⟩
theorem lput_calm {m : Dev} (hd : m.down = false) (a k p s : Int) (b : List UInt8) : (lput m a k p s b).1.calm = (lput m.calm a k p s b).1 ∧ (((lput m a k p s b).2 = (lput m.calm a k p s b).2 ∧ (lput m a k p s b).1.down = false) ∨ ((lput m a k p s b).2 = 4 ∧ (lput m a k p s b).1.down = true)) := by
  unfold lput
  have e : (m.calm.sz : Int) = m.sz := rfl
  have e2 : m.calm.sz = m.sz := rfl
  rw [e, e2]
  split
  · exact ⟨rfl, .inl ⟨rfl, hd⟩⟩
  · obtain ⟨h1, h2⟩ := put_calm hd a (lbuild m.sz k.toNat p.toNat s.toNat b)
    refine ⟨h1, ?_⟩
    rcases h2 with ⟨h2, h3⟩ | ⟨h2, h3⟩
    · exact .inl ⟨by simp only [h2], h3⟩
    · exact .inr ⟨by simp only [h2]; rfl, h3⟩
/-- a step upon a device beside that upon a calm one -/
def Out (R Rc : Lg × Dev × Int) : Prop := (R.1 = Rc.1 ∧ R.2.1.calm = Rc.2.1 ∧ R.2.2 = Rc.2.2 ∧ R.2.1.down = false) ∨ (R.2.2 = 4 ∧ R.2.1.down = true ∧ Pre R.2.1 Rc.2.1)
theorem Pre.of_calm {m m' : Dev} (h : m.calm = m') : Pre m m' := by
  rw [← h]
  exact Pre.calm m
theorem wr_out {c : Lc} {m : Dev} (l : Lg) (hd : m.down = false) : Out (c.wr l m) (c.wr l m.calm) := by
  obtain ⟨h1, h2⟩ := lput_calm hd ((c.base + c.sec l.last ((l.at_ - 1) / c.rm) : Nat) : Int) 3 ((c.sec l.last ((l.at_ - 1) / c.rm) : Nat) : Int) (l.last : Int) l.pend
  rcases h2 with ⟨h2, h3⟩ | ⟨h2, h3⟩
  · exact .inl ⟨rfl, h1, h2, h3⟩
  · exact .inr ⟨h2, h3, Pre.of_calm h1⟩
theorem wr_pre (c : Lc) (l : Lg) (m : Dev) : Pre m (c.wr l m).2.1 := Pre.ofLput _ _ _ _ _ _
theorem flush_pre (c : Lc) (l : Lg) (m : Dev) : Pre m (c.flush l m).2.1 := by
  unfold Lc.flush
  split
  · exact Pre.refl _
  · exact wr_pre _ _ _
theorem begin_pre (c : Lc) (l : Lg) (m : Dev) : Pre m (c.begin_ l m).2.1 := by
  unfold Lc.begin_
  split
  · exact flush_pre _ _ _
  · exact flush_pre _ _ _
theorem app_pre (c : Lc) : ∀ (f : Nat) (l : Lg) (m : Dev) (b : List UInt8), Pre m (c.app f l m b).2.1
  | 0, l, m, b => Pre.refl _
  | f + 1, l, m, b => by
    unfold Lc.app
    split
    · exact Pre.refl _
    · split
      · exact Pre.refl _
      · split
        · exact wr_pre _ _ _
        · exact (wr_pre _ _ _).trans (app_pre c f _ _ _)
theorem flush_out {c : Lc} {m : Dev} (l : Lg) (hd : m.down = false) : Out (c.flush l m) (c.flush l m.calm) := by
  unfold Lc.flush
  split
  · exact .inl ⟨rfl, rfl, rfl, hd⟩
  · exact wr_out _ hd
theorem begin_out {c : Lc} {m : Dev} (l : Lg) (hd : m.down = false) : Out (c.begin_ l m) (c.begin_ l m.calm) := by
  unfold Lc.begin_
  rcases flush_out (c := c) l hd with ⟨h1, h2, h3, h4⟩ | ⟨h1, h2, h3⟩
  · rw [h1, h3]
    split
    · exact .inl ⟨h1, h2, h3, h4⟩
    · exact .inl ⟨rfl, h2, rfl, h4⟩
  · rw [if_pos (show (c.flush l m).2.2 ≠ 0 by rw [h1]; decide)]
    refine .inr ⟨h1, h2, ?_⟩
    split
    · exact h3
    · exact h3
theorem app_out {c : Lc} : ∀ (f : Nat) (l : Lg) (m : Dev) (b : List UInt8), m.down = false → Out (c.app f l m b) (c.app f l m.calm b)
  | 0, l, m, b, hd => .inl ⟨rfl, rfl, rfl, hd⟩
  | f + 1, l, m, b, hd => by
    unfold Lc.app
    split
    · exact .inl ⟨rfl, rfl, rfl, hd⟩
    · split
      · exact .inl ⟨rfl, rfl, rfl, hd⟩
      · rcases wr_out (c := c) (c.more l b) hd with ⟨h1, h2, h3, h4⟩ | ⟨h1, h2, h3⟩
        · rw [h3]
          split
          · exact .inl ⟨h1, h2, h3, h4⟩
          · have := app_out (c := c) f (c.wr (c.more l b) m).1 (c.wr (c.more l b) m).2.1 (b.drop (min b.length (c.rm - l.pend.length))) h4
            rw [h2] at this
            rw [← h1]
            exact this
        · rw [if_pos (show (c.wr (c.more l b) m).2.2 ≠ 0 by rw [h1]; decide)]
          refine .inr ⟨h1, h2, ?_⟩
          split
          · exact h3
          · exact h3.trans (app_pre c f _ _ _)
def Out4 (R Rc : Lg × Dev × (Nat × Nat × Nat) × Int) : Prop := (R.1 = Rc.1 ∧ R.2.1.calm = Rc.2.1 ∧ R.2.2 = Rc.2.2 ∧ R.2.1.down = false) ∨ (R.2.2.2 = 4 ∧ R.2.1.down = true ∧ Pre R.2.1 Rc.2.1)
theorem append_out {c : Lc} {m : Dev} (l : Lg) (b : List UInt8) (hd : m.down = false) : Out4 (c.append l m b) (c.append l m.calm b) := by
  unfold Lc.append
  split
  · exact .inl ⟨rfl, rfl, rfl, hd⟩
  · split
    · exact .inl ⟨rfl, rfl, rfl, hd⟩
    · have hf : Out (c.first l m b.length) (c.first l m.calm b.length) := by
        unfold Lc.first
        split
        · exact begin_out _ hd
        · exact .inl ⟨rfl, rfl, rfl, hd⟩
      unfold Lc.tail
      rcases hf with ⟨h1, h2, h3, h4⟩ | ⟨h1, h2, h3⟩
      · rw [h3]
        split
        · exact .inl ⟨h1, h2, rfl, h4⟩
        · have ha := app_out (c := c) b.length (c.first l m b.length).1 (c.first l m b.length).2.1 b h4
          rw [h2, h1] at ha
          rw [h1]
          rcases ha with ⟨a1, a2, a3, a4⟩ | ⟨a1, a2, a3⟩
          · rw [a3]
            split
            · exact .inl ⟨a1, a2, rfl, a4⟩
            · exact .inl ⟨a1, a2, rfl, a4⟩
          · rw [if_pos (show (c.app b.length (c.first l m.calm b.length).1 (c.first l m b.length).2.1 b).2.2 ≠ 0 by rw [a1]; decide)]
            refine .inr ⟨a1, a2, ?_⟩
            split
            · exact a3
            · exact a3
      · rw [if_pos (show (c.first l m b.length).2.2 ≠ 0 by rw [h1]; decide)]
        refine .inr ⟨h1, h2, ?_⟩
        split
        · exact h3
        · split
          · exact h3.trans (app_pre c _ _ _ _)
          · exact h3.trans (app_pre c _ _ _ _)

/-! ### what was written, and when -/
/-- past: chunks of F alone; loose: chunks since the last sync, s0 and Fs being what was then -/
structure Sr (c : Lc) (last : Nat) (m : Dev) (F : Nat → List (List UInt8)) (s0 : Nat) (Fs : Nat → List (List UInt8)) : Prop where
  ps : ∀ k y, y ∈ m.past.getD k [] → ∃ s j, ∃ h : j < (F s).length, k = c.base + c.sec s j ∧ y = lbuild m.sz 3 (c.sec s j) s ((F s)[j])
  lo : ∀ w ∈ m.loose, ∃ s j, s0 ≤ s ∧ s ≤ last ∧ (s = s0 → (Fs s0).length ≤ j) ∧ j < c.S ∧ w.1 = c.base + c.sec s j
  fa : ∀ q i (h : i < (Fs q).length), s0 < q + c.R → m.fast.getD (c.base + c.sec q i) [] = lbuild m.sz 3 (c.sec q i) q ((Fs q)[i])
  pre : ∀ q, Fs q <+: F q
  fb : ∀ q, s0 < q → Fs q = []
  sl : s0 ≤ last
section
variable {c : Lc} {last s0 : Nat} {m : Dev} {F Fs : Nat → List (List UInt8)}
theorem Sr.next (h : Sr c last m F s0 Fs) : Sr c (last + 1) m F s0 Fs :=
  ⟨h.ps, fun w hw => by obtain ⟨s, j, h1, h2, h3⟩ := h.lo w hw; exact ⟨s, j, h1, Nat.le_succ_of_le h2, h3⟩, h.fa, h.pre, h.fb, Nat.le_succ_of_le h.sl⟩
theorem Sr.write (h : Sr c last m F s0 Fs) {b : List UInt8} (hk : (F last).length < c.S) :
    Sr c last (m.write (c.base + c.sec last (F last).length) (lbuild m.sz 3 (c.sec last (F last).length) last b)) (setF F last (F last ++ [b])) s0 Fs := by
  have hp : ∀ s, F s <+: setF F last (F last ++ [b]) s := fun s => by
    by_cases e : s = last
    · subst e; rw [setF_self]; exact List.prefix_append _ _
    · rw [setF_ne _ _ e]; exact List.prefix_refl _
  refine ⟨fun k y hy => ?_, fun w hw => ?_, h.fa, fun q => (h.pre q).trans (hp q), h.fb, h.sl⟩
  · rcases past_write m _ _ _ y hy with hy | ⟨e, rfl⟩
    · obtain ⟨s, j, hj, e1, e2⟩ := h.ps k y hy
      have hj2 := Nat.lt_of_lt_of_le hj (hp s).length_le
      refine ⟨s, j, hj2, e1, ?_⟩
      rw [e2]
      congr 1
      exact (hp s).getElem hj
    · refine ⟨last, (F last).length, by rw [setF_self]; simp, e.symm, ?_⟩
      have hs : (setF F last (F last ++ [b]) last)[(F last).length]'(by rw [setF_self]; simp) = b := by simp only [setF_self]; simp
      rw [hs]
      rfl
  · rcases List.mem_append.1 hw with hw | hw
    · exact h.lo w hw
    · rw [List.mem_singleton.1 hw]
      exact ⟨last, (F last).length, h.sl, Nat.le_refl _, fun e => by rw [← e]; exact (h.pre last).length_le, hk, rfl⟩
theorem Sr.sync (h : Sr c last m F s0 Fs) (hw : m.Wf) (hc : RgCore c last m F) : Sr c last m.synced F last F := by
  refine ⟨h.ps, fun w hw => by simp [Dev.synced] at hw, fun q i hi hq => ?_, fun q => List.prefix_refl _, hc.beyond, Nat.le_refl _⟩
  rw [(synced_get hw _).2]
  exact hc.there q i hi hq
theorem Sr.calm (h : Sr c last m F s0 Fs) : Sr c last m.calm F s0 Fs := ⟨h.ps, h.lo, h.fa, h.pre, h.fb, h.sl⟩
end
theorem wr_law2 {c : Lc} {l : Lg} {m : Dev} {F : Nat → List (List UInt8)} {s0 : Nat} {Fs : Nat → List (List UInt8)} (h : RgCore c l.last m F ∧ Sr c l.last m F s0 Fs) (h1 : 1 ≤ l.last) (hb : l.pend.length = c.rm) (hat : l.at_ = (F l.last).length * c.rm + c.rm) (hk : (F l.last).length < c.S) :
    ∃ m', c.wr l m = ({ l with pend := [] }, m', 0) ∧ (RgCore c l.last m' (setF F l.last (F l.last ++ [l.pend])) ∧ Sr c l.last m' (setF F l.last (F l.last ++ [l.pend])) s0 Fs) ∧ m'.acts = m.acts + 1 := by
  have hj : (l.at_ - 1) / c.rm = (F l.last).length := by rw [hat]; exact div_full (by have := h.1.ok.m1; omega)
  obtain ⟨e1, e2⟩ := h.1.write h1 hb hk
  refine ⟨_, ?_, ⟨e2, h.2.write hk⟩, rfl⟩
  unfold Lc.wr
  rw [hj, e1]

/-- bytes are added behind -/
theorem app_law2 {c : Lc} {s0 : Nat} {Fs : Nat → List (List UInt8)} : ∀ (f : Nat) (l : Lg) (m : Dev) (F : Nat → List (List UInt8)) (b : List UInt8), (RgCore c l.last m F ∧ Sr c l.last m F s0 Fs) → 1 ≤ l.last → l.at_ = (F l.last).length * c.rm + l.pend.length → l.pend.length < c.rm → l.at_ + b.length ≤ c.S * c.rm → b.length ≤ f →
    ∃ (l' : Lg) (m' : Dev) (F' : Nat → List (List UInt8)), c.app f l m b = (l', m', 0) ∧ (RgCore c l'.last m' F' ∧ Sr c l'.last m' F' s0 Fs) ∧ l'.last = l.last ∧ (∀ q, q ≠ l.last → F' q = F q) ∧ (F' l.last).flatten ++ l'.pend = (F l.last).flatten ++ l.pend ++ b ∧
      l'.at_ = (F' l.last).length * c.rm + l'.pend.length ∧ l'.pend.length < c.rm ∧ l'.at_ = l.at_ + b.length ∧ m'.acts ≤ m.acts + b.length
  | 0, l, m, F, b, h, h1, h2, h3, h4, h5 => by
    have e : b = [] := List.eq_nil_of_length_eq_zero (by omega)
    subst e
    exact ⟨l, m, F, rfl, h, rfl, fun _ _ => rfl, by simp, h2, h3, by simp, by simp⟩
  | f + 1, l, m, F, b, h, h1, h2, h3, h4, h5 => by
    by_cases hb : b = []
    · subst hb
      exact ⟨l, m, F, app_nil _ _ _ _, h, rfl, fun _ _ => rfl, by simp, h2, h3, by simp, by simp⟩
    have hb0 : 0 < b.length := List.length_pos_iff.2 hb
    rw [app_step c f l m b hb]
    have hml := more_len c l b
    by_cases hp : (c.more l b).pend.length < c.rm
    · rw [if_pos hp]
      have hk : min b.length (c.rm - l.pend.length) = b.length := by omega
      have hall : c.more l b = { l with at_ := l.at_ + b.length, pend := l.pend ++ b } := by
        unfold Lc.more
        rw [hk, List.take_length]
      rw [hall]
      refine ⟨_, m, F, rfl, h, rfl, fun _ _ => rfl, by simp, ?_, ?_, rfl, by omega⟩
      · simp; omega
      · rw [hall] at hp; exact hp
    · rw [if_neg hp]
      obtain ⟨k, hk⟩ : ∃ k, min b.length (c.rm - l.pend.length) = k := ⟨_, rfl⟩
      rw [hk] at hml ⊢
      have hk2 : l.pend.length + k = c.rm := by omega
      have hk3 : k ≤ b.length := by omega
      have hk4 : 1 ≤ k := by omega
      have hmo : c.more l b = { l with at_ := l.at_ + k, pend := l.pend ++ b.take k } := by
        unfold Lc.more
        rw [hk]
      have hS : (F l.last).length < c.S := by
        have h6 : (F l.last).length * c.rm + c.rm ≤ c.S * c.rm := by omega
        have h7 : ((F l.last).length + 1) * c.rm ≤ c.S * c.rm := by rw [Nat.add_mul, Nat.one_mul]; exact h6
        exact Nat.le_of_mul_le_mul_right h7 (by omega)
      rw [hmo]
      have hpl : (l.pend ++ b.take k).length = c.rm := by simp; omega
      obtain ⟨m1, e1, e2, e3⟩ := wr_law2 (c := c) (l := { l with at_ := l.at_ + k, pend := l.pend ++ b.take k }) (m := m) (F := F) h h1 hpl (by simp only; omega) hS
      rw [e1]
      rw [if_neg (by simp)]
      have hlen : ((setF F l.last (F l.last ++ [l.pend ++ b.take k])) l.last).length = (F l.last).length + 1 := by rw [setF_self]; simp
      obtain ⟨l', m', F', r1, r2, r3, r4, r5, r6, r7, r8, r9⟩ := app_law2 f { l with at_ := l.at_ + k, pend := [] } m1 _ (b.drop k) e2 h1 (by simp only; rw [hlen, Nat.add_mul]; simp; omega) (by simp; omega) (by simp; omega) (by simp; omega)
      refine ⟨l', m', F', r1, r2, r3, fun q hq => ?_, ?_, r6, r7, ?_, ?_⟩
      · rw [r4 q hq, setF_ne _ _ hq]
      · simp only at r5
        rw [r5, setF_self]
        simp
      · rw [r8]; simp; omega
      · simp at r9; omega


section
variable {c : Lc} {l : Lg} {m : Dev} {F : Nat → List (List UInt8)} {s0 : Nat} {Fs : Nat → List (List UInt8)}
/-- a flush -/
theorem flush_law2 (h : RgInv c l m F) (hs : Sr c l.last m F s0 Fs) : ∃ (l' : Lg) (m' : Dev) (F' : Nat → List (List UInt8)) (z : Nat), c.flush l m = (l', m', 0) ∧ (RgInv c l' m' F' ∧ Sr c l'.last m' F' s0 Fs) ∧ l'.last = l.last ∧ l'.pend = [] ∧ l'.at_ = l.at_ + z ∧ z < c.rm ∧ l'.at_ % c.rm = 0 ∧ (l.pend = [] → z = 0) ∧
    m'.acts ≤ m.acts + 1 ∧ (∀ q, q ≠ l.last → F' q = F q) ∧ cont F' l' l.last = cont F l l.last ++ List.replicate z 0 := by
  by_cases hp : l.pend = []
  · refine ⟨l, m, F, 0, ?_, ⟨h, hs⟩, rfl, hp, rfl, by have := h.rm; omega, ?_, fun _ => rfl, by omega, fun _ _ => rfl, by simp⟩
    · unfold Lc.flush
      rw [if_pos hp]
    · have := h.fit.pend
      rw [hp] at this
      exact this.symm
  · obtain ⟨f1, f2, f3, f4, f5⟩ := h.fit.fill h.core.ok hp
    obtain ⟨g1, g2⟩ := h.full hp
    have hpos : l.at_ = (F l.last).length * c.rm + l.pend.length := by
      rcases h.pos with ⟨-, e, -⟩ | ⟨-, e⟩
      · exact e
      · exact absurd e hp
    have hat : (c.fill l).at_ = l.at_ + (c.rm - l.pend.length) := rfl
    obtain ⟨m', e1, e2, e3⟩ := wr_law2 (c := c) (l := c.fill l) (m := m) (F := F) (s0 := s0) (Fs := Fs) ⟨h.core, hs⟩ g2 f3 (by rw [hat, show (c.fill l).last = l.last from rfl]; omega) g1
    have e2' : RgCore c l.last m' (setF F l.last (F l.last ++ [(c.fill l).pend])) := e2.1
    have e2s : Sr c l.last m' (setF F l.last (F l.last ++ [(c.fill l).pend])) s0 Fs := e2.2
    refine ⟨{ c.fill l with pend := [] }, m', _, c.rm - l.pend.length, ?_, ⟨{ core := e2', pos := .inl ⟨g2, ?_, by have := h.rm; simp; omega⟩, atl := f1 }, e2s⟩, rfl, rfl, rfl, ?_, f5, fun h => absurd h hp, by omega, fun q hq => setF_ne _ _ hq, ?_⟩
    · unfold Lc.flush
      rw [if_neg hp, e1]
    · show (c.fill l).at_ = (setF F l.last (F l.last ++ [(c.fill l).pend]) l.last).length * c.rm + 0
      rw [setF_self, hat, List.length_append, Nat.add_mul]
      simp
      omega
    · have := List.length_pos_iff.2 hp
      omega
    · unfold cont
      rw [setF_self]
      simp [Lc.fill]

/-- an append -/
theorem append_law2 (h : RgInv c l m F) (hs : Sr c l.last m F s0 Fs) (hl : l.last < 4398046511104) (b : List UInt8) (hb0 : 1 ≤ b.length) (hb : b.length ≤ c.S * c.rm) :
    ∃ (l' : Lg) (m' : Dev) (F' : Nat → List (List UInt8)) (a : Nat), c.append l m b = (l', m', (l'.last, a, b.length), 0) ∧ (RgInv c l' m' F' ∧ Sr c l'.last m' F' s0 Fs) ∧
      ((c.S * c.rm < l.at_ + b.length ∧ l'.last = l.last + 1 ∧ a = 0) ∨ (l.at_ + b.length ≤ c.S * c.rm ∧ l'.last = l.last ∧ a = l.at_ ∧ 1 ≤ l.last)) ∧ l'.at_ = a + b.length ∧ m'.acts ≤ m.acts + 1 + b.length ∧
      (cont F' l' l'.last).length = a + b.length ∧ (cont F' l' l'.last).drop a = b ∧ (∀ q, q ≤ l.last → cont F l q <+: cont F' l' q) ∧ (∀ q, q < l.last → cont F' l' q = cont F l q) ∧
      (l'.last = l.last → cont F' l' l.last = cont F l l.last ++ b) ∧ (l'.last = l.last + 1 → cont F' l' l'.last = b ∧ ∃ z, cont F' l' l.last = cont F l l.last ++ List.replicate z 0) := by
  have hrm := h.rm
  have e0 : c.append l m b = c.tail (c.first l m b.length) b := by unfold Lc.append; rw [if_neg (by omega), if_neg (by omega)]
  rw [e0]
  by_cases hq : c.S * c.rm < l.at_ + b.length
  · obtain ⟨l1, m1, F1, z, e1, ⟨i1, is⟩, i2, i3, i4, i5, i6, i7, i8, i9, i10⟩ := flush_law2 h hs
    have ef : c.first l m b.length = ({ last := l1.last + 1, at_ := 0, pend := l1.pend }, m1, 0) := by
      unfold Lc.first
      rw [if_pos hq]
      unfold Lc.begin_
      rw [e1, if_neg (by simp)]
    rw [ef]
    have hnew : F1 (l1.last + 1) = [] := i1.core.beyond _ (by omega)
    obtain ⟨l', m', F', r1, r2, r3, r4, r5, r6, r7, r8, r9⟩ := app_law2 (s0 := s0) (Fs := Fs) b.length { last := l1.last + 1, at_ := 0, pend := l1.pend } m1 F1 b ⟨i1.core.next (by omega), is.next⟩ (by simp) (by simp only; rw [hnew, i3]; simp) (by simp only; rw [i3]; simp; omega) (by simp only; omega) (Nat.le_refl _)
    simp only at r1 r2 r3 r4 r5 r6 r7 r8 r9
    have hc1 : cont F' l' l'.last = b := by
      unfold cont
      rw [if_pos rfl, r3, r5, hnew, i3]
      simp
    have hlow : ∀ q, q ≤ l.last → cont F' l' q = cont F1 l1 q := fun q hq2 => by
      unfold cont
      rw [if_neg (by rw [r3]; omega), r4 q (by omega)]
      by_cases e : q = l1.last
      · rw [if_pos e, i3]
      · rw [if_neg e]
    have hlow2 : ∀ q, q < l.last → cont F' l' q = cont F l q := fun q hq2 => by
      rw [hlow q (by omega)]
      unfold cont
      rw [i9 q (by omega), if_neg (by omega), if_neg (by omega)]
    refine ⟨l', m', F', 0, ?_, ⟨{ core := r2.1, pos := .inl ⟨by omega, by rw [r3]; exact r6, r7⟩, atl := by omega }, r2.2⟩, .inl ⟨hq, by omega, rfl⟩, r8, by omega, by rw [hc1]; simp, by rw [hc1]; rfl, fun q hq2 => ?_, hlow2, fun e => by omega, fun _ => ⟨hc1, z, by rw [hlow _ (Nat.le_refl _), i10]⟩⟩
    · unfold Lc.tail
      rw [if_neg (by simp), r1, if_neg (by simp)]
      simp only
      rw [r3]
    · rcases Nat.lt_or_eq_of_le hq2 with e | e
      · rw [hlow2 q e]; exact List.prefix_refl _
      · subst e
        rw [hlow _ (Nat.le_refl _), i10]
        exact List.prefix_append _ _
  · have ef : c.first l m b.length = (l, m, 0) := by unfold Lc.first; rw [if_neg hq]
    rw [ef]
    have hpos : 1 ≤ l.last ∧ l.at_ = (F l.last).length * c.rm + l.pend.length ∧ l.pend.length < c.rm := by
      rcases h.pos with e | ⟨e, -⟩
      · exact e
      · omega
    obtain ⟨l', m', F', r1, r2, r3, r4, r5, r6, r7, r8, r9⟩ := app_law2 (s0 := s0) (Fs := Fs) b.length l m F b ⟨h.core, hs⟩ hpos.1 hpos.2.1 hpos.2.2 (by omega) (Nat.le_refl _)
    have hc1 : cont F' l' l.last = cont F l l.last ++ b := by
      unfold cont
      rw [if_pos r3.symm, if_pos rfl, r5]
    have hlen : (cont F l l.last).length = l.at_ := by
      unfold cont
      rw [if_pos rfl, List.length_append, flat_len (h.core.fb _)]
      exact hpos.2.1.symm
    have hlow : ∀ q, q < l.last → cont F' l' q = cont F l q := fun q hq2 => by
      unfold cont
      rw [if_neg (by omega), if_neg (by omega), r4 q (by omega)]
    refine ⟨l', m', F', l.at_, ?_, ⟨{ core := r2.1, pos := .inl ⟨by omega, by rw [r3]; exact r6, r7⟩, atl := by omega }, r2.2⟩, .inr ⟨by omega, r3, rfl, hpos.1⟩, r8, by omega, ?_, ?_, fun q hq2 => ?_, hlow, fun _ => hc1, fun e => by omega⟩
    · unfold Lc.tail
      rw [if_neg (by simp), r1, if_neg (by simp)]
      simp only
      rw [r3]
    · rw [r3, hc1, List.length_append, hlen]
    · rw [r3, hc1, List.drop_left' hlen]
    · rcases Nat.lt_or_eq_of_le hq2 with e | e
      · rw [hlow q e]; exact List.prefix_refl _
      · subst e
        rw [hc1]
        exact List.prefix_append _ _

end
/-! ### behind a crash -/
section
variable {c : Lc} {l : Lg} {m μ : Dev} {F Fs : Nat → List (List UInt8)} {s0 : Nat} {fates : List Int}
/-- a sector of a crashed device that is a leaf is a chunk -/
theorem chunk_at (hc : RgCore c l.last μ F) (hs : Sr c l.last μ F s0 Fs) (hp : Pre m μ) (hcl : Clean (m.crash fates)) {n : Nat} (hn : n < c.R * c.S) (ho : LeafOk ((m.crash fates).get (c.base + n))) :
    ∃ s j, ∃ h : j < (F s).length, n = c.sec s j ∧ s ≤ l.last ∧ (m.crash fates).get (c.base + n) = lbuild μ.sz 3 n s ((F s)[j]) := by
  have h1 := crash_past hcl (k := c.base + n) (by rw [hp.n]; exact hc.top hn) ho
  obtain ⟨s, j, hj, e1, e2⟩ := hs.ps _ _ (hp.past _ _ h1)
  have e3 : n = c.sec s j := by omega
  refine ⟨s, j, hj, e3, ?_, by rw [e2, ← e3]⟩
  rcases Nat.lt_or_ge l.last s with h | h
  · rw [hc.beyond s h] at hj; simp at hj
  · exact h
theorem leaf_chunk (hc : RgCore c l.last μ F) {n s : Nat} {b : List UInt8} (hn : n < c.R * c.S) (hb : b.length = c.rm) (hs : s ≤ l.last) :
    lk (lbuild μ.sz 3 n s b) = 3 ∧ lp (lbuild μ.sz 3 n s b) = n ∧ ls (lbuild μ.sz 3 n s b) = s ∧ ll (lbuild μ.sz 3 n s b) = b ∧ LeafOk (lbuild μ.sz 3 n s b) := by
  have hsz := hc.ok.sz
  have hcd : lcode μ.sz 3 n s b.length = 0 := lcode_fine (k := 3) ⟨hc.wf.s1, hc.wf.s2⟩ ⟨by omega, by omega⟩ (hc.low hn) (by omega)
  obtain ⟨e1, e2, e3, e4, e5, e6, e7⟩ := leaf_back μ.sz 3 n s b hcd (by have := hc.lastb; omega)
  exact ⟨e1, e3, e4, e5, e6⟩
theorem crash_up (hp : Pre m μ) (hc : RgCore c l.last μ F) {n : Nat} (hn : n < c.R * c.S) : (m.crash fates).read ((c.base + n : Nat) : Int) = ((m.crash fates).get (c.base + n), 0) :=
  read_up rfl (by show c.base + n < m.n; rw [hp.n]; exact hc.top hn)
/-- what is got of a sector behind a crash -/
theorem got_crash (hc : RgCore c l.last μ F) (hs : Sr c l.last μ F s0 Fs) (hp : Pre m μ) (hcl : Clean (m.crash fates)) {q i : Nat} (hi : i < c.S) :
    c.got (m.crash fates) q i = ([], 13) ∨ ∃ h : i < (F q).length, c.got (m.crash fates) q i = ((F q)[i], 0) := by
  have hn := sec_lt hc.R1 hi (q := q)
  have hr := crash_up (fates := fates) hp hc hn
  unfold Lc.got
  by_cases hg : lgot (m.crash fates) ((c.base + c.sec q i : Nat) : Int) 3 ((c.sec q i : Nat) : Int)
  · rw [if_pos hg]
    have ho : LeafOk ((m.crash fates).get (c.base + c.sec q i)) := by
      have := hg.2.1
      rw [hr] at this
      exact this
    obtain ⟨s, j, hj, e1, e2, e3⟩ := chunk_at hc hs hp hcl hn ho
    obtain ⟨k1, k2, k3, k4, k5⟩ := leaf_chunk hc hn (hc.fb s _ (List.getElem_mem hj)) e2
    rw [hr]
    simp only
    rw [e3, k3, k4]
    by_cases hsq : s = q
    · subst hsq
      rw [if_pos rfl]
      obtain ⟨e4, -⟩ := sec_inj hi (Nat.lt_of_lt_of_le hj (hc.fl s)) e1
      subst e4
      exact .inr ⟨hj, rfl⟩
    · rw [if_neg hsq]
      exact .inl rfl
  · rw [if_neg hg, hr, if_pos rfl]
    exact .inl rfl
/-- what was fast, and is not written over, is got -/
theorem got_sure (hc : RgCore c l.last μ F) (hs : Sr c l.last μ F s0 Fs) (hp : Pre m μ) {q i : Nat} (hi : i < (Fs q).length) (hq : l.last < q + c.R) :
    c.got (m.crash fates) q i = ((Fs q)[i], 0) := by
  have hiF : i < (F q).length := Nat.lt_of_lt_of_le hi (hs.pre q).length_le
  have hiS : i < c.S := Nat.lt_of_lt_of_le hiF (hc.fl q)
  have hq0 : q ≤ s0 := by
    rcases Nat.lt_or_ge s0 q with h | h
    · rw [hs.fb q h] at hi; simp at hi
    · exact h
  have hn := sec_lt hc.R1 hiS (q := q)
  have hr := crash_up (fates := fates) hp hc hn
  have hno : ∀ p ∈ m.loose, p.1 ≠ c.base + c.sec q i := fun p hpm e => by
    obtain ⟨t, ht⟩ := hp.loose
    obtain ⟨s, j, a1, a2, a3, a4, a5⟩ := hs.lo p (by rw [ht]; exact List.mem_append_left _ hpm)
    obtain ⟨b1, b2⟩ := sec_inj hiS a4 (by omega : c.sec q i = c.sec s j)
    have b3 := near_eq b2 (Nat.le_trans hq0 hs.sl) a2 hq (by omega)
    have b4 := a3 (by omega)
    have b5 : q = s0 := by omega
    subst b5
    omega
  have hg : (m.crash fates).get (c.base + c.sec q i) = lbuild μ.sz 3 (c.sec q i) q ((Fs q)[i]) := by
    rw [crash_get hno, hp.fast]
    exact hs.fa q i hi (by have := hs.sl; omega)
  have hb : ((Fs q)[i]).length = c.rm := by
    rw [(hs.pre q).getElem hi]
    exact hc.fb q _ (List.getElem_mem hiF)
  obtain ⟨k1, k2, k3, k4, k5⟩ := leaf_chunk hc hn hb (Nat.le_trans hq0 hs.sl)
  have hgot : lgot (m.crash fates) ((c.base + c.sec q i : Nat) : Int) 3 ((c.sec q i : Nat) : Int) := by
    unfold lgot
    rw [hr, hg]
    exact ⟨rfl, k5, by rw [k1]; rfl, by rw [k2]⟩
  unfold Lc.got
  rw [if_pos hgot, hr]
  simp only
  rw [hg, if_pos k3, k4]
/-- the scan of an opening -/
theorem scan_crash (hc : RgCore c l.last μ F) (hs : Sr c l.last μ F s0 Fs) (hp : Pre m μ) (hcl : Clean (m.crash fates)) : ∀ (f n q : Nat), n + f ≤ c.R * c.S → q ≤ l.last → ∃ q', c.scan (m.crash fates) f n q = (q', 0) ∧ q ≤ q' ∧ q' ≤ l.last
  | 0, n, q, _, h => ⟨q, rfl, Nat.le_refl _, h⟩
  | f + 1, n, q, h1, h2 => by
    have hn : n < c.R * c.S := by omega
    have hr := crash_up (fates := fates) hp hc hn
    rw [Lc.scan]
    by_cases hg : lgot (m.crash fates) ((c.base + n : Nat) : Int) 3 (n : Int)
    · rw [if_pos hg]
      have ho : LeafOk ((m.crash fates).get (c.base + n)) := by
        have := hg.2.1
        rw [hr] at this
        exact this
      obtain ⟨s, j, hj, e1, e2, e3⟩ := chunk_at hc hs hp hcl hn ho
      obtain ⟨k1, k2, k3, k4, k5⟩ := leaf_chunk hc hn (hc.fb s _ (List.getElem_mem hj)) e2
      rw [hr]
      simp only
      rw [e3, k3]
      obtain ⟨q2, hq2, b1, b2⟩ : ∃ q2, (if s ≤ 1099511627776 ∧ s % c.R = n / c.S then max q s else q) = q2 ∧ q ≤ q2 ∧ q2 ≤ l.last := ⟨_, rfl, by split <;> omega, by split <;> omega⟩
      rw [hq2]
      obtain ⟨q', r1, r2, r3⟩ := scan_crash hc hs hp hcl f (n + 1) q2 (by omega) b2
      exact ⟨q', r1, by omega, r3⟩
    · rw [if_neg hg, hr, if_pos rfl]
      exact scan_crash hc hs hp hcl f (n + 1) q (by omega) h2
/-- a piece of what is read behind a crash -/
theorem piece_full {rm : Nat} {X : List (List UInt8)} (hrm : 1 ≤ rm) (hX : ∀ b ∈ X, b.length = rm) {at_ n : Nat} (hi : at_ / rm < X.length) (hn2 : n ≤ rm - at_ % rm) :
    at_ % rm + n ≤ (X[at_ / rm]).length ∧ at_ + n ≤ X.flatten.length ∧ ((X[at_ / rm]).drop (at_ % rm)).take n = (X.flatten.drop at_).take n := by
  have hdm := Nat.div_add_mod at_ rm
  have hm := Nat.mod_lt at_ (show 0 < rm by omega)
  have hl := hX _ (List.getElem_mem hi)
  have hfl := flat_len hX
  have h1 : (at_ / rm + 1) * rm ≤ X.length * rm := Nat.mul_le_mul_right _ hi
  rw [Nat.add_mul, Nat.one_mul, Nat.mul_comm] at h1
  refine ⟨by rw [hl]; omega, by rw [hfl]; omega, ?_⟩
  obtain ⟨r, hr⟩ := flat_at (at_ / rm) hi hX
  rw [show X.flatten.drop at_ = (X.flatten.drop (at_ / rm * rm)).drop (at_ % rm) by rw [List.drop_drop, Nat.mul_comm, hdm], hr, List.drop_append_of_le_length (by rw [hl]; omega), List.take_append_of_le_length (by rw [List.length_drop, hl]; omega)]
theorem rd_or {lo : Lg} {mo : Dev} {q : Nat} {X : List (List UInt8)} (hrm : 1 ≤ c.rm) (hX : ∀ b ∈ X, b.length = c.rm) (hg : ∀ i, i < c.S → c.ld lo mo q i true = ([], 13) ∨ ∃ h : i < X.length, c.ld lo mo q i true = (X[i], 0)) :
    ∀ (f at_ size : Nat) (out : List UInt8), size ≤ f → at_ + size ≤ c.S * c.rm → c.rd lo mo q (pcs c.rm f at_ size) out = ([], 13) ∨ ((size = 0 ∨ at_ + size ≤ X.flatten.length) ∧ c.rd lo mo q (pcs c.rm f at_ size) out = (out ++ (X.flatten.drop at_).take size, 0))
  | 0, at_, size, out, h1, h2 => by
    obtain rfl : size = 0 := by omega
    exact .inr ⟨.inl rfl, by simp [pcs, Lc.rd]⟩
  | f + 1, at_, size, out, h1, h2 => by
    rw [pcs]
    split
    · rename_i h3
      subst h3
      exact .inr ⟨.inl rfl, by simp [Lc.rd]⟩
    · have hm := Nat.mod_lt at_ (show 0 < c.rm by omega)
      obtain ⟨n, hn⟩ : ∃ n, min size (c.rm - at_ % c.rm) = n := ⟨_, rfl⟩
      rw [hn]
      have hiS : at_ / c.rm < c.S := by rw [Nat.div_lt_iff_lt_mul (by omega)]; omega
      rw [Lc.rd]
      simp only
      rcases hg _ hiS with e | ⟨hi, e⟩
      · rw [e, if_pos (by simp)]
        exact .inl rfl
      · obtain ⟨p1, p2, p3⟩ := piece_full (n := n) hrm hX hi (by omega)
        rw [e, if_neg (by simp), if_neg (by simp only; omega)]
        rcases rd_or hrm hX hg f (at_ + n) (size - n) (out ++ ((X[at_ / c.rm]).drop (at_ % c.rm)).take n) (by omega) (by omega) with h | ⟨h, h'⟩
        · exact .inl h
        · refine .inr ⟨.inr (by omega), ?_⟩
          rw [h', p3, List.append_assoc]
          congr 2
          rw [← List.drop_drop]
          generalize X.flatten.drop at_ = x
          rw [show size = n + (size - n) by omega, Nat.add_sub_cancel_left, List.take_add]
theorem rd_sure {lo : Lg} {mo : Dev} {q : Nat} {X : List (List UInt8)} (hrm : 1 ≤ c.rm) (hX : ∀ b ∈ X, b.length = c.rm) (hg : ∀ i (h : i < X.length), c.ld lo mo q i true = (X[i], 0)) :
    ∀ (f at_ size : Nat) (out : List UInt8), size ≤ f → at_ + size ≤ X.flatten.length → c.rd lo mo q (pcs c.rm f at_ size) out = (out ++ (X.flatten.drop at_).take size, 0)
  | 0, at_, size, out, h1, h2 => by
    obtain rfl : size = 0 := by omega
    simp [pcs, Lc.rd]
  | f + 1, at_, size, out, h1, h2 => by
    rw [pcs]
    split
    · rename_i h3
      subst h3
      simp [Lc.rd]
    · have hm := Nat.mod_lt at_ (show 0 < c.rm by omega)
      obtain ⟨n, hn⟩ : ∃ n, min size (c.rm - at_ % c.rm) = n := ⟨_, rfl⟩
      rw [hn]
      have hfl := flat_len hX
      have hi : at_ / c.rm < X.length := by rw [Nat.div_lt_iff_lt_mul (by omega)]; omega
      obtain ⟨p1, p2, p3⟩ := piece_full (n := n) hrm hX hi (by omega)
      rw [Lc.rd]
      simp only
      rw [hg _ hi, if_neg (by simp), if_neg (by simp only; omega), rd_sure hrm hX hg f (at_ + n) (size - n) _ (by omega) (by omega), p3, List.append_assoc]
      congr 2
      rw [← List.drop_drop]
      generalize X.flatten.drop at_ = x
      rw [show size = n + (size - n) by omega, Nat.add_sub_cancel_left, List.take_add]
end
end Go.Proofs.Ytjkjiabfhhnngaa

