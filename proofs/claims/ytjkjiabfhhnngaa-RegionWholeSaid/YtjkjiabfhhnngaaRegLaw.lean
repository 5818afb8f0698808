import Derived.Test.YtjkjiabfhhnngaaReg6
import Derived.Test.YtjkjiabfhhnngaaReg7
/-! What a region's log is: the plain law of append, flush, read, open. -/
namespace Go.Proofs.Ytjkjiabfhhnngaa
open Go.RowKit Sg
set_option linter.unusedSimpArgs false
set_option linter.unusedVariables false

/-! ### the device, as long as it is up -/
theorem lastOf_snoc (l : List (Nat × List UInt8)) (k : Nat) (b : List UInt8) (j : Nat) : lastOf (l ++ [(k, b)]) j = if k = j then some b else lastOf l j := by
  unfold lastOf
  rw [List.reverse_append]
  simp only [List.reverse_cons, List.reverse_nil, List.nil_append, List.cons_append, List.find?_cons]
  by_cases h : k = j
  · subst h; simp
  · have h2 : (k == j) = false := beq_false_of_ne h
    rw [h2, if_neg h]
theorem Dev.get_write (m : Dev) (k j : Nat) (b : List UInt8) : (m.write k b).get j = if k = j then b else m.get j := by
  unfold Dev.get
  show (lastOf (m.loose ++ [(k, b)]) j).getD (m.fast.getD j []) = _
  rw [lastOf_snoc]
  split <;> rfl
theorem read_up {m : Dev} (hd : m.down = false) {n : Nat} (hn : n < m.n) : m.read (n : Int) = (m.get n, 0) := by
  have hr : m.ready (n : Int) = 0 := by unfold Dev.ready; rw [if_neg (by rw [hd]; simp), if_pos ⟨by omega, by omega⟩]
  unfold Dev.read
  rw [if_neg (by rw [hr]; simp)]
  simp
theorem lcode_fine {size k p s n : Nat} (h1 : 96 ≤ size ∧ size ≤ 512) (h2 : 1 ≤ k ∧ k ≤ 4) (h3 : p ≤ 2147483647) (h4 : n + 19 ≤ size) : lcode size k p s n = 0 := by
  unfold lcode
  rw [if_neg (by omega), if_neg (by omega), if_neg (by omega)]
theorem lput_up {m : Dev} (hw : m.Wf) (hd : m.down = false) (ha : m.armed = 0) {n k p s : Nat} (hn : n < m.n) (hk : 1 ≤ k ∧ k ≤ 4) (hp : p ≤ 2147483647) {b : List UInt8} (hb : b.length + 19 ≤ m.sz) :
    lput m (n : Int) (k : Int) (p : Int) (s : Int) b = (m.write n (lbuild m.sz k p s b), 0) := by
  have hc : lcode m.sz k p s b.length = 0 := lcode_fine ⟨hw.s1, hw.s2⟩ hk hp hb
  have hr : m.ready (n : Int) = 0 := by unfold Dev.ready; rw [if_neg (by rw [hd]; simp), if_pos ⟨by omega, by omega⟩]
  unfold lput
  rw [if_neg (by rw [hc]; simp)]
  simp only [Int.toNat_natCast]
  unfold Dev.put
  rw [if_neg (by rw [hr]; simp), if_neg (by rw [lbuild_len _ _ _ _ _ hw.s1 hb]; simp)]
  simp [Dev.act, hd, ha]
theorem zeros_no (n : Nat) : ¬ LeafOk (List.replicate n 0) := by
  rintro ⟨h1, -, -, h, -⟩
  have hk : lk (List.replicate n 0) = 0 := by
    unfold lk
    simp only [List.length_replicate] at h1
    rw [List.take_replicate, show min 1 n = 1 by omega]
    rfl
  rw [hk] at h
  have := (lcode_zero h).2.1
  omega
theorem Dev.write_same (m : Dev) (k : Nat) (b : List UInt8) (hd : m.down = false) (ha : m.armed = 0) : (m.write k b).down = false ∧ (m.write k b).armed = 0 ∧ (m.write k b).n = m.n ∧ (m.write k b).sz = m.sz ∧ (m.write k b).acts = m.acts + 1 := by
  simp [Dev.write, Dev.act, hd, ha]

/-! ### the sectors' numbers -/
theorem sec_lt {c : Lc} (h1 : 1 ≤ c.R) {q i : Nat} (hi : i < c.S) : c.sec q i < c.R * c.S := by
  unfold Lc.sec
  have h2 := Nat.mod_lt q (show 0 < c.R by omega)
  have h3 : (q % c.R + 1) * c.S ≤ c.R * c.S := Nat.mul_le_mul_right _ h2
  rw [Nat.add_mul, Nat.one_mul] at h3
  omega
theorem sec_inj {c : Lc} {q s i j : Nat} (hi : i < c.S) (hj : j < c.S) (h : c.sec q i = c.sec s j) : i = j ∧ q % c.R = s % c.R := by
  unfold Lc.sec at h
  have h1 : (q % c.R * c.S + i) % c.S = i := by rw [Nat.mul_comm, Nat.mul_add_mod]; exact Nat.mod_eq_of_lt hi
  have h2 : (s % c.R * c.S + j) % c.S = j := by rw [Nat.mul_comm, Nat.mul_add_mod]; exact Nat.mod_eq_of_lt hj
  have e : i = j := by rw [← h1, ← h2, h]
  subst e
  have h3 : q % c.R * c.S = s % c.R * c.S := by omega
  exact ⟨rfl, Nat.eq_of_mul_eq_mul_right (by omega) h3⟩
theorem near_eq {R a b l : Nat} (h : a % R = b % R) (ha : a ≤ l) (hb : b ≤ l) (ha2 : l < a + R) (hb2 : l < b + R) : a = b := by
  rcases Nat.lt_or_ge a b with h1 | h1
  · have h2 : (b - a) % R = 0 := Nat.sub_mod_eq_zero_of_mod_eq h.symm
    have h3 : (b - a) % R = b - a := Nat.mod_eq_of_lt (by omega)
    omega
  · have h2 : (a - b) % R = 0 := Nat.sub_mod_eq_zero_of_mod_eq h
    have h3 : (a - b) % R = a - b := Nat.mod_eq_of_lt (by omega)
    omega

/-! ### what stands in the sectors -/
def setF (F : Nat → List (List UInt8)) (q : Nat) (x : List (List UInt8)) : Nat → List (List UInt8) := fun p => if p = q then x else F p
theorem setF_self (F : Nat → List (List UInt8)) (q : Nat) (x : List (List UInt8)) : setF F q x q = x := if_pos rfl
theorem setF_ne (F : Nat → List (List UInt8)) {q p : Nat} (x : List (List UInt8)) (h : p ≠ q) : setF F q x p = F p := if_neg h

/-- F: of each region the loads of its sectors that are written -/
structure RgCore (c : Lc) (last : Nat) (m : Dev) (F : Nat → List (List UInt8)) : Prop where
  ok : c.Ok m
  wf : m.Wf
  up : m.down = false
  un : m.armed = 0
  lastb : last ≤ 4398046511104
  fl : ∀ q, (F q).length ≤ c.S
  fb : ∀ q, ∀ b ∈ F q, b.length = c.rm
  beyond : ∀ q, last < q → F q = []
  zero : F 0 = []
  there : ∀ q i (h : i < (F q).length), last < q + c.R → m.get (c.base + c.sec q i) = lbuild m.sz 3 (c.sec q i) q ((F q)[i])
  other : ∀ n, n < c.R * c.S → m.get (c.base + n) = List.replicate m.sz 0 ∨ ∃ (s j : Nat) (b : List UInt8), s ≤ last ∧ j < (F s).length ∧ n = c.sec s j ∧ b.length = c.rm ∧ m.get (c.base + n) = lbuild m.sz 3 n s b
section
variable {c : Lc} {last : Nat} {m : Dev} {F : Nat → List (List UInt8)}
theorem RgCore.R1 (h : RgCore c last m F) : 1 ≤ c.R := by have := h.ok.r1; omega
theorem RgCore.top (h : RgCore c last m F) {n : Nat} (hn : n < c.R * c.S) : c.base + n < m.n := Nat.lt_of_lt_of_le (Nat.add_lt_add_left hn _) h.ok.top
theorem RgCore.low (h : RgCore c last m F) {n : Nat} (hn : n < c.R * c.S) : n ≤ 2147483647 := by
  have := h.top hn
  have := h.wf.n2
  omega
theorem RgCore.got (h : RgCore c last m F) {n s : Nat} {b : List UInt8} (hn : n < c.R * c.S) (hb : b.length = c.rm) (hs : s ≤ last) (hg : m.get (c.base + n) = lbuild m.sz 3 n s b) :
    lgot m ((c.base + n : Nat) : Int) 3 (n : Int) ∧ ls (m.read ((c.base + n : Nat) : Int)).1 = s ∧ ll (m.read ((c.base + n : Nat) : Int)).1 = b ∧ (m.read ((c.base + n : Nat) : Int)).2 = 0 := by
  have hsz := h.ok.sz
  have hc : lcode m.sz 3 n s b.length = 0 := lcode_fine (k := 3) ⟨h.wf.s1, h.wf.s2⟩ ⟨by omega, by omega⟩ (h.low hn) (by omega)
  obtain ⟨e1, e2, e3, e4, e5, e6, e7⟩ := leaf_back m.sz 3 n s b hc (by have := h.lastb; omega)
  unfold lgot
  rw [read_up h.up (h.top hn), hg]
  exact ⟨⟨rfl, e6, by rw [e1]; rfl, by rw [e3]⟩, e4, e5, rfl⟩
theorem RgCore.none (h : RgCore c last m F) {n : Nat} (hn : n < c.R * c.S) (hg : m.get (c.base + n) = List.replicate m.sz 0) :
    ¬ lgot m ((c.base + n : Nat) : Int) 3 (n : Int) ∧ (m.read ((c.base + n : Nat) : Int)).2 = 0 := by
  unfold lgot
  rw [read_up h.up (h.top hn), hg]
  exact ⟨fun h => zeros_no _ h.2.1, rfl⟩
theorem RgCore.sector (h : RgCore c last m F) {q i : Nat} (hi : i < (F q).length) (hq : last < q + c.R) : c.got m q i = ((F q)[i], 0) := by
  have hlt : i < c.S := Nat.lt_of_lt_of_le hi (h.fl q)
  have hq2 : q ≤ last := by
    rcases Nat.lt_or_ge last q with h1 | h1
    · rw [h.beyond q h1] at hi; simp at hi
    · exact h1
  obtain ⟨g1, g2, g3, g4⟩ := h.got (sec_lt h.R1 hlt) (h.fb q _ (List.getElem_mem hi)) hq2 (h.there q i hi hq)
  unfold Lc.got
  rw [if_pos g1, if_pos g2, g3]
theorem RgCore.stale (h : RgCore c last m F) {q i : Nat} (hi : (F q).length ≤ i) (hlt : i < c.S) : c.got m q i = ([], 13) := by
  have hn := sec_lt h.R1 hlt (q := q)
  unfold Lc.got
  rcases h.other _ hn with hz | ⟨s, j, b, hs, hj, he, hb, hg⟩
  · obtain ⟨g1, g2⟩ := h.none hn hz
    rw [if_neg g1, if_pos g2]
  · obtain ⟨g1, g2, g3, g4⟩ := h.got hn hb hs hg
    rw [if_pos g1, if_neg]
    rw [g2]
    rintro rfl
    have := (sec_inj hlt (Nat.lt_of_lt_of_le hj (h.fl _)) he).1
    omega
/-- a region's next sector is written -/
theorem RgCore.write (h : RgCore c last m F) (h1 : 1 ≤ last) {b : List UInt8} (hb : b.length = c.rm) (hk : (F last).length < c.S) :
    lput m ((c.base + c.sec last (F last).length : Nat) : Int) 3 ((c.sec last (F last).length : Nat) : Int) (last : Int) b = (m.write (c.base + c.sec last (F last).length) (lbuild m.sz 3 (c.sec last (F last).length) last b), 0) ∧
    RgCore c last (m.write (c.base + c.sec last (F last).length) (lbuild m.sz 3 (c.sec last (F last).length) last b)) (setF F last (F last ++ [b])) := by
  have hn := sec_lt h.R1 hk (q := last)
  have hsz := h.ok.sz
  have hlen : (lbuild m.sz 3 (c.sec last (F last).length) last b).length = m.sz := lbuild_len _ _ _ _ _ h.wf.s1 (by omega)
  obtain ⟨w1, w2, w3, w4, w5⟩ := Dev.write_same m (c.base + c.sec last (F last).length) (lbuild m.sz 3 (c.sec last (F last).length) last b) h.up h.un
  refine ⟨lput_up h.wf h.up h.un (h.top hn) (k := 3) ⟨by omega, by omega⟩ (h.low hn) (by omega), ?_⟩
  refine { ok := h.ok.of w3 w4, wf := h.wf.write (h.top hn) hlen, up := w1, un := w2, lastb := h.lastb, fl := fun q => ?_, fb := fun q x hx => ?_, beyond := fun q hq => ?_, zero := ?_, there := fun q i hi hq => ?_, other := fun n hn2 => ?_ }
  · by_cases e : q = last
    · subst e; rw [setF_self]; simp; omega
    · rw [setF_ne _ _ e]; exact h.fl q
  · by_cases e : q = last
    · subst e
      rw [setF_self] at hx
      rcases List.mem_append.1 hx with hx | hx
      · exact h.fb _ x hx
      · rw [List.mem_singleton.1 hx]; exact hb
    · rw [setF_ne _ _ e] at hx; exact h.fb q x hx
  · rw [setF_ne _ _ (by omega)]; exact h.beyond q hq
  · rw [setF_ne _ _ (by omega)]; exact h.zero
  · rw [Dev.get_write, w4]
    by_cases e : q = last
    · subst e
      simp only [setF_self] at hi ⊢
      by_cases e2 : i = (F q).length
      · subst e2
        rw [if_pos rfl]
        simp
      · have hi2 : i < (F q).length := by simp at hi; omega
        rw [if_neg, h.there q i hi2 hq, List.getElem_append_left hi2]
        intro e3
        have := sec_inj hk (Nat.lt_of_lt_of_le hi2 (h.fl q)) (by omega : c.sec q (F q).length = c.sec q i)
        omega
    · have e9 : setF F last (F last ++ [b]) q = F q := setF_ne _ _ e
      simp only [e9] at hi ⊢
      rw [if_neg, h.there q i hi hq]
      intro e3
      have h2 := (sec_inj hk (Nat.lt_of_lt_of_le hi (h.fl q)) (by omega : c.sec last (F last).length = c.sec q i)).2
      have hq2 : q ≤ last := by
        rcases Nat.lt_or_ge last q with h3 | h3
        · rw [h.beyond q h3] at hi; simp at hi
        · exact h3
      have := h.R1
      exact e (near_eq h2.symm hq2 (Nat.le_refl last) hq (by omega))
  · rw [Dev.get_write, w4]
    by_cases e : c.base + c.sec last (F last).length = c.base + n
    · rw [if_pos e]
      exact .inr ⟨last, (F last).length, b, Nat.le_refl _, by rw [setF_self]; simp, by omega, hb, by rw [show n = c.sec last (F last).length by omega]⟩
    · rw [if_neg e]
      rcases h.other n hn2 with hz | ⟨s, j, x, hs, hj, he, hx, hg⟩
      · exact .inl hz
      · refine .inr ⟨s, j, x, hs, ?_, he, hx, hg⟩
        by_cases e2 : s = last
        · subst e2; rw [setF_self]; simp; omega
        · rw [setF_ne _ _ e2]; exact hj
theorem RgCore.next (h : RgCore c last m F) (hl : last < 4398046511104) : RgCore c (last + 1) m F :=
  { ok := h.ok, wf := h.wf, up := h.up, un := h.un, lastb := by omega, fl := h.fl, fb := h.fb, beyond := fun q hq => h.beyond q (by omega), zero := h.zero
    there := fun q i hi hq => h.there q i hi (by omega)
    other := fun n hn => (h.other n hn).elim .inl (fun ⟨s, j, b, h1, h2⟩ => .inr ⟨s, j, b, by omega, h2⟩) }
end
end Go.Proofs.Ytjkjiabfhhnngaa

/-! The plain law of append, flush, begin, open. -/
namespace Go.Proofs.Ytjkjiabfhhnngaa
open Go.RowKit Sg
set_option linter.unusedSimpArgs false
set_option linter.unusedVariables false

theorem div_full {k rm : Nat} (h : 1 ≤ rm) : (k * rm + rm - 1) / rm = k := by
  rw [show k * rm + rm - 1 = (rm - 1) + k * rm by omega, Nat.add_mul_div_right _ _ (by omega), Nat.div_eq_of_lt (by omega)]
  omega
theorem wr_law {c : Lc} {l : Lg} {m : Dev} {F : Nat → List (List UInt8)} (h : RgCore c l.last m F) (h1 : 1 ≤ l.last) (hb : l.pend.length = c.rm) (hat : l.at_ = (F l.last).length * c.rm + c.rm) (hk : (F l.last).length < c.S) :
    ∃ m', c.wr l m = ({ l with pend := [] }, m', 0) ∧ RgCore c l.last m' (setF F l.last (F l.last ++ [l.pend])) ∧ m'.acts = m.acts + 1 := by
  have hj : (l.at_ - 1) / c.rm = (F l.last).length := by rw [hat]; exact div_full (by have := h.ok.m1; omega)
  obtain ⟨e1, e2⟩ := h.write h1 hb hk
  refine ⟨_, ?_, e2, rfl⟩
  unfold Lc.wr
  rw [hj, e1]

/-- bytes are added behind -/
theorem app_law {c : Lc} : ∀ (f : Nat) (l : Lg) (m : Dev) (F : Nat → List (List UInt8)) (b : List UInt8), RgCore c l.last m F → 1 ≤ l.last → l.at_ = (F l.last).length * c.rm + l.pend.length → l.pend.length < c.rm → l.at_ + b.length ≤ c.S * c.rm → b.length ≤ f →
    ∃ (l' : Lg) (m' : Dev) (F' : Nat → List (List UInt8)), c.app f l m b = (l', m', 0) ∧ RgCore c l'.last m' F' ∧ l'.last = l.last ∧ (∀ q, q ≠ l.last → F' q = F q) ∧ (F' l.last).flatten ++ l'.pend = (F l.last).flatten ++ l.pend ++ b ∧
      l'.at_ = (F' l.last).length * c.rm + l'.pend.length ∧ l'.pend.length < c.rm ∧ l'.at_ = l.at_ + b.length ∧ m'.acts ≤ m.acts + b.length
  | 0, l, m, F, b, h, h1, h2, h3, h4, h5 => by
    have e : b = [] := List.eq_nil_of_length_eq_zero (by omega)
    subst e
    exact ⟨l, m, F, rfl, h, rfl, fun _ _ => rfl, by simp, h2, h3, by simp, by simp⟩
  | f + 1, l, m, F, b, h, h1, h2, h3, h4, h5 => by
    by_cases hb : b = []
    · subst hb
      exact ⟨l, m, F, app_nil _ _ _ _, h, rfl, fun _ _ => rfl, by simp, h2, h3, by simp, by simp⟩
    have hb0 : 0 < b.length := List.length_pos_iff.2 hb
    rw [app_step c f l m b hb]
    have hml := more_len c l b
    by_cases hp : (c.more l b).pend.length < c.rm
    · rw [if_pos hp]
      have hk : min b.length (c.rm - l.pend.length) = b.length := by omega
      have hall : c.more l b = { l with at_ := l.at_ + b.length, pend := l.pend ++ b } := by
        unfold Lc.more
        rw [hk, List.take_length]
      rw [hall]
      refine ⟨_, m, F, rfl, h, rfl, fun _ _ => rfl, by simp, ?_, ?_, rfl, by omega⟩
      · simp; omega
      · rw [hall] at hp; exact hp
    · rw [if_neg hp]
      obtain ⟨k, hk⟩ : ∃ k, min b.length (c.rm - l.pend.length) = k := ⟨_, rfl⟩
      rw [hk] at hml ⊢
      have hk2 : l.pend.length + k = c.rm := by omega
      have hk3 : k ≤ b.length := by omega
      have hk4 : 1 ≤ k := by omega
      have hmo : c.more l b = { l with at_ := l.at_ + k, pend := l.pend ++ b.take k } := by
        unfold Lc.more
        rw [hk]
      have hS : (F l.last).length < c.S := by
        have h6 : (F l.last).length * c.rm + c.rm ≤ c.S * c.rm := by omega
        have h7 : ((F l.last).length + 1) * c.rm ≤ c.S * c.rm := by rw [Nat.add_mul, Nat.one_mul]; exact h6
        exact Nat.le_of_mul_le_mul_right h7 (by omega)
      rw [hmo]
      have hpl : (l.pend ++ b.take k).length = c.rm := by simp; omega
      obtain ⟨m1, e1, e2, e3⟩ := wr_law (c := c) (l := { l with at_ := l.at_ + k, pend := l.pend ++ b.take k }) (m := m) (F := F) h h1 hpl (by simp only; omega) hS
      rw [e1]
      rw [if_neg (by simp)]
      have hlen : ((setF F l.last (F l.last ++ [l.pend ++ b.take k])) l.last).length = (F l.last).length + 1 := by rw [setF_self]; simp
      obtain ⟨l', m', F', r1, r2, r3, r4, r5, r6, r7, r8, r9⟩ := app_law f { l with at_ := l.at_ + k, pend := [] } m1 _ (b.drop k) e2 h1 (by simp only; rw [hlen, Nat.add_mul]; simp; omega) (by simp; omega) (by simp; omega) (by simp; omega)
      refine ⟨l', m', F', r1, r2, r3, fun q hq => ?_, ?_, r6, r7, ?_, ?_⟩
      · rw [r4 q hq, setF_ne _ _ hq]
      · simp only at r5
        rw [r5, setF_self]
        simp
      · rw [r8]; simp; omega
      · simp at r9; omega

/-- the log as it stands between calls -/
structure RgInv (c : Lc) (l : Lg) (m : Dev) (F : Nat → List (List UInt8)) : Prop where
  core : RgCore c l.last m F
  pos : (1 ≤ l.last ∧ l.at_ = (F l.last).length * c.rm + l.pend.length ∧ l.pend.length < c.rm) ∨ (l.at_ = c.S * c.rm ∧ l.pend = [])
  atl : l.at_ ≤ c.S * c.rm
/-- all that was appended to a region -/
def cont (F : Nat → List (List UInt8)) (l : Lg) (q : Nat) : List UInt8 := (F q).flatten ++ (if q = l.last then l.pend else [])
section
variable {c : Lc} {l : Lg} {m : Dev} {F : Nat → List (List UInt8)}
theorem RgInv.rm (h : RgInv c l m F) : 77 ≤ c.rm := h.core.ok.m1
theorem RgInv.fit (h : RgInv c l m F) : l.Fit c := by
  refine ⟨h.atl, ?_, h.core.lastb⟩
  rcases h.pos with ⟨-, e, h2⟩ | ⟨e, h2⟩
  · rw [e, Nat.mul_comm, Nat.mul_add_mod]
    exact (Nat.mod_eq_of_lt h2).symm
  · rw [e, h2, Nat.mul_mod_left]
    rfl
theorem flat_len {rm : Nat} : ∀ {x : List (List UInt8)}, (∀ b ∈ x, b.length = rm) → x.flatten.length = x.length * rm
  | [], _ => by simp
  | b :: x, h => by
    rw [List.flatten_cons, List.length_append, h b (by simp), flat_len (fun y hy => h y (by simp [hy])), List.length_cons, Nat.add_mul, Nat.one_mul]
    omega
theorem RgInv.full (h : RgInv c l m F) (hp : l.pend ≠ []) : (F l.last).length < c.S ∧ 1 ≤ l.last := by
  have h0 : 0 < l.pend.length := List.length_pos_iff.2 hp
  rcases h.pos with ⟨h1, e, h2⟩ | ⟨-, h2⟩
  · refine ⟨?_, h1⟩
    have h3 := h.atl
    have h4 : (F l.last).length * c.rm < c.S * c.rm := by omega
    exact Nat.lt_of_mul_lt_mul_right h4
  · exact absurd h2 hp
/-- a flush -/
theorem flush_law (h : RgInv c l m F) : ∃ (l' : Lg) (m' : Dev) (F' : Nat → List (List UInt8)) (z : Nat), c.flush l m = (l', m', 0) ∧ RgInv c l' m' F' ∧ l'.last = l.last ∧ l'.pend = [] ∧ l'.at_ = l.at_ + z ∧ z < c.rm ∧ l'.at_ % c.rm = 0 ∧ (l.pend = [] → z = 0) ∧
    m'.acts ≤ m.acts + 1 ∧ (∀ q, q ≠ l.last → F' q = F q) ∧ cont F' l' l.last = cont F l l.last ++ List.replicate z 0 := by
  by_cases hp : l.pend = []
  · refine ⟨l, m, F, 0, ?_, h, rfl, hp, rfl, by have := h.rm; omega, ?_, fun _ => rfl, by omega, fun _ _ => rfl, by simp⟩
    · unfold Lc.flush
      rw [if_pos hp]
    · have := h.fit.pend
      rw [hp] at this
      exact this.symm
  · obtain ⟨f1, f2, f3, f4, f5⟩ := h.fit.fill h.core.ok hp
    obtain ⟨g1, g2⟩ := h.full hp
    have hpos : l.at_ = (F l.last).length * c.rm + l.pend.length := by
      rcases h.pos with ⟨-, e, -⟩ | ⟨-, e⟩
      · exact e
      · exact absurd e hp
    have hat : (c.fill l).at_ = l.at_ + (c.rm - l.pend.length) := rfl
    obtain ⟨m', e1, e2, e3⟩ := wr_law (c := c) (l := c.fill l) (m := m) (F := F) h.core g2 f3 (by rw [hat, show (c.fill l).last = l.last from rfl]; omega) g1
    have e2' : RgCore c l.last m' (setF F l.last (F l.last ++ [(c.fill l).pend])) := e2
    refine ⟨{ c.fill l with pend := [] }, m', _, c.rm - l.pend.length, ?_, { core := e2', pos := .inl ⟨g2, ?_, by have := h.rm; simp; omega⟩, atl := f1 }, rfl, rfl, rfl, ?_, f5, fun h => absurd h hp, by omega, fun q hq => setF_ne _ _ hq, ?_⟩
    · unfold Lc.flush
      rw [if_neg hp, e1]
    · show (c.fill l).at_ = (setF F l.last (F l.last ++ [(c.fill l).pend]) l.last).length * c.rm + 0
      rw [setF_self, hat, List.length_append, Nat.add_mul]
      simp
      omega
    · have := List.length_pos_iff.2 hp
      omega
    · unfold cont
      rw [setF_self]
      simp [Lc.fill]
/-- an append -/
theorem append_law (h : RgInv c l m F) (hl : l.last < 4398046511104) (b : List UInt8) (hb0 : 1 ≤ b.length) (hb : b.length ≤ c.S * c.rm) :
    ∃ (l' : Lg) (m' : Dev) (F' : Nat → List (List UInt8)) (a : Nat), c.append l m b = (l', m', (l'.last, a, b.length), 0) ∧ RgInv c l' m' F' ∧
      ((c.S * c.rm < l.at_ + b.length ∧ l'.last = l.last + 1 ∧ a = 0) ∨ (l.at_ + b.length ≤ c.S * c.rm ∧ l'.last = l.last ∧ a = l.at_ ∧ 1 ≤ l.last)) ∧ l'.at_ = a + b.length ∧ m'.acts ≤ m.acts + 1 + b.length ∧
      (cont F' l' l'.last).length = a + b.length ∧ (cont F' l' l'.last).drop a = b ∧ (∀ q, q ≤ l.last → cont F l q <+: cont F' l' q) ∧ (∀ q, q < l.last → cont F' l' q = cont F l q) ∧
      (l'.last = l.last → cont F' l' l.last = cont F l l.last ++ b) ∧ (l'.last = l.last + 1 → cont F' l' l'.last = b ∧ ∃ z, cont F' l' l.last = cont F l l.last ++ List.replicate z 0) := by
  have hrm := h.rm
  have e0 : c.append l m b = c.tail (c.first l m b.length) b := by unfold Lc.append; rw [if_neg (by omega), if_neg (by omega)]
  rw [e0]
  by_cases hq : c.S * c.rm < l.at_ + b.length
  · obtain ⟨l1, m1, F1, z, e1, i1, i2, i3, i4, i5, i6, i7, i8, i9, i10⟩ := flush_law h
    have ef : c.first l m b.length = ({ last := l1.last + 1, at_ := 0, pend := l1.pend }, m1, 0) := by
      unfold Lc.first
      rw [if_pos hq]
      unfold Lc.begin_
      rw [e1, if_neg (by simp)]
    rw [ef]
    have hnew : F1 (l1.last + 1) = [] := i1.core.beyond _ (by omega)
    obtain ⟨l', m', F', r1, r2, r3, r4, r5, r6, r7, r8, r9⟩ := app_law b.length { last := l1.last + 1, at_ := 0, pend := l1.pend } m1 F1 b (i1.core.next (by omega)) (by simp) (by simp only; rw [hnew, i3]; simp) (by simp only; rw [i3]; simp; omega) (by simp only; omega) (Nat.le_refl _)
    simp only at r1 r2 r3 r4 r5 r6 r7 r8 r9
    have hc1 : cont F' l' l'.last = b := by
      unfold cont
      rw [if_pos rfl, r3, r5, hnew, i3]
      simp
    have hlow : ∀ q, q ≤ l.last → cont F' l' q = cont F1 l1 q := fun q hq2 => by
      unfold cont
      rw [if_neg (by rw [r3]; omega), r4 q (by omega)]
      by_cases e : q = l1.last
      · rw [if_pos e, i3]
      · rw [if_neg e]
    have hlow2 : ∀ q, q < l.last → cont F' l' q = cont F l q := fun q hq2 => by
      rw [hlow q (by omega)]
      unfold cont
      rw [i9 q (by omega), if_neg (by omega), if_neg (by omega)]
    refine ⟨l', m', F', 0, ?_, { core := r2, pos := .inl ⟨by omega, by rw [r3]; exact r6, r7⟩, atl := by omega }, .inl ⟨hq, by omega, rfl⟩, r8, by omega, by rw [hc1]; simp, by rw [hc1]; rfl, fun q hq2 => ?_, hlow2, fun e => by omega, fun _ => ⟨hc1, z, by rw [hlow _ (Nat.le_refl _), i10]⟩⟩
    · unfold Lc.tail
      rw [if_neg (by simp), r1, if_neg (by simp)]
      simp only
      rw [r3]
    · rcases Nat.lt_or_eq_of_le hq2 with e | e
      · rw [hlow2 q e]; exact List.prefix_refl _
      · subst e
        rw [hlow _ (Nat.le_refl _), i10]
        exact List.prefix_append _ _
  · have ef : c.first l m b.length = (l, m, 0) := by unfold Lc.first; rw [if_neg hq]
    rw [ef]
    have hpos : 1 ≤ l.last ∧ l.at_ = (F l.last).length * c.rm + l.pend.length ∧ l.pend.length < c.rm := by
      rcases h.pos with e | ⟨e, -⟩
      · exact e
      · omega
    obtain ⟨l', m', F', r1, r2, r3, r4, r5, r6, r7, r8, r9⟩ := app_law b.length l m F b h.core hpos.1 hpos.2.1 hpos.2.2 (by omega) (Nat.le_refl _)
    have hc1 : cont F' l' l.last = cont F l l.last ++ b := by
      unfold cont
      rw [if_pos r3.symm, if_pos rfl, r5]
    have hlen : (cont F l l.last).length = l.at_ := by
      unfold cont
      rw [if_pos rfl, List.length_append, flat_len (h.core.fb _)]
      exact hpos.2.1.symm
    have hlow : ∀ q, q < l.last → cont F' l' q = cont F l q := fun q hq2 => by
      unfold cont
      rw [if_neg (by omega), if_neg (by omega), r4 q (by omega)]
    refine ⟨l', m', F', l.at_, ?_, { core := r2, pos := .inl ⟨by omega, by rw [r3]; exact r6, r7⟩, atl := by omega }, .inr ⟨by omega, r3, rfl, hpos.1⟩, r8, by omega, ?_, ?_, fun q hq2 => ?_, hlow, fun _ => hc1, fun e => by omega⟩
    · unfold Lc.tail
      rw [if_neg (by simp), r1, if_neg (by simp)]
      simp only
      rw [r3]
    · rw [r3, hc1, List.length_append, hlen]
    · rw [r3, hc1, List.drop_left' hlen]
    · rcases Nat.lt_or_eq_of_le hq2 with e | e
      · rw [hlow q e]; exact List.prefix_refl _
      · subst e
        rw [hc1]
        exact List.prefix_append _ _
/-- a log that is opened anew -/
theorem scan_law (h : RgCore c l.last m F) : ∀ (f n q : Nat), n + f ≤ c.R * c.S → l.last ≤ q → c.scan m f n q = (q, 0)
  | 0, _, _, _, _ => rfl
  | f + 1, n, q, h1, h2 => by
    have hn : n < c.R * c.S := by omega
    rw [Lc.scan]
    rcases h.other n hn with hz | ⟨s, j, b, hs, hj, he, hb, hg⟩
    · obtain ⟨g1, g2⟩ := h.none hn hz
      rw [if_neg g1, if_pos g2]
      exact scan_law h f (n + 1) q (by omega) h2
    · obtain ⟨g1, g2, g3, g4⟩ := h.got hn hb hs hg
      rw [if_pos g1, g2, Nat.max_eq_left (by omega), ite_self]
      exact scan_law h f (n + 1) q (by omega) h2
end
end Go.Proofs.Ytjkjiabfhhnngaa

/-! The plain law of read. -/
namespace Go.Proofs.Ytjkjiabfhhnngaa
open Go.RowKit Sg
set_option linter.unusedSimpArgs false
set_option linter.unusedVariables false

section
variable {c : Lc} {l : Lg} {m : Dev} {F : Nat → List (List UInt8)}
theorem hit_at (h : RgInv c l m F) (hp : l.pend ≠ []) : (l.at_ - 1) / c.rm = (F l.last).length := by
  have h0 : 0 < l.pend.length := List.length_pos_iff.2 hp
  rcases h.pos with ⟨-, e, h2⟩ | ⟨-, h2⟩
  · rw [e, show (F l.last).length * c.rm + l.pend.length - 1 = (l.pend.length - 1) + (F l.last).length * c.rm by omega, Nat.add_mul_div_right _ _ (by omega), Nat.div_eq_of_lt (by omega)]
    omega
  · exact absurd h2 hp
theorem ld_full (h : RgInv c l m F) {q i : Nat} (hi : i < (F q).length) (hq : l.last < q + c.R) (p : Bool) : c.ld l m q i p = ((F q)[i], 0) := by
  unfold Lc.ld
  rw [if_neg, h.core.sector hi hq]
  rintro ⟨-, rfl, h2, h3⟩
  rw [hit_at h (List.length_pos_iff.1 h2)] at h3
  omega
theorem ld_pend (h : RgInv c l m F) (hp : l.pend ≠ []) : c.ld l m l.last (F l.last).length true = (l.pend, 0) := by
  unfold Lc.ld
  rw [if_pos ⟨rfl, rfl, List.length_pos_iff.2 hp, (hit_at h hp).symm⟩]
theorem flat_at {rm : Nat} : ∀ {x : List (List UInt8)} (i : Nat) (h : i < x.length), (∀ b ∈ x, b.length = rm) → ∃ r, x.flatten.drop (i * rm) = x[i] ++ r
  | b :: x, 0, _, _ => ⟨x.flatten, by simp⟩
  | b :: x, i + 1, h, hb => by
    obtain ⟨r, hr⟩ := flat_at (x := x) i (by simpa using h) (fun y hy => hb y (by simp [hy]))
    refine ⟨r, ?_⟩
    rw [List.flatten_cons, Nat.add_mul, Nat.one_mul, Nat.add_comm, ← List.drop_drop, List.drop_left' (hb b (by simp)), hr]
    rfl
/-- one piece of what is read -/
theorem piece_law (h : RgInv c l m F) {q : Nat} (hq : l.last < q + c.R) {at_ n : Nat} (hn : 1 ≤ n) (hn2 : n ≤ c.rm - at_ % c.rm) (ha : at_ + n ≤ (cont F l q).length) :
    ∃ L, c.ld l m q (at_ / c.rm) true = (L, 0) ∧ at_ % c.rm + n ≤ L.length ∧ (L.drop (at_ % c.rm)).take n = ((cont F l q).drop at_).take n := by
  have hrm := h.rm
  have hdm := Nat.div_add_mod at_ c.rm
  have hm := Nat.mod_lt at_ (show 0 < c.rm by omega)
  have hfl := flat_len (h.core.fb q)
  by_cases hi : at_ / c.rm < (F q).length
  · refine ⟨_, ld_full h hi hq true, ?_, ?_⟩
    · rw [h.core.fb q _ (List.getElem_mem hi)]; omega
    · obtain ⟨r, hr⟩ := flat_at (at_ / c.rm) hi (h.core.fb q)
      have h1 : (at_ / c.rm + 1) * c.rm ≤ (F q).length * c.rm := Nat.mul_le_mul_right _ hi
      rw [Nat.add_mul, Nat.one_mul, Nat.mul_comm] at h1
      have e : (cont F l q).drop at_ = (F q)[at_ / c.rm].drop (at_ % c.rm) ++ (r ++ (if q = l.last then l.pend else [])) := by
        unfold cont
        rw [List.drop_append_of_le_length (by rw [hfl]; omega)]
        rw [show (F q).flatten.drop at_ = ((F q).flatten.drop (at_ / c.rm * c.rm)).drop (at_ % c.rm) by rw [List.drop_drop, Nat.mul_comm, hdm], hr, List.drop_append_of_le_length (by rw [h.core.fb q _ (List.getElem_mem hi)]; omega), List.append_assoc]
      rw [e, List.take_append_of_le_length (by rw [List.length_drop, h.core.fb q _ (List.getElem_mem hi)]; omega)]
  · have hle : (F q).length * c.rm ≤ at_ / c.rm * c.rm := Nat.mul_le_mul_right _ (by omega)
    rw [Nat.mul_comm (at_ / c.rm)] at hle
    have hcl : (cont F l q).length = (F q).length * c.rm + (if q = l.last then l.pend else []).length := by unfold cont; rw [List.length_append, hfl]
    by_cases e : q = l.last
    · subst e
      rw [if_pos rfl] at hcl
      have hp : l.pend ≠ [] := fun e => by rw [e] at hcl; simp at hcl; omega
      have hpl : l.pend.length < c.rm := by
        rcases h.pos with ⟨-, -, h2⟩ | ⟨-, h2⟩
        · exact h2
        · exact absurd h2 hp
      have hk : at_ / c.rm = (F l.last).length := by
        refine Nat.le_antisymm ?_ (by omega)
        rw [← Nat.lt_succ_iff, Nat.div_lt_iff_lt_mul (by omega), Nat.succ_mul]
        omega
      rw [hk] at hdm ⊢
      rw [Nat.mul_comm] at hdm
      refine ⟨_, ld_pend h hp, by omega, ?_⟩
      unfold cont
      rw [if_pos rfl, List.drop_append, List.drop_eq_nil_of_le (show (F l.last).flatten.length ≤ at_ by rw [hfl]; omega), List.nil_append, hfl, show at_ - (F l.last).length * c.rm = at_ % c.rm by omega]
    · rw [if_neg e] at hcl
      simp at hcl
      omega
/-- what was appended is read -/
theorem rd_law (h : RgInv c l m F) {q : Nat} (hq : l.last < q + c.R) : ∀ (f at_ size : Nat) (out : List UInt8), size ≤ f → at_ + size ≤ (cont F l q).length → c.rd l m q (pcs c.rm f at_ size) out = (out ++ ((cont F l q).drop at_).take size, 0)
  | 0, at_, size, out, h1, h2 => by
    obtain rfl : size = 0 := by omega
    simp [pcs, Lc.rd]
  | f + 1, at_, size, out, h1, h2 => by
    have hrm := h.rm
    rw [pcs]
    split
    · rename_i h3
      subst h3
      simp [Lc.rd]
    · have hm := Nat.mod_lt at_ (show 0 < c.rm by omega)
      obtain ⟨n, hn⟩ : ∃ n, min size (c.rm - at_ % c.rm) = n := ⟨_, rfl⟩
      rw [hn]
      obtain ⟨L, e1, e2, e3⟩ := piece_law h hq (at_ := at_) (n := n) (by omega) (by omega) (by omega)
      rw [Lc.rd]
      simp only
      rw [e1, if_neg (by simp), if_neg (by simp only; omega), rd_law h hq f (at_ + n) (size - n) _ (by omega) (by omega), e3, List.append_assoc]
      congr 2
      rw [← List.drop_drop]
      generalize (cont F l q).drop at_ = x
      rw [show size = n + (size - n) by omega, Nat.add_sub_cancel_left, List.take_add]
theorem read_law (h : RgInv c l m F) {q at_ size : Nat} (h1 : c.oldest l ≤ q) (h2 : q ≤ l.last) (h3 : at_ + size ≤ (cont F l q).length) : c.read l m q at_ size = (((cont F l q).drop at_).take size, 0) := by
  have hR := h.core.ok.r1
  have hlen : (cont F l q).length ≤ c.S * c.rm := by
    unfold cont
    rw [List.length_append, flat_len (h.core.fb q)]
    have h4 : (F q).length * c.rm ≤ c.S * c.rm := Nat.mul_le_mul_right _ (h.core.fl q)
    by_cases e : q = l.last
    · subst e
      rw [if_pos rfl]
      rcases h.pos with ⟨-, e, -⟩ | ⟨-, e⟩
      · have := h.atl; omega
      · rw [e]; simp; omega
    · rw [if_neg e]; simp; omega
  unfold Lc.read
  rw [if_pos ⟨⟨by omega, by omega⟩, by omega, by omega, by omega, by omega⟩]
  simp only [Int.toNat_natCast]
  rw [rd_law h (by unfold Lc.oldest at h1; omega) _ _ _ _ (Nat.le_refl _) h3]
  rfl
theorem read_gone (l : Lg) (m : Dev) {a b s : Int} (h : ¬ c.seen l a b s) : c.read l m a b s = ([], 13) := by
  unfold Lc.read
  rw [if_neg h]

/-- whatever is asked for, all of it is told, or nothing -/
theorem ld_code (h : RgCore c l.last m F) {q i : Nat} (hi : i < c.S) (p : Bool) : (c.ld l m q i p).2 = 0 ∨ (c.ld l m q i p).2 = 13 := by
  unfold Lc.ld
  split
  · exact .inl rfl
  · unfold Lc.got
    split
    · split
      · exact .inl rfl
      · exact .inr rfl
    · rw [read_up h.up (h.top (sec_lt h.R1 hi)), if_pos rfl]
      exact .inr rfl
theorem rd_len (h : RgCore c l.last m F) (q : Nat) : ∀ (xs : List Pc) (out : List UInt8), (∀ x ∈ xs, x.at_ / c.rm < c.S) → ((c.rd l m q xs out).2 = 0 ∧ (c.rd l m q xs out).1.length = out.length + (xs.map (·.n)).sum) ∨ c.rd l m q xs out = ([], 13)
  | [], out, _ => .inl ⟨rfl, by simp [Lc.rd]⟩
  | x :: xs, out, hx => by
    rw [Lc.rd]
    rcases ld_code h (hx x (by simp)) true (q := q) with hz | hz
    · rw [if_neg (by rw [hz]; simp)]
      by_cases hlt : (c.ld l m q (x.at_ / c.rm) true).1.length < x.at_ % c.rm + x.n
      · rw [if_pos hlt]
        exact .inr rfl
      · rw [if_neg hlt]
        rcases rd_len h q xs (out ++ ((c.ld l m q (x.at_ / c.rm) true).1.drop (x.at_ % c.rm)).take x.n) (fun y hy => hx y (by simp [hy])) with ⟨e1, e2⟩ | e
        · refine .inl ⟨e1, ?_⟩
          rw [e2]
          simp
          omega
        · exact .inr e
    · rw [if_pos (by rw [hz]; simp), hz]
      exact .inr rfl
theorem pcs_sum (rm : Nat) (hrm : 0 < rm) : ∀ (f at_ size : Nat), size ≤ f → ((pcs rm f at_ size).map (·.n)).sum = size
  | 0, at_, size, h => by
    obtain rfl : size = 0 := by omega
    rfl
  | f + 1, at_, size, h => by
    rw [pcs]
    split
    · rename_i h2
      rw [h2]
      rfl
    · have := Nat.mod_lt at_ hrm
      rw [List.map_cons, List.sum_cons, pcs_sum rm hrm f _ _ (by omega)]
      simp
      omega
theorem read_any_law (h : RgCore c l.last m F) (hl : l.last ≤ 4398046511104) (a b s : Int) :
    (c.seen l a b s ∧ (c.read l m a b s).2 = 0 ∧ (((c.read l m a b s).1.length : Nat) : Int) = s) ∨ ((¬ c.seen l a b s ∨ 0 < s) ∧ c.read l m a b s = ([], 13)) := by
  have hrm := h.ok.m1
  by_cases hs : c.seen l a b s
  · have hs' := hs
    obtain ⟨h1, h2, h3, h4, h5⟩ := hs'
    unfold Lc.read
    rw [if_pos hs]
    obtain ⟨at_, rfl⟩ : ∃ n : Nat, b = (n : Int) := ⟨b.toNat, by omega⟩
    obtain ⟨size, rfl⟩ : ∃ n : Nat, s = (n : Int) := ⟨s.toNat, by omega⟩
    simp only [Int.toNat_natCast]
    have hxs : ∀ x ∈ pcs c.rm size at_ size, x.at_ / c.rm < c.S := fun x hx => by
      obtain ⟨⟨h6, h7⟩, h8⟩ := pcs_mem c.rm (by omega) _ _ _ x hx
      rw [Nat.div_lt_iff_lt_mul (by omega)]
      omega
    rcases rd_len h a.toNat (pcs c.rm size at_ size) [] hxs with ⟨e1, e2⟩ | e
    · refine .inl ⟨hs, e1, ?_⟩
      rw [e2, pcs_sum _ (by omega) _ _ _ (Nat.le_refl _)]
      simp
    · refine .inr ⟨.inr ?_, e⟩
      rcases Nat.eq_zero_or_pos size with h0 | h0
      · subst h0
        exfalso
        simp [pcs, Lc.rd] at e
      · omega
  · exact .inr ⟨.inl hs, read_gone l m hs⟩
end

/-! ### a new device -/
theorem new_core {c : Lc} {n sz : Nat} (hok : c.Ok (Dev.new n sz)) (hw : (Dev.new n sz).Wf) (q : Nat) (hq : q ≤ 4398046511104) : RgCore c q (Dev.new n sz) (fun _ => []) :=
  { ok := hok, wf := hw, up := rfl, un := rfl, lastb := hq, fl := fun _ => Nat.zero_le _, fb := fun _ _ h => by simp at h, beyond := fun _ _ => rfl, zero := rfl, there := fun _ _ h => by simp at h
    other := fun k hk => .inl (by
      have h1 : c.base + k < n := Nat.lt_of_lt_of_le (Nat.add_lt_add_left hk _) hok.top
      unfold Dev.get
      show (lastOf [] _).getD ((List.replicate n (List.replicate sz 0)).getD _ []) = List.replicate sz 0
      rw [List.getD_eq_getElem?_getD, List.getElem?_replicate, if_pos h1]
      rfl) }
theorem new_inv {p : Pl} {n sz : Nat} (hok : (lcOf p).Ok (Dev.new n sz)) (hw : (Dev.new n sz).Wf) : RgInv (lcOf p) (lg0 p) (Dev.new n sz) (fun _ => []) :=
  { core := new_core hok hw 0 (by omega), pos := .inr ⟨rfl, rfl⟩, atl := Nat.le_refl _ }
end Go.Proofs.Ytjkjiabfhhnngaa

/-! A log of the call's own, in memory and in mind. -/
namespace Go.Proofs.Ytjkjiabfhhnngaa
open Go.RowKit Sg
set_option linter.unusedSimpArgs false
set_option linter.unusedVariables false

/-- W: the world at the call's start; X: blocks that the log does not touch -/
structure LogAt (W : World) (X : List Nat) (w : World) (gl g : Nat) (c : Lc) (l : Lg) (m : Dev) (F : Nat → List (List UInt8)) : Prop where
  k : Keep [] W w
  inv : RgInv c l m F
  mem : ∃ D E, RV w D E gl g c l m ∧ ∀ b, (b ∈ E ∨ b ∈ D) → W.heap.size ≤ b ∧ b ∉ X
  lt : ∀ b ∈ X, b < w.heap.size
section
variable {W w w' : World} {X : List Nat} {gl g : Nat} {c : Lc} {l l' : Lg} {m m' : Dev} {F F' : Nat → List (List UInt8)}
theorem rv_lt {D E : List Nat} (h : RV w D E gl g c l m) : ∀ b, (b ∈ E ∨ b ∈ D) → b < w.heap.size := fun b hb => by
  obtain ⟨pv, h⟩ := h
  exact hb.elim (h.lt b) (h.dv.lt b)
theorem LogAt.keep (h : LogAt W X w gl g c l m F) (k : Keep [] w w') : LogAt W X w' gl g c l m F := by
  obtain ⟨D, E, h1, h2⟩ := h.mem
  exact ⟨h.k.trans k, h.inv, ⟨D, E, h1.keep k (by simp), h2⟩, fun b hb => Nat.lt_of_lt_of_le (h.lt b hb) k.size⟩
theorem LogAt.add (h : LogAt W X w gl g c l m F) (k : Keep [] w w') {x : Nat} (h1 : w.heap.size ≤ x) (h2 : x < w'.heap.size) : LogAt W (x :: X) w' gl g c l m F := by
  obtain ⟨D, E, r1, r2⟩ := h.mem
  refine ⟨h.k.trans k, h.inv, ⟨D, E, r1.keep k (by simp), fun b hb => ⟨(r2 b hb).1, fun hm => ?_⟩⟩, fun b hb => ?_⟩
  · rcases List.mem_cons.1 hm with rfl | hm
    · have := rv_lt r1 _ hb; omega
    · exact (r2 b hb).2 hm
  · rcases List.mem_cons.1 hb with rfl | hb
    · exact h2
    · exact Nat.lt_of_lt_of_le (h.lt b hb) k.size
/-- the call's own blocks are written -/
theorem LogAt.own (h : LogAt W X w gl g c l m F) {S : List Nat} (k : Keep S w w') (hS : ∀ b ∈ S, (b ∈ X ∨ w.heap.size ≤ b) ∧ W.heap.size ≤ b) : LogAt W X w' gl g c l m F := by
  obtain ⟨D, E, r1, r2⟩ := h.mem
  refine ⟨h.k.trans' k (fun b hb => .inr (hS b hb).2), h.inv, ⟨D, E, r1.keep k (fun b hb => ?_), r2⟩, fun b hb => Nat.lt_of_lt_of_le (h.lt b hb) k.size⟩
  have hn : ¬ (b ∈ E ∨ b ∈ D) := fun hm => (hS b hb).1.elim (fun hx => (r2 b hm).2 hx) (fun hx => by have := rv_lt r1 _ hm; omega)
  exact ⟨fun hm => hn (.inr hm), fun hm => hn (.inl hm)⟩
theorem LogAt.less (h : LogAt W X w gl g c l m F) {Y : List Nat} (hY : ∀ b ∈ Y, b ∈ X) : LogAt W Y w gl g c l m F := by
  obtain ⟨D, E, r1, r2⟩ := h.mem
  exact ⟨h.k, h.inv, ⟨D, E, r1, fun b hb => ⟨(r2 b hb).1, fun hm => (r2 b hb).2 (hY b hm)⟩⟩, fun b hb => h.lt b (hY b hb)⟩
/-- what a call leaves of the rest -/
structure Rest (X : List Nat) (w w' : World) : Prop where
  size : w.heap.size ≤ w'.heap.size
  same : ∀ b ∈ X, w'.heap[b]? = w.heap[b]?
theorem Rest.cell {X : List Nat} (h : Rest X w w') {p : Addr} (hp : p.block ∈ X) {v : Value} (hv : w.cell? p = some v) : w'.cell? p = some v := by
  rw [World.cell?_of_block (w := w) (h.same _ hp)]; exact hv
theorem Rest.blk {X : List Nat} (h : Rest X w w') {b : Nat} {o : Obj} (hp : b ∈ X) (hv : w.heap[b]? = some o) : w'.heap[b]? = some o := (h.same b hp).trans hv
theorem LogAt.step (h : LogAt W X w gl g c l m F) {D E : List Nat} (r1 : RV w D E gl g c l m) (r2 : ∀ b, (b ∈ E ∨ b ∈ D) → W.heap.size ≤ b ∧ b ∉ X) (hs : LgStep w D E gl g c l' m' w') (hi : RgInv c l' m' F') : LogAt W X w' gl g c l' m' F' ∧ Rest X w w' := by
  obtain ⟨D', E', s1, s2, s3, s4⟩ := hs
  have hn : ∀ b, b ∈ E ++ D → W.heap.size ≤ b ∧ b ∉ X := fun b hb => r2 b (List.mem_append.1 hb)
  refine ⟨⟨h.k.trans' s4 (fun b hb => .inr (hn b hb).1), hi, ⟨D', E', s1, fun b hb => ?_⟩, fun b hb => Nat.lt_of_lt_of_le (h.lt b hb) s4.size⟩, s4.size, fun b hb => s4.block b (h.lt b hb) (fun hm => (hn b hm).2 hb)⟩
  have hor : (b ∈ E ∨ b ∈ D) ∨ w.heap.size ≤ b := by
    rcases hb with hb | hb
    · exact (s3.2 b hb).elim (fun h => .inl (.inl h)) .inr
    · exact (s2.2 b hb).elim (fun h => .inl (.inr h)) .inr
  rcases hor with h1 | h1
  · exact r2 b h1
  · exact ⟨Nat.le_trans h.k.size h1, fun hm => by have := h.lt b hm; omega⟩

/-- what an append does -/
structure AppStep (c : Lc) (l : Lg) (m : Dev) (F : Nat → List (List UInt8)) (b : List UInt8) (l' : Lg) (m' : Dev) (F' : Nat → List (List UInt8)) (a : Nat) : Prop where
  way : (c.S * c.rm < l.at_ + b.length ∧ l'.last = l.last + 1 ∧ a = 0) ∨ (l.at_ + b.length ≤ c.S * c.rm ∧ l'.last = l.last ∧ a = l.at_ ∧ 1 ≤ l.last)
  at_ : l'.at_ = a + b.length
  acts : m'.acts ≤ m.acts + 1 + b.length
  len : (cont F' l' l'.last).length = a + b.length
  tail : (cont F' l' l'.last).drop a = b
  grow : ∀ q, q ≤ l.last → cont F l q <+: cont F' l' q
  same : ∀ q, q < l.last → cont F' l' q = cont F l q
  on : l'.last = l.last → cont F' l' l.last = cont F l l.last ++ b
  new : l'.last = l.last + 1 → cont F' l' l'.last = b ∧ ∃ z, cont F' l' l.last = cont F l l.last ++ List.replicate z 0
theorem append_ok (w : World) (h : LogAt W X w gl g c l m F) (hl : l.last < 4398046511104) (hacts : m.acts ≤ 500000000) (v : Value) (b : List UInt8) (hv : Bytes w v b) (hX : ∀ x, v.ownBlock = some x → x ∈ X) (hb0 : 1 ≤ b.length) (hb : b.length ≤ c.S * c.rm) :
    Calls Try.prog 55 #[.pointer (some ⟨gl, 0, none⟩), v] w fun e w' => ∃ (l' : Lg) (m' : Dev) (F' : Nat → List (List UInt8)) (a : Nat), e = .returned (.tuple #[.agg #[.int .i64 (l'.last : Int), .int .i64 (a : Int), .int .i64 (b.length : Int)], .int .i64 0]) ∧
      AppStep c l m F b l' m' F' a ∧ LogAt W X w' gl g c l' m' F' ∧ Rest X w w' := by
  obtain ⟨D, E, r1, r2⟩ := h.mem
  obtain ⟨l', m', F', a, e1, i1, i2, i3, i4, i5, i6, i7, i8, i9, i10⟩ := append_law h.inv hl b hb0 hb
  refine (appendL_any w D E gl g c l m r1 h.inv.fit hl hacts v b hv (fun _ x hx hm => (r2 x (List.mem_append.1 hm)).2 (hX x hx))).mono ?_
  rintro e w' ⟨rfl, hs⟩
  rw [e1] at hs ⊢
  exact ⟨l', m', F', a, rfl, ⟨i2, i3, i4, i5, i6, i7, i8, i9, i10⟩, h.step r1 r2 hs i1⟩
/-- an append of too few, or of too many bytes -/
theorem append_no (w : World) (h : LogAt W X w gl g c l m F) (hl : l.last < 4398046511104) (hacts : m.acts ≤ 500000000) (v : Value) (b : List UInt8) (hv : Bytes w v b) (hX : ∀ x, v.ownBlock = some x → x ∈ X) (hb0 : b.length = 0 ∨ c.S * c.rm < b.length) :
    Calls Try.prog 55 #[.pointer (some ⟨gl, 0, none⟩), v] w fun e w' => e = .returned (.tuple #[.agg #[.int .i64 0, .int .i64 0, .int .i64 0], .int .i64 (if b.length = 0 then 1 else 9)]) ∧ LogAt W X w' gl g c l m F ∧ Rest X w w' := by
  obtain ⟨D, E, r1, r2⟩ := h.mem
  have e1 : c.append l m b = (l, m, (0, 0, 0), if b.length = 0 then 1 else 9) := by
    unfold Lc.append
    by_cases h0 : b.length = 0
    · rw [if_pos h0, if_pos h0]
    · rw [if_neg h0, if_neg h0, if_pos (by omega)]
  refine (appendL_any w D E gl g c l m r1 h.inv.fit hl hacts v b hv (fun _ x hx hm => (r2 x (List.mem_append.1 hm)).2 (hX x hx))).mono ?_
  rintro e w' ⟨rfl, hs⟩
  rw [e1] at hs ⊢
  exact ⟨rfl, h.step r1 r2 hs h.inv⟩
/-- what a flush does -/
structure FlStep (c : Lc) (l : Lg) (m : Dev) (F : Nat → List (List UInt8)) (l' : Lg) (m' : Dev) (F' : Nat → List (List UInt8)) (z : Nat) : Prop where
  last : l'.last = l.last
  pend : l'.pend = []
  at_ : l'.at_ = l.at_ + z
  zlt : z < c.rm
  mod : l'.at_ % c.rm = 0
  idle : l.pend = [] → z = 0
  acts : m'.acts ≤ m.acts + 1
  same : ∀ q, q ≠ l.last → F' q = F q
  cnt : cont F' l' l.last = cont F l l.last ++ List.replicate z 0
theorem flush_ok (w : World) (h : LogAt W X w gl g c l m F) (hacts : m.acts ≤ 1000000000) :
    Calls Try.prog 51 #[.pointer (some ⟨gl, 0, none⟩)] w fun e w' => ∃ (l' : Lg) (m' : Dev) (F' : Nat → List (List UInt8)) (z : Nat), e = .returned (.int .i64 0) ∧ FlStep c l m F l' m' F' z ∧ LogAt W X w' gl g c l' m' F' ∧ Rest X w w' := by
  obtain ⟨D, E, r1, r2⟩ := h.mem
  obtain ⟨l', m', F', z, e1, i1, i2, i3, i4, i5, i6, i7, i8, i9, i10⟩ := flush_law h.inv
  refine (flushL_any w D E gl g c l m r1 h.inv.fit hacts).mono ?_
  rintro e w' ⟨rfl, hs⟩
  rw [e1] at hs ⊢
  exact ⟨l', m', F', z, rfl, ⟨i2, i3, i4, i5, i6, i7, i8, i9, i10⟩, h.step r1 r2 hs i1⟩
theorem read_ok (w : World) (h : LogAt W X w gl g c l m F) (hacts : m.acts ≤ 1000000000) (a b s : Int) :
    Calls Try.prog 60 #[.pointer (some ⟨gl, 0, none⟩), .agg #[.int .i64 a, .int .i64 b, .int .i64 s]] w fun e w' => ∃ v, e = .returned (.tuple #[v, .int .i64 ((c.read l m a b s).2 : Int)]) ∧ OwnB w' w.heap.size 5 v (c.read l m a b s).1 ∧ Keep [] w w' := by
  obtain ⟨D, E, r1, r2⟩ := h.mem
  exact readL_any w D E gl g c l m r1 hacts h.inv.fit a b s
theorem LogAt.row (h : LogAt W X w gl g c l m F) : ∃ pv, RowL w gl c g l pv := by
  obtain ⟨D, E, ⟨pv, r1⟩, r2⟩ := h.mem
  exact ⟨pv, r1.row⟩
theorem oldest_ok (w : World) (h : LogAt W X w gl g c l m F) : Calls Try.prog 110 #[.pointer (some ⟨gl, 0, none⟩)] w fun e w' => e = .returned (.int .i64 (c.oldest l : Int)) ∧ Keep [] w w' := by
  obtain ⟨pv, hr⟩ := h.row
  exact oldest_any w gl g c l pv hr h.inv.core.ok.r2 h.inv.core.lastb
theorem last_ok (w : World) (h : LogAt W X w gl g c l m F) : Calls Try.prog 52 #[.pointer (some ⟨gl, 0, none⟩)] w fun e w' => e = .returned (.int .i64 (l.last : Int)) ∧ w = w' := by
  obtain ⟨pv, hr⟩ := h.row
  exact last_any w gl g c l pv hr
end

/-- a log upon a new device of the call's own -/
theorem format_ok {W : World} {X : List Nat} (w : World) (hk : Keep [] W w) {D : List Nat} {g n sz : Nat} (h : DV w D g (Dev.new n sz)) (hD : ∀ b ∈ D, W.heap.size ≤ b ∧ b ∉ X) (hX : ∀ b ∈ X, b < w.heap.size) (p : Pl) (hp : p.On (Dev.new n sz)) :
    Calls Try.prog 48 #[.pointer (some ⟨g, 0, none⟩), p.v] w fun e w' => ∃ gl, e = .returned (.tuple #[.pointer (some ⟨gl, 0, none⟩), .int .i64 0]) ∧ LogAt W X w' gl g (lcOf p) (lg0 p) (Dev.new n sz) (fun _ => []) ∧ Keep [] w w' := by
  refine (format_any w D g _ h p).mono ?_
  rintro e w' ⟨hk2, (⟨-, gl, rfl, hgl, hrv⟩ | ⟨hno, -⟩)⟩
  · refine ⟨gl, rfl, ⟨hk.trans hk2, new_inv (lcOf_ok p _ hp) h.1, ⟨D, [gl], hrv, fun b hb => ?_⟩, fun b hb => Nat.lt_of_lt_of_le (hX b hb) hk2.size⟩, hk2⟩
    rcases hb with hb | hb
    · rw [List.mem_singleton.1 hb]
      exact ⟨Nat.le_trans hk.size hgl, fun hm => by have := hX _ hm; omega⟩
    · exact hD b hb
  · exact absurd hp hno

/-- the plan of the statements -/
def smallP : Pl := ⟨60, 96, 3, 2, 4, 2, 8, 0⟩
def smallC : Lc := lcOf smallP
theorem small_on : smallP.On (Dev.new 60 96) := ⟨by decide, rfl, rfl⟩
theorem smallC_R : smallC.R = 3 := rfl
theorem smallC_S : smallC.S = 2 := rfl
theorem smallC_rm : smallC.rm = 77 := rfl
set_option maxRecDepth 100000 in
set_option maxHeartbeats 1000000 in
theorem small_any (w : World) : Calls Try.prog 49 #[] w fun e w' => e = .returned smallP.v ∧ Keep [] w w' := by
  have hA := (Keep.refl [] w).alloc (.cells #[.int .i64 0, .int .i64 0, .int .i64 0, .int .i64 0, .int .i64 0, .int .i64 0, .int .i64 0, .int .u64 0] 92)
  have hB := heap_alloc_new w (.cells #[.int .i64 0, .int .i64 0, .int .i64 0, .int .i64 0, .int .i64 0, .int .i64 0, .int .i64 0, .int .u64 0] 92)
  have HA := Lib.hid hA
  have HB := Lib.hid hB
  clear hA hB
  go_enter Try.func49, Try.ntmps49
  go_wp2_with (refine wpList_store_row rfl 92 (.tmp 0) (.tmp 1) rfl w.heap.size #[.int .i64 60, .int .i64 96, .int .i64 3, .int .i64 2, .int .i64 4, .int .i64 2, .int .i64 8, .int .u64 0] rfl rfl 92 _ HB.out (by kernel_rfl) (by rfl) (by kernel_rfl) ?_)
  exact bodyPost_ret (results_cell_row rfl _ _ w.heap.size 92 _ _ _ rfl (setRow_heap _ _ _ _ _ _ HB.out) Try.underlying92 rfl (by kernel_rfl)) rfl ⟨rfl, HA.out.setRow (.inr (Nat.le_refl _)) _⟩
end Go.Proofs.Ytjkjiabfhhnngaa
