import Derived.Test.YtjkjiabfhhnngaaDlKit
import Derived.Test.YtjkjiabfhhnngaaStormDev
/-! What a crash leaves of a log: the plain law. -/
namespace Go.Proofs.Ytjkjiabfhhnngaa
open Go.RowKit Sg
set_option linter.unusedSimpArgs false
set_option linter.unusedVariables false

/-- the sector of a batch -/
def btb (x : Bt) : List UInt8 := lbuild 96 4 (x.1 % 5) x.1 (dload x.2.1 x.2.2)
structure BtOk (x : Bt) : Prop where
  t : x.2.1 ≤ 281474976710656
  g : GoodC x.2.2
  n : x.2.2.length ≤ 3
  s : x.1 ≤ 1099511628032
theorem BtOk.back {x : Bt} (h : BtOk x) : lk (btb x) = 4 ∧ lp (btb x) = x.1 % 5 ∧ ls (btb x) = x.1 ∧ ll (btb x) = dload x.2.1 x.2.2 ∧ LeafOk (btb x) ∧ (btb x).length = 96 := by
  have hn := h.n
  have hs := h.s
  have hl : (dload x.2.1 x.2.2).length + 19 ≤ 96 := by rw [dload_len]; omega
  have hc : lcode 96 4 (x.1 % 5 : Nat) (x.1 : Nat) (dload x.2.1 x.2.2).length = 0 := lcode_fine (k := 4) ⟨by decide, by decide⟩ ⟨by decide, by decide⟩ (by omega) hl
  obtain ⟨g1, g2, g3, g4, g5, g6, g7⟩ := leaf_back 96 4 (x.1 % 5) x.1 (dload x.2.1 x.2.2) hc (by omega)
  exact ⟨g1, g3, g4, g5, g6, g7⟩

/-- a log on a device that may go down: B, all batches that were written; those below s are fast -/
structure Sd (l : Dl) (m : Dev) (B : List Bt) (s : Nat) (added : List Ch) (sure : Nat) : Prop where
  wf : m.Wf
  n60 : m.n = 60
  s96 : m.sz = 96
  fit : l.Fit dc12
  pl : l.pend.length < 3
  left : l.nx ≤ l.fr + 5
  nx : l.nx = B.length + 1
  bn : ∀ i (h : i < B.length), B[i].1 = i + 1
  bo : ∀ x ∈ B, BtOk x
  ps : ∀ a, a < 5 → ∀ y ∈ m.past.getD (2 + a) [], ∃ x ∈ B, x.1 % 5 = a ∧ y = btb x
  s1 : l.fr ≤ s
  s2 : s ≤ l.nx
  get : ∀ x ∈ B, l.fr ≤ x.1 → m.get (2 + x.1 % 5) = btb x
  fast : ∀ x ∈ B, l.fr ≤ x.1 → x.1 < s → m.fast.getD (2 + x.1 % 5) [] = btb x ∧ ∀ p ∈ m.loose, p.1 ≠ 2 + x.1 % 5
  ad : added = bch (B.drop (l.fr - 1)) ++ l.pend
  su : sure = (bch ((B.drop (l.fr - 1)).take (s - l.fr))).length
section
variable {l : Dl} {m : Dev} {B : List Bt} {s : Nat} {added : List Ch} {sure : Nat}
theorem Sd.num (h : Sd l m B s added sure) {x : Bt} (hx : x ∈ B) : 1 ≤ x.1 ∧ x.1 < l.nx := by
  obtain ⟨i, hi, rfl⟩ := List.getElem_of_mem hx
  rw [h.bn i hi, h.nx]
  omega
theorem bch_append (a b : List Bt) : bch (a ++ b) = bch a ++ bch b := by simp [bch]
/-- a batch is written -/
theorem Sd.wr (h : Sd l m B s added sure) (hd : m.down = false) (hn : l.nx < 1099511628032) (hlt : l.nx < l.fr + 5) {t : Nat} (ht : t ≤ 281474976710656) {p q : List Ch} (hp : p = l.pend ++ q) (hpl : p.length ≤ 3) (hg : GoodC p) :
    ∃ m' r, dc12.wr { l with pend := p } m t = (⟨l.fr, l.nx + 1, t, []⟩, m', r) ∧ Sd ⟨l.fr, l.nx + 1, t, []⟩ m' (B ++ [(l.nx, t, p)]) s (added ++ q) sure ∧ m'.acts = m.acts + 1 ∧ ((r = 0 ∧ m'.down = false) ∨ (r = 4 ∧ m'.down = true)) := by
  have hfit := h.fit
  have hnx := h.nx
  have hs2 := h.s2
  have hl5 := h.left
  have hok : BtOk (l.nx, t, p) := ⟨ht, hg, hpl, by show l.nx ≤ _; omega⟩
  obtain ⟨g1, g2, g3, g4, g5, g6⟩ := hok.back
  have hk : 2 + l.nx % 5 < m.n := by rw [h.n60]; omega
  have hput := put_up hd hk (b := btb (l.nx, t, p)) (by rw [g6, h.s96])
  have hl : (dload t p).length + 19 ≤ 96 := by rw [dload_len]; omega
  have hc : lcode (m.sz : Nat) 4 (l.nx % 5 : Nat) (l.nx : Nat) (dload t p).length = 0 := by rw [h.s96]; exact lcode_fine (k := 4) ⟨by decide, by decide⟩ ⟨by decide, by decide⟩ (by omega) hl
  have hf1 := hfit.f1
  have hfn := hfit.fn
  have hdrop : (B ++ [(l.nx, t, p)]).drop (l.fr - 1) = B.drop (l.fr - 1) ++ [(l.nx, t, p)] := by rw [List.drop_append_of_le_length (by omega)]
  refine ⟨m.write (2 + l.nx % 5) (btb (l.nx, t, p)), if m.act.down = true then 4 else 0, ?_, ?_, rfl, ?_⟩
  · unfold Dc.wr
    show (_, lput m ((2 + l.nx % 5 : Nat) : Int) 4 ((l.nx % 5 : Nat) : Int) (l.nx : Int) (dload t p)) = _
    unfold lput
    rw [if_neg (by rw [hc]; simp)]
    have e4 : (4 : Int).toNat = 4 := rfl
    simp only [Int.toNat_natCast, h.s96, e4]
    have e : lbuild 96 4 (l.nx % 5) l.nx (dload t p) = btb (l.nx, t, p) := rfl
    rw [e, hput]
    generalize btb (l.nx, t, p) = L
    by_cases hda : m.act.down = true
    · simp only [if_pos hda]
      rfl
    · simp only [if_neg hda]
      rfl
  · refine { wf := h.wf.write hk (by rw [g6, h.s96]), n60 := h.n60, s96 := h.s96, fit := ⟨hf1, Nat.le_succ_of_le hfn, hn, Nat.zero_le _, ht, ⟨fun x hx => by simp at hx, fun x hx => by simp at hx⟩⟩, pl := (by decide : 0 < 3), left := hlt, nx := by simp; omega, bn := fun i hi => ?_, bo := fun x hx => ?_, ps := fun a ha y hy => ?_, s1 := h.s1, s2 := Nat.le_succ_of_le hs2, get := fun x hx hfx => ?_, fast := fun x hx hfx hxs => ?_, ad := ?_, su := ?_ }
    · by_cases hiB : i < B.length
      · rw [List.getElem_append_left hiB]
        exact h.bn i hiB
      · have : i = B.length := by simp at hi; omega
        subst this
        simp
        omega
    · rcases List.mem_append.1 hx with hx | hx
      · exact h.bo x hx
      · rw [List.mem_singleton.1 hx]; exact hok
    · rcases past_write m _ _ _ y hy with hy | ⟨e, rfl⟩
      · obtain ⟨x, h1, h2, h3⟩ := h.ps a ha y hy
        exact ⟨x, List.mem_append_left _ h1, h2, h3⟩
      · exact ⟨_, List.mem_append_right _ (List.mem_singleton.2 rfl), by show l.nx % 5 = a; omega, rfl⟩
    · rw [Dev.get_write]
      rcases List.mem_append.1 hx with hx | hx
      · have h1 := h.num hx
        have hfx' : l.fr ≤ x.1 := hfx
        rw [if_neg (by omega)]
        exact h.get x hx hfx
      · rw [List.mem_singleton.1 hx]
        rw [if_pos rfl]
    · rcases List.mem_append.1 hx with hx | hx
      · have h1 := h.num hx
        have hfx' : l.fr ≤ x.1 := hfx
        obtain ⟨f1, f2⟩ := h.fast x hx hfx hxs
        refine ⟨f1, fun p hp => ?_⟩
        rcases List.mem_append.1 hp with hp | hp
        · exact f2 p hp
        · rw [List.mem_singleton.1 hp]
          show 2 + l.nx % 5 ≠ _
          omega
      · have e := List.mem_singleton.1 hx
        rw [e] at hxs
        have hxs' : l.nx < s := hxs
        omega
    · show added ++ q = bch ((B ++ [(l.nx, t, p)]).drop (l.fr - 1)) ++ []
      rw [hdrop, bch_append, List.append_nil, h.ad, List.append_assoc, ← hp]
      simp [bch]
    · show sure = (bch (((B ++ [(l.nx, t, p)]).drop (l.fr - 1)).take (s - l.fr))).length
      rw [hdrop, List.take_append_of_le_length (by rw [List.length_drop]; omega)]
      exact h.su
  · by_cases hda : m.act.down = true
    · rw [if_pos hda]
      exact .inr ⟨rfl, hda⟩
    · rw [if_neg hda]
      exact .inl ⟨rfl, by show m.act.down = false; simpa using hda⟩
/-- a change waits -/
theorem Sd.more (h : Sd l m B s added sure) {x : Ch} (hx : GoodC (l.pend ++ [x])) (hl : l.pend.length + 1 < 3) : Sd { l with pend := l.pend ++ [x] } m B s (added ++ [x]) sure :=
  { wf := h.wf, n60 := h.n60, s96 := h.s96, fit := ⟨h.fit.f1, h.fit.fn, h.fit.nb, by show (l.pend ++ [x]).length ≤ 3; simp; omega, h.fit.t, hx⟩, pl := by simp; omega, left := h.left, nx := h.nx, bn := h.bn, bo := h.bo, ps := h.ps, s1 := h.s1, s2 := h.s2, get := h.get, fast := h.fast, ad := by rw [h.ad, List.append_assoc], su := h.su }
/-- a sync: it goes down, or all is fast -/
theorem Sd.sync (h : Sd l m B s added sure) (hd : m.down = false) : (m.sync.2 = 4 ∧ m.sync.1.down = true ∧ m.sync.1.acts = m.acts + 1 ∧ Sd l m.sync.1 B s added sure) ∨
    (m.sync.2 = 0 ∧ m.sync.1.down = false ∧ m.sync.1.acts = m.acts + 1 ∧ Sd l m.sync.1 B l.nx added (bch (B.drop (l.fr - 1))).length) := by
  unfold Dev.sync
  rw [if_neg (by rw [hd]; simp)]
  by_cases h2 : m.act.down = true
  · rw [if_pos h2]
    exact .inl ⟨rfl, h2, rfl, { wf := h.wf.act, n60 := h.n60, s96 := h.s96, fit := h.fit, pl := h.pl, left := h.left, nx := h.nx, bn := h.bn, bo := h.bo, ps := h.ps, s1 := h.s1, s2 := h.s2, get := h.get, fast := h.fast, ad := h.ad, su := h.su }⟩
  · rw [if_neg h2]
    have hnx := h.nx
    have hfn := h.fit.fn
    have hf1 := h.fit.f1
    have h2' : m.synced.down = false := by
      show m.act.down = false
      simpa using h2
    refine .inr ⟨rfl, h2', rfl, { wf := h.wf.synced, n60 := h.n60, s96 := h.s96, fit := h.fit, pl := h.pl, left := h.left, nx := h.nx, bn := h.bn, bo := h.bo, ps := h.ps, s1 := h.fit.fn, s2 := Nat.le_refl _, get := fun x hx hf => ?_, fast := fun x hx hf _ => ⟨?_, fun p hp => by simp [Dev.synced] at hp⟩, ad := h.ad, su := ?_ }⟩
    · rw [(synced_get h.wf _).1]
      exact h.get x hx hf
    · rw [(synced_get h.wf _).2]
      exact h.get x hx hf
    · rw [List.take_of_length_le (by rw [List.length_drop]; omega)]
/-- a restart -/
theorem Sd.restart (h : Sd l m B s added sure) : Sd ⟨l.nx, l.nx, l.tm, []⟩ m B l.nx [] 0 := by
  have hnx := h.nx
  have e : B.drop (l.nx - 1) = [] := List.drop_of_length_le (by omega)
  refine { wf := h.wf, n60 := h.n60, s96 := h.s96, fit := ⟨Nat.le_trans h.fit.f1 h.fit.fn, Nat.le_refl _, h.fit.nb, Nat.zero_le _, h.fit.t, ⟨fun x hx => by simp at hx, fun x hx => by simp at hx⟩⟩, pl := (by decide : 0 < 3), left := Nat.le_add_right _ _, nx := h.nx, bn := h.bn, bo := h.bo, ps := h.ps, s1 := Nat.le_refl _, s2 := Nat.le_refl _, get := fun x hx hf => ?_, fast := fun x hx hf _ => ?_, ad := ?_, su := ?_ }
  · have h1 := h.num hx
    have hf' : l.nx ≤ x.1 := hf
    omega
  · have h1 := h.num hx
    have hf' : l.nx ≤ x.1 := hf
    omega
  · show [] = bch (B.drop (l.nx - 1)) ++ []
    rw [e]; rfl
  · show 0 = (bch ((B.drop (l.nx - 1)).take _)).length
    rw [e]; simp [bch]
/-- what stands behind a crash -/
def Stands (B : List Bt) (fr s : Nat) (G : Nat → Option Bt) : Prop := (∀ a, a < 5 → ∀ x, G a = some x → x ∈ B ∧ x.1 % 5 = a) ∧ ∀ x ∈ B, fr ≤ x.1 → x.1 < s → G (x.1 % 5) = some x
theorem dsec_btb {m : Dev} (hd : m.down = false) (hn : m.n = 60) {x : Bt} (hx : BtOk x) (hg : m.get (2 + x.1 % 5) = btb x) : DSec dc12 m (x.1 % 5) (some x) := by
  obtain ⟨g1, g2, g3, g4, g5, g6⟩ := hx.back
  have hr : m.read ((dc12.first + x.1 % 5 : Nat) : Int) = (btb x, 0) := by
    rw [read_up hd (by rw [hn]; show 2 + x.1 % 5 < 60; omega)]
    show (m.get (2 + x.1 % 5), 0) = _
    rw [hg]
  obtain ⟨st, t, p⟩ := x
  unfold DSec lgot
  rw [hr]
  have := hx.n
  exact ⟨⟨rfl, g5, by rw [g1]; rfl, by rw [g2]⟩, g3, g4, hx.t, hx.g, by show p.length ≤ 255; have : p.length ≤ 3 := hx.n; omega⟩
theorem Sd.crash (h : Sd l m B s added sure) {fates : List Int} (hc : Clean (m.crash fates)) : ∃ G : Nat → Option Bt, (∀ a, a < 5 → DSec dc12 (m.crash fates) a (G a)) ∧ Stands B l.fr s G := by
  have hd : (m.crash fates).down = false := rfl
  have hn : (m.crash fates).n = 60 := h.n60
  have each : ∀ a, ∃ o : Option Bt, a < 5 → DSec dc12 (m.crash fates) a o ∧ (∀ x, o = some x → x ∈ B ∧ x.1 % 5 = a) ∧ ∀ x ∈ B, l.fr ≤ x.1 → x.1 < s → x.1 % 5 = a → o = some x := by
    intro a
    by_cases ha : a < 5
    · by_cases hs : ∃ x ∈ B, l.fr ≤ x.1 ∧ x.1 < s ∧ x.1 % 5 = a
      · obtain ⟨x, hx, h1, h2, h3⟩ := hs
        obtain ⟨f1, f2⟩ := h.fast x hx h1 h2
        refine ⟨some x, fun _ => ⟨?_, fun y hy => ?_, fun y hy y1 y2 y3 => ?_⟩⟩
        · rw [← h3]
          exact dsec_btb hd hn (h.bo x hx) ((crash_get f2).trans f1)
        · injection hy with hy
          rw [← hy]
          exact ⟨hx, h3⟩
        · have hl5 := h.left
          have hs2 := h.s2
          have e : x.1 = y.1 := by omega
          obtain ⟨i, hi, rfl⟩ := List.getElem_of_mem hx
          obtain ⟨j, hj, rfl⟩ := List.getElem_of_mem hy
          rw [h.bn i hi, h.bn j hj] at e
          have e2 : i = j := by omega
          subst e2
          rfl
      · by_cases ho : LeafOk ((m.crash fates).get (2 + a))
        · have h1 := crash_past hc (k := 2 + a) (by rw [h.n60]; omega) ho
          obtain ⟨x, hx, h2, h3⟩ := h.ps a ha _ h1
          refine ⟨some x, fun _ => ⟨?_, fun y hy => ?_, fun y hy y1 y2 y3 => absurd ⟨y, hy, y1, y2, y3⟩ hs⟩⟩
          · rw [← h2]
            exact dsec_btb hd hn (h.bo x hx) (by rw [h2]; exact h3)
          · injection hy with hy
            rw [← hy]
            exact ⟨hx, h2⟩
        · refine ⟨none, fun _ => ⟨?_, fun y hy => (by cases hy), fun y hy y1 y2 y3 => absurd ⟨y, hy, y1, y2, y3⟩ hs⟩⟩
          have hr : (m.crash fates).read ((dc12.first + a : Nat) : Int) = ((m.crash fates).get (2 + a), 0) := by
            rw [read_up hd (by rw [hn]; show 2 + a < 60; omega)]
            rfl
          unfold DSec lgot
          rw [hr]
          exact ⟨fun hh => ho hh.2.1, rfl⟩
    · exact ⟨none, fun h => absurd h ha⟩
  refine ⟨fun a => Classical.choose (each a), fun a ha => (Classical.choose_spec (each a) ha).1, fun a ha => (Classical.choose_spec (each a) ha).2.1, fun x hx h1 h2 => ?_⟩
  exact (Classical.choose_spec (each (x.1 % 5)) (Nat.mod_lt _ (by decide))).2.2 x hx h1 h2 rfl
theorem Sd.runs (h : Sd l m B s added sure) {G : Nat → Option Bt} (hG : Stands B l.fr s G) : ∀ f n, l.fr ≤ n → ∃ k, druns 5 G f n = (B.drop (n - 1)).take k ∧ min f (s - n) ≤ k := by
  have hf1 := h.fit.f1
  have hnx := h.nx
  have hs2 := h.s2
  intro f
  induction f with
  | zero => intro n _; exact ⟨0, by simp [druns], by simp⟩
  | succ f ih =>
    intro n hn
    unfold druns
    by_cases hd : (dget (G (n % 5)) n).1 = true
    · rw [if_pos hd]
      obtain ⟨x, hx, hx1⟩ : ∃ x : Bt, G (n % 5) = some x ∧ x.1 = n := by
        unfold dget at hd
        split at hd
        next st t p e =>
          split at hd
          next e2 => exact ⟨_, e, e2⟩
          next => simp at hd
        next => simp at hd
      obtain ⟨hxB, -⟩ := hG.1 _ (Nat.mod_lt _ (by decide)) x hx
      obtain ⟨i, hi, rfl⟩ := List.getElem_of_mem hxB
      have hbi := h.bn i hi
      have hin : i = n - 1 := by omega
      subst hin
      obtain ⟨k, hk, hk2⟩ := ih (n + 1) (by omega)
      refine ⟨k + 1, ?_, by omega⟩
      rw [hk, show n + 1 - 1 = n by omega, List.drop_eq_getElem_cons hi, List.take_succ_cons, show n - 1 + 1 = n by omega, hx]
      generalize B[n - 1] = x at hx1
      obtain ⟨st, t, p⟩ := x
      have hx1' : st = n := hx1
      subst hx1'
      unfold dget
      simp
    · rw [if_neg hd]
      refine ⟨0, by simp, ?_⟩
      rcases Nat.lt_or_ge n s with hlt | hge
      · exfalso
        apply hd
        have hi : n - 1 < B.length := by omega
        have hb := h.bn (n - 1) hi
        have hbn : B[n - 1].1 = n := by omega
        have h2 := hG.2 B[n - 1] (List.getElem_mem hi) (by rw [hbn]; exact hn) (by rw [hbn]; exact hlt)
        rw [hbn] at h2
        rw [h2]
        unfold dget
        simp [hbn]
      · omega
theorem bch_take_le (L : List Bt) {j k : Nat} (h : j ≤ k) : (bch (L.take j)).length ≤ (bch (L.take k)).length := by
  obtain ⟨d, rfl⟩ := Nat.exists_eq_add_of_le h
  rw [List.take_add, bch_append, List.length_append]
  omega
/-- what is read is the beginning, and all that was fast -/
theorem Sd.told (h : Sd l m B s added sure) {G : Nat → Option Bt} (hG : Stands B l.fr s G) : bch (druns 5 G 5 l.fr) <+: added ∧ sure ≤ (bch (druns 5 G 5 l.fr)).length := by
  obtain ⟨k, h1, h2⟩ := h.runs hG 5 l.fr (Nat.le_refl _)
  have hl5 := h.left
  have hs2 := h.s2
  rw [h1, h.ad, h.su]
  refine ⟨?_, bch_take_le _ (by omega)⟩
  refine List.IsPrefix.trans ⟨bch ((B.drop (l.fr - 1)).drop k), ?_⟩ (List.prefix_append _ _)
  rw [← bch_append, List.take_append_drop]
end
end Go.Proofs.Ytjkjiabfhhnngaa
