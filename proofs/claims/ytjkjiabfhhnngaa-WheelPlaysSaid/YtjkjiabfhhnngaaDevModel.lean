import Derived.Test.YtjkjiabfhhnngaaMapV
import Derived.Test.YtjkjiabfhhnngaaOwn
/-! A flash device as it is thought of. -/
namespace Sg
open Go Go.RowKit

structure Dev where
  n : Nat
  sz : Nat
  fast : List (List UInt8)
  loose : List (Nat × List UInt8)
  past : List (List (List UInt8))
  armed : Nat
  acts : Nat
  down : Bool

structure Dev.Wf (m : Dev) : Prop where
  n1 : 1 ≤ m.n
  n2 : m.n ≤ 16384
  s1 : 96 ≤ m.sz
  s2 : m.sz ≤ 512
  fl : m.fast.length = m.n
  fs : ∀ k (h : k < m.fast.length), (m.fast[k]).length = m.sz
  pl : m.past.length = m.n
  ps : ∀ k (h : k < m.past.length), (m.past[k]).length ≤ m.acts ∧ ∀ l ∈ m.past[k], l.length = m.sz
  ll : m.loose.length ≤ m.acts
  ls : ∀ p ∈ m.loose, p.1 < m.n ∧ p.2.length = m.sz
  ar : m.armed ≤ 9223372036854775807

def Dev.new (n sz : Nat) : Dev := { n, sz, fast := List.replicate n (List.replicate sz 0), loose := [], past := List.replicate n [], armed := 0, acts := 0, down := false }
def Dev.act (m : Dev) : Dev := { m with acts := m.acts + 1, armed := m.armed - 1, down := if 0 < m.armed then decide (m.armed = 1) else m.down }
def Dev.ready (m : Dev) (at_ : Int) : Nat := if m.down = true then 4 else if 0 ≤ at_ ∧ at_ < m.n then 0 else 2
/-- what a write leaves -/
def Dev.write (m : Dev) (k : Nat) (l : List UInt8) : Dev := { m.act with loose := m.loose ++ [(k, l)], past := m.past.modify k (· ++ [l]) }
def Dev.put (m : Dev) (at_ : Int) (l : List UInt8) : Dev × Nat :=
  if m.ready at_ ≠ 0 then (m, m.ready at_) else if l.length ≠ m.sz then (m, 3) else (m.write at_.toNat l, if m.act.down = true then 4 else 0)
/-- the last loose write of a sector -/
def lastOf (l : List (Nat × List UInt8)) (k : Nat) : Option (List UInt8) := (l.reverse.find? (fun p => p.1 == k)).map (·.2)
def Dev.get (m : Dev) (k : Nat) : List UInt8 := (lastOf m.loose k).getD (m.fast.getD k [])
def Dev.read (m : Dev) (at_ : Int) : List UInt8 × Nat := if m.ready at_ ≠ 0 then ([], m.ready at_) else (m.get at_.toNat, 0)
def Dev.synced (m : Dev) : Dev := { m.act with fast := m.loose.foldl (fun f p => f.set p.1 p.2) m.fast, loose := [] }
def Dev.sync (m : Dev) : Dev × Nat := if m.down = true then (m, 4) else if m.act.down = true then (m.act, 4) else (m.synced, 0)
def fate (fates : List Int) (sz i : Nat) : Nat := if i < fates.length then ((fates.getD i 0).emod (sz + 1)).toNat else 0
/-- one write of a crash -/
def tear (sz : Nat) (fates : List Int) (f : List (List UInt8)) (i : Nat) (p : Nat × List UInt8) : List (List UInt8) :=
  f.set p.1 (p.2.take (fate fates sz i) ++ (f.getD p.1 []).drop (fate fates sz i))
def torn (sz : Nat) (fates : List Int) : List (List UInt8) → Nat → List (Nat × List UInt8) → List (List UInt8)
  | f, _, [] => f
  | f, i, p :: l => torn sz fates (tear sz fates f i p) (i + 1) l
def Dev.crash (m : Dev) (fates : List Int) : Dev := { m with fast := torn m.sz fates m.fast 0 m.loose, loose := [], armed := 0, down := false }
def Dev.arm (m : Dev) (n : Int) : Dev := { m with armed := n.toNat }
def Dev.rot (m : Dev) (at_ b : Int) (mask : UInt8) : Dev × Nat :=
  if (0 ≤ at_ ∧ at_ < m.n) ∧ 0 ≤ b ∧ b < m.sz then ({ m with fast := m.fast.modify at_.toNat (fun l => l.modify b.toNat (· ^^^ mask)) }, 0) else (m, 2)
def Dev.pasts (m : Dev) (at_ : Int) : List (List UInt8) := if 0 ≤ at_ ∧ at_ < m.n then (m.past.getD at_.toNat []).reverse ++ [List.replicate m.sz 0] else []

theorem Dev.new_wf (n sz : Nat) (h : 1 ≤ n ∧ n ≤ 16384 ∧ 96 ≤ sz ∧ sz ≤ 512) : (Dev.new n sz).Wf where
  n1 := h.1
  n2 := h.2.1
  s1 := h.2.2.1
  s2 := h.2.2.2
  fl := by simp [Dev.new]
  fs := by simp [Dev.new]
  pl := by simp [Dev.new]
  ps := by simp [Dev.new]
  ll := by simp [Dev.new]
  ls := by simp [Dev.new]
  ar := by simp [Dev.new]
theorem Dev.Wf.act {m : Dev} (h : m.Wf) : m.act.Wf :=
  { n1 := h.n1, n2 := h.n2, s1 := h.s1, s2 := h.s2, fl := h.fl, fs := h.fs, pl := h.pl,
    ps := fun k hk => ⟨Nat.le_succ_of_le (h.ps k hk).1, (h.ps k hk).2⟩, ll := Nat.le_succ_of_le h.ll, ls := h.ls, ar := Nat.le_trans (Nat.sub_le _ _) h.ar }
theorem Dev.Wf.write {m : Dev} (h : m.Wf) {k : Nat} {l : List UInt8} (hk : k < m.n) (hl : l.length = m.sz) : (m.write k l).Wf :=
  { n1 := h.n1, n2 := h.n2, s1 := h.s1, s2 := h.s2, fl := h.fl, fs := h.fs, pl := (List.length_modify ..).trans h.pl,
    ps := fun j hj => by
      have hj' : j < m.past.length := by simpa [Dev.write] using hj
      have hp := h.ps j hj'
      have e : (m.write k l).past[j] = if k = j then m.past[j] ++ [l] else m.past[j] := by
        simp only [Dev.write, List.getElem_modify]
      rw [e]
      split
      · refine ⟨by simp [Dev.write, Dev.act]; omega, fun x hx => ?_⟩
        rcases List.mem_append.1 hx with hx | hx
        · exact hp.2 x hx
        · rw [List.mem_singleton.1 hx]; exact hl
      · exact ⟨Nat.le_succ_of_le hp.1, hp.2⟩
    ll := by have := h.ll; simp [Dev.write, Dev.act]; omega
    ls := fun p hp => by
      rcases List.mem_append.1 hp with hp | hp
      · exact h.ls p hp
      · rw [List.mem_singleton.1 hp]; exact ⟨hk, hl⟩
    ar := Nat.le_trans (Nat.sub_le _ _) h.ar }
theorem set_lens {f : List (List UInt8)} {sz n : Nat} (hn : f.length = n ∧ ∀ k (h : k < f.length), (f[k]).length = sz) (j : Nat) {l : List UInt8} (hl : l.length = sz) :
    (f.set j l).length = n ∧ ∀ k (h : k < (f.set j l).length), ((f.set j l)[k]).length = sz := by
  refine ⟨by simpa using hn.1, fun k hk => ?_⟩
  rw [List.getElem_set]
  split
  · exact hl
  · exact hn.2 k (by simpa using hk)
theorem foldl_set_lens {sz n : Nat} : ∀ (ls : List (Nat × List UInt8)) (f : List (List UInt8)), (f.length = n ∧ ∀ k (h : k < f.length), (f[k]).length = sz) → (∀ p ∈ ls, p.2.length = sz) →
    (ls.foldl (fun f p => f.set p.1 p.2) f).length = n ∧ ∀ k (h : k < (ls.foldl (fun f p => f.set p.1 p.2) f).length), ((ls.foldl (fun f p => f.set p.1 p.2) f)[k]).length = sz
  | [], _, h, _ => h
  | p :: ls, f, h, hl => foldl_set_lens ls (f.set p.1 p.2) (set_lens h p.1 (hl p (by simp))) (fun q hq => hl q (by simp [hq]))
theorem Dev.Wf.synced {m : Dev} (h : m.Wf) : m.synced.Wf :=
  have hh := foldl_set_lens m.loose m.fast ⟨h.fl, h.fs⟩ (fun p hp => (h.ls p hp).2)
  { n1 := h.n1, n2 := h.n2, s1 := h.s1, s2 := h.s2, fl := hh.1, fs := hh.2, pl := h.pl, ps := fun k hk => ⟨Nat.le_succ_of_le (h.ps k hk).1, (h.ps k hk).2⟩, ll := Nat.zero_le _, ls := by simp [Dev.synced], ar := Nat.le_trans (Nat.sub_le _ _) h.ar }
theorem fate_le (fates : List Int) (sz i : Nat) : fate fates sz i ≤ sz := by
  unfold fate
  split
  · have h1 := Int.emod_lt_of_pos (fates.getD i 0) (show (0 : Int) < (sz : Int) + 1 by omega)
    have h2 := Int.emod_nonneg (fates.getD i 0) (show (sz : Int) + 1 ≠ 0 by omega)
    have h3 : ((fates.getD i 0).emod (sz + 1)) = (fates.getD i 0) % ((sz : Int) + 1) := rfl
    omega
  · omega
theorem tear_lens {sz n : Nat} {f : List (List UInt8)} (fates : List Int) (hn : f.length = n ∧ ∀ k (h : k < f.length), (f[k]).length = sz) (i : Nat) {p : Nat × List UInt8} (hp : p.1 < n ∧ p.2.length = sz) :
    (tear sz fates f i p).length = n ∧ ∀ k (h : k < (tear sz fates f i p).length), ((tear sz fates f i p)[k]).length = sz := by
  refine set_lens hn p.1 ?_
  have hk : p.1 < f.length := by rw [hn.1]; exact hp.1
  have := fate_le fates sz i
  have h2 := hn.2 p.1 hk
  rw [List.getD_eq_getElem?_getD, List.getElem?_eq_getElem hk, Option.getD_some, List.length_append, List.length_take, List.length_drop, h2, hp.2]
  omega
theorem torn_lens {sz n : Nat} (fates : List Int) : ∀ (ls : List (Nat × List UInt8)) (f : List (List UInt8)) (i : Nat), (f.length = n ∧ ∀ k (h : k < f.length), (f[k]).length = sz) → (∀ p ∈ ls, p.1 < n ∧ p.2.length = sz) →
    (torn sz fates f i ls).length = n ∧ ∀ k (h : k < (torn sz fates f i ls).length), ((torn sz fates f i ls)[k]).length = sz
  | [], _, _, h, _ => h
  | p :: ls, f, i, h, hl => torn_lens fates ls _ (i + 1) (tear_lens fates h i (hl p (by simp))) (fun q hq => hl q (by simp [hq]))
theorem Dev.Wf.crash {m : Dev} (h : m.Wf) (fates : List Int) : (m.crash fates).Wf :=
  have hh := torn_lens fates m.loose m.fast 0 ⟨h.fl, h.fs⟩ (fun p hp => h.ls p hp)
  { n1 := h.n1, n2 := h.n2, s1 := h.s1, s2 := h.s2, fl := hh.1, fs := hh.2, pl := h.pl, ps := h.ps, ll := Nat.zero_le _, ls := by simp [Dev.crash], ar := by simp [Dev.crash] }
theorem Dev.get_length {m : Dev} (h : m.Wf) {k : Nat} (hk : k < m.n) : (m.get k).length = m.sz := by
  unfold Dev.get lastOf
  cases hf : m.loose.reverse.find? (fun p => p.1 == k) with
  | none =>
    have hk' : k < m.fast.length := by rw [h.fl]; exact hk
    simp only [Option.map_none, Option.getD_none]
    rw [List.getD_eq_getElem?_getD, List.getElem?_eq_getElem hk', Option.getD_some]
    exact h.fs k hk'
  | some p =>
    have := List.mem_of_find?_eq_some hf
    exact (h.ls p (by simpa using this)).2
end Sg
