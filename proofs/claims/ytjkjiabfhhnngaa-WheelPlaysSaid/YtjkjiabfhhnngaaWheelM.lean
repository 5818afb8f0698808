import Derived.Test.YtjkjiabfhhnngaaMapZ
/-! A wheel as it is thought of: a time, things in order; where a thing lies. -/
namespace Sg
set_option linter.unusedSimpArgs false
set_option linter.unusedVariables false
open Go Go.RowKit

def top48 : Nat := 281474976710656
/-- the ring of what is due at a, at time t (6: beyond the last) -/
def ringOf (t a : Nat) : Nat := ((List.range 6).find? (fun r => a / 64 ^ (r + 1) == t / 64 ^ (r + 1))).getD 6
theorem ringOf_le (t a : Nat) : ringOf t a ≤ 6 := by
  unfold ringOf
  cases h : (List.range 6).find? (fun r => a / 64 ^ (r + 1) == t / 64 ^ (r + 1)) with
  | none => simp
  | some r =>
    have := List.mem_of_find?_eq_some h
    simp at this
    simp
    omega
theorem ringOf_eq {t a : Nat} (h : ringOf t a < 6) : a / 64 ^ (ringOf t a + 1) = t / 64 ^ (ringOf t a + 1) := by
  unfold ringOf at *
  cases hf : (List.range 6).find? (fun r => a / 64 ^ (r + 1) == t / 64 ^ (r + 1)) with
  | none => rw [hf] at h; simp at h
  | some r =>
    have := List.find?_some hf
    simpa using this
theorem ringOf_min {t a r : Nat} (hr : r < 6) (h : a / 64 ^ (r + 1) = t / 64 ^ (r + 1)) : ringOf t a ≤ r := by
  unfold ringOf
  cases hf : (List.range 6).find? (fun r => a / 64 ^ (r + 1) == t / 64 ^ (r + 1)) with
  | none =>
    rw [List.find?_eq_none] at hf
    have := hf r (by simp; exact hr)
    simp [h] at this
  | some q =>
    simp only [Option.getD_some]
    rw [List.find?_range_eq_some] at hf
    rcases Nat.lt_or_ge r q with hlt | hge
    · have := hf.2.2 r hlt
      simp [h] at this
    · exact hge
theorem ringOf_ne {t a r : Nat} (hr : r < ringOf t a) : a / 64 ^ (r + 1) ≠ t / 64 ^ (r + 1) := fun e => by
  have := ringOf_min (t := t) (a := a) (r := r) (by have := ringOf_le t a; omega) e
  omega
/-- its place -/
def plc (t a : Nat) : Nat := if ringOf t a < 6 then 64 * ringOf t a + a / 64 ^ ringOf t a % 64 else 384
theorem plc_le (t a : Nat) : plc t a ≤ 384 := by
  unfold plc
  split
  · have := Nat.mod_lt (a / 64 ^ ringOf t a) (show 0 < 64 by omega)
    omega
  · omega
theorem div_sand {t a b d : Nat} (h1 : t ≤ a) (h2 : a ≤ b) (h : b / d = t / d) : a / d = t / d := by
  have h3 := Nat.div_le_div_right (c := d) h1
  have h4 := Nat.div_le_div_right (c := d) h2
  omega
theorem div64 (a r : Nat) : a / 64 ^ (r + 1) = a / 64 ^ r / 64 := by rw [Nat.pow_succ, Nat.div_div_eq_div_mul]
theorem plc_mono {t a b : Nat} (h1 : t ≤ a) (h2 : a ≤ b) : plc t a ≤ plc t b := by
  by_cases hb : ringOf t b < 6
  · have eb := ringOf_eq hb
    have ea := div_sand h1 h2 eb
    have hr := ringOf_min hb ea
    have ha : ringOf t a < 6 := by omega
    have eb' : plc t b = 64 * ringOf t b + b / 64 ^ ringOf t b % 64 := if_pos hb
    have ea' : plc t a = 64 * ringOf t a + a / 64 ^ ringOf t a % 64 := if_pos ha
    rcases Nat.lt_or_ge (ringOf t a) (ringOf t b) with hlt | hge
    · have := Nat.mod_lt (a / 64 ^ ringOf t a) (show 0 < 64 by omega)
      omega
    · have hre : ringOf t a = ringOf t b := by omega
      rw [ea', eb', hre]
      rw [div64] at ea eb
      have h3 := Nat.div_le_div_right (c := 64 ^ ringOf t b) h2
      omega
  · have : plc t b = 384 := if_neg hb
    rw [this]
    exact plc_le t a
/-- in its ring it lies not behind the present -/
theorem plc_from {t a : Nat} (h : t ≤ a) (hr : ringOf t a < 6) : t / 64 ^ ringOf t a % 64 ≤ a / 64 ^ ringOf t a % 64 := by
  have e := ringOf_eq hr
  rw [div64, div64] at e
  have h3 := Nat.div_le_div_right (c := 64 ^ ringOf t a) h
  omega
/-- the place that is cleared of a ring as the time becomes u -/
def cl (u r : Nat) : Nat := if r + 1 < 6 then 64 * (r + 1) + u / 64 ^ (r + 1) % 64 else 384
theorem cl_le (u r : Nat) : cl u r ≤ 384 := by
  unfold cl
  split
  · have := Nat.mod_lt (u / 64 ^ (r + 1)) (show 0 < 64 by omega)
    omega
  · omega
theorem plc_move {t u a : Nat} (h1 : t ≤ u) (h2 : u ≤ a) (h : plc t a ≠ plc u a) : ∃ r, r < 6 ∧ t / 64 ^ (r + 1) ≠ u / 64 ^ (r + 1) ∧ plc t a = cl u r := by
  have hle := ringOf_le t a
  have hle' := ringOf_le u a
  have hru : ringOf u a ≤ ringOf t a := by
    rcases Nat.lt_or_ge (ringOf t a) 6 with hl | hg
    · refine ringOf_min hl ?_
      have := ringOf_eq hl
      rw [this, div_sand h1 h2 this]
    · omega
  have hne : ringOf u a ≠ ringOf t a := fun e => h (by unfold plc; rw [e])
  obtain ⟨r, hr⟩ : ∃ r, ringOf t a = r + 1 := ⟨ringOf t a - 1, by omega⟩
  have hr6 : ringOf u a < 6 := by omega
  have hr1 : a / 64 ^ (r + 1) = u / 64 ^ (r + 1) := by
    have e := ringOf_eq hr6
    have hd : r + 1 = ringOf u a + 1 + (r - ringOf u a) := by omega
    rw [hd, Nat.pow_add, ← Nat.div_div_eq_div_mul, e, Nat.div_div_eq_div_mul]
  refine ⟨r, by omega, fun e => ?_, ?_⟩
  · exact ringOf_ne (t := t) (a := a) (r := r) (by omega) (hr1.trans e.symm)
  · unfold plc cl
    rw [hr]
    split
    · rw [hr1]
    · rfl

def dueLt (p q : Int × Nat) : Bool := decide (p.2 < q.2) || (decide (p.2 = q.2) && decide (p.1 < q.1))
theorem dueLt_iff {p q : Int × Nat} : dueLt p q = true ↔ p.2 < q.2 ∨ (p.2 = q.2 ∧ p.1 < q.1) := by simp [dueLt]

structure Wm where
  time : Nat
  ths : List (Int × Nat)
structure Wm.Wf (m : Wm) : Prop where
  ord : m.ths.Pairwise (fun p q => dueLt p q = true)
  nd : (m.ths.map (·.1)).Nodup
  lo : ∀ p ∈ m.ths, m.time ≤ p.2 ∧ p.2 ≤ top48
  rng : ∀ p ∈ m.ths, (Lit.int .i64 p.1).wf = true
  t : m.time ≤ top48
  few : m.ths.length ≤ 1000000

def Wm.look (m : Wm) (n : Int) : Option Nat := (m.ths.find? (fun p => p.1 == n)).map (·.2)
def dropD (n : Int) (l : List (Int × Nat)) : List (Int × Nat) := l.filter (fun p => decide (p.1 ≠ n))
def Wm.drop (m : Wm) (n : Int) : Wm := { m with ths := dropD n m.ths }
def insD (p : Int × Nat) : List (Int × Nat) → List (Int × Nat)
  | [] => [p]
  | q :: l => if dueLt q p = true then q :: insD p l else p :: q :: l
def Wm.put (m : Wm) (n a : Int) : Wm × Nat :=
  if a ≤ (m.time : Int) ∨ (top48 : Int) < a then (m, 2) else ({ m with ths := insD (n, a.toNat) (dropD n m.ths) }, 0)
def Wm.go (m : Wm) (k : Int) : Wm × List (Int × Nat) × Nat :=
  if k < 0 ∨ (top48 : Int) - (m.time : Int) < k then (m, [], 2)
  else ({ time := m.time + k.toNat, ths := m.ths.dropWhile (fun p => decide (p.2 ≤ m.time + k.toNat)) }, m.ths.takeWhile (fun p => decide (p.2 ≤ m.time + k.toNat)), 0)

theorem insD_perm (p : Int × Nat) : ∀ l : List (Int × Nat), (insD p l).Perm (p :: l)
  | [] => List.Perm.refl _
  | q :: l => by
    unfold insD
    split
    · exact ((insD_perm p l).cons q).trans (List.Perm.swap p q l)
    · exact List.Perm.refl _
theorem mem_insD {p q : Int × Nat} {l : List (Int × Nat)} : q ∈ insD p l ↔ q = p ∨ q ∈ l := by
  rw [(insD_perm p l).mem_iff, List.mem_cons]
theorem dueLt_trans {p q r : Int × Nat} (h : dueLt p q = true) (k : dueLt q r = true) : dueLt p r = true := by
  rw [dueLt_iff] at *
  omega
theorem dueLt_tot {p q : Int × Nat} (h : ¬ dueLt p q = true) (hn : p.1 ≠ q.1) : dueLt q p = true := by
  rw [dueLt_iff] at *
  omega
theorem insD_ord (p : Int × Nat) : ∀ l : List (Int × Nat), l.Pairwise (fun p q => dueLt p q = true) → (∀ q ∈ l, q.1 ≠ p.1) → (insD p l).Pairwise (fun p q => dueLt p q = true)
  | [], _, _ => by simp [insD]
  | q :: l, h, hn => by
    obtain ⟨h1, h2⟩ := List.pairwise_cons.1 h
    unfold insD
    split
    · next hq =>
      refine List.pairwise_cons.2 ⟨fun x hx => ?_, insD_ord p l h2 (fun x hx => hn x (List.mem_cons_of_mem _ hx))⟩
      rcases mem_insD.1 hx with rfl | hx
      · exact hq
      · exact h1 x hx
    · next hq =>
      have hpq := dueLt_tot hq (hn q List.mem_cons_self)
      refine List.pairwise_cons.2 ⟨fun x hx => ?_, h⟩
      rcases List.mem_cons.1 hx with rfl | hx
      · exact hpq
      · exact dueLt_trans hpq (h1 x hx)
theorem Wm.Wf.drop {m : Wm} (h : m.Wf) (n : Int) : (m.drop n).Wf :=
  { ord := h.ord.filter _
    nd := (List.filter_sublist.map _).nodup h.nd
    lo := fun p hp => h.lo p (List.mem_filter.1 hp).1
    rng := fun p hp => h.rng p (List.mem_filter.1 hp).1
    t := h.t
    few := Nat.le_trans (List.length_filter_le _ _) h.few }
theorem mem_dropD {n : Int} {l : List (Int × Nat)} {p : Int × Nat} : p ∈ dropD n l ↔ p ∈ l ∧ p.1 ≠ n := by
  unfold dropD
  rw [List.mem_filter]
  simp
theorem Wm.Wf.put {m : Wm} (h : m.Wf) {n a : Int} (hn : (Lit.int .i64 n).wf = true) (hlen : m.ths.length < 1000000) : (m.put n a).1.Wf := by
  unfold Wm.put
  split
  · exact h
  · next hc =>
    have hd := h.drop n
    have hne : ∀ q ∈ dropD n m.ths, q.1 ≠ n := fun q hq => (mem_dropD.1 hq).2
    refine ⟨insD_ord _ _ hd.ord hne, ?_, fun p hp => ?_, fun p hp => ?_, h.t, ?_⟩
    · rw [((insD_perm (n, a.toNat) (dropD n m.ths)).map (·.1)).nodup_iff]
      refine List.nodup_cons.2 ⟨fun hm => ?_, hd.nd⟩
      obtain ⟨q, hq, e⟩ := List.mem_map.1 hm
      exact hne q hq e
    · rcases mem_insD.1 hp with rfl | hp
      · unfold top48 at *
        have := h.t
        simp only
        omega
      · exact hd.lo p hp
    · rcases mem_insD.1 hp with rfl | hp
      · exact hn
      · exact hd.rng p hp
    · rw [(insD_perm (n, a.toNat) (dropD n m.ths)).length_eq]
      have := List.length_filter_le (fun p : Int × Nat => decide (p.1 ≠ n)) m.ths
      show (dropD n m.ths).length + 1 ≤ _
      unfold dropD
      omega
theorem Wm.Wf.go {m : Wm} (h : m.Wf) (k : Int) : (m.go k).1.Wf := by
  unfold Wm.go
  split
  · exact h
  · next hc =>
    have hs : (m.ths.dropWhile (fun p => decide (p.2 ≤ m.time + k.toNat))).Sublist m.ths := List.dropWhile_sublist _
    refine ⟨h.ord.sublist hs, (hs.map _).nodup h.nd, fun p hp => ⟨?_, (h.lo p (hs.subset hp)).2⟩, fun p hp => h.rng p (hs.subset hp), ?_, Nat.le_trans hs.length_le h.few⟩
    · cases hd : m.ths.dropWhile (fun p => decide (p.2 ≤ m.time + k.toNat)) with
      | nil => simp only [hd] at hp; cases hp
      | cons q l =>
        have hq : ¬ q.2 ≤ m.time + k.toNat := by
          have := List.head?_dropWhile_not (fun p : Int × Nat => decide (p.2 ≤ m.time + k.toNat)) m.ths
          rw [hd] at this
          simpa using this
        have ho := h.ord.sublist hs
        simp only [hd] at hp ho
        rcases List.mem_cons.1 hp with rfl | hp
        · simp only; omega
        · have := (List.pairwise_cons.1 ho).1 p hp
          rw [dueLt_iff] at this
          simp only
          omega
    · unfold top48 at *
      simp only
      omega
end Sg
