import Derived.Test.YtijljdcpajjhhaaFlash4
/-! The walks of flash: any write; a sync. -/
namespace Go.Proofs.Ytijljdcpajjhhaa
open Go.RowKit Sg
set_option linter.unusedSimpArgs false
set_option linter.unusedVariables false

set_option maxRecDepth 100000 in
set_option maxHeartbeats 1000000 in
theorem write_any (w : World) (D : List Nat) (g : Nat) (m : Dev) (h : DV w D g m) (hacts : m.acts ≤ 1000000000) (a : Int) (v : Value) (l : List UInt8) (hv : Bytes w v l) :
    Calls Try.prog 16 #[.pointer (some ⟨g, 0, none⟩), .int .i64 a, v] w fun e w' => e = .returned (.int .i64 ((m.put a l).2 : Int)) ∧ ∃ D', DV w' D' g (m.put a l).1 ∧ Grew w D D' ∧ Keep D w w' := by
  by_cases hr : m.ready a = 0
  · have hd : m.down = false := by
      cases hd : m.down with
      | false => rfl
      | true => simp [Dev.ready, hd] at hr
    have ha : 0 ≤ a ∧ a < m.n := by
      by_cases h0 : 0 ≤ a ∧ a < m.n
      · exact h0
      · simp only [Dev.ready, hd, if_neg h0] at hr
        cases hr
    by_cases hl : l.length = m.sz
    · obtain ⟨k, rfl⟩ : ∃ k : Nat, a = k := ⟨a.toNat, by omega⟩
      have := write_go w D g m h hacts k (by omega) hd v l hv hl
      refine this.mono ?_
      rintro e w' ⟨rfl, h2⟩
      have e1 : m.put (k : Int) l = (m.write k l, if m.act.down = true then 4 else 0) := by
        unfold Dev.put
        rw [if_neg (by rw [hr]; simp), if_neg (by rw [hl]; simp)]
        simp
      rw [e1]
      refine ⟨?_, h2⟩
      split <;> rfl
    · have e1 : m.put a l = (m, 3) := by
        unfold Dev.put
        rw [if_neg (by rw [hr]; simp), if_pos hl]
      rw [e1]
      obtain ⟨fm, pm, lv, hrow⟩ := h.row
      have hready := ready_any w g m fm pm lv hrow a
      rw [hr] at hready
      have c1 := hrow.c1
      obtain ⟨ao, cap, rfl, hlc, hm, hcap⟩ := hv.form
      have hne : ((l.length : Int) == (m.sz : Int)) = false := by simp; omega
      have hne2 : ((l.length : Int) != (m.sz : Int)) = true := by simp; omega
      have hne3 : ¬ ((l.length : Int) = (m.sz : Int)) := by omega
      have hne4 : ¬ (l.length = m.sz) := hl
      have H := Lib.hid h
      clear h hv hrow hr e1
      go_enter Try.func16, Try.ntmps16
      go_wp2_with fail
      refine hready.mono ?_
      rintro e w1 ⟨rfl, rfl⟩
      go_wp2
      go_ret
      exact ⟨rfl, D, H.out, Grew.refl _ _, Keep.refl _ _⟩
  · have e1 : m.put a l = (m, m.ready a) := by
      unfold Dev.put
      rw [if_pos hr]
    rw [e1]
    obtain ⟨fm, pm, lv, hrow⟩ := h.row
    have hready := ready_any w g m fm pm lv hrow a
    have hrc : ((m.ready a : Int) == 0) = false := by simp; omega
    have hrc2 : ((m.ready a : Int) != 0) = true := by simp; omega
    have hrc3 : ¬ ((m.ready a : Int) = 0) := by omega
    obtain ⟨ao, cap, rfl, hlc, hm, hcap⟩ := hv.form
    have H := Lib.hid h
    clear h hv hrow e1 hr
    generalize m.ready a = rc at *
    go_enter Try.func16, Try.ntmps16
    go_wp2_with fail
    refine hready.mono ?_
    rintro e w1 ⟨rfl, rfl⟩
    go_wp2
    go_ret
    exact ⟨rfl, D, H.out, Grew.refl _ _, Keep.refl _ _⟩

theorem flat2 {α β : Type} (f : α → List β) (h2 : ∀ x, (f x).length = 2) : ∀ (l : List α) (i j : Nat) (x : α), l[i]? = some x → j < 2 → (l.flatMap f)[i * 2 + j]? = (f x)[j]?
  | [], i, j, x, h, _ => by simp at h
  | y :: l, 0, j, x, h, hj => by
    simp at h
    subst h
    rw [List.flatMap_cons, List.getElem?_append_left (by rw [h2]; omega)]
    simp
  | y :: l, i + 1, j, x, h, hj => by
    rw [List.flatMap_cons, List.getElem?_append_right (by rw [h2]; omega), h2, show (i + 1) * 2 + j - 2 = i * 2 + j by omega]
    exact flat2 f h2 l i j x (by simpa using h) hj

/-- one loose write -/
theorem LooseV.at {w : World} {D : List Nat} {lv : Value} {ls : List (Nat × List UInt8)} (h : LooseV w D lv ls) (j : Nat) (hj : j < ls.length) :
    ∃ b cap v, lv = .slice (some ⟨b, 0, none⟩) ls.length cap ∧ w.cell? ⟨b, j * 2, none⟩ = some (.int .i64 (ls[j].1 : Int)) ∧ w.cell? ⟨b, j * 2 + 1, none⟩ = some v ∧ OwnB w 0 5 v ls[j].2 ∧ inD D v ∧ b ∈ D ∧ ls.length ≤ cap ∧ cap ≤ 9223372036854775807 := by
  obtain ⟨vs, h1, h2, h3⟩ := h
  have hvl : vs.length = ls.length := by simpa using h3.1
  have hjv : j < vs.length := by omega
  rcases id h1.2 with ⟨-, h0⟩ | ⟨b, cap, cur, rfl, -, -, hc1, hc2, -⟩
  · omega
  · have hz : (ls.zip vs)[j]? = some (ls[j], vs[j]) := by
      rw [List.getElem?_eq_getElem (by simp; omega)]
      simp
    have c := fun i hi u hu => World.ownsRow.cells (g := b) h1 rfl (j * 2 + i) u ((flat2 _ (fun _ => rfl) (ls.zip vs) j i _ hz hi).trans hu)
    simp only [Addr.add_lit, Nat.zero_add] at c
    obtain ⟨h4, h5⟩ := h3.2 j vs[j] ls[j].2 (List.getElem?_eq_getElem hjv) (by simp [hj])
    exact ⟨b, cap, vs[j], rfl, c 0 (by decide) _ rfl, c 1 (by decide) _ rfl, h4, h5, h2 b rfl, hc1, by simpa [maxLen] using hc2⟩

/-- a sector's fast bytes are others -/
theorem DevAt.fastTurn {w w' : World} {D D' : List Nat} {g : Nat} {m m' : Dev} {fm pm : Nat} {lv : Value} {fv pv : Nat → Option Value} (h : DevAt w D g m fm pm lv fv pv) {k : Nat} (kk : Keep [fm] w w')
    (hd : ∀ b ∈ D, b ∈ D') (hlt : ∀ b ∈ D', b < w'.heap.size) {v' : Value} {l : List UInt8}
    (hp : MapV Try.prog 3 w' fm m.n (updF fv k v')) (hv : OwnB w' 0 5 v' l) (hvD : inD D' v') (em : m' = { m with fast := m.fast.set k l }) : DevAt w' D' g m' fm pm lv (updF fv k v') pv := by
  subst em
  obtain ⟨es, c, hmap⟩ := h.fast.isMapBlock
  have nt : ∀ t, NotT w t [fm] := fun t b hb => by
    rw [List.mem_singleton] at hb
    subst hb
    exact ⟨_, hmap, fun cs fr e => by cases e⟩
  have hg : g ∉ [fm] := fun hb => by
    rw [List.mem_singleton] at hb
    have := h.row
    rw [hb, hmap] at this
    cases this
  refine ⟨kk.blk hg h.row, hp, h.past.keep kk (by simp; exact fun e => h.two e.symm), fun i hi => ?_, fun i hi => (h.pasts i hi).move kk (nt _) (nt _) hd, h.apart, h.loose.move kk (nt _) (nt _) hd, hd _ h.inG, hd _ h.inF, hd _ h.inP, h.two, hlt⟩
  have hi' : i < m.fast.length := by simpa using hi
  by_cases hik : i = k
  · subst hik
    have e1 : updF fv i v' i = some v' := by simp [updF]
    rw [e1]
    simp only [List.getElem_set, if_true]
    exact ⟨hv, hvD⟩
  · have e1 : updF fv k v' i = fv i := by simp [updF, hik]
    rw [e1]
    simp only [List.getElem_set, if_neg (fun e => hik (Eq.symm e) : ¬ k = i)]
    exact (h.fasts i hi').move kk (nt _) hd
end Go.Proofs.Ytijljdcpajjhhaa
