import Derived.Test.YtjkjiabfhhnngaaFlash10
import Derived.Test.YtjkjiabfhhnngaaBools
/-! The walk of flash's Rot, and the chapter's bytes and light. -/
namespace Go.Proofs.Ytjkjiabfhhnngaa
open Go.RowKit Sg
set_option linter.unusedSimpArgs false
set_option linter.unusedVariables false

theorem rot_wf {m : Dev} (h : m.Wf) (k j : Nat) (mask : UInt8) : Dev.Wf { m with fast := m.fast.modify k (fun l => l.modify j (· ^^^ mask)) } :=
  { n1 := h.n1, n2 := h.n2, s1 := h.s1, s2 := h.s2, fl := (List.length_modify ..).trans h.fl,
    fs := fun i hi => by
      have hi' : i < m.fast.length := by simpa using hi
      rw [List.getElem_modify]
      split
      · rw [List.length_modify]; exact h.fs i hi'
      · exact h.fs i hi'
    pl := h.pl, ps := h.ps, ll := h.ll, ls := h.ls, ar := h.ar }
theorem modify_set {α : Type} (l : List α) (k : Nat) (f : α → α) (hk : k < l.length) : l.modify k f = l.set k (f l[k]) := by
  refine List.ext_getElem (by simp) fun i h1 h2 => ?_
  rw [List.getElem_modify, List.getElem_set]
  split
  · next h => subst h; rfl
  · rfl

set_option maxRecDepth 100000 in
set_option maxHeartbeats 1000000 in
set_option maxHeartbeats 4000000 in
theorem rot_any (w : World) (D : List Nat) (g : Nat) (m : Dev) (h : DV w D g m) (a b : Int) (c : UInt8) :
    Calls Try.prog 26 #[.pointer (some ⟨g, 0, none⟩), .int .i64 a, .int .i64 b, .int .u8 (c.toNat : Int)] w fun e w' => e = .returned (.int .i64 ((m.rot a b c).2 : Int)) ∧ ∃ D', DV w' D' g (m.rot a b c).1 ∧ Grew w D D' ∧ Keep D w w' := by
  obtain ⟨hw, fm, pm, lv, fv, pv, h⟩ := h
  have ht := there_any w g m fm pm lv h.row a
  have c1 := h.rowD.c1
  by_cases hbad : (0 ≤ a ∧ a < (m.n : Int)) ∧ 0 ≤ b ∧ b < (m.sz : Int)
  · obtain ⟨k, rfl⟩ : ∃ k : Nat, a = (k : Int) := ⟨a.toNat, by omega⟩
    obtain ⟨j, rfl⟩ : ∃ j : Nat, b = (j : Int) := ⟨b.toNat, by omega⟩
    have e0 : m.rot (k : Int) (j : Int) c = ({ m with fast := m.fast.modify k (fun l => l.modify j (· ^^^ c)) }, 0) := by
      unfold Dev.rot
      rw [if_pos hbad]
      rfl
    rw [e0]
    have hd : decide (0 ≤ (k : Int) ∧ (k : Int) < (m.n : Int)) = true := by simpa using hbad.1
    rw [hd] at ht
    have hkn : k < m.n := by omega
    have hkf : k < m.fast.length := by rw [hw.fl]; exact hkn
    have hlen := hw.fs k hkf
    have hjs : j < m.sz := by omega
    have t1 : (j : Int) < (m.sz : Int) := by omega
    have t2 : ¬ (m.sz : Int) ≤ (j : Int) := by omega
    have hkept := kept_any w D g m fm pm lv fv pv hw h k hkf
    have H := Lib.hid h
    have hn2 := hw.n2
    have hs2 := hw.s2
    clear h e0 hbad hd
    go_enter Try.func26, Try.ntmps26
    go_wp2_with fail
    refine ht.mono ?_
    rintro e w1 ⟨rfl, rfl⟩
    clear ht
    go_wp2_with fail
    refine hkept.mono ?_
    rintro e w1 ⟨v1, rfl, ho1, hk1⟩
    clear hkept
    go_wp2_with fail
    refine (clone_any _ _ _ (ho1.bytes (by omega))).mono ?_
    rintro e w2 ⟨v2, rfl, ho2, hk2⟩
    obtain ⟨g2, cap2, rfl, hgw⟩ : ∃ g cap, v2 = .slice (some ⟨g, 0, none⟩) m.sz cap ∧ w1.heap.size ≤ g := by
      rcases ho2.2 with ⟨-, h0⟩ | ⟨g', cp, cur, rfl, hb, -⟩
      · omega
      · exact ⟨g', cp, by rw [hlen], hb⟩
    obtain ⟨L, hL⟩ : ∃ L, m.fast[k] = L := ⟨_, rfl⟩
    rw [hL] at ho2 hlen
    have hjl : j < L.length := by omega
    have hcell := ho2.cell hjl
    have hfree := ho2.free j
    obtain ⟨x, hx⟩ : ∃ x, L[j] = x := ⟨_, rfl⟩
    rw [hx] at hcell
    have hxor := u8_xor_nat x.toNat c.toNat x.toNat_lt c.toNat_lt
    have hset := ho2.setCell hjl (x ^^^ c)
    have h2 := H.out.rowD.keep (hk1.trans hk2) (by simp)
    have hlt2 : g < w2.heap.size := (Array.getElem?_eq_some_iff.1 h2).1
    have hne : g ≠ g2 := by
      have := H.out.lt _ H.out.inG
      have := hk1.size
      omega
    unfold u8v at hset
    rw [UInt8.toNat_xor] at hset
    obtain ⟨w3, hw3⟩ : ∃ w3, w2.setCell ⟨g2, j, none⟩ (.int .u8 ((x.toNat ^^^ c.toNat : Nat) : Int)) = w3 := ⟨_, rfl⟩
    rw [hw3] at hset
    have hk3 : Keep [] w w3 := by
      rw [← hw3]
      exact (hk1.trans hk2).setCell (.inr (show w.heap.size ≤ g2 by have := hk1.size; omega)) _
    have h3 := H.out.keep0 hk3
    have c2 := (H.out.keep0 (hk1.trans hk2)).rowD.c2
    obtain ⟨w9, hrun, hM, hk9, hs9⟩ := h3.fast.store Try.underlying3 Try.underlying169 k hkn (show m.n ≤ 1000000000 by omega) (.slice (some ⟨g2, 0, none⟩) m.sz cap2)
    have ho9 : OwnB w9 0 5 (.slice (some ⟨g2, 0, none⟩) m.sz cap2) (L.set j (x ^^^ c)) := ownB_move (hset.base (Nat.zero_le _)) hk9 (NotT.map h3.fast)
    have hk39 : Keep [fm] w w9 := (hk3.mono (by simp)).trans hk9
    have hD' : ∀ b ∈ D, b ∈ D ++ newer w w9 := fun b hb => List.mem_append_left _ hb
    have hin : inD (D ++ newer w w9) (.slice (some ⟨g2, 0, none⟩) m.sz cap2) := fun b hb => List.mem_append_right _ (mem_newer.2 ⟨by
      simp [Value.ownBlock] at hb
      have := hk1.size
      omega, ownsRow_lt ho9 hb⟩)
    have hnew := (H.out).fastTurn (m' := { m with fast := m.fast.modify k (fun l => l.modify j (· ^^^ c)) }) hk39 hD' (fun b hb => by
      rcases List.mem_append.1 hb with h | h
      · exact Nat.lt_of_lt_of_le (H.out.lt b h) hk39.size
      · exact (mem_newer.1 h).2) hM ho9 hin (by
        rw [modify_set _ _ _ hkf, hL, modify_set _ _ _ hjl, hx])
    have hKK : Keep D w w9 := hk39.mono (fun b hb => by
      rw [List.mem_singleton] at hb
      rw [hb]
      exact H.out.inF)
    have HN := Lib.hid (And.intro hnew (And.intro (Grew.newer w w9 D) hKK))
    have HR := Lib.hid hrun
    have HW := Lib.hid hw3
    clear hnew hKK hin hD' hk39 ho9 hM hk9 hs9 hrun h3 hk3 hset h2 hlt2 hx hL ho2 ho1 hk1 hk2 hlen hgw hw3
    go_wp2_with fail
    rw [HW.out]
    rw [HR.out]
    go_wp2
    go_ret
    exact ⟨rfl, _, ⟨rot_wf hw k j c, fm, pm, _, _, _, HN.out.1⟩, HN.out.2.1, HN.out.2.2⟩
  · have e0 : m.rot a b c = (m, 2) := by
      unfold Dev.rot
      rw [if_neg hbad]
    rw [e0]
    have HV : DV w D g m := ⟨hw, fm, pm, lv, fv, pv, h⟩
    have H := Lib.hid HV
    clear h HV e0
    by_cases h1 : 0 ≤ a ∧ a < (m.n : Int)
    · have hd : decide (0 ≤ a ∧ a < (m.n : Int)) = true := by simpa using h1
      rw [hd] at ht
      clear hd
      by_cases h2 : b < 0
      · clear hbad
        go_enter Try.func26, Try.ntmps26
        go_wp2_with fail
        refine ht.mono ?_
        rintro e w1 ⟨rfl, rfl⟩
        go_wp2
        go_ret
        exact ⟨rfl, D, H.out, Grew.refl _ _, Keep.refl _ _⟩
      · have h3 : (m.sz : Int) ≤ b := by omega
        clear hbad
        go_enter Try.func26, Try.ntmps26
        go_wp2_with fail
        refine ht.mono ?_
        rintro e w1 ⟨rfl, rfl⟩
        go_wp2
        go_ret
        exact ⟨rfl, D, H.out, Grew.refl _ _, Keep.refl _ _⟩
    · have hd : decide (0 ≤ a ∧ a < (m.n : Int)) = false := by simpa using h1
      rw [hd] at ht
      clear hd hbad
      go_enter Try.func26, Try.ntmps26
      go_wp2_with fail
      refine ht.mono ?_
      rintro e w1 ⟨rfl, rfl⟩
      go_wp2
      go_ret
      exact ⟨rfl, D, H.out, Grew.refl _ _, Keep.refl _ _⟩
end Go.Proofs.Ytjkjiabfhhnngaa
