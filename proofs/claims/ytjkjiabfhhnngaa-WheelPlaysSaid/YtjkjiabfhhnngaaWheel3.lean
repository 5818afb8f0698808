import Derived.Test.YtjkjiabfhhnngaaWheel2
import Derived.Test.YtjkjiabfhhnngaaRange6
import Derived.Shelf.Abstract
import Derived.Shelf.RegionOpen
import Derived.OwnWalkIn
import Derived.TacticsInMore
import Derived.LoopNIn
import Derived.LoopIn
/-! maps.Keys over a place, and over what is due. -/
namespace Go.Proofs.Ytjkjiabfhhnngaa
open Go.RowKit Go.Shelf Sg
open Go.Maps (int_keyed keyOf_int_mk)
attribute [local go_sem] Oper.semAt_some
set_option linter.unusedSimpArgs false
set_option linter.unusedVariables false

def KEnc (T : List Nat) (x : Int) (args : Array Value) (W : World) : Prop := args = #[.int .i64 x]
def KPre (ks pre : List Int) : Prop := pre.Nodup ∧ ∀ x ∈ pre, x ∈ ks
def KFin (ks xs : List Int) : Prop := xs.Nodup ∧ ∀ x, x ∈ xs ↔ x ∈ ks
theorem ranges_same {P : Program} {k : TypeId} {R : Value → Option (DataW Value × List MemPlace)} {w w' : World} {b r n : Nat} {D : DataW Value} {left : Lit → Bool} {cnt : Nat} (h : w.ranges P k R b r n D left cnt) (hb : w'.heap[b]? = w.heap[b]?) (hr : w'.heap[r]? = w.heap[r]?) : w'.ranges P k R b r n D left cnt := by
  obtain ⟨es, clock, since, seen, c0, h1, h2, h3, h4, h5, h6⟩ := h
  exact ⟨es, clock, since, seen, c0, hb.trans h1, h2, h3, h4, hr.trans h5, h6⟩

set_option maxRecDepth 100000 in
set_option maxHeartbeats 1000000 in
set_option maxHeartbeats 4000000 in
theorem keysP_iter (Bm B : Nat) (es : Array MapEntry) (clock : Nat) (f : Int → Option Value) (ks : List Int) (hm0 : ∀ W : World, W.heap[B]? = some (.map es clock) → MapZ Try.prog 3 W B f ks) :
    Iter6 Try.prog 151 #[.pointer (some ⟨Bm, 0, none⟩)] KEnc (KPre ks) (KFin ks) (fun W => W.cell? ⟨Bm, 0, none⟩ = some (.map (some B)) ∧ W.heap[B]? = some (.map es clock)) (fun _ => True) [] := by
  intro n l J Jx hRd hJ hJx hG hY W h0 _ _
  obtain ⟨hcell, hp⟩ := hRd _ _ _ h0
  obtain ⟨D0, hown, hsz, hat0, hin0, hhas⟩ := (hm0 W hp).few Try.underlying3
  have kz := int_keyed (P := Try.prog) Try.underlying3
  refine callsIn_of_wp Try.func151 rfl trivial ?_
  simp only [Try.ntmps151, List.size_toArray, List.length_cons, List.length_nil, Nat.reduceAdd, Nat.reduceSub, Array.replicate_succ, Array.replicate_zero, List.push_toArray, List.append_toArray, List.nil_append, List.cons_append]
  gi_wp2_with (first
    | (gi_at_range; refine wpListIn_range_own _ rfl _ 216 rfl 3 4 kz Try.underlying216 _ B ks.length _ rfl hown ?_; intro w0 hrg0 hg0 hs0)
    | gi_in)
  try go_frame
  obtain ⟨r, hr⟩ : ∃ r, W.heap.size = r := ⟨_, rfl⟩
  rw [hr] at hrg0 ⊢
  have hk0 : Keep [] W w0 := Keep.grown hg0
  have hJ0 : J [r] [] w0 := hJ _ _ _ _ (hk0.mono (by simp)) (hG _ _ _ _ (by omega) h0)
  have HRG := Lib.hid hrg0
  have HJ := Lib.hid hJ0
  have hwf := (hm0 W hp)
  clear hrg0 hJ0 hown hcell hp
  gi_loopw [3] (fun _ wr => ∃ (left : Lit → Bool) (cnt : Nat) (pre : List Int), Hid (wr.ranges Try.prog 3 tokR B r ks.length D0 left cnt) ∧ Hid (∀ kl, left kl = true → ∃ x, kl = LitZ x ∧ x ∈ ks) ∧ Hid (∀ x, x ∈ pre ↔ x ∈ ks ∧ left (LitZ x) = false) ∧ pre.Nodup ∧ Hid (J [r] pre wr))
    (fun _ wr => wr.rangeLeft B r)
  case atStart =>
    exact ⟨_, _, [], HRG, Lib.hid (fun kl h => by
      obtain ⟨x, rfl⟩ := hin0 kl h
      exact ⟨x, rfl, (hhas x).1 h⟩), Lib.hid (fun x => by
      constructor
      · intro h; cases h
      · rintro ⟨h1, h2⟩
        have := (hhas x).2 h1
        rw [this] at h2
        cases h2), List.nodup_nil, HJ⟩
  case round =>
    clear HRG HJ
    obtain ⟨left, cnt, pre, HRG, HL, HP, hnd, HJ⟩ := hrel
    have hrg := HRG.out
    gi_wp2_with (first
      | (gi_at_next; refine wpListIn_next_ranges _ rfl _ rfl 3 kz tokR (Value.int .i64) (fun x => x) (fun key kl hkey => by obtain ⟨x, rfl, _⟩ := Maps.keyOf_int_inv Try.underlying3 hkey; exact ⟨x, rfl⟩) (fun v y hv => ⟨v, rfl⟩) B r ks.length _ _ _ rfl hrg ?_ ?_)
      | gi_in)
    · intro hc0 hl0
      gi_wp2
      go_end0
      exact ⟨⟨_, rfl⟩, .inl ⟨[r], pre, ⟨hnd, fun x => by rw [HP.out x, hl0]; simp⟩, HJ.out, fun b hb => by rw [List.mem_singleton] at hb; rw [hb]; exact hrg.lt⟩⟩
    · intro x c kl y ps w1 cnt1 hkey hlk hR hat hrg1 hlt hg1 hs1 hen
      obtain ⟨x', e1, rfl, hwfx⟩ := Maps.keyOf_int_inv Try.underlying3 hkey
      cases e1
      obtain ⟨x', e1, hxk⟩ := HL.out _ hlk
      obtain rfl := litZ_inj e1
      have hk1 : Keep [r] wr w1 := Keep.grown hg1
      have hj1 : J [r] pre w1 := hJ _ _ _ _ hk1 HJ.out
      have hxp : x ∉ pre := fun hm => by
        have := ((HP.out x).1 hm).2
        rw [hlk] at this
        cases this
      have hpre : KPre ks (pre ++ [x]) := ⟨by
        rw [List.nodup_append]
        exact ⟨hnd, by simp, fun a ha b hb e => by rw [List.mem_singleton] at hb; subst hb; subst e; exact hxp ha⟩, fun a ha => by
        rcases List.mem_append.1 ha with h | h
        · exact ((HP.out a).1 h).1
        · rw [List.mem_singleton.1 h]; exact hxk⟩
      obtain ⟨fn, tmps, assign, body, hy, hRR⟩ := hY [r] pre x _ w1 hpre hj1 rfl (fun b hb => by rw [List.mem_singleton] at hb; rw [hb, hs1]; exact hrg.lt)
      have HB1 := Lib.hid (hRd _ _ _ hj1).2
      have HRG1 := Lib.hid hrg1
      have HPR := Lib.hid hpre
      have HLT := Lib.hid hlt
      clear hrg1 hg1 hk1 hj1 hs1 hpre hat hR hlt hkey
      gi_wp2
      refine ⟨wideN _, hRR.mono ?_⟩
      rintro e W' ⟨hbl, (⟨rfl, hJ'⟩ | ⟨rfl, hJx'⟩)⟩
      · have hrg3 := ranges_same HRG1.out ((hRd _ _ _ hJ').2.trans HB1.out.symm) (hbl r (by simp))
        have H3 := Lib.hid hrg3
        have HJ' := Lib.hid hJ'
        clear hrg3 hJ' hbl
        gi_wp2
        go_roundw
        case rel =>
          exact ⟨_, cnt1, pre ++ [x], H3, Lib.hid (fun kl h => by
            rw [Bool.and_eq_true] at h
            exact HL.out kl h.1), Lib.hid (fun a => by
            rw [List.mem_append, List.mem_singleton, HP.out a, Bool.and_eq_false_iff]
            constructor
            · rintro (⟨h1, h2⟩ | rfl)
              · exact ⟨h1, .inl h2⟩
              · exact ⟨hxk, .inr (by simp [Lit.sameKey])⟩
            · rintro ⟨h1, (h2 | h2)⟩
              · exact .inl ⟨h1, h2⟩
              · exact .inr (by simpa [Lit.sameKey] using h2)), HPR.out.1, HJ'⟩
        case measure => rw [H3.out.left_eq, hrg.left_eq]; exact HLT.out
      · gi_wp2
        refine bodyPost_ret (results_none rfl _ _ _) rfl ?_
        exact ⟨⟨_, rfl⟩, .inr ⟨[r], pre ++ [x], HPR.out, hJx'⟩⟩
set_option maxRecDepth 100000 in
set_option maxHeartbeats 1000000 in
theorem keysP_any (w : World) (B : Nat) : Calls Try.prog 118 #[.map (some B)] w fun e w' => e = .returned (.func (.func 151) #[] #[.pointer (some ⟨w.heap.size, 0, none⟩)]) ∧ w.alloc (.cells #[.map (some B)] 216) = w' := by
  go_enter Try.func118, Try.ntmps118
  go_wp2
  go_ret
  exact ⟨rfl, rfl⟩

set_option maxRecDepth 100000 in
set_option maxHeartbeats 1000000 in
set_option maxHeartbeats 4000000 in
theorem keysD_iter (Bm B : Nat) (es : Array MapEntry) (clock : Nat) (f : Int → Option Value) (ks : List Int) (hm0 : ∀ W : World, W.heap[B]? = some (.map es clock) → MapZ Try.prog 3 W B f ks) :
    Iter6 Try.prog 152 #[.pointer (some ⟨Bm, 0, none⟩)] KEnc (KPre ks) (KFin ks) (fun W => W.cell? ⟨Bm, 0, none⟩ = some (.map (some B)) ∧ W.heap[B]? = some (.map es clock)) (fun _ => True) [] := by
  intro n l J Jx hRd hJ hJx hG hY W h0 _ _
  obtain ⟨hcell, hp⟩ := hRd _ _ _ h0
  obtain ⟨D0, hown, hsz, hat0, hin0, hhas⟩ := (hm0 W hp).few Try.underlying3
  have kz := int_keyed (P := Try.prog) Try.underlying3
  refine callsIn_of_wp Try.func152 rfl trivial ?_
  simp only [Try.ntmps152, List.size_toArray, List.length_cons, List.length_nil, Nat.reduceAdd, Nat.reduceSub, Array.replicate_succ, Array.replicate_zero, List.push_toArray, List.append_toArray, List.nil_append, List.cons_append]
  gi_wp2_with (first
    | (gi_at_range; refine wpListIn_range_own _ rfl _ 214 rfl 3 3 kz Try.underlying214 _ B ks.length _ rfl hown ?_; intro w0 hrg0 hg0 hs0)
    | gi_in)
  try go_frame
  obtain ⟨r, hr⟩ : ∃ r, W.heap.size = r := ⟨_, rfl⟩
  rw [hr] at hrg0 ⊢
  have hk0 : Keep [] W w0 := Keep.grown hg0
  have hJ0 : J [r] [] w0 := hJ _ _ _ _ (hk0.mono (by simp)) (hG _ _ _ _ (by omega) h0)
  have HRG := Lib.hid hrg0
  have HJ := Lib.hid hJ0
  have hwf := (hm0 W hp)
  clear hrg0 hJ0 hown hcell hp
  gi_loopw [3] (fun _ wr => ∃ (left : Lit → Bool) (cnt : Nat) (pre : List Int), Hid (wr.ranges Try.prog 3 tokR B r ks.length D0 left cnt) ∧ Hid (∀ kl, left kl = true → ∃ x, kl = LitZ x ∧ x ∈ ks) ∧ Hid (∀ x, x ∈ pre ↔ x ∈ ks ∧ left (LitZ x) = false) ∧ pre.Nodup ∧ Hid (J [r] pre wr))
    (fun _ wr => wr.rangeLeft B r)
  case atStart =>
    exact ⟨_, _, [], HRG, Lib.hid (fun kl h => by
      obtain ⟨x, rfl⟩ := hin0 kl h
      exact ⟨x, rfl, (hhas x).1 h⟩), Lib.hid (fun x => by
      constructor
      · intro h; cases h
      · rintro ⟨h1, h2⟩
        have := (hhas x).2 h1
        rw [this] at h2
        cases h2), List.nodup_nil, HJ⟩
  case round =>
    clear HRG HJ
    obtain ⟨left, cnt, pre, HRG, HL, HP, hnd, HJ⟩ := hrel
    have hrg := HRG.out
    gi_wp2_with (first
      | (gi_at_next; refine wpListIn_next_ranges _ rfl _ rfl 3 kz tokR (Value.int .i64) (fun x => x) (fun key kl hkey => by obtain ⟨x, rfl, _⟩ := Maps.keyOf_int_inv Try.underlying3 hkey; exact ⟨x, rfl⟩) (fun v y hv => ⟨v, rfl⟩) B r ks.length _ _ _ rfl hrg ?_ ?_)
      | gi_in)
    · intro hc0 hl0
      gi_wp2
      go_end0
      exact ⟨⟨_, rfl⟩, .inl ⟨[r], pre, ⟨hnd, fun x => by rw [HP.out x, hl0]; simp⟩, HJ.out, fun b hb => by rw [List.mem_singleton] at hb; rw [hb]; exact hrg.lt⟩⟩
    · intro x c kl y ps w1 cnt1 hkey hlk hR hat hrg1 hlt hg1 hs1 hen
      obtain ⟨x', e1, rfl, hwfx⟩ := Maps.keyOf_int_inv Try.underlying3 hkey
      cases e1
      obtain ⟨x', e1, hxk⟩ := HL.out _ hlk
      obtain rfl := litZ_inj e1
      have hk1 : Keep [r] wr w1 := Keep.grown hg1
      have hj1 : J [r] pre w1 := hJ _ _ _ _ hk1 HJ.out
      have hxp : x ∉ pre := fun hm => by
        have := ((HP.out x).1 hm).2
        rw [hlk] at this
        cases this
      have hpre : KPre ks (pre ++ [x]) := ⟨by
        rw [List.nodup_append]
        exact ⟨hnd, by simp, fun a ha b hb e => by rw [List.mem_singleton] at hb; subst hb; subst e; exact hxp ha⟩, fun a ha => by
        rcases List.mem_append.1 ha with h | h
        · exact ((HP.out a).1 h).1
        · rw [List.mem_singleton.1 h]; exact hxk⟩
      obtain ⟨fn, tmps, assign, body, hy, hRR⟩ := hY [r] pre x _ w1 hpre hj1 rfl (fun b hb => by rw [List.mem_singleton] at hb; rw [hb, hs1]; exact hrg.lt)
      have HB1 := Lib.hid (hRd _ _ _ hj1).2
      have HRG1 := Lib.hid hrg1
      have HPR := Lib.hid hpre
      have HLT := Lib.hid hlt
      clear hrg1 hg1 hk1 hj1 hs1 hpre hat hR hlt hkey
      gi_wp2
      refine ⟨wideN _, hRR.mono ?_⟩
      rintro e W' ⟨hbl, (⟨rfl, hJ'⟩ | ⟨rfl, hJx'⟩)⟩
      · have hrg3 := ranges_same HRG1.out ((hRd _ _ _ hJ').2.trans HB1.out.symm) (hbl r (by simp))
        have H3 := Lib.hid hrg3
        have HJ' := Lib.hid hJ'
        clear hrg3 hJ' hbl
        gi_wp2
        go_roundw
        case rel =>
          exact ⟨_, cnt1, pre ++ [x], H3, Lib.hid (fun kl h => by
            rw [Bool.and_eq_true] at h
            exact HL.out kl h.1), Lib.hid (fun a => by
            rw [List.mem_append, List.mem_singleton, HP.out a, Bool.and_eq_false_iff]
            constructor
            · rintro (⟨h1, h2⟩ | rfl)
              · exact ⟨h1, .inl h2⟩
              · exact ⟨hxk, .inr (by simp [Lit.sameKey])⟩
            · rintro ⟨h1, (h2 | h2)⟩
              · exact .inl ⟨h1, h2⟩
              · exact .inr (by simpa [Lit.sameKey] using h2)), HPR.out.1, HJ'⟩
        case measure => rw [H3.out.left_eq, hrg.left_eq]; exact HLT.out
      · gi_wp2
        refine bodyPost_ret (results_none rfl _ _ _) rfl ?_
        exact ⟨⟨_, rfl⟩, .inr ⟨[r], pre ++ [x], HPR.out, hJx'⟩⟩
set_option maxRecDepth 100000 in
set_option maxHeartbeats 1000000 in
theorem keysD_any (w : World) (B : Nat) : Calls Try.prog 119 #[.map (some B)] w fun e w' => e = .returned (.func (.func 152) #[] #[.pointer (some ⟨w.heap.size, 0, none⟩)]) ∧ w.alloc (.cells #[.map (some B)] 214) = w' := by
  go_enter Try.func119, Try.ntmps119
  go_wp2
  go_ret
  exact ⟨rfl, rfl⟩
end Go.Proofs.Ytjkjiabfhhnngaa
