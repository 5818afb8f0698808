import Derived.Test.YtjkjiabfhhnngaaFlashA
import Derived.Test.YtjkjiabfhhnngaaRange2
import Derived.Shelf.Abstract
import Derived.Shelf.RegionOpen
import Derived.OwnWalkIn
import Derived.TacticsInMore
import Derived.LoopNIn
import Derived.LoopIn
/-! slices.Backward over loose writes. -/
namespace Go.Proofs.Ytjkjiabfhhnngaa
open Go.RowKit Go.Shelf Sg
attribute [local go_sem] Oper.semAt_some
set_option linter.unusedSimpArgs false
set_option linter.unusedVariables false

def BEnc (D : List Nat) (x : Nat × List UInt8) (args : Array Value) (W : World) : Prop := ∃ (i : Int) (v : Value), args = #[.int .i64 i, .agg #[.int .i64 (x.1 : Int), v]] ∧ OwnB W 0 5 v x.2 ∧ inD D v

set_option maxRecDepth 100000 in
set_option maxHeartbeats 1000000 in
theorem backL_iter (B : Nat) (D : List Nat) (lv : Value) (ls : List (Nat × List UInt8)) (hl : ls.length ≤ 1000000000) (hlen : ∀ p ∈ ls, p.2.length ≤ 1000000) :
    Iter2 Try.prog 127 #[.pointer (some ⟨B, 0, none⟩)] (BEnc D) ls.reverse (fun W => W.cell? ⟨B, 0, none⟩ = some lv ∧ LooseV W D lv ls) (fun _ => True) [] := by
  intro n l J Jx hRd hJ hJx hY W h0 _
  obtain ⟨hcell, hp⟩ := hRd _ _ h0
  obtain ⟨la, lc, rfl⟩ := hp.form
  refine callsIn_of_wp Try.func127 rfl trivial ?_
  simp only [Try.ntmps127, List.size_toArray, List.length_cons, List.length_nil, Nat.reduceAdd, Nat.reduceSub, Array.replicate_succ, Array.replicate_zero, List.push_toArray, List.append_toArray, List.nil_append, List.cons_append]
  gi_wp2
  gi_loopw [3] (fun i wr => ∃ q : Nat, q ≤ ls.length ∧ (q = 0 ∧ i = .int .i64 (-1) ∨ ∃ q', q = q' + 1 ∧ i = .int .i64 (q' : Int)) ∧ J (ls.reverse.take (ls.length - q)) wr) (fun i _ => (intOf i + 1).toNat)
  case atStart =>
    refine ⟨ls.length, Nat.le_refl _, ?_, by simpa using h0⟩
    cases hn : ls.length with
    | zero => exact .inl ⟨rfl, by simp [hn]⟩
    | succ q => exact .inr ⟨q, rfl, by simp [hn]⟩
  case round =>
    obtain ⟨q, hq, hor, hJk⟩ := hrel
    rcases hor with ⟨rfl, rfl⟩ | ⟨q', rfl, rfl⟩
    · gi_wp2
      go_end0
      rw [Nat.sub_zero, List.take_of_length_le (by simp)] at hJk
      exact ⟨⟨_, rfl⟩, .inl hJk⟩
    · obtain ⟨hc2, hp2⟩ := hRd _ _ hJk
      obtain ⟨b, cap, v, e1, a0, a1, ho, hoD, hbD, hcap1, hcap2⟩ := LooseV.at (ls := ls) hp2 q' (by omega)
      obtain rfl : la = some ⟨b, 0, none⟩ := by injection e1
      have hlq := hlen ls[q'] (List.getElem_mem (by omega))
      have hpre : ls.reverse.take (ls.length - (q' + 1)) ++ [ls[q']] = ls.reverse.take (ls.length - q') := by
        rw [show ls.length - q' = (ls.length - (q' + 1)) + 1 by omega, List.take_succ_eq_append_getElem (by rw [List.length_reverse]; omega), List.getElem_reverse]
        congr 3
        omega
      have hpx : ls.reverse.take (ls.length - (q' + 1)) ++ [ls[q']] <+: ls.reverse := by rw [hpre]; exact List.take_prefix _ _
      obtain ⟨⟨qk, ql⟩, hqe⟩ : ∃ q, ls[q'] = q := ⟨_, rfl⟩
      rw [hqe] at a0 ho hpre hpx hlq
      simp only at a0 ho hlq
      obtain ⟨va, vc, rfl, -⟩ := (ho.bytes (Nat.le_trans hlq (by decide))).form
      obtain ⟨fn, tmps, assign, body, hy, hR⟩ := hY _ _ _ _ hpx hJk ⟨(q' : Int), _, rfl, ho, hoD⟩
      have HP := Lib.hid hpre
      have HPX := Lib.hid hpx
      have t1 : (0 : Int) ≤ (q' : Int) := by omega
      have t2 : (q' : Int) < (ls.length : Int) := by omega
      clear hp2 ho hoD hpre hpx hqe e1
      gi_wp2
      refine ⟨wideN _, hR.mono ?_⟩
      rintro e W' ⟨-, (⟨rfl, hJ'⟩ | ⟨rfl, hJx'⟩)⟩
      · rw [HP.out] at hJ'
        gi_wp2
        go_roundw
        case rel =>
          refine ⟨q', by omega, ?_, hJ'⟩
          cases q' with
          | zero => exact .inl ⟨rfl, by go_num⟩
          | succ q'' => exact .inr ⟨q'', rfl, by go_num⟩
        case measure => simp [intOf]
      · gi_wp2
        refine bodyPost_ret (results_none rfl _ _ _) rfl ?_
        exact ⟨⟨_, rfl⟩, .inr ⟨_, HPX.out, hJx'⟩⟩

/-- rows of bytes in memory -/
def PastR (w : World) (D : List Nat) (v : Value) (ls : List (List UInt8)) : Prop := ∃ vs, w.ownsRow 0 42 1 v vs.length vs ∧ inD D v ∧ Each w D vs ls
theorem PastR.form {w : World} {D : List Nat} {v : Value} {ls : List (List UInt8)} (h : PastR w D v ls) : ∃ a c, v = .slice a ls.length c := by
  obtain ⟨vs, h1, -, h3⟩ := h
  rw [← h3.1]
  exact ownsRow_form h1
theorem PastR.at {w : World} {D : List Nat} {lv : Value} {ls : List (List UInt8)} (h : PastR w D lv ls) (j : Nat) (hj : j < ls.length) :
    ∃ b cap v, lv = .slice (some ⟨b, 0, none⟩) ls.length cap ∧ w.cell? ⟨b, j, none⟩ = some v ∧ OwnB w 0 5 v ls[j] ∧ inD D v ∧ b ∈ D ∧ ls.length ≤ cap ∧ cap ≤ 9223372036854775807 := by
  obtain ⟨vs, h1, h2, h3⟩ := h
  have hvl : vs.length = ls.length := h3.1
  have hjv : j < vs.length := by omega
  rcases id h1.2 with ⟨-, h0⟩ | ⟨b, cap, cur, rfl, -, -, hc1, hc2, -⟩
  · omega
  · have c := World.ownsRow.cells (g := b) h1 rfl j vs[j] (List.getElem?_eq_getElem hjv)
    simp only [Addr.add_lit, Nat.zero_add] at c
    obtain ⟨h4, h5⟩ := h3.2 j vs[j] ls[j] (List.getElem?_eq_getElem hjv) (List.getElem?_eq_getElem hj)
    exact ⟨b, cap, vs[j], by rw [hvl], c, h4, h5, h2 b rfl, by omega, by simpa [maxLen] using hc2⟩
theorem PastR.keep {w w' : World} {S D : List Nat} {v : Value} {ls : List (List UInt8)} (h : PastR w D v ls) (k : Keep S w w') (hS : ∀ b ∈ S, b ∉ D) : PastR w' D v ls := by
  obtain ⟨vs, h1, h2, h3⟩ := h
  exact ⟨vs, ownsRow_keep h1 k (fun b hb hm => hS b hm (h2 b hb)), h2, h3.keep k hS⟩
theorem LooseV.keep {w w' : World} {S D : List Nat} {lv : Value} {ls : List (Nat × List UInt8)} (h : LooseV w D lv ls) (k : Keep S w w') (hS : ∀ b ∈ S, b ∉ D) : LooseV w' D lv ls := by
  obtain ⟨vs, h1, h2, h3⟩ := h
  exact ⟨vs, ownsRow_keep h1 k (fun b hb hm => hS b hm (h2 b hb)), h2, h3.keep k hS⟩
def PEnc (D : List Nat) (x : List UInt8) (args : Array Value) (W : World) : Prop := ∃ (i : Int) (v : Value), args = #[.int .i64 i, v] ∧ OwnB W 0 5 v x ∧ inD D v

set_option maxRecDepth 100000 in
set_option maxHeartbeats 1000000 in
theorem backP_iter (B : Nat) (D : List Nat) (lv : Value) (ls : List (List UInt8)) (hl : ls.length ≤ 1000000000) (hlen : ∀ p ∈ ls, p.length ≤ 1000000) :
    Iter2 Try.prog 156 #[.pointer (some ⟨B, 0, none⟩)] (PEnc D) ls.reverse (fun W => W.cell? ⟨B, 0, none⟩ = some lv ∧ PastR W D lv ls) (fun _ => True) [] := by
  intro n l J Jx hRd hJ hJx hY W h0 _
  obtain ⟨hcell, hp⟩ := hRd _ _ h0
  obtain ⟨la, lc, rfl⟩ := hp.form
  refine callsIn_of_wp Try.func156 rfl trivial ?_
  simp only [Try.ntmps156, List.size_toArray, List.length_cons, List.length_nil, Nat.reduceAdd, Nat.reduceSub, Array.replicate_succ, Array.replicate_zero, List.push_toArray, List.append_toArray, List.nil_append, List.cons_append]
  gi_wp2
  gi_loopw [3] (fun i wr => ∃ q : Nat, q ≤ ls.length ∧ (q = 0 ∧ i = .int .i64 (-1) ∨ ∃ q', q = q' + 1 ∧ i = .int .i64 (q' : Int)) ∧ J (ls.reverse.take (ls.length - q)) wr) (fun i _ => (intOf i + 1).toNat)
  case atStart =>
    refine ⟨ls.length, Nat.le_refl _, ?_, by simpa using h0⟩
    cases hn : ls.length with
    | zero => exact .inl ⟨rfl, by simp [hn]⟩
    | succ q => exact .inr ⟨q, rfl, by simp [hn]⟩
  case round =>
    obtain ⟨q, hq, hor, hJk⟩ := hrel
    rcases hor with ⟨rfl, rfl⟩ | ⟨q', rfl, rfl⟩
    · gi_wp2
      go_end0
      rw [Nat.sub_zero, List.take_of_length_le (by simp)] at hJk
      exact ⟨⟨_, rfl⟩, .inl hJk⟩
    · obtain ⟨hc2, hp2⟩ := hRd _ _ hJk
      obtain ⟨b, cap, v, e1, a1, ho, hoD, hbD, hcap1, hcap2⟩ := PastR.at (ls := ls) hp2 q' (by omega)
      obtain rfl : la = some ⟨b, 0, none⟩ := by injection e1
      have hlq := hlen ls[q'] (List.getElem_mem (by omega))
      have hpre : ls.reverse.take (ls.length - (q' + 1)) ++ [ls[q']] = ls.reverse.take (ls.length - q') := by
        rw [show ls.length - q' = (ls.length - (q' + 1)) + 1 by omega, List.take_succ_eq_append_getElem (by rw [List.length_reverse]; omega), List.getElem_reverse]
        congr 3
        omega
      have hpx : ls.reverse.take (ls.length - (q' + 1)) ++ [ls[q']] <+: ls.reverse := by rw [hpre]; exact List.take_prefix _ _
      obtain ⟨ql, hqe⟩ : ∃ q, ls[q'] = q := ⟨_, rfl⟩
      rw [hqe] at ho hpre hpx hlq
      obtain ⟨va, vc, rfl, -⟩ := (ho.bytes (Nat.le_trans hlq (by decide))).form
      obtain ⟨fn, tmps, assign, body, hy, hR⟩ := hY _ _ _ _ hpx hJk ⟨(q' : Int), _, rfl, ho, hoD⟩
      have HP := Lib.hid hpre
      have HPX := Lib.hid hpx
      have t1 : (0 : Int) ≤ (q' : Int) := by omega
      have t2 : (q' : Int) < (ls.length : Int) := by omega
      clear hp2 ho hoD hpre hpx hqe e1
      gi_wp2
      refine ⟨wideN _, hR.mono ?_⟩
      rintro e W' ⟨-, (⟨rfl, hJ'⟩ | ⟨rfl, hJx'⟩)⟩
      · rw [HP.out] at hJ'
        gi_wp2
        go_roundw
        case rel =>
          refine ⟨q', by omega, ?_, hJ'⟩
          cases q' with
          | zero => exact .inl ⟨rfl, by go_num⟩
          | succ q'' => exact .inr ⟨q'', rfl, by go_num⟩
        case measure => simp [intOf]
      · gi_wp2
        refine bodyPost_ret (results_none rfl _ _ _) rfl ?_
        exact ⟨⟨_, rfl⟩, .inr ⟨_, HPX.out, hJx'⟩⟩
end Go.Proofs.Ytjkjiabfhhnngaa
