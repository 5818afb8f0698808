import Derived.Test.YtcmkcegnfddccaaRecSet
import Derived.Test.YtcmkcegnfddccaaRefOf
import Derived.Test.YtcmkcegnfddccaaHist
import Derived.Test.YtcmkcegnfddccaaRange2
import Derived.Test.YtcmkcegnfddccaaScope
import Derived.Shelf.Abstract
import Derived.Shelf.RegionOpen
import Derived.OwnWalkIn
import Derived.TacticsInMore
import Derived.LoopNIn
import Derived.LoopIn
/-! The iterator of record.records: it gives the records of the bytes. -/
namespace Go.Proofs.Ytcmkcegnfddccaa
open Go.RowKit Go.Shelf Sg
attribute [local go_sem] Oper.semAt_some
set_option linter.unusedSimpArgs false

def RcEnc (base : Nat) (x : Rc) (args : Array Value) (W : World) : Prop := ∃ k v, args = #[.agg #[k, v, .int .i64 (x.en : Int)]] ∧ OwnB W base 5 k x.k ∧ OwnB W base 5 v x.v ∧ x.k.length ≤ 1000000 ∧ x.v.length ≤ 1000000
def boxLen (B : Nat) (w : World) : Nat := match w.cell? ⟨B, 0, none⟩ with
  | some (.slice _ n _) => n
  | _ => 0

theorem recsOf_nil : recsOf [] = [] := by rw [recsOf]
theorem recsOf_zero (l : List UInt8) (h : 0 < l.length) (h0 : l[0] = 0) : recsOf l = recsOf (l.drop 1) := by
  match l, h with
  | x :: t, _ =>
    have : x = 0 := h0
    rw [recsOf, if_pos this]
    rfl
theorem recsOf_rec (l : List UInt8) (h : 0 < l.length) (h0 : l[0] ≠ 0) (hr : RecOk l) : recsOf l = ⟨qkey l, qval l, qe l⟩ :: recsOf (l.drop (13 + qk l + qv l)) := by
  match l, h with
  | x :: t, _ =>
    have : ¬ x = 0 := h0
    rw [recsOf, if_neg this, if_pos hr]
theorem recsOf_bad (l : List UInt8) (h : 0 < l.length) (h0 : l[0] ≠ 0) (hr : ¬ RecOk l) : recsOf l = [] := by
  match l, h with
  | x :: t, _ =>
    have : ¬ x = 0 := h0
    rw [recsOf, if_neg this, if_neg hr]

set_option maxRecDepth 100000 in
set_option maxHeartbeats 1000000 in
theorem records1_iter (B base : Nat) (v0 : Value) (l0 : List UInt8) (hl : l0.length ≤ 1000000) :
    Iter2 Try.prog 117 #[.pointer (some ⟨B, 0, none⟩)] (RcEnc base) (recsOf l0) (fun W => Bytes W v0 l0 ∧ base ≤ W.heap.size ∧ B < base ∧ (l0 ≠ [] → v0.ownBlock ≠ some B)) (fun W => W.heap[B]? = some (.cells #[v0] 23 (0, 0))) [B] := by
  intro n l J Jx hRd hJ hJx hY W h0 hSt
  obtain ⟨hv, hbase, hBb, hvB⟩ := hRd _ _ h0
  obtain ⟨ao, cap, rfl, hlc, hm, hcap⟩ := hv.form
  refine callsIn_of_wp Try.func117 rfl trivial ?_
  simp only [Try.ntmps117, List.size_toArray, List.length_cons, List.length_nil, Nat.reduceAdd, Nat.reduceSub, Array.replicate_succ, Array.replicate_zero, List.push_toArray, List.append_toArray, List.nil_append, List.cons_append]
  gi_wp2
  refine wpIn_scope_straight ?_
  apply wpIn_seq_k
  intro K hK
  apply wpIn_label
  refine hK _ _ ?_
  clear hK K
  gi_wp2
  gi_loopw [4] (fun _ wr => ∃ (m : Nat) (ad : Option Addr) (pre : List Rc), m ≤ l0.length ∧ pre ++ recsOf (l0.drop m) = recsOf l0 ∧ J pre wr ∧ wr.heap[B]? = some (.cells #[.slice ad (l0.length - m) (cap - m)] 23 (0, 0)) ∧ (m < l0.length → ∃ b o, ao = some ⟨b, o, none⟩ ∧ ad = some ⟨b, o + m, none⟩)) (fun _ wr => boxLen B wr)
  case atStart => 
    refine ⟨0, ao, [], by omega, by simp, h0, by simpa using hSt, fun h => ?_⟩
    obtain ⟨b, o, rfl, -, -⟩ := hv.spot h
    exact ⟨b, o, rfl, rfl⟩
  case round =>
    obtain ⟨m, ad, pre, hml, hpre, hJm, hBm, hadm⟩ := hrel
    obtain ⟨hvm, hbm, -, hvB'⟩ := hRd _ _ hJm
    have gB := cell_of_one hBm
    have fB := free_of_one hBm
    by_cases hlt : m < l0.length
    · obtain ⟨b, o, rfl, rfl⟩ := hadm hlt
      have hcut := hvm.sub (f := m) (t := l0.length) (by omega) (by omega) (by omega)
      rw [List.take_of_length_le (by rw [List.length_drop]; omega)] at hcut
      obtain ⟨b', o', e', -, hc⟩ := hvm.spot (by omega)
      cases e'
      have hcm := hc m hlt
      have hbB : ¬ B = b := by
        have := hvB' (by intro h; rw [h] at hlt; simp at hlt)
        simp [Value.ownBlock] at this
        exact fun h => this h.symm
      have hd0 : 0 < (l0.drop m).length := by rw [List.length_drop]; omega
      have hd1 : (l0.drop m)[0] = l0[m] := by simp
      have t0 : (0 : Int) < ((l0.length - m : Nat) : Int) := by omega
      have t0' : 0 < l0.length - m := by omega
      have t1 : (1 : Int) ≤ ((l0.length - m : Nat) : Int) := by omega
      by_cases h0 : l0[m] = 0
      · have hr := recsOf_zero (l0.drop m) hd0 (by rw [hd1]; exact h0)
        rw [List.drop_drop] at hr
        rw [h0] at hcm
        have hpre2 : pre ++ recsOf (l0.drop (m + 1)) = recsOf l0 := by rw [← hr]; exact hpre
        by_cases hc1 : cap - m = 1
        · gi_wp2
          case roundEnd =>
            refine ⟨⟨m + 1, _, pre, by omega, hpre2, hJ _ _ _ ((Keep.refl _ _).setCell (.inl (by simp)) _) hJm, by rw [show l0.length - (m + 1) = l0.length - m - 1 by omega, show cap - (m + 1) = 0 by omega]; exact one_setCell hBm, fun h => by omega⟩, ?_⟩
            unfold boxLen
            rw [gB, cell_of_one (one_setCell hBm)]
            simp
            omega
        · gi_wp2
          case roundEnd =>
            refine ⟨⟨m + 1, _, pre, by omega, hpre2, hJ _ _ _ ((Keep.refl _ _).setCell (.inl (by simp)) _) hJm, by rw [show l0.length - (m + 1) = l0.length - m - 1 by omega, show cap - (m + 1) = cap - m - 1 by omega]; exact one_setCell hBm, fun h => ⟨b, o, rfl, by rw [Nat.add_assoc]⟩⟩, ?_⟩
            unfold boxLen
            rw [gB, cell_of_one (one_setCell hBm)]
            simp
            omega
      · have hU := unpack_any _ (l0.drop m) wr hcut (by rw [List.length_drop]; omega)
        have hne : ¬ ((l0[m].toNat : Int) = 0) := fun h => h0 (UInt8.toNat_inj.1 (by simpa using h))
        gi_wp2_with fail
        refine ⟨trivial, wideN _, callsIn_wide.2 (hU.mono ?_)⟩
        rintro e w2 ⟨k2, hor⟩
        have hJ2 := hJ _ _ _ (k2.mono (by simp)) hJm
        have hB2 := k2.blk (by simp) hBm
        by_cases hr : RecOk (l0.drop m)
        · obtain ⟨f1, f2, f3, f4, f5, f6, f7⟩ := rec_ok_fields _ hr
          have hrec := recsOf_rec (l0.drop m) hd0 (by rw [hd1]; exact h0) hr
          rw [hrec] at hpre
          have hrl := hr.1
          rw [List.length_drop] at hrl
          obtain ⟨N, hN⟩ : ∃ N, 13 + qk (l0.drop m) + qv (l0.drop m) = N := ⟨_, rfl⟩
          rw [hN] at hrl hpre
          rw [List.drop_drop] at hpre
          obtain ⟨k, v, rfl, bk, bv⟩ : ∃ k v, e = .returned (.tuple #[.agg #[k, v, .int .i64 (qe (l0.drop m) : Int)], .int .i64 (N : Int), .int .i64 0]) ∧ OwnB w2 wr.heap.size 5 k (qkey (l0.drop m)) ∧ OwnB w2 wr.heap.size 5 v (qval (l0.drop m)) := by
            rcases hor with ⟨-, k, v, h1, h2, h3⟩ | ⟨h, -⟩
            · rw [f1, f2, f3] at h1
              rw [f4] at h2
              rw [f5] at h3
              refine ⟨k, v, ?_, h2, h3⟩
              rw [h1, ← hN]
              push_cast
              rfl
            · exact absurd ((rec_ok_iff _).2 hr) h
          have hlk : (qkey (l0.drop m)).length ≤ 1000000 := by omega
          have hlv : (qval (l0.drop m)).length ≤ 1000000 := by omega
          obtain ⟨ka, kc, rfl, -⟩ := (bk.bytes (Nat.le_trans hlk (by decide))).form
          obtain ⟨va, vc, rfl, -⟩ := (bv.bytes (Nat.le_trans hlv (by decide))).form
          have hA := (Keep.refl [] w2).alloc (.cells #[.slice ka (qkey (l0.drop m)).length kc, .slice va (qval (l0.drop m)).length vc, .int .i64 (qe (l0.drop m) : Int)] 30)
          have hJ4 := hJ _ _ _ (hA.mono (by simp)) hJ2
          have hB4 := hA.blk (by simp) hB2
          have hpx : pre ++ [⟨qkey (l0.drop m), qval (l0.drop m), qe (l0.drop m)⟩] <+: recsOf l0 := ⟨recsOf (l0.drop (m + N)), by rw [← hpre]; simp⟩
          have hpre3 : (pre ++ [⟨qkey (l0.drop m), qval (l0.drop m), qe (l0.drop m)⟩]) ++ recsOf (l0.drop (m + N)) = recsOf l0 := by rw [← hpre]; simp
          obtain ⟨fn, tmps, assign, body, hy, hR⟩ := hY _ _ #[.agg #[.slice ka (qkey (l0.drop m)).length kc, .slice va (qval (l0.drop m)).length vc, .int .i64 (qe (l0.drop m) : Int)]] _ hpx hJ4 ⟨_, _, rfl, (bk.base hbm).keep hA (by simp), (bv.base hbm).keep hA (by simp), hlk, hlv⟩
          have n0 : 13 ≤ N := by omega
          have t2 : (N : Int) ≤ ((l0.length - m : Nat) : Int) := by omega
          have t3 : (N : Int) ≤ ((cap - m : Nat) : Int) := by omega
          clear hor hU hJ2 hB2 bk bv hlk hlv hcut hvm f1 f2 f3 f4 f5 f6 f7 hrec hN
          gi_wp2_with fail
          refine ⟨wideN _, hR.mono ?_⟩
          rintro e W3 ⟨hkB, (⟨rfl, hJ3⟩ | ⟨rfl, hJx3⟩)⟩
          · have hB3 := (hkB B (by simp)).trans hB4
            have gB3 := cell_of_one hB3
            have fB3 := free_of_one hB3
            by_cases hcN : cap - m = N
            · gi_wp2
              case roundEnd =>
                refine ⟨⟨m + N, _, pre ++ [⟨qkey (l0.drop m), qval (l0.drop m), qe (l0.drop m)⟩], by omega, hpre3, hJ _ _ _ ((Keep.refl _ _).setCell (.inl (by simp)) _) hJ3, by rw [show l0.length - (m + N) = l0.length - m - N by omega, show cap - (m + N) = 0 by omega]; exact one_setCell hB3, fun h => by omega⟩, ?_⟩
                unfold boxLen
                rw [gB, cell_of_one (one_setCell hB3)]
                simp
                omega
            · gi_wp2
              case roundEnd =>
                refine ⟨⟨m + N, _, pre ++ [⟨qkey (l0.drop m), qval (l0.drop m), qe (l0.drop m)⟩], by omega, hpre3, hJ _ _ _ ((Keep.refl _ _).setCell (.inl (by simp)) _) hJ3, by rw [show l0.length - (m + N) = l0.length - m - N by omega, show cap - (m + N) = cap - m - N by omega]; exact one_setCell hB3, fun h => ⟨b, o, rfl, by rw [Nat.add_assoc]⟩⟩, ?_⟩
                unfold boxLen
                rw [gB, cell_of_one (one_setCell hB3)]
                simp
                omega
          · gi_wp2
            try rw [Exit.noGoto_ret]
            refine bodyPost_ret (results_none rfl _ _ _) rfl ?_
            exact ⟨⟨_, rfl⟩, .inr ⟨_, hpx, hJx3⟩⟩
        · have hrec := recsOf_bad (l0.drop m) hd0 (by rw [hd1]; exact h0) hr
          rw [hrec, List.append_nil] at hpre
          obtain rfl : e = _ := by
            rcases hor with ⟨h, -⟩ | ⟨-, h⟩
            · exact absurd ((rec_ok_iff _).1 h) hr
            · exact h
          gi_wp2
          refine ⟨(fun _ h => by cases h), ?_⟩
          gi_wp2
          try rw [Exit.noGoto_ret]
          refine bodyPost_ret (results_none rfl _ _ _) rfl ?_
          exact ⟨⟨_, rfl⟩, .inl (by rw [← hpre]; exact hJ _ _ _ (((Keep.refl [] w2).alloc _).mono (by simp)) hJ2)⟩
    · have : l0.drop m = [] := List.drop_of_length_le (by omega)
      rw [this, recsOf_nil, List.append_nil] at hpre
      have t0 : ¬ (0 : Int) < ((l0.length - m : Nat) : Int) := by omega
      have t0' : l0.length - m = 0 := by omega
      rw [t0'] at gB
      gi_wp2
      go_end0
      exact ⟨⟨_, rfl⟩, .inl (by rw [← hpre]; exact hJm)⟩
end Go.Proofs.Ytcmkcegnfddccaa
