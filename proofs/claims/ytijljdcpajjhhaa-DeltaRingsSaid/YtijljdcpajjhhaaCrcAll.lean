import Derived.Test.YtijljdcpajjhhaaProg
import Derived.Test.YtijljdcpajjhhaaRange
import Derived.Shelf.Abstract
import Derived.Shelf.RegionOpen
import Derived.OwnWalkIn
import Derived.TacticsInMore
import Derived.LoopNIn
import Derived.LoopIn
import Derived.Lib.Hide
/-! The iterator of crc.all: it gives the bytes of the pieces, one behind the other. -/
namespace Go.Proofs.Ytijljdcpajjhhaa
open Go.RowKit Go.Shelf Sg
attribute [local go_sem] Oper.semAt_some

def flat (ps : List (Value × List UInt8)) : List UInt8 := ps.flatMap (·.2)
theorem flat_append (a b : List (Value × List UInt8)) : flat (a ++ b) = flat a ++ flat b := List.flatMap_append
theorem flat_take_succ (ps : List (Value × List UInt8)) (i : Nat) (h : i < ps.length) : flat (ps.take (i + 1)) = flat (ps.take i) ++ ps[i].2 := by
  rw [List.take_succ_eq_append_getElem h, flat_append]
  congr 1
  exact List.append_nil _
theorem flat_pre (ps : List (Value × List UInt8)) (i k : Nat) (h : i < ps.length) (hk : k < ps[i].2.length) : (flat (ps.take i) ++ ps[i].2.take k) ++ [ps[i].2[k]] <+: flat ps := by
  rw [List.append_assoc, ← List.take_succ_eq_append_getElem hk]
  have e : flat ps = flat (ps.take i) ++ (ps[i].2 ++ flat (ps.drop (i + 1))) := by
    have h1 : ps = ps.take (i + 1) ++ ps.drop (i + 1) := (List.take_append_drop _ _).symm
    have h2 : flat ps = flat (ps.take (i + 1) ++ ps.drop (i + 1)) := congrArg flat h1
    rw [h2, flat_append, flat_take_succ ps i h, List.append_assoc]
  rw [e]
  refine (List.prefix_append_right_inj _).2 ?_
  exact (List.take_prefix _ _).trans (List.prefix_append _ _)

set_option maxRecDepth 100000 in
set_option maxHeartbeats 1000000 in
theorem all1_iter (Bn : Nat) (v : Value) (ps : List (Value × List UInt8)) :
    Iter Try.prog 178 #[.pointer (some ⟨Bn, 0, none⟩)] (fun (x : UInt8) args _ => args = #[.int .u8 (x.toNat : Int)]) (flat ps) (fun W => W.cell? ⟨Bn, 0, none⟩ = some v ∧ Pieces W v ps) := by
  intro n l J Jx hJ _ _ hY W h0
  obtain ⟨hcell, hp⟩ := hJ _ _ h0
  obtain ⟨ao, cap, rfl, hl1, hl2, -⟩ := id hp
  have hm : ps.length ≤ 140737488355328 := by omega
  refine callsIn_of_wp Try.func178 rfl trivial ?_
  simp only [Try.ntmps178, List.size_toArray, List.length_cons, List.length_nil, Nat.reduceAdd, Nat.reduceSub, Array.replicate_succ, Array.replicate_zero, List.push_toArray, List.append_toArray, List.nil_append, List.cons_append]
  gi_wp2
  gi_loopw [9] (fun i wr => ∃ k : Nat, k ≤ ps.length ∧ i = .int .i64 k ∧ J (flat (ps.take k)) wr) (fun i _ => ps.length - (intOf i).toNat)
  case atStart => exact ⟨0, by omega, rfl, by simpa [flat] using h0⟩
  case round =>
    obtain ⟨k, hk, rfl, hJk⟩ := hrel
    by_cases hlt : k < ps.length
    · obtain ⟨hcell2, hp2⟩ := hJ _ _ hJk
      obtain ⟨b, o, rfl, -, hc⟩ := hp2.spot (by omega)
      obtain ⟨hck, hbk⟩ := hc k hlt
      obtain ⟨ao2, cap2, hv2, -, hm2, -⟩ := hbk.form
      rw [hv2] at hck
      have HV := Lib.hid hv2
      clear hv2 hc hbk hcell2 hp2
      gi_wp2
      obtain ⟨wo, ho⟩ : ∃ wo, wo = wr := ⟨_, rfl⟩
      subst ho
      gi_loopw [15] (fun i wr => ∃ j : Nat, j ≤ ps[k].2.length ∧ i = .int .i64 j ∧ J (flat (ps.take k) ++ ps[k].2.take j) wr) (fun i _ => ps[k].2.length - (intOf i).toNat)
      case atStart => exact ⟨0, by omega, rfl, by simpa using hJk⟩
      case round =>
        obtain ⟨j, hj, rfl, hJj⟩ := hrel
        by_cases hlt2 : j < ps[k].2.length
        · obtain ⟨hcell2, hp2⟩ := hJ _ _ hJj
          obtain ⟨b', o', e', -, hc⟩ := hp2.spot (by omega)
          cases e'
          obtain ⟨hck2, hbk⟩ := hc k hlt
          rw [HV.out] at hbk
          obtain ⟨b2, o2, rfl, -, hc2⟩ := hbk.spot (by omega)
          have hcj := hc2 j hlt2
          obtain ⟨fn, tmps, assign, body, hy, hR⟩ := hY _ _ _ _ (flat_pre ps k j hlt hlt2) hJj rfl
          have HE : Hid (flat (ps.take k) ++ ps[k].2.take (j + 1) = flat (ps.take k) ++ ps[k].2.take j ++ [ps[k].2[j]]) := by
            show _ = _
            rw [List.append_assoc, ← List.take_succ_eq_append_getElem hlt2]
          have HP := Lib.hid (flat_pre ps k j hlt hlt2)
          clear hcell2 hp2 hc hck2 hbk hc2
          gi_wp2
          refine ⟨wideN _, hR.mono ?_⟩
          rintro e W' (⟨rfl, hJ'⟩ | ⟨rfl, hJx'⟩)
          · gi_wp2
            go_roundw
            case rel => exact ⟨j + 1, by omega, by go_num, by rw [HE.out]; exact hJ'⟩
            case measure => simp [intOf]; omega
          · gi_wp2
            refine bodyPost_ret (results_none rfl _ _ _) rfl ?_
            exact ⟨⟨_, rfl⟩, .inr ⟨_, HP.out, hJx'⟩⟩
        · gi_wp2
          go_roundw
          case rel =>
            refine ⟨k + 1, by omega, by go_num, ?_⟩
            rw [flat_take_succ ps k hlt]
            rw [List.take_of_length_le (show ps[k].2.length ≤ j by omega)] at hJj
            exact hJj
          case measure => simp [intOf]; omega
    · gi_wp2
      go_end0
      rw [List.take_of_length_le (by omega)] at hJk
      exact ⟨⟨_, rfl⟩, .inl hJk⟩

theorem all_any (ao : Option Addr) (n c : Nat) (w : World) : Calls Try.prog 172 #[.slice ao n c] w fun e w' => e = .returned (.func (.func 178) #[] #[.pointer (some ⟨w.heap.size, 0, none⟩)]) ∧ w.alloc (.cells #[.slice ao n c] 50) = w' := by
  go_enter Try.func172, Try.ntmps172
  go_wp2
  go_ret
  exact ⟨rfl, rfl⟩
end Go.Proofs.Ytijljdcpajjhhaa
