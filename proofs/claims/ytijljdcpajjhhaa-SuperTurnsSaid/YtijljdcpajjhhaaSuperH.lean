import Derived.Test.YtijljdcpajjhhaaSuperS
import Derived.Test.YtijljdcpajjhhaaScope
import Derived.Shelf.Abstract
import Derived.Shelf.RegionOpen
import Derived.OwnWalkIn
import Derived.TacticsInMore
import Derived.LoopNIn
import Derived.LoopIn
import Derived.Test.YtijljdcpajjhhaaApp
import Derived.Outline
/-! The iterator over the heads of a device. -/
namespace Go.Proofs.Ytijljdcpajjhhaa
open Go.RowKit Go.Shelf Sg
attribute [local go_sem] Oper.semAt_some
set_option linter.unusedSimpArgs false
set_option linter.unusedVariables false

def HdEnc (x : Hd) (args : Array Value) (W : World) : Prop := args = #[x.v]
/-- what is told ahead of turn k -/
def hpre (m : Dev) (k : Nat) : List Hd := if k = 0 then [] else if k = 1 then (hdAt m 0).toList else hdRow m
theorem hpre_step (m : Dev) (k : Nat) (hk : k < 2) : hpre m (k + 1) = hpre m k ++ (hdAt m k).toList := by
  rcases (by omega : k = 0 ∨ k = 1) with rfl | rfl
  · simp [hpre]
  · simp [hpre, hdRow]
theorem hpre_le (m : Dev) (k : Nat) (hk : k < 2) : hpre m (k + 1) <+: hdRow m := by
  rcases (by omega : k = 0 ∨ k = 1) with rfl | rfl
  · simp [hpre, hdRow]
  · simp [hpre]
theorem hpre_two (m : Dev) : hpre m 2 = hdRow m := rfl
theorem hd_none (m : Dev) (k : Nat) (hk : k < 2) (h : hdAt m k = none) : hpre m (k + 1) = hpre m k := by rw [hpre_step m k hk, h]; simp
theorem hd_some (m : Dev) (k : Nat) (hk : k < 2) (x : Hd) (h : hdAt m k = some x) : hpre m (k + 1) = hpre m k ++ [x] := by rw [hpre_step m k hk, h]; rfl

set_option maxRecDepth 100000 in
set_option maxHeartbeats 4000000 in
theorem heads1_iter (B g : Nat) (D : List Nat) (m : Dev) (hacts : m.acts ≤ 1000000000) :
    Iter2 Try.prog 144 #[.pointer (some ⟨B, 0, none⟩)] HdEnc (hdRow m) (fun W => DV W D g m ∧ W.heap[B]? = some (.cells #[.pointer (some ⟨g, 0, none⟩)] 26 (0, 0))) (fun W => True) [] := by
  intro n l J Jx hRd hJ hJx hY W h0 hSt
  refine callsIn_of_wp Try.func144 rfl trivial ?_
  simp only [Try.ntmps144, List.size_toArray, List.length_cons, List.length_nil, Nat.reduceAdd, Nat.reduceSub, Array.replicate_succ, Array.replicate_zero, List.push_toArray, List.append_toArray, List.nil_append, List.cons_append]
  gi_wp2
  refine wpIn_scope_straight ?_
  apply wpIn_seq_k
  intro K hK
  apply wpIn_label
  refine hK _ _ ?_
  clear hK K
  gi_wp2
  gi_loopw [7] (fun i wr => ∃ (k : Nat), k ≤ 2 ∧ i = .int .i64 k ∧ J (hpre m k) wr) (fun i wr => 2 - (intOf i).toNat)
  case atStart => exact ⟨0, by omega, rfl, by exact h0⟩
  case round =>
    obtain ⟨k, hk2, rfl, hJk⟩ := hrel
    obtain ⟨hd, hB⟩ := hRd _ _ hJk
    have gB := cell_of_one hB
    by_cases hlt : k < 2
    · have hlt' : (k : Int) < 2 := by omega
      have hG := leafGet_any wr D g m hd hacts k 1 k
      have hnone := hd_none m k hlt
      have hsome := hd_some m k hlt
      have hle := hpre_le m k hlt
      have hat : hdAt m k = if lgot m k 1 k ∧ ls (m.read k).1 % 2 = k ∧ Un63 (ls (m.read k).1) (ll (m.read k).1) ∧ (of63 (ls (m.read k).1) (ll (m.read k).1)).p.sec = m.n ∧ (of63 (ls (m.read k).1) (ll (m.read k).1)).p.size = m.sz then some (of63 (ls (m.read k).1) (ll (m.read k).1)) else none := rfl
      obtain ⟨X, hX⟩ : ∃ X, hdAt m k = X := ⟨_, rfl⟩
      rw [hX] at hat hnone hsome
      obtain ⟨ec, hec⟩ : ∃ ec : Int, (if (m.read (k : Int)).2 = 0 then (5 : Int) else ((m.read (k : Int)).2 : Int)) = ec := ⟨_, rfl⟩
      have hec0 : (ec != 0) = true := by
        rw [← hec]
        split
        · rfl
        · rename_i h5
          simp
          omega
      rw [hec] at hG
      obtain ⟨st, hst⟩ : ∃ st, ls (m.read (k : Int)).1 = st := ⟨_, rfl⟩
      obtain ⟨L, hL⟩ : ∃ L, ll (m.read (k : Int)).1 = L := ⟨_, rfl⟩
      rw [hst, hL] at hG hat
      have hU := fun x w hx => hunpack_any (st : Int) x L w hx
      obtain ⟨LG, hLG⟩ : ∃ LG : Prop, lgot m k 1 k = LG := ⟨_, rfl⟩
      have hn1 : ¬ LG → X = none := fun h => by rw [hat, if_neg (fun e => h (by rw [← hLG]; exact e.1))]
      have hn2 : ¬ st % 2 = k → X = none := fun h => by rw [hat, if_neg (fun e => h e.2.1)]
      have hn3 : ¬ Un63 (st : Int) L → X = none := fun h => by rw [hat, if_neg (fun e => h e.2.2.1)]
      have hn4 : ¬ ((of63 (st : Int) L).p.sec = m.n ∧ (of63 (st : Int) L).p.size = m.sz) → X = none := fun h => by rw [hat, if_neg (fun e => h e.2.2.2)]
      have hn5 : LG → st % 2 = k → Un63 (st : Int) L → ((of63 (st : Int) L).p.sec = m.n ∧ (of63 (st : Int) L).p.size = m.sz) → X = some (of63 (st : Int) L) := fun a b c d => by rw [hat, if_pos ⟨by rw [hLG]; exact a, b, c, d⟩]
      rw [hLG] at hG
      clear hat hX hec hst hL hLG
      obtain ⟨r, hr⟩ : ∃ r, st % 2 = r := ⟨_, rfl⟩
      have t1 : Int.tmod (st : Int) 2 = (r : Int) := by rw [Int.tmod_eq_emod_of_nonneg (by omega)]; omega
      have t2 : IntKind.i64.wrap (r : Int) = (r : Int) := i64_wrap (by omega) (by omega)
      rw [hr] at hn2 hn5
      clear hr
      have HNONE := Lib.hid hnone
      have HSOME := Lib.hid hsome
      have HN1 := Lib.hid hn1
      have HN2 := Lib.hid hn2
      have HN3 := Lib.hid hn3
      have HN4 := Lib.hid hn4
      have HN5 := Lib.hid hn5
      have HU := Lib.hid hU
      have HD := Lib.hid hd
      have HJK := Lib.hid hJk
      clear hnone hsome hn1 hn2 hn3 hn4 hn5 hU hJk
      gi_wp2_with fail
      refine ⟨trivial, wideN _, callsIn_wide.2 (hG.mono ?_)⟩
      clear hG hd
      rintro e w2 ⟨k2, hor⟩
      have hJ2 := hJ _ _ _ (k2.mono (by simp)) HJK.out
      have HJ2 := Lib.hid hJ2
      clear hJ2
      rcases hor with ⟨hlg, v, rfl, hv⟩ | ⟨hlg, rfl⟩
      case inr =>
        have hX := Lib.hid (HNONE.out (HN1.out hlg))
        have hA := (Keep.refl [] w2).alloc (.cells #[.int .i64 0, .int .i64 0, .int .i64 0, .slice none 0 0] 39)
        have HA := Lib.hid hA
        simp only [leaf0]
        clear hA
        gi_wp2
        case roundEnd =>
          refine ⟨⟨k + 1, by omega, by go_num, by rw [hX.out]; exact hJ _ _ _ (HA.out.mono (by simp)) HJ2.out⟩, ?_⟩
          simp [intOf]
          omega
      case inl =>
        obtain ⟨va, vc, rfl, -⟩ := hv.form
        obtain ⟨LN, hLN⟩ : ∃ n, L.length = n := ⟨_, rfl⟩
        rw [hLN] at hv ⊢
        clear hLN
        have hA := (Keep.refl [] w2).alloc (.cells #[.int .i64 1, .int .i64 k, .int .i64 (st : Int), .slice va LN vc] 39)
        have hb := heap_alloc_new w2 (.cells #[.int .i64 1, .int .i64 k, .int .i64 (st : Int), .slice va LN vc] 39)
        have l2 := cell_of_row _ _ 2 _ _ _ hb
        have l3 := cell_of_row _ _ 3 _ _ _ hb
        simp at l2 l3
        have HA := Lib.hid hA
        have HV := Lib.hid (hv.keep hA (by simp))
        have hJ3 := hJ _ _ _ (hA.mono (by simp)) HJ2.out
        have HJ3 := Lib.hid hJ3
        clear hA hb hv hJ3
        by_cases hrk : r = k
        · have z1 : ((r : Int) != (k : Int)) = false := by simp [hrk]
          have HRK := Lib.hid hrk
          clear hrk
          by_cases hun : Un63 (st : Int) L
          · have HUN := Lib.hid hun
            have hU := HU.out _ _ HV.out
            rw [if_pos hun] at hU
            obtain ⟨H, hH⟩ : ∃ H, of63 (st : Int) L = H := ⟨_, rfl⟩
            have hn4 := HN4.out
            have hn5 := HN5.out hlg HRK.out hun
            rw [hH] at hU hn4 hn5
            clear hH hun
            have hF := fun w hd => hfits_any H w D g m hd
            obtain ⟨F, hFF⟩ : ∃ F : Bool, decide (H.p.sec = (m.n : Int) ∧ H.p.size = (m.sz : Int)) = F := ⟨_, rfl⟩
            rw [hFF] at hF
            have hx1 : F = false → hpre m (k + 1) = hpre m k := fun e => by
              rw [e, decide_eq_false_iff_not] at hFF
              exact HNONE.out (hn4 hFF)
            have hx2 : F = true → hpre m (k + 1) = hpre m k ++ [H] := fun e => by
              rw [e, decide_eq_true_eq] at hFF
              exact HSOME.out _ (hn5 hFF)
            clear hFF hn4 hn5
            have hYy : ∀ W', hpre m k ++ [H] <+: hdRow m → J (hpre m k) W' → _ := fun W' h1 h2 => hY (hpre m k) H #[H.v] W' h1 h2 rfl
            obtain ⟨⟨sec, size, reg, rs, lg, dep, mem, seed⟩, gen, page, stamp, hdep, log, hreg, time⟩ := H
            simp only [Hd.v, Hd.cells] at *
            have HX1 := Lib.hid hx1
            have HX2 := Lib.hid hx2
            have HF := Lib.hid hF
            have HYY := Lib.hid hYy
            have HU2 := Lib.hid hU
            clear hx1 hx2 hF hYy hU
            gi_wp2_with fail
            refine ⟨trivial, wideN _, callsIn_wide.2 (HU2.out.mono ?_)⟩
            rintro e w3 ⟨rfl, k3⟩
            have hA3 := (Keep.refl [] w3).alloc (.cells #[.int .i64 sec, .int .i64 size, .int .i64 reg, .int .i64 rs, .int .i64 lg, .int .i64 dep, .int .i64 mem, .int .u64 (seed : Int), .int .i64 gen, .int .i64 page, .int .i64 stamp, .int .i64 hdep, .int .i64 log, .int .i64 hreg, .int .i64 time] 123)
            have hb3 := heap_alloc_new w3 (.cells #[.int .i64 sec, .int .i64 size, .int .i64 reg, .int .i64 rs, .int .i64 lg, .int .i64 dep, .int .i64 mem, .int .u64 (seed : Int), .int .i64 gen, .int .i64 page, .int .i64 stamp, .int .i64 hdep, .int .i64 log, .int .i64 hreg, .int .i64 time] 123)
            have hJ4 := hJ _ _ _ (hA3.mono (by simp)) (hJ _ _ _ (k3.mono (by simp)) HJ3.out)
            have hd4 := (hRd _ _ hJ4).1
            have gB4 := cell_of_one (hRd _ _ hJ4).2
            have HJ4 := Lib.hid hJ4
            have HB3 := Lib.hid hb3
            have HD4 := Lib.hid hd4
            have p0 := cell_of_row _ _ 0 _ _ _ hb3
            have p1 := cell_of_row _ _ 1 _ _ _ hb3
            have p2 := cell_of_row _ _ 2 _ _ _ hb3
            have p3 := cell_of_row _ _ 3 _ _ _ hb3
            have p4 := cell_of_row _ _ 4 _ _ _ hb3
            have p5 := cell_of_row _ _ 5 _ _ _ hb3
            have p6 := cell_of_row _ _ 6 _ _ _ hb3
            have p7 := cell_of_row _ _ 7 _ _ _ hb3
            have p8 := cell_of_row _ _ 8 _ _ _ hb3
            have p9 := cell_of_row _ _ 9 _ _ _ hb3
            have p10 := cell_of_row _ _ 10 _ _ _ hb3
            have p11 := cell_of_row _ _ 11 _ _ _ hb3
            have p12 := cell_of_row _ _ 12 _ _ _ hb3
            have p13 := cell_of_row _ _ 13 _ _ _ hb3
            have p14 := cell_of_row _ _ 14 _ _ _ hb3
            simp at p0 p1 p2 p3 p4 p5 p6 p7 p8 p9 p10 p11 p12 p13 p14
            clear hA3 hb3 hJ4 hd4 k3 l2 l3
            gi_wp2_with fail
            refine ⟨trivial, wideN _, callsIn_wide.2 ((HF.out _ HD4.out).mono ?_)⟩
            rintro e w5 ⟨rfl, k5⟩
            have hb5 := k5.blk (by simp) HB3.out
            have hJ5 := hJ _ _ _ (k5.mono (by simp)) HJ4.out
            have HJ5 := Lib.hid hJ5
            clear hJ5 k5 gB4 p0 p1 p2 p3 p4 p5 p6 p7 p8 p9 p10 p11 p12 p13 p14
            have q0 := cell_of_row _ _ 0 _ _ _ hb5
            have q1 := cell_of_row _ _ 1 _ _ _ hb5
            have q2 := cell_of_row _ _ 2 _ _ _ hb5
            have q3 := cell_of_row _ _ 3 _ _ _ hb5
            have q4 := cell_of_row _ _ 4 _ _ _ hb5
            have q5 := cell_of_row _ _ 5 _ _ _ hb5
            have q6 := cell_of_row _ _ 6 _ _ _ hb5
            have q7 := cell_of_row _ _ 7 _ _ _ hb5
            have q8 := cell_of_row _ _ 8 _ _ _ hb5
            have q9 := cell_of_row _ _ 9 _ _ _ hb5
            have q10 := cell_of_row _ _ 10 _ _ _ hb5
            have q11 := cell_of_row _ _ 11 _ _ _ hb5
            have q12 := cell_of_row _ _ 12 _ _ _ hb5
            have q13 := cell_of_row _ _ 13 _ _ _ hb5
            have q14 := cell_of_row _ _ 14 _ _ _ hb5
            simp at q0 q1 q2 q3 q4 q5 q6 q7 q8 q9 q10 q11 q12 q13 q14
            clear hb5
            cases F with
            | false =>
              have hX := Lib.hid (HX1.out (by trivial))
              gi_wp2
              case roundEnd =>
                refine ⟨⟨k + 1, by omega, by go_num, by rw [hX.out]; exact HJ5.out⟩, ?_⟩
                simp [intOf]
                omega
            | true =>
              have hX := Lib.hid (HX2.out (by trivial))
              obtain ⟨fn, tmps, assign, body, hy, hR⟩ := HYY.out _ (by rw [← hX.out]; exact hle) HJ5.out
              gi_wp2_with fail
              refine ⟨wideN _, hR.mono ?_⟩
              rintro e W3 ⟨-, (⟨rfl, hJ6⟩ | ⟨rfl, hJx6⟩)⟩
              · have HJ6 := Lib.hid hJ6
                clear hJ6
                gi_wp2
                case roundEnd =>
                  refine ⟨⟨k + 1, by omega, by go_num, by rw [hX.out]; exact HJ6.out⟩, ?_⟩
                  simp [intOf]
                  omega
              · have HJx6 := Lib.hid hJx6
                clear hJx6
                gi_wp2
                try rw [Exit.noGoto_ret]
                refine bodyPost_ret (results_none rfl _ _ _) rfl ?_
                exact ⟨⟨_, rfl⟩, .inr ⟨_, by rw [← hX.out]; exact hle, HJx6.out⟩⟩
          · have hX := Lib.hid (HNONE.out (HN3.out hun))
            have hU := HU.out _ _ HV.out
            rw [if_neg hun] at hU
            simp only [Hd.v, Hd.cells, hd0] at hU
            have HU2 := Lib.hid hU
            clear hU hun
            gi_wp2_with fail
            refine ⟨trivial, wideN _, callsIn_wide.2 (HU2.out.mono ?_)⟩
            rintro e w3 ⟨rfl, k3⟩
            have hA3 := (Keep.refl [] w3).alloc (.cells #[.int .i64 0, .int .i64 0, .int .i64 0, .int .i64 0, .int .i64 0, .int .i64 0, .int .i64 0, .int .u64 0, .int .i64 0, .int .i64 0, .int .i64 0, .int .i64 0, .int .i64 0, .int .i64 0, .int .i64 0] 123)
            have hJ4 := hJ _ _ _ (hA3.mono (by simp)) (hJ _ _ _ (k3.mono (by simp)) HJ3.out)
            have HJ4 := Lib.hid hJ4
            clear hA3 k3 hJ4 l2 l3
            gi_wp2
            refine ⟨trivial, ?_⟩
            gi_wp2
            case roundEnd =>
              refine ⟨⟨k + 1, by omega, by go_num, by rw [hX.out]; exact HJ4.out⟩, ?_⟩
              simp [intOf]
              omega
        · have z1 : ((r : Int) != (k : Int)) = true := by simp; omega
          have hX := Lib.hid (HNONE.out (HN2.out hrk))
          clear hrk
          gi_wp2
          case roundEnd =>
            refine ⟨⟨k + 1, by omega, by go_num, by rw [hX.out]; exact HJ3.out⟩, ?_⟩
            simp [intOf]
            omega
    · obtain rfl : k = 2 := by omega
      gi_wp2
      try rw [Exit.noGoto_normal]
      go_end0
      exact ⟨⟨_, rfl⟩, .inl (by rw [← hpre_two]; exact hJk)⟩
end Go.Proofs.Ytijljdcpajjhhaa

/-! The walks of super's sorted, Heads, Load. -/
namespace Go.Proofs.Ytijljdcpajjhhaa
open Go.RowKit Go.Shelf Sg Go.Sort Go.Proofs
attribute [local go_sem] Oper.semAt_some
set_option linter.unusedSimpArgs false
set_option linter.unusedVariables false

def OwnH (w : World) (base : Nat) (v : Value) (l : List Hd) : Prop := w.ownsRow base 123 15 v l.length (l.flatMap henc)
theorem OwnH.nil (w : World) (base : Nat) : OwnH w base (.slice none 0 0) [] := World.ownsRow_nil w base _ 15
theorem OwnH.keep {w w' : World} {S : List Nat} {base : Nat} {v : Value} {l : List Hd} (h : OwnH w base v l) (k : Keep S w w') (hs : ∀ b, v.ownBlock = some b → b ∉ S) : OwnH w' base v l := by
  refine ⟨h.1, ?_⟩
  rcases h.2 with hn | ⟨g, cap, cur, rfl, hb, hg, rest⟩
  · exact .inl hn
  · exact .inr ⟨g, cap, cur, rfl, hb, k.blk (hs g rfl) hg, rest⟩
theorem OwnH.bs {w : World} {base : Nat} {v : Value} {l : List Hd} (h : OwnH w base v l) {b : Nat} (hb : v.ownBlock = some b) : base ≤ b := by
  rcases h.2 with ⟨rfl, -⟩ | ⟨g, cap, cur, rfl, h1, h2, -⟩
  · simp [Value.ownBlock] at hb
  · simp [Value.ownBlock] at hb
    subst hb
    exact h1
theorem OwnH.form {w : World} {base : Nat} {v : Value} {l : List Hd} (h : OwnH w base v l) : ∃ a n c, v = .slice a n c := by
  rcases h.2 with ⟨rfl, -⟩ | ⟨g, cap, cur, rfl, h1, h2, -⟩
  · exact ⟨_, _, _, rfl⟩
  · exact ⟨_, _, _, rfl⟩
theorem run_append_head {w : World} (base : Nat) {ty : TypeId} {v : Value} {rs : List Hd} (hown : OwnH w base v rs) (g : Nat) (r : Hd) {fr : Nat × Nat}
    (hg : w.heap[g]? = some (.cells r.cells 123 fr)) (hn : rs.length ≤ 1000000) (hbase : base ≤ w.heap.size) :
    ∃ v' w', (Builtin.append_ #[135, 135] ty #[v, .slice (some ⟨g, 0, none⟩) 1 1]).run Try.prog w = .ok v' w' ∧ OwnH w' base v' (rs ++ [r]) ∧ Keep v.ownBlock.toList w w' := by
  obtain ⟨i, hi1, hz, hs1, hb1⟩ := info_parts (show (Try.prog.info? 123).map (fun i => (i.zero, i.size, i.bytes)) = some (some (.agg #[.int .i64 0, .int .i64 0, .int .i64 0, .int .i64 0, .int .i64 0, .int .i64 0, .int .i64 0, .int .u64 0, .int .i64 0, .int .i64 0, .int .i64 0, .int .i64 0, .int .i64 0, .int .i64 0, .int .i64 0]), 15, 120) by kernel_rfl)
  obtain ⟨v', w', hrun, hown', hgr, -⟩ := run_append_own (P := Try.prog) w base 135 ty 123 i _ 15 120 Try.underlying135 hi1 hz hs1 hb1 rfl (by decide) v rs.length (rs.flatMap henc) hown ⟨g, 0, none⟩ 1 1 (henc r) (by rfl)
    (fun j u hu => by
      rw [Addr.add_lit, Nat.zero_add, cell_of_row _ _ _ _ _ _ hg, ← Array.getElem?_toList]
      exact hu)
    (henc_one r) (by simp [maxLen]; omega) (by omega) hbase
  refine ⟨v', w', hrun, ?_, Keep.grown hgr⟩
  show World.ownsRow _ _ _ _ _ _ _
  rw [List.length_append, List.flatMap_append]
  simpa using hown'

theorem flat_get : ∀ (l : List Hd) (t : Nat), t < l.length * 15 → (l.flatMap henc)[t]? = some ((henc (l.toArray[t / 15]!))[t % 15]!)
  | [], t, h => by simp at h
  | x :: l, t, h => by
    have hx : (henc x).length = 15 := henc_len x
    rw [List.flatMap_cons]
    by_cases ht : t < 15
    · rw [List.getElem?_append_left (by omega), show t / 15 = 0 by omega, show t % 15 = t by omega, List.getElem?_eq_getElem (by omega)]
      simp only [List.getElem!_toArray, List.getElem!_cons_zero]
      rw [getElem!_pos _ _ (by omega)]
    · rw [List.getElem?_append_right (by omega), hx, flat_get l (t - 15) (by simp only [List.length_cons] at h; omega), show t / 15 = (t - 15) / 15 + 1 by omega, show t % 15 = (t - 15) % 15 by omega]
      simp only [List.getElem!_toArray, List.getElem!_cons_succ]
theorem OwnH.holds {w : World} {base : Nat} {v : Value} {l : List Hd} (h : OwnH w base v l) : (l = [] ∧ v = .slice none 0 0) ∨ ∃ blk cap, v = .slice (some ⟨blk, 0, none⟩) l.length cap ∧ base ≤ blk ∧ blk < w.heap.size ∧ HoldsK henc 15 w blk 0 l.toArray := by
  rcases h.2 with ⟨rfl, h2⟩ | ⟨g, cap, cur, rfl, h1, h2, h3, h4, h5, h6⟩
  · exact .inl ⟨List.length_eq_zero_iff.1 h2, rfl⟩
  · refine .inr ⟨g, cap, rfl, h1, (Array.getElem?_eq_some_iff.1 h2).1, fun j hj => ?_⟩
    rw [size_flatK, List.size_toArray] at hj
    rw [Nat.zero_add]
    refine ⟨?_, ?_⟩
    · rw [cell_of_row _ _ _ _ _ _ h2, get_flatK _ _ _ _ (by rw [List.size_toArray]; exact hj), id, ← flat_get l j hj, ← h6, List.getElem?_take, if_pos hj, Array.getElem?_toList]
    · exact frozen_of_row _ _ _ _ _ h2

/-- heads, one behind the other -/
def HRow (w : World) (v : Value) (l : List Hd) : Prop := (l = [] ∧ v = .slice none 0 0) ∨ ∃ blk cap, v = .slice (some ⟨blk, 0, none⟩) l.length cap ∧ blk < w.heap.size ∧ HoldsK henc 15 w blk 0 l.toArray
theorem HRow.keep {w w' : World} {S : List Nat} {v : Value} {l : List Hd} (h : HRow w v l) (k : Keep S w w') (hs : ∀ b, v.ownBlock = some b → b ∉ S) : HRow w' v l := by
  rcases h with hn | ⟨blk, cap, rfl, h1, h2⟩
  · exact .inl hn
  · refine .inr ⟨blk, cap, rfl, Nat.lt_of_lt_of_le h1 k.size, fun j hj => ?_⟩
    have hb := k.block blk h1 (hs blk rfl)
    have := h2 j hj
    simp only [World.cell?, World.frozen?] at this ⊢
    rw [hb]
    exact this
theorem ins_len (l : List Hd) : (insSorted l).length = l.length := by
  unfold insSorted
  split
  · split <;> rfl
  · rfl

set_option maxRecDepth 100000 in
set_option maxHeartbeats 1000000 in
theorem sorted_any (sv : Value) (l : List Hd) (w : World) (hl : l.length ≤ 2) (h : HRow w sv l) :
    Calls Try.prog 121 #[sv, FB] w fun e w' => e = .returned sv ∧ HRow w' sv (insSorted l) ∧ Keep sv.ownBlock.toList w w' := by
  have hA := heap_alloc_new w (.cells #[FB] 221)
  have hK := (Keep.refl [] w).alloc (.cells #[FB] 221)
  have hc := cell_of_one hA
  have h2 := h.keep hK (by simp)
  have hin : Inp w.heap.size (w.alloc (.cells #[FB] 221)) sv l := by
    refine ⟨hl, ?_⟩
    rcases h with hn | ⟨blk, cap, rfl, h1, -⟩
    · exact .inl hn
    · rcases h2 with ⟨-, he⟩ | ⟨blk2, cap2, he, h3, h4⟩
      · cases he
      · cases he
        exact .inr ⟨_, _, _, rfl, h4, h3, by omega⟩
  have hS := sortFunc_any w.heap.size sv l (w.alloc (.cells #[FB] 221)) hc (by simp) hin
  have hfin : ∀ q w', Srt w.heap.size ((w.alloc (.cells #[FB] 221)).drewN q) sv l w' → HRow w' sv (insSorted l) ∧ Keep sv.ownBlock.toList w w' := by
    intro q w' hs
    have hK2 : Keep [] w ((w.alloc (.cells #[FB] 221)).drewN q) := ⟨hK.os, hK.tape, hK.output, hK.size, hK.block⟩
    rcases hs with ⟨rfl, rfl, k⟩ | ⟨blk, off, cap, n, os, rfl, rfl⟩
    · exact ⟨.inl ⟨rfl, rfl⟩, (hK2.trans k).mono (by simp)⟩
    · rcases hin.2 with ⟨-, he⟩ | ⟨blk2, off2, cap2, he, h4, h3, -⟩
      · cases he
      · cases he
        rcases h with ⟨-, he⟩ | ⟨blk3, cap3, he, h5, -⟩
        · cases he
        · cases he
          have hH := holdsK_sortWorldK_c henc 15 ((w.alloc (.cells #[FB] 221)).drewN q) blk 0 l.toArray (insSorted l).toArray n os h4 h3 (by simp [ins_len])
          refine ⟨.inr ⟨blk, cap, by rw [ins_len], ?_, hH⟩, ?_⟩
          · exact Nat.lt_of_lt_of_le h3 (size_sortWorld ((w.alloc (.cells #[FB] 221)).drewN q) blk 0 n (insSorted l).toArray os)
          · exact (hK2.mono (by simp)).trans ((keep_sortWorld ((w.alloc (.cells #[FB] 221)).drewN q) blk 0 n (insSorted l).toArray os).mono (by simp [Value.ownBlock]))
  obtain ⟨sa, sn, sc, rfl⟩ : ∃ a n c, sv = .slice a n c := by
    rcases h with ⟨-, rfl⟩ | ⟨blk, cap, rfl, -⟩
    · exact ⟨_, _, _, rfl⟩
    · exact ⟨_, _, _, rfl⟩
  have HS := Lib.hid hS
  have HF := Lib.hid hfin
  clear hS hfin hin h h2 hA hK hc
  simp only [FC] at HS
  go_enter Try.func121, Try.ntmps121
  go_wp2_with fail
  refine HS.out.mono ?_
  rintro e w2 ⟨rfl, q, hq⟩
  have HQ := Lib.hid (HF.out q w2 hq)
  clear hq HF HS
  go_wp2
  go_ret
  exact ⟨rfl, HQ.out⟩

theorem heads_fn_any (g : Nat) (w : World) : Calls Try.prog 120 #[.pointer (some ⟨g, 0, none⟩)] w fun e w' => e = .returned (.func (.func 144) #[] #[.pointer (some ⟨w.heap.size, 0, none⟩)]) ∧ w.alloc (.cells #[.pointer (some ⟨g, 0, none⟩)] 26) = w' := by
  go_enter Try.func120, Try.ntmps120
  go_wp2
  go_ret
  exact ⟨rfl, rfl⟩
theorem hdRow_le (m : Dev) : (hdRow m).length ≤ 2 := by
  unfold hdRow
  rw [List.length_append]
  have h0 : (hdAt m 0).toList.length ≤ 1 := by cases hdAt m 0 <;> simp
  have h1 : (hdAt m 1).toList.length ≤ 1 := by cases hdAt m 1 <;> simp
  omega

/-- what the loop of Heads keeps -/
def HInv (w : World) (T g : Nat) (pre : List Hd) (W : World) : Prop :=
  Keep [] w W ∧ W.heap[T + 1]? = some (.cells #[.pointer (some ⟨g, 0, none⟩)] 26 (0, 0)) ∧ ∃ v, W.heap[T]? = some (.cells #[v] 135 (0, 0)) ∧ OwnH W (T + 4) v pre

set_option maxRecDepth 100000 in
set_option maxHeartbeats 1000000 in
set_option maxHeartbeats 4000000 in
theorem heads_any (w : World) (D : List Nat) (g : Nat) (m : Dev) (hd : DV w D g m) (hacts : m.acts ≤ 1000000000) :
    Calls Try.prog 70 #[.pointer (some ⟨g, 0, none⟩)] w fun e w' => ∃ v, e = .returned v ∧ HRow w' v (insSorted (hdRow m)) ∧ (∀ b, v.ownBlock = some b → w.heap.size ≤ b) ∧ Keep [] w w' := by
  obtain ⟨T, hT⟩ : ∃ T, w.heap.size = T := ⟨_, rfl⟩
  refine calls_of_marks Try.func70 rfl ?_
  simp only [Try.ntmps70, List.size_toArray, List.length_cons, List.length_nil, Nat.reduceAdd, Nat.reduceSub, Array.replicate_succ, Array.replicate_zero, List.push_toArray, List.append_toArray, List.nil_append, List.cons_append]
  go_wp2_with fail
  refine (heads_fn_any _ _).mono ?_
  rintro e w3 ⟨rfl, hw3⟩
  have hk3 : Keep [] w w3 := by rw [← hw3]; exact ((Keep.refl [] w).alloc _).alloc _
  have hb3 : w3.heap[T]? = some (.cells #[.slice none 0 0] 135 (0, 0)) := by rw [← hw3, ← hT]; exact heap_alloc2_old _ _ _
  have hd3 : w3.heap[T + 1]? = some (.cells #[.pointer (some ⟨g, 0, none⟩)] 26 (0, 0)) := by rw [← hw3, ← hT]; exact heap_alloc2_new _ _ _
  have hs3 : w3.heap.size = T + 2 := by rw [← hw3, ← hT]; simp
  clear hw3
  go_wp2_with fail
  refine wp_range3 (n := 3) (gf := 144) (lb := #[.pointer (some ⟨T + 1, 0, none⟩)]) rfl (enters_of Try.func144 (by kernel_rfl) rfl)
    (T := []) (by simp) (heads1_iter (T + 1) g D m hacts)
    (fun x args W W' k h => h) (fun x args W h => by rw [show args = #[x.v] from h]; rfl)
    (HInv w T g) (fun _ _ _ => False)
    ?hRd (fun _ _ => trivial) ?hI (fun _ _ _ _ _ h => h) ?h0
    (fun args B0 => { tmps := #[.pointer (some ⟨g, 0, none⟩), undef, .slice none 0 0, .pointer (some ⟨T, 0, none⟩), .pointer (some ⟨B0, 0, none⟩), .pointer (some ⟨g, 0, none⟩), .func (.func 144) #[] #[.pointer (some ⟨T + 1, 0, none⟩)], args.getD 0 undef, undef, undef, undef, undef, undef, undef], defers := [] })
    (fun x args B0 W => W.heap[B0]? = some (.cells x.cells 123 (0, 0))) ?hAs
    ?hassign ?hbody ?hdone ?hstop
  case hAs =>
    rintro x args B0 W W' hB k hx
    exact k.blk (by simp; omega) hx
  case hRd =>
    rintro pre W ⟨hk, hbx, -⟩ hlt
    exact ⟨hd.keep hk (by simp), hbx⟩
  case hI =>
    rintro pre W W' k ⟨hk, hbx, v, hb, hO⟩
    rw [hs3] at k
    refine ⟨hk.ext k (by simp; omega), k.blk (by simp) hbx, v, k.blk (by simp; omega) hb, hO.keep k ?_⟩
    intro b hb hm
    have := hO.bs hb
    simp at hm
    omega
  case h0 =>
    intro W k
    exact ⟨hk3.trans k, k.blk (by simp) hd3, _, k.blk (by simp) hb3, OwnH.nil _ _⟩
  case hassign =>
    rintro ⟨⟨sec, size, reg, rs, lg, dep, mem, seed⟩, gen, page, stamp, hdep, log, hreg, time⟩ args W K rfl hlt hK
    have hA := (Keep.refl [] W).alloc (.cells #[.int .i64 sec, .int .i64 size, .int .i64 reg, .int .i64 rs, .int .i64 lg, .int .i64 dep, .int .i64 mem, .int .u64 (seed : Int), .int .i64 gen, .int .i64 page, .int .i64 stamp, .int .i64 hdep, .int .i64 log, .int .i64 hreg, .int .i64 time] 123)
    have hn := heap_alloc_new W (.cells #[.int .i64 sec, .int .i64 size, .int .i64 reg, .int .i64 rs, .int .i64 lg, .int .i64 dep, .int .i64 mem, .int .u64 (seed : Int), .int .i64 gen, .int .i64 page, .int .i64 stamp, .int .i64 hdep, .int .i64 log, .int .i64 hreg, .int .i64 time] 123)
    have hK2 := hK _ hA hn
    clear hK
    simp only [Hd.v, Hd.cells] at hK2 ⊢
    gi_wp2
    exact hK2
  case hbody =>
    rintro pre ⟨⟨sec, size, reg, rs, lg, dep, mem, seed⟩, gen, page, stamp, hdep, log, hreg, time⟩ args B0 W hpre ⟨hk, hbx, v, hb, hO⟩ rfl hx0 hB0 ⟨r, hL⟩ hD
    rw [hs3] at hL hD hB0
    obtain ⟨vna, vnn, vnc, rfl⟩ := hO.form
    have hlen : pre.length ≤ 2 := by have := hpre.length_le; have := hdRow_le m; simp at *; omega
    have hWs : T + 4 ≤ W.heap.size := by have := (Array.getElem?_eq_some_iff.1 hL).1; omega
    simp only [Hd.v, Hd.cells] at hx0 ⊢
    have g0 := cell_of_row _ _ 0 _ _ _ hx0
    have g1 := cell_of_row _ _ 1 _ _ _ hx0
    have g2 := cell_of_row _ _ 2 _ _ _ hx0
    have g3 := cell_of_row _ _ 3 _ _ _ hx0
    have g4 := cell_of_row _ _ 4 _ _ _ hx0
    have g5 := cell_of_row _ _ 5 _ _ _ hx0
    have g6 := cell_of_row _ _ 6 _ _ _ hx0
    have g7 := cell_of_row _ _ 7 _ _ _ hx0
    have g8 := cell_of_row _ _ 8 _ _ _ hx0
    have g9 := cell_of_row _ _ 9 _ _ _ hx0
    have g10 := cell_of_row _ _ 10 _ _ _ hx0
    have g11 := cell_of_row _ _ 11 _ _ _ hx0
    have g12 := cell_of_row _ _ 12 _ _ _ hx0
    have g13 := cell_of_row _ _ 13 _ _ _ hx0
    have g14 := cell_of_row _ _ 14 _ _ _ hx0
    simp at g0 g1 g2 g3 g4 g5 g6 g7 g8 g9 g10 g11 g12 g13 g14
    have gT := cell_of_one hb
    have fT := free_of_one hb
    have hA := (Keep.refl [] W).alloc (.cells #[.int .i64 sec, .int .i64 size, .int .i64 reg, .int .i64 rs, .int .i64 lg, .int .i64 dep, .int .i64 mem, .int .u64 (seed : Int), .int .i64 gen, .int .i64 page, .int .i64 stamp, .int .i64 hdep, .int .i64 log, .int .i64 hreg, .int .i64 time] 123)
    obtain ⟨v', w', hrun, hO', hk'⟩ := run_append_head (w := W.alloc (.cells #[.int .i64 sec, .int .i64 size, .int .i64 reg, .int .i64 rs, .int .i64 lg, .int .i64 dep, .int .i64 mem, .int .u64 (seed : Int), .int .i64 gen, .int .i64 page, .int .i64 stamp, .int .i64 hdep, .int .i64 log, .int .i64 hreg, .int .i64 time] 123)) (T + 4) (ty := 135) (hO.keep hA (by simp)) W.heap.size ⟨⟨sec, size, reg, rs, lg, dep, mem, seed⟩, gen, page, stamp, hdep, log, hreg, time⟩ (heap_alloc_new _ _) (by omega) (by have := hA.size; omega)
    obtain ⟨va', vn', vc', rfl⟩ := hO'.form
    have hno : ∀ b, (Value.slice vna vnn vnc).ownBlock = some b → T + 4 ≤ b := fun b hb => hO.bs hb
    have hnot : ∀ b, b < T + 4 → b ∉ (Value.slice vna vnn vnc).ownBlock.toList := by
      intro b hb hm
      rw [Option.mem_toList] at hm
      have := hno b hm
      omega
    have hb2 := hk'.blk (hnot T (by omega)) (hA.blk (by simp) hb)
    have hx2 := hk'.blk (hnot (T + 1) (by omega)) (hA.blk (by simp) hbx)
    have hL2 := hk'.block (T + 2 + 1) (by have := hA.size; omega) (hnot _ (by omega))
    have hD2 := hk'.block (T + 2) (by have := hA.size; omega) (hnot _ (by omega))
    have hL3 := hA.block (T + 2 + 1) (by omega) (by simp)
    have hD3 := hA.block (T + 2) (by omega) (by simp)
    have gT2 := cell_of_one hb2
    have fT2 := free_of_one hb2
    have hkk : Keep [] w (w'.setCell ⟨T, 0, none⟩ (.slice va' vn' vc')) := by
      refine (hk.ext ((hA.mono (by simp)).trans hk') ?_).setCell (.inr (show w.heap.size ≤ T by omega)) _
      intro b hm
      rw [Option.mem_toList] at hm
      have := hno b hm
      omega
    have HB := Lib.hid hb2
    have HO := Lib.hid hO'
    have HK := Lib.hid hkk
    have HL := Lib.hid (hL2.trans hL3)
    have HD := Lib.hid (hD2.trans hD3)
    have HX := Lib.hid hx2
    have HHS := Lib.hid hs3
    clear hkk hL2 hL3 hD2 hD3 hx2 hO hnot hno hO' hk' hA hb hb2 hbx hx0 hL hD hs3 hb3 hd3 hk hk3 hd
    gi_wp2_with (gi_at_builtin; refine wpListIn_append_run rfl (.tmp 8) (.tmp 10) 135 rfl (v := .slice vna vnn vnc) (src := .slice (some ⟨W.heap.size, 0, none⟩) 1 1) (v' := .slice va' vn' vc') (w' := w') rfl rfl hrun ?_)
    have hs3 := HHS.out
    refine ⟨?_, ?_, by simp, HK.out, ?_, _, one_setCell HB.out, HO.out.keep ((Keep.refl [T] _).setCell (.inl (by simp)) _) ?_⟩
    · rw [hs3]; exact (heap_setCell_other _ _ _ _ (by simp; omega)).trans HL.out
    · rw [hs3]; exact (heap_setCell_other _ _ _ _ (by simp)).trans HD.out
    · exact (heap_setCell_other _ _ _ _ (by simp)).trans HX.out
    · intro b hb hm
      have := HO.out.bs hb
      simp at hm
      omega
  case hdone =>
    rintro W ⟨hk, hbx, v, hb, hO⟩ hD
    have hrow : HRow W v (hdRow m) := by
      rcases hO.holds with hn | ⟨blk, cap, rfl, -, h1, h2⟩
      · exact .inl hn
      · exact .inr ⟨_, _, rfl, h1, h2⟩
    have hbs : ∀ b, v.ownBlock = some b → T + 4 ≤ b := fun b hb => hO.bs hb
    have hS := sorted_any v (hdRow m) W (hdRow_le m) hrow
    obtain ⟨vna, vnn, vnc, rfl⟩ := hO.form
    have gT := cell_of_one hb
    rw [hs3] at hD
    go_wp2_with fail
    refine hS.mono ?_
    rintro e W2 ⟨rfl, hr2, hk2⟩
    have hD2 := hk2.blk (by intro hm; rw [Option.mem_toList] at hm; have := hbs _ hm; omega) hD
    have hr3 : ∀ o, HRow (W2.putObj (T + 2) o) (.slice vna vnn vnc) (insSorted (hdRow m)) := fun o => hr2.keep ((Keep.refl [T + 2] _).putObj (.inl (by simp)) _) (by intro b hb hm; have := hbs b hb; simp at hm; omega)
    have hK3 : ∀ o, Keep [] w (W2.putObj (T + 2) o) := fun o => (hk.ext hk2 (by intro b hm; rw [Option.mem_toList] at hm; have := hbs b hm; omega)).putObj (.inr (by omega)) _
    have HR3 := Lib.hid hr3
    have HK3 := Lib.hid hK3
    have HBS := Lib.hid hbs
    clear hr2 hk2 hS hrow hr3 hK3 hbs hO
    go_wp2
    refine leavesM_one hD2 (results_tmp rfl _ _ _) ⟨_, rfl, HR3.out _, fun b hb => by have := HBS.out b hb; omega, HK3.out _⟩
  case hstop =>
    rintro c pre W _ h
    exact h.elim
end Go.Proofs.Ytijljdcpajjhhaa
