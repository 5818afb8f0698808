import Derived.Test.YtjkjiabfhhnngaaLeafPut
import Derived.Test.YtjkjiabfhhnngaaRange5
/-! The walk of leaf's leaves (Foul's iterator). -/
namespace Go.Proofs.Ytjkjiabfhhnngaa
open Go.RowKit Go.Shelf Sg
attribute [local go_sem] Oper.semAt_some
set_option linter.unusedSimpArgs false
set_option linter.unusedVariables false

/-- the sectors that are leaves, from one on, as far as they are read -/
def lvs (m : Dev) : Nat → Nat → List (Nat × List UInt8)
  | 0, _ => []
  | f + 1, a => if (m.read (a : Int)).2 ≠ 0 then [] else if LeafOk (m.read (a : Int)).1 then (a, (m.read (a : Int)).1) :: lvs m f (a + 1) else lvs m f (a + 1)
def LvEnc (base : Nat) (x : Nat × List UInt8) (args : Array Value) (W : World) : Prop := ∃ v, args = #[.int .i64 (x.1 : Int), v] ∧ OwnB W base 5 v x.2

set_option maxRecDepth 100000 in
set_option maxHeartbeats 1000000 in
set_option maxHeartbeats 400000 in
theorem leaves1_iter (Bd base g : Nat) (D : List Nat) (m : Dev) (hacts : m.acts ≤ 1000000000) (hn : m.n ≤ 16384) :
    Iter2 Try.prog 139 #[.pointer (some ⟨Bd, 0, none⟩)] (LvEnc base) (lvs m m.n 0)
      (fun W => DV W D g m ∧ W.heap[Bd]? = some (.cells #[.pointer (some ⟨g, 0, none⟩)] 24 (0, 0)) ∧ base ≤ W.heap.size) (fun _ => True) [] := by
  intro n lo J Jx hRd hJ hJx hY W h0 hSt
  obtain ⟨hd0, hb0, hbase0⟩ := hRd _ _ h0
  refine callsIn_of_wp Try.func139 rfl trivial ?_
  simp only [Try.ntmps139, List.size_toArray, List.length_cons, List.length_nil, Nat.reduceAdd, Nat.reduceSub, Array.replicate_succ, Array.replicate_zero, List.push_toArray, List.append_toArray, List.nil_append, List.cons_append]
  have gB := cell_of_one hb0
  have cS := sectors_any W D g m hd0
  have CS := Lib.hid cS
  have HY := Lib.hid hY
  have HRD := Lib.hid hRd
  have HJ := Lib.hid (And.intro hJ hJx)
  have H0 := Lib.hid h0
  clear cS hY hRd hJ hJx hd0 hb0 h0
  gi_wp2_with fail
  refine ⟨trivial, wideN _, callsIn_wide.2 (CS.out.mono ?_)⟩
  clear CS
  rintro e w1 ⟨rfl, rfl⟩
  clear gB
  obtain ⟨N, hN⟩ : ∃ N, m.n = N := ⟨_, rfl⟩
  rw [hN] at hn
  have HNN := Lib.hid hN
  gi_wp2_with fail
  clear hN
  gi_loopw [10] (fun i wr => ∃ (k : Nat) (pre : List (Nat × List UInt8)), k ≤ N ∧ i = .int .i64 (k : Int) ∧ Hid (pre ++ lvs m (N - k) k = lvs m m.n 0) ∧ Hid (J pre wr)) (fun i _ => N - (intOf i).toNat)
  case atStart => exact ⟨0, [], by omega, rfl, by rw [HNN.out]; rfl, H0.out⟩
  case round =>
    clear H0
    obtain ⟨k, pre, hk, rfl, hpre, hJT⟩ := hrel
    rename World => wr
    obtain ⟨hd, hb, hbase⟩ := HRD.out _ _ hJT.out
    by_cases hkN : k = N
    case pos =>
      subst hkN
      have hfin := hpre.out
      rw [Nat.sub_self] at hfin
      simp only [lvs, List.append_nil] at hfin
      have HF := Lib.hid hfin
      clear hfin hd hb
      gi_wp2_with fail
      go_end0
      refine ⟨⟨_, rfl⟩, .inl ?_⟩
      rw [← HF.out]
      exact hJT.out
    case neg =>
      have hlt : (k : Int) < (N : Int) := by omega
      have gB := cell_of_one hb
      have cR := read_any wr D g m hd hacts (k : Int)
      have hlen := fun hr => read_len hd.1 (a := (k : Int)) hr
      have s1 := hd.1.s1
      have s2 := hd.1.s2
      have hstep : lvs m (N - k) k = if (m.read (k : Int)).2 ≠ 0 then [] else if LeafOk (m.read (k : Int)).1 then (k, (m.read (k : Int)).1) :: lvs m (N - (k + 1)) (k + 1) else lvs m (N - (k + 1)) (k + 1) := by
        rw [show N - k = (N - (k + 1)) + 1 by omega, lvs]
      generalize hbl : (m.read (k : Int)).1 = bl at *
      generalize hrc : (m.read (k : Int)).2 = rc at *
      have HST := Lib.hid hstep
      have HLEN := Lib.hid hlen
      have CR := Lib.hid cR
      clear hstep hlen cR hd hb hbl hrc
      gi_wp2_with fail
      refine ⟨trivial, wideN _, callsIn_wide.2 (CR.out.mono ?_)⟩
      clear CR
      rintro e w2 ⟨v, rfl, ho, k2⟩
      obtain ⟨va, vc, rfl⟩ : ∃ va vc, v = .slice va bl.length vc := by
        rcases ho.2 with ⟨rfl, h0⟩ | ⟨g', c', cur, rfl, -⟩
        · exact ⟨none, 0, by rw [h0]⟩
        · exact ⟨_, _, rfl⟩
      have hJ2 := HJ.out.1 _ _ _ k2 hJT.out
      clear gB
      by_cases hrc0 : rc = 0
      case neg =>
        have hr1 : ((rc : Int) != 0) = true := by simp; omega
        have hr2 : ¬ (rc : Int) = 0 := by omega
        have hst := HST.out
        rw [if_pos hrc0] at hst
        have hfin := hpre.out
        rw [hst, List.append_nil] at hfin
        have HF := Lib.hid (And.intro hfin hJ2)
        clear hst hfin hJ2 ho
        gi_wp2_with fail
        try rw [Exit.noGoto_ret]
        refine bodyPost_ret (results_none rfl _ _ _) rfl ?_
        refine ⟨⟨_, rfl⟩, .inl ?_⟩
        rw [← HF.out.1]
        exact HF.out.2
      case pos =>
        subst hrc0
        have hst := HST.out
        rw [if_neg (by simp)] at hst
        have hl := HLEN.out rfl
        have cL := leafRead_in (.slice va bl.length vc) bl w2 (ho.bytes (by omega)) (by omega)
        have CL := Lib.hid cL
        have HO := Lib.hid (ho.base hbase)
        have HJ2 := Lib.hid hJ2
        have HS2 := Lib.hid hst
        clear cL ho hJ2 hst hl
        rw [show ((0 : Nat) : Int) = 0 from rfl]
        gi_wp2_with fail
        refine ⟨trivial, wideN _, callsIn_wide.2 (CL.out.mono ?_)⟩
        clear CL
        rintro e w3 ⟨k3, (⟨hok, v3, rfl, hb3⟩ | ⟨hno, rfl⟩)⟩
        · have hst := HS2.out
          rw [if_pos hok] at hst
          obtain ⟨v3a, v3c, rfl⟩ : ∃ v3a v3c, v3 = .slice v3a (ll bl).length v3c := by
            obtain ⟨a, c, rfl, -⟩ := hb3.form
            exact ⟨_, _, rfl⟩
          have hA := (Keep.refl [] w3).alloc (.cells #[.int .i64 (lk bl : Int), .int .i64 (lp bl : Int), .int .i64 (ls bl : Int), .slice v3a (ll bl).length v3c] 74)
          have hJ4 := HJ.out.1 _ _ _ (k3.trans hA) HJ2.out
          have ho4 := HO.out.keep (k3.trans hA) (by simp)
          have hpx : pre ++ [(k, bl)] <+: lvs m m.n 0 := ⟨lvs m (N - (k + 1)) (k + 1), by rw [← hpre.out, hst]; simp⟩
          have hpre3 : (pre ++ [(k, bl)]) ++ lvs m (N - (k + 1)) (k + 1) = lvs m m.n 0 := by rw [← hpre.out, hst]; simp
          obtain ⟨fn2, tmps, assign, body, hy, hR⟩ := HY.out pre (k, bl) #[.int .i64 (k : Int), .slice va bl.length vc] _ hpx hJ4 ⟨_, rfl, ho4⟩
          have H7 := Lib.hid (And.intro hpx hpre3)
          clear hst hJ4 ho4 hpx hpre3 hA k3 hb3 hok
          gi_wp2_with fail
          refine ⟨wideN _, hR.mono ?_⟩
          clear hR
          rintro e W4 ⟨-, (⟨rfl, hJ5⟩ | ⟨rfl, hJx5⟩)⟩
          · have HJ5 := Lib.hid (And.intro hJ5 H7.out.2)
            clear hJ5
            gi_wp2
            case roundEnd =>
              refine ⟨⟨k + 1, _, by omega, by push_cast; rfl, HJ5.out.2, HJ5.out.1⟩, ?_⟩
              simp only [intOf]
              omega
          · have HJ5 := Lib.hid hJx5
            clear hJx5
            gi_wp2
            try rw [Exit.noGoto_ret]
            refine bodyPost_ret (results_none rfl _ _ _) rfl ?_
            exact ⟨⟨_, rfl⟩, .inr ⟨_, H7.out.1, HJ5.out⟩⟩
        · have hst := HS2.out
          rw [if_neg hno] at hst
          have hA := (Keep.refl [] w3).alloc (.cells #[.int .i64 0, .int .i64 0, .int .i64 0, .slice none 0 0] 74)
          have hJ4 := Lib.hid (HJ.out.1 _ _ _ (k3.trans hA) HJ2.out)
          have hp4 := hpre.out
          rw [hst] at hp4
          have HP4 := Lib.hid hp4
          clear hst hA k3 hno hp4
          simp only [leaf0]
          gi_wp2
          refine ⟨(fun _ h => by cases h), ?_⟩
          gi_wp2
          case roundEnd =>
            refine ⟨⟨k + 1, pre, by omega, by push_cast; rfl, HP4, hJ4⟩, ?_⟩
            simp only [intOf]
            omega
end Go.Proofs.Ytjkjiabfhhnngaa
