import Derived.Test.YtjkjiabfhhnngaaWheel4
import Derived.Test.YtjkjiabfhhnngaaScope
/-! Wheel's All, and the places in which something is. -/
namespace Go.Proofs.Ytjkjiabfhhnngaa
open Go.RowKit Go.Shelf Sg
attribute [local go_sem] Oper.semAt_some
set_option linter.unusedSimpArgs false
set_option linter.unusedVariables false

theorem mapZ_same {P : Program} {K : TypeId} {w w' : World} {B : Nat} {f : Int → Option Value} {ks : List Int} (h : MapZ P K w B f ks) (e : w'.heap[B]? = w.heap[B]?) : MapZ P K w' B f ks := by
  refine ⟨h.nd, h.mem, ?_⟩
  obtain ⟨D, n, ⟨es, clock, hb, r⟩, h2⟩ := h.map
  exact ⟨D, n, ⟨es, clock, e.trans hb, r⟩, h2⟩

set_option maxRecDepth 100000 in
set_option maxHeartbeats 1000000 in
theorem all_any (w : World) (D : List Nat) (g : Nat) (m : Wm) (h : WV w D g m) : Calls Try.prog 75 #[.pointer (some ⟨g, 0, none⟩)] w fun e w' => ∃ v, e = .returned v ∧ RowE dueE 2 128 w' w.heap.size v m.ths ∧ Keep [] w w' := by
  have H := Lib.hid h
  obtain ⟨hw, dm, blk, h⟩ := h
  have c1 := h.c1
  obtain ⟨es, clock, hes⟩ := h.due.isMapBlock
  have hkeys := keysD_any w dm
  have hA := (Keep.refl [] w).alloc (.cells #[.map (some dm)] 214)
  have hbx := heap_alloc_new w (.cells #[.map (some dm)] 214)
  have hlt := h.due.lt
  have hth := things_any (w.alloc (.cells #[.map (some dm)] 214)) D g m (H.out.keep hA (by simp)) m.ths hw.ord (fun p hp => hp) hw.nd 152 #[.pointer (some ⟨w.heap.size, 0, none⟩)] (enters_of Try.func152 (by kernel_rfl) rfl) _
    (keysD_iter w.heap.size dm es clock (dueF m.ths) (m.ths.map (·.1)) (fun W hW => mapZ_same h.due (hW.trans hes.symm)))
    (fun W hk => ⟨cell_of_one (hk.blk (by simp) hbx), hk.blk (by simp) (hA.blk (by simp) hes)⟩)
  have HA := Lib.hid hA
  clear h hes hbx hA
  go_enter Try.func75, Try.ntmps75
  go_wp2_with fail
  refine hkeys.mono ?_
  rintro e w1 ⟨rfl, rfl⟩
  go_wp2_with fail
  refine hth.mono ?_
  clear hth hkeys
  rintro e w2 ⟨v, rfl, hr, hk⟩
  have HH := Lib.hid (And.intro (hr.lower HA.out.size) (HA.out.trans hk))
  clear hr hk
  go_wp2
  go_ret
  exact ⟨v, rfl, HH.out⟩

def occ (t : Nat) (l : List (Int × Nat)) (k : Nat) : Bool := l.any (fun p => plc t p.2 == k)
theorem occ_iff {t k : Nat} {l : List (Int × Nat)} : occ t l k = true ↔ ∃ p ∈ l, plc t p.2 = k := by
  unfold occ
  rw [List.any_eq_true]
  simp
def upTo (t : Nat) (l : List (Int × Nat)) (q : Nat) : List Nat := (List.range q).filter (occ t l)
theorem upTo_succ (t : Nat) (l : List (Int × Nat)) (q : Nat) : upTo t l (q + 1) = if occ t l q = true then upTo t l q ++ [q] else upTo t l q := by
  unfold upTo
  rw [List.range_succ, List.filter_append]
  split
  · next h => simp [h]
  · next h => simp [h]
theorem upTo_gap (t : Nat) (l : List (Int × Nat)) (q d : Nat) (h : ∀ k, q ≤ k → k < q + d → occ t l k = false) : upTo t l (q + d) = upTo t l q := by
  induction d with
  | zero => rfl
  | succ d ih => rw [← Nat.add_assoc, upTo_succ, h (q + d) (by omega) (by omega), if_neg (by simp), ih (fun k h1 h2 => h k h1 (by omega))]
theorem upTo_pre (t : Nat) (l : List (Int × Nat)) {q q' : Nat} (h : q ≤ q') : upTo t l q <+: upTo t l q' := by
  obtain ⟨d, rfl⟩ : ∃ d, q' = q + d := ⟨q' - q, by omega⟩
  induction d with
  | zero => exact List.prefix_refl _
  | succ d ih =>
    rw [← Nat.add_assoc, upTo_succ]
    split
    · exact (ih (by omega)).trans (List.prefix_append _ _)
    · exact ih (by omega)
theorem keys_occ {t k : Nat} {l : List (Int × Nat)} {w : World} {B : Nat} {ks : List Int} (h : MapZ Try.prog 3 w B (setF (inP t l k)) ks) : (ks.length = 0) ↔ occ t l k = false := by
  constructor
  · intro h0
    rw [Bool.eq_false_iff]
    intro ho
    obtain ⟨p, hp, e⟩ := occ_iff.1 ho
    have : p.1 ∈ ks := (h.mem p.1).2 (setF_some.2 (inP_iff.2 ⟨p, hp, rfl, e⟩))
    rw [List.length_eq_zero_iff.1 h0] at this
    cases this
  · intro ho
    rcases Nat.eq_zero_or_pos ks.length with h0 | h0
    · exact h0
    · obtain ⟨a, ha⟩ := List.exists_mem_of_length_pos h0
      obtain ⟨p, hp, -, e⟩ := inP_iff.1 (setF_some.1 ((h.mem a).1 ha))
      have := occ_iff.2 ⟨p, hp, e⟩
      rw [ho] at this
      cases this
/-- behind the present nothing is, in any ring -/
theorem occ_gap {m : Wm} (hw : m.Wf) {r k : Nat} (hr : r < 6) (h1 : 64 * r ≤ k) (h2 : k < 64 * r + m.time / 64 ^ r % 64) : occ m.time m.ths k = false := by
  rw [Bool.eq_false_iff]
  intro ho
  obtain ⟨p, hp, e⟩ := occ_iff.1 ho
  have hm := Nat.mod_lt (m.time / 64 ^ r) (show 0 < 64 by omega)
  unfold plc at e
  split at e
  · next h6 =>
    have := Nat.mod_lt (p.2 / 64 ^ ringOf m.time p.2) (show 0 < 64 by omega)
    have hrr : ringOf m.time p.2 = r := by omega
    have hf := plc_from (hw.lo p hp).1 h6
    rw [hrr] at hf e
    omega
  · omega

theorem slice64 (w : World) (g o fr : Nat) (h : fr < 64) : (Instr.sliceAt 217 (.pointer (some ⟨g, o, none⟩)) (some (.int .i64 (fr : Int))) none none).run Try.prog w = .ok (.slice (some ⟨g, o + fr, none⟩) (64 - fr) (64 - fr)) w := by
  have ha : Try.prog.arrayLen 217 = 64 := by kernel_rfl
  have he : Try.prog.elem 217 = 216 := by kernel_rfl
  rw [run_sliceAt_array_l w 217 ⟨g, o, none⟩ (by kernel_rfl) .i64 (fr : Int) (by omega) (by rw [ha]; omega), he, Try.sizeOf216 w, ha]
  have hf : ¬ 64 = fr := by omega
  simp [Result.andThen, slicedAt, hf, Addr.add_lit]

def FEnc (blk : Nat → Nat) (k : Nat) (args : Array Value) (W : World) : Prop := args = #[.map (some (blk k))]

set_option maxRecDepth 100000 in
set_option maxHeartbeats 1000000 in
set_option maxHeartbeats 4000000 in
theorem full_iter (Bm : Nat) (D : List Nat) (g : Nat) (m : Wm) (hw : m.Wf) (dm : Nat) (blk : Nat → Nat) :
    Iter2 Try.prog 148 #[.pointer (some ⟨Bm, 0, none⟩)] (FEnc blk) (upTo m.time m.ths 385) (fun W => W.cell? ⟨Bm, 0, none⟩ = some (.pointer (some ⟨g, 0, none⟩)) ∧ WhAt W D g m.time dm blk (dueF m.ths) (m.ths.map (·.1)) (inP m.time m.ths)) (fun _ => True) [] := by
  intro n l J Jx hRd hJ hJx hY W h0 _
  refine callsIn_of_wp Try.func148 rfl trivial ?_
  simp only [Try.ntmps148, List.size_toArray, List.length_cons, List.length_nil, Nat.reduceAdd, Nat.reduceSub, Array.replicate_succ, Array.replicate_zero, List.push_toArray, List.append_toArray, List.nil_append, List.cons_append]
  have hJ0 : J (upTo m.time m.ths 0) W := h0
  have HJ := Lib.hid hJ0
  clear hJ0 h0
  gi_wp2
  gi_loopw [7] (fun i wr => ∃ r : Nat, r ≤ 6 ∧ i = .int .i64 (r : Int) ∧ Hid (J (upTo m.time m.ths (64 * r)) wr)) (fun i _ => 6 - (intOf i).toNat)
  case atStart => exact ⟨0, by omega, rfl, HJ⟩
  case round =>
    clear HJ
    obtain ⟨r, hr, rfl, HJ⟩ := hrel
    obtain ⟨hcell, hp⟩ := hRd _ _ HJ.out
    have ht := hw.t
    unfold top48 at ht
    by_cases hlt : r < 6
    · have t1 : (r : Int) < 6 := by omega
      obtain ⟨fr, hfr⟩ : ∃ fr, m.time / 64 ^ r % 64 = fr := ⟨_, rfl⟩
      obtain ⟨qt, hqt⟩ : ∃ q, m.time / 64 ^ r = q := ⟨_, rfl⟩
      have sh3 : (m.time : Int) / 2 ^ (6 * (r : Int)).toNat = (qt : Int) := div_pow m.time r hqt
      have hm : ((qt : Int).tmod 64) = (fr : Int) := by rw [Int.tmod_eq_emod_of_nonneg (by omega)]; omega
      have hf64 : fr < 64 := by omega
      have c0 := hp.c0
      have HP := Lib.hid hp
      clear hp
      gi_wp2
      refine wpIn_scope_straight ?_
      gi_wp2
      apply wpIn_label
      obtain ⟨d, hd⟩ : ∃ d, 64 - fr = d := ⟨_, rfl⟩
      have hfd : fr + d = 64 := by omega
      have hsl := slice64 wr g (2 + r * 64) fr hf64
      rw [hd] at hsl
      have hgap := upTo_gap m.time m.ths (64 * r) fr (fun k h1 h2 => occ_gap hw hlt h1 (by rw [hfr]; exact h2))
      have HJ1 : Hid (J (upTo m.time m.ths (64 * r + fr + 0)) wr) := Lib.hid (by rw [Nat.add_zero, hgap]; exact HJ.out)
      clear hgap HJ hd hfr hqt
      gi_wp2
      gi_loopw [26] (fun i wr => ∃ j : Nat, j ≤ d ∧ i = .int .i64 (j : Int) ∧ Hid (J (upTo m.time m.ths (64 * r + fr + j)) wr)) (fun i _ => d - (intOf i).toNat)
      case atStart => exact ⟨0, by omega, rfl, HJ1⟩
      case round =>
        clear HJ1 HP hsl c0 hcell
        obtain ⟨j, hj, rfl, HJ⟩ := hrel
        obtain ⟨hcell, hp⟩ := hRd _ _ HJ.out
        by_cases hjd : j < d
        · have t2 : (j : Int) < (d : Int) := by omega
          obtain ⟨k, hk⟩ : ∃ k, 64 * r + fr + j = k := ⟨_, rfl⟩
          have hk384 : k ≤ 384 := by omega
          have ck := hp.ck k hk384
          rw [show 2 + k = 2 + r * 64 + fr + j by omega] at ck
          obtain ⟨ks, hm⟩ := hp.maps k hk384
          have hlen := fun ty => hm.len Try.underlying3 Try.underlying216 ty
          have hocc := keys_occ hm
          rw [hk] at HJ
          have hsucc := upTo_succ m.time m.ths k
          obtain ⟨nk, hnk⟩ : ∃ nk, ks.length = nk := ⟨_, rfl⟩
          rw [hnk] at hlen hocc
          have HK := Lib.hid hk
          by_cases h0 : nk = 0
          · subst h0
            rw [if_neg (by rw [hocc.1 rfl]; simp)] at hsucc
            have HJ2 : Hid (J (upTo m.time m.ths (64 * r + fr + (j + 1))) wr) := Lib.hid (by rw [← Nat.add_assoc, HK.out, hsucc]; exact HJ.out)
            clear hk hsucc hocc hp hm hnk HJ
            gi_wp2
            go_roundw
            case rel => exact ⟨j + 1, by omega, by go_num, HJ2⟩
            case measure => simp [intOf]; omega
          · have ho : occ m.time m.ths k = true := by
              cases h : occ m.time m.ths k with
              | true => rfl
              | false => exact absurd (hocc.2 h) h0
            rw [if_pos ho] at hsucc
            have hpx : upTo m.time m.ths k ++ [k] <+: upTo m.time m.ths 385 := by rw [← hsucc]; exact upTo_pre _ _ (by omega)
            obtain ⟨fn, tmps, assign, body, hy, hR⟩ := hY _ k #[.map (some (blk k))] wr hpx HJ.out rfl
            have t3 : ¬ (nk : Int) = 0 := by omega
            have HPX := Lib.hid hpx
            have HSU := Lib.hid hsucc
            clear hk hsucc hocc hp hm hnk HJ hpx ho
            gi_wp2
            refine ⟨wideN _, hR.mono ?_⟩
            rintro e W' ⟨-, (⟨rfl, hJ'⟩ | ⟨rfl, hJx'⟩)⟩
            · have HJ2 : Hid (J (upTo m.time m.ths (64 * r + fr + (j + 1))) W') := Lib.hid (by rw [← Nat.add_assoc, HK.out, HSU.out]; exact hJ')
              clear hJ'
              gi_wp2
              go_roundw
              case rel => exact ⟨j + 1, by omega, by go_num, HJ2⟩
              case measure => simp [intOf]; omega
            · gi_wp2
              simp +zetaDelta only [Exit.noGoto, Exit.inBlock, Exit.then]
              refine bodyPost_ret (results_none rfl _ _ _) rfl ?_
              exact ⟨⟨_, rfl⟩, .inr ⟨_, HPX.out, hJx'⟩⟩
        · have t2 : ¬ (j : Int) < (d : Int) := by omega
          have HJ2 : Hid (J (upTo m.time m.ths (64 * (r + 1))) wr) := Lib.hid (by rw [show 64 * (r + 1) = 64 * r + fr + j by omega]; exact HJ.out)
          clear HJ hp
          gi_wp2
          go_roundw
          case rel => exact ⟨r + 1, by omega, by go_num, HJ2⟩
          case measure => simp [intOf]; omega
    · obtain rfl : r = 6 := by omega
      have HP := Lib.hid hp
      have ck := hp.ck 384 (by omega)
      obtain ⟨ks, hm⟩ := hp.maps 384 (by omega)
      have hlen := fun ty => hm.len Try.underlying3 Try.underlying216 ty
      have hocc := keys_occ hm
      have hsucc := upTo_succ m.time m.ths 384
      obtain ⟨nk, hnk⟩ : ∃ nk, ks.length = nk := ⟨_, rfl⟩
      rw [hnk] at hlen hocc
      clear hp
      by_cases h0 : nk = 0
      · subst h0
        rw [if_neg (by rw [hocc.1 rfl]; simp)] at hsucc
        have HJ2 : Hid (J (upTo m.time m.ths 385) wr) := Lib.hid (by rw [hsucc]; exact HJ.out)
        clear hsucc hocc hm hnk HJ
        gi_wp2
        go_end0
        exact ⟨⟨_, rfl⟩, .inl HJ2.out⟩
      · have ho : occ m.time m.ths 384 = true := by
          cases h : occ m.time m.ths 384 with
          | true => rfl
          | false => exact absurd (hocc.2 h) h0
        rw [if_pos ho] at hsucc
        have hpx : upTo m.time m.ths 384 ++ [384] <+: upTo m.time m.ths 385 := by rw [← hsucc]; exact upTo_pre _ _ (by omega)
        obtain ⟨fn, tmps, assign, body, hy, hR⟩ := hY _ 384 #[.map (some (blk 384))] wr hpx HJ.out rfl
        have t3 : (0 : Int) < (nk : Int) := by omega
        have HPX := Lib.hid hpx
        have HSU := Lib.hid hsucc
        clear hsucc hocc hm hnk HJ hpx ho
        gi_wp2
        refine ⟨wideN _, hR.mono ?_⟩
        rintro e W' ⟨-, (⟨rfl, hJ'⟩ | ⟨rfl, hJx'⟩)⟩
        · have HJ2 : Hid (J (upTo m.time m.ths 385) W') := Lib.hid (by rw [HSU.out]; exact hJ')
          clear hJ'
          gi_wp2
          go_end0
          exact ⟨⟨_, rfl⟩, .inl HJ2.out⟩
        · gi_wp2
          go_end0
          exact ⟨⟨_, rfl⟩, .inr ⟨_, HPX.out, hJx'⟩⟩
end Go.Proofs.Ytjkjiabfhhnngaa
