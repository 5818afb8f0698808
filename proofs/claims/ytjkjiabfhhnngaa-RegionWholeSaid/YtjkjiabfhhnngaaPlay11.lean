import Derived.Test.YtjkjiabfhhnngaaHist
import Derived.Test.YtjkjiabfhhnngaaFlashA
import Derived.Test.YtjkjiabfhhnngaaGen
import Derived.Deep.CutRange
import Derived.Laws.ResultCell
import Derived.RegionTactic
import Derived.Deep.RegionLaw
import Derived.Test.YtjkjiabfhhnngaaActs11
/-! The document's log of regions: the walks of its functions. -/
namespace Go.Proofs.Ytjkjiabfhhnngaa
open Go.RowKit Sg
attribute [local go_sem] Oper.semAt_some
set_option linter.unusedSimpArgs false
set_option linter.unusedVariables false

/-- what was appended, and where -/
structure Kp where
  (q a : Nat)
  bs : List UInt8
def kenc (k : Kp) : List Value := [.int .i64 (k.q : Int), .int .i64 (k.a : Int), .int .i64 (k.bs.length : Int), .string ⟨k.bs.toArray⟩]
theorem kenc_len (k : Kp) : (kenc k).length = 4 := rfl
def KRow (w : World) (base : Nat) (v : Value) (l : List Kp) : Prop := w.ownsRow base 110 4 v l.length (l.flatMap kenc)
theorem KRow.nil (w : World) (base : Nat) : KRow w base (.slice none 0 0) [] := World.ownsRow_nil w base _ 4
theorem KRow.keep {w w' : World} {S : List Nat} {base : Nat} {v : Value} {l : List Kp} (h : KRow w base v l) (k : Keep S w w') (hs : ∀ b, v.ownBlock = some b → b ∉ S) : KRow w' base v l := by
  refine ⟨h.1, ?_⟩
  rcases h.2 with hn | ⟨g, cap, cur, rfl, hb, hg, rest⟩
  · exact .inl hn
  · exact .inr ⟨g, cap, cur, rfl, hb, k.blk (hs g rfl) hg, rest⟩
theorem KRow.rest {w w' : World} {X : List Nat} {base : Nat} {v : Value} {l : List Kp} (h : KRow w base v l) (k : ∀ b ∈ X, w'.heap[b]? = w.heap[b]?) (hs : ∀ b, v.ownBlock = some b → b ∈ X) : KRow w' base v l := by
  refine ⟨h.1, ?_⟩
  rcases h.2 with hn | ⟨g, cap, cur, rfl, hb, hg, rest⟩
  · exact .inl hn
  · exact .inr ⟨g, cap, cur, rfl, hb, (k g (hs g rfl)).trans hg, rest⟩
theorem KRow.base {w : World} {base base' : Nat} {v : Value} {l : List Kp} (h : KRow w base v l) (hb : base' ≤ base) : KRow w base' v l := by
  refine ⟨h.1, ?_⟩
  rcases h.2 with hn | ⟨g, cap, cur, rfl, hb', rest⟩
  · exact .inl hn
  · exact .inr ⟨g, cap, cur, rfl, Nat.le_trans hb hb', rest⟩
theorem KRow.form {w : World} {base : Nat} {v : Value} {l : List Kp} (h : KRow w base v l) : ∃ a c, v = .slice a l.length c := by
  rcases h.2 with ⟨rfl, h0⟩ | ⟨g, cap, cur, rfl, -⟩
  · exact ⟨none, 0, by rw [h0]⟩
  · exact ⟨_, _, rfl⟩
theorem KRow.lt {w : World} {base : Nat} {v : Value} {l : List Kp} (h : KRow w base v l) : ∀ b, v.ownBlock = some b → base ≤ b ∧ b < w.heap.size := by
  intro b hb
  rcases h.2 with ⟨rfl, -⟩ | ⟨g, cap, cur, rfl, h1, hg, -⟩
  · simp [Value.ownBlock] at hb
  · simp [Value.ownBlock] at hb
    subst hb
    exact ⟨h1, (Array.getElem?_eq_some_iff.1 hg).1⟩
theorem flat4 : ∀ (l : List Kp) (i j : Nat) (h : i < l.length), j < 4 → (l.flatMap kenc)[i * 4 + j]? = (kenc l[i])[j]?
  | [], i, j, h, _ => by simp at h
  | x :: l, i, j, h, hj => by
    rw [List.flatMap_cons]
    match i with
    | 0 =>
      rw [List.getElem?_append_left (by rw [kenc_len]; omega)]
      simp
    | i + 1 =>
      rw [List.getElem?_append_right (by rw [kenc_len]; omega), kenc_len, show (i + 1) * 4 + j - 4 = i * 4 + j by omega, flat4 l i j (by simp at h; omega) hj]
      simp
theorem KRow.cells {w : World} {base : Nat} {a : Option Addr} {n c : Nat} {l : List Kp} (h : KRow w base (.slice a n c) l) {i : Nat} (hi : i < l.length) : ∃ g, a = some ⟨g, 0, none⟩ ∧ base ≤ g ∧ ∀ j u, (kenc l[i])[j]? = some u → w.cell? ⟨g, i * 4 + j, none⟩ = some u := by
  rcases h.2 with ⟨e, h0⟩ | ⟨g, cap, cur, e, hb, hg, rest⟩
  · rw [h0] at hi; omega
  · cases e
    refine ⟨g, rfl, hb, fun j u hu => ?_⟩
    have hj : j < 4 := (List.getElem?_eq_some_iff.1 hu).1
    have := World.ownsRow.cells (g := g) h rfl (i * 4 + j) u (by rw [flat4 l i j hi hj]; exact hu)
    rw [Addr.add_lit, Nat.zero_add] at this
    exact this
theorem kenc_one (k : Kp) : ∀ u ∈ kenc k, u.oneCell' = true := by
  intro u hu
  simp [kenc] at hu
  rcases hu with rfl | rfl | rfl | rfl <;> rfl
theorem flat_one (l : List Kp) : ∀ u ∈ l.flatMap kenc, u.oneCell' = true := by
  intro u hu
  obtain ⟨k, -, hk⟩ := List.mem_flatMap.1 hu
  exact kenc_one k u hk
theorem flat_len4 (l : List Kp) : (l.flatMap kenc).length = l.length * 4 := by
  induction l with
  | nil => rfl
  | cons x l ih => rw [List.flatMap_cons, List.length_append, ih, kenc_len, List.length_cons]; omega
theorem kept_info : (Try.prog.info? 110).map (fun i => (i.zero, i.size, i.bytes)) = some (some (.agg #[.int .i64 0, .int .i64 0, .int .i64 0, .string ByteArray.empty]), 4, 40) := by kernel_rfl
theorem run_append_kept {w : World} (base : Nat) {ty : TypeId} {v : Value} {rs : List Kp} (hown : KRow w base v rs) (g : Nat) (r : Kp) {fr : Nat × Nat}
    (hg : w.heap[g]? = some (.cells (kenc r).toArray 110 fr)) (hn : rs.length ≤ 1000000) (hbase : base ≤ w.heap.size) :
    ∃ v' w', (Builtin.append_ #[94, 94] ty #[v, .slice (some ⟨g, 0, none⟩) 1 1]).run Try.prog w = .ok v' w' ∧ KRow w' base v' (rs ++ [r]) ∧ Keep v.ownBlock.toList w w' := by
  obtain ⟨i, hi1, hz, hs1, hb1⟩ := info_parts kept_info
  obtain ⟨v', w', hrun, hown', hgr, -⟩ := run_append_own (P := Try.prog) w base 94 ty 110 i _ 4 40 Try.underlying94 hi1 hz hs1 hb1 rfl (by decide) v rs.length (rs.flatMap kenc) hown ⟨g, 0, none⟩ 1 1 (kenc r) (by rfl)
    (fun j u hu => by
      rw [Addr.add_lit, Nat.zero_add, cell_of_row _ _ _ _ _ _ hg, ← Array.getElem?_toList]
      exact hu)
    (kenc_one r) (by simp [maxLen]; omega) (by omega) hbase
  refine ⟨v', w', hrun, ?_, Keep.grown hgr⟩
  show World.ownsRow _ _ _ _ _ _ _
  rw [List.length_append, List.flatMap_append]
  simpa using hown'
theorem run_append_kepts {w : World} (base : Nat) {ty : TypeId} {v src : Value} {rs ls : List Kp} (hown : KRow w base v rs) (hsrc : KRow w 0 src ls) (hn : rs.length + ls.length ≤ 1000000) (hbase : base ≤ w.heap.size) :
    ∃ v' w', (Builtin.append_ #[94, 94] ty #[v, src]).run Try.prog w = .ok v' w' ∧ KRow w' base v' (rs ++ ls) ∧ Keep v.ownBlock.toList w w' := by
  obtain ⟨i, hi1, hz, hs1, hb1⟩ := info_parts kept_info
  have hs0 := hsrc
  rcases hsrc.2 with ⟨rfl, h0⟩ | ⟨g, cap, cur, rfl, -⟩
  · have hl : ls = [] := List.eq_nil_of_length_eq_zero h0
    subst hl
    refine ⟨v, w, ?_, by simpa using hown, Keep.refl _ _⟩
    rcases hown.2 with ⟨rfl, h0⟩ | ⟨g, c, cur, rfl, _, _, hnc, _⟩
    · simp [Builtin.append_, run_underlying Try.underlying94, Go.sizeOf, typeInfo, hi1, Builtin.lenOf, Builtin.firstCells]
    · simp [Builtin.append_, run_underlying Try.underlying94, Go.sizeOf, typeInfo, hi1, Builtin.lenOf, Builtin.firstCells, hnc, storeCells]
  · obtain ⟨v', w', hrun, hown', hgr, -⟩ := run_append_own (P := Try.prog) w base 94 ty 110 i _ 4 40 Try.underlying94 hi1 hz hs1 hb1 rfl (by decide) v rs.length (rs.flatMap kenc) hown ⟨g, 0, none⟩ ls.length cap (ls.flatMap kenc) (flat_len4 ls)
      (fun j u hu => World.ownsRow.cells (g := g) hs0 rfl j u hu)
      (flat_one ls) (by simp [maxLen]; omega) (by omega) hbase
    refine ⟨v', w', hrun, ?_, Keep.grown hgr⟩
    show World.ownsRow _ _ _ _ _ _ _
    rw [List.length_append, List.flatMap_append]
    exact hown'
theorem results_rows2 {P : Program} {fn : Func} {p q u : Tmp} {ty ty2 : TypeId} (h : fn.results = #[.cell p ty, .cell q ty2, .tmp u]) (tmps : Array Value) (w : World) (g g2 : Nat) (t t2 : TypeId) (cs cs2 : Array Value) (fr fr2 : Nat × Nat) (d d2 : TypeDesc)
    (hp : tmps.getD p undef = .pointer (some ⟨g, 0, none⟩)) (hg : w.heap[g]? = some (.cells cs t fr))
    (hu : P.underlying ty = some d) (hd : (match d with | .struct _ | .array _ _ => true | _ => false) = true) (hi : (P.info? ty).map (·.size) = some cs.size)
    (hq : tmps.getD q undef = .pointer (some ⟨g2, 0, none⟩)) (hg2 : w.heap[g2]? = some (.cells cs2 t2 fr2))
    (hu2 : P.underlying ty2 = some d2) (hd2 : (match d2 with | .struct _ | .array _ _ => true | _ => false) = true) (hi2 : (P.info? ty2).map (·.size) = some cs2.size) :
    (results fn tmps).run P w = .ok (.tuple #[.agg cs, .agg cs2, tmps.getD u undef]) w := by
  have hp' : tmps[p]?.getD undef = .pointer (some ⟨g, 0, none⟩) := by simpa using hp
  have hq' : tmps[q]?.getD undef = .pointer (some ⟨g2, 0, none⟩) := by simpa using hq
  simp [results, h, hp', hq', asAddr, run_loadVar_row w g t ty cs fr d hg hu hd hi, run_loadVar_row w g2 t2 ty2 cs2 fr2 d2 hg2 hu2 hd2 hi2, Result.andThen]

/-- the document's log -/
structure Rf where
  (R room long last at_ : Nat)
def Rf.cells (r : Rf) (kv : Value) : Array Value := #[.int .i64 (r.R : Int), .int .i64 (r.room : Int), .int .i64 (r.long : Int), .int .i64 (r.last : Int), .int .i64 (r.at_ : Int), kv]

theorem refNew_any (w : World) : Calls Try.prog 50 #[.int .i64 3, .int .i64 77, .int .i64 2] w fun e w' => e = .returned (.agg (Rf.cells ⟨3, 77, 154, 0, 154⟩ (.slice none 0 0))) ∧ Keep [] w w' := by
  have hA := heap_alloc_new w (.cells #[.int .i64 0, .int .i64 0, .int .i64 0, .int .i64 0, .int .i64 0, .slice none 0 0] 96)
  have hK := (Keep.refl [] w).alloc (.cells #[.int .i64 0, .int .i64 0, .int .i64 0, .int .i64 0, .int .i64 0, .slice none 0 0] 96)
  have HA := Lib.hid hA
  have HK := Lib.hid hK
  clear hA hK
  go_enter Try.func50, Try.ntmps50
  go_wp2_with (refine wpList_store_row rfl 96 (.tmp 6) (.tmp 15) rfl w.heap.size #[.int .i64 3, .int .i64 77, .int .i64 154, .int .i64 0, .int .i64 154, .slice none 0 0] rfl rfl 96 _ HA.out (by kernel_rfl) (by rfl) (by kernel_rfl) ?_)
  exact bodyPost_ret (results_cell_row rfl _ _ w.heap.size 96 _ _ _ rfl (setRow_heap _ _ _ _ _ _ HA.out) Try.underlying96 rfl (by kernel_rfl)) rfl ⟨rfl, HK.out.setRow (.inr (Nat.le_refl _)) _⟩

def natAt (w : World) (p : Addr) : Nat := match w.cell? p with
  | some (.int _ n) => n.toNat
  | _ => 0
theorem natAt_of {w : World} {p : Addr} {k : IntKind} {n : Nat} (h : w.cell? p = some (.int k (n : Int))) : natAt w p = n := by unfold natAt; rw [h]; simp
theorem mod_between {a m z s : Nat} (h1 : a ≤ s) (h2 : s < a + z) (hz : z < m) (hm : (a + z) % m = 0) : s % m ≠ 0 := by
  intro h
  have h3 : (a + z - s) % m = 0 := Nat.sub_mod_eq_zero_of_mod_eq (by rw [hm, h])
  rw [Nat.mod_eq_of_lt (by omega)] at h3
  omega
set_option maxRecDepth 100000 in
set_option maxHeartbeats 1000000 in
set_option maxHeartbeats 4000000 in
theorem refFlush_any (r : Rf) (kv : Value) (hkv : ∃ a n c, kv = .slice a n c) (z : Nat) (hz : z < r.room) (hm : (r.at_ + z) % r.room = 0) (hb : r.at_ ≤ 1000000 ∧ r.room ≤ 1000000) (w : World) :
    Calls Try.prog 53 #[.agg (r.cells kv)] w fun e w' => e = .returned (.agg (Rf.cells ⟨r.R, r.room, r.long, r.last, r.at_ + z⟩ kv)) ∧ Keep [] w w' := by
  obtain ⟨R, room, long, last, at_⟩ := r
  obtain ⟨ka, kn, kc, rfl⟩ := hkv
  simp only [Rf.cells] at *
  obtain ⟨B, hB⟩ : ∃ B, w.heap.size = B := ⟨_, rfl⟩
  have h1 := Lib.hid (heap_alloc2_old w (.cells #[.int .i64 (R : Int), .int .i64 (room : Int), .int .i64 (long : Int), .int .i64 (last : Int), .int .i64 (at_ : Int), .slice ka kn kc] 96) (.cells #[.int .i64 0, .int .i64 0, .int .i64 0, .int .i64 0, .int .i64 0, .slice none 0 0] 96))
  have h2 := Lib.hid (heap_alloc2_new w (.cells #[.int .i64 (R : Int), .int .i64 (room : Int), .int .i64 (long : Int), .int .i64 (last : Int), .int .i64 (at_ : Int), .slice ka kn kc] 96) (.cells #[.int .i64 0, .int .i64 0, .int .i64 0, .int .i64 0, .int .i64 0, .slice none 0 0] 96))
  have h3 := Lib.hid (((Keep.refl [] w).alloc (.cells #[.int .i64 (R : Int), .int .i64 (room : Int), .int .i64 (long : Int), .int .i64 (last : Int), .int .i64 (at_ : Int), .slice ka kn kc] 96)).alloc (.cells #[.int .i64 0, .int .i64 0, .int .i64 0, .int .i64 0, .int .i64 0, .slice none 0 0] 96))
  rw [hB] at h1 h2
  have HBW := Lib.hid hB
  have HMZ := Lib.hid (And.intro hz hm)
  clear hz hm
  go_enter Try.func53, Try.ntmps53
  go_wp2
  try rw [hB]
  clear hB
  go_loopw [] (fun wr => ∃ (a : Nat), at_ ≤ a ∧ a ≤ at_ + z ∧ Hid (wr.heap[B]? = some (.cells #[.int .i64 (R : Int), .int .i64 (room : Int), .int .i64 (long : Int), .int .i64 (last : Int), .int .i64 (a : Int), .slice ka kn kc] 96 (0, 0))) ∧ Hid (wr.heap[B + 1]? = some (.cells #[.int .i64 0, .int .i64 0, .int .i64 0, .int .i64 0, .int .i64 0, .slice none 0 0] 96 (0, 0))) ∧ Hid (Keep [] w wr)) (fun wr => at_ + z - natAt wr ⟨B, 4, none⟩)
  case atStart => exact ⟨at_, by omega, by omega, h1, h2, h3⟩
  case round =>
    clear h1 h2 h3
    obtain ⟨a, ha1, ha2, h1, h2, h3⟩ := hrel
    obtain ⟨hz, hm⟩ := HMZ.out
    have c1 := cell_of_row _ _ 1 _ _ _ h1.out
    have c4 := cell_of_row _ _ 4 _ _ _ h1.out
    have f4 := frozen_of_row wr _ 4 _ _ h1.out
    simp at c1 c4
    obtain ⟨s, hs⟩ : ∃ s, a % room = s := ⟨_, rfl⟩
    have t1 : Int.tmod (a : Int) (room : Int) = (s : Int) := by rw [Int.tmod_eq_emod_of_nonneg (by omega), ← hs]; rfl
    have hsr : s < 1000000 := by rw [← hs]; exact Nat.lt_of_lt_of_le (Nat.mod_lt _ (by omega)) hb.2
    have t2 : IntKind.i64.wrap (s : Int) = (s : Int) := i64_wrap_nat (by omega)
    have z0 : ¬ ((room : Int) = 0) := by omega
    have z1 : ((room : Int) == 0) = false := beq_false_of_ne z0
    have z2 : ¬ room = 0 := by omega
    have u1 : IntKind.i64.wrap ((a : Int) + 1) = ((a + 1 : Nat) : Int) := by rw [i64_wrap (by omega) (by omega)]; rfl
    by_cases hend : a = at_ + z
    · have s0 : s = 0 := by rw [← hs, hend]; exact hm
      have s1 : ((s : Int) != 0) = false := by simp; omega
      have HE := Lib.hid hend
      clear hm hz hs f4 u1 s0 hend
      go_wp2_with (first | (refine wpList_load_row rfl 96 (.tmp 1) rfl B rfl 96 _ _ _ h1.out Try.underlying96 rfl (by kernel_rfl) ?_) | (refine wpList_store_row rfl 96 (.tmp 2) (.tmp 13) rfl (B + 1) #[.int .i64 (R : Int), .int .i64 (room : Int), .int .i64 (long : Int), .int .i64 (last : Int), .int .i64 (a : Int), .slice ka kn kc] rfl rfl 96 _ h2.out (by kernel_rfl) (by rfl) (by kernel_rfl) ?_))
      exact bodyPost_ret (results_cell_row rfl _ _ (B + 1) 96 _ _ _ rfl (setRow_heap _ _ _ _ _ _ h2.out) Try.underlying96 rfl (by kernel_rfl)) rfl ⟨by rw [← HE.out], h3.out.setRow (.inr (by rw [HBW.out]; omega)) _⟩
    · have hne := mod_between (s := a) ha1 (by omega) hz hm
      have s1 : ((s : Int) != 0) = true := by simp; omega
      have hN := Lib.hid (natAt_of c4)
      have hs1 := heap_setCell_same wr B 4 _ _ (.int .i64 ((a + 1 : Nat) : Int)) h1.out
      simp only [List.setIfInBounds_toArray, List.set_cons_zero, List.set_cons_succ] at hs1
      have hs2 := ((Keep.refl [B] wr).setCell (p := ⟨B, 4, none⟩) (.inl (by simp)) (.int .i64 ((a + 1 : Nat) : Int))).blk (by simp) h2.out
      have hs3 := h3.out.setCell (p := ⟨B, 4, none⟩) (.inr (by rw [HBW.out]; exact Nat.le_refl _)) (.int .i64 ((a + 1 : Nat) : Int))
      have hN2 := Lib.hid (natAt_of (n := a + 1) (by have h := cell_of_row _ B 4 _ _ _ hs1; simpa using h))
      have S1 := Lib.hid hs1
      have S2 := Lib.hid hs2
      have S3 := Lib.hid hs3
      clear hs hne hm hz hs1 hs2 hs3
      go_wp2
      go_roundw
      case rel => exact ⟨a + 1, by omega, by omega, S1, S2, S3⟩
      case measure => rw [hN.out, hN2.out]; omega

theorem loc11_any (x y z : Int) (w : World) : Calls Try.prog 61 #[.agg #[.int .i64 x, .int .i64 y, .int .i64 z]] w fun e w' => e = .returned (.agg #[.int .i64 x, .int .i64 y, .int .i64 z]) ∧ Keep [] w w' := by
  have HB := Lib.hid (heap_alloc2_new w (.cells #[.int .i64 x, .int .i64 y, .int .i64 z] 106) (.cells #[.int .i64 0, .int .i64 0, .int .i64 0] 103))
  have HK := Lib.hid (((Keep.refl [] w).alloc (.cells #[.int .i64 x, .int .i64 y, .int .i64 z] 106)).alloc (.cells #[.int .i64 0, .int .i64 0, .int .i64 0] 103))
  go_enter Try.func61, Try.ntmps61
  go_wp2_with (refine wpList_store_row rfl 103 (.tmp 2) (.tmp 9) rfl (w.heap.size + 1) #[.int .i64 x, .int .i64 y, .int .i64 z] rfl rfl 103 _ HB.out (by kernel_rfl) (by rfl) (by kernel_rfl) ?_)
  exact bodyPost_ret (results_cell_row rfl _ _ (w.heap.size + 1) 103 _ _ _ rfl (setRow_heap _ _ _ _ _ _ HB.out) Try.underlying103 rfl (by kernel_rfl)) rfl ⟨rfl, HK.out.setRow (.inr (by omega)) _⟩
end Go.Proofs.Ytjkjiabfhhnngaa

/-! The walk of the document's Append to a log. -/
namespace Go.Proofs.Ytjkjiabfhhnngaa
open Go.RowKit Sg
attribute [local go_sem] Oper.semAt_some
set_option linter.unusedSimpArgs false
set_option linter.unusedVariables false

set_option maxRecDepth 100000 in
set_option maxHeartbeats 1000000 in
set_option maxHeartbeats 4000000 in
theorem refAppend_no (r : Rf) (kv : Value) (hkv : ∃ a n c, kv = .slice a n c) (bs : List UInt8) (hbs : bs.length ≤ 1000000) (hb : r.long ≤ 1000000) (hno : bs.length = 0 ∨ r.long < bs.length) (w : World) :
    Calls Try.prog 56 #[.agg (r.cells kv), .string ⟨bs.toArray⟩] w fun e w' => e = .returned (.tuple #[.agg (r.cells kv), .agg #[.int .i64 0, .int .i64 0, .int .i64 0], .int .i64 (if bs.length = 0 then 1 else 9)]) ∧ Keep [] w w' := by
  obtain ⟨R, room, long, last, at_⟩ := r
  obtain ⟨ka, kn, kc, rfl⟩ := hkv
  simp only [Rf.cells] at *
  have hK := ((((Keep.refl [] w).alloc (.cells #[.int .i64 (R : Int), .int .i64 (room : Int), .int .i64 (long : Int), .int .i64 (last : Int), .int .i64 (at_ : Int), .slice ka kn kc] 96)).alloc (.cells #[.int .i64 0, .int .i64 0, .int .i64 0, .int .i64 0, .int .i64 0, .slice none 0 0] 96)).alloc (.cells #[.int .i64 0, .int .i64 0, .int .i64 0] 106))
  have h4 : (((w.alloc (.cells #[.int .i64 (R : Int), .int .i64 (room : Int), .int .i64 (long : Int), .int .i64 (last : Int), .int .i64 (at_ : Int), .slice ka kn kc] 96)).alloc (.cells #[.int .i64 0, .int .i64 0, .int .i64 0, .int .i64 0, .int .i64 0, .slice none 0 0] 96)).alloc (.cells #[.int .i64 0, .int .i64 0, .int .i64 0] 106)).heap[w.heap.size + 1]? = some (.cells #[.int .i64 0, .int .i64 0, .int .i64 0, .int .i64 0, .int .i64 0, .slice none 0 0] 96) := by
    have h := ((Keep.refl [] ((w.alloc (.cells #[.int .i64 (R : Int), .int .i64 (room : Int), .int .i64 (long : Int), .int .i64 (last : Int), .int .i64 (at_ : Int), .slice ka kn kc] 96)).alloc (.cells #[.int .i64 0, .int .i64 0, .int .i64 0, .int .i64 0, .int .i64 0, .slice none 0 0] 96))).alloc (.cells #[.int .i64 0, .int .i64 0, .int .i64 0] 106)).blk (by simp) (heap_alloc_new (w.alloc (.cells #[.int .i64 (R : Int), .int .i64 (room : Int), .int .i64 (long : Int), .int .i64 (last : Int), .int .i64 (at_ : Int), .slice ka kn kc] 96)) (.cells #[.int .i64 0, .int .i64 0, .int .i64 0, .int .i64 0, .int .i64 0, .slice none 0 0] 96))
    rw [World.size_alloc] at h
    exact h
  have h5 : (((w.alloc (.cells #[.int .i64 (R : Int), .int .i64 (room : Int), .int .i64 (long : Int), .int .i64 (last : Int), .int .i64 (at_ : Int), .slice ka kn kc] 96)).alloc (.cells #[.int .i64 0, .int .i64 0, .int .i64 0, .int .i64 0, .int .i64 0, .slice none 0 0] 96)).alloc (.cells #[.int .i64 0, .int .i64 0, .int .i64 0] 106)).heap[w.heap.size + 2]? = some (.cells #[.int .i64 0, .int .i64 0, .int .i64 0] 106) := by
    have h := heap_alloc_new ((w.alloc (.cells #[.int .i64 (R : Int), .int .i64 (room : Int), .int .i64 (long : Int), .int .i64 (last : Int), .int .i64 (at_ : Int), .slice ka kn kc] 96)).alloc (.cells #[.int .i64 0, .int .i64 0, .int .i64 0, .int .i64 0, .int .i64 0, .slice none 0 0] 96)) (.cells #[.int .i64 0, .int .i64 0, .int .i64 0] 106)
    rw [World.size_alloc, World.size_alloc] at h
    exact h
  have h45 : ((((w.alloc (.cells #[.int .i64 (R : Int), .int .i64 (room : Int), .int .i64 (long : Int), .int .i64 (last : Int), .int .i64 (at_ : Int), .slice ka kn kc] 96)).alloc (.cells #[.int .i64 0, .int .i64 0, .int .i64 0, .int .i64 0, .int .i64 0, .slice none 0 0] 96)).alloc (.cells #[.int .i64 0, .int .i64 0, .int .i64 0] 106)).setRow (w.heap.size + 1) #[.int .i64 (R : Int), .int .i64 (room : Int), .int .i64 (long : Int), .int .i64 (last : Int), .int .i64 (at_ : Int), .slice ka kn kc]).heap[w.heap.size + 2]? = some (.cells #[.int .i64 0, .int .i64 0, .int .i64 0] 106) := (setRow_other _ _ _ _ (by omega)).trans h5
  have h46 := (setRow_other ((((w.alloc (.cells #[.int .i64 (R : Int), .int .i64 (room : Int), .int .i64 (long : Int), .int .i64 (last : Int), .int .i64 (at_ : Int), .slice ka kn kc] 96)).alloc (.cells #[.int .i64 0, .int .i64 0, .int .i64 0, .int .i64 0, .int .i64 0, .slice none 0 0] 96)).alloc (.cells #[.int .i64 0, .int .i64 0, .int .i64 0] 106)).setRow (w.heap.size + 1) #[.int .i64 (R : Int), .int .i64 (room : Int), .int .i64 (long : Int), .int .i64 (last : Int), .int .i64 (at_ : Int), .slice ka kn kc]) (w.heap.size + 2) (w.heap.size + 1) #[.int .i64 0, .int .i64 0, .int .i64 0] (by omega)).trans (setRow_heap _ _ _ #[.int .i64 (R : Int), .int .i64 (room : Int), .int .i64 (long : Int), .int .i64 (last : Int), .int .i64 (at_ : Int), .slice ka kn kc] _ _ h4)
  have H4 := Lib.hid h4
  have H45 := Lib.hid h45
  have H46 := Lib.hid h46
  have HK := Lib.hid hK
  clear hK h4 h5 h45 h46
  by_cases h0 : bs.length = 0
  · have e0 : bs = [] := List.eq_nil_of_length_eq_zero h0
    subst e0
    go_enter Try.func56, Try.ntmps56
    go_wp2_with (first | (refine wpList_store_row rfl 96 (.tmp 4) (.tmp 11) rfl (w.heap.size + 1) #[.int .i64 (R : Int), .int .i64 (room : Int), .int .i64 (long : Int), .int .i64 (last : Int), .int .i64 (at_ : Int), .slice ka kn kc] rfl rfl 96 _ H4.out (by kernel_rfl) (by rfl) (by kernel_rfl) ?_) | (refine wpList_store_row rfl 106 (.tmp 5) (.tmp 12) rfl (w.heap.size + 2) #[.int .i64 0, .int .i64 0, .int .i64 0] rfl rfl 106 _ H45.out (by kernel_rfl) (by rfl) (by kernel_rfl) ?_))
    exact bodyPost_ret (results_rows2 rfl _ _ (w.heap.size + 1) (w.heap.size + 2) 96 106 _ _ _ _ _ _ rfl H46.out Try.underlying96 rfl (by kernel_rfl) rfl (setRow_heap _ _ _ _ _ _ H45.out) Try.underlying106 rfl (by kernel_rfl)) rfl ⟨rfl, (HK.out.setRow (.inr (by omega)) _).setRow (.inr (by omega)) _⟩
  · have hl : long < bs.length := by omega
    have a0 : ((bs.length : Int) == 0) = false := beq_false_of_ne (by omega)
    have a1 : (long : Int) < (bs.length : Int) := by omega
    have a2 : ¬ bs.length = 0 := h0
    have HR := Lib.hid (if_neg h0 : (if bs.length = 0 then (1 : Int) else 9) = 9)
    obtain ⟨cd, hcd⟩ : ∃ cd : Int, (if bs.length = 0 then (1 : Int) else 9) = cd := ⟨_, rfl⟩
    rw [hcd]
    have HCD := Lib.hid (hcd.symm.trans HR.out)
    clear hcd HR h0 hno
    go_enter Try.func56, Try.ntmps56
    go_wp2_with (first | (refine wpList_store_row rfl 96 (.tmp 4) (.tmp 18) rfl (w.heap.size + 1) #[.int .i64 (R : Int), .int .i64 (room : Int), .int .i64 (long : Int), .int .i64 (last : Int), .int .i64 (at_ : Int), .slice ka kn kc] rfl rfl 96 _ H4.out (by kernel_rfl) (by rfl) (by kernel_rfl) ?_) | (refine wpList_store_row rfl 106 (.tmp 5) (.tmp 19) rfl (w.heap.size + 2) #[.int .i64 0, .int .i64 0, .int .i64 0] rfl rfl 106 _ H45.out (by kernel_rfl) (by rfl) (by kernel_rfl) ?_))
    exact bodyPost_ret (results_rows2 rfl _ _ (w.heap.size + 1) (w.heap.size + 2) 96 106 _ _ _ _ _ _ rfl H46.out Try.underlying96 rfl (by kernel_rfl) rfl (setRow_heap _ _ _ _ _ _ H45.out) Try.underlying106 rfl (by kernel_rfl)) rfl ⟨by rw [HCD.out]; rfl, (HK.out.setRow (.inr (by omega)) _).setRow (.inr (by omega)) _⟩
theorem step_append_run {P : Program} {ops : Array Oper} {o : Oper} {a : Act} {w : World} {K : Act → World → Prop} {Q : Exit → Act → World → Prop} {E : Prop}
    (hg : o.guard = none) (s x : Operand) (t : TypeId) (hop : o.op = Op.call { callee := Callee.builtin Builtin.append, args := #[s, x], argTypes := #[t, t] })
    {v src v' : Value} {w' : World} (hrun : (Builtin.append_ #[t, t] o.type #[v, src]).run P w = .ok v' w') (hs : a.eval s = v) (hx : a.eval x = src) (hK : K (a.put o.dst v') w') :
    if Region.wanted o (yielded ops a.tmps) = true then Oper.wp P o a w K Q else E := by
  have hw : Region.wanted o (yielded ops a.tmps) = true := by simp [Region.wanted, hg]
  rw [if_pos hw]
  exact loudly_wp (loudly_append_run s x t hop hs hx hrun hK)

theorem OwnK.empty (w : World) : KRow (w.alloc (.cells #[] 110)) w.heap.size (.slice (some ⟨w.heap.size, 0, none⟩) 0 0) [] := by
  refine ⟨rfl, .inr ⟨w.heap.size, 0, #[], rfl, Nat.le_refl _, heap_alloc_new _ _, ?_⟩⟩
  simp [maxLen]

set_option maxRecDepth 100000 in
set_option maxHeartbeats 1000000 in
set_option maxHeartbeats 8000000 in
theorem refAppend_ok (r : Rf) (kv : Value) (ks : List Kp) (bs : List UInt8) (w : World) (hk : KRow w 0 kv ks) (hks : ks.length ≤ 1000) (hbs : 1 ≤ bs.length ∧ bs.length ≤ r.long) (hb : r.long ≤ 1000000 ∧ r.last ≤ 1000000 ∧ r.at_ ≤ 1000000) (q a : Nat) (hway : (r.long < r.at_ + bs.length ∧ q = r.last + 1 ∧ a = 0) ∨ (r.at_ + bs.length ≤ r.long ∧ q = r.last ∧ a = r.at_)) :
    Calls Try.prog 56 #[.agg (r.cells kv), .string ⟨bs.toArray⟩] w fun e w' => ∃ kv', e = .returned (.tuple #[.agg (Rf.cells ⟨r.R, r.room, r.long, q, a + bs.length⟩ kv'), .agg #[.int .i64 (q : Int), .int .i64 (a : Int), .int .i64 (bs.length : Int)], .int .i64 0]) ∧ KRow w' w.heap.size kv' (ks ++ [⟨q, a, bs⟩]) ∧ Keep [] w w' := by
  obtain ⟨R, room, long, last, at_⟩ := r
  obtain ⟨ka, kc, rfl⟩ := hk.form
  obtain ⟨kn, hkn⟩ : ∃ n, ks.length = n := ⟨_, rfl⟩
  rw [hkn] at hk ⊢
  simp only [Rf.cells] at *
  have a0 : ((bs.length : Int) == 0) = false := beq_false_of_ne (by omega)
  have a0' : ¬ bs.length = 0 := by omega
  have a1 : ¬ (long : Int) < (bs.length : Int) := by omega
  have u1 : IntKind.i64.wrap ((at_ : Int) + (bs.length : Int)) = (at_ : Int) + (bs.length : Int) := i64_wrap (by omega) (by omega)
  have u2 : IntKind.i64.wrap ((last : Int) + 1) = (last : Int) + 1 := i64_wrap (by omega) (by omega)
  obtain ⟨nn, hnn⟩ : ∃ nn, a + bs.length = nn := ⟨_, rfl⟩
  have u3 : IntKind.i64.wrap ((a : Int) + (bs.length : Int)) = (nn : Int) := by rw [i64_wrap (by omega) (by omega)]; omega
  rw [hnn]
  have HN := Lib.hid hnn
  have HWAY := Lib.hid hway
  have HKN := Lib.hid hkn
  have HKS := Lib.hid hks
  have b0 := heap_alloc2_old
  have HK3 := Lib.hid (fun o => (((Keep.refl [] w).alloc o).alloc (.cells #[.int .i64 0, .int .i64 0, .int .i64 0, .int .i64 0, .int .i64 0, .slice none 0 0] 96)).alloc (.cells #[.int .i64 0, .int .i64 0, .int .i64 0] 106))
  have G0 : ∀ o, (((w.alloc o).alloc (.cells #[.int .i64 0, .int .i64 0, .int .i64 0, .int .i64 0, .int .i64 0, .slice none 0 0] 96)).alloc (.cells #[.int .i64 0, .int .i64 0, .int .i64 0] 106)).heap[w.heap.size]? = some o := fun o => by
    exact ((((Keep.refl [] (w.alloc o)).alloc (.cells #[.int .i64 0, .int .i64 0, .int .i64 0, .int .i64 0, .int .i64 0, .slice none 0 0] 96)).alloc (.cells #[.int .i64 0, .int .i64 0, .int .i64 0] 106))).blk (by simp) (heap_alloc_new w o)
  have G1 : ∀ o, (((w.alloc o).alloc (.cells #[.int .i64 0, .int .i64 0, .int .i64 0, .int .i64 0, .int .i64 0, .slice none 0 0] 96)).alloc (.cells #[.int .i64 0, .int .i64 0, .int .i64 0] 106)).heap[w.heap.size + 1]? = some (.cells #[.int .i64 0, .int .i64 0, .int .i64 0, .int .i64 0, .int .i64 0, .slice none 0 0] 96) := fun o => by
    have h := (((Keep.refl [] ((w.alloc o).alloc (.cells #[.int .i64 0, .int .i64 0, .int .i64 0, .int .i64 0, .int .i64 0, .slice none 0 0] 96))).alloc (.cells #[.int .i64 0, .int .i64 0, .int .i64 0] 106))).blk (by simp) (heap_alloc_new (w.alloc o) (.cells #[.int .i64 0, .int .i64 0, .int .i64 0, .int .i64 0, .int .i64 0, .slice none 0 0] 96))
    rw [World.size_alloc] at h
    exact h
  have G2 : ∀ o, (((w.alloc o).alloc (.cells #[.int .i64 0, .int .i64 0, .int .i64 0, .int .i64 0, .int .i64 0, .slice none 0 0] 96)).alloc (.cells #[.int .i64 0, .int .i64 0, .int .i64 0] 106)).heap[w.heap.size + 2]? = some (.cells #[.int .i64 0, .int .i64 0, .int .i64 0] 106) := fun o => by
    have h := (heap_alloc_new ((w.alloc o).alloc (.cells #[.int .i64 0, .int .i64 0, .int .i64 0, .int .i64 0, .int .i64 0, .slice none 0 0] 96)) (.cells #[.int .i64 0, .int .i64 0, .int .i64 0] 106))
    rw [World.size_alloc, World.size_alloc] at h
    exact h
  have G3 : ∀ o, (((w.alloc o).alloc (.cells #[.int .i64 0, .int .i64 0, .int .i64 0, .int .i64 0, .int .i64 0, .slice none 0 0] 96)).alloc (.cells #[.int .i64 0, .int .i64 0, .int .i64 0] 106)).heap.size = w.heap.size + 3 := fun o => by simp
  have HG := Lib.hid (And.intro G0 (And.intro G1 (And.intro G2 G3)))
  have HKR := Lib.hid hk
  clear hk hkn hks b0 G0 G1 G2 G3 hway hnn
  go_enter Try.func56, Try.ntmps56
  go_upto_if 27 with fail
  go_cut [] from 27 to 32 (fun wx => Hid (wx.heap[w.heap.size]? = some (.cells #[.int .i64 (R : Int), .int .i64 (room : Int), .int .i64 (long : Int), .int .i64 (q : Int), .int .i64 (a : Int), .slice ka kn kc] 96 (0, 0))) ∧ Hid (wx.heap[w.heap.size + 1]? = some (.cells #[.int .i64 0, .int .i64 0, .int .i64 0, .int .i64 0, .int .i64 0, .slice none 0 0] 96 (0, 0))) ∧ Hid (wx.heap[w.heap.size + 2]? = some (.cells #[.int .i64 0, .int .i64 0, .int .i64 0] 106 (0, 0))) ∧ Hid (wx.heap.size = w.heap.size + 3) ∧ Hid (Keep [] w wx))
  case first =>
    rcases HWAY.out with ⟨h1, h2, h3⟩ | ⟨h1, h2, h3⟩
    · have e1 : (long : Int) < (at_ : Int) + (bs.length : Int) := by omega
      have HE := Lib.hid (And.intro (show (q : Int) = (last : Int) + 1 by omega) (show (a : Int) = 0 by omega))
      clear h1 h2 h3
      go_wp2_with fail
      go_meet
      case rel => rw [HE.out.1, HE.out.2]; exact ⟨HG.out.1 _, HG.out.2.1 _, HG.out.2.2.1 _, HG.out.2.2.2 _, HK3.out _⟩
    · have e1 : ¬ (long : Int) < (at_ : Int) + (bs.length : Int) := by omega
      have HE := Lib.hid (And.intro (show (q : Int) = (last : Int) by omega) (show (a : Int) = (at_ : Int) by omega))
      clear h1 h2 h3
      go_wp2_with fail
      go_meet
      case rel => rw [HE.out.1, HE.out.2]; exact ⟨HG.out.1 _, HG.out.2.1 _, HG.out.2.2.1 _, HG.out.2.2.2 _, HK3.out _⟩
  case rest =>
  obtain ⟨hB0, hB1, hB2, hS, hK⟩ := hcut
  clear HG HK3 HWAY u1 u2 a1
  have c3 := cell_of_row _ _ 3 _ _ _ hB0.out
  have c4 := cell_of_row _ _ 4 _ _ _ hB0.out
  have f4 := frozen_of_row wc (w.heap.size) 4 _ _ hB0.out
  simp at c3 c4
  have hs := hS.out
  go_upto_region 10 with fail
  have hA1 := heap_setCell_same wc w.heap.size 4 _ _ (.int .i64 (nn : Int)) hB0.out
  simp only [List.setIfInBounds_toArray, List.set_cons_zero, List.set_cons_succ] at hA1
  have kS := (Keep.refl [w.heap.size] wc).setCell (p := ⟨w.heap.size, 4, none⟩) (.inl (by simp)) (.int .i64 (nn : Int))
  have kA := (Keep.refl [] (wc.setCell ⟨w.heap.size, 4, none⟩ (.int .i64 (nn : Int)))).alloc (.cells #[.int .i64 (q : Int), .int .i64 (a : Int), .int .i64 (bs.length : Int)] 106)
  have zs : (wc.setCell ⟨w.heap.size, 4, none⟩ (.int .i64 (nn : Int))).heap.size = wc.heap.size := by simp
  have hs9 : ((wc.setCell ⟨w.heap.size, 4, none⟩ (.int .i64 (nn : Int))).alloc (.cells #[.int .i64 (q : Int), .int .i64 (a : Int), .int .i64 (bs.length : Int)] 106)).heap.size = w.heap.size + 4 := by rw [World.size_alloc, zs, hs]
  have hL9 := heap_alloc_new (wc.setCell ⟨w.heap.size, 4, none⟩ (.int .i64 (nn : Int))) (.cells #[.int .i64 (q : Int), .int .i64 (a : Int), .int .i64 (bs.length : Int)] 106)
  rw [zs, hs] at hL9
  clear zs
  have hA9 := kA.blk (by simp) hA1
  have h19 := kA.blk (by simp) (kS.blk (by simp) hB1.out)
  have h29 := kA.blk (by simp) (kS.blk (by simp) hB2.out)
  have hK9 : Keep [] w ((wc.setCell ⟨w.heap.size, 4, none⟩ (.int .i64 (nn : Int))).alloc (.cells #[.int .i64 (q : Int), .int .i64 (a : Int), .int .i64 (bs.length : Int)] 106)) := ((hK.out.setCell (.inr (Nat.le_refl _)) _).alloc _)
  generalize (wc.setCell ⟨w.heap.size, 4, none⟩ (.int .i64 (nn : Int))).alloc (.cells #[.int .i64 (q : Int), .int .i64 (a : Int), .int .i64 (bs.length : Int)] 106) = w9 at *
  have hkr := HKR.out.keep hK9 (by simp)
  clear hA1 kS kA hB0 hB1 hB2 hS hK c3 c4 f4 hs u3 a0
  have HA9 := Lib.hid hA9
  have HL9 := Lib.hid hL9
  have H19 := Lib.hid h19
  have H29 := Lib.hid h29
  have HK9 := Lib.hid hK9
  have HKR9 := Lib.hid hkr
  have HS9 := Lib.hid hs9
  clear hA9 hL9 h19 h29 hK9 hkr
  obtain ⟨s, hw0⟩ : ∃ s, w.heap.size = s := ⟨_, rfl⟩
  rw [hw0] at HA9 HL9 H19 H29 HS9 hs9 ⊢
  have HW0 := Lib.hid hw0
  clear hw0
  go_cut [] from 46 to 55 (fun wx => ∃ (ka' : Option Addr) (kn' kc' : Nat), Hid (wx.heap[s]? = some (.cells #[.int .i64 (R : Int), .int .i64 (room : Int), .int .i64 (long : Int), .int .i64 (q : Int), .int .i64 (nn : Int), .slice ka' kn' kc'] 96 (0, 0))) ∧ Hid (KRow wx (s + 4) (.slice ka' kn' kc') (ks ++ [⟨q, a, bs⟩])) ∧ Hid (wx.heap[s + 1]? = some (.cells #[.int .i64 0, .int .i64 0, .int .i64 0, .int .i64 0, .int .i64 0, .slice none 0 0] 96 (0, 0))) ∧ Hid (wx.heap[s + 2]? = some (.cells #[.int .i64 0, .int .i64 0, .int .i64 0] 106 (0, 0))) ∧ Hid (wx.heap[s + 3]? = some (.cells #[.int .i64 (q : Int), .int .i64 (a : Int), .int .i64 (bs.length : Int)] 106 (0, 0))) ∧ Hid (Keep [] w wx))
  case first =>
    have ksl : ks.length ≤ 1000 := HKS.out
    have e0 : ∀ (wv : World) , KRow (wv.alloc (.cells #[] 110)) wv.heap.size (.slice (some ⟨wv.heap.size, 0, none⟩) 0 0) [] := fun wv => OwnK.empty wv
    -- 0 3 7
    have kE := ((Keep.refl [] w9).alloc (.cells #[] 110)).drew
    have eE := (e0 w9).keep (Keep.refl [] (w9.alloc (.cells #[] 110))).drew (by simp)
    obtain ⟨vC, wC, rC, oC, kC⟩ := run_append_kepts (w := (w9.alloc (.cells #[] 110)).drew) w9.heap.size (ty := 94) eE (HKR9.out.keep kE (by simp)) (by simp; omega) (by show _ ≤ (w9.alloc _).heap.size; rw [World.size_alloc]; omega)
    have kC9 : Keep [] w9 wC := kE.trans' kC (fun b hb => by simp [Value.ownBlock] at hb; subst hb; exact .inr (Nat.le_refl _))
    have kC1 := (Keep.refl [] wC).alloc (.cells #[.int .i64 (q : Int), .int .i64 (a : Int), .int .i64 (bs.length : Int), .string ⟨bs.toArray⟩] 110)
    have nC := heap_alloc_new wC (.cells #[.int .i64 (q : Int), .int .i64 (a : Int), .int .i64 (bs.length : Int), .string ⟨bs.toArray⟩] 110)
    obtain ⟨vC2, wC2, rC2, oC2, kC2⟩ := run_append_kept (w := wC.alloc (.cells #[.int .i64 (q : Int), .int .i64 (a : Int), .int .i64 (bs.length : Int), .string ⟨bs.toArray⟩] 110)) w9.heap.size (ty := 94) (oC.keep kC1 (by simp)) wC.heap.size ⟨q, a, bs⟩ nC (by simp; omega) (Nat.le_trans kC9.size kC1.size)
    have kCZ : Keep [] w9 wC2 := (kC9.trans kC1).trans' kC2 (fun b hb => .inr (oC.lt b (by simpa using hb)).1)
    -- 0 7 3
    have kE2 := (((Keep.refl [] w9).alloc (.cells #[] 110)).alloc (.cells #[.int .i64 (q : Int), .int .i64 (a : Int), .int .i64 (bs.length : Int), .string ⟨bs.toArray⟩] 110)).drew
    have eE2 := (e0 w9).keep ((Keep.refl [] (w9.alloc (.cells #[] 110))).alloc (.cells #[.int .i64 (q : Int), .int .i64 (a : Int), .int .i64 (bs.length : Int), .string ⟨bs.toArray⟩] 110)).drew (by simp)
    have nB0 : ((w9.alloc (.cells #[] 110)).alloc (.cells #[.int .i64 (q : Int), .int .i64 (a : Int), .int .i64 (bs.length : Int), .string ⟨bs.toArray⟩] 110)).drew.heap[w9.heap.size + 1]? = some (.cells #[.int .i64 (q : Int), .int .i64 (a : Int), .int .i64 (bs.length : Int), .string ⟨bs.toArray⟩] 110) := by have h := heap_alloc_new (w9.alloc (.cells #[] 110)) (.cells #[.int .i64 (q : Int), .int .i64 (a : Int), .int .i64 (bs.length : Int), .string ⟨bs.toArray⟩] 110); rw [World.size_alloc] at h; exact h
    obtain ⟨vB, wB, rB, oB, kB⟩ := run_append_kepts (w := ((w9.alloc (.cells #[] 110)).alloc (.cells #[.int .i64 (q : Int), .int .i64 (a : Int), .int .i64 (bs.length : Int), .string ⟨bs.toArray⟩] 110)).drew) w9.heap.size (ty := 94) eE2 (HKR9.out.keep kE2 (by simp)) (by simp; omega) (by show _ ≤ ((w9.alloc _).alloc _).heap.size; rw [World.size_alloc, World.size_alloc]; omega)
    have kB9 : Keep [] w9 wB := kE2.trans' kB (fun b hb => by simp [Value.ownBlock] at hb; subst hb; exact .inr (Nat.le_refl _))
    have nB := kB.blk (by simp [Value.ownBlock]) nB0
    obtain ⟨vB2, wB2, rB2, oB2, kB2⟩ := run_append_kept (w := wB) w9.heap.size (ty := 94) oB (w9.heap.size + 1) ⟨q, a, bs⟩ nB (by simp; omega) kB9.size
    have kBZ : Keep [] w9 wB2 := kB9.trans' kB2 (fun b hb => .inr (oB.lt b (by simpa using hb)).1)
    -- 7 0 3
    have kE3 := (((Keep.refl [] w9).alloc (.cells #[.int .i64 (q : Int), .int .i64 (a : Int), .int .i64 (bs.length : Int), .string ⟨bs.toArray⟩] 110)).alloc (.cells #[] 110)).drew
    have eE3 : KRow ((w9.alloc (.cells #[.int .i64 (q : Int), .int .i64 (a : Int), .int .i64 (bs.length : Int), .string ⟨bs.toArray⟩] 110)).alloc (.cells #[] 110)).drew w9.heap.size (.slice (some ⟨w9.heap.size + 1, 0, none⟩) 0 0) [] := by
      have h := (e0 (w9.alloc (.cells #[.int .i64 (q : Int), .int .i64 (a : Int), .int .i64 (bs.length : Int), .string ⟨bs.toArray⟩] 110))).keep (Keep.refl [] ((w9.alloc (.cells #[.int .i64 (q : Int), .int .i64 (a : Int), .int .i64 (bs.length : Int), .string ⟨bs.toArray⟩] 110)).alloc (.cells #[] 110))).drew (by simp)
      rw [World.size_alloc] at h
      exact h.base (by omega)
    have nA0 : ((w9.alloc (.cells #[.int .i64 (q : Int), .int .i64 (a : Int), .int .i64 (bs.length : Int), .string ⟨bs.toArray⟩] 110)).alloc (.cells #[] 110)).drew.heap[w9.heap.size]? = some (.cells #[.int .i64 (q : Int), .int .i64 (a : Int), .int .i64 (bs.length : Int), .string ⟨bs.toArray⟩] 110) := ((Keep.refl [] (w9.alloc (.cells #[.int .i64 (q : Int), .int .i64 (a : Int), .int .i64 (bs.length : Int), .string ⟨bs.toArray⟩] 110))).alloc (.cells #[] 110)).blk (by simp) (heap_alloc_new w9 (.cells #[.int .i64 (q : Int), .int .i64 (a : Int), .int .i64 (bs.length : Int), .string ⟨bs.toArray⟩] 110))
    obtain ⟨vA, wA, rA, oA, kA⟩ := run_append_kepts (w := ((w9.alloc (.cells #[.int .i64 (q : Int), .int .i64 (a : Int), .int .i64 (bs.length : Int), .string ⟨bs.toArray⟩] 110)).alloc (.cells #[] 110)).drew) w9.heap.size (ty := 94) eE3 (HKR9.out.keep kE3 (by simp)) (by simp; omega) (by show _ ≤ ((w9.alloc _).alloc _).heap.size; rw [World.size_alloc, World.size_alloc]; omega)
    have kA9 : Keep [] w9 wA := kE3.trans' kA (fun b hb => by simp [Value.ownBlock] at hb; subst hb; exact .inr (by omega))
    have nA := kA.blk (by simp [Value.ownBlock]) nA0
    obtain ⟨vA2, wA2, rA2, oA2, kA2⟩ := run_append_kept (w := wA) w9.heap.size (ty := 94) oA w9.heap.size ⟨q, a, bs⟩ nA (by simp; omega) kA9.size
    have kAZ : Keep [] w9 wA2 := kA9.trans' kA2 (fun b hb => .inr (oA.lt b (by simpa using hb)).1)
    obtain ⟨pa, pc, rfl⟩ := oA2.form
    obtain ⟨qa, qc, rfl⟩ := oB2.form
    obtain ⟨ra, rc, rfl⟩ := oC2.form
    rw [hs9] at rA rA2 rB rB2 rC oA2 oB2 oC2
    simp only [kenc, List.length_append, List.length_cons, List.length_nil, Nat.zero_add, HKN.out] at rA rA2 rB rB2 rC rC2 oA2 oB2 oC2
    have l0 := cell_of_row _ _ 0 _ _ _ HL9.out
    have lA0 := cell_of_row _ _ 0 _ _ _ (kA9.blk (by simp) HL9.out)
    have lB0 := cell_of_row _ _ 0 _ _ _ (kB9.blk (by simp) HL9.out)
    have lC0 := cell_of_row _ _ 0 _ _ _ (kC9.blk (by simp) HL9.out)
    have l1 := cell_of_row _ _ 1 _ _ _ HL9.out
    have lA1 := cell_of_row _ _ 1 _ _ _ (kA9.blk (by simp) HL9.out)
    have lB1 := cell_of_row _ _ 1 _ _ _ (kB9.blk (by simp) HL9.out)
    have lC1 := cell_of_row _ _ 1 _ _ _ (kC9.blk (by simp) HL9.out)
    have l2 := cell_of_row _ _ 2 _ _ _ HL9.out
    have lA2 := cell_of_row _ _ 2 _ _ _ (kA9.blk (by simp) HL9.out)
    have lB2 := cell_of_row _ _ 2 _ _ _ (kB9.blk (by simp) HL9.out)
    have lC2 := cell_of_row _ _ 2 _ _ _ (kC9.blk (by simp) HL9.out)
    have k5 := cell_of_row _ _ 5 _ _ _ HA9.out
    have cA := cell_of_row _ _ 5 _ _ _ (kAZ.blk (by simp) HA9.out)
    have fA := frozen_of_row wA2 s 5 _ _ (kAZ.blk (by simp) HA9.out)
    have cB := cell_of_row _ _ 5 _ _ _ (kBZ.blk (by simp) HA9.out)
    have fB := frozen_of_row wB2 s 5 _ _ (kBZ.blk (by simp) HA9.out)
    have cC := cell_of_row _ _ 5 _ _ _ (kCZ.blk (by simp) HA9.out)
    have fC := frozen_of_row wC2 s 5 _ _ (kCZ.blk (by simp) HA9.out)
    simp at l0 lA0 lB0 lC0 l1 lA1 lB1 lC1 l2 lA2 lB2 lC2 k5 cA cB cC
    have OA := Lib.hid (And.intro oA2 kAZ)
    have OB := Lib.hid (And.intro oB2 kBZ)
    have OC := Lib.hid (And.intro oC2 kCZ)
    clear e0 kE eE oC kC kC9 kC1 nC oC2 kC2 kCZ kE2 eE2 nB0 oB kB kB9 nB oB2 kB2 kBZ kE3 eE3 nA0 oA kA kA9 nA oA2 kA2 kAZ ksl hbs hb
    have fin : ∀ (wz : World) (pa : Option Addr) (n pc : Nat), Keep [] w9 wz → KRow wz (s + 4) (.slice pa n pc) (ks ++ [⟨q, a, bs⟩]) → ∃ (ka' : Option Addr) (kn' kc' : Nat), Hid ((wz.setCell ⟨s, 5, none⟩ (.slice pa n pc)).heap[s]? = some (.cells #[.int .i64 (R : Int), .int .i64 (room : Int), .int .i64 (long : Int), .int .i64 (q : Int), .int .i64 (nn : Int), .slice ka' kn' kc'] 96 (0, 0))) ∧ Hid (KRow (wz.setCell ⟨s, 5, none⟩ (.slice pa n pc)) (s + 4) (.slice ka' kn' kc') (ks ++ [⟨q, a, bs⟩])) ∧ Hid ((wz.setCell ⟨s, 5, none⟩ (.slice pa n pc)).heap[s + 1]? = some (.cells #[.int .i64 0, .int .i64 0, .int .i64 0, .int .i64 0, .int .i64 0, .slice none 0 0] 96 (0, 0))) ∧ Hid ((wz.setCell ⟨s, 5, none⟩ (.slice pa n pc)).heap[s + 2]? = some (.cells #[.int .i64 0, .int .i64 0, .int .i64 0] 106 (0, 0))) ∧ Hid ((wz.setCell ⟨s, 5, none⟩ (.slice pa n pc)).heap[s + 3]? = some (.cells #[.int .i64 (q : Int), .int .i64 (a : Int), .int .i64 (bs.length : Int)] 106 (0, 0))) ∧ Hid (Keep [] w (wz.setCell ⟨s, 5, none⟩ (.slice pa n pc))) := by
      intro wz pa n pc hk hr
      have kz := (Keep.refl [s] wz).setCell (p := ⟨s, 5, none⟩) (.inl (by simp)) (.slice pa n pc)
      have hA := heap_setCell_same wz s 5 _ _ (.slice pa n pc) (hk.blk (by simp) HA9.out)
      simp only [List.setIfInBounds_toArray, List.set_cons_zero, List.set_cons_succ] at hA
      refine ⟨pa, n, pc, hA, hr.keep kz (fun b hb hm => ?_), kz.blk (by simp) (hk.blk (by simp) H19.out), kz.blk (by simp) (hk.blk (by simp) H29.out), kz.blk (by simp) (hk.blk (by simp) HL9.out), (HK9.out.trans hk).setCell (.inr (by rw [HW0.out]; exact Nat.le_refl _)) _⟩
      have := (hr.lt b hb).1
      have hbs : b = s := by simpa using hm
      omega
    have FIN := Lib.hid fin
    clear fin
    have RA := Lib.hid rA
    have RA2 := Lib.hid rA2
    have RB := Lib.hid rB
    have RB2 := Lib.hid rB2
    have RC := Lib.hid rC
    have RC2 := Lib.hid rC2
    clear rA rA2 rB rB2 rC rC2
    go_region_law (first
      | ((with_reducible refine step_append_run ?_ (.tmp 46) (.tmp 48) 94 ?_ RA.out ?_ ?_ ?_); (first | rfl | skip); (first | rfl | skip); (first | rfl | skip); (first | rfl | skip))
      | ((with_reducible refine step_append_run ?_ (.tmp 46) (.tmp 48) 94 ?_ RB.out ?_ ?_ ?_); (first | rfl | skip); (first | rfl | skip); (first | rfl | skip); (first | rfl | skip))
      | ((with_reducible refine step_append_run ?_ (.tmp 46) (.tmp 48) 94 ?_ RC.out ?_ ?_ ?_); (first | rfl | skip); (first | rfl | skip); (first | rfl | skip); (first | rfl | skip))
      | ((with_reducible refine step_append_run ?_ (.tmp 49) (.tmp 53) 94 ?_ RA2.out ?_ ?_ ?_); (first | rfl | skip); (first | rfl | skip); (first | rfl | skip); (first | rfl | skip))
      | ((with_reducible refine step_append_run ?_ (.tmp 49) (.tmp 53) 94 ?_ RB2.out ?_ ?_ ?_); (first | rfl | skip); (first | rfl | skip); (first | rfl | skip); (first | rfl | skip))
      | ((with_reducible refine step_append_run ?_ (.tmp 49) (.tmp 53) 94 ?_ RC2.out ?_ ?_ ?_); (first | rfl | skip); (first | rfl | skip); (first | rfl | skip); (first | rfl | skip)))
    all_goals
      go_wp2_with fail
      go_meet
      case rel => first | exact FIN.out _ _ _ _ OA.out.2 OA.out.1 | exact FIN.out _ _ _ _ OB.out.2 OB.out.1 | exact FIN.out _ _ _ _ OC.out.2 OC.out.1
  case rest =>
  obtain ⟨ka', kn', kc', hA, hR, h1, h2, h3, hK⟩ := hcut
  clear HA9 HL9 H19 H29 HK9 HKR9 HS9 hs9 HKR HKS
  go_wp2_with fail
  refine wp_region_his [s + 1, s + 2] [2, 3] (fun _ => 0) (by kernel_rfl) (by kernel_rfl) ?_
  intro w2 hk2 hh
  clear hh
  have x0 := fun w' (h' : Keep [s + 1, s + 2] w2 w') => cell_of_row w' _ 0 _ _ _ (h'.blk (by simp) (hk2.blk (by simp) hA.out))
  have x1 := fun w' (h' : Keep [s + 1, s + 2] w2 w') => cell_of_row w' _ 1 _ _ _ (h'.blk (by simp) (hk2.blk (by simp) hA.out))
  have x2 := fun w' (h' : Keep [s + 1, s + 2] w2 w') => cell_of_row w' _ 2 _ _ _ (h'.blk (by simp) (hk2.blk (by simp) hA.out))
  have x3 := fun w' (h' : Keep [s + 1, s + 2] w2 w') => cell_of_row w' _ 3 _ _ _ (h'.blk (by simp) (hk2.blk (by simp) hA.out))
  have x4 := fun w' (h' : Keep [s + 1, s + 2] w2 w') => cell_of_row w' _ 4 _ _ _ (h'.blk (by simp) (hk2.blk (by simp) hA.out))
  have x5 := fun w' (h' : Keep [s + 1, s + 2] w2 w') => cell_of_row w' _ 5 _ _ _ (h'.blk (by simp) (hk2.blk (by simp) hA.out))
  have y0 := fun w' (h' : Keep [s + 1, s + 2] w2 w') => cell_of_row w' _ 0 _ _ _ (h'.blk (by simp) (hk2.blk (by simp) h3.out))
  have y1 := fun w' (h' : Keep [s + 1, s + 2] w2 w') => cell_of_row w' _ 1 _ _ _ (h'.blk (by simp) (hk2.blk (by simp) h3.out))
  have y2 := fun w' (h' : Keep [s + 1, s + 2] w2 w') => cell_of_row w' _ 2 _ _ _ (h'.blk (by simp) (hk2.blk (by simp) h3.out))
  simp at x0 x1 x2 x3 x4 x5 y0 y1 y2
  have HA := Lib.hid (hk2.blk (by simp) h1.out)
  have HB := Lib.hid (hk2.blk (by simp) h2.out)
  have HK2 := Lib.hid (hK.out.trans hk2)
  have HR2 := Lib.hid (hR.out.keep hk2 (by simp))
  clear hk2 hA hR h1 h2 h3 hK
  (repeat (first | (refine his_q rfl rfl (fun K hK => ?_); apply Exists.intro; refine ⟨fun w' hC => ?_, ?_⟩; ((try simp [Sg.upd] at hC); go_simp <;> rfl); go_simp; refine hK _ _ ?_; clear hK K) | (refine his_s rfl (fun K hK => ?_); go_simp; refine hK _ _ ?_; clear hK K)))
  refine his_l rfl rfl (fun K hK => ?_)
  refine loudly_store_row 96 (.tmp 4) (.tmp 56) rfl (s + 1) #[.int .i64 (R : Int), .int .i64 (room : Int), .int .i64 (long : Int), .int .i64 (q : Int), .int .i64 (nn : Int), .slice ka' kn' kc'] rfl rfl 96 _ HA.out (by kernel_rfl) (by rfl) (by kernel_rfl) ?_
  refine hK _ _ ((Keep.refl _ _).setRow (.inl (by simp)) _) ?_
  clear hK K
  refine his_l rfl rfl (fun K hK => ?_)
  refine loudly_store_row 106 (.tmp 5) (.tmp 57) rfl (s + 2) #[.int .i64 (q : Int), .int .i64 (a : Int), .int .i64 (bs.length : Int)] rfl rfl 106 _ ((setRow_other _ _ _ _ (by omega)).trans HB.out) (by kernel_rfl) (by rfl) (by kernel_rfl) ?_
  refine hK _ _ ((Keep.refl _ _).setRow (.inl (by simp)) _) ?_
  clear hK K
  (repeat (first | (refine his_q rfl rfl (fun K hK => ?_); apply Exists.intro; refine ⟨fun w' hC => ?_, ?_⟩; ((try simp [Sg.upd] at hC); go_simp <;> rfl); go_simp; refine hK _ _ ?_; clear hK K) | (refine his_s rfl (fun K hK => ?_); go_simp; refine hK _ _ ?_; clear hK K)))
  refine his_nil ?_
  have g1 := (setRow_other (w2.setRow (s + 1) #[.int .i64 (R : Int), .int .i64 (room : Int), .int .i64 (long : Int), .int .i64 (q : Int), .int .i64 (nn : Int), .slice ka' kn' kc']) (s + 2) (s + 1) #[.int .i64 (q : Int), .int .i64 (a : Int), .int .i64 (bs.length : Int)] (by omega)).trans (setRow_heap _ _ _ #[.int .i64 (R : Int), .int .i64 (room : Int), .int .i64 (long : Int), .int .i64 (q : Int), .int .i64 (nn : Int), .slice ka' kn' kc'] _ _ HA.out)
  have g2 := setRow_heap (w2.setRow (s + 1) #[.int .i64 (R : Int), .int .i64 (room : Int), .int .i64 (long : Int), .int .i64 (q : Int), .int .i64 (nn : Int), .slice ka' kn' kc']) (s + 2) _ #[.int .i64 (q : Int), .int .i64 (a : Int), .int .i64 (bs.length : Int)] _ _ ((setRow_other _ _ _ _ (by omega)).trans HB.out)
  have gk : Keep [s + 1, s + 2] w2 ((w2.setRow (s + 1) #[.int .i64 (R : Int), .int .i64 (room : Int), .int .i64 (long : Int), .int .i64 (q : Int), .int .i64 (nn : Int), .slice ka' kn' kc']).setRow (s + 2) #[.int .i64 (q : Int), .int .i64 (a : Int), .int .i64 (bs.length : Int)]) := ((Keep.refl _ _).setRow (.inl (by simp)) _).setRow (.inl (by simp)) _
  have gr := HR2.out.keep gk (fun b hb hm => by
    have := (HR2.out.lt b hb).1
    simp at hm
    omega)
  have gK : Keep [] w ((w2.setRow (s + 1) #[.int .i64 (R : Int), .int .i64 (room : Int), .int .i64 (long : Int), .int .i64 (q : Int), .int .i64 (nn : Int), .slice ka' kn' kc']).setRow (s + 2) #[.int .i64 (q : Int), .int .i64 (a : Int), .int .i64 (bs.length : Int)]) := HK2.out.trans' gk (fun b hb => by simp at hb; rw [HW0.out]; exact .inr (by omega))
  have G1 := Lib.hid g1
  have G2 := Lib.hid g2
  have GR := Lib.hid (And.intro (gr.base (base' := s) (by omega)) gK)
  clear g1 g2 gr gK gk x0 x1 x2 x3 x4 x5 y0 y1 y2 HA HB HK2 HR2
  go_wp2
  exact bodyPost_ret (results_rows2 rfl _ _ (s + 1) (s + 2) 96 106 _ _ _ _ _ _ rfl G1.out Try.underlying96 rfl (by kernel_rfl) rfl G2.out Try.underlying106 rfl (by kernel_rfl)) rfl ⟨_, rfl, by rw [HW0.out]; exact GR.out.1, GR.out.2⟩
end Go.Proofs.Ytjkjiabfhhnngaa

/-! A log of the call's own: a sync of its device, a log that is opened anew. -/
namespace Go.Proofs.Ytjkjiabfhhnngaa
open Go.RowKit Sg
set_option linter.unusedSimpArgs false
set_option linter.unusedVariables false

theorem lastOf_cons (p : Nat × List UInt8) (t : List (Nat × List UInt8)) (j : Nat) : lastOf (p :: t) j = (lastOf t j).or (if p.1 = j then some p.2 else none) := by
  unfold lastOf
  rw [List.reverse_cons, List.find?_append]
  cases h : t.reverse.find? (fun p => p.1 == j) with
  | some x => rfl
  | none =>
    by_cases e : p.1 = j
    · simp [e]
    · have : (p.1 == j) = false := beq_false_of_ne e
      simp [e, this]
theorem foldl_set_get : ∀ (ls : List (Nat × List UInt8)) (f : List (List UInt8)) (j : Nat), (∀ p ∈ ls, p.1 < f.length) → (ls.foldl (fun f p => f.set p.1 p.2) f).getD j [] = (lastOf ls j).getD (f.getD j [])
  | [], f, j, _ => rfl
  | p :: t, f, j, h => by
    rw [List.foldl_cons, foldl_set_get t _ j (fun q hq => by rw [List.length_set]; exact h q (by simp [hq])), lastOf_cons]
    cases lastOf t j with
    | some x => rfl
    | none =>
      show (f.set p.1 p.2).getD j [] = _
      have hp := h p (by simp)
      rw [List.getD_eq_getElem?_getD, List.getElem?_set]
      by_cases e : p.1 = j
      · rw [if_pos e, if_pos e, if_pos (by omega)]; rfl
      · rw [if_neg e, if_neg e, List.getD_eq_getElem?_getD]; rfl
theorem Dev.get_sync {m : Dev} (hw : m.Wf) (j : Nat) : m.synced.get j = m.get j := by
  show ((lastOf [] j).getD ((m.loose.foldl (fun f p => f.set p.1 p.2) m.fast).getD j [])) = _
  show (m.loose.foldl (fun f p => f.set p.1 p.2) m.fast).getD j [] = _
  rw [foldl_set_get _ _ _ (fun p hp => by rw [hw.fl]; exact (hw.ls p hp).1)]
  rfl
theorem sync_up {m : Dev} (hd : m.down = false) (ha : m.armed = 0) : m.sync = (m.synced, 0) ∧ m.synced.down = false ∧ m.synced.armed = 0 ∧ m.synced.acts = m.acts + 1 := by
  simp [Dev.sync, Dev.synced, Dev.act, hd, ha]
section
variable {W w w' : World} {X : List Nat} {gl g : Nat} {c : Lc} {l l' : Lg} {m m' : Dev} {F F' : Nat → List (List UInt8)}
theorem RgCore.sync {last : Nat} (h : RgCore c last m F) : RgCore c last m.synced F :=
  { ok := ⟨h.ok.1, h.ok.2, h.ok.3, h.ok.4, h.ok.5, h.ok.6, h.ok.7, h.ok.8⟩, wf := h.wf.synced, up := (sync_up h.up h.un).2.1, un := (sync_up h.up h.un).2.2.1, lastb := h.lastb, fl := h.fl, fb := h.fb, beyond := h.beyond, zero := h.zero
    there := fun q i hi hq => by rw [Dev.get_sync h.wf]; exact h.there q i hi hq
    other := fun n hn => by rw [Dev.get_sync h.wf]; exact h.other n hn }
/-- a sync of the log's device -/
theorem sync_ok (w : World) (h : LogAt W X w gl g c l m F) (hacts : m.acts ≤ 1000000000) :
    Calls Try.prog 19 #[.pointer (some ⟨g, 0, none⟩)] w fun e w' => e = .returned (.int .i64 0) ∧ LogAt W X w' gl g c l m.synced F ∧ Rest X w w' := by
  obtain ⟨D, E, ⟨pv, r1⟩, r2⟩ := h.mem
  obtain ⟨s1, s2, s3, s4⟩ := sync_up h.inv.core.up h.inv.core.un
  refine (sync_any w D g m r1.dv hacts).mono ?_
  rw [s1]
  rintro e w' ⟨rfl, D', hD, hG, hk⟩
  have hd : ∀ b ∈ D, b ∉ X := fun b hb => (r2 b (.inr hb)).2
  refine ⟨rfl, ⟨h.k.trans' hk (fun b hb => .inr (r2 b (.inr hb)).1), { core := h.inv.core.sync, pos := h.inv.pos, atl := h.inv.atl }, ⟨D', E, ⟨pv, { dv := hD, row := r1.row.keep hk (fun hm => r1.apart _ r1.gl hm), own := r1.own.keep hk (fun b hb hm => r1.apart _ (r1.inE b hb) hm), inE := r1.inE, gl := r1.gl, apart := fun b hb hm => ?_, lt := fun b hb => Nat.lt_of_lt_of_le (r1.lt b hb) hk.size, ok := h.inv.core.sync.ok }⟩, fun b hb => ?_⟩, fun b hb => Nat.lt_of_lt_of_le (h.lt b hb) hk.size⟩, hk.size, fun b hb => hk.block b (h.lt b hb) (fun hm => hd b hm hb)⟩
  · rcases hG.2 b hm with h1 | h1
    · exact r1.apart b hb h1
    · have := r1.lt b hb; omega
  · rcases hb with hb | hb
    · exact r2 b (.inl hb)
    · rcases hG.2 b hb with h1 | h1
      · exact r2 b (.inr h1)
      · exact ⟨Nat.le_trans h.k.size h1, fun hm => by have := h.lt b hm; omega⟩
/-- a log that is opened anew, behind a flush -/
theorem open_ok {p : Pl} (w : World) (h : LogAt W X w gl g (lcOf p) l m F) (hp : p.On m) (hacts : m.acts ≤ 1000000000) (hl : l.last ≤ 1000000000) :
    Calls Try.prog 59 #[.pointer (some ⟨g, 0, none⟩), p.v, .int .i64 (l.last : Int)] w fun e w' => ∃ gl', e = .returned (.tuple #[.pointer (some ⟨gl', 0, none⟩), .int .i64 0]) ∧ LogAt W X w' gl' g (lcOf p) ⟨l.last, (lcOf p).S * (lcOf p).rm, []⟩ m F ∧ Keep [] w w' := by
  obtain ⟨D, E, ⟨pv, r1⟩, r2⟩ := h.mem
  have hs := scan_law h.inv.core ((lcOf p).R * (lcOf p).S) 0 l.last (by omega) (Nat.le_refl _)
  refine (open_any w D g m r1.dv hacts p (l.last : Int)).mono ?_
  rintro e w' ⟨hk, (⟨hy, gl', rfl, hgl, hrv⟩ | ⟨code, rfl, hno⟩)⟩
  · have he : lgOpen p m (l.last : Int) = ⟨l.last, (lcOf p).S * (lcOf p).rm, []⟩ := by
      unfold lgOpen
      rw [Int.toNat_natCast, hs]
      rfl
    rw [he] at hrv
    refine ⟨gl', rfl, ⟨h.k.trans hk, { core := h.inv.core, pos := .inr ⟨rfl, rfl⟩, atl := Nat.le_refl _ }, ⟨D, [gl'], hrv, fun b hb => ?_⟩, fun b hb => Nat.lt_of_lt_of_le (h.lt b hb) hk.size⟩, hk⟩
    rcases hb with hb | hb
    · rw [List.mem_singleton.1 hb]
      exact ⟨Nat.le_trans h.k.size hgl, fun hm => by have := h.lt _ hm; omega⟩
    · exact r2 b (.inr hb)
  · exfalso
    rcases hno with ⟨h1, -⟩ | ⟨-, h1, -⟩ | ⟨-, -, h1, h2⟩
    · exact h1 hp
    · omega
    · rw [Int.toNat_natCast, hs] at h2
      exact h1 h2
end
end Go.Proofs.Ytjkjiabfhhnngaa

/-! A log of the call's own beside the document's: what was appended is read back. -/
namespace Go.Proofs.Ytjkjiabfhhnngaa
open Go.RowKit Sg
attribute [local go_sem] Oper.semAt_some
set_option linter.unusedSimpArgs false
set_option linter.unusedVariables false

theorem Lc.begin_n (c : Lc) (l : Lg) (m : Dev) : (c.begin_ l m).2.1.n = m.n ∧ (c.begin_ l m).2.1.sz = m.sz := by
  have h := c.flush_facts l m
  unfold Lc.begin_
  split
  · exact ⟨h.2.2.1, h.2.2.2.1⟩
  · exact ⟨h.2.2.1, h.2.2.2.1⟩
theorem Lc.app_n (c : Lc) : ∀ (f : Nat) (l : Lg) (m : Dev) (b : List UInt8), (c.app f l m b).2.1.n = m.n ∧ (c.app f l m b).2.1.sz = m.sz
  | 0, l, m, b => ⟨rfl, rfl⟩
  | f + 1, l, m, b => by
    have h := wr_facts c (c.more l b) m
    unfold Lc.app
    split
    · exact ⟨rfl, rfl⟩
    · split
      · exact ⟨rfl, rfl⟩
      · split
        · exact ⟨h.2.2.1, h.2.2.2⟩
        · obtain ⟨h1, h2⟩ := Lc.app_n c f (c.wr (c.more l b) m).1 (c.wr (c.more l b) m).2.1 (b.drop (min b.length (c.rm - l.pend.length)))
          exact ⟨h1.trans h.2.2.1, h2.trans h.2.2.2⟩
theorem Lc.tail_n (c : Lc) (r : Lg × Dev × Int) (b : List UInt8) : (c.tail r b).2.1.n = r.2.1.n ∧ (c.tail r b).2.1.sz = r.2.1.sz := by
  unfold Lc.tail
  split
  · exact ⟨rfl, rfl⟩
  · split
    · exact c.app_n _ _ _ _
    · exact c.app_n _ _ _ _
theorem Lc.append_n (c : Lc) (l : Lg) (m : Dev) (b : List UInt8) : (c.append l m b).2.1.n = m.n ∧ (c.append l m b).2.1.sz = m.sz := by
  unfold Lc.append
  split
  · exact ⟨rfl, rfl⟩
  · split
    · exact ⟨rfl, rfl⟩
    · have h : (c.first l m b.length).2.1.n = m.n ∧ (c.first l m b.length).2.1.sz = m.sz := by
        unfold Lc.first
        split
        · exact c.begin_n l m
        · exact ⟨rfl, rfl⟩
      obtain ⟨h1, h2⟩ := c.tail_n (c.first l m b.length) b
      exact ⟨h1.trans h.1, h2.trans h.2⟩
section
variable {W w w' : World} {X : List Nat} {gl g : Nat} {c : Lc} {l l' : Lg} {m m' : Dev} {F F' : Nat → List (List UInt8)}
theorem append_ok2 (w : World) (h : LogAt W X w gl g c l m F) (hl : l.last < 4398046511104) (hacts : m.acts ≤ 500000000) (v : Value) (b : List UInt8) (hv : Bytes w v b) (hX : ∀ x, v.ownBlock = some x → x ∈ X) (hb0 : 1 ≤ b.length) (hb : b.length ≤ c.S * c.rm) :
    Calls Try.prog 55 #[.pointer (some ⟨gl, 0, none⟩), v] w fun e w' => ∃ (l' : Lg) (m' : Dev) (F' : Nat → List (List UInt8)) (a : Nat), e = .returned (.tuple #[.agg #[.int .i64 (l'.last : Int), .int .i64 (a : Int), .int .i64 (b.length : Int)], .int .i64 0]) ∧
      AppStep c l m F b l' m' F' a ∧ (m'.n = m.n ∧ m'.sz = m.sz) ∧ LogAt W X w' gl g c l' m' F' ∧ Rest X w w' := by
  obtain ⟨D, E, r1, r2⟩ := h.mem
  obtain ⟨l', m', F', a, e1, i1, i2, i3, i4, i5, i6, i7, i8, i9, i10⟩ := append_law h.inv hl b hb0 hb
  have hn := c.append_n l m b
  refine (appendL_any w D E gl g c l m r1 h.inv.fit hl hacts v b hv (fun _ x hx hm => (r2 x (List.mem_append.1 hm)).2 (hX x hx))).mono ?_
  rintro e w' ⟨rfl, hs⟩
  rw [e1] at hs hn ⊢
  exact ⟨l', m', F', a, rfl, ⟨i2, i3, i4, i5, i6, i7, i8, i9, i10⟩, hn, h.step r1 r2 hs i1⟩
theorem flush_ok2 (w : World) (h : LogAt W X w gl g c l m F) (hacts : m.acts ≤ 1000000000) :
    Calls Try.prog 51 #[.pointer (some ⟨gl, 0, none⟩)] w fun e w' => ∃ (l' : Lg) (m' : Dev) (F' : Nat → List (List UInt8)) (z : Nat), e = .returned (.int .i64 0) ∧ FlStep c l m F l' m' F' z ∧ (m'.n = m.n ∧ m'.sz = m.sz) ∧ LogAt W X w' gl g c l' m' F' ∧ Rest X w w' := by
  obtain ⟨D, E, r1, r2⟩ := h.mem
  obtain ⟨l', m', F', z, e1, i1, i2, i3, i4, i5, i6, i7, i8, i9, i10⟩ := flush_law h.inv
  have hn := c.flush_facts l m
  refine (flushL_any w D E gl g c l m r1 h.inv.fit hacts).mono ?_
  rintro e w' ⟨rfl, hs⟩
  rw [e1] at hs hn ⊢
  exact ⟨l', m', F', z, rfl, ⟨i2, i3, i4, i5, i6, i7, i8, i9, i10⟩, ⟨hn.2.2.1, hn.2.2.2.1⟩, h.step r1 r2 hs i1⟩
end

/-- what was appended stands in the log -/
structure GoodK (l : Lg) (F : Nat → List (List UInt8)) (k : Kp) : Prop where
  q1 : 1 ≤ k.q
  q2 : k.q ≤ l.last
  b1 : 1 ≤ k.bs.length
  b2 : k.bs.length ≤ 1000
  len : k.a + k.bs.length ≤ (cont F l k.q).length
  at_ : ((cont F l k.q).drop k.a).take k.bs.length = k.bs
theorem GoodK.grow {l l' : Lg} {F F' : Nat → List (List UInt8)} {k : Kp} (h : GoodK l F k) (hl : l.last ≤ l'.last) (hp : cont F l k.q <+: cont F' l' k.q) : GoodK l' F' k := by
  obtain ⟨t, ht⟩ := hp
  refine ⟨h.q1, Nat.le_trans h.q2 hl, h.b1, h.b2, ?_, ?_⟩
  · rw [← ht, List.length_append]; have := h.len; omega
  · have hlen := h.len
    rw [← ht, List.drop_append_of_le_length (by omega), List.take_append_of_le_length (by rw [List.length_drop]; omega)]
    exact h.at_
theorem GoodK.app {c : Lc} {l l' : Lg} {m m' : Dev} {F F' : Nat → List (List UInt8)} {b : List UInt8} {a : Nat} {k : Kp} (h : GoodK l F k) (st : AppStep c l m F b l' m' F' a) : GoodK l' F' k :=
  h.grow (by have := st.way; omega) (st.grow _ h.q2)
theorem GoodK.new {c : Lc} {l l' : Lg} {m m' : Dev} {F F' : Nat → List (List UInt8)} {b : List UInt8} {a : Nat} (st : AppStep c l m F b l' m' F' a) (h1 : 1 ≤ b.length) (h2 : b.length ≤ 1000) : GoodK l' F' ⟨l'.last, a, b⟩ := by
  refine ⟨?_, Nat.le_refl _, h1, h2, by rw [st.len]; exact Nat.le_refl _, ?_⟩
  · show 1 ≤ l'.last
    have := st.way; omega
  · show ((cont F' l' l'.last).drop a).take b.length = b
    rw [st.tail, List.take_length]
theorem GoodK.flush {c : Lc} {l l' : Lg} {m m' : Dev} {F F' : Nat → List (List UInt8)} {z : Nat} {k : Kp} (h : GoodK l F k) (st : FlStep c l m F l' m' F' z) : GoodK l' F' k := by
  refine h.grow (Nat.le_of_eq st.last.symm) ?_
  by_cases e : k.q = l.last
  · rw [e, st.cnt]; exact List.prefix_append _ _
  · have e1 : cont F' l' k.q = cont F l k.q := by
      unfold cont
      rw [st.same _ e, if_neg e, if_neg (by rw [st.last]; exact e)]
    rw [e1]; exact ⟨[], List.append_nil _⟩
theorem GoodK.open_ {l : Lg} {F : Nat → List (List UInt8)} {k : Kp} (h : GoodK l F k) (hp : l.pend = []) (n : Nat) : GoodK ⟨l.last, n, []⟩ F k := by
  refine h.grow (Nat.le_refl _) ?_
  have e1 : cont F ⟨l.last, n, []⟩ k.q = cont F l k.q := by
    unfold cont
    rw [hp]
  rw [e1]; exact ⟨[], List.append_nil _⟩

/-- the two logs, side by side; B: the document's own row -/
structure PlayR (W : World) (c : Lc) (B g : Nat) (w : World) (gl : Nat) (l : Lg) (m : Dev) (F : Nat → List (List UInt8)) (ks : List Kp) (ka : Option Addr) (kc : Nat) : Prop where
  log : LogAt W (B :: (Value.slice ka ks.length kc).ownBlock.toList) w gl g c l m F
  row : w.heap[B]? = some (.cells (Rf.cells ⟨3, 77, 154, l.last, l.at_⟩ (.slice ka ks.length kc)) 96 (0, 0))
  own : KRow w 0 (.slice ka ks.length kc) ks
  low : W.heap.size ≤ B
  good : ∀ k ∈ ks, GoodK l F k
  n : m.n = 60 ∧ m.sz = 96
section
variable {W w w' : World} {c : Lc} {B g gl : Nat} {l l' : Lg} {m m' : Dev} {F F' : Nat → List (List UInt8)} {ks : List Kp} {ka : Option Addr} {kc : Nat}
theorem PlayR.keep (h : PlayR W c B g w gl l m F ks ka kc) (k : Keep [] w w') : PlayR W c B g w' gl l m F ks ka kc :=
  ⟨h.log.keep k, k.blk (by simp) h.row, h.own.keep k (by simp), h.low, h.good, h.n⟩
theorem PlayR.cl (h : PlayR W c B g w gl l m F ks ka kc) : w.cell? ⟨B, 0, none⟩ = some (.int .i64 3) ∧ w.cell? ⟨B, 1, none⟩ = some (.int .i64 77) ∧ w.cell? ⟨B, 2, none⟩ = some (.int .i64 154) ∧ w.cell? ⟨B, 3, none⟩ = some (.int .i64 (l.last : Int)) ∧ w.cell? ⟨B, 4, none⟩ = some (.int .i64 (l.at_ : Int)) ∧ w.cell? ⟨B, 5, none⟩ = some (.slice ka ks.length kc) :=
  ⟨by rw [cell_of_row _ _ _ _ _ _ h.row]; rfl, by rw [cell_of_row _ _ _ _ _ _ h.row]; rfl, by rw [cell_of_row _ _ _ _ _ _ h.row]; rfl, by rw [cell_of_row _ _ _ _ _ _ h.row]; rfl, by rw [cell_of_row _ _ _ _ _ _ h.row]; rfl, by rw [cell_of_row _ _ _ _ _ _ h.row]; rfl⟩
theorem KRow.ne {v : Value} {b : Nat} (h : KRow w b v ks) {cs : Array Value} {fr : Nat × Nat} (hr : w.heap[B]? = some (.cells cs 96 fr)) : v.ownBlock ≠ some B := by
  rcases h.2 with ⟨rfl, -⟩ | ⟨g, cap, cur, rfl, -, hg, -⟩
  · simp [Value.ownBlock]
  · simp only [Value.ownBlock]
    intro e
    have e := Option.some.inj e
    subst e
    rw [hr] at hg
    have := Option.some.inj hg
    injection this with h1 h2 h3
    exact absurd h2 (by decide)
theorem PlayR.put (hl : LogAt W (B :: (Value.slice ka ks.length kc).ownBlock.toList) w gl g c l m F) {cs : Array Value} (hr : w.heap[B]? = some (.cells cs 96 (0, 0))) (ho : KRow w 0 (.slice ka ks.length kc) ks) (hlow : W.heap.size ≤ B) (hg : ∀ k ∈ ks, GoodK l F k) (hn : m.n = 60 ∧ m.sz = 96) :
    PlayR W c B g (w.setRow B (Rf.cells ⟨3, 77, 154, l.last, l.at_⟩ (.slice ka ks.length kc))) gl l m F ks ka kc := by
  have k : Keep [B] w (w.setRow B (Rf.cells ⟨3, 77, 154, l.last, l.at_⟩ (.slice ka ks.length kc))) := (Keep.refl _ w).setRow (.inl (by simp)) _
  refine ⟨hl.own k (fun b hb => ?_), setRow_heap _ _ _ _ _ _ hr, ho.keep k (fun b hb hm => ?_), hlow, hg, hn⟩
  · rw [List.mem_singleton.1 hb]
    exact ⟨.inl (by simp), hlow⟩
  · rw [List.mem_singleton.1 hm] at hb
    exact ho.ne hr hb
/-- .. behind a call that leaves the rest -/
theorem PlayR.rest (h : PlayR W c B g w gl l m F ks ka kc) (r : Rest (B :: (Value.slice ka ks.length kc).ownBlock.toList) w w') :
    w'.heap[B]? = some (.cells (Rf.cells ⟨3, 77, 154, l.last, l.at_⟩ (.slice ka ks.length kc)) 96 (0, 0)) ∧ KRow w' 0 (.slice ka ks.length kc) ks :=
  ⟨r.blk (by simp) h.row, h.own.rest r.same (fun b hb => List.mem_cons_of_mem _ (by rw [hb]; simp))⟩
theorem LogAt.addK {X : List Nat} (h : LogAt W X w gl g c l m F) (k : Keep [] w w') {v : Value} {ks : List Kp} (ho : KRow w' w.heap.size v ks) : LogAt W (v.ownBlock.toList ++ X) w' gl g c l m F := by
  cases e : v.ownBlock with
  | none => exact h.keep k
  | some b =>
    have := ho.lt b e
    exact h.add k this.1 this.2
theorem PlayR.at_ (h : PlayR W c B g w gl l m F ks ka kc) {i : Nat} (hi : i < ks.length) : ∃ b, ka = some ⟨b, 0, none⟩ ∧ w.cell? ⟨b, i * 4, none⟩ = some (.int .i64 (ks[i].q : Int)) ∧ w.cell? ⟨b, i * 4 + 1, none⟩ = some (.int .i64 (ks[i].a : Int)) ∧ w.cell? ⟨b, i * 4 + 2, none⟩ = some (.int .i64 (ks[i].bs.length : Int)) ∧ w.cell? ⟨b, i * 4 + 3, none⟩ = some (.string ⟨ks[i].bs.toArray⟩) := by
  obtain ⟨b, e, -, hc⟩ := h.own.cells hi
  exact ⟨b, e, hc 0 _ rfl, hc 1 _ rfl, hc 2 _ rfl, hc 3 _ rfl⟩
end
end Go.Proofs.Ytjkjiabfhhnngaa
