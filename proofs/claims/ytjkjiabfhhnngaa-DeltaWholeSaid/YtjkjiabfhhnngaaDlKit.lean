import Derived.Test.YtjkjiabfhhnngaaRegLaw
import Derived.Test.YtjkjiabfhhnngaaParK
import Derived.BigQuiet
import Derived.Test.YtjkjiabfhhnngaaFloat
import Derived.Test.YtjkjiabfhhnngaaGen
import Derived.Test.YtjkjiabfhhnngaaRange5
import Derived.Test.YtjkjiabfhhnngaaReg7
/-! What was changed since: delta's log as it is thought of, and in memory; the first walks. -/
namespace Go.Proofs.Ytjkjiabfhhnngaa
open Go.RowKit Sg
set_option linter.unusedSimpArgs false
set_option linter.unusedVariables false

/-- a change -/
structure Ch where
  drop : Bool
  hash : Nat
  (r a s : Int)
def Ch.enc (x : Ch) : List Value := [.bool x.drop, .int .u64 (x.hash : Int), .int .i64 x.r, .int .i64 x.a, .int .i64 x.s]
def Ch.v (x : Ch) : Value := .agg #[.bool x.drop, .int .u64 (x.hash : Int), .int .i64 x.r, .int .i64 x.a, .int .i64 x.s]
def Ch.Right (x : Ch) : Prop := if x.drop = true then x.r = 0 ∧ x.a = 0 ∧ x.s = 0 else (0 ≤ x.r ∧ x.r ≤ 1099511627776) ∧ (0 ≤ x.a ∧ x.a ≤ 65535) ∧ (0 ≤ x.s ∧ x.s ≤ 65535)
instance (x : Ch) : Decidable x.Right := by unfold Ch.Right; infer_instance
def Ch.kind (x : Ch) : Nat := if x.drop = true then 2 else 1
def Ch.bs (x : Ch) : List UInt8 := ((((le x.kind 1) ++ le x.hash 8) ++ le x.r.toNat 8) ++ le x.a.toNat 2) ++ le x.s.toNat 2
theorem Ch.bs_len (x : Ch) : x.bs.length = 21 := by simp [Ch.bs, le_len]
theorem Ch.right_in {x : Ch} (h : x.Right) : (0 ≤ x.r ∧ x.r ≤ 1099511627776) ∧ (0 ≤ x.a ∧ x.a ≤ 65535) ∧ (0 ≤ x.s ∧ x.s ≤ 65535) := by
  unfold Ch.Right at h
  split at h <;> omega
theorem clies : Lies Ch.enc 5 := ⟨fun _ => rfl, fun x u hu => by simp [Ch.enc] at hu; rcases hu with rfl | rfl | rfl | rfl | rfl <;> rfl⟩
abbrev CRow := RowE Ch.enc 5 162
theorem ch_info : (Try.prog.info? 162).map (fun i => (i.zero, i.size, i.bytes)) = some (some (.agg #[.bool false, .int .u64 0, .int .i64 0, .int .i64 0, .int .i64 0]), 5, 40) := by kernel_rfl

set_option maxRecDepth 100000 in
set_option maxHeartbeats 1000000 in
theorem within_i64 (n high : Int) (w : World) : Calls Try.prog 121 #[.int .i64 n, .int .i64 high] w fun e w' => e = .returned (.bool (decide (0 ≤ n ∧ n ≤ high))) ∧ w = w' := by
  rcases (by omega : n < 0 ∨ (0 ≤ n ∧ n ≤ high) ∨ (0 ≤ n ∧ high < n)) with h | ⟨h, h2⟩ | ⟨h, h2⟩
  all_goals
    go_enter Try.func121, Try.ntmps121
    go_wp2
    go_ret
    exact ⟨by congr 2; simp; omega, rfl⟩

set_option maxRecDepth 100000 in
set_option maxHeartbeats 1000000 in
theorem chRight_any (x : Ch) (w : World) : Calls Try.prog 124 #[x.v] w fun e w' => e = .returned (.bool (decide x.Right)) ∧ Keep [] w w' := by
  obtain ⟨d, h, r, a, s⟩ := x
  have hK := (Keep.refl [] w).alloc (.cells #[.bool d, .int .u64 (h : Int), .int .i64 r, .int .i64 a, .int .i64 s] 162)
  simp only [Ch.v]
  cases d with
  | true =>
    go_enter Try.func124, Try.ntmps124
    go_wp2
    all_goals
      go_ret
      first
        | exact ⟨(show Ending.returned (.bool true) = .returned (.bool (decide (Ch.Right ⟨true, h, r, a, s⟩))) from by rw [decide_eq_true (by unfold Ch.Right; simp [*]; done)]), (Keep.refl [] w).alloc _⟩
        | exact ⟨(show Ending.returned (.bool false) = .returned (.bool (decide (Ch.Right ⟨true, h, r, a, s⟩))) from by rw [decide_eq_false (by unfold Ch.Right; simp; omega)]), (Keep.refl [] w).alloc _⟩
  | false =>
    have c1 := fun w' => within_i64 r 1099511627776 w'
    have c2 := fun w' => within_i64 a 65535 w'
    have c3 := fun w' => within_i64 s 65535 w'
    have hx : (⟨false, h, r, a, s⟩ : Ch).Right ↔ ((0 ≤ r ∧ r ≤ 1099511627776) ∧ (0 ≤ a ∧ a ≤ 65535) ∧ (0 ≤ s ∧ s ≤ 65535)) := by unfold Ch.Right; simp
    have HX := Lib.hid hx
    clear hx
    by_cases h1 : 0 ≤ r ∧ r ≤ 1099511627776
    · rw [decide_eq_true h1] at c1
      by_cases h2 : 0 ≤ a ∧ a ≤ 65535
      · rw [decide_eq_true h2] at c2
        by_cases h3 : 0 ≤ s ∧ s ≤ 65535
        · rw [decide_eq_true h3] at c3
          rw [decide_eq_true (HX.out.2 ⟨h1, h2, h3⟩)]
          have C := Lib.hid (And.intro c1 (And.intro c2 c3))
          clear c1 c2 c3
          go_enter Try.func124, Try.ntmps124
          go_wp2_with fail
          refine (C.out.1 _).mono ?_
          rintro e w1 ⟨rfl, rfl⟩
          go_wp2_with fail
          refine (C.out.2.1 _).mono ?_
          rintro e w1 ⟨rfl, rfl⟩
          go_wp2_with fail
          refine (C.out.2.2 _).mono ?_
          rintro e w1 ⟨rfl, rfl⟩
          go_wp2
          go_ret
          exact ⟨rfl, hK⟩
        · rw [decide_eq_false h3] at c3
          rw [decide_eq_false (fun h => h3 (HX.out.1 h).2.2)]
          have C := Lib.hid (And.intro c1 (And.intro c2 c3))
          clear c1 c2 c3
          go_enter Try.func124, Try.ntmps124
          go_wp2_with fail
          refine (C.out.1 _).mono ?_
          rintro e w1 ⟨rfl, rfl⟩
          go_wp2_with fail
          refine (C.out.2.1 _).mono ?_
          rintro e w1 ⟨rfl, rfl⟩
          go_wp2_with fail
          refine (C.out.2.2 _).mono ?_
          rintro e w1 ⟨rfl, rfl⟩
          go_wp2
          go_ret
          exact ⟨rfl, hK⟩
      · rw [decide_eq_false h2] at c2
        rw [decide_eq_false (fun h => h2 (HX.out.1 h).2.1)]
        have C := Lib.hid (And.intro c1 c2)
        clear c1 c2 c3
        go_enter Try.func124, Try.ntmps124
        go_wp2_with fail
        refine (C.out.1 _).mono ?_
        rintro e w1 ⟨rfl, rfl⟩
        go_wp2_with fail
        refine (C.out.2 _).mono ?_
        rintro e w1 ⟨rfl, rfl⟩
        go_wp2
        go_ret
        exact ⟨rfl, hK⟩
    · rw [decide_eq_false h1] at c1
      rw [decide_eq_false (fun h => h1 (HX.out.1 h).1)]
      have C := Lib.hid c1
      clear c1 c2 c3
      go_enter Try.func124, Try.ntmps124
      go_wp2_with fail
      refine (C.out _).mono ?_
      rintro e w1 ⟨rfl, rfl⟩
      go_wp2
      go_ret
      exact ⟨rfl, hK⟩

set_option maxRecDepth 100000 in
set_option maxHeartbeats 1000000 in
theorem per_any (n : Int) (w : World) (h : 96 ≤ n ∧ n ≤ 512) : Calls Try.prog 120 #[.int .i64 n] w fun e w' => e = .returned (.int .i64 ((n - 28) / 21)) ∧ w = w' := by
  have hr := room_any n w
  rw [if_pos h] at hr
  have e1 : (n - 28).tdiv 21 = (n - 28) / 21 := Int.tdiv_eq_ediv_of_nonneg (by omega)
  have HR := Lib.hid hr
  have HE := Lib.hid e1
  clear hr e1
  have b1 : 96 ≤ n := h.1
  have b2 : n ≤ 512 := h.2
  go_enter Try.func120, Try.ntmps120
  go_wp2_with fail
  refine HR.out.mono ?_
  rintro e w1 ⟨rfl, rfl⟩
  have y1 : IntKind.i64.wrap (n - 19 - 9) = n - 28 := by rw [i64_wrap (by omega) (by omega)]; omega
  have y2 : 0 ≤ n - 28 := by omega
  go_wp2
  go_ret
  exact ⟨rfl, rfl⟩
theorem per_no (n : Int) (w : World) (h : ¬ (96 ≤ n ∧ n ≤ 512)) : Calls Try.prog 120 #[.int .i64 n] w fun e w' => e = .returned (.int .i64 0) ∧ w = w' := by
  have hr := room_any n w
  rw [if_neg h] at hr
  have HR := Lib.hid hr
  clear hr
  go_enter Try.func120, Try.ntmps120
  go_wp2_with fail
  refine HR.out.mono ?_
  rintro e w1 ⟨rfl, rfl⟩
  go_wp2
  go_ret
  exact ⟨rfl, rfl⟩

/-- what of a log never changes -/
structure Dc where
  S : Nat
  sz : Nat
  per : Nat
  first : Nat
  x : Nat → Value
structure Dc.Ok (c : Dc) (m : Dev) : Prop where
  s1 : 1 ≤ c.S
  s2 : c.S ≤ 256
  z1 : 96 ≤ c.sz
  z2 : c.sz ≤ 512
  sz : m.sz = c.sz
  p1 : 1 ≤ c.per
  p2 : c.per * 21 + 28 ≤ c.sz
  top : c.first + c.S ≤ m.n
structure Dl where
  fr : Nat
  nx : Nat
  tm : Nat
  pend : List Ch
structure Dl.Ok (c : Dc) (l : Dl) : Prop where
  f1 : 1 ≤ l.fr
  fn : l.fr ≤ l.nx
  nb : l.nx ≤ 1099511628032
  p : l.pend.length < c.per
  r : ∀ x ∈ l.pend, x.Right
  t : l.tm ≤ 281474976710656
def dlCells (c : Dc) (g : Nat) (l : Dl) (pv : Value) : Array Value :=
  #[.pointer (some ⟨g, 0, none⟩), c.x 1, .int .i64 (c.sz : Int), c.x 3, c.x 4, .int .i64 (c.S : Int), c.x 6, c.x 7, c.x 8, .int .i64 (c.first : Int), .int .i64 (c.per : Int), .int .i64 (l.fr : Int), .int .i64 (l.nx : Int), pv, .int .i64 (l.tm : Int)]
def RowG (w : World) (gl : Nat) (c : Dc) (g : Nat) (l : Dl) (pv : Value) : Prop := w.heap[gl]? = some (.cells (dlCells c g l pv) 231 (0, 0))
section
variable {w w' : World} {gl g : Nat} {c : Dc} {l : Dl} {pv : Value}
theorem RowG.k0 (h : RowG w gl c g l pv) : w.cell? ⟨gl, 0, none⟩ = some (.pointer (some ⟨g, 0, none⟩)) := by rw [cell_of_row _ _ _ _ _ _ h]; rfl
theorem RowG.k2 (h : RowG w gl c g l pv) : w.cell? ⟨gl, 2, none⟩ = some (.int .i64 (c.sz : Int)) := by rw [cell_of_row _ _ _ _ _ _ h]; rfl
theorem RowG.k5 (h : RowG w gl c g l pv) : w.cell? ⟨gl, 5, none⟩ = some (.int .i64 (c.S : Int)) := by rw [cell_of_row _ _ _ _ _ _ h]; rfl
theorem RowG.k9 (h : RowG w gl c g l pv) : w.cell? ⟨gl, 9, none⟩ = some (.int .i64 (c.first : Int)) := by rw [cell_of_row _ _ _ _ _ _ h]; rfl
theorem RowG.k10 (h : RowG w gl c g l pv) : w.cell? ⟨gl, 10, none⟩ = some (.int .i64 (c.per : Int)) := by rw [cell_of_row _ _ _ _ _ _ h]; rfl
theorem RowG.k11 (h : RowG w gl c g l pv) : w.cell? ⟨gl, 11, none⟩ = some (.int .i64 (l.fr : Int)) := by rw [cell_of_row _ _ _ _ _ _ h]; rfl
theorem RowG.k12 (h : RowG w gl c g l pv) : w.cell? ⟨gl, 12, none⟩ = some (.int .i64 (l.nx : Int)) := by rw [cell_of_row _ _ _ _ _ _ h]; rfl
theorem RowG.k13 (h : RowG w gl c g l pv) : w.cell? ⟨gl, 13, none⟩ = some pv := by rw [cell_of_row _ _ _ _ _ _ h]; rfl
theorem RowG.k14 (h : RowG w gl c g l pv) : w.cell? ⟨gl, 14, none⟩ = some (.int .i64 (l.tm : Int)) := by rw [cell_of_row _ _ _ _ _ _ h]; rfl
theorem RowG.free (h : RowG w gl c g l pv) (j : Nat) : w.frozen? ⟨gl, j, none⟩ = false := frozen_of_row _ _ _ _ _ h
theorem RowG.keep {S : List Nat} (h : RowG w gl c g l pv) (k : Keep S w w') (hS : gl ∉ S) : RowG w' gl c g l pv := k.blk hS h
theorem RowG.fr (h : RowG w gl c g l pv) (n : Nat) : RowG (w.setCell ⟨gl, 11, none⟩ (.int .i64 (n : Int))) gl c g { l with fr := n } pv := heap_setCell_same _ _ _ _ _ _ h
theorem RowG.nx (h : RowG w gl c g l pv) (n : Nat) : RowG (w.setCell ⟨gl, 12, none⟩ (.int .i64 (n : Int))) gl c g { l with nx := n } pv := heap_setCell_same _ _ _ _ _ _ h
theorem RowG.pend (h : RowG w gl c g l pv) (v : Value) (b : List Ch) : RowG (w.setCell ⟨gl, 13, none⟩ v) gl c g { l with pend := b } v := heap_setCell_same _ _ _ _ _ _ h
theorem RowG.tm (h : RowG w gl c g l pv) (n : Nat) : RowG (w.setCell ⟨gl, 14, none⟩ (.int .i64 (n : Int))) gl c g { l with tm := n } pv := heap_setCell_same _ _ _ _ _ _ h

set_option maxRecDepth 100000 in
set_option maxHeartbeats 1000000 in
theorem nextD_any (h : RowG w gl c g l pv) : Calls Try.prog 80 #[.pointer (some ⟨gl, 0, none⟩)] w fun e w' => e = .returned (.int .i64 (l.nx : Int)) ∧ w = w' := by
  have k12 := h.k12
  go_enter Try.func80, Try.ntmps80
  go_wp2
  go_ret
  exact ⟨rfl, rfl⟩
set_option maxRecDepth 100000 in
set_option maxHeartbeats 1000000 in
theorem leftD_any (h : RowG w gl c g l pv) (hS : c.S ≤ 256) (h1 : l.fr ≤ l.nx) (h2 : l.nx ≤ 1099511628032) : Calls Try.prog 122 #[.pointer (some ⟨gl, 0, none⟩)] w fun e w' => e = .returned (.int .i64 ((c.S - (l.nx - l.fr) : Nat) : Int)) ∧ Keep [] w w' := by
  have y1 : IntKind.i64.wrap ((l.nx : Int) - (l.fr : Int)) = ((l.nx - l.fr : Nat) : Int) := by rw [i64_wrap (by omega) (by omega)]; omega
  have y2 : IntKind.i64.wrap ((c.S : Int) - ((l.nx - l.fr : Nat) : Int)) = (c.S : Int) - ((l.nx - l.fr : Nat) : Int) := i64_wrap (by omega) (by omega)
  have hm : max ((c.S : Int) - ((l.nx - l.fr : Nat) : Int)) 0 = ((c.S - (l.nx - l.fr) : Nat) : Int) := by omega
  have HM := Lib.hid hm
  generalize hD : l.nx - l.fr = D at *
  clear hm
  go_enter Try.func122, Try.ntmps122
  go_wp2_with fail
  refine wp_region_his [] [] (fun _ => 0) (by kernel_rfl) (by kernel_rfl) ?_
  intro w1 hk1 hh
  clear hh
  have k5 := fun w' (h' : Keep [] w1 w') => (h.keep (hk1.trans h') (by simp)).k5
  have k11 := fun w' (h' : Keep [] w1 w') => (h.keep (hk1.trans h') (by simp)).k11
  have k12 := fun w' (h' : Keep [] w1 w') => (h.keep (hk1.trans h') (by simp)).k12
  (repeat (first | (refine his_q rfl rfl (fun K hK => ?_); apply Exists.intro; refine ⟨fun w' hC => ?_, ?_⟩; ((try simp [Sg.upd] at hC); go_simp <;> rfl); go_simp; refine hK _ _ ?_; clear hK K) | (refine his_s rfl (fun K hK => ?_); go_simp; refine hK _ _ ?_; clear hK K)))
  refine his_nil ?_
  clear k5 k11 k12 y1 y2
  go_wp2_with fail
  all_goals
    go_ret
    exact ⟨ret_of (by omega), hk1⟩
set_option maxRecDepth 100000 in
set_option maxHeartbeats 1000000 in
theorem restart_nil (w : World) : Calls Try.prog 79 #[.pointer none] w fun e w' => e = .returned (.tuple #[]) ∧ w = w' := by
  go_enter Try.func79, Try.ntmps79
  go_wp2
  go_end0
  exact ⟨rfl, rfl⟩
set_option maxRecDepth 100000 in
set_option maxHeartbeats 1000000 in
theorem nextD_nil (w : World) : Calls Try.prog 80 #[.pointer none] w fun e w' => e = .returned (.int .i64 0) ∧ w = w' := by
  go_enter Try.func80, Try.ntmps80
  go_wp2
  go_ret
  exact ⟨rfl, rfl⟩
set_option maxRecDepth 100000 in
set_option maxHeartbeats 1000000 in
theorem leftD_nil (w : World) : Calls Try.prog 122 #[.pointer none] w fun e w' => e = .returned (.int .i64 0) ∧ w = w' := by
  go_enter Try.func122, Try.ntmps122
  go_wp2
  go_ret
  exact ⟨rfl, rfl⟩
set_option maxRecDepth 100000 in
set_option maxHeartbeats 1000000 in
theorem restartD_any (h : RowG w gl c g l pv) : Calls Try.prog 79 #[.pointer (some ⟨gl, 0, none⟩)] w fun e w' => e = .returned (.tuple #[]) ∧ RowG w' gl c g { l with fr := l.nx, pend := [] } (.slice none 0 0) ∧ Keep [gl] w w' := by
  have k12 := h.k12
  have f11 := h.free 11
  have f13 := h.free 13
  have c11 := h.k11
  have c13 := h.k13
  have h2 := (h.fr l.nx).pend (.slice none 0 0) []
  have H2 := Lib.hid h2
  clear h h2
  go_enter Try.func79, Try.ntmps79
  go_wp2
  go_end0
  exact ⟨rfl, H2.out, ((Keep.refl [gl] w).setCell (.inl (by simp)) _).setCell (.inl (by simp)) _⟩
end


/-! ### a writer, and the blocks that are its own -/
structure WBAt (w : World) (g lim : Nat) (B : List Nat) (xs : List UInt8) (v : Value) : Prop where
  row : w.heap[g]? = some (.cells #[v, .int .i64 (lim : Int), .bool false] 266 (0, 0))
  own : OwnB w 0 5 v xs
  inB : inD B v
  g : g ∈ B
  lt : ∀ b ∈ B, b < w.heap.size
  len : xs.length ≤ lim
  lim : lim ≤ 1000000
def WB (w : World) (g lim : Nat) (B : List Nat) (xs : List UInt8) : Prop := ∃ v, WBAt w g lim B xs v
theorem WB.keep {w w' : World} {g lim : Nat} {B S : List Nat} {xs : List UInt8} (h : WB w g lim B xs) (k : Keep S w w') (hS : ∀ b ∈ S, b ∉ B) : WB w' g lim B xs := by
  obtain ⟨v, h⟩ := h
  exact ⟨v, k.blk (fun hm => hS _ hm h.g) h.row, h.own.keep k (fun b hb hm => hS b hm (h.inB b hb)), h.inB, h.g, fun b hb => Nat.lt_of_lt_of_le (h.lt b hb) k.size, h.len, h.lim⟩
/-- the world without blocks -/
def World.bare (w : World) : World := { w with heap := #[] }
theorem keep_bare (w : World) : Keep [] (World.bare w) w := ⟨rfl, rfl, rfl, Nat.zero_le _, fun k hk => by simp [World.bare] at hk⟩
theorem WB.ws {w : World} {g lim : Nat} {B : List Nat} {xs : List UInt8} (h : WB w g lim B xs) : WS (World.bare w) w g lim xs := by
  obtain ⟨v, h⟩ := h
  exact ⟨keep_bare w, Nat.zero_le _, v, h.row, h.own, h.len, h.lim⟩
theorem newWB_any (lim : Nat) (hl : lim ≤ 1000000) (w : World) : Calls Try.prog 134 #[.int .i64 lim] w fun e w' => ∃ g B, e = .returned (.pointer (some ⟨g, 0, none⟩)) ∧ WB w' g lim B [] ∧ (∀ b ∈ B, w.heap.size ≤ b) ∧ Keep [] w w' := by
  refine (newWriter_any lim hl w).mono ?_
  rintro e w' ⟨g, rfl, hk, hg, v, hr, ho, h1, h2⟩
  have hlt : ∀ b, v.ownBlock = some b → w.heap.size ≤ b ∧ b < w'.heap.size := fun b hb => ⟨(rowLt ho hb).2.1, (rowLt ho hb).1⟩
  refine ⟨g, g :: v.ownBlock.toList, rfl, ⟨v, hr, ho.base (Nat.zero_le _), fun b hb => List.mem_cons_of_mem _ (by rw [hb]; simp), by simp, fun b hb => ?_, h1, h2⟩, fun b hb => ?_, hk⟩
  · rcases List.mem_cons.1 hb with rfl | hb
    · exact (Array.getElem?_eq_some_iff.1 hr).1
    · exact (hlt b (by simpa using hb)).2
  · rcases List.mem_cons.1 hb with rfl | hb
    · exact hg
    · exact (hlt b (by simpa using hb)).1
theorem wbytesB_any (g lim : Nat) (B : List Nat) (xs : List UInt8) (w : World) (hw : WB w g lim B xs) :
    Calls Try.prog 138 #[.pointer (some ⟨g, 0, none⟩)] w fun e w' => ∃ v', e = .returned v' ∧ OwnB w' w.heap.size 5 v' xs ∧ Keep [] w w' := by
  refine (wbytes_any _ g lim xs w hw.ws).mono ?_
  rintro e w' ⟨v', rfl, h1, -, h2⟩
  exact ⟨v', rfl, h1, h2⟩

set_option maxRecDepth 100000 in
set_option maxHeartbeats 1000000 in
theorem rawB_any (g lim : Nat) (B : List Nat) (xs : List UInt8) (v : Value) (l : List UInt8) (w : World) (hw : WB w g lim B xs) (hv : Bytes w v l) (hvB : ∀ b, v.ownBlock = some b → b ∉ B) (hfit : xs.length + l.length ≤ lim) :
    Calls Try.prog 136 #[.pointer (some ⟨g, 0, none⟩), v] w fun e w' => e = .returned (.tuple #[]) ∧ ∃ B', WB w' g lim B' (xs ++ l) ∧ Grew w B B' ∧ Keep B w w' := by
  obtain ⟨b, hw⟩ := hw
  have hb := hw.row
  have ho := hw.own
  have hlim := hw.lim
  obtain ⟨ao, cap, rfl, hlc, hm, hcap⟩ := hv.form
  obtain ⟨bcap, bo, rfl⟩ : ∃ bcap bo, b = .slice bo xs.length bcap := by
    rcases ho.2 with ⟨rfl, h0⟩ | ⟨g', c, cur, rfl, -⟩
    · exact ⟨0, none, by rw [h0]⟩
    · exact ⟨_, _, rfl⟩
  have hne := ho.ne_row hb (by decide)
  have hsne := fun h => hv.ne_row h hb (by
    intro i x hx n e
    subst e
    match i, hx with
    | 0, h => simp at h
    | 1, h => simp at h
    | 2, h => simp at h
    | i + 3, h => simp at h)
  have c0 := cell_of_row w _ 0 _ _ _ hb
  have c1 := cell_of_row w _ 1 _ _ _ hb
  have c2 := cell_of_row w _ 2 _ _ _ hb
  simp at c0 c1 c2
  have e0 : IntKind.i64.wrap ((lim : Int) - (xs.length : Int)) = (lim : Int) - (xs.length : Int) := i64_wrap (by omega) (by omega)
  have e1 : decide ((lim : Int) - (xs.length : Int) < (l.length : Int)) = false := decide_eq_false (by omega)
  have HW := Lib.hid (And.intro hw hvB)
  clear hw hvB
  go_enter Try.func136, Try.ntmps136
  go_wp2_with fail
  refine wp_region_still_tail 22 (by kernel_rfl) (by kernel_rfl) ?_
  simp only [List.take_succ_cons, List.take_zero, List.drop_succ_cons, List.drop_zero]
  repeat still_step
  refine wpStill_nil ?_
  have hk1 : Keep [] w w.drew := (Keep.refl [] w).drew
  change wpList _ _ _ _ _ w.drew
  generalize w.drew = w1 at hk1 ⊢
  have hb1 := hk1.blk (by simp) hb
  have f0 := frozen_of_row w1 _ 0 _ _ hb1
  have f2 := frozen_of_row w1 _ 2 _ _ hb1
  have c0 := cell_of_row w1 _ 0 _ _ _ hb1
  have c2 := cell_of_row w1 _ 2 _ _ _ hb1
  simp at c0 c2
  have ho2 : OwnB (w1.setCell ⟨g, 2, none⟩ (.bool false)) 0 5 (.slice bo xs.length bcap) xs := ownsRow_setCell_other (ho.keep hk1 (by simp)) hne _
  have hv2 : Bytes (w1.setCell ⟨g, 2, none⟩ (.bool false)) (.slice ao l.length cap) l := (hv.keep hk1 (by simp)).setCell hsne _
  have hK2 : Keep [g] w (w1.setCell ⟨g, 2, none⟩ (.bool false)) := (hk1.mono (by simp)).setCell (.inl (by simp)) _
  have hb2 := heap_setCell_same w1 g 2 _ _ (.bool false) hb1
  obtain ⟨v4, w4, hrun, ho4, hk4, hloc⟩ := run_append_bytes_at (P := Try.prog) (ty := 42) 0 Try.underlying42 (by kernel_rfl) ho2 hv2 (by omega) (Nat.zero_le _)
  have hne := ho2.ne_row hb2 (by decide)
  have hb4 := hk4.blk (fun h => hne (by simpa using h)) hb2
  have f04 := frozen_of_row w4 _ 0 _ _ hb4
  have c04 := cell_of_row w4 _ 0 _ _ _ hb4
  simp at c04
  have hne4 := ho4.ne_row hb4 (by decide)
  obtain ⟨bo4, bcap4, rfl⟩ := ownsRow_form ho4
  obtain ⟨M, hM⟩ : ∃ M, (xs ++ l).length = M := ⟨_, rfl⟩
  have hM2 : M ≤ lim := by rw [← hM, List.length_append]; exact hfit
  rw [hM] at hrun ho4 hloc hne4
  have hb5 := heap_setCell_same w4 g 0 _ _ (.slice bo4 M bcap4) hb4
  have HM := Lib.hid hM
  have HR := Lib.hid hrun
  have HB5 := Lib.hid (And.intro hb5 (And.intro hK2 (And.intro hk4 (And.intro hloc (And.intro ho4 hne4)))))
  clear hb hb1 hb2 hb4 hb5 hne hsne hv ho hrun hK2 hk4 hloc ho4 hne4 ho2 hv2 hM
  go_wp2_with (at_builtin; refine wpList_append_run rfl (.tmp 37) (.tmp 38) 42 rfl (w' := w4) rfl rfl HR.out ?_)
  go_wp2
  go_end0
  obtain ⟨h1, h2, h3, h4, h5, h6⟩ := HB5.out
  have hK3 : Keep B w (w4.setCell ⟨g, 0, none⟩ (.slice bo4 M bcap4)) :=
    ((h2.mono (fun b hb => by rw [List.mem_singleton.1 hb]; exact HW.out.1.g)).trans (h3.mono (fun b hb => HW.out.1.inB b (by simpa using hb)))).setCell (.inl HW.out.1.g) _
  refine ⟨rfl, B ++ (Value.slice bo4 M bcap4).ownBlock.toList, ⟨_, (show _ = some (Obj.cells #[.slice bo4 M bcap4, .int .i64 (lim : Int), .bool false] _ (0, 0)) from h1), ownsRow_setCell_other h5 h6 _, fun b hb => List.mem_append_right _ (by rw [hb]; simp), List.mem_append_left _ HW.out.1.g, fun b hb => ?_, by rw [HM.out]; exact hM2, hlim⟩, ⟨fun b hb => List.mem_append_left _ hb, fun b hb => ?_⟩, hK3⟩
  · rcases List.mem_append.1 hb with hb | hb
    · exact Nat.lt_of_lt_of_le (HW.out.1.lt b hb) hK3.size
    · have := (rowLt h5 (by simpa using hb)).1
      simpa using this
  · rcases List.mem_append.1 hb with hb | hb
    · exact .inl hb
    · rw [Option.mem_toList] at hb
      rcases h4 with e | e
      · exact .inl (HW.out.1.inB b (by rw [← e]; exact hb))
      · rw [hb] at e
        cases e
        exact .inr (by simpa using hk1.size)
set_option maxRecDepth 100000 in
set_option maxHeartbeats 1000000 in
theorem putB_any (g lim : Nat) (B : List Nat) (xs : List UInt8) (n k : Nat) (hn : n < 18446744073709551616) (hk : k = 1 ∨ k = 2 ∨ k = 4 ∨ k = 8) (w : World) (hw : WB w g lim B xs) (hfit : xs.length + k ≤ lim) :
    Calls Try.prog 135 #[.pointer (some ⟨g, 0, none⟩), .int .u64 n, .int .i64 k] w fun e w' => e = .returned (.tuple #[]) ∧ ∃ B', WB w' g lim B' (xs ++ le n k) ∧ Grew w B B' ∧ Keep B w w' := by
  have HW := Lib.hid hw
  have hlt : ∀ b ∈ B, b < w.heap.size := by obtain ⟨v, h⟩ := hw; exact h.lt
  have HLT := Lib.hid hlt
  clear hw hlt
  go_enter Try.func135, Try.ntmps135
  go_wp2_with fail
  refine (may_ok k hk _).mono ?_
  rintro e w1 ⟨rfl, rfl⟩
  go_wp2_with fail
  refine (number_any n k hn (by omega) _).mono ?_
  rintro e w2 ⟨v, rfl, ho, hk2⟩
  go_wp2_with fail
  refine (rawB_any g lim B xs v (le n k) w2 (HW.out.keep hk2 (by simp)) (ho.bytes (by rw [le_len]; omega)) (fun b hb hm => by have := (rowLt ho hb).2.1; have := HLT.out b hm; omega) (by rw [le_len]; exact hfit)).mono ?_
  rintro e w3 ⟨rfl, B', h1, h2, h3⟩
  go_wp2_with fail
  go_end0
  exact ⟨rfl, B', h1, ⟨h2.1, fun b hb => (h2.2 b hb).imp id (fun h => Nat.le_trans hk2.size h)⟩, (hk2.mono (by simp)).trans h3⟩

set_option maxRecDepth 100000 in
set_option maxHeartbeats 1000000 in
theorem chWrite_any (g lim : Nat) (B : List Nat) (xs : List UInt8) (x : Ch) (hx : x.Right) (hh : x.hash < 18446744073709551616) (w : World) (hw : WB w g lim B xs) (hfit : xs.length + 21 ≤ lim) :
    Calls Try.prog 153 #[x.v, .pointer (some ⟨g, 0, none⟩)] w fun e w' => e = .returned (.tuple #[]) ∧ ∃ B', WB w' g lim B' (xs ++ x.bs) ∧ Grew w B B' ∧ Keep B w w' := by
  obtain ⟨⟨r1, r2⟩, ⟨a1, a2⟩, s1, s2⟩ := Ch.right_in hx
  have hk2 : (x.drop = true ∧ x.kind = 2) ∨ (x.drop = false ∧ x.kind = 1) := by
    unfold Ch.kind
    cases x.drop <;> simp
  have hb : x.bs = ((((le x.kind 1) ++ le x.hash 8) ++ le x.r.toNat 8) ++ le x.a.toNat 2) ++ le x.s.toNat 2 := rfl
  generalize x.bs = bs at hb ⊢
  generalize x.kind = kd at hk2 hb
  clear hx
  obtain ⟨d, h, r, a, s⟩ := x
  simp only [Ch.v] at hh r1 r2 a1 a2 s1 s2 hk2 hb ⊢
  obtain ⟨rn, rfl⟩ : ∃ n : Nat, r = (n : Int) := ⟨r.toNat, by omega⟩
  obtain ⟨an, rfl⟩ : ∃ n : Nat, a = (n : Int) := ⟨a.toNat, by omega⟩
  obtain ⟨sn, rfl⟩ : ∃ n : Nat, s = (n : Int) := ⟨s.toNat, by omega⟩
  simp only [Int.toNat_natCast] at hb
  have hA := (Keep.refl [] w).alloc (.cells #[.bool d, .int .u64 (h : Int), .int .i64 (rn : Int), .int .i64 (an : Int), .int .i64 (sn : Int)] 162)
  have hB := heap_alloc_new w (.cells #[.bool d, .int .u64 (h : Int), .int .i64 (rn : Int), .int .i64 (an : Int), .int .i64 (sn : Int)] 162)
  obtain ⟨w1, hw1⟩ : ∃ w1, w.alloc (.cells #[.bool d, .int .u64 (h : Int), .int .i64 (rn : Int), .int .i64 (an : Int), .int .i64 (sn : Int)] 162) = w1 := ⟨_, rfl⟩
  rw [hw1] at hA hB
  have hlt : ∀ b ∈ B, b < w.heap.size := by obtain ⟨v, h⟩ := hw; exact h.lt
  have hBn : w.heap.size ∉ B := fun hm => by have := hlt _ hm; omega
  have e1 : IntKind.u64.wrap (rn : Int) = (rn : Int) := by rw [u64_wrap]; omega
  have e2 : IntKind.u64.wrap (an : Int) = (an : Int) := by rw [u64_wrap]; omega
  have e3 : IntKind.u64.wrap (sn : Int) = (sn : Int) := by rw [u64_wrap]; omega
  obtain ⟨Bx, hBx⟩ : ∃ Bx, w.heap.size = Bx := ⟨_, rfl⟩
  have hs1 : Bx ≤ w1.heap.size := by rw [← hBx]; exact hA.size
  rw [hBx] at hB hBn
  have H1 := Lib.hid (And.intro (hw.keep hA (by simp)) (And.intro hB (And.intro hBn hA)))
  have HW1 := Lib.hid hw1
  have HBX := Lib.hid hBx
  have HB := Lib.hid hb
  -- behind each call the box stays
  have step : ∀ (B1 B2 : List Nat) (wa wb : World), Grew w B B1 → Keep B w wa → Bx ≤ wa.heap.size → Bx ∉ B1 → Grew wa B1 B2 → Keep B1 wa wb → (Bx < wa.heap.size) → Grew w B B2 ∧ Keep B w wb ∧ Bx ∉ B2 := fun B1 B2 wa wb g1 k1 h1 h2 g2 k2 h3 => by
    refine ⟨g1.trans g2 k1.size, ?_, fun hm => ?_⟩
    · refine ⟨k2.os.trans k1.os, k2.tape.trans k1.tape, k2.output.trans k1.output, Nat.le_trans k1.size k2.size, fun b hb hn => ?_⟩
      rw [k2.block b (Nat.lt_of_lt_of_le hb k1.size) (fun hm => ?_)]
      · exact k1.block b hb hn
      · rcases g1.2 b hm with h4 | h4
        · exact hn h4
        · omega
    · rcases g2.2 _ hm with h4 | h4
      · exact h2 h4
      · omega
  have STEP := Lib.hid step
  clear hw hA hB hBn hlt hw1 hBx hb step hs1
  have hsz : Bx < w1.heap.size := (Array.getElem?_eq_some_iff.1 H1.out.2.1).1
  rcases hk2 with ⟨rfl, rfl⟩ | ⟨rfl, rfl⟩
  · skip
    have b0 := cell_of_row w1 _ 0 _ _ _ H1.out.2.1
    simp at b0
    go_enter Try.func153, Try.ntmps153
    go_wp2_with fail
    rw [HW1.out, HBX.out]
    go_wp2_with fail
    have c := putB_any g lim B xs 2 1 (by decide) (.inl rfl) w1 H1.out.1 (by omega)
    rw [show ((2 : Nat) : Int) = 2 from rfl, show ((1 : Nat) : Int) = 1 from rfl] at c
    refine c.mono ?_
    clear c b0
    rintro e w2 ⟨rfl, B2, q2, g2, k2⟩
    have X2 := k2.blk H1.out.2.2.1 H1.out.2.1
    obtain ⟨G2, K2, N2⟩ := STEP.out B B2 w1 w2 (Grew.refl _ _) (H1.out.2.2.2.mono (by simp)) (Nat.le_of_lt hsz) H1.out.2.2.1 g2 k2 hsz
    have z2 : Bx < w2.heap.size := Nat.lt_of_lt_of_le hsz k2.size
    have b1 := cell_of_row w2 _ 1 _ _ _ X2
    simp at b1
    have H2 := Lib.hid (And.intro q2 (And.intro X2 (And.intro G2 (And.intro K2 N2))))
    clear q2 g2 k2 X2 G2 K2 N2
    go_wp2_with fail
    have c := putB_any g lim B2 (xs ++ le 2 1) h 8 hh (by simp) w2 H2.out.1 (by simp [le_len]; omega)
    rw [show ((8 : Nat) : Int) = 8 from rfl] at c
    refine c.mono ?_
    clear c b1
    rintro e w3 ⟨rfl, B3, q3, g3, k3⟩
    have X3 := k3.blk H2.out.2.2.2.2 H2.out.2.1
    obtain ⟨G3, K3, N3⟩ := STEP.out B2 B3 w2 w3 H2.out.2.2.1 H2.out.2.2.2.1 (Nat.le_of_lt z2) H2.out.2.2.2.2 g3 k3 z2
    have z3 : Bx < w3.heap.size := Nat.lt_of_lt_of_le z2 k3.size
    have b2 := cell_of_row w3 _ 2 _ _ _ X3
    simp at b2
    have H3 := Lib.hid (And.intro q3 (And.intro X3 (And.intro G3 (And.intro K3 N3))))
    clear q3 g3 k3 X3 G3 K3 N3 H2
    go_wp2_with fail
    have c := putB_any g lim B3 (xs ++ le 2 1 ++ le h 8) rn 8 (by omega) (by simp) w3 H3.out.1 (by simp [le_len]; omega)
    rw [show ((8 : Nat) : Int) = 8 from rfl] at c
    refine c.mono ?_
    clear c b2
    rintro e w4 ⟨rfl, B4, q4, g4, k4⟩
    have X4 := k4.blk H3.out.2.2.2.2 H3.out.2.1
    obtain ⟨G4, K4, N4⟩ := STEP.out B3 B4 w3 w4 H3.out.2.2.1 H3.out.2.2.2.1 (Nat.le_of_lt z3) H3.out.2.2.2.2 g4 k4 z3
    have z4 : Bx < w4.heap.size := Nat.lt_of_lt_of_le z3 k4.size
    have b3 := cell_of_row w4 _ 3 _ _ _ X4
    simp at b3
    have H4 := Lib.hid (And.intro q4 (And.intro X4 (And.intro G4 (And.intro K4 N4))))
    clear q4 g4 k4 X4 G4 K4 N4 H3
    go_wp2_with fail
    have c := putB_any g lim B4 (xs ++ le 2 1 ++ le h 8 ++ le rn 8) an 2 (by omega) (by simp) w4 H4.out.1 (by simp [le_len]; omega)
    rw [show ((2 : Nat) : Int) = 2 from rfl] at c
    refine c.mono ?_
    clear c b3
    rintro e w5 ⟨rfl, B5, q5, g5, k5⟩
    have X5 := k5.blk H4.out.2.2.2.2 H4.out.2.1
    obtain ⟨G5, K5, N5⟩ := STEP.out B4 B5 w4 w5 H4.out.2.2.1 H4.out.2.2.2.1 (Nat.le_of_lt z4) H4.out.2.2.2.2 g5 k5 z4
    have z5 : Bx < w5.heap.size := Nat.lt_of_lt_of_le z4 k5.size
    have b4 := cell_of_row w5 _ 4 _ _ _ X5
    simp at b4
    have H5 := Lib.hid (And.intro q5 (And.intro X5 (And.intro G5 (And.intro K5 N5))))
    clear q5 g5 k5 X5 G5 K5 N5 H4
    go_wp2_with fail
    have c := putB_any g lim B5 (xs ++ le 2 1 ++ le h 8 ++ le rn 8 ++ le an 2) sn 2 (by omega) (by simp) w5 H5.out.1 (by simp [le_len]; omega)
    rw [show ((2 : Nat) : Int) = 2 from rfl] at c
    refine c.mono ?_
    clear c b4
    rintro e w6 ⟨rfl, B6, q6, g6, k6⟩
    obtain ⟨G6, K6, N6⟩ := STEP.out B5 B6 w5 w6 H5.out.2.2.1 H5.out.2.2.2.1 (Nat.le_of_lt z5) H5.out.2.2.2.2 g6 k6 z5
    have H6 := Lib.hid (And.intro q6 (And.intro G6 K6))
    clear q6 g6 k6 G6 K6 N6 H5
    go_wp2_with fail
    go_end0
    refine ⟨rfl, B6, ?_, H6.out.2.1, H6.out.2.2⟩
    rw [HB.out]
    simpa only [List.append_assoc] using H6.out.1
  · skip
    have b0 := cell_of_row w1 _ 0 _ _ _ H1.out.2.1
    simp at b0
    go_enter Try.func153, Try.ntmps153
    go_wp2_with fail
    rw [HW1.out, HBX.out]
    go_wp2_with fail
    have c := putB_any g lim B xs 1 1 (by decide) (.inl rfl) w1 H1.out.1 (by omega)
    rw [show ((1 : Nat) : Int) = 1 from rfl] at c
    refine c.mono ?_
    clear c b0
    rintro e w2 ⟨rfl, B2, q2, g2, k2⟩
    have X2 := k2.blk H1.out.2.2.1 H1.out.2.1
    obtain ⟨G2, K2, N2⟩ := STEP.out B B2 w1 w2 (Grew.refl _ _) (H1.out.2.2.2.mono (by simp)) (Nat.le_of_lt hsz) H1.out.2.2.1 g2 k2 hsz
    have z2 : Bx < w2.heap.size := Nat.lt_of_lt_of_le hsz k2.size
    have b1 := cell_of_row w2 _ 1 _ _ _ X2
    simp at b1
    have H2 := Lib.hid (And.intro q2 (And.intro X2 (And.intro G2 (And.intro K2 N2))))
    clear q2 g2 k2 X2 G2 K2 N2
    go_wp2_with fail
    have c := putB_any g lim B2 (xs ++ le 1 1) h 8 hh (by simp) w2 H2.out.1 (by simp [le_len]; omega)
    rw [show ((8 : Nat) : Int) = 8 from rfl] at c
    refine c.mono ?_
    clear c b1
    rintro e w3 ⟨rfl, B3, q3, g3, k3⟩
    have X3 := k3.blk H2.out.2.2.2.2 H2.out.2.1
    obtain ⟨G3, K3, N3⟩ := STEP.out B2 B3 w2 w3 H2.out.2.2.1 H2.out.2.2.2.1 (Nat.le_of_lt z2) H2.out.2.2.2.2 g3 k3 z2
    have z3 : Bx < w3.heap.size := Nat.lt_of_lt_of_le z2 k3.size
    have b2 := cell_of_row w3 _ 2 _ _ _ X3
    simp at b2
    have H3 := Lib.hid (And.intro q3 (And.intro X3 (And.intro G3 (And.intro K3 N3))))
    clear q3 g3 k3 X3 G3 K3 N3 H2
    go_wp2_with fail
    have c := putB_any g lim B3 (xs ++ le 1 1 ++ le h 8) rn 8 (by omega) (by simp) w3 H3.out.1 (by simp [le_len]; omega)
    rw [show ((8 : Nat) : Int) = 8 from rfl] at c
    refine c.mono ?_
    clear c b2
    rintro e w4 ⟨rfl, B4, q4, g4, k4⟩
    have X4 := k4.blk H3.out.2.2.2.2 H3.out.2.1
    obtain ⟨G4, K4, N4⟩ := STEP.out B3 B4 w3 w4 H3.out.2.2.1 H3.out.2.2.2.1 (Nat.le_of_lt z3) H3.out.2.2.2.2 g4 k4 z3
    have z4 : Bx < w4.heap.size := Nat.lt_of_lt_of_le z3 k4.size
    have b3 := cell_of_row w4 _ 3 _ _ _ X4
    simp at b3
    have H4 := Lib.hid (And.intro q4 (And.intro X4 (And.intro G4 (And.intro K4 N4))))
    clear q4 g4 k4 X4 G4 K4 N4 H3
    go_wp2_with fail
    have c := putB_any g lim B4 (xs ++ le 1 1 ++ le h 8 ++ le rn 8) an 2 (by omega) (by simp) w4 H4.out.1 (by simp [le_len]; omega)
    rw [show ((2 : Nat) : Int) = 2 from rfl] at c
    refine c.mono ?_
    clear c b3
    rintro e w5 ⟨rfl, B5, q5, g5, k5⟩
    have X5 := k5.blk H4.out.2.2.2.2 H4.out.2.1
    obtain ⟨G5, K5, N5⟩ := STEP.out B4 B5 w4 w5 H4.out.2.2.1 H4.out.2.2.2.1 (Nat.le_of_lt z4) H4.out.2.2.2.2 g5 k5 z4
    have z5 : Bx < w5.heap.size := Nat.lt_of_lt_of_le z4 k5.size
    have b4 := cell_of_row w5 _ 4 _ _ _ X5
    simp at b4
    have H5 := Lib.hid (And.intro q5 (And.intro X5 (And.intro G5 (And.intro K5 N5))))
    clear q5 g5 k5 X5 G5 K5 N5 H4
    go_wp2_with fail
    have c := putB_any g lim B5 (xs ++ le 1 1 ++ le h 8 ++ le rn 8 ++ le an 2) sn 2 (by omega) (by simp) w5 H5.out.1 (by simp [le_len]; omega)
    rw [show ((2 : Nat) : Int) = 2 from rfl] at c
    refine c.mono ?_
    clear c b4
    rintro e w6 ⟨rfl, B6, q6, g6, k6⟩
    obtain ⟨G6, K6, N6⟩ := STEP.out B5 B6 w5 w6 H5.out.2.2.1 H5.out.2.2.2.1 (Nat.le_of_lt z5) H5.out.2.2.2.2 g6 k6 z5
    have H6 := Lib.hid (And.intro q6 (And.intro G6 K6))
    clear q6 g6 k6 G6 K6 N6 H5
    go_wp2_with fail
    go_end0
    refine ⟨rfl, B6, ?_, H6.out.2.1, H6.out.2.2⟩
    rw [HB.out]
    simpa only [List.append_assoc] using H6.out.1
end Go.Proofs.Ytjkjiabfhhnngaa

/-! The walks of delta's write, Add and Flush. -/
namespace Go.Proofs.Ytjkjiabfhhnngaa
open Go.RowKit Sg
set_option linter.unusedSimpArgs false
set_option linter.unusedVariables false

/-- what a sector of a log holds -/
def dload (t : Nat) (p : List Ch) : List UInt8 := (le t 8 ++ le p.length 1) ++ p.flatMap Ch.bs
theorem flat_bs_len (p : List Ch) : (p.flatMap Ch.bs).length = p.length * 21 := by
  induction p with
  | nil => rfl
  | cons x p ih => rw [List.flatMap_cons, List.length_append, ih, Ch.bs_len, List.length_cons]; omega
theorem dload_len (t : Nat) (p : List Ch) : (dload t p).length = 9 + p.length * 21 := by
  unfold dload
  rw [List.length_append, List.length_append, le_len, le_len, flat_bs_len]
/-- changes that may be written -/
structure GoodC (p : List Ch) : Prop where
  r : ∀ x ∈ p, x.Right
  h : ∀ x ∈ p, x.hash < 18446744073709551616
structure DLAt (w : World) (D E : List Nat) (gl g : Nat) (c : Dc) (l : Dl) (m : Dev) (pv : Value) : Prop where
  dv : DV w D g m
  row : RowG w gl c g l pv
  own : CRow w 0 pv l.pend
  inE : inD E pv
  gl : gl ∈ E
  apart : ∀ b ∈ E, b ∉ D
  lt : ∀ b ∈ E, b < w.heap.size
  ok : c.Ok m
def DL (w : World) (D E : List Nat) (gl g : Nat) (c : Dc) (l : Dl) (m : Dev) : Prop := ∃ pv, DLAt w D E gl g c l m pv
/-- where a log may be -/
structure Dl.Fit (c : Dc) (l : Dl) : Prop where
  f1 : 1 ≤ l.fr
  fn : l.fr ≤ l.nx
  nb : l.nx ≤ 1099511628032
  p : l.pend.length ≤ c.per
  t : l.tm ≤ 281474976710656
  good : GoodC l.pend
section
variable {w w' : World} {D D' E E' S : List Nat} {gl g : Nat} {c : Dc} {l l' : Dl} {m m' : Dev} {pv pv' : Value}
theorem DLAt.ne (h : DLAt w D E gl g c l m pv) : ∀ b, pv.ownBlock = some b → b ≠ gl := fun b hb e => by
  subst e
  exact h.own.ne h.row (by decide) hb
theorem DLAt.keep (h : DLAt w D E gl g c l m pv) (k : Keep S w w') (hS : ∀ b ∈ S, b ∉ D ∧ b ∉ E) : DLAt w' D E gl g c l m pv :=
  { dv := h.dv.keep k (fun b hb => (hS b hb).1), row := h.row.keep k (fun hm => (hS _ hm).2 h.gl), own := h.own.keep k (fun b hb hm => (hS b hm).2 (h.inE b hb)), inE := h.inE, gl := h.gl, apart := h.apart, lt := fun b hb => Nat.lt_of_lt_of_le (h.lt b hb) k.size, ok := h.ok }
theorem DL.keep (h : DL w D E gl g c l m) (k : Keep S w w') (hS : ∀ b ∈ S, b ∉ D ∧ b ∉ E) : DL w' D E gl g c l m := by
  obtain ⟨pv, h⟩ := h
  exact ⟨pv, h.keep k hS⟩
theorem DLAt.turn (h : DLAt w D E gl g c l m pv) (k : Keep S w w') (hS : ∀ b ∈ S, b = gl ∨ pv.ownBlock = some b ∨ w.heap.size ≤ b) (hr : RowG w' gl c g l' pv') (ho : CRow w' 0 pv' l'.pend) (hE : ∀ b ∈ E, b ∈ E') (hE2 : ∀ b ∈ E', b ∈ E ∨ (w.heap.size ≤ b ∧ b < w'.heap.size)) (hi : inD E' pv') : DLAt w' D E' gl g c l' m pv' := by
  have hlt := h.dv.lt
  refine { dv := h.dv.keep k (fun b hb hm => ?_), row := hr, own := ho, inE := hi, gl := hE _ h.gl, apart := fun b hb hm => ?_, lt := fun b hb => ?_, ok := h.ok }
  · rcases hS b hb with rfl | e | e
    · exact h.apart _ h.gl hm
    · exact h.apart _ (h.inE b e) hm
    · have := hlt b hm; omega
  · rcases hE2 b hb with h1 | h1
    · exact h.apart b h1 hm
    · have := hlt b hm; omega
  · rcases hE2 b hb with h1 | h1
    · exact Nat.lt_of_lt_of_le (h.lt b h1) k.size
    · exact h1.2
/-- what a call upon a log has done -/
def DlStep (w : World) (D E : List Nat) (gl g : Nat) (c : Dc) (l' : Dl) (m' : Dev) (w' : World) : Prop := ∃ D' E', DL w' D' E' gl g c l' m' ∧ Grew w D D' ∧ Grew w E E' ∧ Keep (E ++ D) w w'
theorem DlStep.trans {w w1 w2 : World} {l1 l2 : Dl} {m1 m2 : Dev} (h : DlStep w D E gl g c l1 m1 w1) (k : ∀ D1 E1, DL w1 D1 E1 gl g c l1 m1 → DlStep w1 D1 E1 gl g c l2 m2 w2) : DlStep w D E gl g c l2 m2 w2 := by
  obtain ⟨D1, E1, h1, g1, g2, k1⟩ := h
  obtain ⟨D2, E2, h2, g3, g4, k2⟩ := k D1 E1 h1
  refine ⟨D2, E2, h2, g1.trans g3 k1.size, g2.trans g4 k1.size, keep_bump k1 k2 (fun b hb => ?_)⟩
  rcases List.mem_append.1 hb with hb | hb
  · exact (g2.2 b hb).elim (fun h => .inl (List.mem_append_left _ h)) .inr
  · exact (g1.2 b hb).elim (fun h => .inl (List.mem_append_right _ h)) .inr
theorem DlStep.join {w w1 w2 : World} {D1 E1 : List Nat} {l2 : Dl} {m2 : Dev} (g1 : Grew w D D1) (g2 : Grew w E E1) (k1 : Keep (E ++ D) w w1) (h : DlStep w1 D1 E1 gl g c l2 m2 w2) : DlStep w D E gl g c l2 m2 w2 := by
  obtain ⟨D2, E2, h2, g3, g4, k2⟩ := h
  refine ⟨D2, E2, h2, g1.trans g3 k1.size, g2.trans g4 k1.size, keep_bump k1 k2 (fun b hb => ?_)⟩
  rcases List.mem_append.1 hb with hb | hb
  · exact (g2.2 b hb).elim (fun h => .inl (List.mem_append_left _ h)) .inr
  · exact (g1.2 b hb).elim (fun h => .inl (List.mem_append_right _ h)) .inr
theorem DlStep.of {w w1 w2 : World} {l2 : Dl} {m2 : Dev} (k : Keep [] w w1) (h : DlStep w1 D E gl g c l2 m2 w2) : DlStep w D E gl g c l2 m2 w2 := by
  obtain ⟨D2, E2, h2, g3, g4, k2⟩ := h
  exact ⟨D2, E2, h2, ⟨g3.1, fun b hb => (g3.2 b hb).elim .inl (fun h => .inr (Nat.le_trans k.size h))⟩, ⟨g4.1, fun b hb => (g4.2 b hb).elim .inl (fun h => .inr (Nat.le_trans k.size h))⟩, (k.mono (by simp)).trans k2⟩
theorem Dc.Ok.of {c : Dc} {m m' : Dev} (h : c.Ok m) (h1 : m'.n = m.n) (h2 : m'.sz = m.sz) : c.Ok m' := ⟨h.s1, h.s2, h.z1, h.z2, by rw [h2]; exact h.sz, h.p1, h.p2, by rw [h1]; exact h.top⟩
end
/-- the sector under way is written -/
def Dc.wr (c : Dc) (l : Dl) (m : Dev) (t : Nat) : Dl × Dev × Int :=
  ({ l with nx := l.nx + 1, tm := t, pend := [] }, lput m ((c.first + l.nx % c.S : Nat) : Int) 4 ((l.nx % c.S : Nat) : Int) (l.nx : Int) (dload t l.pend))

set_option maxRecDepth 100000 in
set_option maxHeartbeats 1000000 in
set_option maxHeartbeats 8000000 in
theorem writeDl_any (w : World) (D E : List Nat) (gl g : Nat) (c : Dc) (l : Dl) (m : Dev) (h : DL w D E gl g c l m) (hf : l.Fit c) (hacts : m.acts ≤ 1000000000) (hn : l.nx < 1099511628032) (t : Nat) (ht : t ≤ 281474976710656) :
    Calls Try.prog 123 #[.pointer (some ⟨gl, 0, none⟩), .int .i64 (t : Int)] w fun e w' => e = .returned (.int .i64 (c.wr l m t).2.2) ∧ DlStep w D E gl g c (c.wr l m t).1 (c.wr l m t).2.1 w' := by
  obtain ⟨pv, h⟩ := h
  obtain ⟨pa, pc, rfl⟩ := h.own.form
  have hper := hf.p
  have p1 := h.ok.p1
  have p2 := h.ok.p2
  have z1 := h.ok.z1
  have z2 := h.ok.z2
  have s1 := h.ok.s1
  have s2 := h.ok.s2
  have hroom := room_any (c.sz : Int)
  rw [if_pos (by omega)] at hroom
  obtain ⟨N, hN⟩ : ∃ N, l.pend.length = N := ⟨_, rfl⟩
  have hN2 : N * 21 + 28 ≤ c.sz := by rw [hN] at hper; have := Nat.mul_le_mul_right 21 hper; omega
  obtain ⟨at_, hat⟩ : ∃ at_, l.nx % c.S = at_ := ⟨_, rfl⟩
  have hat2 : at_ < c.S := by rw [← hat]; exact Nat.mod_lt _ (by omega)
  have hwr : c.wr l m t = ({ l with nx := l.nx + 1, tm := t, pend := [] }, lput m ((c.first + at_ : Nat) : Int) 4 (at_ : Int) (l.nx : Int) (dload t l.pend)) := by unfold Dc.wr; rw [hat]
  rw [hwr]
  have y1 : IntKind.i64.wrap ((c.sz : Int) - 19) = ((c.sz - 19 : Nat) : Int) := by rw [i64_wrap (by omega) (by omega)]; omega
  have y2 : (c.sz : Int) - 19 = ((c.sz - 19 : Nat) : Int) := by omega
  have yt : IntKind.u64.wrap (t : Int) = (t : Int) := by rw [u64_wrap]; omega
  have yn : IntKind.u64.wrap (N : Int) = (N : Int) := by rw [u64_wrap]; omega
  rw [y2] at hroom
  have h0 := h
  rw [hN] at h0
  have k2 := h0.row.k2
  have k13 := h0.row.k13
  have HN := Lib.hid hN
  have H := Lib.hid (And.intro h0 (And.intro hf.good hroom))
  have HAT := Lib.hid hat
  clear h h0 hf hroom hN hat hwr y2 hper
  go_enter Try.func123, Try.ntmps123
  go_wp2_with fail
  refine (H.out.2.2 _).mono ?_
  rintro e w1 ⟨rfl, rfl⟩
  go_wp2_with fail
  refine (newWB_any (c.sz - 19) (by omega) _).mono ?_
  rintro e w2 ⟨gw, B2, rfl, hW2, hB2, hk2⟩
  have HW2 := Lib.hid (And.intro hW2 (And.intro hB2 hk2))
  clear hW2 hB2 hk2 k2 k13
  go_wp2_with fail
  have c1 := putB_any gw (c.sz - 19) B2 [] t 8 (by omega) (by simp) w2 HW2.out.1 (by simp; omega)
  rw [show ((8 : Nat) : Int) = 8 from rfl] at c1
  refine c1.mono ?_
  clear c1
  rintro e w3 ⟨rfl, B3, hW3, hG3, hk3⟩
  have hB3 : ∀ b ∈ B3, w.heap.size ≤ b := fun b hb => (hG3.2 b hb).elim (HW2.out.2.1 b) (Nat.le_trans HW2.out.2.2.size)
  have hk03 : Keep [] w w3 := HW2.out.2.2.trans' hk3 (fun b hb => .inr (HW2.out.2.1 b hb))
  have r13 := (H.out.1.row.keep hk03 (by simp)).k13
  have HW3 := Lib.hid (And.intro hW3 (And.intro hB3 hk03))
  clear hW3 hG3 hk3 hB3 hk03 HW2
  go_wp2_with fail
  have c1 := putB_any gw (c.sz - 19) B3 ([] ++ le t 8) N 1 (by omega) (by simp) w3 HW3.out.1 (by simp [le_len]; omega)
  rw [show ((1 : Nat) : Int) = 1 from rfl] at c1
  refine c1.mono ?_
  clear c1 r13
  rintro e w4 ⟨rfl, B4, hW4, hG4, hk4⟩
  have hB4 : ∀ b ∈ B4, w.heap.size ≤ b := fun b hb => (hG4.2 b hb).elim (HW3.out.2.1 b) (Nat.le_trans HW3.out.2.2.size)
  have hk04 : Keep [] w w4 := HW3.out.2.2.trans' hk4 (fun b hb => .inr (HW3.out.2.1 b hb))
  have r13 := (H.out.1.row.keep hk04 (by simp)).k13
  have HW4 := Lib.hid (And.intro hW4 (And.intro hB4 hk04))
  clear hW4 hG4 hk4 hB4 hk04 HW3
  go_wp2_with fail
  clear r13
  go_loopw [7, 34] (fun _ i wr => ∃ (k : Nat) (B : List Nat), k ≤ N ∧ i = .int .i64 (k : Int) ∧ Hid (WB wr gw (c.sz - 19) B ((le t 8 ++ le N 1) ++ (l.pend.take k).flatMap Ch.bs) ∧ (∀ b ∈ B, w.heap.size ≤ b) ∧ Keep [] w wr)) (fun _ i _ => N - (intOf i).toNat)
  case atStart => exact ⟨0, B4, by omega, rfl, Lib.hid ⟨by simpa using HW4.out.1, HW4.out.2⟩⟩
  case round =>
    clear HW4
    obtain ⟨k, B, hk, rfl, hP⟩ := hrel
    rename World => wr
    by_cases hkN : k < N
    case pos =>
      have hkl : k < l.pend.length := by rw [HN.out]; exact hkN
      obtain ⟨gp, e, -, hcell⟩ := RowE.cells clies H.out.1.own (i := k) hkl
      subst e
      obtain ⟨x, hx⟩ : ∃ x, l.pend[k] = x := ⟨_, rfl⟩
      rw [hx] at hcell
      have hxr := H.out.2.1.r x (by rw [← hx]; exact List.getElem_mem hkl)
      have hxh := H.out.2.1.h x (by rw [← hx]; exact List.getElem_mem hkl)
      have htk : l.pend.take (k + 1) = l.pend.take k ++ [x] := by rw [← hx, List.take_append_getElem hkl]
      have x0 := hP.out.2.2.cell (by simp) (hcell 0 _ rfl)
      have x1 := hP.out.2.2.cell (by simp) (hcell 1 _ rfl)
      have x2 := hP.out.2.2.cell (by simp) (hcell 2 _ rfl)
      have x3 := hP.out.2.2.cell (by simp) (hcell 3 _ rfl)
      have x4 := hP.out.2.2.cell (by simp) (hcell 4 _ rfl)
      simp at x0
      have HX := Lib.hid (And.intro hxr (And.intro hxh htk))
      have hkN' : (k : Int) < (N : Int) := by omega
      have hlt : ∀ b ∈ B, b < wr.heap.size := by obtain ⟨⟨v, h⟩, -⟩ := hP.out; exact h.lt
      have HLT := Lib.hid hlt
      have hlk : (l.pend.take k).length = k := by rw [List.length_take]; omega
      have hfl := flat_bs_len (l.pend.take k)
      rw [hlk] at hfl
      have hfit : ((le t 8 ++ le N 1) ++ (l.pend.take k).flatMap Ch.bs).length + 21 ≤ c.sz - 19 := by
        rw [List.length_append, hfl, List.length_append, le_len, le_len]
        omega
      have hA := (Keep.refl [] wr).alloc (.cells #[.bool x.drop, .int .u64 (x.hash : Int), .int .i64 x.r, .int .i64 x.a, .int .i64 x.s] 162)
      have cW := chWrite_any gw (c.sz - 19) B _ x hxr hxh _ (hP.out.1.keep hA (by simp)) hfit
      have HC := Lib.hid (And.intro cW hA)
      clear hcell hxr hxh htk hlt hlk hfl hfit hA cW hx
      go_wp2_with fail
      refine HC.out.1.mono ?_
      rintro e w6 ⟨rfl, B6, hW6, hG6, hk6⟩
      have hB6 : ∀ b ∈ B6, w.heap.size ≤ b := fun b hb => (hG6.2 b hb).elim (hP.out.2.1 b) (fun h => Nat.le_trans hP.out.2.2.size (Nat.le_trans HC.out.2.size h))
      have hk06 : Keep [] w w6 := (hP.out.2.2.trans HC.out.2).trans' hk6 (fun b hb => .inr (hP.out.2.1 b hb))
      have hW6' : WB w6 gw (c.sz - 19) B6 ((le t 8 ++ le N 1) ++ (l.pend.take (k + 1)).flatMap Ch.bs) := by
        rw [HX.out.2.2, List.flatMap_append, ← List.append_assoc]
        simpa using hW6
      have HW6 := Lib.hid (And.intro hW6' (And.intro hB6 hk06))
      clear hW6 hG6 hk6 hB6 hk06 hW6' HC x0 x1 x2 x3 x4
      go_wp2
      go_roundw
      case rel => exact ⟨k + 1, B6, by omega, by go_num, HW6⟩
      case measure => simp [intOf]; omega
    case neg =>
      obtain rfl : k = N := by omega
      have hkN' : ¬ (k : Int) < (k : Int) := by omega
      have hload : (le t 8 ++ le k 1) ++ (l.pend.take k).flatMap Ch.bs = dload t l.pend := by
        unfold dload
        rw [HN.out, List.take_of_length_le (by rw [HN.out]; exact Nat.le_refl _)]
      have hP2 := hP.out
      rw [hload] at hP2
      have HP2 := Lib.hid hP2
      clear hP hload hP2
      go_wp2_with fail
      have y3 : ((l.nx : Int)).tmod (c.S : Int) = (at_ : Int) := by rw [Int.tmod_eq_emod_of_nonneg (by omega), ← HAT.out]; rfl
      have y4 : IntKind.i64.wrap (at_ : Int) = (at_ : Int) := i64_wrap (by omega) (by omega)
      have u1 : ¬ ((c.S : Int) = 0) := by omega
      have u2 : ((c.S : Int) == 0) = false := beq_false_of_ne u1
      have u3 : ¬ (c.S = 0) := by omega
      refine wp_region_his [] [] (fun _ => 0) (by kernel_rfl) (by kernel_rfl) ?_
      intro w5 hk5 hh
      clear hh
      have r12 := fun w' (h : Keep [] w5 w') => (H.out.1.row.keep (HP2.out.2.2.trans (hk5.trans h)) (by simp)).k12
      have r5 := fun w' (h : Keep [] w5 w') => (H.out.1.row.keep (HP2.out.2.2.trans (hk5.trans h)) (by simp)).k5
      have HW5 := Lib.hid (And.intro (HP2.out.1.keep hk5 (by simp)) (And.intro HP2.out.2.1 (HP2.out.2.2.trans hk5)))
      clear hk5 HP2
      (repeat (first | (refine his_q rfl rfl (fun K hK => ?_); apply Exists.intro; refine ⟨fun w' hC => ?_, ?_⟩; ((try simp [Sg.upd] at hC); go_simp <;> rfl); go_simp; refine hK _ _ ?_; clear hK K) | (refine his_s rfl (fun K hK => ?_); go_simp; refine hK _ _ ?_; clear hK K)))
      refine his_nil ?_
      clear r12 r5 y3 y4 u1 u2 u3
      obtain ⟨LD, hLD⟩ : ∃ LD, dload t l.pend = LD := ⟨_, rfl⟩
      have hLDl : LD.length = 9 + k * 21 := by rw [← hLD, dload_len, HN.out]
      obtain ⟨M, hM⟩ : ∃ M, LD.length = M := ⟨_, rfl⟩
      have hM2 : M ≤ 500 := by omega
      have cB := fun w' (h : Keep [] w5 w') => wbytesB_any gw (c.sz - 19) B LD w' (by rw [← hLD]; exact HW5.out.1.keep h (by simp))
      have HLD := Lib.hid (And.intro hLD (And.intro hM cB))
      clear hLDl hLD hM cB
      go_wp2_with fail
      go_cut [9] from 52 to 59 (fun s9 wx => ∃ (xb : Nat) (va : Option Addr) (vc : Nat), s9 = .pointer (some ⟨xb, 0, none⟩) ∧ Hid (wx.heap[xb]? = some (.cells #[.int .i64 4, .int .i64 (at_ : Int), .int .i64 (l.nx : Int), .slice va M vc] 74 (0, 0)) ∧ Bytes wx (.slice va M vc) LD ∧ Keep [] w5 wx ∧ w5.heap.size ≤ xb ∧ ∀ b, (Value.slice va M vc).ownBlock = some b → w5.heap.size ≤ b))
      case first =>
        refine wp_region_flo (Since w5) (Since.tr w5) (Since.rf w5) 8 _ [6, 9] (fun _ => 0) (by kernel_rfl) rfl (by kernel_rfl) ?_
        intro w6 hk6 hh6
        have r12 := fun w' (h' : Since w5 w6 w') => (H.out.1.row.keep (HW5.out.2.2.trans (h' hk6)) (by simp)).k12
        have hs6 : w5.heap.size ≤ w6.heap.size := hk6.size
        clear hh6
        (repeat (first | (refine flo_q (by kernel_rfl) (by kernel_rfl) (by kernel_rfl) rfl (fun K hK => ?_); apply Exists.intro; refine ⟨fun w' hC => ?_, ?_⟩; ((try simp [Sg.upd] at hC); go_simp <;> rfl); go_simp; refine hK _ _ ?_; clear hK K) | (refine flo_s (by kernel_rfl) (by kernel_rfl) rfl (fun K hK => ?_); go_simp; refine hK _ _ ?_; clear hK K) | refine flo_skip rfl ?_))
        refine flo_two (by kernel_rfl) (by kernel_rfl) (by kernel_rfl) (by kernel_rfl) rfl rfl (fun K hK => ?_) (fun K hK => ?_)
        · skip
          go_simp
          have hA7 := (Keep.refl [] w6).alloc (.cells #[.int .i64 0, .int .i64 0, .int .i64 0, .slice none 0 0] 74)
          have hX7 := heap_alloc_new w6 (.cells #[.int .i64 0, .int .i64 0, .int .i64 0, .slice none 0 0] 74)
          refine hK _ _ (fun x => x.trans hA7) ?_
          clear hK K
          have hS7 := hk6.trans hA7
          generalize w6.alloc (.cells #[.int .i64 0, .int .i64 0, .int .i64 0, .slice none 0 0] 74) = w7 at *
          refine flo_l (by kernel_rfl) (by kernel_rfl) rfl (fun K hK => ?_)
          go_simp
          refine (HLD.out.2.2 _ hS7).mono ?_
          rintro x w8 ⟨v8, rfl, ho8, k8⟩
          refine hK _ _ (fun x => x.trans k8) ?_
          clear hK K
          have hS8 := hS7.trans k8
          have hX8 := k8.blk (by simp) hX7
          have hb8 := ho8.bytes (by rw [HLD.out.2.1]; omega)
          obtain ⟨va, vc, rfl⟩ := ownsRow_form ho8
          rw [HLD.out.2.1] at hb8 ho8 ⊢
          (repeat (first | (refine flo_q (by kernel_rfl) (by kernel_rfl) (by kernel_rfl) rfl (fun K hK => ?_); apply Exists.intro; refine ⟨fun w' hC => ?_, ?_⟩; ((try simp [Sg.upd] at hC); go_simp <;> rfl); go_simp; refine hK _ _ ?_; clear hK K) | (refine flo_s (by kernel_rfl) (by kernel_rfl) rfl (fun K hK => ?_); go_simp; refine hK _ _ ?_; clear hK K) | refine flo_skip rfl ?_))
          refine flo_l (by kernel_rfl) (by kernel_rfl) rfl (fun K hK => ?_)
          refine loudly_store_row 74 (.tmp 9) (.tmp 59) rfl w6.heap.size #[.int .i64 4, .int .i64 (at_ : Int), .int .i64 (l.nx : Int), .slice va M vc] rfl rfl 74 _ hX8 (by kernel_rfl) (by rfl) (by kernel_rfl) ?_
          refine hK _ _ (fun x => Keep.setRow x (g := w6.heap.size) (.inr hs6) _) ?_
          clear hK K
          have HR := Lib.hid (And.intro (setRow_heap _ _ _ #[.int .i64 4, .int .i64 (at_ : Int), .int .i64 (l.nx : Int), .slice va M vc] _ _ hX8) (And.intro (bytes_setRow hb8 (g := w6.heap.size) (fun hne e => by have := (rowLt ho8 e).2.1; have := (Array.getElem?_eq_some_iff.1 hX7).1; omega) #[.int .i64 4, .int .i64 (at_ : Int), .int .i64 (l.nx : Int), .slice va M vc]) (And.intro (Keep.setRow hS8 (g := w6.heap.size) (.inr hs6) #[.int .i64 4, .int .i64 (at_ : Int), .int .i64 (l.nx : Int), .slice va M vc]) (And.intro hs6 (fun b (hb : (Value.slice va M vc).ownBlock = some b) => Nat.le_trans hS7.size (rowLt ho8 hb).2.1)))))
          (repeat (first | (refine flo_q (by kernel_rfl) (by kernel_rfl) (by kernel_rfl) rfl (fun K hK => ?_); apply Exists.intro; refine ⟨fun w' hC => ?_, ?_⟩; ((try simp [Sg.upd] at hC); go_simp <;> rfl); go_simp; refine hK _ _ ?_; clear hK K) | (refine flo_s (by kernel_rfl) (by kernel_rfl) rfl (fun K hK => ?_); go_simp; refine hK _ _ ?_; clear hK K) | refine flo_skip rfl ?_))
          refine flo_nil ?_
          clear r12
          go_wp2_with fail
          go_meet
          case rel => exact ⟨_, va, vc, rfl, HR⟩
        · skip
          go_simp
          refine (HLD.out.2.2 _ hk6).mono ?_
          rintro x w8 ⟨v8, rfl, ho8, k8⟩
          refine hK _ _ (fun x => x.trans k8) ?_
          clear hK K
          have hS8 := hk6.trans k8
          have hb8 := ho8.bytes (by rw [HLD.out.2.1]; omega)
          obtain ⟨va, vc, rfl⟩ := ownsRow_form ho8
          rw [HLD.out.2.1] at hb8 ho8 ⊢
          (repeat (first | (refine flo_q (by kernel_rfl) (by kernel_rfl) (by kernel_rfl) rfl (fun K hK => ?_); apply Exists.intro; refine ⟨fun w' hC => ?_, ?_⟩; ((try simp [Sg.upd] at hC); go_simp <;> rfl); go_simp; refine hK _ _ ?_; clear hK K) | (refine flo_s (by kernel_rfl) (by kernel_rfl) rfl (fun K hK => ?_); go_simp; refine hK _ _ ?_; clear hK K) | refine flo_skip rfl ?_))
          (refine flo_w (by kernel_rfl) (by kernel_rfl) (by kernel_rfl) rfl (fun K hK => ?_); go_simp)
          have hA9 := (Keep.refl [] w8).alloc (.cells #[.int .i64 0, .int .i64 0, .int .i64 0, .slice none 0 0] 74)
          have hX9 := heap_alloc_new w8 (.cells #[.int .i64 0, .int .i64 0, .int .i64 0, .slice none 0 0] 74)
          refine hK _ _ (fun x => x.trans hA9) ?_
          clear hK K
          have hS9 := hS8.trans hA9
          have hb9 := hb8.keep hA9 (by simp)
          have hs8 : w5.heap.size ≤ w8.heap.size := hS8.size
          have ho9 : ∀ b, (Value.slice va M vc).ownBlock = some b → w6.heap.size ≤ b ∧ b < w8.heap.size := fun b hb => ⟨(rowLt ho8 hb).2.1, (rowLt ho8 hb).1⟩
          generalize w8.alloc (.cells #[.int .i64 0, .int .i64 0, .int .i64 0, .slice none 0 0] 74) = w9 at *
          refine flo_l (by kernel_rfl) (by kernel_rfl) rfl (fun K hK => ?_)
          refine loudly_store_row 74 (.tmp 9) (.tmp 59) rfl w8.heap.size #[.int .i64 4, .int .i64 (at_ : Int), .int .i64 (l.nx : Int), .slice va M vc] rfl rfl 74 _ hX9 (by kernel_rfl) (by rfl) (by kernel_rfl) ?_
          refine hK _ _ (fun x => Keep.setRow x (g := w8.heap.size) (.inr hs8) _) ?_
          clear hK K
          have HR := Lib.hid (And.intro (setRow_heap _ _ _ #[.int .i64 4, .int .i64 (at_ : Int), .int .i64 (l.nx : Int), .slice va M vc] _ _ hX9) (And.intro (bytes_setRow hb9 (g := w8.heap.size) (fun hne e => by have := (ho9 _ e).2; omega) #[.int .i64 4, .int .i64 (at_ : Int), .int .i64 (l.nx : Int), .slice va M vc]) (And.intro (Keep.setRow hS9 (g := w8.heap.size) (.inr hs8) #[.int .i64 4, .int .i64 (at_ : Int), .int .i64 (l.nx : Int), .slice va M vc]) (And.intro hs8 (fun b (hb : (Value.slice va M vc).ownBlock = some b) => Nat.le_trans hs6 (ho9 b hb).1)))))
          (repeat (first | (refine flo_q (by kernel_rfl) (by kernel_rfl) (by kernel_rfl) rfl (fun K hK => ?_); apply Exists.intro; refine ⟨fun w' hC => ?_, ?_⟩; ((try simp [Sg.upd] at hC); go_simp <;> rfl); go_simp; refine hK _ _ ?_; clear hK K) | (refine flo_s (by kernel_rfl) (by kernel_rfl) rfl (fun K hK => ?_); go_simp; refine hK _ _ ?_; clear hK K) | refine flo_skip rfl ?_))
          refine flo_nil ?_
          clear r12
          go_wp2_with fail
          go_meet
          case rel => exact ⟨_, va, vc, rfl, HR⟩
      case rest =>
      rename World => wx
      obtain ⟨xb, va, vc, rfl, HX⟩ := hcut
      have hx := H.out.1.keep (HW5.out.2.2.trans HX.out.2.2.1) (by simp)
      have r12 := hx.row.k12
      have f12 := hx.row.free 12
      have f13 := hx.row.free 13
      have f14 := hx.row.free 14
      have c13 := hx.row.k13
      have c14 := hx.row.k14
      have e1 : (Value.int .i64 ((l.nx : Int) + 1)) = .int .i64 ((l.nx + 1 : Nat) : Int) := rfl
      have hrow := ((hx.row.nx (l.nx + 1)).pend (.slice none 0 0) []).tm t
      have hkk := (((Keep.refl [gl] wx).setCell (p := ⟨gl, 12, none⟩) (.inl (by simp)) (.int .i64 ((l.nx + 1 : Nat) : Int))).setCell (p := ⟨gl, 13, none⟩) (.inl (by simp)) (.slice none 0 0)).setCell (p := ⟨gl, 14, none⟩) (.inl (by simp)) (.int .i64 (t : Int))
      rw [← e1] at hrow hkk
      obtain ⟨w8, hw8⟩ : ∃ w8, ((wx.setCell ⟨gl, 12, none⟩ (.int .i64 ((l.nx : Int) + 1))).setCell ⟨gl, 13, none⟩ (.slice none 0 0)).setCell ⟨gl, 14, none⟩ (.int .i64 (t : Int)) = w8 := ⟨_, rfl⟩
      rw [hw8] at hrow hkk
      have h8 : DLAt w8 D E gl g c { l with nx := l.nx + 1, tm := t, pend := [] } m (.slice none 0 0) := hx.turn hkk (by simp) hrow RowE.nil (fun b h => h) (fun b h => .inl h) (fun b hb => by simp [Value.ownBlock] at hb)
      have hglt : gl < w.heap.size := H.out.1.lt gl H.out.1.gl
      have hxbne : xb ∉ [gl] := by
        have h1 := HW5.out.2.2.size
        have h2 := HX.out.2.2.2.1
        simp
        omega
      have hX8 := hkk.blk hxbne HX.out.1
      have hb8 := HX.out.2.1.keep hkk (fun b hb hm => by
        have h1 := HW5.out.2.2.size
        have h2 := HX.out.2.2.2.2 b hb
        simp at hm
        omega)
      have hk8 : Keep (E ++ D) w w8 := ((HW5.out.2.2.trans HX.out.2.2.1).mono (by simp)).trans (hkk.mono (fun b hb => by simp at hb; subst hb; exact List.mem_append_left _ H.out.1.gl))
      have htop := H.out.1.ok.top
      have hmn := H.out.1.dv.1.n2
      have hsum : IntKind.i64.wrap ((c.first : Int) + (at_ : Int)) = ((c.first + at_ : Nat) : Int) := by rw [i64_wrap (by omega) (by omega)]; push_cast; rfl
      have hput := fun w' (h : DV w' D g m) hv => leafPut_any w' D g m h hacts ((c.first + at_ : Nat) : Int) 4 (at_ : Int) (l.nx : Int) (by omega) (.slice va M vc) LD hv
      have hglD : gl ∉ D := H.out.1.apart _ H.out.1.gl
      have hXD : xb ∉ D := fun hm => by
        have h1 := H.out.1.dv.lt _ hm
        have h2 := HW5.out.2.2.size
        have h3 := HX.out.2.2.2.1
        omega
      have H8 := Lib.hid (And.intro h8 (And.intro hX8 (And.intro hb8 (And.intro hk8 (And.intro hput (And.intro hglD hXD))))))
      have HW8 := Lib.hid hw8
      clear hx hrow hkk hw8 h8 hglt hxbne hX8 hb8 hk8 htop hmn hput hglD hXD HX e1
      go_wp2_with fail
      rw [HW8.out]
      clear r12 f12 f13 f14 c13 c14 HW8
      refine wp_region_his D [11] (fun _ => 0) (by kernel_rfl) (by kernel_rfl) ?_
      intro w9 hk9 hh
      clear hh
      have k0 := fun w' (h : Keep D w9 w') => ((H8.out.1.row.keep hk9 (by simp)).keep h H8.out.2.2.2.2.2.1).k0
      have k9 := fun w' (h : Keep D w9 w') => ((H8.out.1.row.keep hk9 (by simp)).keep h H8.out.2.2.2.2.2.1).k9
      have x0 := fun w' (h : Keep D w9 w') => cell_of_row w' _ 0 _ _ _ (h.blk H8.out.2.2.2.2.2.2 (hk9.blk (by simp) H8.out.2.1))
      have x1 := fun w' (h : Keep D w9 w') => cell_of_row w' _ 1 _ _ _ (h.blk H8.out.2.2.2.2.2.2 (hk9.blk (by simp) H8.out.2.1))
      have x2 := fun w' (h : Keep D w9 w') => cell_of_row w' _ 2 _ _ _ (h.blk H8.out.2.2.2.2.2.2 (hk9.blk (by simp) H8.out.2.1))
      have x3 := fun w' (h : Keep D w9 w') => cell_of_row w' _ 3 _ _ _ (h.blk H8.out.2.2.2.2.2.2 (hk9.blk (by simp) H8.out.2.1))
      simp at x0 x1 x2 x3
      have HK9 := Lib.hid hk9
      clear hk9
      (repeat (first | (refine his_q rfl rfl (fun K hK => ?_); apply Exists.intro; refine ⟨fun w' hC => ?_, ?_⟩; ((try simp [Sg.upd] at hC); go_simp <;> rfl); go_simp; refine hK _ _ ?_; clear hK K) | (refine his_s rfl (fun K hK => ?_); go_simp; refine hK _ _ ?_; clear hK K)))
      (refine his_l rfl rfl (fun K hK => ?_); go_simp)
      refine (H8.out.2.2.2.2.1 _ (H8.out.1.dv.keep HK9.out (by simp)) (H8.out.2.2.1.keep HK9.out (by simp))).mono ?_
      rintro x w10 ⟨rfl, D10, hD10, hG10, hK10⟩
      refine hK _ _ hK10 ?_
      clear hK K k0 k9 x0 x1 x2 x3
      (repeat (first | (refine his_q rfl rfl (fun K hK => ?_); apply Exists.intro; refine ⟨fun w' hC => ?_, ?_⟩; ((try simp [Sg.upd] at hC); go_simp <;> rfl); go_simp; refine hK _ _ ?_; clear hK K) | (refine his_s rfl (fun K hK => ?_); go_simp; refine hK _ _ ?_; clear hK K)))
      refine his_nil ?_
      have la := lput_acts m ((c.first + at_ : Nat) : Int) 4 (at_ : Int) (l.nx : Int) LD
      have h9 := H8.out.1.keep HK9.out (by simp)
      have h10 : DLAt w10 D10 E gl g c { l with nx := l.nx + 1, tm := t, pend := [] } (lput m ((c.first + at_ : Nat) : Int) 4 (at_ : Int) (l.nx : Int) LD).1 (.slice none 0 0) :=
        { dv := hD10, row := h9.row.keep hK10 (h9.apart _ h9.gl), own := h9.own.keep hK10 (fun b hb => by simp [Value.ownBlock] at hb), inE := h9.inE, gl := h9.gl,
          apart := fun b hb hm => (hG10.2 b hm).elim (h9.apart b hb) (fun h => by have := h9.lt b hb; omega), lt := fun b hb => Nat.lt_of_lt_of_le (h9.lt b hb) hK10.size, ok := h9.ok.of la.2.1 la.2.2 }
      have hws : w.heap.size ≤ w9.heap.size := Nat.le_trans H8.out.2.2.2.1.size HK9.out.size
      have hkE : Keep (E ++ D) w w10 := (H8.out.2.2.2.1.trans (HK9.out.mono (by simp))).trans (hK10.mono (fun b hb => List.mem_append_right _ hb))
      have HF : Hid (DlStep w D E gl g c { l with nx := l.nx + 1, tm := t, pend := [] } (lput m ((c.first + at_ : Nat) : Int) 4 (at_ : Int) (l.nx : Int) LD).1 w10) := Lib.hid ⟨D10, E, ⟨_, h10⟩, ⟨hG10.1, fun b hb => (hG10.2 b hb).elim .inl (fun h => .inr (Nat.le_trans hws h))⟩, Grew.refl _ _, hkE⟩
      clear hD10 hG10 hK10 h9 h10 hkE hws la
      go_wp2
      go_ret
      rw [HLD.out.1]
      exact ⟨rfl, HF.out⟩

theorem DlStep.refl {w : World} {D E : List Nat} {gl g : Nat} {c : Dc} {l : Dl} {m : Dev} (h : DL w D E gl g c l m) : DlStep w D E gl g c l m w := ⟨D, E, h, Grew.refl _ _, Grew.refl _ _, Keep.refl _ _⟩
def Tm (t : Int) : Prop := 0 ≤ t ∧ t ≤ 281474976710656
instance (t : Int) : Decidable (Tm t) := by unfold Tm; infer_instance
def Dc.left (c : Dc) (l : Dl) : Nat := c.S - (l.nx - l.fr)
def Dc.flush (c : Dc) (l : Dl) (m : Dev) (t : Int) : Dl × Dev × Int :=
  if ¬ Tm t then (l, m, 1) else if l.pend = [] ∧ t = (l.tm : Int) then (l, m, 0) else if c.left l = 0 then (l, m, 6) else c.wr l m t.toNat
def Dc.add (c : Dc) (l : Dl) (m : Dev) (x : Ch) (t : Int) : Dl × Dev × Int :=
  if ¬ x.Right ∨ ¬ Tm t then (l, m, 1) else if c.left l = 0 then (l, m, 6)
  else if l.pend.length + 1 < c.per then ({ l with pend := l.pend ++ [x] }, m, 0) else c.wr { l with pend := l.pend ++ [x] } m t.toNat

set_option maxRecDepth 100000 in
set_option maxHeartbeats 1000000 in
set_option maxHeartbeats 4000000 in
theorem flushDl_any (w : World) (D E : List Nat) (gl g : Nat) (c : Dc) (l : Dl) (m : Dev) (h : DL w D E gl g c l m) (hf : l.Fit c) (hacts : m.acts ≤ 1000000000) (hn : l.nx < 1099511628032) (t : Int) :
    Calls Try.prog 78 #[.pointer (some ⟨gl, 0, none⟩), .int .i64 t] w fun e w' => e = .returned (.int .i64 (c.flush l m t).2.2) ∧ DlStep w D E gl g c (c.flush l m t).1 (c.flush l m t).2.1 w' := by
  have hs := DlStep.refl h
  have cw := fun w' => within_i64 t 281474976710656 w'
  unfold Dc.flush
  by_cases ht : Tm t
  case neg =>
    rw [if_pos ht]
    rw [decide_eq_false (show ¬ (0 ≤ t ∧ t ≤ 281474976710656) from ht)] at cw
    have H := Lib.hid hs
    clear hs h
    go_enter Try.func78, Try.ntmps78
    go_wp2_with fail
    refine (cw _).mono ?_
    rintro e w1 ⟨rfl, rfl⟩
    clear cw
    go_wp2
    go_ret
    exact ⟨rfl, H.out⟩
  rw [if_neg (fun h => h ht)]
  rw [decide_eq_true (show 0 ≤ t ∧ t ≤ 281474976710656 from ht)] at cw
  obtain ⟨tn, rfl⟩ : ∃ n : Nat, t = (n : Int) := ⟨t.toNat, by have := ht.1; omega⟩
  have ht2 : tn ≤ 281474976710656 := by have := ht.2; omega
  have hd := h
  obtain ⟨pv, hd⟩ := hd
  obtain ⟨pa, pc, rfl⟩ := hd.own.form
  have k13 := hd.row.k13
  have k14 := hd.row.k14
  have cL := fun w' (k : Keep [] w w') => leftD_any (hd.row.keep k (by simp)) hd.ok.s2 hf.fn hf.nb
  have hlen : l.pend = [] ↔ l.pend.length = 0 := List.length_eq_zero_iff.symm
  obtain ⟨N, hN⟩ : ∃ N, l.pend.length = N := ⟨_, rfl⟩
  rw [hN] at k13 hlen
  obtain ⟨LF, hLF⟩ : ∃ LF, c.S - (l.nx - l.fr) = LF := ⟨_, rfl⟩
  simp only [hLF] at cL
  have hcl : c.left l = LF := hLF
  have HH := Lib.hid (And.intro h (And.intro hf (And.intro hcl hlen)))
  have H := Lib.hid hs
  clear h hs hd hf hN hLF hlen hcl ht
  by_cases hz : l.pend = [] ∧ (tn : Int) = (l.tm : Int)
  case pos =>
    rw [if_pos hz]
    obtain rfl : N = 0 := HH.out.2.2.2.1 hz.1
    obtain rfl : tn = l.tm := by have := hz.2; omega
    clear hz cL
    go_enter Try.func78, Try.ntmps78
    go_wp2_with fail
    refine (cw _).mono ?_
    rintro e w1 ⟨rfl, rfl⟩
    clear cw
    go_wp2
    go_ret
    exact ⟨rfl, H.out⟩
  case neg =>
    rw [if_neg hz]
    have hways : (N ≠ 0 ∧ True) ∨ (N = 0 ∧ tn ≠ l.tm) := by
      by_cases h0 : N = 0
      · exact .inr ⟨h0, fun e => hz ⟨HH.out.2.2.2.2 h0, by rw [e]⟩⟩
      · exact .inl ⟨h0, trivial⟩
    clear hz
    by_cases hl0 : LF = 0
    case pos =>
      rw [if_pos (by rw [HH.out.2.2.1]; exact hl0)]
      subst hl0
      have CL := Lib.hid cL
      clear cL
      rcases hways with ⟨h0, -⟩ | ⟨h0, h1⟩
      case' inl =>
        have y1 : ((N : Int) == 0) = false := by simp; omega
        have y2 : ¬ ((N : Int) = 0) := by omega
      case' inr =>
        subst h0
        have y1 : ((tn : Int) == (l.tm : Int)) = false := by simp; omega
        have y2 : ¬ ((tn : Int) = (l.tm : Int)) := by omega
      all_goals
        go_enter Try.func78, Try.ntmps78
        go_wp2_with fail
        refine (cw _).mono ?_
        rintro e w1 ⟨rfl, rfl⟩
        clear cw
        go_wp2_with fail
        refine (CL.out _ (Keep.refl _ _)).mono ?_
        rintro e w2 ⟨rfl, k2⟩
        have H2 := Lib.hid (DlStep.refl (HH.out.1.keep k2 (by simp)) |> DlStep.of k2)
        clear k2
        rw [show ((0 : Nat) : Int) = 0 from rfl]
        go_wp2
        go_ret
        exact ⟨rfl, H2.out⟩
    case neg =>
      rw [if_neg (by rw [HH.out.2.2.1]; exact hl0)]
      have CL := Lib.hid cL
      have hW := fun w' (k : Keep [] w w') => writeDl_any w' D E gl g c l m (HH.out.1.keep k (by simp)) HH.out.2.1 hacts hn tn ht2
      have HW := Lib.hid hW
      have z1 : ((LF : Int) == 0) = false := by simp; omega
      have z2 : ¬ ((LF : Int) = 0) := by omega
      clear cL hW
      rcases hways with ⟨h0, -⟩ | ⟨h0, h1⟩
      case' inl =>
        have y1 : ((N : Int) == 0) = false := by simp; omega
        have y2 : ¬ ((N : Int) = 0) := by omega
      case' inr =>
        subst h0
        have y1 : ((tn : Int) == (l.tm : Int)) = false := by simp; omega
        have y2 : ¬ ((tn : Int) = (l.tm : Int)) := by omega
      all_goals
        go_enter Try.func78, Try.ntmps78
        go_wp2_with fail
        refine (cw _).mono ?_
        rintro e w1 ⟨rfl, rfl⟩
        clear cw
        go_wp2_with fail
        refine (CL.out _ (Keep.refl _ _)).mono ?_
        rintro e w2 ⟨rfl, k2⟩
        have K2 := Lib.hid k2
        clear k2
        go_wp2_with fail
        refine (HW.out _ K2.out).mono ?_
        rintro e w3 ⟨rfl, hs⟩
        have H3 := Lib.hid (DlStep.of K2.out hs)
        clear hs
        go_wp2
        go_ret
        exact ⟨rfl, H3.out⟩

/-- a change is added to what is under way -/
theorem DLAt.grown {w w6 w7 : World} {D E : List Nat} {gl g : Nat} {c : Dc} {l : Dl} {m : Dev} {pv v' : Value} (h : DLAt w D E gl g c l m pv) (k6 : Keep [] w w6) (x : Ch) (ho : CRow w7 0 v' (l.pend ++ [x])) (hk : Keep pv.ownBlock.toList w6 w7) (hloc : v'.ownBlock = pv.ownBlock ∨ v'.ownBlock = some w6.heap.size) :
    DlStep w D E gl g c { l with pend := l.pend ++ [x] } m (w7.setCell ⟨gl, 13, none⟩ v') := by
  have hin : ∀ b ∈ pv.ownBlock.toList, b ∈ E := fun b hb => h.inE b (by simpa using hb)
  have hgl : gl ∉ pv.ownBlock.toList := fun hm => h.ne gl (by simpa using hm) rfl
  have hr7 := (h.row.keep k6 (by simp)).keep hk hgl
  have hk7 : Keep pv.ownBlock.toList w w7 := (k6.mono (by simp)).trans hk
  have hk8 : Keep (gl :: pv.ownBlock.toList) w (w7.setCell ⟨gl, 13, none⟩ v') := (hk7.mono (fun b hb => List.mem_cons_of_mem _ hb)).setCell (.inl (by simp)) _
  have hne : v'.ownBlock ≠ some gl := ho.ne hr7 (by decide)
  have ho8 : CRow (w7.setCell ⟨gl, 13, none⟩ v') 0 v' (l.pend ++ [x]) := ho.keep ((Keep.refl [gl] w7).setCell (.inl (by simp)) _) (fun b hb hm => hne (by rw [hb, List.mem_singleton.1 hm]))
  have hlo : ∀ b, v'.ownBlock = some b → b ∈ E ∨ (w.heap.size ≤ b ∧ b < (w7.setCell ⟨gl, 13, none⟩ v').heap.size) := fun b hb => by
    rcases hloc with e | e
    · exact .inl (h.inE b (by rw [← e, hb]))
    · rw [hb] at e
      cases e
      refine .inr ⟨k6.size, ?_⟩
      have := (ho.lt _ hb).2.1
      simpa using this
  have hE2 : ∀ b ∈ E ++ v'.ownBlock.toList, b ∈ E ∨ (w.heap.size ≤ b ∧ b < (w7.setCell ⟨gl, 13, none⟩ v').heap.size) := fun b hb => by
    rcases List.mem_append.1 hb with hb | hb
    · exact .inl hb
    · exact hlo b (by simpa using hb)
  refine ⟨D, E ++ v'.ownBlock.toList, ⟨v', h.turn hk8 (fun b hb => ?_) (hr7.pend v' _) ho8 (fun b hb => List.mem_append_left _ hb) hE2 (fun b hb => List.mem_append_right _ (by rw [hb]; simp))⟩, Grew.refl _ _, ⟨fun b hb => List.mem_append_left _ hb, fun b hb => (hE2 b hb).imp id (fun h => h.1)⟩, hk8.mono (fun b hb => ?_)⟩
  · rcases List.mem_cons.1 hb with rfl | hb
    · exact .inl rfl
    · exact .inr (.inl (by simpa using hb))
  · rcases List.mem_cons.1 hb with rfl | hb
    · exact List.mem_append_left _ h.gl
    · exact List.mem_append_left _ (hin b hb)

set_option maxRecDepth 100000 in
set_option maxHeartbeats 1000000 in
set_option maxHeartbeats 4000000 in
theorem addDl_any (w : World) (D E : List Nat) (gl g : Nat) (c : Dc) (l : Dl) (m : Dev) (h : DL w D E gl g c l m) (hf : l.Fit c) (hp : l.pend.length < c.per) (hacts : m.acts ≤ 1000000000) (hn : l.nx < 1099511628032) (x : Ch) (hh : x.hash < 18446744073709551616) (t : Int) :
    Calls Try.prog 81 #[.pointer (some ⟨gl, 0, none⟩), x.v, .int .i64 t] w fun e w' => e = .returned (.int .i64 (c.add l m x t).2.2) ∧ DlStep w D E gl g c (c.add l m x t).1 (c.add l m x t).2.1 w' := by
  have cR := fun w' => chRight_any x w'
  have cw := fun w' => within_i64 t 281474976710656 w'
  have hA := (Keep.refl [] w).alloc (.cells #[.bool x.drop, .int .u64 (x.hash : Int), .int .i64 x.r, .int .i64 x.a, .int .i64 x.s] 162)
  have hB := heap_alloc_new w (.cells #[.bool x.drop, .int .u64 (x.hash : Int), .int .i64 x.r, .int .i64 x.a, .int .i64 x.s] 162)
  obtain ⟨w1, hw1⟩ : ∃ w1, w.alloc (.cells #[.bool x.drop, .int .u64 (x.hash : Int), .int .i64 x.r, .int .i64 x.a, .int .i64 x.s] 162) = w1 := ⟨_, rfl⟩
  rw [hw1] at hA hB
  have HA := Lib.hid (And.intro hA hB)
  have HW1 := Lib.hid hw1
  have hlt := h
  obtain ⟨pv, hlt⟩ := hlt
  have hDlt := hlt.dv.lt
  have hElt := hlt.lt
  have H := Lib.hid (And.intro h (And.intro hf (And.intro hDlt hElt)))
  clear hA hB hw1 h hf hlt hDlt hElt
  unfold Dc.add
  have b0 := fun w' (k : Keep [] w1 w') => cell_of_row w' _ 0 _ _ _ (k.blk (by simp) HA.out.2)
  have b1 := fun w' (k : Keep [] w1 w') => cell_of_row w' _ 1 _ _ _ (k.blk (by simp) HA.out.2)
  have b2 := fun w' (k : Keep [] w1 w') => cell_of_row w' _ 2 _ _ _ (k.blk (by simp) HA.out.2)
  have b3 := fun w' (k : Keep [] w1 w') => cell_of_row w' _ 3 _ _ _ (k.blk (by simp) HA.out.2)
  have b4 := fun w' (k : Keep [] w1 w') => cell_of_row w' _ 4 _ _ _ (k.blk (by simp) HA.out.2)
  simp at b0 b1 b2 b3 b4
  have b0' := b0 w1 (Keep.refl _ _)
  have b1' := b1 w1 (Keep.refl _ _)
  have b2' := b2 w1 (Keep.refl _ _)
  have b3' := b3 w1 (Keep.refl _ _)
  have b4' := b4 w1 (Keep.refl _ _)
  have HBB := Lib.hid (And.intro b0 (And.intro b1 (And.intro b2 (And.intro b3 b4))))
  clear b0 b1 b2 b3 b4
  by_cases hx : x.Right
  case neg =>
    rw [if_pos (.inl hx)]
    rw [decide_eq_false hx] at cR
    clear cw hx
    simp only [Ch.v] at cR ⊢
    go_enter Try.func81, Try.ntmps81
    go_wp2_with fail
    rw [HW1.out]
    go_wp2_with fail
    refine (cR _).mono ?_
    rintro e w2 ⟨rfl, k2⟩
    clear b0' b1' b2' b3' b4'
    have H2 := Lib.hid (DlStep.of (HA.out.1.trans k2) (DlStep.refl (H.out.1.keep (HA.out.1.trans k2) (by simp))))
    clear k2
    go_wp2
    go_ret
    exact ⟨rfl, H2.out⟩
  rw [decide_eq_true hx] at cR
  by_cases ht : Tm t
  case neg =>
    rw [if_pos (.inr ht)]
    rw [decide_eq_false (show ¬ (0 ≤ t ∧ t ≤ 281474976710656) from ht)] at cw
    clear hx ht
    simp only [Ch.v] at cR ⊢
    go_enter Try.func81, Try.ntmps81
    go_wp2_with fail
    rw [HW1.out]
    go_wp2_with fail
    refine (cR _).mono ?_
    rintro e w2 ⟨rfl, k2⟩
    clear b0' b1' b2' b3' b4'
    have H2 := Lib.hid (DlStep.of (HA.out.1.trans k2) (DlStep.refl (H.out.1.keep (HA.out.1.trans k2) (by simp))))
    clear k2
    go_wp2_with fail
    refine (cw _).mono ?_
    rintro e w3 ⟨rfl, rfl⟩
    clear cw
    go_wp2
    go_ret
    exact ⟨rfl, H2.out⟩
  rw [if_neg (by rintro (h | h); exact h hx; exact h ht)]
  rw [decide_eq_true (show 0 ≤ t ∧ t ≤ 281474976710656 from ht)] at cw
  obtain ⟨tn, rfl⟩ : ∃ n : Nat, t = (n : Int) := ⟨t.toNat, by have := ht.1; omega⟩
  have ht2 : tn ≤ 281474976710656 := by have := ht.2; omega
  rw [Int.toNat_natCast]
  have hd := H.out.1
  obtain ⟨pv, hd⟩ := hd
  obtain ⟨pa, pc, rfl⟩ := hd.own.form
  have hf := H.out.2.1
  have cL := fun w' (k : Keep [] w w') => leftD_any (hd.row.keep k (by simp)) hd.ok.s2 hf.fn hf.nb
  obtain ⟨N, hN⟩ : ∃ N, l.pend.length = N := ⟨_, rfl⟩
  rw [hN] at hd hp ⊢
  obtain ⟨LF, hLF⟩ : ∃ LF, c.S - (l.nx - l.fr) = LF := ⟨_, rfl⟩
  simp only [hLF] at cL
  have hcl : c.left l = LF := hLF
  have hp512 : c.per ≤ 30 := by have := hd.ok.p2; have := hd.ok.z2; omega
  have CL := Lib.hid cL
  have HD := Lib.hid (And.intro hd (And.intro hN (And.intro hcl hx)))
  clear cL hd hf hLF hN hcl hx ht
  by_cases hl0 : LF = 0
  case pos =>
    rw [if_pos (by rw [HD.out.2.2.1]; exact hl0)]
    subst hl0
    simp only [Ch.v] at cR ⊢
    go_enter Try.func81, Try.ntmps81
    go_wp2_with fail
    rw [HW1.out]
    go_wp2_with fail
    refine (cR _).mono ?_
    rintro e w2 ⟨rfl, k2⟩
    clear b0' b1' b2' b3' b4'
    have K2 := Lib.hid (HA.out.1.trans k2)
    clear k2
    go_wp2_with fail
    refine (cw _).mono ?_
    rintro e w3 ⟨rfl, rfl⟩
    clear cw
    go_wp2_with fail
    refine (CL.out _ K2.out).mono ?_
    rintro e w4 ⟨rfl, k4⟩
    have H4 := Lib.hid (DlStep.of (K2.out.trans k4) (DlStep.refl (H.out.1.keep (K2.out.trans k4) (by simp))))
    clear k4
    rw [show ((0 : Nat) : Int) = 0 from rfl]
    go_wp2
    go_ret
    exact ⟨rfl, H4.out⟩
  rw [if_neg (by rw [HD.out.2.2.1]; exact hl0)]
  have z1 : ((LF : Int) == 0) = false := by simp; omega
  have z2 : ¬ ((LF : Int) = 0) := by omega
  have hcR := cR
  have cR : ∀ w', Calls Try.prog 124 #[.agg #[.bool x.drop, .int .u64 (x.hash : Int), .int .i64 x.r, .int .i64 x.a, .int .i64 x.s]] w' _ := hcR
  simp only [Ch.v]
  clear hcR
  go_enter Try.func81, Try.ntmps81
  go_wp2_with fail
  rw [HW1.out]
  go_wp2_with fail
  refine (cR _).mono ?_
  rintro e w2 ⟨rfl, k2⟩
  clear b0' b1' b2' b3' b4' cR
  have K2 := Lib.hid (HA.out.1.trans k2)
  have K12 := Lib.hid k2
  clear k2
  go_wp2_with fail
  refine (cw _).mono ?_
  rintro e w3 ⟨rfl, rfl⟩
  clear cw
  go_wp2_with fail
  refine (CL.out _ K2.out).mono ?_
  rintro e w4 ⟨rfl, k4⟩
  have K4 := Lib.hid (K2.out.trans k4)
  have K14 := Lib.hid (K12.out.trans k4)
  clear k4
  go_wp2_with fail
  obtain ⟨pb, hpb⟩ : ∃ pb, (Value.slice pa N pc).ownBlock.toList = pb := ⟨_, rfl⟩
  have hpbE : ∀ b ∈ pb, b ∈ E := fun b hb => HD.out.1.inE b (by rw [← hpb] at hb; simpa using hb)
  have hwb : w.heap.size ∉ pb := fun hm => by have := HD.out.1.lt _ (hpbE _ hm); omega
  have hglb : gl ∉ pb := fun hm => HD.out.1.ne gl (by rw [← hpb] at hm; simpa using hm) rfl
  have HPB := Lib.hid (And.intro hpb (And.intro hpbE (And.intro hwb hglb)))
  clear hpb hpbE hwb hglb
  refine wp_region_his pb [6, 7, 10] (fun _ => 0) (by kernel_rfl) (by kernel_rfl) ?_
  intro w5 hk5 hh
  clear hh
  have hd5 := HD.out.1.keep (K4.out.trans hk5) (by simp)
  have hb5 := (K14.out.trans hk5).blk (by simp) HA.out.2
  have k13 := fun w' (h : Keep pb w5 w') => (hd5.row.keep h HPB.out.2.2.2).k13
  have b0 := fun w' (h : Keep pb w5 w') => cell_of_row w' _ 0 _ _ _ (h.blk HPB.out.2.2.1 hb5)
  have b1 := fun w' (h : Keep pb w5 w') => cell_of_row w' _ 1 _ _ _ (h.blk HPB.out.2.2.1 hb5)
  have b2 := fun w' (h : Keep pb w5 w') => cell_of_row w' _ 2 _ _ _ (h.blk HPB.out.2.2.1 hb5)
  have b3 := fun w' (h : Keep pb w5 w') => cell_of_row w' _ 3 _ _ _ (h.blk HPB.out.2.2.1 hb5)
  have b4 := fun w' (h : Keep pb w5 w') => cell_of_row w' _ 4 _ _ _ (h.blk HPB.out.2.2.1 hb5)
  simp at b0 b1 b2 b3 b4
  have hA6 := (Keep.refl [] w5).alloc (.cells #[.bool x.drop, .int .u64 (x.hash : Int), .int .i64 x.r, .int .i64 x.a, .int .i64 x.s] 162)
  have hB6 := heap_alloc_new w5 (.cells #[.bool x.drop, .int .u64 (x.hash : Int), .int .i64 x.r, .int .i64 x.a, .int .i64 x.s] 162)
  obtain ⟨w6, hw6⟩ : ∃ w6, w5.alloc (.cells #[.bool x.drop, .int .u64 (x.hash : Int), .int .i64 x.r, .int .i64 x.a, .int .i64 x.s] 162) = w6 := ⟨_, rfl⟩
  rw [hw6] at hA6 hB6
  have HW6 := Lib.hid hw6
  obtain ⟨v7, w7, hrun, ho7, hk7, hloc7⟩ := run_append_one (P := Try.prog) (ty := 164) clies Try.underlying164 ch_info rfl (by decide) (by decide) 0 ((hd5.keep hA6 (by simp)).own) w5.heap.size x hB6 (by rw [HD.out.2.1]; omega) (Nat.zero_le _)
  have hd5' : DLAt w5 D E gl g c l m (.slice pa N pc) := hd5
  have hst := hd5'.grown hA6 x ho7 hk7 (by
    rcases hloc7 with e | e
    · exact .inl e
    · exact .inr e)
  obtain ⟨a7, c7, rfl⟩ := ho7.form
  have hl7 : (l.pend ++ [x]).length = N + 1 := by rw [List.length_append, HD.out.2.1]; rfl
  rw [hl7] at hrun hst
  have hr7 := ((hd5.row.keep hA6 (by simp)).keep hk7 (by rw [HPB.out.1]; exact HPB.out.2.2.2))
  have c13 := hr7.k13
  have f13 := hr7.free 13
  rw [HPB.out.1] at hk7
  have HR := Lib.hid hrun
  have HST := Lib.hid (DlStep.of (K4.out.trans hk5) hst)
  have HK := Lib.hid (And.intro hA6 hk7)
  clear hd5 hd5' hb5 hA6 hB6 hw6 hrun ho7 hk7 hloc7 hst hl7 hr7 hk5
  (repeat (first | (refine his_q rfl rfl (fun K hK => ?_); apply Exists.intro; refine ⟨fun w' hC => ?_, ?_⟩; ((try simp [Sg.upd] at hC); go_simp <;> rfl); go_simp; refine hK _ _ ?_; clear hK K) | (refine his_s rfl (fun K hK => ?_); go_simp; refine hK _ _ ?_; clear hK K)))
  (refine his_l rfl rfl (fun K hK => ?_); go_simp)
  rw [HW6.out]
  refine hK _ _ (HK.out.1.mono (by simp)) ?_
  clear hK K
  (repeat (first | (refine his_q rfl rfl (fun K hK => ?_); apply Exists.intro; refine ⟨fun w' hC => ?_, ?_⟩; ((try simp [Sg.upd] at hC); go_simp <;> rfl); go_simp; refine hK _ _ ?_; clear hK K) | (refine his_s rfl (fun K hK => ?_); go_simp; refine hK _ _ ?_; clear hK K)))
  refine his_l rfl rfl (fun K hK => ?_)
  refine loudly_append_run (.tmp 28) (.tmp 30) 164 rfl rfl rfl HR.out ?_
  refine hK _ _ HK.out.2 ?_
  clear hK K
  (repeat (first | (refine his_q rfl rfl (fun K hK => ?_); apply Exists.intro; refine ⟨fun w' hC => ?_, ?_⟩; ((try simp [Sg.upd] at hC); go_simp <;> rfl); go_simp; refine hK _ _ ?_; clear hK K) | (refine his_s rfl (fun K hK => ?_); go_simp; refine hK _ _ ?_; clear hK K)))
  (refine his_last rfl (by kernel_rfl) rfl (fun K hK => ?_); go_simp)
  refine hK _ _ ?_
  clear hK K k13 b0 b1 b2 b3 b4 c13 f13
  refine his_nil ?_
  obtain ⟨w8, hw8⟩ : ∃ w8, w7.setCell ⟨gl, 13, none⟩ (.slice a7 (N + 1) c7) = w8 := ⟨_, rfl⟩
  have hst := HST.out
  rw [hw8] at hst
  rw [hw8]
  obtain ⟨D8, E8, hd8, g1, g2, g3⟩ := id hst
  have HG := Lib.hid (And.intro g1 (And.intro g2 g3))
  clear g1 g2 g3
  have HD8 := Lib.hid hd8
  have HS8 := Lib.hid hst
  obtain ⟨pv8, hdd⟩ := hd8
  obtain ⟨pa8, pc8, rfl⟩ := hdd.own.form
  have hl8 : (l.pend ++ [x]).length = N + 1 := by rw [List.length_append, HD.out.2.1]; rfl
  simp only [hl8] at hdd
  have HDD := Lib.hid hdd
  clear hst hw8 hdd hl8 HST HK HR HW6 HA
  go_wp2_with fail
  refine wp_region_his [] [] (fun _ => 0) (by kernel_rfl) (by kernel_rfl) ?_
  intro w9 hk9 hh
  clear hh
  have k13 := fun w' (h : Keep [] w9 w') => (HDD.out.row.keep (hk9.trans h) (by simp)).k13
  have k10 := fun w' (h : Keep [] w9 w') => (HDD.out.row.keep (hk9.trans h) (by simp)).k10
  have HK9 := Lib.hid hk9
  clear hk9
  (repeat (first | (refine his_q rfl rfl (fun K hK => ?_); apply Exists.intro; refine ⟨fun w' hC => ?_, ?_⟩; ((try simp [Sg.upd] at hC); go_simp <;> rfl); go_simp; refine hK _ _ ?_; clear hK K) | (refine his_s rfl (fun K hK => ?_); go_simp; refine hK _ _ ?_; clear hK K)))
  refine his_nil ?_
  clear k13 k10
  by_cases hper : N + 1 < c.per
  case pos =>
    have y1 : (N : Int) + 1 < (c.per : Int) := by omega
    have HP := Lib.hid (if_pos hper : (if N + 1 < c.per then (({ l with pend := l.pend ++ [x] }, m, (0 : Int)) : Dl × Dev × Int) else c.wr { l with pend := l.pend ++ [x] } m tn) = _)
    have HF := Lib.hid (HS8.out.trans (fun D1 E1 hd => DlStep.of HK9.out (DlStep.refl (hd.keep HK9.out (by simp)))))
    clear hper
    go_wp2
    go_ret
    first
      | exact ⟨rfl, HF.out⟩
      | (rw [HP.out]; exact ⟨rfl, HF.out⟩)
  case neg =>
    have y1 : ¬ (N : Int) + 1 < (c.per : Int) := by omega
    have HP := Lib.hid (if_neg hper : (if N + 1 < c.per then (({ l with pend := l.pend ++ [x] }, m, (0 : Int)) : Dl × Dev × Int) else c.wr { l with pend := l.pend ++ [x] } m tn) = _)
    have hfit : Dl.Fit c { l with pend := l.pend ++ [x] } := ⟨H.out.2.1.f1, H.out.2.1.fn, H.out.2.1.nb, by show (l.pend ++ [x]).length ≤ c.per; rw [List.length_append, HD.out.2.1]; simp; omega, H.out.2.1.t, ⟨fun y hy => by
      rcases List.mem_append.1 hy with hy | hy
      · exact H.out.2.1.good.r y hy
      · rw [List.mem_singleton.1 hy]; exact HD.out.2.2.2, fun y hy => by
      rcases List.mem_append.1 hy with hy | hy
      · exact H.out.2.1.good.h y hy
      · rw [List.mem_singleton.1 hy]; exact hh⟩⟩
    have cW := writeDl_any w9 D8 E8 gl g c { l with pend := l.pend ++ [x] } m (HD8.out.keep HK9.out (by simp)) hfit hacts hn tn ht2
    have HFIT := Lib.hid hfit
    clear hper hfit
    go_wp2_with fail
    refine cW.mono ?_
    clear cW
    rintro e w10 ⟨rfl, hs10⟩
    have HF : Hid (DlStep w D E gl g c (c.wr { l with pend := l.pend ++ [x] } m tn).1 (c.wr { l with pend := l.pend ++ [x] } m tn).2.1 w10) := Lib.hid (DlStep.join HG.out.1 HG.out.2.1 HG.out.2.2 (DlStep.of HK9.out hs10))
    clear hs10
    go_wp2
    go_ret
    first
      | exact ⟨rfl, HF.out⟩
      | (rw [HP.out]; exact ⟨rfl, HF.out⟩)
end Go.Proofs.Ytjkjiabfhhnngaa

/-! The walks of delta's read and parse. -/
namespace Go.Proofs.Ytjkjiabfhhnngaa
open Go.RowKit Sg
set_option linter.unusedSimpArgs false
set_option linter.unusedVariables false

theorem rdN_le (n k : Nat) (l : List UInt8) (b : Bool) (h : n < 256 ^ k) : rdN (le n k ++ l, b) k = (n, l, b) := by
  rw [rdN_eq (by simp [le_len])]
  have h1 : (le n k ++ l).take k = le n k := List.take_left' (le_len n k)
  have h2 : (le n k ++ l).drop k = l := List.drop_left' (le_len n k)
  rw [h1, h2, leOf_le, Nat.mod_eq_of_lt h]

set_option maxRecDepth 100000 in
set_option maxHeartbeats 1000000 in
theorem rest_any (W w : World) (g : Nat) (xs : List UInt8) (bad : Bool) (hr : RS W w g xs bad) : Calls Try.prog 179 #[.pointer (some ⟨g, 0, none⟩)] w fun e w' => ∃ v, e = .returned v ∧ OwnB w' w.heap.size 5 v xs ∧ Keep [] w w' := by
  obtain ⟨hK, hg, v, hb, hv, hl⟩ := hr
  obtain ⟨ao, cap, rfl, -⟩ := hv.form
  have c0 := cell_of_row w _ 0 _ _ _ hb
  simp at c0
  go_enter Try.func179, Try.ntmps179
  go_wp2_with fail
  refine (clone_any _ xs w hv).mono ?_
  rintro e w2 ⟨v, rfl, ho2, hk2⟩
  go_wp2_with fail
  go_ret
  exact ⟨v, rfl, ho2, hk2⟩


/-! ### a reader, whose bytes lie below a block -/
def RB (Bd : Nat) (W w : World) (g : Nat) (xs : List UInt8) (bad : Bool) : Prop :=
  Keep [] W w ∧ W.heap.size ≤ g ∧ ∃ v, w.heap[g]? = some (.cells #[v, .bool bad] 269 (0, 0)) ∧ Bytes w v xs ∧ xs.length ≤ 1000000 ∧ ∀ b, v.ownBlock = some b → b < Bd
theorem RB.rs {Bd : Nat} {W w : World} {g : Nat} {xs : List UInt8} {bad : Bool} (h : RB Bd W w g xs bad) : RS W w g xs bad := by
  obtain ⟨h1, h2, v, h3, h4, h5, -⟩ := h
  exact ⟨h1, h2, v, h3, h4, h5⟩
theorem RB.keepS {Bd : Nat} {W w w' : World} {g : Nat} {xs : List UInt8} {bad : Bool} {S : List Nat} (h : RB Bd W w g xs bad) (k : Keep S w w') (hS : ∀ b ∈ S, Bd ≤ b ∧ b ≠ g ∧ W.heap.size ≤ b) : RB Bd W w' g xs bad := by
  obtain ⟨h1, h2, v, h3, h4, h5, h6⟩ := h
  exact ⟨h1.trans' k (fun b hb => .inr (hS b hb).2.2), h2, v, k.blk (fun hm => (hS g hm).2.1 rfl) h3, h4.keep k (fun b hb hm => by have := h6 b hb; have := (hS b hm).1; omega), h5, h6⟩
theorem RB.keep {Bd : Nat} {W w w' : World} {g : Nat} {xs : List UInt8} {bad : Bool} (h : RB Bd W w g xs bad) (k : Keep [] w w') : RB Bd W w' g xs bad := h.keepS k (by simp)
theorem RB.base {Bd : Nat} {W0 W w : World} {g : Nat} {xs : List UInt8} {bad : Bool} (h : RB Bd W w g xs bad) (k : Keep [] W0 W) : RB Bd W0 w g xs bad := by
  obtain ⟨h1, h2, h3⟩ := h
  exact ⟨k.trans h1, Nat.le_trans k.size h2, h3⟩
theorem RB.lt {Bd : Nat} {W w : World} {g : Nat} {xs : List UInt8} {bad : Bool} (h : RB Bd W w g xs bad) : g < w.heap.size := by
  obtain ⟨-, -, v, hb, -⟩ := h
  exact (Array.getElem?_eq_some_iff.1 hb).1
theorem RB.setCell {Bd : Nat} {W w : World} {g b i : Nat} {xs : List UInt8} {bad : Bool} (h : RB Bd W w g xs bad) (hB : Bd ≤ b) (hne : b ≠ g) (hW : W.heap.size ≤ b) (u : Value) : RB Bd W (w.setCell ⟨b, i, none⟩ u) g xs bad :=
  h.keepS ((Keep.refl [b] w).setCell (.inl (by simp)) u) (fun x hx => by rw [List.mem_singleton.1 hx]; exact ⟨hB, hne, hW⟩)
set_option maxRecDepth 100000 in
set_option maxHeartbeats 1000000 in
theorem newReaderB_any (v : Value) (l : List UInt8) (w : World) (hv : Bytes w v l) (hl : l.length ≤ 1000000) : Calls Try.prog 141 #[v] w fun e w' => ∃ g, e = .returned (.pointer (some ⟨g, 0, none⟩)) ∧ RB g w w' g l false := by
  go_enter Try.func141, Try.ntmps141
  go_wp2_with fail
  refine (clone_any v l w hv).mono ?_
  rintro e w2 ⟨v2, rfl, ho, hk⟩
  have hb := ho.bytes (by omega)
  obtain ⟨ao, cap, rfl, -⟩ := hb.form
  go_wp2_with fail
  go_ret
  exact ⟨_, rfl, hk.alloc _, hk.size, _, heap_alloc_new _ _, hb.keep ((Keep.refl [] _).alloc _) (by simp), hl, fun b hb => (rowLt ho hb).1⟩

set_option maxRecDepth 100000 in
set_option maxHeartbeats 1000000 in
theorem readRawB_ok (Bd : Nat) (W w : World) (g : Nat) (xs : List UInt8) (bad : Bool) (hr : RB Bd W w g xs bad) (n : Nat) (hn : n ≤ xs.length) :
    Calls Try.prog 143 #[.pointer (some ⟨g, 0, none⟩), .int .i64 n] w fun e w' => ∃ v', e = .returned v' ∧ OwnB w' w.heap.size 5 v' (xs.take n) ∧ RB Bd W w' g (xs.drop n) bad ∧ Keep [g] w w' := by
  obtain ⟨hK, hg, v, hb, hv, hl, hBd⟩ := hr
  have HBd := Lib.hid hBd
  clear hBd
  obtain ⟨ao, cap, rfl, hlc, hm, hcap⟩ := hv.form
  have c0 := cell_of_row w _ 0 _ _ _ hb
  simp at c0
  have hn1 : (n : Int) ≤ (xs.length : Int) := by omega
  have hn2 : (n : Int) ≤ (cap : Int) := by omega
  go_enter Try.func143, Try.ntmps143
  go_wp2_with fail
  refine (clone_any _ (xs.take n) w (hv.take hn)).mono ?_
  rintro e w2 ⟨v2, rfl, ho, hk⟩
  have hb2 := hk.blk (by simp) hb
  have c0 := cell_of_row w2 _ 0 _ _ _ hb2
  have f0 := frozen_of_row w2 _ 0 _ _ hb2
  simp at c0
  have hd := (hv.keep hk (by simp)).drop hn
  by_cases hcn : cap = n
  · rw [if_pos hcn, hcn, Nat.sub_self] at hd
    have hd2 := fun u => hd.setCell (p := ⟨g, 0, none⟩) (fun h => hd.ne_row h hb2 (reader_no_u8 (xs.length, ao, cap) bad)) u
    have hne := ho.ne_row hb2 (by decide)
    have hb3 := heap_setCell_same w2 g 0 _ _ (.slice ao (xs.length - n) 0) hb2
    have HB3 := Lib.hid hb3
    have HD := Lib.hid hd2
    have HO := Lib.hid ho
    clear hb hb2 hb3 hd hd2 hv ho
    go_wp2_with fail
    go_ret
    exact ⟨v2, rfl, ownsRow_setCell_other HO.out hne _, ⟨(hK.trans hk).setCell (.inr hg) _, hg, _, HB3.out, HD.out _, by simp; omega, fun b hb => HBd.out b (by rw [← hb]; cases ao <;> rfl)⟩, (hk.mono (by simp)).setCell (.inl (by simp)) _⟩
  · rw [if_neg hcn] at hd
    have hd2 := fun u => hd.setCell (p := ⟨g, 0, none⟩) (fun h => hd.ne_row h hb2 (reader_no_u8 (xs.length, ao, cap) bad)) u
    have hne := ho.ne_row hb2 (by decide)
    have hb3 := heap_setCell_same w2 g 0 _ _ (.slice (ao.map (·.add n)) (xs.length - n) (cap - n)) hb2
    have HB3 := Lib.hid hb3
    have HD := Lib.hid hd2
    have HO := Lib.hid ho
    clear hb hb2 hb3 hd hd2 hv ho
    go_wp2_with fail
    go_ret
    exact ⟨v2, rfl, ownsRow_setCell_other HO.out hne _, ⟨(hK.trans hk).setCell (.inr hg) _, hg, _, HB3.out, HD.out _, by simp; omega, fun b hb => HBd.out b (by rw [← hb]; cases ao with | none => rfl | some ad => (simp [Value.ownBlock, Addr.add]; split <;> rfl))⟩, (hk.mono (by simp)).setCell (.inl (by simp)) _⟩

set_option maxRecDepth 100000 in
set_option maxHeartbeats 1000000 in
theorem readRawB_bad (Bd : Nat) (W w : World) (g : Nat) (xs : List UInt8) (bad : Bool) (hr : RB Bd W w g xs bad) (n : Int) (hn : n < 0 ∨ (xs.length : Int) < n) :
    Calls Try.prog 143 #[.pointer (some ⟨g, 0, none⟩), .int .i64 n] w fun e w' => e = .returned (.slice none 0 0) ∧ RB Bd W w' g [] true ∧ Keep [g] w w' := by
  obtain ⟨hK, hg, v, hb, hv, hl, hBd⟩ := hr
  have HBd := Lib.hid hBd
  clear hBd
  obtain ⟨ao, cap, rfl, hlc, hm, hcap⟩ := hv.form
  have c0 := cell_of_row w _ 0 _ _ _ hb
  have c1 := cell_of_row w _ 1 _ _ _ hb
  have f0 := frozen_of_row w _ 0 _ _ hb
  have f1 := frozen_of_row w _ 1 _ _ hb
  simp at c0 c1
  have hb2 := heap_setCell_same _ g 1 _ _ (.bool true) (heap_setCell_same w g 0 _ _ (.slice none 0 0) hb)
  have HB := Lib.hid hb2
  clear hb hb2
  rcases (by omega : n < 0 ∨ (¬ n < 0 ∧ (xs.length : Int) < n)) with h | ⟨h, h2⟩
  all_goals
    go_enter Try.func143, Try.ntmps143
    go_wp2
    go_ret
    exact ⟨rfl, ⟨(hK.setCell (.inr hg) _).setCell (.inr hg) _, hg, _, HB.out, Bytes.nil _, by simp, fun b hb => by simp [Value.ownBlock] at hb⟩, ((Keep.refl [g] w).setCell (.inl (by simp)) _).setCell (.inl (by simp)) _⟩

set_option maxRecDepth 100000 in
set_option maxHeartbeats 1000000 in
theorem readNumberB_ok (Bd : Nat) (W w : World) (g : Nat) (xs : List UInt8) (bad : Bool) (hr : RB Bd W w g xs bad) (k : Nat) (hk : k = 1 ∨ k = 2 ∨ k = 4 ∨ k = 8) (hn : k ≤ xs.length) :
    Calls Try.prog 142 #[.pointer (some ⟨g, 0, none⟩), .int .i64 k] w fun e w' => e = .returned (.int .u64 (leOf (xs.take k) : Int)) ∧ RB Bd W w' g (xs.drop k) bad ∧ Keep [g] w w' := by
  have hlen : (xs.take k).length = k := by rw [List.length_take]; omega
  obtain ⟨ys, hys⟩ : ∃ ys, xs.take k = ys := ⟨_, rfl⟩
  rw [hys] at hlen ⊢
  go_enter Try.func142, Try.ntmps142
  go_wp2_with fail
  refine (may_ok k hk w).mono ?_
  rintro e w1 ⟨rfl, rfl⟩
  go_wp2_with fail
  refine (readRawB_ok Bd W w g xs bad hr k hn).mono ?_
  rintro e w2 ⟨v2, rfl, ho, hr2, hkg⟩
  rw [hys] at ho
  have hb := ho.bytes (by omega)
  obtain ⟨ao, cap, rfl, -⟩ := hb.form
  have HY := Lib.hid hys
  have hk8 : ys.length ≤ 8 := by omega
  clear ho hys
  go_wp2
  go_loop [5, 15] (fun x i => ∃ j m : Nat, j ≤ ys.length ∧ m < 18446744073709551616 ∧ x = .int .u64 m ∧ i = .int .i64 j ∧ Hid (m = leOf (ys.take j))) (fun _ i => ys.length - (intOf i).toNat)
  case atStart => exact ⟨0, 0, by omega, by omega, rfl, rfl, by simp [Hid, leOf]⟩
  case round =>
    obtain ⟨j, m, hj, hm, rfl, rfl, hmm⟩ := hrel
    by_cases hlt : j < ys.length
    · obtain ⟨b, o, rfl, -, hc⟩ := hb.spot (by omega)
      have hcj := hc j hlt
      have hx := ys[j].toNat_lt
      have hlt' : (j : Int) < (ys.length : Int) := by omega
      have hml : m < 256 ^ j := by
        have := leOf_lt (ys.take j)
        rw [List.length_take, Nat.min_eq_left (by omega)] at this
        rw [hmm.out]
        exact this
      have hsh := shl_or m ys[j].toNat j (by omega) hml (by omega)
      have hnx : Hid (m + ys[j].toNat * 256 ^ j = leOf (ys.take (j + 1))) := by
        show _ = _
        rw [List.take_succ_eq_append_getElem hlt, leOf_snoc, List.length_take, Nat.min_eq_left (by omega), hmm.out]
      obtain ⟨m', hm'⟩ : ∃ m', m + ys[j].toNat * 256 ^ j = m' := ⟨_, rfl⟩
      rw [hm'] at hsh hnx
      obtain ⟨hs1, hs2⟩ := hsh
      have HS1 := Lib.hid hs1
      clear hs1 hm'
      go_wp2
      go_round
      case rel => exact ⟨j + 1, m', by omega, hs2, by rw [HS1.out], by go_num, hnx⟩
      case measure => simp [intOf]; omega
    · obtain rfl : j = ys.length := by omega
      go_wp2
      go_ret
      refine ⟨?_, hr2, hkg⟩
      have := hmm.out
      rw [List.take_length] at this
      subst this
      rfl

set_option maxRecDepth 100000 in
set_option maxHeartbeats 1000000 in
theorem readNumberB_bad (Bd : Nat) (W w : World) (g : Nat) (xs : List UInt8) (bad : Bool) (hr : RB Bd W w g xs bad) (k : Nat) (hk : k = 1 ∨ k = 2 ∨ k = 4 ∨ k = 8) (hn : xs.length < k) :
    Calls Try.prog 142 #[.pointer (some ⟨g, 0, none⟩), .int .i64 k] w fun e w' => e = .returned (.int .u64 0) ∧ RB Bd W w' g [] true ∧ Keep [g] w w' := by
  go_enter Try.func142, Try.ntmps142
  go_wp2_with fail
  refine (may_ok k hk w).mono ?_
  rintro e w1 ⟨rfl, rfl⟩
  go_wp2_with fail
  refine (readRawB_bad Bd W w g xs bad hr k (by omega)).mono ?_
  rintro e w2 ⟨rfl, hr2, hkg⟩
  go_wp2
  go_loop [5, 15] (fun x i => x = .int .u64 0 ∧ i = .int .i64 0) (fun _ _ => 0)
  case atStart => exact ⟨rfl, rfl⟩
  case round =>
    obtain ⟨rfl, rfl⟩ := hrel
    go_wp2
    go_ret
    exact ⟨rfl, hr2, hkg⟩

set_option maxRecDepth 100000 in
set_option maxHeartbeats 1000000 in
theorem readNumberB_any (Bd : Nat) (W w : World) (g : Nat) (s : List UInt8 × Bool) (hr : RB Bd W w g s.1 s.2) (k : Nat) (hk : k = 1 ∨ k = 2 ∨ k = 4 ∨ k = 8) :
    Calls Try.prog 142 #[.pointer (some ⟨g, 0, none⟩), .int .i64 k] w fun e w' => e = .returned (.int .u64 ((rdN s k).1 : Int)) ∧ RB Bd W w' g (rdN s k).2.1 (rdN s k).2.2 ∧ Keep [g] w w' := by
  by_cases h : k ≤ s.1.length
  · refine (readNumberB_ok Bd W w g s.1 s.2 hr k hk h).mono ?_
    rintro e w' ⟨rfl, h2⟩
    rw [show rdN s k = (leOf (s.1.take k), s.1.drop k, s.2) from if_pos h]
    exact ⟨rfl, h2⟩
  · refine (readNumberB_bad Bd W w g s.1 s.2 hr k hk (by omega)).mono ?_
    rintro e w' ⟨rfl, h2⟩
    rw [show rdN s k = (0, [], true) from if_neg h]
    exact ⟨rfl, h2⟩

set_option maxRecDepth 100000 in
set_option maxHeartbeats 1000000 in
set_option maxHeartbeats 4000000 in
theorem chRead_any (Bd : Nat) (W w : World) (g : Nat) (x : Ch) (hx : x.Right) (hh : x.hash < 18446744073709551616) (rest : List UInt8) (hr : RB Bd W w g (x.bs ++ rest) false) (hBd : Bd ≤ w.heap.size) :
    Calls Try.prog 178 #[.pointer (some ⟨g, 0, none⟩)] w fun e w' => e = .returned (.tuple #[x.v, .bool true]) ∧ RB Bd W w' g rest false ∧ Keep [g] w w' := by
  obtain ⟨⟨r1, r2⟩, ⟨a1, a2⟩, s1, s2⟩ := Ch.right_in hx
  have cR := fun w' => chRight_any x w'
  rw [decide_eq_true hx] at cR
  have hk2 : (x.drop = true ∧ x.kind = 2) ∨ (x.drop = false ∧ x.kind = 1) := by
    unfold Ch.kind
    cases x.drop <;> simp
  have hb : x.bs ++ rest = le x.kind 1 ++ (le x.hash 8 ++ (le x.r.toNat 8 ++ (le x.a.toNat 2 ++ (le x.s.toNat 2 ++ rest)))) := by unfold Ch.bs; simp only [List.append_assoc]
  rw [hb] at hr
  generalize x.kind = kd at hk2 hr
  clear hx hb
  obtain ⟨d, h, r, a, s⟩ := x
  simp only [Ch.v] at hh r1 r2 a1 a2 s1 s2 hk2 hr cR ⊢
  obtain ⟨rn, rfl⟩ : ∃ n : Nat, r = (n : Int) := ⟨r.toNat, by omega⟩
  obtain ⟨an, rfl⟩ : ∃ n : Nat, a = (n : Int) := ⟨a.toNat, by omega⟩
  obtain ⟨sn, rfl⟩ : ∃ n : Nat, s = (n : Int) := ⟨s.toNat, by omega⟩
  simp only [Int.toNat_natCast] at hr
  have hkd : kd < 256 := by omega
  have n1 := rdN_le kd 1 (le h 8 ++ (le rn 8 ++ (le an 2 ++ (le sn 2 ++ rest)))) false (by simpa using hkd)
  have n2 := rdN_le h 8 (le rn 8 ++ (le an 2 ++ (le sn 2 ++ rest))) false (by simpa using hh)
  have n3 := rdN_le rn 8 (le an 2 ++ (le sn 2 ++ rest)) false (by simp; omega)
  have n4 := rdN_le an 2 (le sn 2 ++ rest) false (by simp; omega)
  have n5 := rdN_le sn 2 rest false (by simp; omega)
  have hg : g < w.heap.size := by exact hr.lt
  have hA := (Keep.refl [] w).alloc (.cells #[.bool false, .int .u64 0, .int .i64 0, .int .i64 0, .int .i64 0] 162)
  have hB := heap_alloc_new w (.cells #[.bool false, .int .u64 0, .int .i64 0, .int .i64 0, .int .i64 0] 162)
  obtain ⟨w1, hw1⟩ : ∃ w1, w.alloc (.cells #[.bool false, .int .u64 0, .int .i64 0, .int .i64 0, .int .i64 0] 162) = w1 := ⟨_, rfl⟩
  rw [hw1] at hA hB
  have c1 := readNumberB_any Bd W w1 g (le kd 1 ++ (le h 8 ++ (le rn 8 ++ (le an 2 ++ (le sn 2 ++ rest)))), false) (hr.keep hA) 1 (.inl rfl)
  rw [n1, show ((1 : Nat) : Int) = 1 from rfl] at c1
  have HW1 := Lib.hid hw1
  have H1 := Lib.hid (And.intro hA hB)
  have HN := Lib.hid (And.intro n2 (And.intro n3 (And.intro n4 n5)))
  have hgB : w.heap.size ∉ [g] := by simp; omega
  have e1 : IntKind.i64.wrap (rn : Int) = (rn : Int) := i64_wrap (by omega) (by omega)
  have e2 : IntKind.i64.wrap (an : Int) = (an : Int) := i64_wrap (by omega) (by omega)
  have e3 : IntKind.i64.wrap (sn : Int) = (sn : Int) := i64_wrap (by omega) (by omega)
  have CR := Lib.hid cR
  have HWw : W.heap.size ≤ w.heap.size := hr.1.size
  clear hr n1 n2 n3 n4 n5 hA hB hw1 cR
  rcases hk2 with ⟨rfl, rfl⟩ | ⟨rfl, rfl⟩
  · skip
    go_enter Try.func178, Try.ntmps178
    go_wp2_with fail
    rw [HW1.out]
    refine c1.mono ?_
    clear c1
    rintro e w2 ⟨rfl, q2, k2⟩
    have X2 := k2.blk hgB H1.out.2
    have c2 := readNumberB_any Bd W w2 g (le h 8 ++ (le rn 8 ++ (le an 2 ++ (le sn 2 ++ rest))), false) q2 8 (by simp)
    rw [HN.out.1, show ((8 : Nat) : Int) = 8 from rfl] at c2
    have H2 := Lib.hid (And.intro X2 ((H1.out.1.mono (by simp)).trans k2))
    clear q2 k2 X2
    go_wp2_with fail
    refine c2.mono ?_
    clear c2
    rintro e w3 ⟨rfl, q3, k3⟩
    have hA4 := (Keep.refl [] w3).alloc (.cells #[.bool true, .int .u64 (h : Int), .int .i64 0, .int .i64 0, .int .i64 0] 162)
    have hB4 := heap_alloc_new w3 (.cells #[.bool true, .int .u64 (h : Int), .int .i64 0, .int .i64 0, .int .i64 0] 162)
    obtain ⟨w4, hw4⟩ : ∃ w4, w3.alloc (.cells #[.bool true, .int .u64 (h : Int), .int .i64 0, .int .i64 0, .int .i64 0] 162) = w4 := ⟨_, rfl⟩
    rw [hw4] at hA4 hB4
    have HW4 := Lib.hid hw4
    obtain ⟨b5, hb5⟩ : ∃ b5, w3.heap.size = b5 := ⟨_, rfl⟩
    rw [hb5] at hB4
    have hgw : g < w3.heap.size := Nat.lt_of_lt_of_le hg (Nat.le_trans H2.out.2.size k3.size)
    have hg5 : g ≠ b5 := by omega
    have h52 : b5 ≠ w.heap.size := by
      have h1 := (Array.getElem?_eq_some_iff.1 H2.out.1).1
      have h2 := k3.size
      omega
    have hW5 : W.heap.size ≤ b5 := by rw [← hb5]; exact q3.1.size
    have hw5 : w.heap.size ≤ b5 := by rw [← hb5]; exact Nat.le_trans H2.out.2.size k3.size
    have q4 := q3.keep hA4
    have c3 := readNumberB_any Bd W w4 g (le rn 8 ++ (le an 2 ++ (le sn 2 ++ rest)), false) q4 8 (by simp)
    rw [HN.out.2.1, show ((8 : Nat) : Int) = 8 from rfl] at c3
    have H4 := Lib.hid (And.intro ((k3.trans (hA4.mono (by simp))).blk hgB H2.out.1) (And.intro (H2.out.2.trans (k3.trans (hA4.mono (by simp)))) (And.intro hB4 (And.intro hg5 (And.intro h52 (And.intro hW5 hw5))))))
    have HB5 := Lib.hid hb5
    clear q3 k3 hA4 hB4 hw4 hb5 hgw hg5 h52 hW5 hw5 q4 H2
    go_wp2_with fail
    rw [HW4.out, HB5.out]
    refine c3.mono ?_
    clear c3
    rintro e w5 ⟨rfl, q5, k5⟩
    have r5 := k5.blk (by simp; exact fun e => H4.out.2.2.2.1 e.symm) H4.out.2.2.1
    have t5 := cell_of_row w5 _ 2 _ _ _ r5
    have f5 := frozen_of_row w5 _ 2 _ _ r5
    simp at t5
    have q6 := q5.setCell (i := 2) (Nat.le_trans hBd H4.out.2.2.2.2.2.2) H4.out.2.2.2.1.symm H4.out.2.2.2.2.2.1 (.int .i64 (rn : Int))
    have r6 := heap_setCell_same w5 b5 2 _ _ (.int .i64 (rn : Int)) r5
    simp only [List.setIfInBounds_toArray, List.set_cons_zero, List.set_cons_succ] at r6
    have k6 := (Keep.refl [b5] w5).setCell (p := ⟨b5, 2, none⟩) (.inl (by simp)) (.int .i64 (rn : Int))
    obtain ⟨w6, hw6⟩ : ∃ w6, w5.setCell ⟨b5, 2, none⟩ (.int .i64 (rn : Int)) = w6 := ⟨_, rfl⟩
    rw [hw6] at q6 r6 k6
    have c4 := readNumberB_any Bd W w6 g (le an 2 ++ (le sn 2 ++ rest), false) q6 2 (by simp)
    rw [HN.out.2.2.1, show ((2 : Nat) : Int) = 2 from rfl] at c4
    have H6 := Lib.hid (And.intro (k6.blk (by simp; exact fun e => H4.out.2.2.2.2.1 e.symm) (k5.blk hgB H4.out.1)) (And.intro r6 (And.intro (H4.out.2.1.trans k5) k6)))
    have HW6 := Lib.hid hw6
    clear q5 k5 r5 q6 r6 k6 hw6
    go_wp2_with fail
    rw [HW6.out]
    refine c4.mono ?_
    clear c4 t5 f5 HW6
    rintro e w7 ⟨rfl, q7, k7⟩
    have r7 := k7.blk (by simp; exact fun e => H4.out.2.2.2.1 e.symm) H6.out.2.1
    have t7 := cell_of_row w7 _ 3 _ _ _ r7
    have f7 := frozen_of_row w7 _ 3 _ _ r7
    simp at t7
    have q8 := q7.setCell (i := 3) (Nat.le_trans hBd H4.out.2.2.2.2.2.2) H4.out.2.2.2.1.symm H4.out.2.2.2.2.2.1 (.int .i64 (an : Int))
    have r8 := heap_setCell_same w7 b5 3 _ _ (.int .i64 (an : Int)) r7
    simp only [List.setIfInBounds_toArray, List.set_cons_zero, List.set_cons_succ] at r8
    have k8 := (Keep.refl [b5] w7).setCell (p := ⟨b5, 3, none⟩) (.inl (by simp)) (.int .i64 (an : Int))
    obtain ⟨w8, hw8⟩ : ∃ w8, w7.setCell ⟨b5, 3, none⟩ (.int .i64 (an : Int)) = w8 := ⟨_, rfl⟩
    rw [hw8] at q8 r8 k8
    have c5 := readNumberB_any Bd W w8 g (le sn 2 ++ rest, false) q8 2 (by simp)
    rw [HN.out.2.2.2, show ((2 : Nat) : Int) = 2 from rfl] at c5
    have hk8 : Keep [g] w w8 := by
      have h1 := (H6.out.2.2.1.mono (T := [b5, g]) (by simp)).trans ((H6.out.2.2.2.mono (T := [b5, g]) (by simp)).trans ((k7.mono (T := [b5, g]) (by simp)).trans (k8.mono (T := [b5, g]) (by simp))))
      exact h1.fresh (fun b hb => by
        simp at hb
        rcases hb with rfl | rfl
        · exact .inr H4.out.2.2.2.2.2.2
        · exact .inl (by simp))
    have H8 := Lib.hid (And.intro (k8.blk (by simp; exact fun e => H4.out.2.2.2.2.1 e.symm) (k7.blk hgB H6.out.1)) (And.intro r8 hk8))
    have HW8 := Lib.hid hw8
    clear q7 k7 r7 q8 r8 k8 hw8 hk8 H6
    go_wp2_with fail
    rw [HW8.out]
    refine c5.mono ?_
    clear c5 t7 f7 HW8
    rintro e w9 ⟨rfl, q9, k9⟩
    have r9 := k9.blk (by simp; exact fun e => H4.out.2.2.2.1 e.symm) H8.out.2.1
    have t9 := cell_of_row w9 _ 4 _ _ _ r9
    have f9 := frozen_of_row w9 _ 4 _ _ r9
    simp at t9
    have q10 := q9.setCell (i := 4) (Nat.le_trans hBd H4.out.2.2.2.2.2.2) H4.out.2.2.2.1.symm H4.out.2.2.2.2.2.1 (.int .i64 (sn : Int))
    have r10 := heap_setCell_same w9 b5 4 _ _ (.int .i64 (sn : Int)) r9
    simp only [List.setIfInBounds_toArray, List.set_cons_zero, List.set_cons_succ] at r10
    have k10 := (Keep.refl [b5] w9).setCell (p := ⟨b5, 4, none⟩) (.inl (by simp)) (.int .i64 (sn : Int))
    obtain ⟨w10, hw10⟩ : ∃ w10, w9.setCell ⟨b5, 4, none⟩ (.int .i64 (sn : Int)) = w10 := ⟨_, rfl⟩
    rw [hw10] at q10 r10 k10
    have hk10 : Keep [g] w w10 := by
      have h1 := (H8.out.2.2.mono (T := [b5, g]) (by simp)).trans ((k9.mono (T := [b5, g]) (by simp)).trans (k10.mono (T := [b5, g]) (by simp)))
      exact h1.fresh (fun b hb => by
        simp at hb
        rcases hb with rfl | rfl
        · exact .inr H4.out.2.2.2.2.2.2
        · exact .inl (by simp))
    have H10 := Lib.hid (And.intro (k10.blk (by simp; exact fun e => H4.out.2.2.2.2.1 e.symm) (k9.blk hgB H8.out.1)) (And.intro r10 (And.intro hk10 q10)))
    have HW10 := Lib.hid hw10
    clear q9 k9 r9 q10 r10 k10 hw10 hk10 H8
    go_wp2_with fail
    rw [HW10.out]
    clear t9 f9 HW10
    obtain ⟨b2, hb2⟩ : ∃ b2, w.heap.size = b2 := ⟨_, rfl⟩
    have hne : b5 ≠ b2 := by rw [← hb2]; exact H4.out.2.2.2.2.1
    have hgb2 : g ≠ b2 := by omega
    have X10 := H10.out.1
    rw [hb2] at X10 ⊢
    have HX := Lib.hid (And.intro X10 (And.intro hne (And.intro hgb2 (Nat.le_of_eq hb2))))
    clear X10 hne hgb2 hgB hb2
    refine wp_region_his [b2] [14, 16] (fun _ => 0) (by kernel_rfl) (by kernel_rfl) ?_
    intro w11 hk11 hh
    clear hh
    have hr11 := hk11.blk (by simp) H10.out.2.1
    have x0 := fun w' (h : Keep [b2] w11 w') => cell_of_row w' _ 0 _ _ _ (h.blk (by simpa using HX.out.2.1) hr11)
    have x1 := fun w' (h : Keep [b2] w11 w') => cell_of_row w' _ 1 _ _ _ (h.blk (by simpa using HX.out.2.1) hr11)
    have x2 := fun w' (h : Keep [b2] w11 w') => cell_of_row w' _ 2 _ _ _ (h.blk (by simpa using HX.out.2.1) hr11)
    have x3 := fun w' (h : Keep [b2] w11 w') => cell_of_row w' _ 3 _ _ _ (h.blk (by simpa using HX.out.2.1) hr11)
    have x4 := fun w' (h : Keep [b2] w11 w') => cell_of_row w' _ 4 _ _ _ (h.blk (by simpa using HX.out.2.1) hr11)
    simp at x0 x1 x2 x3 x4
    have HK11 := Lib.hid hk11
    clear hk11 hr11
    (repeat (first | (refine his_q rfl rfl (fun K hK => ?_); apply Exists.intro; refine ⟨fun w' hC => ?_, ?_⟩; ((try simp [Sg.upd] at hC); go_simp <;> rfl); go_simp; refine hK _ _ ?_; clear hK K) | (refine his_s rfl (fun K hK => ?_); go_simp; refine hK _ _ ?_; clear hK K)))
    refine his_c rfl rfl (.bool false) (fun K hK => ?_)
    refine ⟨fun w' hC => Yields.call 144 #[.pointer (some ⟨g, 0, none⟩)] ?_ (by kernel_rfl) ?_, ?_⟩
    · go_simp
    · have hC' : Keep [b2] w11 w' := hC
      exact bad_any W w' g rest false (((H10.out.2.2.2.keep HK11.out).keepS hC' (fun b hb => by rw [List.mem_singleton.1 hb]; exact ⟨Nat.le_trans hBd HX.out.2.2.2, HX.out.2.2.1.symm, Nat.le_trans HWw HX.out.2.2.2⟩)).rs)
    go_simp
    refine hK _ _ ?_
    clear hK K
    (repeat (first | (refine his_q rfl rfl (fun K hK => ?_); apply Exists.intro; refine ⟨fun w' hC => ?_, ?_⟩; ((try simp [Sg.upd] at hC); go_simp <;> rfl); go_simp; refine hK _ _ ?_; clear hK K) | (refine his_s rfl (fun K hK => ?_); go_simp; refine hK _ _ ?_; clear hK K)))
    (refine his_l rfl rfl (fun K hK => ?_); go_simp)
    refine (CR.out _).mono ?_
    rintro e w12 ⟨rfl, k12⟩
    refine hK _ _ (k12.mono (by simp)) ?_
    clear hK K
    have X12 := (HK11.out.trans k12).blk (by simp) HX.out.1
    have HR12 := Lib.hid (And.intro X12 ((HK11.out.trans k12)))
    clear X12 k12
    (repeat (first | (refine his_q rfl rfl (fun K hK => ?_); apply Exists.intro; refine ⟨fun w' hC => ?_, ?_⟩; ((try simp [Sg.upd] at hC); go_simp <;> rfl); go_simp; refine hK _ _ ?_; clear hK K) | (refine his_s rfl (fun K hK => ?_); go_simp; refine hK _ _ ?_; clear hK K)))
    refine his_l rfl rfl (fun K hK => ?_)
    refine loudly_store_row 162 (.tmp 2) (.tmp 28) rfl b2 #[.bool true, .int .u64 (h : Int), .int .i64 (rn : Int), .int .i64 (an : Int), .int .i64 (sn : Int)] rfl rfl 162 _ HR12.out.1 (by kernel_rfl) (by rfl) (by kernel_rfl) ?_
    refine hK _ _ ((Keep.refl [b2] _).setRow (.inl (by simp)) _) ?_
    clear hK K
    (repeat (first | (refine his_q rfl rfl (fun K hK => ?_); apply Exists.intro; refine ⟨fun w' hC => ?_, ?_⟩; ((try simp [Sg.upd] at hC); go_simp <;> rfl); go_simp; refine hK _ _ ?_; clear hK K) | (refine his_s rfl (fun K hK => ?_); go_simp; refine hK _ _ ?_; clear hK K)))
    refine his_nil ?_
    clear x0 x1 x2 x3 x4
    go_wp2_with fail
    have hk13 : Keep [b2] w10 (w12.setRow b2 #[.bool true, .int .u64 (h : Int), .int .i64 (rn : Int), .int .i64 (an : Int), .int .i64 (sn : Int)]) := (HR12.out.2.mono (by simp)).setRow (.inl (by simp)) _
    refine bodyPost_ret (results_cell_tmp_row rfl _ _ b2 162 _ _ _ rfl (setRow_heap _ _ _ _ _ _ HR12.out.1) Try.underlying162 rfl (by kernel_rfl)) rfl ⟨rfl, ?_, ?_⟩
    · exact H10.out.2.2.2.keepS hk13 (fun b hb => by rw [List.mem_singleton.1 hb]; exact ⟨Nat.le_trans hBd HX.out.2.2.2, HX.out.2.2.1.symm, Nat.le_trans HWw HX.out.2.2.2⟩)
    · exact ((H10.out.2.2.1.mono (T := [b2, g]) (by simp)).trans (hk13.mono (by simp))).fresh (fun b hb => by
        simp at hb
        rcases hb with rfl | rfl
        · exact .inr HX.out.2.2.2
        · exact .inl (by simp))
  · skip
    go_enter Try.func178, Try.ntmps178
    go_wp2_with fail
    rw [HW1.out]
    refine c1.mono ?_
    clear c1
    rintro e w2 ⟨rfl, q2, k2⟩
    have X2 := k2.blk hgB H1.out.2
    have c2 := readNumberB_any Bd W w2 g (le h 8 ++ (le rn 8 ++ (le an 2 ++ (le sn 2 ++ rest))), false) q2 8 (by simp)
    rw [HN.out.1, show ((8 : Nat) : Int) = 8 from rfl] at c2
    have H2 := Lib.hid (And.intro X2 ((H1.out.1.mono (by simp)).trans k2))
    clear q2 k2 X2
    go_wp2_with fail
    refine c2.mono ?_
    clear c2
    rintro e w3 ⟨rfl, q3, k3⟩
    have hA4 := (Keep.refl [] w3).alloc (.cells #[.bool false, .int .u64 (h : Int), .int .i64 0, .int .i64 0, .int .i64 0] 162)
    have hB4 := heap_alloc_new w3 (.cells #[.bool false, .int .u64 (h : Int), .int .i64 0, .int .i64 0, .int .i64 0] 162)
    obtain ⟨w4, hw4⟩ : ∃ w4, w3.alloc (.cells #[.bool false, .int .u64 (h : Int), .int .i64 0, .int .i64 0, .int .i64 0] 162) = w4 := ⟨_, rfl⟩
    rw [hw4] at hA4 hB4
    have HW4 := Lib.hid hw4
    obtain ⟨b5, hb5⟩ : ∃ b5, w3.heap.size = b5 := ⟨_, rfl⟩
    rw [hb5] at hB4
    have hgw : g < w3.heap.size := Nat.lt_of_lt_of_le hg (Nat.le_trans H2.out.2.size k3.size)
    have hg5 : g ≠ b5 := by omega
    have h52 : b5 ≠ w.heap.size := by
      have h1 := (Array.getElem?_eq_some_iff.1 H2.out.1).1
      have h2 := k3.size
      omega
    have hW5 : W.heap.size ≤ b5 := by rw [← hb5]; exact q3.1.size
    have hw5 : w.heap.size ≤ b5 := by rw [← hb5]; exact Nat.le_trans H2.out.2.size k3.size
    have q4 := q3.keep hA4
    have c3 := readNumberB_any Bd W w4 g (le rn 8 ++ (le an 2 ++ (le sn 2 ++ rest)), false) q4 8 (by simp)
    rw [HN.out.2.1, show ((8 : Nat) : Int) = 8 from rfl] at c3
    have H4 := Lib.hid (And.intro ((k3.trans (hA4.mono (by simp))).blk hgB H2.out.1) (And.intro (H2.out.2.trans (k3.trans (hA4.mono (by simp)))) (And.intro hB4 (And.intro hg5 (And.intro h52 (And.intro hW5 hw5))))))
    have HB5 := Lib.hid hb5
    clear q3 k3 hA4 hB4 hw4 hb5 hgw hg5 h52 hW5 hw5 q4 H2
    go_wp2_with fail
    rw [HW4.out, HB5.out]
    refine c3.mono ?_
    clear c3
    rintro e w5 ⟨rfl, q5, k5⟩
    have r5 := k5.blk (by simp; exact fun e => H4.out.2.2.2.1 e.symm) H4.out.2.2.1
    have t5 := cell_of_row w5 _ 2 _ _ _ r5
    have f5 := frozen_of_row w5 _ 2 _ _ r5
    simp at t5
    have q6 := q5.setCell (i := 2) (Nat.le_trans hBd H4.out.2.2.2.2.2.2) H4.out.2.2.2.1.symm H4.out.2.2.2.2.2.1 (.int .i64 (rn : Int))
    have r6 := heap_setCell_same w5 b5 2 _ _ (.int .i64 (rn : Int)) r5
    simp only [List.setIfInBounds_toArray, List.set_cons_zero, List.set_cons_succ] at r6
    have k6 := (Keep.refl [b5] w5).setCell (p := ⟨b5, 2, none⟩) (.inl (by simp)) (.int .i64 (rn : Int))
    obtain ⟨w6, hw6⟩ : ∃ w6, w5.setCell ⟨b5, 2, none⟩ (.int .i64 (rn : Int)) = w6 := ⟨_, rfl⟩
    rw [hw6] at q6 r6 k6
    have c4 := readNumberB_any Bd W w6 g (le an 2 ++ (le sn 2 ++ rest), false) q6 2 (by simp)
    rw [HN.out.2.2.1, show ((2 : Nat) : Int) = 2 from rfl] at c4
    have H6 := Lib.hid (And.intro (k6.blk (by simp; exact fun e => H4.out.2.2.2.2.1 e.symm) (k5.blk hgB H4.out.1)) (And.intro r6 (And.intro (H4.out.2.1.trans k5) k6)))
    have HW6 := Lib.hid hw6
    clear q5 k5 r5 q6 r6 k6 hw6
    go_wp2_with fail
    rw [HW6.out]
    refine c4.mono ?_
    clear c4 t5 f5 HW6
    rintro e w7 ⟨rfl, q7, k7⟩
    have r7 := k7.blk (by simp; exact fun e => H4.out.2.2.2.1 e.symm) H6.out.2.1
    have t7 := cell_of_row w7 _ 3 _ _ _ r7
    have f7 := frozen_of_row w7 _ 3 _ _ r7
    simp at t7
    have q8 := q7.setCell (i := 3) (Nat.le_trans hBd H4.out.2.2.2.2.2.2) H4.out.2.2.2.1.symm H4.out.2.2.2.2.2.1 (.int .i64 (an : Int))
    have r8 := heap_setCell_same w7 b5 3 _ _ (.int .i64 (an : Int)) r7
    simp only [List.setIfInBounds_toArray, List.set_cons_zero, List.set_cons_succ] at r8
    have k8 := (Keep.refl [b5] w7).setCell (p := ⟨b5, 3, none⟩) (.inl (by simp)) (.int .i64 (an : Int))
    obtain ⟨w8, hw8⟩ : ∃ w8, w7.setCell ⟨b5, 3, none⟩ (.int .i64 (an : Int)) = w8 := ⟨_, rfl⟩
    rw [hw8] at q8 r8 k8
    have c5 := readNumberB_any Bd W w8 g (le sn 2 ++ rest, false) q8 2 (by simp)
    rw [HN.out.2.2.2, show ((2 : Nat) : Int) = 2 from rfl] at c5
    have hk8 : Keep [g] w w8 := by
      have h1 := (H6.out.2.2.1.mono (T := [b5, g]) (by simp)).trans ((H6.out.2.2.2.mono (T := [b5, g]) (by simp)).trans ((k7.mono (T := [b5, g]) (by simp)).trans (k8.mono (T := [b5, g]) (by simp))))
      exact h1.fresh (fun b hb => by
        simp at hb
        rcases hb with rfl | rfl
        · exact .inr H4.out.2.2.2.2.2.2
        · exact .inl (by simp))
    have H8 := Lib.hid (And.intro (k8.blk (by simp; exact fun e => H4.out.2.2.2.2.1 e.symm) (k7.blk hgB H6.out.1)) (And.intro r8 hk8))
    have HW8 := Lib.hid hw8
    clear q7 k7 r7 q8 r8 k8 hw8 hk8 H6
    go_wp2_with fail
    rw [HW8.out]
    refine c5.mono ?_
    clear c5 t7 f7 HW8
    rintro e w9 ⟨rfl, q9, k9⟩
    have r9 := k9.blk (by simp; exact fun e => H4.out.2.2.2.1 e.symm) H8.out.2.1
    have t9 := cell_of_row w9 _ 4 _ _ _ r9
    have f9 := frozen_of_row w9 _ 4 _ _ r9
    simp at t9
    have q10 := q9.setCell (i := 4) (Nat.le_trans hBd H4.out.2.2.2.2.2.2) H4.out.2.2.2.1.symm H4.out.2.2.2.2.2.1 (.int .i64 (sn : Int))
    have r10 := heap_setCell_same w9 b5 4 _ _ (.int .i64 (sn : Int)) r9
    simp only [List.setIfInBounds_toArray, List.set_cons_zero, List.set_cons_succ] at r10
    have k10 := (Keep.refl [b5] w9).setCell (p := ⟨b5, 4, none⟩) (.inl (by simp)) (.int .i64 (sn : Int))
    obtain ⟨w10, hw10⟩ : ∃ w10, w9.setCell ⟨b5, 4, none⟩ (.int .i64 (sn : Int)) = w10 := ⟨_, rfl⟩
    rw [hw10] at q10 r10 k10
    have hk10 : Keep [g] w w10 := by
      have h1 := (H8.out.2.2.mono (T := [b5, g]) (by simp)).trans ((k9.mono (T := [b5, g]) (by simp)).trans (k10.mono (T := [b5, g]) (by simp)))
      exact h1.fresh (fun b hb => by
        simp at hb
        rcases hb with rfl | rfl
        · exact .inr H4.out.2.2.2.2.2.2
        · exact .inl (by simp))
    have H10 := Lib.hid (And.intro (k10.blk (by simp; exact fun e => H4.out.2.2.2.2.1 e.symm) (k9.blk hgB H8.out.1)) (And.intro r10 (And.intro hk10 q10)))
    have HW10 := Lib.hid hw10
    clear q9 k9 r9 q10 r10 k10 hw10 hk10 H8
    go_wp2_with fail
    rw [HW10.out]
    clear t9 f9 HW10
    obtain ⟨b2, hb2⟩ : ∃ b2, w.heap.size = b2 := ⟨_, rfl⟩
    have hne : b5 ≠ b2 := by rw [← hb2]; exact H4.out.2.2.2.2.1
    have hgb2 : g ≠ b2 := by omega
    have X10 := H10.out.1
    rw [hb2] at X10 ⊢
    have HX := Lib.hid (And.intro X10 (And.intro hne (And.intro hgb2 (Nat.le_of_eq hb2))))
    clear X10 hne hgb2 hgB hb2
    refine wp_region_his [b2] [14, 16] (fun _ => 0) (by kernel_rfl) (by kernel_rfl) ?_
    intro w11 hk11 hh
    clear hh
    have hr11 := hk11.blk (by simp) H10.out.2.1
    have x0 := fun w' (h : Keep [b2] w11 w') => cell_of_row w' _ 0 _ _ _ (h.blk (by simpa using HX.out.2.1) hr11)
    have x1 := fun w' (h : Keep [b2] w11 w') => cell_of_row w' _ 1 _ _ _ (h.blk (by simpa using HX.out.2.1) hr11)
    have x2 := fun w' (h : Keep [b2] w11 w') => cell_of_row w' _ 2 _ _ _ (h.blk (by simpa using HX.out.2.1) hr11)
    have x3 := fun w' (h : Keep [b2] w11 w') => cell_of_row w' _ 3 _ _ _ (h.blk (by simpa using HX.out.2.1) hr11)
    have x4 := fun w' (h : Keep [b2] w11 w') => cell_of_row w' _ 4 _ _ _ (h.blk (by simpa using HX.out.2.1) hr11)
    simp at x0 x1 x2 x3 x4
    have HK11 := Lib.hid hk11
    clear hk11 hr11
    (repeat (first | (refine his_q rfl rfl (fun K hK => ?_); apply Exists.intro; refine ⟨fun w' hC => ?_, ?_⟩; ((try simp [Sg.upd] at hC); go_simp <;> rfl); go_simp; refine hK _ _ ?_; clear hK K) | (refine his_s rfl (fun K hK => ?_); go_simp; refine hK _ _ ?_; clear hK K)))
    refine his_c rfl rfl (.bool false) (fun K hK => ?_)
    refine ⟨fun w' hC => Yields.call 144 #[.pointer (some ⟨g, 0, none⟩)] ?_ (by kernel_rfl) ?_, ?_⟩
    · go_simp
    · have hC' : Keep [b2] w11 w' := hC
      exact bad_any W w' g rest false (((H10.out.2.2.2.keep HK11.out).keepS hC' (fun b hb => by rw [List.mem_singleton.1 hb]; exact ⟨Nat.le_trans hBd HX.out.2.2.2, HX.out.2.2.1.symm, Nat.le_trans HWw HX.out.2.2.2⟩)).rs)
    go_simp
    refine hK _ _ ?_
    clear hK K
    (repeat (first | (refine his_q rfl rfl (fun K hK => ?_); apply Exists.intro; refine ⟨fun w' hC => ?_, ?_⟩; ((try simp [Sg.upd] at hC); go_simp <;> rfl); go_simp; refine hK _ _ ?_; clear hK K) | (refine his_s rfl (fun K hK => ?_); go_simp; refine hK _ _ ?_; clear hK K)))
    (refine his_l rfl rfl (fun K hK => ?_); go_simp)
    refine (CR.out _).mono ?_
    rintro e w12 ⟨rfl, k12⟩
    refine hK _ _ (k12.mono (by simp)) ?_
    clear hK K
    have X12 := (HK11.out.trans k12).blk (by simp) HX.out.1
    have HR12 := Lib.hid (And.intro X12 ((HK11.out.trans k12)))
    clear X12 k12
    (repeat (first | (refine his_q rfl rfl (fun K hK => ?_); apply Exists.intro; refine ⟨fun w' hC => ?_, ?_⟩; ((try simp [Sg.upd] at hC); go_simp <;> rfl); go_simp; refine hK _ _ ?_; clear hK K) | (refine his_s rfl (fun K hK => ?_); go_simp; refine hK _ _ ?_; clear hK K)))
    refine his_l rfl rfl (fun K hK => ?_)
    refine loudly_store_row 162 (.tmp 2) (.tmp 28) rfl b2 #[.bool false, .int .u64 (h : Int), .int .i64 (rn : Int), .int .i64 (an : Int), .int .i64 (sn : Int)] rfl rfl 162 _ HR12.out.1 (by kernel_rfl) (by rfl) (by kernel_rfl) ?_
    refine hK _ _ ((Keep.refl [b2] _).setRow (.inl (by simp)) _) ?_
    clear hK K
    (repeat (first | (refine his_q rfl rfl (fun K hK => ?_); apply Exists.intro; refine ⟨fun w' hC => ?_, ?_⟩; ((try simp [Sg.upd] at hC); go_simp <;> rfl); go_simp; refine hK _ _ ?_; clear hK K) | (refine his_s rfl (fun K hK => ?_); go_simp; refine hK _ _ ?_; clear hK K)))
    refine his_nil ?_
    clear x0 x1 x2 x3 x4
    go_wp2_with fail
    have hk13 : Keep [b2] w10 (w12.setRow b2 #[.bool false, .int .u64 (h : Int), .int .i64 (rn : Int), .int .i64 (an : Int), .int .i64 (sn : Int)]) := (HR12.out.2.mono (by simp)).setRow (.inl (by simp)) _
    refine bodyPost_ret (results_cell_tmp_row rfl _ _ b2 162 _ _ _ rfl (setRow_heap _ _ _ _ _ _ HR12.out.1) Try.underlying162 rfl (by kernel_rfl)) rfl ⟨rfl, ?_, ?_⟩
    · exact H10.out.2.2.2.keepS hk13 (fun b hb => by rw [List.mem_singleton.1 hb]; exact ⟨Nat.le_trans hBd HX.out.2.2.2, HX.out.2.2.1.symm, Nat.le_trans HWw HX.out.2.2.2⟩)
    · exact ((H10.out.2.2.1.mono (T := [b2, g]) (by simp)).trans (hk13.mono (by simp))).fresh (fun b hb => by
        simp at hb
        rcases hb with rfl | rfl
        · exact .inr HX.out.2.2.2
        · exact .inl (by simp))

theorem RS.keepRow {W w w' : World} {g b : Nat} {xs : List UInt8} {bad : Bool} {cs : Array Value} {t : TypeId} {fr : Nat × Nat} (h : RS W w g xs bad) (hb : w.heap[b]? = some (.cells cs t fr)) (hne : g ≠ b) (hW : W.heap.size ≤ b) (hcs : ∀ (i : Nat) (x : Value), cs[i]? = some x → ∀ n : Int, x ≠ Value.int .u8 n) (k : Keep [b] w w') : RS W w' g xs bad := by
  obtain ⟨hK, hg, v, hr, hv, hl⟩ := h
  exact ⟨hK.trans' k (fun x hx => .inr (by rw [List.mem_singleton.1 hx]; exact hW)), hg, v, k.blk (by simpa using hne) hr, bytes_keep hv k (fun hl x hx hm => hv.ne_row hl hb hcs (by rw [hx, List.mem_singleton.1 hm])), hl⟩
theorem nu_batch (t : Int) (v : Value) (hv : ∀ n : Int, v ≠ Value.int .u8 n) : ∀ (i : Nat) (x : Value), (#[Value.int .i64 t, v] : Array Value)[i]? = some x → ∀ n : Int, x ≠ Value.int .u8 n := by
  intro i x hx n e
  subst e
  match i, hx with
  | 0, h => simp at h
  | 1, h => exact hv n (by simpa using h)
  | i + 2, h => simp at h

set_option maxRecDepth 100000 in
set_option maxHeartbeats 1000000 in
set_option maxHeartbeats 4000000 in
theorem parse_any (v : Value) (t : Nat) (p : List Ch) (ht : t ≤ 281474976710656) (hg : GoodC p) (hl : p.length ≤ 255) (w : World) (hv : Bytes w v (dload t p)) :
    Calls Try.prog 165 #[v] w fun e w' => ∃ pv, e = .returned (.tuple #[.agg #[.int .i64 (t : Int), pv], .bool true]) ∧ CRow w' w.heap.size pv p ∧ Keep [] w w' := by
  obtain ⟨va, vc, rfl, -⟩ := hv.form
  have hdl := dload_len t p
  obtain ⟨M, hM⟩ : ∃ M, (dload t p).length = M := ⟨_, rfl⟩
  rw [hM] at hv hdl ⊢
  obtain ⟨N, hN⟩ : ∃ N, p.length = N := ⟨_, rfl⟩
  have hN2 : N ≤ 255 := by omega
  have hd : dload t p = le t 8 ++ (le N 1 ++ p.flatMap Ch.bs) := by unfold dload; rw [hN, List.append_assoc]
  have hA := (Keep.refl [] w).alloc (.cells #[.int .i64 0, .slice none 0 0] 239)
  have hB := heap_alloc_new w (.cells #[.int .i64 0, .slice none 0 0] 239)
  obtain ⟨w1, hw1⟩ : ∃ w1, w.alloc (.cells #[.int .i64 0, .slice none 0 0] 239) = w1 := ⟨_, rfl⟩
  rw [hw1] at hA hB
  have c1 := newReaderB_any (.slice va M vc) (dload t p) w1 (hv.keep hA (by simp)) (by rw [hM]; omega)
  rw [hd] at c1
  have n1 := rdN_le t 8 (le N 1 ++ p.flatMap Ch.bs) false (by simp; omega)
  have n2 := rdN_le N 1 (p.flatMap Ch.bs) false (by simp; omega)
  have e1 : IntKind.i64.wrap (t : Int) = (t : Int) := i64_wrap (by omega) (by omega)
  obtain ⟨b2, hb2⟩ : ∃ b2, w.heap.size = b2 := ⟨_, rfl⟩
  have hb2' : w.heap.size ≤ b2 := Nat.le_of_eq hb2
  rw [hb2] at hB
  have HW1 := Lib.hid (And.intro hw1 hb2)
  have H1 := Lib.hid (And.intro hA hB)
  have HN := Lib.hid (And.intro n1 (And.intro n2 (And.intro hN hg)))
  have hb1 : b2 < w1.heap.size := (Array.getElem?_eq_some_iff.1 hB).1
  clear hv hdl hM hN hd hA hB hw1 n1 n2 hb2
  go_enter Try.func165, Try.ntmps165
  go_wp2_with fail
  rw [HW1.out.1, HW1.out.2]
  refine c1.mono ?_
  clear c1
  rintro e w2 ⟨g, rfl, q2⟩
  have hg2 : w1.heap.size ≤ g := q2.2.1
  have q2' := q2.base H1.out.1
  have c2 := readNumberB_any g w w2 g (le t 8 ++ (le N 1 ++ p.flatMap Ch.bs), false) q2' 8 (by simp)
  rw [HN.out.1, show ((8 : Nat) : Int) = 8 from rfl] at c2
  have H2 := Lib.hid (q2.1.blk (by simp) H1.out.2)
  have hgne : g ≠ b2 := by omega
  clear q2 q2'
  go_wp2_with fail
  refine c2.mono ?_
  clear c2
  rintro e w3 ⟨rfl, q3, k3⟩
  have hA4 := (Keep.refl [] w3).alloc (.cells #[.int .i64 (t : Int), .slice none 0 0] 239)
  have hB4 := heap_alloc_new w3 (.cells #[.int .i64 (t : Int), .slice none 0 0] 239)
  obtain ⟨w4, hw4⟩ : ∃ w4, w3.alloc (.cells #[.int .i64 (t : Int), .slice none 0 0] 239) = w4 := ⟨_, rfl⟩
  rw [hw4] at hA4 hB4
  obtain ⟨b6, hb6⟩ : ∃ b6, w3.heap.size = b6 := ⟨_, rfl⟩
  rw [hb6] at hB4
  have hg3 : g < w3.heap.size := q3.lt
  have hg6 : g ≠ b6 := by omega
  have hg6' : g < b6 := by omega
  have h62 : b6 ≠ b2 := by
    have h1 := (Array.getElem?_eq_some_iff.1 H2.out).1
    have h2 := k3.size
    omega
  have hw6 : w.heap.size ≤ b6 := by rw [← hb6]; exact q3.1.size
  have HW4 := Lib.hid (And.intro hw4 hb6)
  have c3 := readNumberB_any g w w4 g (le N 1 ++ p.flatMap Ch.bs, false) (q3.keep hA4) 1 (by simp)
  rw [HN.out.2.1, show ((1 : Nat) : Int) = 1 from rfl] at c3
  have H4 := Lib.hid (And.intro ((k3.trans (hA4.mono (by simp))).blk (by simpa using hgne.symm) H2.out) hB4)
  clear q3 k3 hA4 hB4 hw4 hb6 hg3 H2
  go_wp2_with fail
  rw [HW4.out.1, HW4.out.2]
  refine c3.mono ?_
  clear c3
  rintro e w5 ⟨rfl, q5, k5⟩
  have H5 := Lib.hid (And.intro q5 (And.intro (k5.blk (by simpa using hg6.symm) H4.out.2) (k5.blk (by simpa using hgne.symm) H4.out.1)))
  clear q5 k5 H4
  go_wp2_with fail
  go_loopw [7, 8, 18] (fun _ _ i wr => ∃ (k : Nat) (pv : Value), k ≤ N ∧ i = .int .u64 (k : Int) ∧ Hid (RB g w wr g ((p.drop k).flatMap Ch.bs) false ∧ wr.heap[b6]? = some (.cells #[.int .i64 (t : Int), pv] 239 (0, 0)) ∧ wr.heap[b2]? = some (.cells #[.int .i64 0, .slice none 0 0] 239 (0, 0)) ∧ CRow wr b6 pv (p.take k))) (fun _ _ i _ => N - (intOf i).toNat)
  case atStart => exact ⟨0, .slice none 0 0, by omega, rfl, Lib.hid ⟨by simpa using H5.out.1, H5.out.2.1, H5.out.2.2, RowE.nil⟩⟩
  case round =>
    clear H5
    obtain ⟨k, pv, hk, rfl, hP⟩ := hrel
    rename World => wr
    by_cases hkN : k < N
    case pos =>
      have hkl : k < p.length := by rw [HN.out.2.2.1]; exact hkN
      obtain ⟨x, hx⟩ : ∃ x, p[k] = x := ⟨_, rfl⟩
      have hdr : p.drop k = x :: p.drop (k + 1) := by rw [← hx]; exact List.drop_eq_getElem_cons hkl
      have htk : p.take (k + 1) = p.take k ++ [x] := by rw [← hx, List.take_append_getElem hkl]
      have hxm : x ∈ p := by rw [← hx]; exact List.getElem_mem hkl
      have q0 := hP.out.1
      rw [hdr, List.flatMap_cons] at q0
      have cR := chRead_any g w wr g x (HN.out.2.2.2.r x hxm) (HN.out.2.2.2.h x hxm) _ q0 (Nat.le_of_lt q0.lt)
      simp only [Ch.v] at cR
      have HT := Lib.hid htk
      have hkN' : (k : Int) < (N : Int) := by omega
      clear hx hdr htk hxm q0
      obtain ⟨pa, pc, e⟩ := hP.out.2.2.2.form
      have hlk : (p.take k).length = k := by rw [List.length_take]; omega
      rw [hlk] at e
      subst e
      clear hlk
      go_wp2_with fail
      refine cR.mono ?_
      clear cR
      rintro e w6 ⟨rfl, q6, k6⟩
      have r6 := k6.blk (by simpa using hg6.symm) hP.out.2.1
      have s6 := k6.blk (by simpa using hgne.symm) hP.out.2.2.1
      have o6 := hP.out.2.2.2.keep k6 (fun b hb hm => by
        have := (hP.out.2.2.2.lt b hb).1
        rw [List.mem_singleton.1 hm] at this
        omega)
      have kA7 := (Keep.refl [] w6).alloc (.cells #[.bool x.drop, .int .u64 (x.hash : Int), .int .i64 x.r, .int .i64 x.a, .int .i64 x.s] 162)
      have kA8 := (Keep.refl [] (w6.alloc (.cells #[.bool x.drop, .int .u64 (x.hash : Int), .int .i64 x.r, .int .i64 x.a, .int .i64 x.s] 162))).alloc (.cells #[.bool x.drop, .int .u64 (x.hash : Int), .int .i64 x.r, .int .i64 x.a, .int .i64 x.s] 162)
      have nB8 := heap_alloc_new (w6.alloc (.cells #[.bool x.drop, .int .u64 (x.hash : Int), .int .i64 x.r, .int .i64 x.a, .int .i64 x.s] 162)) (.cells #[.bool x.drop, .int .u64 (x.hash : Int), .int .i64 x.r, .int .i64 x.a, .int .i64 x.s] 162)
      have hk78 := kA7.trans kA8
      obtain ⟨v9, w9, hrun, ho9, hk9, hloc⟩ := run_append_one (P := Try.prog) (ty := 164) clies Try.underlying164 ch_info rfl (by decide) (by decide) b6 (o6.keep hk78 (by simp)) _ x nB8 (by rw [List.length_take]; omega) (Nat.le_trans (Nat.le_of_lt (Array.getElem?_eq_some_iff.1 r6).1) hk78.size)
      obtain ⟨a9, c9, rfl⟩ := ho9.form
      have hl9 : (p.take k ++ [x]).length = k + 1 := by rw [List.length_append, List.length_take]; simp; omega
      rw [hl9, World.size_alloc] at hrun
      rw [hl9] at ho9
      have hpn : ∀ b, (Value.slice pa k pc).ownBlock = some b → b ≠ b6 ∧ b ≠ b2 ∧ b ≠ g ∧ b6 ≤ b := fun b hb => ⟨fun e => o6.ne r6 (by decide) (by rw [hb, e]), fun e => o6.ne s6 (by decide) (by rw [hb, e]), fun e => by have := (o6.lt b hb).1; omega, (o6.lt b hb).1⟩
      have r9 := hk9.blk (fun hm => (hpn b6 (by simpa using hm)).1 rfl) (hk78.blk (by simp) r6)
      have s9 := hk9.blk (fun hm => (hpn b2 (by simpa using hm)).2.1 rfl) (hk78.blk (by simp) s6)
      have hne9 : (Value.slice a9 (k + 1) c9).ownBlock ≠ some b6 := ho9.ne r9 (by decide)
      have q9 : RB g w w9 g ((p.drop (k + 1)).flatMap Ch.bs) false := (q6.keep hk78).keepS hk9 (fun b hb => by
        have := hpn b (by simpa using hb)
        exact ⟨by omega, this.2.2.1, by omega⟩)
      have t9 := cell_of_row w9 _ 1 _ _ _ r9
      have f9 := frozen_of_row w9 _ 1 _ _ r9
      have t6 := cell_of_row _ _ 1 _ _ _ (kA7.blk (by simp) r6)
      simp at t9 t6
      have kS := (Keep.refl [b6] w9).setCell (p := ⟨b6, 1, none⟩) (.inl (by simp)) (.slice a9 (k + 1) c9)
      have r10 := heap_setCell_same w9 b6 1 _ _ (.slice a9 (k + 1) c9) r9
      simp only [List.setIfInBounds_toArray, List.set_cons_zero, List.set_cons_succ] at r10
      have q10 := q9.setCell (i := 1) (b := b6) (Nat.le_of_lt hg6') hg6.symm hw6 (.slice a9 (k + 1) c9)
      have s10 := kS.blk (by simpa using h62.symm) s9
      have o10 := ho9.keep kS (fun b hb hm => hne9 (by rw [hb, List.mem_singleton.1 hm]))
      rw [← HT.out] at o10
      have H10 := Lib.hid (And.intro q10 (And.intro r10 (And.intro s10 o10)))
      have HR := Lib.hid hrun
      clear q6 k6 r6 s6 o6 kA7 kA8 nB8 hk78 hrun ho9 hk9 hloc hl9 hpn r9 s9 hne9 q9 kS r10 q10 s10 o10
      go_wp2_with (at_builtin; refine wpList_append_run rfl (.tmp 29) (.tmp 31) 164 rfl (w' := w9) rfl rfl HR.out ?_)
      go_wp2
      go_roundw
      case rel => exact ⟨k + 1, _, by omega, by go_num, H10⟩
      case measure => simp [intOf]; omega
    case neg =>
      obtain rfl : k = N := by omega
      have hkN' : ¬ (k : Int) < (k : Int) := by omega
      have e1 : p.drop k = [] := List.drop_eq_nil_of_le (by rw [HN.out.2.2.1]; exact Nat.le_refl _)
      have e2 : p.take k = p := List.take_of_length_le (by rw [HN.out.2.2.1]; exact Nat.le_refl _)
      have hP2 := hP.out
      rw [e1, e2] at hP2
      obtain ⟨pa, pc, rfl⟩ := hP2.2.2.2.form
      have HP2 := Lib.hid hP2
      obtain ⟨N2, hN2'⟩ : ∃ N2, p.length = N2 := ⟨_, rfl⟩
      rw [hN2'] at HP2
      have HN2 := Lib.hid hN2'
      have yt : (t : Int) ≤ 281474976710656 := by omega
      clear hP e1 e2 hP2 hN2'
      go_wp2_with fail
      refine wp_region_his [b2] [6, 14] (fun _ => 0) (by kernel_rfl) (by kernel_rfl) ?_
      intro w11 hk11 hh
      clear hh
      have x0 := fun w' (h : Keep [b2] w11 w') => cell_of_row w' _ 0 _ _ _ (h.blk (by simpa using h62) (hk11.blk (by simp) HP2.out.2.1))
      have x1 := fun w' (h : Keep [b2] w11 w') => cell_of_row w' _ 1 _ _ _ (h.blk (by simpa using h62) (hk11.blk (by simp) HP2.out.2.1))
      simp at x0 x1
      have HK11 := Lib.hid hk11
      clear hk11
      have q11 : ∀ w', Keep [b2] w11 w' → RS w w' g [] false := fun w' h => ((HP2.out.1.keep HK11.out).rs).keepRow (HK11.out.blk (by simp) HP2.out.2.2.1) hgne hb2' (nu_batch _ _ (by intro n h; cases h)) h
      have Q11 := Lib.hid q11
      clear q11
      (repeat (first | (refine his_q rfl rfl (fun K hK => ?_); apply Exists.intro; refine ⟨fun w' hC => ?_, ?_⟩; ((try simp [Sg.upd] at hC); go_simp <;> rfl); go_simp; refine hK _ _ ?_; clear hK K) | (refine his_s rfl (fun K hK => ?_); go_simp; refine hK _ _ ?_; clear hK K)))
      refine his_c rfl rfl (.bool false) (fun K hK => ?_)
      refine ⟨fun w' hC => Yields.call 144 #[.pointer (some ⟨g, 0, none⟩)] ?_ (by kernel_rfl) ?_, ?_⟩
      · go_simp
      · have hC' : Keep [b2] w11 w' := hC
        exact bad_any w w' g [] false (Q11.out w' hC')
      go_simp
      refine hK _ _ ?_
      clear hK K
      (repeat (first | (refine his_q rfl rfl (fun K hK => ?_); apply Exists.intro; refine ⟨fun w' hC => ?_, ?_⟩; ((try simp [Sg.upd] at hC); go_simp <;> rfl); go_simp; refine hK _ _ ?_; clear hK K) | (refine his_s rfl (fun K hK => ?_); go_simp; refine hK _ _ ?_; clear hK K)))
      (refine his_l rfl rfl (fun K hK => ?_); go_simp)
      refine (rest_any w w11 g [] false (Q11.out _ (Keep.refl _ _))).mono ?_
      rintro e w12 ⟨v12, rfl, ho12, k12⟩
      obtain ⟨ra, rcp, rfl⟩ := ownsRow_form ho12
      refine hK _ _ (k12.mono (by simp)) ?_
      clear hK K ho12
      have X12 := (HK11.out.trans k12).blk (by simp) HP2.out.2.2.1
      have HR12 := Lib.hid (And.intro X12 ((HK11.out.trans k12)))
      clear X12 k12
      simp only [List.length_nil]
      (repeat (first | (refine his_q rfl rfl (fun K hK => ?_); apply Exists.intro; refine ⟨fun w' hC => ?_, ?_⟩; ((try simp [Sg.upd] at hC); go_simp <;> rfl); go_simp; refine hK _ _ ?_; clear hK K) | (refine his_s rfl (fun K hK => ?_); go_simp; refine hK _ _ ?_; clear hK K)))
      refine his_l rfl rfl (fun K hK => ?_)
      refine loudly_store_row 239 (.tmp 2) (.tmp 35) rfl b2 #[.int .i64 (t : Int), .slice pa N2 pc] rfl rfl 239 _ HR12.out.1 (by kernel_rfl) (by rfl) (by kernel_rfl) ?_
      refine hK _ _ ((Keep.refl [b2] _).setRow (.inl (by simp)) _) ?_
      clear hK K
      (repeat (first | (refine his_q rfl rfl (fun K hK => ?_); apply Exists.intro; refine ⟨fun w' hC => ?_, ?_⟩; ((try simp [Sg.upd] at hC); go_simp <;> rfl); go_simp; refine hK _ _ ?_; clear hK K) | (refine his_s rfl (fun K hK => ?_); go_simp; refine hK _ _ ?_; clear hK K)))
      refine his_nil ?_
      clear x0 x1
      go_wp2_with fail
      have hk13 : Keep [] w (w12.setRow b2 #[.int .i64 (t : Int), .slice pa N2 pc]) := Keep.setRow (HP2.out.1.1.trans HR12.out.2) (.inr hb2') _
      refine bodyPost_ret (results_cell_tmp_row rfl _ _ b2 239 _ _ _ rfl (setRow_heap _ _ _ _ _ _ HR12.out.1) Try.underlying239 rfl (by kernel_rfl)) rfl ⟨_, rfl, ?_, hk13⟩
      have ho := (HP2.out.2.2.2.keep HR12.out.2 (by simp))
      exact (ho.keep ((Keep.refl [b2] w12).setRow (.inl (by simp)) #[.int .i64 (t : Int), .slice pa N2 pc]) (fun b hb hm => ho.ne HR12.out.1 (by decide) (by rw [hb, List.mem_singleton.1 hm]))).lower hw6
end Go.Proofs.Ytjkjiabfhhnngaa

/-! The walks of delta's get and latest. -/
namespace Go.Proofs.Ytjkjiabfhhnngaa
open Go.RowKit Sg
set_option linter.unusedSimpArgs false
set_option linter.unusedVariables false

/-- what stands in a sector of a log: a stamp, a time, changes -/
abbrev Bt := Nat × Nat × List Ch
def DSec (c : Dc) (m : Dev) (at_ : Nat) : Option Bt → Prop
  | none => ¬ lgot m ((c.first + at_ : Nat) : Int) 4 (at_ : Int) ∧ (m.read ((c.first + at_ : Nat) : Int)).2 = 0
  | some (st, t, p) => lgot m ((c.first + at_ : Nat) : Int) 4 (at_ : Int) ∧ ls (m.read ((c.first + at_ : Nat) : Int)).1 = st ∧ ll (m.read ((c.first + at_ : Nat) : Int)).1 = dload t p ∧ t ≤ 281474976710656 ∧ GoodC p ∧ p.length ≤ 255
def dget (o : Option Bt) (n : Nat) : Bool × Nat × List Ch := match o with
  | some (st, t, p) => if st = n then (true, t, p) else (false, 0, [])
  | none => (false, 0, [])
theorem getD_form {c : Dc} {m : Dev} {at_ : Nat} {o : Option Bt} {w5 : World} {x : Ending} (ho : DSec c m at_ o)
    (hor : (lgot m ((c.first + at_ : Nat) : Int) 4 (at_ : Int) ∧ ∃ v, x = .returned (.tuple #[.agg #[.int .i64 4, .int .i64 (at_ : Int), .int .i64 (ls (m.read ((c.first + at_ : Nat) : Int)).1 : Int), v], .int .i64 0]) ∧ Bytes w5 v (ll (m.read ((c.first + at_ : Nat) : Int)).1)) ∨
       (¬ lgot m ((c.first + at_ : Nat) : Int) 4 (at_ : Int) ∧ x = .returned (.tuple #[leaf0, .int .i64 (if (m.read ((c.first + at_ : Nat) : Int)).2 = 0 then 5 else ((m.read ((c.first + at_ : Nat) : Int)).2 : Int))]))) :
    ∃ (kd pl : Int) (st : Nat) (va : Option Addr) (vl vc : Nat) (code : Nat), x = .returned (.tuple #[.agg #[.int .i64 kd, .int .i64 pl, .int .i64 (st : Int), .slice va vl vc], .int .i64 (code : Int)]) ∧
      ((code = 0 ∧ ∃ t p, o = some (st, t, p) ∧ Bytes w5 (.slice va vl vc) (dload t p) ∧ t ≤ 281474976710656 ∧ GoodC p ∧ p.length ≤ 255) ∨ (code = 5 ∧ o = none)) := by
  match o, ho with
  | none, ⟨h1, h2⟩ =>
    rcases hor with ⟨h3, -⟩ | ⟨-, rfl⟩
    · exact absurd h3 h1
    · rw [if_pos h2]
      exact ⟨0, 0, 0, none, 0, 0, 5, rfl, .inr ⟨rfl, rfl⟩⟩
  | some (st, t, p), ⟨h1, h2, h3, h4, h5, h6⟩ =>
    rcases hor with ⟨-, v, rfl, hb⟩ | ⟨h7, -⟩
    · rw [h3] at hb
      obtain ⟨ao, cap, rfl, -⟩ := hb.form
      exact ⟨_, _, st, ao, _, cap, 0, by rw [h2]; rfl, .inl ⟨rfl, t, p, rfl, hb, h4, h5, h6⟩⟩
    · exact absurd h1 h7

set_option maxRecDepth 100000 in
set_option maxHeartbeats 1000000 in
set_option maxHeartbeats 4000000 in
theorem getDl_any (w : World) (D E : List Nat) (gl g : Nat) (c : Dc) (l : Dl) (m : Dev) (pv0 : Value) (h : DLAt w D E gl g c l m pv0) (hacts : m.acts ≤ 1000000000) (n : Nat) (hn : n ≤ 9223372036854775807) (o : Option Bt) (ho : DSec c m (n % c.S) o) (ep : Option Addr) :
    Calls Try.prog 155 #[.pointer (some ⟨gl, 0, none⟩), .int .i64 (n : Int), .pointer ep] w fun e w' => ∃ pv, e = .returned (.tuple #[.agg #[.int .i64 ((dget o n).2.1 : Int), pv], .bool (dget o n).1]) ∧ CRow w' w.heap.size pv (dget o n).2.2 ∧ Keep [] w w' := by
  have s1 := h.ok.s1
  have s2 := h.ok.s2
  obtain ⟨at_, hat⟩ : ∃ at_, n % c.S = at_ := ⟨_, rfl⟩
  have hat2 : at_ < c.S := by rw [← hat]; exact Nat.mod_lt _ (by omega)
  rw [hat] at ho
  have y3 : ((n : Int)).tmod (c.S : Int) = (at_ : Int) := by rw [Int.tmod_eq_emod_of_nonneg (by omega), ← hat]; rfl
  have y4 : IntKind.i64.wrap (at_ : Int) = (at_ : Int) := i64_wrap (by omega) (by omega)
  have u1 : ¬ ((c.S : Int) = 0) := by omega
  have u2 : ((c.S : Int) == 0) = false := beq_false_of_ne u1
  have u3 : ¬ (c.S = 0) := by omega
  have htop := h.ok.top
  have hmn := h.dv.1.n2
  have hsum : IntKind.i64.wrap ((c.first : Int) + (at_ : Int)) = ((c.first + at_ : Nat) : Int) := by rw [i64_wrap (by omega) (by omega)]; push_cast; rfl
  have hget := fun w' h' => leafGet_any w' D g m h' hacts ((c.first + at_ : Nat) : Int) 4 (at_ : Int)
  have hA := (Keep.refl [] w).alloc (.cells #[.int .i64 0, .slice none 0 0] 239)
  have hB := heap_alloc_new w (.cells #[.int .i64 0, .slice none 0 0] 239)
  obtain ⟨w1, hw1⟩ : ∃ w1, w.alloc (.cells #[.int .i64 0, .slice none 0 0] 239) = w1 := ⟨_, rfl⟩
  rw [hw1] at hA hB
  obtain ⟨b6, hb6⟩ : ∃ b6, w.heap.size = b6 := ⟨_, rfl⟩
  have hb6' : w.heap.size ≤ b6 := Nat.le_of_eq hb6
  rw [hb6] at hB
  have hrow := (h.row.keep hA (by simp)).k5
  rw [← hw1] at hrow
  have H := Lib.hid (And.intro h (And.intro ho (And.intro hget (And.intro hA hB))))
  have HW1 := Lib.hid (And.intro hw1 hb6)
  clear h ho hget hA hB hw1 hb6 hat htop hmn
  go_enter Try.func155, Try.ntmps155
  go_wp2_with fail
  rw [HW1.out.1, HW1.out.2]
  clear hrow y3 y4 u1 u2 u3
  go_cut [9, 10] from 18 to 32 (fun s9 s10 wx => ∃ (xb : Nat) (kd pl : Int) (st : Nat) (va : Option Addr) (vl vc : Nat) (code : Nat), s9 = .pointer (some ⟨xb, 0, none⟩) ∧ s10 = .int .i64 (code : Int) ∧ Hid (wx.heap[xb]? = some (.cells #[.int .i64 kd, .int .i64 pl, .int .i64 (st : Int), .slice va vl vc] 74 (0, 0)) ∧ Keep [] w1 wx ∧
      ((code = 0 ∧ ∃ t p, o = some (st, t, p) ∧ Bytes wx (.slice va vl vc) (dload t p) ∧ t ≤ 281474976710656 ∧ GoodC p ∧ p.length ≤ 255) ∨ (code = 5 ∧ o = none))))
  case first =>
    refine wp_region_flo (Since w1) (Since.tr w1) (Since.rf w1) 15 _ [11, 16] (fun _ => 0) (by kernel_rfl) rfl (by kernel_rfl) ?_
    intro w6 hk6 hh6
    have r0 := fun w' (h' : Since w1 w6 w') => (H.out.1.row.keep (H.out.2.2.2.1.trans (h' hk6)) (by simp)).k0
    have r9 := fun w' (h' : Since w1 w6 w') => (H.out.1.row.keep (H.out.2.2.2.1.trans (h' hk6)) (by simp)).k9
    have hs6 : w1.heap.size ≤ w6.heap.size := hk6.size
    clear hh6
    (repeat (first | (refine flo_q (by kernel_rfl) (by kernel_rfl) (by kernel_rfl) rfl (fun K hK => ?_); apply Exists.intro; refine ⟨fun w' hC => ?_, ?_⟩; ((try simp [Sg.upd] at hC); go_simp <;> rfl); go_simp; refine hK _ _ ?_; clear hK K) | (refine flo_s (by kernel_rfl) (by kernel_rfl) rfl (fun K hK => ?_); go_simp; refine hK _ _ ?_; clear hK K) | refine flo_skip rfl ?_))
    refine flo_two (by kernel_rfl) (by kernel_rfl) (by kernel_rfl) (by kernel_rfl) rfl rfl (fun K hK => ?_) (fun K hK => ?_)
    · skip
      go_simp
      have hA7 := (Keep.refl [] w6).alloc (.cells #[.int .i64 0, .int .i64 0, .int .i64 0, .slice none 0 0] 74)
      have hX7 := heap_alloc_new w6 (.cells #[.int .i64 0, .int .i64 0, .int .i64 0, .slice none 0 0] 74)
      refine hK _ _ (fun x => x.trans hA7) ?_
      clear hK K
      have hS7 := hk6.trans hA7
      generalize w6.alloc (.cells #[.int .i64 0, .int .i64 0, .int .i64 0, .slice none 0 0] 74) = w7 at *
      refine flo_l (by kernel_rfl) (by kernel_rfl) rfl (fun K hK => ?_)
      go_simp
      refine (H.out.2.2.1 _ (H.out.1.dv.keep (H.out.2.2.2.1.trans hS7) (by simp))).mono ?_
      rintro x w8 ⟨k8, hor⟩
      obtain ⟨kd, pl, st, va, vl, vc, code, rfl, hcs⟩ := getD_form H.out.2.1 hor
      clear hor
      refine hK _ _ (fun x => x.trans k8) ?_
      clear hK K
      have hS8 := hS7.trans k8
      have hX8 := k8.blk (by simp) hX7
      have HCS := Lib.hid hcs
      clear hcs
      (repeat (first | (refine flo_q (by kernel_rfl) (by kernel_rfl) (by kernel_rfl) rfl (fun K hK => ?_); apply Exists.intro; refine ⟨fun w' hC => ?_, ?_⟩; ((try simp [Sg.upd] at hC); go_simp <;> rfl); go_simp; refine hK _ _ ?_; clear hK K) | (refine flo_s (by kernel_rfl) (by kernel_rfl) rfl (fun K hK => ?_); go_simp; refine hK _ _ ?_; clear hK K) | refine flo_skip rfl ?_))
      refine flo_l (by kernel_rfl) (by kernel_rfl) rfl (fun K hK => ?_)
      refine loudly_store_row 74 (.tmp 9) (.tmp 31) rfl w6.heap.size #[.int .i64 kd, .int .i64 pl, .int .i64 (st : Int), .slice va vl vc] rfl rfl 74 _ hX8 (by kernel_rfl) (by rfl) (by kernel_rfl) ?_
      refine hK _ _ (fun x => Keep.setRow x (g := w6.heap.size) (.inr hs6) _) ?_
      clear hK K
      have HR := Lib.hid (And.intro (setRow_heap _ _ _ #[.int .i64 kd, .int .i64 pl, .int .i64 (st : Int), .slice va vl vc] _ _ hX8) (Keep.setRow hS8 (g := w6.heap.size) (.inr hs6) #[.int .i64 kd, .int .i64 pl, .int .i64 (st : Int), .slice va vl vc]))
      have HC2 := Lib.hid (HCS.out.imp (fun ⟨e1, t, p, e2, e3, e4⟩ => (⟨e1, t, p, e2, bytes_setRow e3 (g := w6.heap.size) (fun hne e => e3.ne_row hne hX8 (nu_leaf 0 0 0 _ (by intro n h; cases h)) e) #[.int .i64 kd, .int .i64 pl, .int .i64 (st : Int), .slice va vl vc], e4⟩ : code = 0 ∧ ∃ t p, o = some (st, t, p) ∧ Bytes (w8.setRow w6.heap.size #[.int .i64 kd, .int .i64 pl, .int .i64 (st : Int), .slice va vl vc]) (.slice va vl vc) (dload t p) ∧ t ≤ 281474976710656 ∧ GoodC p ∧ p.length ≤ 255)) id)
      (repeat (first | (refine flo_q (by kernel_rfl) (by kernel_rfl) (by kernel_rfl) rfl (fun K hK => ?_); apply Exists.intro; refine ⟨fun w' hC => ?_, ?_⟩; ((try simp [Sg.upd] at hC); go_simp <;> rfl); go_simp; refine hK _ _ ?_; clear hK K) | (refine flo_s (by kernel_rfl) (by kernel_rfl) rfl (fun K hK => ?_); go_simp; refine hK _ _ ?_; clear hK K) | refine flo_skip rfl ?_))
      refine flo_nil ?_
      clear r0 r9
      go_wp2_with fail
      go_meet
      case rel => exact ⟨_, kd, pl, st, va, vl, vc, code, rfl, rfl, Lib.hid ⟨HR.out.1, HR.out.2, HC2.out⟩⟩
    · skip
      go_simp
      refine (H.out.2.2.1 _ (H.out.1.dv.keep (H.out.2.2.2.1.trans hk6) (by simp))).mono ?_
      rintro x w8 ⟨k8, hor⟩
      obtain ⟨kd, pl, st, va, vl, vc, code, rfl, hcs⟩ := getD_form H.out.2.1 hor
      clear hor
      refine hK _ _ (fun x => x.trans k8) ?_
      clear hK K
      have hS8 := hk6.trans k8
      have HCS := Lib.hid hcs
      clear hcs
      (repeat (first | (refine flo_q (by kernel_rfl) (by kernel_rfl) (by kernel_rfl) rfl (fun K hK => ?_); apply Exists.intro; refine ⟨fun w' hC => ?_, ?_⟩; ((try simp [Sg.upd] at hC); go_simp <;> rfl); go_simp; refine hK _ _ ?_; clear hK K) | (refine flo_s (by kernel_rfl) (by kernel_rfl) rfl (fun K hK => ?_); go_simp; refine hK _ _ ?_; clear hK K) | refine flo_skip rfl ?_))
      (refine flo_w (by kernel_rfl) (by kernel_rfl) (by kernel_rfl) rfl (fun K hK => ?_); go_simp)
      have hA9 := (Keep.refl [] w8).alloc (.cells #[.int .i64 0, .int .i64 0, .int .i64 0, .slice none 0 0] 74)
      have hX9 := heap_alloc_new w8 (.cells #[.int .i64 0, .int .i64 0, .int .i64 0, .slice none 0 0] 74)
      refine hK _ _ (fun x => x.trans hA9) ?_
      clear hK K
      have hS9 := hS8.trans hA9
      have hs8 : w1.heap.size ≤ w8.heap.size := hS8.size
      generalize w8.alloc (.cells #[.int .i64 0, .int .i64 0, .int .i64 0, .slice none 0 0] 74) = w9 at *
      refine flo_l (by kernel_rfl) (by kernel_rfl) rfl (fun K hK => ?_)
      refine loudly_store_row 74 (.tmp 9) (.tmp 31) rfl w8.heap.size #[.int .i64 kd, .int .i64 pl, .int .i64 (st : Int), .slice va vl vc] rfl rfl 74 _ hX9 (by kernel_rfl) (by rfl) (by kernel_rfl) ?_
      refine hK _ _ (fun x => Keep.setRow x (g := w8.heap.size) (.inr hs8) _) ?_
      clear hK K
      have HR := Lib.hid (And.intro (setRow_heap _ _ _ #[.int .i64 kd, .int .i64 pl, .int .i64 (st : Int), .slice va vl vc] _ _ hX9) (Keep.setRow hS9 (g := w8.heap.size) (.inr hs8) #[.int .i64 kd, .int .i64 pl, .int .i64 (st : Int), .slice va vl vc]))
      have HC2 := Lib.hid (HCS.out.imp (fun ⟨e1, t, p, e2, e3, e4⟩ => (⟨e1, t, p, e2, bytes_setRow (e3.keep hA9 (by simp)) (g := w8.heap.size) (fun hne e => (e3.keep hA9 (by simp)).ne_row hne hX9 (nu_leaf 0 0 0 _ (by intro n h; cases h)) e) #[.int .i64 kd, .int .i64 pl, .int .i64 (st : Int), .slice va vl vc], e4⟩ : code = 0 ∧ ∃ t p, o = some (st, t, p) ∧ Bytes (w9.setRow w8.heap.size #[.int .i64 kd, .int .i64 pl, .int .i64 (st : Int), .slice va vl vc]) (.slice va vl vc) (dload t p) ∧ t ≤ 281474976710656 ∧ GoodC p ∧ p.length ≤ 255)) id)
      (repeat (first | (refine flo_q (by kernel_rfl) (by kernel_rfl) (by kernel_rfl) rfl (fun K hK => ?_); apply Exists.intro; refine ⟨fun w' hC => ?_, ?_⟩; ((try simp [Sg.upd] at hC); go_simp <;> rfl); go_simp; refine hK _ _ ?_; clear hK K) | (refine flo_s (by kernel_rfl) (by kernel_rfl) rfl (fun K hK => ?_); go_simp; refine hK _ _ ?_; clear hK K) | refine flo_skip rfl ?_))
      refine flo_nil ?_
      clear r0 r9
      go_wp2_with fail
      go_meet
      case rel => exact ⟨_, kd, pl, st, va, vl, vc, code, rfl, rfl, Lib.hid ⟨HR.out.1, HR.out.2, HC2.out⟩⟩
  case rest =>
  rename World => wx
  obtain ⟨xb, kd, pl, st, va, vl, vc, code, rfl, rfl, HX⟩ := hcut
  have hk := H.out.2.2.2.1.trans HX.out.2.1
  have hX6 := HX.out.2.1.blk (by simp) H.out.2.2.2.2
  rcases HX.out.2.2 with ⟨rfl, t, p, rfl, hb, ht, hg, hpl⟩ | ⟨rfl, rfl⟩
  case inr =>
    have HK := Lib.hid (And.intro hk hX6)
    clear hk hX6 HX
    rw [show ((5 : Nat) : Int) = 5 from rfl]
    go_wp2_with (refine wpList_store_row rfl 239 (.tmp 6) (.tmp 36) rfl b6 #[.int .i64 0, .slice none 0 0] rfl rfl 239 _ HK.out.2 (by kernel_rfl) (by rfl) (by kernel_rfl) ?_)
    exact bodyPost_ret (results_cell_tmp_row rfl _ _ b6 239 _ _ _ rfl (setRow_heap _ _ _ _ _ _ HK.out.2) Try.underlying239 rfl (by kernel_rfl)) rfl ⟨.slice none 0 0, rfl, RowE.nil, HK.out.1.setRow (.inr hb6') _⟩
  rw [show ((0 : Nat) : Int) = 0 from rfl]
  have x2 := cell_of_row wx _ 2 _ _ _ HX.out.1
  have x3 := cell_of_row wx _ 3 _ _ _ HX.out.1
  simp at x2 x3
  by_cases hst : st = n
  case neg =>
    have HK := Lib.hid (And.intro hk hX6)
    have d1 : ((st : Int) != (n : Int)) = true := by simp; omega
    have d2 : ¬ ((st : Int) = (n : Int)) := by omega
    have hd : dget (some (st, t, p)) n = (false, 0, []) := if_neg hst
    have HD := Lib.hid hd
    clear hk hX6 HX hst hd hb
    go_wp2_with (refine wpList_store_row rfl 239 (.tmp 6) (.tmp 49) rfl b6 #[.int .i64 0, .slice none 0 0] rfl rfl 239 _ HK.out.2 (by kernel_rfl) (by rfl) (by kernel_rfl) ?_)
    refine bodyPost_ret (results_cell_tmp_row rfl _ _ b6 239 _ _ _ rfl (setRow_heap _ _ _ _ _ _ HK.out.2) Try.underlying239 rfl (by kernel_rfl)) rfl ?_
    rw [HD.out]
    exact ⟨.slice none 0 0, rfl, RowE.nil, HK.out.1.setRow (.inr hb6') _⟩
  case pos =>
    subst hst
    have HK := Lib.hid (And.intro hk hX6)
    have hd : dget (some (st, t, p)) st = (true, t, p) := if_pos rfl
    have HD := Lib.hid hd
    have cP := parse_any _ t p ht hg hpl wx hb
    clear hk hX6 HX hd hb
    go_wp2_with fail
    refine cP.mono ?_
    clear cP x2 x3
    rintro e w7 ⟨pv, rfl, ho, k7⟩
    obtain ⟨pa, pc, rfl⟩ := ho.form
    have X7 := k7.blk (by simp) HK.out.2
    have H7 := Lib.hid (And.intro X7 (And.intro ho (HK.out.1.trans k7)))
    clear X7 ho k7
    go_wp2_with (refine wpList_store_row rfl 239 (.tmp 6) (.tmp 53) rfl b6 #[.int .i64 (t : Int), .slice pa p.length pc] rfl rfl 239 _ H7.out.1 (by kernel_rfl) (by rfl) (by kernel_rfl) ?_)
    refine bodyPost_ret (results_cell_tmp_row rfl _ _ b6 239 _ _ _ rfl (setRow_heap _ _ _ _ _ _ H7.out.1) Try.underlying239 rfl (by kernel_rfl)) rfl ?_
    rw [HD.out]
    have ho := H7.out.2.1
    exact ⟨_, rfl, (ho.keep ((Keep.refl [b6] w7).setRow (.inl (by simp)) _) (fun b hb hm => ho.ne H7.out.1 (by decide) (by rw [hb, List.mem_singleton.1 hm]))).lower HK.out.1.size, H7.out.2.2.setRow (.inr hb6') _⟩

/-- the greatest stamp that stands -/
def dlat (S : Nat) (G : Nat → Option Bt) : Nat → Nat → Nat → Nat
  | 0, _, q => q
  | f + 1, a, q => dlat S G f (a + 1) (match G a with
    | some (st, _, _) => if st ≤ 1099511627776 ∧ st % S = a then max q st else q
    | none => q)

set_option maxRecDepth 100000 in
set_option maxHeartbeats 1000000 in
set_option maxHeartbeats 4000000 in
theorem latest_any (w : World) (D E : List Nat) (gl g : Nat) (c : Dc) (l : Dl) (m : Dev) (pv0 : Value) (h : DLAt w D E gl g c l m pv0) (hacts : m.acts ≤ 1000000000) (G : Nat → Option Bt) (hG : ∀ a, a < c.S → DSec c m a (G a)) :
    Calls Try.prog 125 #[.pointer (some ⟨gl, 0, none⟩)] w fun e w' => e = .returned (.tuple #[.int .i64 ((dlat c.S G c.S 0 0 : Nat) : Int), .int .i64 0]) ∧ Keep [] w w' := by
  have s1 := h.ok.s1
  have s2 := h.ok.s2
  obtain ⟨S, hS⟩ : ∃ S, c.S = S := ⟨_, rfl⟩
  have htop := h.ok.top
  have hmn := h.dv.1.n2
  have hbase : c.first + S ≤ 16384 := by omega
  have k5 := h.row.k5
  rw [hS] at s1 s2 k5 ⊢
  have u1 : ¬ ((S : Int) = 0) := by omega
  have u2 : ((S : Int) == 0) = false := beq_false_of_ne u1
  have u3 : ¬ (S = 0) := by omega
  have hrk := fun w' (k : Keep [] w w') => (h.row.keep k (by simp)).k5
  rw [hS] at hrk
  have H := Lib.hid (And.intro h (And.intro hG (And.intro hS hrk)))
  clear h hG hS htop hmn hrk
  go_enter Try.func125, Try.ntmps125
  go_wp2_with fail
  clear k5
  go_loopw [4, 5, 6, 7, 13] (fun v4 _ _ _ i wr => ∃ a q : Nat, a ≤ S ∧ q ≤ 1099511627776 ∧ v4 = .int .i64 (q : Int) ∧ i = .int .i64 (a : Int) ∧ Hid (Keep [] w wr) ∧ Hid (dlat S G (S - a) a q = dlat S G S 0 0)) (fun _ _ _ _ i _ => S - (intOf i).toNat)
  case atStart => exact ⟨0, 0, by omega, by omega, rfl, rfl, Keep.refl _ _, rfl⟩
  case round =>
    obtain ⟨a, q, ha, hq, rfl, rfl, HK, HQ⟩ := hrel
    rename World => wr
    by_cases haS : a = S
    case pos =>
      subst haS
      have hfin : dlat a G a 0 0 = q := by rw [← HQ.out, Nat.sub_self]; rfl
      have HF := Lib.hid hfin
      have hlt : ¬ (a : Int) < (a : Int) := by omega
      clear hfin
      go_wp2
      go_ret2
      exact ⟨by rw [HF.out]; rfl, HK.out⟩
    case neg =>
      have hlt : (a : Int) < (S : Int) := by omega
      have hsum : IntKind.i64.wrap ((c.first : Int) + (a : Int)) = ((c.first + a : Nat) : Int) := by rw [i64_wrap (by omega) (by omega)]; push_cast; rfl
      have hget := fun w' h' => leafGet_any w' D g m h' hacts ((c.first + a : Nat) : Int) 4 (a : Int)
      have HGET := Lib.hid hget
      have HO := Lib.hid (H.out.2.1 a (by rw [H.out.2.2.1]; omega))
      clear hget
      go_wp2_with fail
      go_cut [6, 7] from 16 to 30 (fun s6 s7 wx => ∃ (xb : Nat) (kd pl : Int) (st : Nat) (va : Option Addr) (vl vc : Nat) (code : Nat), s6 = .pointer (some ⟨xb, 0, none⟩) ∧ s7 = .int .i64 (code : Int) ∧ Hid (wx.heap[xb]? = some (.cells #[.int .i64 kd, .int .i64 pl, .int .i64 (st : Int), .slice va vl vc] 74 (0, 0)) ∧ Keep [] wr wx ∧
          ((code = 0 ∧ ∃ t p, G a = some (st, t, p) ∧ Bytes wx (.slice va vl vc) (dload t p) ∧ t ≤ 281474976710656 ∧ GoodC p ∧ p.length ≤ 255) ∨ (code = 5 ∧ G a = none))))
      case first =>
        refine wp_region_flo (Since wr) (Since.tr wr) (Since.rf wr) 15 _ [11, 16] (fun _ => 0) (by kernel_rfl) rfl (by kernel_rfl) ?_
        intro w6 hk6 hh6
        have r0 := fun w' (h' : Since wr w6 w') => (H.out.1.row.keep (HK.out.trans (h' hk6)) (by simp)).k0
        have r9 := fun w' (h' : Since wr w6 w') => (H.out.1.row.keep (HK.out.trans (h' hk6)) (by simp)).k9
        have hs6 : wr.heap.size ≤ w6.heap.size := hk6.size
        clear hh6
        (repeat (first | (refine flo_q (by kernel_rfl) (by kernel_rfl) (by kernel_rfl) rfl (fun K hK => ?_); apply Exists.intro; refine ⟨fun w' hC => ?_, ?_⟩; ((try simp [Sg.upd] at hC); go_simp <;> rfl); go_simp; refine hK _ _ ?_; clear hK K) | (refine flo_s (by kernel_rfl) (by kernel_rfl) rfl (fun K hK => ?_); go_simp; refine hK _ _ ?_; clear hK K) | refine flo_skip rfl ?_))
        refine flo_two (by kernel_rfl) (by kernel_rfl) (by kernel_rfl) (by kernel_rfl) rfl rfl (fun K hK => ?_) (fun K hK => ?_)
        · skip
          go_simp
          have hA7 := (Keep.refl [] w6).alloc (.cells #[.int .i64 0, .int .i64 0, .int .i64 0, .slice none 0 0] 74)
          have hX7 := heap_alloc_new w6 (.cells #[.int .i64 0, .int .i64 0, .int .i64 0, .slice none 0 0] 74)
          refine hK _ _ (fun x => x.trans hA7) ?_
          clear hK K
          have hS7 := hk6.trans hA7
          generalize w6.alloc (.cells #[.int .i64 0, .int .i64 0, .int .i64 0, .slice none 0 0] 74) = w7 at *
          refine flo_l (by kernel_rfl) (by kernel_rfl) rfl (fun K hK => ?_)
          go_simp
          refine (HGET.out _ (H.out.1.dv.keep (HK.out.trans hS7) (by simp))).mono ?_
          rintro x w8 ⟨k8, hor⟩
          obtain ⟨kd, pl, st, va, vl, vc, code, rfl, hcs⟩ := getD_form HO.out hor
          clear hor
          refine hK _ _ (fun x => x.trans k8) ?_
          clear hK K
          have hS8 := hS7.trans k8
          have hX8 := k8.blk (by simp) hX7
          have HCS := Lib.hid hcs
          clear hcs
          (repeat (first | (refine flo_q (by kernel_rfl) (by kernel_rfl) (by kernel_rfl) rfl (fun K hK => ?_); apply Exists.intro; refine ⟨fun w' hC => ?_, ?_⟩; ((try simp [Sg.upd] at hC); go_simp <;> rfl); go_simp; refine hK _ _ ?_; clear hK K) | (refine flo_s (by kernel_rfl) (by kernel_rfl) rfl (fun K hK => ?_); go_simp; refine hK _ _ ?_; clear hK K) | refine flo_skip rfl ?_))
          refine flo_l (by kernel_rfl) (by kernel_rfl) rfl (fun K hK => ?_)
          refine loudly_store_row 74 (.tmp 6) (.tmp 29) rfl w6.heap.size #[.int .i64 kd, .int .i64 pl, .int .i64 (st : Int), .slice va vl vc] rfl rfl 74 _ hX8 (by kernel_rfl) (by rfl) (by kernel_rfl) ?_
          refine hK _ _ (fun x => Keep.setRow x (g := w6.heap.size) (.inr hs6) _) ?_
          clear hK K
          have HR := Lib.hid (And.intro (setRow_heap _ _ _ #[.int .i64 kd, .int .i64 pl, .int .i64 (st : Int), .slice va vl vc] _ _ hX8) (Keep.setRow hS8 (g := w6.heap.size) (.inr hs6) #[.int .i64 kd, .int .i64 pl, .int .i64 (st : Int), .slice va vl vc]))
          have HC2 := Lib.hid (HCS.out.imp (fun ⟨e1, t, p, e2, e3, e4⟩ => (⟨e1, t, p, e2, bytes_setRow e3 (g := w6.heap.size) (fun hne e => e3.ne_row hne hX8 (nu_leaf 0 0 0 _ (by intro n h; cases h)) e) #[.int .i64 kd, .int .i64 pl, .int .i64 (st : Int), .slice va vl vc], e4⟩ : code = 0 ∧ ∃ t p, G a = some (st, t, p) ∧ Bytes (w8.setRow w6.heap.size #[.int .i64 kd, .int .i64 pl, .int .i64 (st : Int), .slice va vl vc]) (.slice va vl vc) (dload t p) ∧ t ≤ 281474976710656 ∧ GoodC p ∧ p.length ≤ 255)) id)
          (repeat (first | (refine flo_q (by kernel_rfl) (by kernel_rfl) (by kernel_rfl) rfl (fun K hK => ?_); apply Exists.intro; refine ⟨fun w' hC => ?_, ?_⟩; ((try simp [Sg.upd] at hC); go_simp <;> rfl); go_simp; refine hK _ _ ?_; clear hK K) | (refine flo_s (by kernel_rfl) (by kernel_rfl) rfl (fun K hK => ?_); go_simp; refine hK _ _ ?_; clear hK K) | refine flo_skip rfl ?_))
          refine flo_nil ?_
          clear r0 r9
          go_wp2_with fail
          go_meet
          case rel => exact ⟨_, kd, pl, st, va, vl, vc, code, rfl, rfl, Lib.hid ⟨HR.out.1, HR.out.2, HC2.out⟩⟩
        · skip
          go_simp
          refine (HGET.out _ (H.out.1.dv.keep (HK.out.trans hk6) (by simp))).mono ?_
          rintro x w8 ⟨k8, hor⟩
          obtain ⟨kd, pl, st, va, vl, vc, code, rfl, hcs⟩ := getD_form HO.out hor
          clear hor
          refine hK _ _ (fun x => x.trans k8) ?_
          clear hK K
          have hS8 := hk6.trans k8
          have HCS := Lib.hid hcs
          clear hcs
          (repeat (first | (refine flo_q (by kernel_rfl) (by kernel_rfl) (by kernel_rfl) rfl (fun K hK => ?_); apply Exists.intro; refine ⟨fun w' hC => ?_, ?_⟩; ((try simp [Sg.upd] at hC); go_simp <;> rfl); go_simp; refine hK _ _ ?_; clear hK K) | (refine flo_s (by kernel_rfl) (by kernel_rfl) rfl (fun K hK => ?_); go_simp; refine hK _ _ ?_; clear hK K) | refine flo_skip rfl ?_))
          (refine flo_w (by kernel_rfl) (by kernel_rfl) (by kernel_rfl) rfl (fun K hK => ?_); go_simp)
          have hA9 := (Keep.refl [] w8).alloc (.cells #[.int .i64 0, .int .i64 0, .int .i64 0, .slice none 0 0] 74)
          have hX9 := heap_alloc_new w8 (.cells #[.int .i64 0, .int .i64 0, .int .i64 0, .slice none 0 0] 74)
          refine hK _ _ (fun x => x.trans hA9) ?_
          clear hK K
          have hS9 := hS8.trans hA9
          have hs8 : wr.heap.size ≤ w8.heap.size := hS8.size
          generalize w8.alloc (.cells #[.int .i64 0, .int .i64 0, .int .i64 0, .slice none 0 0] 74) = w9 at *
          refine flo_l (by kernel_rfl) (by kernel_rfl) rfl (fun K hK => ?_)
          refine loudly_store_row 74 (.tmp 6) (.tmp 29) rfl w8.heap.size #[.int .i64 kd, .int .i64 pl, .int .i64 (st : Int), .slice va vl vc] rfl rfl 74 _ hX9 (by kernel_rfl) (by rfl) (by kernel_rfl) ?_
          refine hK _ _ (fun x => Keep.setRow x (g := w8.heap.size) (.inr hs8) _) ?_
          clear hK K
          have HR := Lib.hid (And.intro (setRow_heap _ _ _ #[.int .i64 kd, .int .i64 pl, .int .i64 (st : Int), .slice va vl vc] _ _ hX9) (Keep.setRow hS9 (g := w8.heap.size) (.inr hs8) #[.int .i64 kd, .int .i64 pl, .int .i64 (st : Int), .slice va vl vc]))
          have HC2 := Lib.hid (HCS.out.imp (fun ⟨e1, t, p, e2, e3, e4⟩ => (⟨e1, t, p, e2, bytes_setRow (e3.keep hA9 (by simp)) (g := w8.heap.size) (fun hne e => (e3.keep hA9 (by simp)).ne_row hne hX9 (nu_leaf 0 0 0 _ (by intro n h; cases h)) e) #[.int .i64 kd, .int .i64 pl, .int .i64 (st : Int), .slice va vl vc], e4⟩ : code = 0 ∧ ∃ t p, G a = some (st, t, p) ∧ Bytes (w9.setRow w8.heap.size #[.int .i64 kd, .int .i64 pl, .int .i64 (st : Int), .slice va vl vc]) (.slice va vl vc) (dload t p) ∧ t ≤ 281474976710656 ∧ GoodC p ∧ p.length ≤ 255)) id)
          (repeat (first | (refine flo_q (by kernel_rfl) (by kernel_rfl) (by kernel_rfl) rfl (fun K hK => ?_); apply Exists.intro; refine ⟨fun w' hC => ?_, ?_⟩; ((try simp [Sg.upd] at hC); go_simp <;> rfl); go_simp; refine hK _ _ ?_; clear hK K) | (refine flo_s (by kernel_rfl) (by kernel_rfl) rfl (fun K hK => ?_); go_simp; refine hK _ _ ?_; clear hK K) | refine flo_skip rfl ?_))
          refine flo_nil ?_
          clear r0 r9
          go_wp2_with fail
          go_meet
          case rel => exact ⟨_, kd, pl, st, va, vl, vc, code, rfl, rfl, Lib.hid ⟨HR.out.1, HR.out.2, HC2.out⟩⟩
      case rest =>
      rename World => wx
      obtain ⟨xb, kd, pl, st, va, vl, vc, code, rfl, rfl, HX⟩ := hcut
      clear hsum
      have hstep : dlat S G (S - a) a q = dlat S G (S - (a + 1)) (a + 1) (match G a with
          | some (st, _, _) => if st ≤ 1099511627776 ∧ st % S = a then max q st else q
          | none => q) := by
        rw [show S - a = (S - (a + 1)) + 1 by omega, dlat]
      rw [HQ.out] at hstep
      rcases HX.out.2.2 with ⟨rfl, t, p, hGa, -⟩ | ⟨rfl, hGa⟩
      case inr =>
        rw [hGa] at hstep
        have HS := Lib.hid hstep
        have K2 := Lib.hid (HK.out.trans HX.out.2.1)
        clear hstep hGa HX
        rw [show ((5 : Nat) : Int) = 5 from rfl]
        go_wp2
        go_roundw
        case rel => exact ⟨a + 1, q, by omega, by omega, rfl, by go_num, K2, HS.out.symm⟩
        case measure => simp [intOf]; omega
      case inl =>
        rw [hGa] at hstep
        simp only at hstep
        obtain ⟨r, hr⟩ : ∃ r, st % S = r := ⟨_, rfl⟩
        rw [hr] at hstep
        have hr2 : r < S := by rw [← hr]; exact Nat.mod_lt _ (by omega)
        have q6 : ((st : Int)).tmod (S : Int) = (r : Int) := by rw [Int.tmod_eq_emod_of_nonneg (by omega), ← hr]; rfl
        have q8 : IntKind.i64.wrap (r : Int) = (r : Int) := i64_wrap (by omega) (by omega)
        have hways : ((¬ st ≤ 1099511627776) ∧ dlat S G S 0 0 = dlat S G (S - (a + 1)) (a + 1) q) ∨ (st ≤ 1099511627776 ∧ r ≠ a ∧ dlat S G S 0 0 = dlat S G (S - (a + 1)) (a + 1) q) ∨ (st ≤ 1099511627776 ∧ r = a ∧ dlat S G S 0 0 = dlat S G (S - (a + 1)) (a + 1) (max q st)) := by
          by_cases h1 : st ≤ 1099511627776
          · by_cases h2 : r = a
            · rw [if_pos ⟨h1, h2⟩] at hstep
              exact .inr (.inr ⟨h1, h2, hstep⟩)
            · rw [if_neg (fun h => h2 h.2)] at hstep
              exact .inr (.inl ⟨h1, h2, hstep⟩)
          · rw [if_neg (fun h => h1 h.1)] at hstep
            exact .inl ⟨h1, hstep⟩
        clear hstep hGa hr
        rw [show ((0 : Nat) : Int) = 0 from rfl]
        rcases hways with ⟨h1, hst⟩ | ⟨h1, h2, hst⟩ | ⟨h1, h2, hst⟩
        case' inl =>
          have y1 : decide ((st : Int) ≤ 1099511627776) = false := decide_eq_false (by omega)
          have y1' : ¬ (st : Int) ≤ 1099511627776 := by omega
        case' inr.inl =>
          have y1 : decide ((st : Int) ≤ 1099511627776) = true := decide_eq_true (by omega)
          have y1' : (st : Int) ≤ 1099511627776 := by omega
          have y2 : ((r : Int) == (a : Int)) = false := beq_false_of_ne (by omega)
          have y3 : ¬ (r : Int) = (a : Int) := by omega
        case' inr.inr =>
          have y1 : decide ((st : Int) ≤ 1099511627776) = true := decide_eq_true (by omega)
          have y1' : (st : Int) ≤ 1099511627776 := by omega
          subst h2
        all_goals
          have HST := Lib.hid hst
          have HY := Lib.hid h1
          clear hst
          go_wp2_with fail
          refine wp_region_his [] [] (fun _ => 0) (by kernel_rfl) (by kernel_rfl) ?_
          intro w6 hk6 hh
          clear hh
          have l2 := fun w' (h : Keep [] w6 w') => cell_of_row w' _ 2 _ _ _ ((hk6.trans h).blk (by simp) HX.out.1)
          have r5 := fun w' (h : Keep [] w6 w') => H.out.2.2.2 w' (HK.out.trans (HX.out.2.1.trans (hk6.trans h)))
          simp at l2
          have HK6 := Lib.hid (HK.out.trans (HX.out.2.1.trans hk6))
          have HX6 := Lib.hid (hk6.blk (by simp) HX.out.1)
          clear hk6
          (repeat (first | (refine his_q rfl rfl (fun K hK => ?_); apply Exists.intro; refine ⟨fun w' hC => ?_, ?_⟩; ((try simp [Sg.upd] at hC); go_simp <;> rfl); go_simp; refine hK _ _ ?_; clear hK K) | (refine his_s rfl (fun K hK => ?_); go_simp; refine hK _ _ ?_; clear hK K)))
          refine his_nil ?_
          clear l2 r5 q6 q8
        · have hmx : (∃ q2 : Nat, max q st = q2 ∧ q2 ≤ 1099511627776 ∧ ((q < st ∧ q2 = st) ∨ (¬ q < st ∧ q2 = q))) := ⟨_, rfl, by omega, by omega⟩
          obtain ⟨q2, hq3, hq4, hmx⟩ := hmx
          have HQ3 := Lib.hid hq3
          clear hq3
          have x2 := cell_of_row w6 _ 2 _ _ _ HX6.out
          simp at x2
          rcases hmx with ⟨hlt2, rfl⟩ | ⟨hlt2, rfl⟩
          case' inl => have y5 : (q : Int) < (q2 : Int) := by omega
          case' inr => have y5 : ¬ (q2 : Int) < (st : Int) := by omega
          all_goals
            go_wp2
            go_roundw
            case rel => exact ⟨r + 1, q2, by omega, hq4, rfl, by go_num, HK6, by have := HST.out; rw [HQ3.out] at this; exact this.symm⟩
            case measure => simp [intOf]; omega
        iterate 2
          · go_wp2
            go_roundw
            case rel => exact ⟨a + 1, q, by omega, by omega, rfl, by go_num, HK6, HST.out.symm⟩
            case measure => simp [intOf]; omega
end Go.Proofs.Ytjkjiabfhhnngaa

/-! delta's batches: the sectors of a log, one by one. -/
namespace Go.Proofs.Ytjkjiabfhhnngaa
open Go.RowKit Go.Shelf Sg
attribute [local go_sem] Oper.semAt_some
set_option linter.unusedSimpArgs false
set_option linter.unusedVariables false

/-- the sectors that stand from a number on -/
def druns (S : Nat) (G : Nat → Option Bt) : Nat → Nat → List Bt
  | 0, _ => []
  | f + 1, n => if (dget (G (n % S)) n).1 = true then (n, (dget (G (n % S)) n).2.1, (dget (G (n % S)) n).2.2) :: druns S G f (n + 1) else []
def BtEnc (base : Nat) (x : Bt) (args : Array Value) (W : World) : Prop := ∃ pv, args = #[.int .i64 (x.1 : Int), .agg #[.int .i64 (x.2.1 : Int), pv]] ∧ CRow W base pv x.2.2

set_option maxRecDepth 100000 in
set_option maxHeartbeats 1000000 in
theorem batches_any (gl : Nat) (n : Int) (ep : Option Addr) (w : World) : Calls Try.prog 126 #[.pointer (some ⟨gl, 0, none⟩), .int .i64 n, .pointer ep] w fun e w' => ∃ Bl Bf Be, e = .returned (.func (.func 154) #[] #[.pointer (some ⟨Bf, 0, none⟩), .pointer (some ⟨Bl, 0, none⟩), .pointer (some ⟨Be, 0, none⟩)]) ∧
    Keep [] w w' ∧ w'.heap[Bf]? = some (.cells #[.int .i64 n] 3 (0, 0)) ∧ w'.heap[Bl]? = some (.cells #[.pointer (some ⟨gl, 0, none⟩)] 151 (0, 0)) ∧ w'.heap[Be]? = some (.cells #[.pointer ep] 237 (0, 0)) ∧ w.heap.size ≤ Bf ∧ w.heap.size ≤ Bl ∧ w.heap.size ≤ Be := by
  go_enter Try.func126, Try.ntmps126
  go_wp2
  go_ret
  refine ⟨w.heap.size, w.heap.size + 1, w.heap.size + 2, rfl, (((Keep.refl [] w).alloc _).alloc _).alloc _, ?_, ?_, ?_, by omega, by omega, by omega⟩
  · exact ((Keep.refl [] _).alloc _).blk (by simp) (heap_alloc2_new w _ _)
  · exact ((Keep.refl [] _).alloc _).blk (by simp) (heap_alloc2_old w _ _)
  · have h := heap_alloc_new ((w.alloc (.cells #[.pointer (some ⟨gl, 0, none⟩)] 151)).alloc (.cells #[.int .i64 n] 3)) (.cells #[.pointer ep] 237)
    rw [World.size_alloc, World.size_alloc] at h
    exact h

set_option maxRecDepth 100000 in
set_option maxHeartbeats 4000000 in
theorem batches1_iter (Bf Bl Be base : Nat) (D E : List Nat) (gl g : Nat) (c : Dc) (l : Dl) (m : Dev) (pv0 : Value) (hacts : m.acts ≤ 1000000000) (G : Nat → Option Bt) (hG : ∀ a, a < c.S → DSec c m a (G a)) (fn : Nat) (hfn : fn ≤ 1099511627776) :
    Iter2 Try.prog 154 #[.pointer (some ⟨Bf, 0, none⟩), .pointer (some ⟨Bl, 0, none⟩), .pointer (some ⟨Be, 0, none⟩)] (BtEnc base) (druns c.S G c.S fn)
      (fun W => DLAt W D E gl g c l m pv0 ∧ W.heap[Bf]? = some (.cells #[.int .i64 (fn : Int)] 3 (0, 0)) ∧ W.heap[Bl]? = some (.cells #[.pointer (some ⟨gl, 0, none⟩)] 151 (0, 0)) ∧ (∃ ep, W.heap[Be]? = some (.cells #[.pointer ep] 237 (0, 0))) ∧ base ≤ W.heap.size) (fun _ => True) [] := by
  intro n lp J Jx hRd hJ hJx hY W h0 hSt
  obtain ⟨hd0, hf0, hl0, ⟨ep0, he0⟩, hb0⟩ := hRd _ _ h0
  have s1 := hd0.ok.s1
  have s2 := hd0.ok.s2
  refine callsIn_of_wp Try.func154 rfl trivial ?_
  simp only [Try.ntmps154, List.size_toArray, List.length_cons, List.length_nil, Nat.reduceAdd, Nat.reduceSub, Array.replicate_succ, Array.replicate_zero, List.push_toArray, List.append_toArray, List.nil_append, List.cons_append]
  gi_wp2
  refine wpIn_scope_straight ?_
  apply wpIn_seq_k
  intro K hK
  have gF := cell_of_one hf0
  apply wpIn_label
  refine hK _ _ ?_
  clear hK K
  gi_wp2
  clear gF hf0 hl0 he0 hb0 hd0
  obtain ⟨S, hS⟩ : ∃ S, c.S = S := ⟨_, rfl⟩
  have hG' : ∀ a, a < S → DSec c m a (G a) := fun a ha => hG a (by rw [hS]; exact ha)
  rw [hS] at hY s1 s2
  have HY := Lib.hid hY
  have HS := Lib.hid hS
  have HG := Lib.hid hG'
  have HRD := Lib.hid hRd
  have HJ := Lib.hid (And.intro hJ hJx)
  clear hY hS hG hG' hRd hJ hJx
  gi_loopw [5] (fun i wr => ∃ (k : Nat) (pre : List Bt), k ≤ S ∧ i = .int .i64 ((fn + k : Nat) : Int) ∧ Hid (pre ++ druns S G (S - k) (fn + k) = druns S G S fn) ∧ Hid (J pre wr)) (fun i _ => fn + S - (intOf i).toNat)
  case atStart => exact ⟨0, [], by omega, rfl, by simp [Hid], h0⟩
  case round =>
    clear h0
    obtain ⟨k, pre, hk, rfl, hpre, hJT⟩ := hrel
    rename World => wr
    obtain ⟨hd, hf, hl, ⟨ep, he⟩, hb⟩ := HRD.out _ _ hJT.out
    obtain ⟨nn, hnn⟩ : ∃ nn, fn + k = nn := ⟨_, rfl⟩
    rw [hnn] at hpre ⊢
    have HNN := Lib.hid hnn
    have hnb : nn ≤ 1099511628032 := by omega
    have hsum : IntKind.i64.wrap ((fn : Int) + (S : Int)) = ((fn + S : Nat) : Int) := by rw [i64_wrap (by omega) (by omega)]; push_cast; rfl
    have HM := Lib.hid (And.intro hd (And.intro hf (And.intro hl (And.intro he hb))))
    clear hd hf hl he hb
    by_cases hkS : k = S
    case pos =>
      have hge : ¬ (nn : Int) < ((fn + S : Nat) : Int) := by omega
      have hge2 : ¬ nn < fn + S := by omega
      have hfin := hpre.out
      rw [hkS, Nat.sub_self] at hfin
      simp only [druns, List.append_nil] at hfin
      have HF := Lib.hid hfin
      clear hfin hnn
      gi_wp2_with fail
      refine wpIn_wide.2 ?_
      refine wp_region_his [] [] (fun _ => 0) (by kernel_rfl) (by kernel_rfl) ?_
      intro w2 hk2 hh
      clear hh
      have f0 := fun w' (h : Keep [] w2 w') => cell_of_one ((hk2.trans h).blk (by simp) HM.out.2.1)
      have l0 := fun w' (h : Keep [] w2 w') => cell_of_one ((hk2.trans h).blk (by simp) HM.out.2.2.1)
      have r5 := fun w' (h : Keep [] w2 w') => (HM.out.1.row.keep (hk2.trans h) (by simp)).k5
      rw [HS.out] at r5
      have HK2 := Lib.hid hk2
      clear hk2
      (repeat (first | (refine his_q rfl rfl (fun K hK => ?_); apply Exists.intro; refine ⟨fun w' hC => ?_, ?_⟩; ((try simp [Sg.upd] at hC); go_simp <;> rfl); go_simp; refine hK _ _ ?_; clear hK K) | (refine his_s rfl (fun K hK => ?_); go_simp; refine hK _ _ ?_; clear hK K)))
      refine his_nil ?_
      clear f0 l0 r5 hsum
      gi_wp2
      simp only [Exit.noGoto]
      go_end0
      refine ⟨⟨_, rfl⟩, .inl ?_⟩
      rw [HS.out, ← HF.out]
      exact HJ.out.1 _ _ _ HK2.out hJT.out
    case neg =>
      have hlt : (nn : Int) < ((fn + S : Nat) : Int) := by omega
      have hlt2 : nn < fn + S := by omega
      clear hnn
      gi_wp2_with fail
      refine wpIn_wide.2 ?_
      refine wp_region_his [] [] (fun _ => 0) (by kernel_rfl) (by kernel_rfl) ?_
      intro w2 hk2 hh
      clear hh
      have f0 := fun w' (h : Keep [] w2 w') => cell_of_one ((hk2.trans h).blk (by simp) HM.out.2.1)
      have l0 := fun w' (h : Keep [] w2 w') => cell_of_one ((hk2.trans h).blk (by simp) HM.out.2.2.1)
      have r5 := fun w' (h : Keep [] w2 w') => (HM.out.1.row.keep (hk2.trans h) (by simp)).k5
      rw [HS.out] at r5
      have HK2 := Lib.hid hk2
      clear hk2
      (repeat (first | (refine his_q rfl rfl (fun K hK => ?_); apply Exists.intro; refine ⟨fun w' hC => ?_, ?_⟩; ((try simp [Sg.upd] at hC); go_simp <;> rfl); go_simp; refine hK _ _ ?_; clear hK K) | (refine his_s rfl (fun K hK => ?_); go_simp; refine hK _ _ ?_; clear hK K)))
      refine his_nil ?_
      clear f0 l0 r5 hsum
      have l0 := cell_of_one (HK2.out.blk (by simp) HM.out.2.2.1)
      have e0 := cell_of_one (HK2.out.blk (by simp) HM.out.2.2.2.1)
      obtain ⟨o, ho⟩ : ∃ o, G (nn % S) = o := ⟨_, rfl⟩
      have hmod : nn % S < S := Nat.mod_lt _ (by omega)
      have cG := getDl_any w2 D E gl g c l m pv0 (HM.out.1.keep HK2.out (by simp)) hacts nn (by omega) o (by rw [HS.out, ← ho]; exact HG.out _ hmod) ep
      have hstep : druns S G (S - k) nn = if (dget o nn).1 = true then (nn, (dget o nn).2.1, (dget o nn).2.2) :: druns S G (S - (k + 1)) (nn + 1) else [] := by
        rw [show S - k = (S - (k + 1)) + 1 by omega, druns, ho]
      have HST := Lib.hid hstep
      clear hstep ho hmod
      gi_wp2_with fail
      refine ⟨trivial, wideN _, callsIn_wide.2 (cG.mono ?_)⟩
      clear cG l0 e0
      rintro e w3 ⟨pv, rfl, ho3, k3⟩
      have hJ3 := HJ.out.1 _ _ _ (HK2.out.trans k3) hJT.out
      have ho4 : CRow w3 base pv (dget o nn).2.2 := ho3.lower (Nat.le_trans HM.out.2.2.2.2 HK2.out.size)
      obtain ⟨pa, pc, rfl⟩ := ho3.form
      clear ho3
      by_cases hok : (dget o nn).1 = true
      case neg =>
        rw [Bool.not_eq_true] at hok
        rw [hok]
        have hst := HST.out
        rw [hok, if_neg (by simp)] at hst
        have hfin := hpre.out
        rw [hst, List.append_nil] at hfin
        have H7 := Lib.hid (And.intro hfin (HJ.out.1 _ _ _ ((Keep.refl [] w3).alloc (.cells #[.int .i64 ((dget o nn).2.1 : Int), .slice pa (dget o nn).2.2.length pc] 239)) hJ3))
        clear hst hfin hJ3 ho4 hok
        gi_wp2
        simp only [Exit.noGoto]
        go_end0
        refine ⟨⟨_, rfl⟩, .inl ?_⟩
        rw [HS.out, ← H7.out.1]
        exact H7.out.2
      case pos =>
        rw [hok]
        have hst := HST.out
        rw [hok, if_pos rfl] at hst
        have hA := (Keep.refl [] w3).alloc (.cells #[.int .i64 ((dget o nn).2.1 : Int), .slice pa (dget o nn).2.2.length pc] 239)
        have hJ4 := HJ.out.1 _ _ _ hA hJ3
        have hpx : pre ++ [(nn, (dget o nn).2.1, (dget o nn).2.2)] <+: druns S G S fn := ⟨druns S G (S - (k + 1)) (nn + 1), by rw [← hpre.out, hst]; simp⟩
        have hpre3 : (pre ++ [(nn, (dget o nn).2.1, (dget o nn).2.2)]) ++ druns S G (S - (k + 1)) (nn + 1) = druns S G S fn := by rw [← hpre.out, hst]; simp
        obtain ⟨fn2, tmps, assign, body, hy, hR⟩ := HY.out pre (nn, (dget o nn).2.1, (dget o nn).2.2) #[.int .i64 (nn : Int), .agg #[.int .i64 ((dget o nn).2.1 : Int), .slice pa (dget o nn).2.2.length pc]] _ hpx hJ4 ⟨_, rfl, ho4.keep hA (by simp)⟩
        have H7 := Lib.hid (And.intro hpx hpre3)
        clear hst hJ3 hJ4 ho4 hok hpx hpre3 hA
        gi_wp2_with fail
        refine ⟨wideN _, hR.mono ?_⟩
        clear hR
        rintro e W4 ⟨-, (⟨rfl, hJ5⟩ | ⟨rfl, hJx5⟩)⟩
        · have HJ5 := Lib.hid hJ5
          clear hJ5
          have hs1 : IntKind.i64.wrap ((nn : Int) + 1) = ((nn + 1 : Nat) : Int) := by rw [i64_wrap (by omega) (by omega)]; push_cast; rfl
          gi_wp2
          case roundEnd =>
            refine ⟨⟨k + 1, _, by omega, by rw [← HNN.out]; push_cast; first | rfl | (congr 1; omega), ?_, HJ5⟩, ?_⟩
            · have h := H7.out.2
              rw [← HNN.out] at h
              rw [← HNN.out]
              exact Lib.hid h
            · simp only [intOf]
              omega
        · have HJ5 := Lib.hid hJx5
          clear hJx5
          gi_wp2
          simp only [Exit.noGoto]
          try rw [Exit.noGoto_ret]
          refine bodyPost_ret (results_none rfl _ _ _) rfl ?_
          rw [HS.out]
          exact ⟨⟨_, rfl⟩, .inr ⟨_, H7.out.1, HJ5.out⟩⟩
end Go.Proofs.Ytjkjiabfhhnngaa

/-! delta's Format upon the chapter's small plan. -/
namespace Go.Proofs.Ytjkjiabfhhnngaa
open Go.RowKit Go.Shelf Sg
set_option linter.unusedSimpArgs false
set_option linter.unusedVariables false

def sv12 : Value := .agg #[.int .i64 60, .int .i64 96, .int .i64 3, .int .i64 2, .int .i64 5, .int .i64 2, .int .i64 8, .int .u64 0]
def dc12 : Dc := { S := 5, sz := 96, per := 3, first := 2, x := fun i => match i with | 1 => .int .i64 60 | 3 => .int .i64 3 | 4 => .int .i64 2 | 6 => .int .i64 2 | 7 => .int .i64 8 | 8 => .int .u64 0 | _ => undef }
theorem dc12_ok (m : Dev) (hn : m.n = 60) (hs : m.sz = 96) : dc12.Ok m :=
  { s1 := by decide, s2 := by decide, z1 := by decide, z2 := by decide, sz := hs, p1 := by decide, p2 := by decide, top := by rw [hn]; decide }

set_option maxRecDepth 100000 in
set_option maxRecDepth 100000 in
set_option maxHeartbeats 1000000 in
set_option maxHeartbeats 4000000 in
theorem formatD_any (w : World) (D : List Nat) (g : Nat) (m : Dev) (h : DV w D g m) (hn : m.n = 60) (hs : m.sz = 96) :
    Calls Try.prog 76 #[.pointer (some ⟨g, 0, none⟩), .agg #[.int .i64 60, .int .i64 96, .int .i64 3, .int .i64 2, .int .i64 5, .int .i64 2, .int .i64 8, .int .u64 0]] w fun e w' => Keep [] w w' ∧
      ∃ gl, e = .returned (.tuple #[.pointer (some ⟨gl, 0, none⟩), .int .i64 0]) ∧ w.heap.size ≤ gl ∧ DLAt w' D [gl] gl g dc12 ⟨1, 1, 0, []⟩ m (.slice none 0 0) := by
  have hF := fit_any ⟨60, 96, 3, 2, 5, 2, 8, 0⟩
  rw [if_pos (by decide +kernel)] at hF
  have hl : Pl.lay ⟨60, 96, 3, 2, 5, 2, 8, 0⟩ = lay8 2 7 13 47 6 3 6 154 := by kernel_rfl
  rw [hl] at hF
  clear hl
  simp only [Pl.v, lay8] at hF
  have hA := (Keep.refl [] w).alloc (.cells #[.int .i64 60, .int .i64 96, .int .i64 3, .int .i64 2, .int .i64 5, .int .i64 2, .int .i64 8, .int .u64 0] 92)
  have hB := heap_alloc_new w (.cells #[.int .i64 60, .int .i64 96, .int .i64 3, .int .i64 2, .int .i64 5, .int .i64 2, .int .i64 8, .int .u64 0] 92)
  obtain ⟨w1, hw1⟩ : ∃ w1, w.alloc (.cells #[.int .i64 60, .int .i64 96, .int .i64 3, .int .i64 2, .int .i64 5, .int .i64 2, .int .i64 8, .int .u64 0] 92) = w1 := ⟨_, rfl⟩
  rw [hw1] at hA hB
  have hS := fun w' h' => sectors_any w' D g m h'
  have hZ := fun w' h' => size_dev_any w' D g m h'
  rw [hn] at hS
  rw [hs] at hZ
  have hP := fun w' => per_any 96 w' (by omega)
  have H := Lib.hid (And.intro h (And.intro hn (And.intro hs (And.intro hA hB))))
  have HS := Lib.hid hS
  have HZ := Lib.hid hZ
  have HP := Lib.hid hP
  have HW := Lib.hid hw1
  have HF := Lib.hid hF
  clear h hn hs hA hB hw1 hS hZ hP hF
  go_enter Try.func76, Try.ntmps76
  go_wp2_with fail
  rw [HW.out]
  refine (HF.out _).mono ?_
  rintro e w2 ⟨rfl, hk2⟩
  clear HF HW
  have hA2 := (Keep.refl [] w2).alloc (.cells #[.int .i64 2, .int .i64 7, .int .i64 13, .int .i64 47, .int .i64 6, .int .i64 3, .int .i64 6, .int .i64 154] 203)
  have hB2 := heap_alloc_new w2 (.cells #[.int .i64 2, .int .i64 7, .int .i64 13, .int .i64 47, .int .i64 6, .int .i64 3, .int .i64 6, .int .i64 154] 203)
  obtain ⟨w3, hw3⟩ : ∃ w3, w2.alloc (.cells #[.int .i64 2, .int .i64 7, .int .i64 13, .int .i64 47, .int .i64 6, .int .i64 3, .int .i64 6, .int .i64 154] 203) = w3 := ⟨_, rfl⟩
  rw [hw3] at hA2 hB2
  have HK := Lib.hid (H.out.2.2.2.1.trans (hk2.trans hA2))
  have HX := Lib.hid (And.intro ((hk2.trans hA2).blk (by simp) H.out.2.2.2.2) hB2)
  have HDV := Lib.hid (H.out.1.keep HK.out (by simp))
  have HNS := Lib.hid (And.intro H.out.2.1 H.out.2.2.1)
  clear H hk2 hA2 hB2
  have HW3 := Lib.hid hw3
  clear hw3
  go_wp2_with fail
  try rw [HW3.out]
  refine wp_region_his [] [] (fun _ => 0) (by kernel_rfl) (by kernel_rfl) ?_
  intro w4 hk4 hh
  clear hh
  have c0 := fun w' (h : Keep [] w4 w') => cell_of_row w' _ 0 _ _ _ ((hk4.trans h).blk (by simp) HX.out.1)
  have c1 := fun w' (h : Keep [] w4 w') => cell_of_row w' _ 1 _ _ _ ((hk4.trans h).blk (by simp) HX.out.1)
  simp at c0 c1
  have HK4 := Lib.hid hk4
  clear hk4
  (repeat (first | (refine his_q rfl rfl (fun K hK => ?_); apply Exists.intro; refine ⟨fun w' hC => ?_, ?_⟩; ((try simp [Sg.upd] at hC); go_simp <;> rfl); go_simp; refine hK _ _ ?_; clear hK K) | (refine his_s rfl (fun K hK => ?_); go_simp; refine hK _ _ ?_; clear hK K)))
  refine his_c rfl rfl (.int .i64 60) (fun K hK => ?_)
  refine ⟨fun w' hC => Yields.call 15 #[.pointer (some ⟨g, 0, none⟩)] ?_ (by kernel_rfl) ?_, ?_⟩
  · go_simp
  · have hC' : Keep [] w4 w' := hC
    exact HS.out w' (HDV.out.keep (HK4.out.trans hC') (by simp))
  go_simp
  refine hK _ _ ?_
  clear hK K
  (repeat (first | (refine his_q rfl rfl (fun K hK => ?_); apply Exists.intro; refine ⟨fun w' hC => ?_, ?_⟩; ((try simp [Sg.upd] at hC); go_simp <;> rfl); go_simp; refine hK _ _ ?_; clear hK K) | (refine his_s rfl (fun K hK => ?_); go_simp; refine hK _ _ ?_; clear hK K)))
  refine his_c rfl rfl (.int .i64 96) (fun K hK => ?_)
  refine ⟨fun w' hC => Yields.call 16 #[.pointer (some ⟨g, 0, none⟩)] ?_ (by kernel_rfl) ?_, ?_⟩
  · go_simp
  · have hC' : Keep [] w4 w' := hC
    exact HZ.out w' (HDV.out.keep (HK4.out.trans hC') (by simp))
  go_simp
  refine hK _ _ ?_
  clear hK K
  (repeat (first | (refine his_q rfl rfl (fun K hK => ?_); apply Exists.intro; refine ⟨fun w' hC => ?_, ?_⟩; ((try simp [Sg.upd] at hC); go_simp <;> rfl); go_simp; refine hK _ _ ?_; clear hK K) | (refine his_s rfl (fun K hK => ?_); go_simp; refine hK _ _ ?_; clear hK K)))
  refine his_nil ?_
  clear c0 c1
  go_wp2_with fail
  refine wp_region_his [] [8] (fun _ => 0) (by kernel_rfl) (by kernel_rfl) ?_
  intro w5 hk5 hh
  clear hh
  have hK5 := HK4.out.trans hk5
  have c0 := fun w' (h : Keep [] w5 w') => cell_of_row w' _ 0 _ _ _ ((hK5.trans h).blk (by simp) HX.out.1)
  have c1 := fun w' (h : Keep [] w5 w') => cell_of_row w' _ 1 _ _ _ ((hK5.trans h).blk (by simp) HX.out.1)
  have c2 := fun w' (h : Keep [] w5 w') => cell_of_row w' _ 2 _ _ _ ((hK5.trans h).blk (by simp) HX.out.1)
  have c3 := fun w' (h : Keep [] w5 w') => cell_of_row w' _ 3 _ _ _ ((hK5.trans h).blk (by simp) HX.out.1)
  have c4 := fun w' (h : Keep [] w5 w') => cell_of_row w' _ 4 _ _ _ ((hK5.trans h).blk (by simp) HX.out.1)
  have c5 := fun w' (h : Keep [] w5 w') => cell_of_row w' _ 5 _ _ _ ((hK5.trans h).blk (by simp) HX.out.1)
  have c6 := fun w' (h : Keep [] w5 w') => cell_of_row w' _ 6 _ _ _ ((hK5.trans h).blk (by simp) HX.out.1)
  have c7 := fun w' (h : Keep [] w5 w') => cell_of_row w' _ 7 _ _ _ ((hK5.trans h).blk (by simp) HX.out.1)
  have d0 := fun w' (h : Keep [] w5 w') => cell_of_row w' _ 0 _ _ _ ((hK5.trans h).blk (by simp) HX.out.2)
  simp at c0 c1 c2 c3 c4 c5 c6 c7 d0
  have HK5 := Lib.hid hK5
  clear hK5 hk5
  (repeat (first | (refine his_q rfl rfl (fun K hK => ?_); apply Exists.intro; refine ⟨fun w' hC => ?_, ?_⟩; ((try simp [Sg.upd] at hC); go_simp <;> rfl); go_simp; refine hK _ _ ?_; clear hK K) | (refine his_s rfl (fun K hK => ?_); go_simp; refine hK _ _ ?_; clear hK K)))
  refine his_c rfl rfl (.int .i64 3) (fun K hK => ?_)
  refine ⟨fun w' hC => Yields.call 120 #[.int .i64 96] ?_ (by kernel_rfl) ?_, ?_⟩
  · go_simp
  · exact HP.out w'
  go_simp
  refine hK _ _ ?_
  clear hK K
  (repeat (first | (refine his_q rfl rfl (fun K hK => ?_); apply Exists.intro; refine ⟨fun w' hC => ?_, ?_⟩; ((try simp [Sg.upd] at hC); go_simp <;> rfl); go_simp; refine hK _ _ ?_; clear hK K) | (refine his_s rfl (fun K hK => ?_); go_simp; refine hK _ _ ?_; clear hK K)))
  (refine his_l rfl rfl (fun K hK => ?_); go_simp)
  refine hK _ _ ((Keep.refl [] w5).alloc _) ?_
  clear hK K
  (repeat (first | (refine his_q rfl rfl (fun K hK => ?_); apply Exists.intro; refine ⟨fun w' hC => ?_, ?_⟩; ((try simp [Sg.upd] at hC); go_simp <;> rfl); go_simp; refine hK _ _ ?_; clear hK K) | (refine his_s rfl (fun K hK => ?_); go_simp; refine hK _ _ ?_; clear hK K)))
  refine his_nil ?_
  clear c0 c1 c2 c3 c4 c5 c6 c7 d0
  go_wp2
  refine bodyPost_ret (results_tmp2 rfl _ _ _) rfl ?_
  have hk := HK.out.trans HK5.out
  have hd := HDV.out.keep HK5.out (by simp)
  refine ⟨hk.alloc _, w5.heap.size, rfl, hk.size, { dv := hd.keep ((Keep.refl [] w5).alloc _) (by simp), row := heap_alloc_new _ _, own := RowE.nil, inE := fun b hb => by simp [Value.ownBlock] at hb, gl := by simp, apart := fun b hb hm => ?_, lt := fun b hb => ?_, ok := dc12_ok m HNS.out.1 HNS.out.2 }⟩
  · rw [List.mem_singleton.1 hb] at hm
    have := hd.lt _ hm
    omega
  · rw [List.mem_singleton.1 hb]
    simp

set_option maxRecDepth 100000 in
theorem formatD_nil (w : World) : Calls Try.prog 76 #[.pointer none, .agg #[.int .i64 60, .int .i64 96, .int .i64 3, .int .i64 2, .int .i64 5, .int .i64 2, .int .i64 8, .int .u64 0]] w fun e w' => Keep [] w w' ∧ e = .returned (.tuple #[.pointer none, .int .i64 1]) := by
  go_enter Try.func76, Try.ntmps76
  go_wp2_with fail
  exact bodyPost_ret (results_tmp2 rfl _ _ _) rfl ⟨(Keep.refl [] w).alloc _, rfl⟩

set_option maxRecDepth 100000 in
set_option maxHeartbeats 1000000 in
theorem small12_any (w : World) : Calls Try.prog 77 #[] w fun e w' => e = .returned (.agg #[.int .i64 60, .int .i64 96, .int .i64 3, .int .i64 2, .int .i64 5, .int .i64 2, .int .i64 8, .int .u64 0]) ∧ Keep [] w w' := by
  have hA := (Keep.refl [] w).alloc (.cells #[.int .i64 0, .int .i64 0, .int .i64 0, .int .i64 0, .int .i64 0, .int .i64 0, .int .i64 0, .int .u64 0] 92)
  have hB := heap_alloc_new w (.cells #[.int .i64 0, .int .i64 0, .int .i64 0, .int .i64 0, .int .i64 0, .int .i64 0, .int .i64 0, .int .u64 0] 92)
  have HA := Lib.hid hA
  have HB := Lib.hid hB
  clear hA hB
  go_enter Try.func77, Try.ntmps77
  go_wp2_with (refine wpList_store_row rfl 92 (.tmp 0) (.tmp 1) rfl w.heap.size #[.int .i64 60, .int .i64 96, .int .i64 3, .int .i64 2, .int .i64 5, .int .i64 2, .int .i64 8, .int .u64 0] rfl rfl 92 _ HB.out (by kernel_rfl) (by rfl) (by kernel_rfl) ?_)
  exact bodyPost_ret (results_cell_row rfl _ _ w.heap.size 92 _ _ _ rfl (setRow_heap _ _ _ _ _ _ HB.out) Try.underlying92 rfl (by kernel_rfl)) rfl ⟨rfl, HA.out.setRow (.inr (Nat.le_refl _)) _⟩
end Go.Proofs.Ytjkjiabfhhnngaa

/-! The walk of delta's Open. -/
namespace Go.Proofs.Ytjkjiabfhhnngaa
open Go.RowKit Go.Shelf Sg
attribute [local go_sem] Oper.semAt_some
set_option linter.unusedSimpArgs false
set_option linter.unusedVariables false

theorem loadVar_chs {w : World} {a : Addr} {v : Value} (h : w.cell? a = some v) : (loadVar 164 a).run Try.prog w = .ok v w := by
  have hagg : (isAgg 164).run Try.prog w = .ok false w := by unfold isAgg; rw [Sem.run_bind, run_underlying Try.underlying164 w]; rfl
  simp [loadVar, Sem.run_bind, hagg, h, Result.andThen]
theorem loadVar_int {w : World} {a : Addr} {v : Value} (h : w.cell? a = some v) : (loadVar 3 a).run Try.prog w = .ok v w := by
  have hagg : (isAgg 3).run Try.prog w = .ok false w := by unfold isAgg; rw [Sem.run_bind, run_underlying Try.underlying3 w]; rfl
  simp [loadVar, Sem.run_bind, hagg, h, Result.andThen]
theorem results_open {fn : Func} {p q r u : Tmp} (h : fn.results = #[.tmp r, .cell p 164, .cell q 3, .cell u 38]) (tmps : Array Value) (w : World) {a1 a2 a3 : Addr} {x y z : Value}
    (hp : tmps.getD p undef = .pointer (some a1)) (hq : tmps.getD q undef = .pointer (some a2)) (hu : tmps.getD u undef = .pointer (some a3)) (h1 : w.cell? a1 = some x) (h2 : w.cell? a2 = some y) (h3 : w.cell? a3 = some z) :
    (results fn tmps).run Try.prog w = .ok (.tuple #[tmps.getD r undef, x, y, z]) w := by
  have hp' : tmps[p]?.getD undef = .pointer (some a1) := by simpa using hp
  have hq' : tmps[q]?.getD undef = .pointer (some a2) := by simpa using hq
  have hu' : tmps[u]?.getD undef = .pointer (some a3) := by simpa using hu
  simp [results, h, hp', hq', hu', asAddr, loadVar_chs h1, loadVar_int h2, loadVar_errno h3, Result.andThen]

/-- three cells that are written -/
theorem three_ones {w : World} {p q r : Nat} {x0 y0 z0 : Value} {t1 t2 t3 : TypeId} (x y z : Value) (h1 : w.heap[p]? = some (.cells #[x0] t1 (0, 0))) (h2 : w.heap[q]? = some (.cells #[y0] t2 (0, 0))) (h3 : w.heap[r]? = some (.cells #[z0] t3 (0, 0))) (hpq : p < q) (hqr : q < r) (w' : World)
    (hw : w' = ((w.setCell ⟨p, 0, none⟩ x).setCell ⟨q, 0, none⟩ y).setCell ⟨r, 0, none⟩ z ∨ w' = (((w.setCell ⟨p, 0, none⟩ x).setCell ⟨q, 0, none⟩ y).setCell ⟨r, 0, none⟩ z).drew) :
    w'.heap[p]? = some (.cells #[x] t1 (0, 0)) ∧ w'.heap[q]? = some (.cells #[y] t2 (0, 0)) ∧ w'.heap[r]? = some (.cells #[z] t3 (0, 0)) ∧ Keep [p, q, r] w w' := by
  suffices hx : ∀ w', w' = ((w.setCell ⟨p, 0, none⟩ x).setCell ⟨q, 0, none⟩ y).setCell ⟨r, 0, none⟩ z → w'.heap[p]? = some (.cells #[x] t1 (0, 0)) ∧ w'.heap[q]? = some (.cells #[y] t2 (0, 0)) ∧ w'.heap[r]? = some (.cells #[z] t3 (0, 0)) ∧ Keep [p, q, r] w w' by
    rcases hw with rfl | rfl
    · exact hx _ rfl
    · obtain ⟨h1, h2, h3, h4⟩ := hx _ rfl
      exact ⟨h1, h2, h3, h4.drew⟩
  clear hw
  rintro w' rfl
  have k1 := (Keep.refl [p] w).setCell (p := ⟨p, 0, none⟩) (.inl (by simp)) x
  have g1 := one_setCell (u := x) h1
  have g2 := k1.blk (by simp; omega) h2
  have g3 := k1.blk (by simp; omega) h3
  generalize w.setCell ⟨p, 0, none⟩ x = w1 at *
  have k2 := (Keep.refl [q] w1).setCell (p := ⟨q, 0, none⟩) (.inl (by simp)) y
  have e1 := k2.blk (by simp; omega) g1
  have e2 := one_setCell (u := y) g2
  have e3 := k2.blk (by simp; omega) g3
  generalize w1.setCell ⟨q, 0, none⟩ y = w2 at *
  have k3 := ((Keep.refl [r] w2).setCell (p := ⟨r, 0, none⟩) (.inl (by simp)) z)
  have f1 := k3.blk (by simp; omega) e1
  have f2 := k3.blk (by simp; omega) e2
  have f3 := one_setCell (u := z) e3
  exact ⟨f1, f2, f3, ((k1.mono (by simp)).trans (k2.mono (by simp))).trans (k3.mono (by simp))⟩
/-- the blocks that Open lays at its head -/
abbrev oA (w : World) : World := (((w.alloc (.cells #[.int .i64 60, .int .i64 96, .int .i64 3, .int .i64 2, .int .i64 5, .int .i64 2, .int .i64 8, .int .u64 0] 92)).alloc (.cells #[.slice none 0 0] 164)).alloc (.cells #[.int .i64 0] 3)).alloc (.cells #[.int .i64 0] 38)
theorem oA_facts (w : World) : Keep [] w (oA w) ∧ (oA w).heap.size = w.heap.size + 4 ∧ (oA w).heap[w.heap.size]? = some (.cells #[.int .i64 60, .int .i64 96, .int .i64 3, .int .i64 2, .int .i64 5, .int .i64 2, .int .i64 8, .int .u64 0] 92 (0, 0)) ∧
    (oA w).heap[w.heap.size + 1]? = some (.cells #[.slice none 0 0] 164 (0, 0)) ∧ (oA w).heap[w.heap.size + 1 + 1]? = some (.cells #[.int .i64 0] 3 (0, 0)) ∧ (oA w).heap[w.heap.size + 1 + 1 + 1]? = some (.cells #[.int .i64 0] 38 (0, 0)) := by
  have h1 := heap_alloc_new w (.cells #[.int .i64 60, .int .i64 96, .int .i64 3, .int .i64 2, .int .i64 5, .int .i64 2, .int .i64 8, .int .u64 0] 92)
  have k1 := (Keep.refl [] w).alloc (.cells #[.int .i64 60, .int .i64 96, .int .i64 3, .int .i64 2, .int .i64 5, .int .i64 2, .int .i64 8, .int .u64 0] 92)
  have s1 := World.size_alloc w (.cells #[.int .i64 60, .int .i64 96, .int .i64 3, .int .i64 2, .int .i64 5, .int .i64 2, .int .i64 8, .int .u64 0] 92)
  unfold oA
  generalize w.alloc (.cells #[.int .i64 60, .int .i64 96, .int .i64 3, .int .i64 2, .int .i64 5, .int .i64 2, .int .i64 8, .int .u64 0] 92) = w1 at *
  have h2 := heap_alloc_new w1 (.cells #[.slice none 0 0] 164)
  have k2 := (Keep.refl [] w1).alloc (.cells #[.slice none 0 0] 164)
  have s2 := World.size_alloc w1 (.cells #[.slice none 0 0] 164)
  generalize w1.alloc (.cells #[.slice none 0 0] 164) = w2 at *
  have h3 := heap_alloc_new w2 (.cells #[.int .i64 0] 3)
  have k3 := (Keep.refl [] w2).alloc (.cells #[.int .i64 0] 3)
  have s3 := World.size_alloc w2 (.cells #[.int .i64 0] 3)
  generalize w2.alloc (.cells #[.int .i64 0] 3) = w3 at *
  have h4 := heap_alloc_new w3 (.cells #[.int .i64 0] 38)
  have k4 := (Keep.refl [] w3).alloc (.cells #[.int .i64 0] 38)
  have s4 := World.size_alloc w3 (.cells #[.int .i64 0] 38)
  generalize w3.alloc (.cells #[.int .i64 0] 38) = w4 at *
  rw [s3, s2, s1] at h4
  rw [s2, s1] at h3
  rw [s1] at h2
  exact ⟨k1.trans (k2.trans (k3.trans k4)), by omega, (k2.trans (k3.trans k4)).blk (by simp) h1, (k3.trans k4).blk (by simp) h2, k4.blk (by simp) h3, h4⟩

set_option maxRecDepth 100000 in
set_option maxRecDepth 100000 in
set_option maxHeartbeats 1000000 in
set_option maxHeartbeats 4000000 in
theorem openD_nil (fr : Int) (w : World) : Calls Try.prog 85 #[.pointer none, .agg #[.int .i64 60, .int .i64 96, .int .i64 3, .int .i64 2, .int .i64 5, .int .i64 2, .int .i64 8, .int .u64 0], .int .i64 fr] w fun e w' => Keep [] w w' ∧ e = .returned (.tuple #[.pointer none, .slice none 0 0, .int .i64 0, .int .i64 1]) := by
  obtain ⟨k4, s4, b0, b1, b2, b3⟩ := oA_facts w
  obtain ⟨w4, hw4⟩ : ∃ w4, oA w = w4 := ⟨_, rfl⟩
  rw [hw4] at k4 s4 b0 b1 b2 b3
  unfold oA at hw4
  have H := Lib.hid (And.intro k4 (And.intro b1 (And.intro b2 b3)))
  have HW := Lib.hid hw4
  clear k4 b1 b2 b3 hw4
  refine calls_of_marks Try.func85 rfl ?_
  simp only [Try.ntmps85, List.size_toArray, List.length_cons, List.length_nil, Nat.reduceAdd, Nat.reduceSub, Array.replicate_succ, Array.replicate_zero, List.push_toArray, List.append_toArray, List.nil_append, List.cons_append]
  go_wp2_with fail
  rw [HW.out]
  refine (formatD_nil _).mono ?_
  rintro e w5 ⟨hk5, rfl⟩
  have B1 := hk5.blk (by simp) H.out.2.1
  have B2 := hk5.blk (by simp) H.out.2.2.1
  have B3 := hk5.blk (by simp) H.out.2.2.2
  have c1 := cell_of_one B1
  have c2 := cell_of_one B2
  have c3 := cell_of_one B3
  have f1 := free_of_one B1
  have f2 := free_of_one B2
  have f3 := free_of_one B3
  have HB := Lib.hid (And.intro B1 (And.intro B2 (And.intro B3 (H.out.1.trans hk5))))
  clear B1 B2 B3 hk5 b0
  go_wp2_with fail
  go_region
  obtain ⟨w7, hw7⟩ : ∃ w7, ((((w5.setCell ⟨w.heap.size + 1 + 1 + 1, 0, none⟩ (.int .i64 1)).setCell ⟨w.heap.size + 1, 0, none⟩ (.slice none 0 0)).setCell ⟨w.heap.size + 1 + 1, 0, none⟩ (.int .i64 0)).setCell ⟨w.heap.size + 1 + 1 + 1, 0, none⟩ (.int .i64 1)).drew = w7 := ⟨_, rfl⟩
  have k6 := (Keep.refl [w.heap.size + 1 + 1 + 1] w5).setCell (p := ⟨w.heap.size + 1 + 1 + 1, 0, none⟩) (.inl (by simp)) (.int .i64 1)
  obtain ⟨e1, e2, e3, e4⟩ := three_ones (.slice none 0 0) (.int .i64 0) (.int .i64 1) (k6.blk (by simp) HB.out.1) (k6.blk (by simp) HB.out.2.1) (one_setCell (u := .int .i64 1) HB.out.2.2.1) (by omega) (by omega) w7 (.inr hw7.symm)
  have HE := Lib.hid (And.intro e1 (And.intro e2 (And.intro e3 (And.intro k6 e4))))
  have HW7 := Lib.hid hw7
  clear e1 e2 e3 e4 k6 c1 c2 c3 f1 f2 f3 hw7
  go_wp2
  rw [HW7.out]
  refine leavesM_nil (results_open rfl _ _ rfl rfl rfl (cell_of_one HE.out.1) (cell_of_one HE.out.2.1) (cell_of_one HE.out.2.2.1)) ⟨?_, rfl⟩
  exact (HB.out.2.2.2.trans' HE.out.2.2.2.1 (fun b hb => .inr (by simp at hb; omega))).trans' HE.out.2.2.2.2 (fun b hb => .inr (by simp at hb; omega))

/-- what was read: the greatest time, the greatest number, the changes -/
def btm (q : Nat) (l : List Bt) : Nat := l.foldl (fun a x => max a x.2.1) q
def bln (q : Nat) (l : List Bt) : Nat := l.foldl (fun a x => max a x.1) q
def bch (l : List Bt) : List Ch := l.flatMap (fun x => x.2.2)
theorem btm_snoc (q : Nat) (l : List Bt) (x : Bt) : btm q (l ++ [x]) = max (btm q l) x.2.1 := by simp [btm]
theorem bln_snoc (q : Nat) (l : List Bt) (x : Bt) : bln q (l ++ [x]) = max (bln q l) x.1 := by simp [bln]
theorem bch_snoc (l : List Bt) (x : Bt) : bch (l ++ [x]) = bch l ++ x.2.2 := by simp [bch]
theorem druns_len (S : Nat) (G : Nat → Option Bt) : ∀ f n, (druns S G f n).length ≤ f := by
  intro f
  induction f with
  | zero => intro n; simp [druns]
  | succ f ih =>
    intro n
    unfold druns
    split
    · have := ih (n + 1); simp; omega
    · simp
theorem druns_mem (S : Nat) (G : Nat → Option Bt) : ∀ f n x, x ∈ druns S G f n → n ≤ x.1 ∧ x.1 < n + f ∧ G (x.1 % S) = some x := by
  intro f
  induction f with
  | zero => intro n x h; simp [druns] at h
  | succ f ih =>
    intro n x h
    unfold druns at h
    split at h
    next hb =>
      rcases List.mem_cons.1 h with rfl | h
      · refine ⟨Nat.le_refl _, by simp only []; omega, ?_⟩
        simp only []
        cases hg : G (n % S) with
        | none => rw [hg] at hb; simp [dget] at hb
        | some y =>
          obtain ⟨st, t, p⟩ := y
          rw [hg] at hb
          by_cases hs : st = n
          · simp [dget, hs]
          · simp [dget, hs] at hb
      · obtain ⟨h1, h2, h3⟩ := ih _ _ h
        exact ⟨by omega, by omega, h3⟩
    next => simp at h
theorem dlat_le (S : Nat) (G : Nat → Option Bt) : ∀ f a q, q ≤ 1099511627776 → dlat S G f a q ≤ 1099511627776 := by
  intro f
  induction f with
  | zero => intro a q h; exact h
  | succ f ih =>
    intro a q h
    unfold dlat
    refine ih _ _ ?_
    split
    · split
      next h1 => have := h1.1; omega
      next => exact h
    · exact h
theorem bch_len (l : List Bt) (h : ∀ y ∈ l, y.2.2.length ≤ 255) : (bch l).length ≤ l.length * 255 := by
  induction l with
  | nil => simp [bch]
  | cons x l ih =>
    have h1 := ih (fun y hy => h y (List.mem_cons_of_mem _ hy))
    have h2 := h x (by simp)
    unfold bch at h1 ⊢
    rw [List.flatMap_cons, List.length_append, List.length_cons]
    omega
theorem bln_le (l : List Bt) : ∀ q b : Nat, q ≤ b → (∀ x ∈ l, x.1 ≤ b) → bln q l ≤ b := by
  induction l with
  | nil => intro q b h _; exact h
  | cons x l ih =>
    intro q b h h2
    unfold bln
    rw [List.foldl_cons]
    exact ih _ _ (by have := h2 x (by simp); omega) (fun y hy => h2 y (List.mem_cons_of_mem _ hy))
def OInv (w4 : World) (T L base q0 : Nat) (pre : List Bt) (W : World) : Prop :=
  Keep [T + 1, T + 1 + 1, L] w4 W ∧ ∃ v, W.heap[T + 1]? = some (.cells #[v] 164 (0, 0)) ∧ CRow W base v (bch pre) ∧ W.heap[T + 1 + 1]? = some (.cells #[.int .i64 (btm 0 pre : Int)] 3 (0, 0)) ∧ W.heap[L]? = some (.cells #[.int .i64 (bln q0 pre : Int)] 3 (0, 0))

set_option maxRecDepth 100000 in
set_option maxRecDepth 100000 in
set_option maxHeartbeats 1000000 in
set_option maxHeartbeats 8000000 in
theorem openD_any (w : World) (D : List Nat) (g : Nat) (m : Dev) (h : DV w D g m) (hn : m.n = 60) (hs : m.sz = 96) (hacts : m.acts ≤ 1000000000) (G : Nat → Option Bt) (hG : ∀ a, a < 5 → DSec dc12 m a (G a)) (fr : Int) :
    Calls Try.prog 85 #[.pointer (some ⟨g, 0, none⟩), .agg #[.int .i64 60, .int .i64 96, .int .i64 3, .int .i64 2, .int .i64 5, .int .i64 2, .int .i64 8, .int .u64 0], .int .i64 fr] w fun e w' => Keep [] w w' ∧
      ((¬ (1 ≤ fr ∧ fr ≤ 1099511627776) ∧ e = .returned (.tuple #[.pointer none, .slice none 0 0, .int .i64 0, .int .i64 1])) ∨
       ∃ f : Nat, fr = (f : Int) ∧ 1 ≤ f ∧ f ≤ 1099511627776 ∧ ∃ gl pv, e = .returned (.tuple #[.pointer (some ⟨gl, 0, none⟩), pv, .int .i64 (btm 0 (druns 5 G 5 f) : Int), .int .i64 0]) ∧ w.heap.size ≤ gl ∧ CRow w' w.heap.size pv (bch (druns 5 G 5 f)) ∧
         DLAt w' D [gl] gl g dc12 ⟨f, bln (max (dlat 5 G 5 0 0) (f - 1)) (druns 5 G 5 f) + 1, 0, []⟩ m (.slice none 0 0)) := by
  obtain ⟨k4, s4, b0, b1, b2, b3⟩ := oA_facts w
  obtain ⟨w4, hw4⟩ : ∃ w4, oA w = w4 := ⟨_, rfl⟩
  rw [hw4] at k4 s4 b0 b1 b2 b3
  unfold oA at hw4
  have hF := formatD_any w4 D g m (h.keep k4 (by simp)) hn hs
  have H := Lib.hid (And.intro k4 (And.intro b1 (And.intro b2 (And.intro b3 (And.intro hn (And.intro hs (And.intro hacts hG)))))))
  have HW := Lib.hid hw4
  have HF := Lib.hid hF
  have HDV := Lib.hid h
  have HS4 := Lib.hid s4
  clear k4 b1 b2 b3 hw4 hn hs hacts hG hF h
  refine calls_of_marks Try.func85 rfl ?_
  simp only [Try.ntmps85, List.size_toArray, List.length_cons, List.length_nil, Nat.reduceAdd, Nat.reduceSub, Array.replicate_succ, Array.replicate_zero, List.push_toArray, List.append_toArray, List.nil_append, List.cons_append]
  go_wp2_with fail
  rw [HW.out]
  refine (HF.out).mono ?_
  rintro e w5 ⟨hk5, gl, rfl, hgl, hL⟩
  have B1 := hk5.blk (by simp) H.out.2.1
  have B2 := hk5.blk (by simp) H.out.2.2.1
  have B3 := hk5.blk (by simp) H.out.2.2.2.1
  have k6 := (Keep.refl [w.heap.size + 1 + 1 + 1] w5).setCell (p := ⟨w.heap.size + 1 + 1 + 1, 0, none⟩) (.inl (by simp)) (.int .i64 0)
  have HW5 := Lib.hid (show ∃ w6, w5.setCell ⟨w.heap.size + 1 + 1 + 1, 0, none⟩ (.int .i64 0) = w6 ∧ w6.heap[w.heap.size + 1]? = some (.cells #[.slice none 0 0] 164 (0, 0)) ∧ w6.heap[w.heap.size + 1 + 1]? = some (.cells #[.int .i64 0] 3 (0, 0)) ∧ w6.heap[w.heap.size + 1 + 1 + 1]? = some (.cells #[.int .i64 0] 38 (0, 0)) ∧ Keep [] w w6 ∧ w.heap.size + 4 ≤ gl ∧ gl < w6.heap.size ∧ DLAt w6 D [gl] gl g dc12 ⟨1, 1, 0, []⟩ m (.slice none 0 0) from by
    have hd := HDV.out
    have hs4 := HS4.out
    refine ⟨_, rfl, k6.blk (by simp) B1, k6.blk (by simp) B2, one_setCell B3, (H.out.1.trans hk5).trans' k6 (fun b hb => .inr (by simp at hb; omega)), by omega, Nat.lt_of_lt_of_le (hL.lt gl (by simp)) k6.size, hL.keep k6 (fun b hb => ?_)⟩
    rw [List.mem_singleton] at hb
    subst hb
    exact ⟨fun hm => by have := hd.lt _ hm; omega, by simp; omega⟩)
  have f1 := free_of_one B1
  have f2 := free_of_one B2
  have f3 := free_of_one B3
  have c1 := cell_of_one B1
  have c2 := cell_of_one B2
  have c3 := cell_of_one B3
  clear B1 B2 B3 k6 hk5 HF hL hgl b0
  obtain ⟨w6, hw6, hrest⟩ := HW5.out
  have HB := Lib.hid hrest
  have HW6 := Lib.hid hw6
  clear hw6 HW5 hrest
  by_cases hr : 1 ≤ fr ∧ fr ≤ 1099511627776
  case neg =>
    have hways : fr < 1 ∨ (¬ fr < 1 ∧ fr > 1099511627776) := by omega
    have HR := Lib.hid hr
    clear hr
    rcases hways with h1 | ⟨h1, h2⟩
    all_goals
      go_wp2_with fail
      rw [HW6.out]
      obtain ⟨w7, hw7⟩ : ∃ w7, ((w6.setCell ⟨w.heap.size + 1, 0, none⟩ (.slice none 0 0)).setCell ⟨w.heap.size + 1 + 1, 0, none⟩ (.int .i64 0)).setCell ⟨w.heap.size + 1 + 1 + 1, 0, none⟩ (.int .i64 1) = w7 := ⟨_, rfl⟩
      obtain ⟨e1, e2, e3, e4⟩ := three_ones (.slice none 0 0) (.int .i64 0) (.int .i64 1) HB.out.1 HB.out.2.1 HB.out.2.2.1 (by omega) (by omega) w7 (.inl hw7.symm)
      rw [hw7]
      refine leavesM_nil (results_open rfl _ _ rfl rfl rfl (cell_of_one e1) (cell_of_one e2) (cell_of_one e3)) ⟨?_, .inl ⟨HR.out, rfl⟩⟩
      exact HB.out.2.2.2.1.trans' e4 (fun b hb => .inr (by simp at hb; omega))
  case pos =>
    obtain ⟨f, rfl⟩ : ∃ f : Nat, fr = (f : Int) := ⟨fr.toNat, by omega⟩
    have h1 : ¬ (f : Int) < 1 := by omega
    have h2 : ¬ (1099511627776 < (f : Int)) := by omega
    have HR := Lib.hid hr
    clear hr
    have cL := latest_any w6 D [gl] gl g dc12 _ m _ HB.out.2.2.2.2.2.2 H.out.2.2.2.2.2.2.1 G H.out.2.2.2.2.2.2.2
    have hq1 : dlat dc12.S G dc12.S 0 0 = dlat 5 G 5 0 0 := rfl
    rw [hq1] at cL
    have hq2 : dlat 5 G 5 0 0 ≤ 1099511627776 := dlat_le 5 G 5 0 0 (by omega)
    obtain ⟨q1, hq⟩ : ∃ q1, dlat 5 G 5 0 0 = q1 := ⟨_, rfl⟩
    rw [hq] at cL hq2
    obtain ⟨f1', hf1⟩ : ∃ f1', f = f1' + 1 := ⟨f - 1, by have := HR.out; omega⟩
    obtain ⟨q0, hq0, hq0b, hmx⟩ : ∃ q0 : Nat, max q1 f1' = q0 ∧ q0 ≤ 1099511627776 ∧ ((q1 < f1' ∧ q0 = f1') ∨ (¬ q1 < f1' ∧ q0 = q1)) := ⟨_, rfl, by omega, by omega⟩
    have HQ := Lib.hid (And.intro hq (And.intro hf1 (And.intro hq0 hmx)))
    clear hq1 hq hf1 hq0 hmx
    go_wp2_with fail
    rw [HW6.out]
    refine cL.mono ?_
    clear cL c1 c2 c3 f1 f2 f3
    rintro e w7 ⟨rfl, k7⟩
    have B1 := k7.blk (by simp) HB.out.1
    have B2 := k7.blk (by simp) HB.out.2.1
    have B3 := k7.blk (by simp) HB.out.2.2.1
    have kA := (Keep.refl [] w7).alloc (.cells #[.int .i64 (q1 : Int)] 3)
    have c3 := cell_of_one (kA.blk (by simp) B3)
    have f3 := free_of_one (kA.blk (by simp) B3)
    have hs7 : w.heap.size + 4 ≤ w7.heap.size := by have := k7.size; have := HB.out.2.2.2.2; omega
    have hsz7 : w6.heap.size ≤ w7.heap.size := k7.size
    have HB7 := Lib.hid (And.intro B1 (And.intro B2 (And.intro B3 (And.intro (HB.out.2.2.2.1.trans k7) (HB.out.2.2.2.2.2.2.keep k7 (by simp))))))
    have n3 : ¬ w.heap.size + 1 + 1 + 1 = w7.heap.size := by omega
    have n3' : ¬ w7.heap.size = w.heap.size + 1 + 1 + 1 := by omega
    clear B1 B2 B3 k7 kA
    go_upto_region 7 with fail
    obtain ⟨L, hL⟩ : ∃ L, w7.heap.size = L := ⟨_, rfl⟩
    have hgl := HB.out.2.2.2.2.1
    have HW8 := Lib.hid (show ∃ w8, (w7.alloc (.cells #[.int .i64 (q1 : Int)] 3)).setCell ⟨w.heap.size + 1 + 1 + 1, 0, none⟩ (.int .i64 0) = w8 ∧ w8.heap[w.heap.size + 1]? = some (.cells #[.slice none 0 0] 164 (0, 0)) ∧ w8.heap[w.heap.size + 1 + 1]? = some (.cells #[.int .i64 0] 3 (0, 0)) ∧ w8.heap[w.heap.size + 1 + 1 + 1]? = some (.cells #[.int .i64 0] 38 (0, 0)) ∧
        w8.heap[L]? = some (.cells #[.int .i64 (q1 : Int)] 3 (0, 0)) ∧ Keep [] w w8 ∧ DLAt w8 D [gl] gl g dc12 ⟨1, 1, 0, []⟩ m (.slice none 0 0) ∧ w8.heap.size = L + 1 from by
      have hd := HDV.out
      have kA := (Keep.refl [] w7).alloc (.cells #[.int .i64 (q1 : Int)] 3)
      have hX := heap_alloc_new w7 (.cells #[.int .i64 (q1 : Int)] 3)
      have hsz := World.size_alloc w7 (.cells #[.int .i64 (q1 : Int)] 3)
      rw [hL] at hX hsz
      generalize w7.alloc (.cells #[.int .i64 (q1 : Int)] 3) = w7a at *
      have k6 := (Keep.refl [w.heap.size + 1 + 1 + 1] w7a).setCell (p := ⟨w.heap.size + 1 + 1 + 1, 0, none⟩) (.inl (by simp)) (.int .i64 0)
      refine ⟨_, rfl, k6.blk (by simp) (kA.blk (by simp) HB7.out.1), k6.blk (by simp) (kA.blk (by simp) HB7.out.2.1), one_setCell (kA.blk (by simp) HB7.out.2.2.1), k6.blk (by simp; omega) hX, (HB7.out.2.2.2.1.trans kA).trans' k6 (fun b hb => .inr (by simp at hb; omega)), (HB7.out.2.2.2.2.keep kA (by simp)).keep k6 (fun b hb => ?_), ?_⟩
      · rw [List.mem_singleton] at hb
        subst hb
        exact ⟨fun hm => by have := hd.lt _ hm; omega, by simp; omega⟩
      · rw [show (w7a.setCell ⟨w.heap.size + 1 + 1 + 1, 0, none⟩ (.int .i64 0)).heap.size = w7a.heap.size from by simp]
        exact hsz)
    obtain ⟨w8, hw8, hrest8⟩ := HW8.out
    rw [hw8]
    have cL := cell_of_one hrest8.2.2.2.1
    have fL := free_of_one hrest8.2.2.2.1
    have H8 := Lib.hid hrest8
    have HL := Lib.hid hL
    rw [hL] at hs7
    clear HW8 hw8 hrest8 c3 f3 hgl n3 n3' HB7
    simp only [hL]
    clear hL
    go_cut [] from 33 to 36 (fun wx => Hid (wx.heap[L]? = some (.cells #[.int .i64 (q0 : Int)] 3 (0, 0)) ∧ Keep [L] w8 wx))
    case first =>
      have hf1 := HQ.out.2.1
      rcases HQ.out.2.2.2 with ⟨h5, h6⟩ | ⟨h5, h6⟩
      · have h7 : (q1 : Int) < (f : Int) - 1 := by omega
        have h8 := Lib.hid (show (q0 : Int) = (f : Int) - 1 by omega)
        clear hf1 h5 h6
        go_wp2_with fail
        go_meet
        case rel => exact Lib.hid ⟨by rw [h8.out]; exact one_setCell H8.out.2.2.2.1, (Keep.refl [L] w8).setCell (.inl (by simp)) _⟩
      · have h7 : ¬ (q1 : Int) < (f : Int) - 1 := by omega
        have h8 := Lib.hid h6
        clear hf1 h5 h6
        go_wp2_with fail
        go_meet
        case rel => exact Lib.hid ⟨by rw [h8.out]; exact one_setCell H8.out.2.2.2.1, (Keep.refl [L] w8).setCell (.inl (by simp)) _⟩
    case rest =>
    rename World => wx
    have B1 := hcut.out.2.blk (by simp; omega) H8.out.1
    have B2 := hcut.out.2.blk (by simp; omega) H8.out.2.1
    have B3 := hcut.out.2.blk (by simp; omega) H8.out.2.2.1
    have hsx := hcut.out.2.size
    have hkx := H8.out.2.2.2.2.1.trans' hcut.out.2 (fun b hb => .inr (by simp at hb; omega))
    have hgl := HB.out.2.2.2.2.1
    have hgl2 : gl < L := Nat.lt_of_lt_of_le HB.out.2.2.2.2.2.1 (by rw [← HL.out]; exact hsz7)
    have hdx := H8.out.2.2.2.2.2.1.keep hcut.out.2 (fun b hb => by
      have hd := HDV.out
      rw [List.mem_singleton] at hb
      subst hb
      exact ⟨fun hm => by have := hd.lt _ hm; omega, by simp; omega⟩)
    have H9 := Lib.hid (And.intro B1 (And.intro B2 (And.intro B3 (And.intro hcut.out.1 (And.intro hkx hdx)))))
    have hszx : L + 1 ≤ wx.heap.size := by rw [← H8.out.2.2.2.2.2.2]; exact hsx
    clear B1 B2 B3 hkx hdx hcut cL fL hsx
    go_wp2_with fail
    refine (batches_any _ _ _ _).mono ?_
    rintro e w9 ⟨Bl, Bf, Be, rfl, k9, hBf, hBl, hBe, hsf, hsl, hse⟩
    have HH9 := Lib.hid (And.intro k9 (And.intro hBf (And.intro hBl hBe)))
    obtain ⟨b0, hb0⟩ : ∃ b0, w9.heap.size = b0 := ⟨_, rfl⟩
    have hb1 : L + 4 ≤ b0 + 3 := by have := k9.size; omega
    clear hBf hBl hBe
    go_wp2_with fail
    have hfb := HR.out
    have hit : Iter2 Try.prog 154 #[.pointer (some ⟨Bf, 0, none⟩), .pointer (some ⟨Bl, 0, none⟩), .pointer (some ⟨Be, 0, none⟩)] (BtEnc (b0 + 2)) (druns 5 G 5 f)
        (fun W => DLAt W D [gl] gl g dc12 ⟨1, 1, 0, []⟩ m (.slice none 0 0) ∧ W.heap[Bf]? = some (.cells #[.int .i64 (f : Int)] 3 (0, 0)) ∧ W.heap[Bl]? = some (.cells #[.pointer (some ⟨gl, 0, none⟩)] 151 (0, 0)) ∧ (∃ ep, W.heap[Be]? = some (.cells #[.pointer ep] 237 (0, 0))) ∧ b0 + 2 ≤ W.heap.size) (fun _ => True) [] :=
      batches1_iter Bf Bl Be (b0 + 2) D [gl] gl g dc12 ⟨1, 1, 0, []⟩ m (.slice none 0 0) H.out.2.2.2.2.2.2.1 G H.out.2.2.2.2.2.2.2 f (by omega)
    have hdl := HDV.out
    have hdlt : ∀ b, w.heap.size ≤ b → b ∉ D := fun b hb hm => by have := hdl.lt b hm; omega
    have hgl := HB.out.2.2.2.2.1
    have HHB := Lib.hid hb0
    have ndl := druns_len 5 G 5 f
    have nmem := druns_mem 5 G 5 f
    refine wp_range3 (n := 3) (gf := 154) (lb := #[.pointer (some ⟨Bf, 0, none⟩), .pointer (some ⟨Bl, 0, none⟩), .pointer (some ⟨Be, 0, none⟩)]) rfl (enters_of Try.func154 (by kernel_rfl) rfl)
      (T := []) (by simp) hit
      (fun x args W W' k h => ?hEnc) (fun x args W h => by obtain ⟨_, rfl, -⟩ := h; rfl)
      (OInv w9 w.heap.size L (b0 + 2) q0) (fun _ _ _ => False)
      ?hRd (fun _ _ => trivial) ?hI (fun _ _ _ _ _ h => h) ?h0
      (fun args B0 => { tmps := #[.pointer (some ⟨g, 0, none⟩), .agg #[.int .i64 60, .int .i64 96, .int .i64 3, .int .i64 2, .int .i64 5, .int .i64 2, .int .i64 8, .int .u64 0], .int .i64 (f : Int), undef, .pointer (some ⟨w.heap.size, 0, none⟩), undef, .pointer (some ⟨gl, 0, none⟩), .pointer (some ⟨w.heap.size + 1, 0, none⟩), .pointer (some ⟨w.heap.size + 1 + 1, 0, none⟩), .pointer (some ⟨w.heap.size + 1 + 1 + 1, 0, none⟩), .pointer (some ⟨L, 0, none⟩), args.getD 0 undef, .pointer (some ⟨B0, 0, none⟩),
        .tuple #[.pointer (some ⟨gl, 0, none⟩), .int .i64 0], .pointer (some ⟨g, 0, none⟩), .agg #[.int .i64 60, .int .i64 96, .int .i64 3, .int .i64 2, .int .i64 5, .int .i64 2, .int .i64 8, .int .u64 0], .tuple #[.pointer (some ⟨gl, 0, none⟩), .int .i64 0], .pointer (some ⟨gl, 0, none⟩), .int .i64 0, .int .i64 0, .bool false, undef, .int .i64 (f : Int), .bool (decide ((f : Int) < 1)), .bool (decide ((f : Int) < 1)), .int .i64 (f : Int), .bool (decide (1099511627776 < (f : Int))), .bool (decide ((f : Int) < 1) || decide (1099511627776 < (f : Int))),
        .tuple #[.int .i64 (q1 : Int), .int .i64 0], .pointer (some ⟨gl, 0, none⟩), .tuple #[.int .i64 (q1 : Int), .int .i64 0], .int .i64 (q1 : Int), .int .i64 0, u33, u34, u35, u36, .pointer (some ⟨gl, 0, none⟩), .int .i64 (f : Int), .func (.func 154) #[] #[.pointer (some ⟨Bf, 0, none⟩), .pointer (some ⟨Bl, 0, none⟩), .pointer (some ⟨Be, 0, none⟩)], args.getD 0 undef, args.getD 1 undef, undef, undef, undef, undef, undef, undef, undef, undef, undef, undef, undef, undef, undef, undef, undef, undef, undef, undef, undef, undef, undef, undef, undef, undef, undef, undef], defers := [] })
      (fun x args B0 W => ∃ pv, args = #[.int .i64 (x.1 : Int), .agg #[.int .i64 (x.2.1 : Int), pv]] ∧ W.heap[B0]? = some (.cells #[.int .i64 (x.2.1 : Int), pv] 239 (0, 0))) ?hAs
      ?hassign ?hbody ?hdone ?hstop
    case hEnc =>
      obtain ⟨pv, rfl, h1⟩ := h
      refine ⟨pv, rfl, h1.keep k (fun b hb hm => ?_)⟩
      have := (h1.lt b hb).1
      have := HHB.out
      simp at hm
      omega
    case hAs =>
      rintro x args B0 W W' hB k ⟨pv, rfl, hx⟩
      exact ⟨pv, rfl, k.blk (by simp; omega) hx⟩
    case hRd =>
      rintro pre W ⟨hk, v, h1, h2, h3, h4⟩ hlt
      have hk2 := hk
      have hne : ∀ b, b ∈ [w.heap.size + 1, w.heap.size + 1 + 1, L] → b ∉ D ∧ b ∉ [gl] := fun b hb => by
        simp at hb
        exact ⟨hdlt b (by omega), by simp; omega⟩
      refine ⟨(H9.out.2.2.2.2.2.keep HH9.out.1 (by simp)).keep hk hne, hk.blk (by simp; omega) HH9.out.2.1, hk.blk (by simp; omega) HH9.out.2.2.1, ⟨_, hk.blk (by simp; omega) HH9.out.2.2.2⟩, ?_⟩
      have := HHB.out
      omega
    case hI =>
      rintro pre W W' k ⟨hk, v, h1, h2, h3, h4⟩
      have hb0 := HHB.out
      rw [hb0] at k
      refine ⟨keep_bump hk k (fun b hb => .inr (by simp at hb; omega)), v, k.blk (by simp; omega) h1, h2.keep k (fun b hb hm => ?_), k.blk (by simp; omega) h3, k.blk (by simp; omega) h4⟩
      have := (h2.lt b hb).1
      simp at hm
      omega
    case h0 =>
      intro W k
      have k2 := HH9.out.1.trans k
      exact ⟨k.mono (by simp), .slice none 0 0, k2.blk (by simp) H9.out.1, RowE.nil, k2.blk (by simp) H9.out.2.1, k2.blk (by simp) H9.out.2.2.2.1⟩
    case hassign =>
      rintro x args W K ⟨pv, rfl, h1⟩ hlt hK
      obtain ⟨pa, pc, rfl⟩ := h1.form
      have hA := (Keep.refl [] W).alloc (.cells #[.int .i64 (x.2.1 : Int), .slice pa x.2.2.length pc] 239)
      have hn := heap_alloc_new W (.cells #[.int .i64 (x.2.1 : Int), .slice pa x.2.2.length pc] 239)
      have hK2 := hK _ hA ⟨_, rfl, hn⟩
      clear hK
      gi_wp2
      exact hK2
    case hbody =>
      rintro pre x args B0 W hpre ⟨hk, v, h1, h2, h3, h4⟩ ⟨pv, rfl, hrow⟩ ⟨pv2, hargs, hx0⟩ hB0 ⟨r, hLo⟩ hDo
      obtain ⟨xn, xt, xp⟩ := x
      simp only [Array.mk.injEq, List.cons.injEq, Value.agg.injEq, and_true, true_and] at hargs
      subst hargs
      obtain ⟨pa, pc, rfl⟩ := hrow.form
      obtain ⟨va, vc, rfl⟩ := h2.form
      have hb0 := HHB.out
      rw [hb0] at hLo hDo hB0
      have hlen : pre.length + 1 ≤ 5 := by have := hpre.length_le; simp at this; omega
      have hmem : (xn, xt, xp) ∈ druns 5 G 5 f := hpre.subset (by simp)
      have hgood : ∀ y ∈ druns 5 G 5 f, y.2.2.length ≤ 255 := fun y hy => by
        have h5 := H.out.2.2.2.2.2.2.2 (y.1 % 5) (Nat.mod_lt _ (by omega))
        rw [(nmem y hy).2.2] at h5
        exact h5.2.2.2.2.2
      have hbl : (bch pre).length ≤ pre.length * 255 := bch_len pre (fun y hy => hgood y (hpre.subset (List.mem_append_left _ hy)))
      have hxl := hgood _ hmem
      have hxn := (nmem _ hmem).2.1
      simp only [] at hxl hxn
      have hWs : b0 + 2 ≤ W.heap.size := by have := (Array.getElem?_eq_some_iff.1 hLo).1; omega
      obtain ⟨v7, w7', hrun, ho7, hk7, hloc7⟩ := run_append_row (P := Try.prog) (ty := 164) clies Try.underlying164 ch_info rfl (by decide) (by decide) (b0 + 2) h2 hrow (by simp only []; omega) hWs
      obtain ⟨va', vc', rfl⟩ := ho7.form
      have hlow : ∀ b, b < b0 + 2 → b ∉ (Value.slice va (bch pre).length vc).ownBlock.toList := fun b hb hm => by
        have := (h2.lt b (by simpa using hm)).1
        omega
      have hB0r : B0 ∉ (Value.slice va (bch pre).length vc).ownBlock.toList := fun hm => h2.ne hx0 (by decide) (by simpa using hm)
      have y1 := hk7.blk (hlow _ (by omega)) h1
      have y3 := hk7.blk (hlow _ (by omega)) h3
      have y4 := hk7.blk (hlow _ (by omega)) h4
      have yx := hk7.blk hB0r hx0
      have yL := hk7.blk (hlow _ (by omega)) hLo
      have yD := hk7.blk (hlow _ (by omega)) hDo
      have hkk := keep_bump hk hk7 (fun b hb => .inr (by have := (h2.lt b (by simpa using hb)).1; omega))
      have g1 := cell_of_one h1
      have g0x := cell_of_row W _ 1 _ _ _ hx0
      have e1 := cell_of_one y1
      have e3 := cell_of_one y3
      have e4 := cell_of_one y4
      have ex := cell_of_row w7' _ 0 _ _ _ yx
      have f1 := free_of_one y1
      have f3 := free_of_one y3
      have f4 := free_of_one y4
      simp at g0x ex
      obtain ⟨tq, htq⟩ : ∃ tq, btm 0 pre = tq := ⟨_, rfl⟩
      obtain ⟨lq, hlq⟩ : ∃ lq, bln q0 pre = lq := ⟨_, rfl⟩
      have hbt := btm_snoc 0 pre (xn, xt, xp)
      have hbn := bln_snoc q0 pre (xn, xt, xp)
      have hbc := bch_snoc pre (xn, xt, xp)
      rw [htq] at e3 h3 y3 hbt
      rw [hlq] at e4 h4 y4 hbn
      simp only [] at hbt hbn hbc
      have n1 : ¬ w.heap.size + 1 = L := by omega
      have n2 : ¬ L = w.heap.size + 1 := by omega
      have n3 : ¬ w.heap.size + 1 + 1 = L := by omega
      have n4 : ¬ L = w.heap.size + 1 + 1 := by omega
      have n5 : ¬ B0 = w.heap.size + 1 := by omega
      have n6 : ¬ B0 = w.heap.size + 1 + 1 := by omega
      have n7 : ¬ B0 = L := by omega
      have hways : (tq < xt ∧ max tq xt = xt) ∨ (¬ tq < xt ∧ max tq xt = tq) := by omega
      have hways2 : (lq < xn ∧ max lq xn = xn) ∨ (¬ lq < xn ∧ max lq xn = lq) := by omega
      have HY := Lib.hid (And.intro y1 (And.intro y3 (And.intro y4 (And.intro yL (And.intro yD (And.intro hkk ho7))))))
      have HBN := Lib.hid (And.intro hbt (And.intro hbn hbc))
      have HLD := Lib.hid (And.intro hLo hDo)
      clear h1 h3 h4 hx0 hLo hDo y1 y3 y4 yx yL yD hkk hk ho7 hbt hbn hbc h2 hrow hpre hmem hgood hbl nmem ndl hk7 hloc7 hlow hB0r htq hlq hdlt hit
      rcases hways with ⟨k1, k2⟩ | ⟨k1, k2⟩ <;> rcases hways2 with ⟨k3, k4⟩ | ⟨k3, k4⟩
      all_goals
        have HKK := Lib.hid (And.intro k2 k4)
        clear k2 k4
        gi_wp2_with (gi_at_builtin; refine wpListIn_append_run rfl (.tmp 42) (.tmp 44) 164 rfl (v := .slice va (bch pre).length vc) (src := .slice pa xp.length pc) (v' := .slice va' (bch pre ++ xp).length vc') (w' := w7') rfl rfl hrun ?_)
        have ho7 := HY.out.2.2.2.2.2.2
        rw [List.length_append] at ho7
        obtain ⟨z1, z2, z3, z4⟩ := three_ones _ _ _ HY.out.1 HY.out.2.1 HY.out.2.2.1 (by omega) (by omega) _ (.inl rfl)
        refine ⟨(z4.blk (by simp; omega) HY.out.2.2.2.1).trans HLD.out.1.symm, (z4.blk (by simp; omega) HY.out.2.2.2.2.1).trans HLD.out.2.symm, by simp, keep_bump HY.out.2.2.2.2.2.1 z4 (fun b hb => .inl hb), _, z1, ?_, ?_, ?_⟩
        · rw [HBN.out.2.2]
          refine ho7.keep z4 (fun b hb hm => ?_)
          have := (ho7.lt b hb).1
          simp at hm
          omega
        · rw [HBN.out.1, HKK.out.1]
          exact z2
        · rw [HBN.out.2.1, HKK.out.2]
          exact z3
    case hdone =>
      rintro W ⟨hk, v, h1, h2, h3, h4⟩ hD
      obtain ⟨va, vc, rfl⟩ := h2.form
      have hb0 := HHB.out
      have hb3 : W.heap[w.heap.size + 1 + 1 + 1]? = some (.cells #[.int .i64 0] 38 (0, 0)) := hk.blk (by simp; omega) (HH9.out.1.blk (by simp) H9.out.2.2.1)
      have hne : ∀ b, b ∈ [w.heap.size + 1, w.heap.size + 1 + 1, L] → b ∉ D ∧ b ∉ [gl] := fun b hb => by
        simp at hb
        exact ⟨hdlt b (by omega), by simp; omega⟩
      have hd := (H9.out.2.2.2.2.2.keep HH9.out.1 (by simp)).keep hk hne
      have hkw := (H9.out.2.2.2.2.1.trans HH9.out.1).trans' hk (fun b hb => .inr (by simp at hb; omega))
      have e1 := cell_of_one h1
      have e2 := cell_of_one h3
      have e3 := cell_of_one hb3
      have e4 := cell_of_one h4
      have f1 := free_of_one h1
      have f2 := free_of_one h3
      have f3 := free_of_one hb3
      have r11 := hd.row.k11
      have r12 := hd.row.k12
      have s11 := hd.row.free 11
      have s12 := hd.row.free 12
      have hbln : bln q0 (druns 5 G 5 f) ≤ 1099511627781 := bln_le _ _ _ (by omega) (fun x hx => by have := (nmem x hx).2.1; omega)
      obtain ⟨lq, hlq⟩ : ∃ lq, bln q0 (druns 5 G 5 f) = lq := ⟨_, rfl⟩
      rw [hlq] at e4 h4 hbln
      have HDN := Lib.hid (And.intro h1 (And.intro h2 (And.intro h3 (And.intro h4 (And.intro hb3 (And.intro hd (And.intro hkw (And.intro hD hlq))))))))
      clear h1 h2 h3 h4 hb3 hd hkw hD hlq hk hne nmem ndl hit
      go_wp2_with fail
      go_region
      have kg := (((Keep.refl [gl] W).setCell (p := ⟨gl, 11, none⟩) (.inl (by simp)) (.int .i64 (f : Int))).setCell (p := ⟨gl, 12, none⟩) (.inl (by simp)) (.int .i64 ((lq : Int) + 1))).drew
      have hdn : DLAt (((W.setCell ⟨gl, 11, none⟩ (.int .i64 (f : Int))).setCell ⟨gl, 12, none⟩ (.int .i64 ((lq : Int) + 1))).drew) D [gl] gl g dc12 ⟨f, lq + 1, 0, []⟩ m (.slice none 0 0) :=
        HDN.out.2.2.2.2.2.1.turn kg (fun b hb => .inl (by simpa using hb)) ((((HDN.out.2.2.2.2.2.1.row).fr f).nx (lq + 1)).keep ((Keep.refl [] _).drew) (by simp)) RowE.nil (fun b hb => hb) (fun b hb => .inl hb) (fun b hb => by simp [Value.ownBlock] at hb)
      obtain ⟨w10, hw10⟩ : ∃ w10, (((W.setCell ⟨gl, 11, none⟩ (.int .i64 (f : Int))).setCell ⟨gl, 12, none⟩ (.int .i64 ((lq : Int) + 1))).drew) = w10 := ⟨_, rfl⟩
      rw [hw10] at kg hdn ⊢
      have g1 := kg.blk (by simp; omega) HDN.out.1
      have g2 := kg.blk (by simp; omega) HDN.out.2.2.1
      have g3 := kg.blk (by simp; omega) HDN.out.2.2.2.2.1
      have e1 := cell_of_one g1
      have e2 := cell_of_one g2
      have e3 := cell_of_one g3
      have f1 := free_of_one g1
      have f2 := free_of_one g2
      have f3 := free_of_one g3
      have HG := Lib.hid (And.intro g1 (And.intro g2 (And.intro g3 (And.intro kg hdn))))
      clear g1 g2 g3 kg hdn hw10 e4 r11 r12 s11 s12
      go_wp2_with fail
      go_region
      obtain ⟨w11, hw11⟩ : ∃ w11, (((w10.setCell ⟨w.heap.size + 1, 0, none⟩ (.slice va (bch (druns 5 G 5 f)).length vc)).setCell ⟨w.heap.size + 1 + 1, 0, none⟩ (.int .i64 (btm 0 (druns 5 G 5 f) : Int))).setCell ⟨w.heap.size + 1 + 1 + 1, 0, none⟩ (.int .i64 0)).drew = w11 := ⟨_, rfl⟩
      obtain ⟨z1, z2, z3, z4⟩ := three_ones (.slice va (bch (druns 5 G 5 f)).length vc) (.int .i64 (btm 0 (druns 5 G 5 f) : Int)) (.int .i64 0) HG.out.1 HG.out.2.1 HG.out.2.2.1 (by omega) (by omega) w11 (.inr hw11.symm)
      have HZ := Lib.hid (And.intro z1 (And.intro z2 (And.intro z3 z4)))
      have HW11 := Lib.hid hw11
      clear z1 z2 z3 z4 hw11 e1 e2 e3 f1 f2 f3
      go_wp2
      rw [HW11.out]
      have kp : Keep [b0] w11 (w11.putObj b0 (.deferred none)) := (Keep.refl [b0] w11).putObj (.inl (by simp)) _
      have hb0 := HHB.out
      have k1 := HG.out.2.2.2.1
      have k2 := HZ.out.2.2.2
      have hrow := HDN.out.2.1
      have hlt := hrow.lt
      have hD3 : w11.heap[b0]? = some (.deferred (some [])) := by
        have h := HDN.out.2.2.2.2.2.2.2.1
        rw [hb0] at h
        exact k2.blk (by simp; omega) (k1.blk (by simp; omega) h)
      refine leavesM_one hD3 (results_open rfl _ _ rfl rfl rfl (cell_of_one (kp.blk (by simp; omega) HZ.out.1)) (cell_of_one (kp.blk (by simp; omega) HZ.out.2.1)) (cell_of_one (kp.blk (by simp; omega) HZ.out.2.2.1))) ⟨?_, .inr ⟨f, rfl, by omega, by omega, gl, _, rfl, by omega, ?_, ?_⟩⟩
      · have ka := HDN.out.2.2.2.2.2.2.1.trans' k1 (fun b hb => .inr (by simp at hb; omega))
        have kb := ka.trans' k2 (fun b hb => .inr (by simp at hb; omega))
        exact kb.trans' kp (fun b hb => .inr (by simp at hb; omega))
      · have ra := hrow.keep k1 (fun b hb hm => by have := (hlt b hb).1; simp at hm; omega)
        have rb := ra.keep k2 (fun b hb hm => by have := (hlt b hb).1; simp at hm; omega)
        exact (rb.keep kp (fun b hb hm => by have := (hlt b hb).1; simp at hm; omega)).lower (by omega)
      · have hda := HG.out.2.2.2.2.keep k2 (fun b hb => ⟨hdlt b (by simp at hb; omega), by simp at hb; simp; omega⟩)
        have hdb := hda.keep kp (fun b hb => ⟨hdlt b (by simp at hb; omega), by simp at hb; simp; omega⟩)
        have e7 : bln (max (dlat 5 G 5 0 0) (f - 1)) (druns 5 G 5 f) = lq := by
          rw [HQ.out.1, show f - 1 = f1' by have := HQ.out.2.1; omega, HQ.out.2.2.1]
          exact HDN.out.2.2.2.2.2.2.2.2
        rw [e7]
        exact hdb
    case hstop =>
      rintro c pre W _ h
      exact h.elim
end Go.Proofs.Ytjkjiabfhhnngaa

/-! delta's log, in memory and in mind. -/
namespace Go.Proofs.Ytjkjiabfhhnngaa
open Go.RowKit Go.Shelf Sg
set_option linter.unusedSimpArgs false
set_option linter.unusedVariables false

/-- G: what stands in each sector -/
structure DgInv (c : Dc) (l : Dl) (m : Dev) (G : Nat → Option Bt) : Prop where
  ok : c.Ok m
  wf : m.Wf
  up : m.down = false
  un : m.armed = 0
  fit : l.Fit c
  pl : l.pend.length < c.per
  sec : ∀ a, a < c.S → (G a = none ∧ m.get (c.first + a) = List.replicate m.sz 0) ∨ ∃ st t p, G a = some (st, t, p) ∧ m.get (c.first + a) = lbuild m.sz 4 a st (dload t p) ∧ st ≤ 1099511628032 ∧ t ≤ 281474976710656 ∧ GoodC p ∧ p.length ≤ c.per
def setG (G : Nat → Option Bt) (a : Nat) (x : Bt) : Nat → Option Bt := fun b => if b = a then some x else G b
section
variable {c : Dc} {l : Dl} {m : Dev} {G : Nat → Option Bt}
theorem DgInv.per (h : DgInv c l m G) : c.per ≤ 23 := by have := h.ok.p2; have := h.ok.z2; omega
theorem DgInv.top (h : DgInv c l m G) {a : Nat} (ha : a < c.S) : c.first + a < m.n := Nat.lt_of_lt_of_le (Nat.add_lt_add_left ha _) h.ok.top
theorem DgInv.fits (h : DgInv c l m G) {a st t : Nat} {p : List Ch} (ha : a < c.S) (hp : p.length ≤ c.per) : lcode m.sz 4 a st (dload t p).length = 0 := by
  have hz := h.ok.sz
  have h2 := h.ok.p2
  have h3 := h.ok.s2
  have h4 : p.length * 21 ≤ c.per * 21 := Nat.mul_le_mul_right _ hp
  exact lcode_fine (k := 4) ⟨h.wf.s1, h.wf.s2⟩ ⟨by omega, by omega⟩ (by omega) (by rw [dload_len]; omega)
theorem DgInv.dsec (h : DgInv c l m G) {a : Nat} (ha : a < c.S) : DSec c m a (G a) := by
  rcases h.sec a ha with ⟨e1, e2⟩ | ⟨st, t, p, e1, e2, e3, e4, e5, e6⟩
  · rw [e1]
    unfold DSec lgot
    rw [read_up h.up (h.top ha), e2]
    exact ⟨fun h => zeros_no _ h.2.1, rfl⟩
  · rw [e1]
    obtain ⟨g1, g2, g3, g4, g5, g6, g7⟩ := leaf_back m.sz 4 a st (dload t p) (h.fits ha e6) (by omega)
    have := h.per
    unfold DSec lgot
    rw [read_up h.up (h.top ha), e2]
    exact ⟨⟨rfl, g6, by rw [g1]; rfl, by rw [g3]⟩, g4, g5, e4, e5, by omega⟩
/-- a sector is written -/
theorem DgInv.write (h : DgInv c l m G) (hn : l.nx < 1099511628032) {t : Nat} (ht : t ≤ 281474976710656) {p : List Ch} (hp : p.length ≤ c.per) (hg : GoodC p) :
    ∃ m', c.wr { l with pend := p } m t = ({ l with nx := l.nx + 1, tm := t, pend := [] }, m', 0) ∧ DgInv c { l with nx := l.nx + 1, tm := t, pend := [] } m' (setG G (l.nx % c.S) (l.nx, t, p)) ∧ m'.acts = m.acts + 1 ∧ m'.n = m.n ∧ m'.sz = m.sz := by
  obtain ⟨a, ha⟩ : ∃ a, l.nx % c.S = a := ⟨_, rfl⟩
  have ha2 : a < c.S := by rw [← ha]; exact Nat.mod_lt _ (by have := h.ok.s1; omega)
  have hc := h.fits (st := l.nx) (t := t) ha2 hp
  have hz := h.ok.sz
  have h2 := h.ok.p2
  have h3 := h.ok.s2
  have h4 : p.length * 21 ≤ c.per * 21 := Nat.mul_le_mul_right _ hp
  have hlen : (dload t p).length + 19 ≤ m.sz := by rw [dload_len]; omega
  have hput := lput_up h.wf h.up h.un (h.top ha2) (k := 4) (p := a) (s := l.nx) ⟨by omega, by omega⟩ (by omega) hlen
  obtain ⟨u1, u2, u3, u4, u5⟩ := Dev.write_same m (c.first + a) (lbuild m.sz 4 a l.nx (dload t p)) h.up h.un
  refine ⟨m.write (c.first + a) (lbuild m.sz 4 a l.nx (dload t p)), ?_, ?_, u5, u3, u4⟩
  · unfold Dc.wr
    simp only [ha]
    rw [show ((4 : Nat) : Int) = 4 from rfl] at hput
    rw [hput]
  · rw [ha]
    have hfit := h.fit
    have hok2 : c.Ok (m.write (c.first + a) (lbuild m.sz 4 a l.nx (dload t p))) := h.ok.of u3 u4
    have hblen : (lbuild m.sz 4 a l.nx (dload t p)).length = m.sz := (leaf_back m.sz 4 a l.nx (dload t p) hc (by omega)).2.2.2.2.2.2
    refine { ok := hok2, wf := ?_, up := u1, un := u2, fit := ⟨hfit.f1, Nat.le_trans hfit.fn (Nat.le_succ _), hn, Nat.zero_le _, ht, ⟨fun x hx => by simp at hx, fun x hx => by simp at hx⟩⟩, pl := h.ok.p1, sec := fun b hb => ?_ }
    · exact h.wf.write (h.top ha2) hblen
    · rw [Dev.get_write, u4]
      unfold setG
      by_cases hba : b = a
      · subst hba
        rw [if_pos rfl, if_pos rfl]
        exact .inr ⟨l.nx, t, p, rfl, rfl, by omega, ht, hg, hp⟩
      · rw [if_neg hba, if_neg (by omega)]
        exact h.sec b hb
end

/-- W: the world at the call's start; X: blocks that the log does not touch -/
structure DAt (W : World) (X : List Nat) (w : World) (gl g : Nat) (l : Dl) (m : Dev) (G : Nat → Option Bt) : Prop where
  k : Keep [] W w
  inv : DgInv dc12 l m G
  mem : ∃ D E, DL w D E gl g dc12 l m ∧ ∀ b, (b ∈ E ∨ b ∈ D) → W.heap.size ≤ b ∧ b ∉ X
  lt : ∀ b ∈ X, b < w.heap.size
  n60 : m.n = 60
  s96 : m.sz = 96
section
variable {W w w' : World} {X : List Nat} {gl g : Nat} {l l' : Dl} {m m' : Dev} {G G' : Nat → Option Bt}
theorem dl_lt {c : Dc} {D E : List Nat} (h : DL w D E gl g c l m) : ∀ b, (b ∈ E ∨ b ∈ D) → b < w.heap.size := fun b hb => by
  obtain ⟨pv, h⟩ := h
  exact hb.elim (h.lt b) (h.dv.lt b)
theorem DAt.keep (h : DAt W X w gl g l m G) (k : Keep [] w w') : DAt W X w' gl g l m G := by
  obtain ⟨D, E, h1, h2⟩ := h.mem
  exact ⟨h.k.trans k, h.inv, ⟨D, E, h1.keep k (by simp), h2⟩, fun b hb => Nat.lt_of_lt_of_le (h.lt b hb) k.size, h.n60, h.s96⟩
theorem DAt.own (h : DAt W X w gl g l m G) {S : List Nat} (k : Keep S w w') (hS : ∀ b ∈ S, (b ∈ X ∨ w.heap.size ≤ b) ∧ W.heap.size ≤ b) : DAt W X w' gl g l m G := by
  obtain ⟨D, E, r1, r2⟩ := h.mem
  refine ⟨h.k.trans' k (fun b hb => .inr (hS b hb).2), h.inv, ⟨D, E, r1.keep k (fun b hb => ?_), r2⟩, fun b hb => Nat.lt_of_lt_of_le (h.lt b hb) k.size, h.n60, h.s96⟩
  have hn : ¬ (b ∈ E ∨ b ∈ D) := fun hm => (hS b hb).1.elim (fun hx => (r2 b hm).2 hx) (fun hx => by have := dl_lt r1 _ hm; omega)
  exact ⟨fun hm => hn (.inr hm), fun hm => hn (.inl hm)⟩
theorem DAt.add (h : DAt W X w gl g l m G) (k : Keep [] w w') {x : Nat} (h1 : w.heap.size ≤ x) (h2 : x < w'.heap.size) : DAt W (x :: X) w' gl g l m G := by
  obtain ⟨D, E, r1, r2⟩ := h.mem
  refine ⟨h.k.trans k, h.inv, ⟨D, E, r1.keep k (by simp), fun b hb => ⟨(r2 b hb).1, fun hm => ?_⟩⟩, fun b hb => ?_, h.n60, h.s96⟩
  · rcases List.mem_cons.1 hm with rfl | hm
    · have := dl_lt r1 _ hb; omega
    · exact (r2 b hb).2 hm
  · rcases List.mem_cons.1 hb with rfl | hb
    · exact h2
    · exact Nat.lt_of_lt_of_le (h.lt b hb) k.size
theorem DAt.step (h : DAt W X w gl g l m G) {D E : List Nat} (r1 : DL w D E gl g dc12 l m) (r2 : ∀ b, (b ∈ E ∨ b ∈ D) → W.heap.size ≤ b ∧ b ∉ X) (hs : DlStep w D E gl g dc12 l' m' w') (hi : DgInv dc12 l' m' G') (hn : m'.n = m.n) (hz : m'.sz = m.sz) : DAt W X w' gl g l' m' G' ∧ Rest X w w' := by
  obtain ⟨D', E', s1, s2, s3, s4⟩ := hs
  have hnn : ∀ b, b ∈ E ++ D → W.heap.size ≤ b ∧ b ∉ X := fun b hb => r2 b (List.mem_append.1 hb)
  refine ⟨⟨h.k.trans' s4 (fun b hb => .inr (hnn b hb).1), hi, ⟨D', E', s1, fun b hb => ?_⟩, fun b hb => Nat.lt_of_lt_of_le (h.lt b hb) s4.size, by rw [hn]; exact h.n60, by rw [hz]; exact h.s96⟩, s4.size, fun b hb => s4.block b (h.lt b hb) (fun hm => (hnn b hm).2 hb)⟩
  have hor : (b ∈ E ∨ b ∈ D) ∨ w.heap.size ≤ b := by
    rcases hb with hb | hb
    · exact (s3.2 b hb).elim (fun h => .inl (.inl h)) .inr
    · exact (s2.2 b hb).elim (fun h => .inl (.inr h)) .inr
  rcases hor with h1 | h1
  · exact r2 b h1
  · exact ⟨Nat.le_trans h.k.size h1, fun hm => by have := h.lt b hm; omega⟩

/-- a flush: nothing to do, no room, or a sector that is written -/
theorem flushD_ok (h : DAt W X w gl g l m G) (hacts : m.acts ≤ 1000000000) (hn : l.nx < 1099511628032) (t : Nat) (ht : t ≤ 281474976710656) :
    Calls Try.prog 78 #[.pointer (some ⟨gl, 0, none⟩), .int .i64 (t : Int)] w fun e w' => Rest X w w' ∧
      ((l.pend = [] ∧ t = l.tm ∧ e = .returned (.int .i64 0) ∧ DAt W X w' gl g l m G) ∨
       (¬ (l.pend = [] ∧ t = l.tm) ∧ l.fr + 5 ≤ l.nx ∧ e = .returned (.int .i64 6) ∧ DAt W X w' gl g l m G) ∨
       (¬ (l.pend = [] ∧ t = l.tm) ∧ l.nx < l.fr + 5 ∧ e = .returned (.int .i64 0) ∧ ∃ m', m'.acts = m.acts + 1 ∧ DAt W X w' gl g ⟨l.fr, l.nx + 1, t, []⟩ m' (setG G (l.nx % 5) (l.nx, t, l.pend)))) := by
  obtain ⟨D, E, r1, r2⟩ := h.mem
  refine (flushDl_any w D E gl g dc12 l m r1 h.inv.fit hacts hn (t : Int)).mono ?_
  rintro e w' ⟨rfl, hs⟩
  have hTm : ¬ ¬ Tm (t : Int) := by unfold Tm; omega
  have hSd : dc12.S = 5 := rfl
  have hfn := h.inv.fit.fn
  unfold Dc.flush at hs ⊢
  rw [if_neg hTm] at hs ⊢
  by_cases h1 : l.pend = [] ∧ t = l.tm
  · rw [if_pos ⟨h1.1, by rw [h1.2]⟩] at hs ⊢
    obtain ⟨a1, a2⟩ := h.step r1 r2 hs h.inv rfl rfl
    exact ⟨a2, .inl ⟨h1.1, h1.2, rfl, a1⟩⟩
  · rw [if_neg (fun hh => h1 ⟨hh.1, by have := hh.2; omega⟩)] at hs ⊢
    by_cases h2 : dc12.left l = 0
    · rw [if_pos h2] at hs ⊢
      obtain ⟨a1, a2⟩ := h.step r1 r2 hs h.inv rfl rfl
      exact ⟨a2, .inr (.inl ⟨h1, by unfold Dc.left at h2; omega, rfl, a1⟩)⟩
    · rw [if_neg h2] at hs ⊢
      obtain ⟨m', e1, i1, i2, i3, i4⟩ := h.inv.write hn ht (p := l.pend) (Nat.le_of_lt h.inv.pl) h.inv.fit.good
      simp only [Int.toNat_natCast] at hs ⊢
      have e2 : dc12.wr l m t = ({ l with nx := l.nx + 1, tm := t, pend := [] }, m', 0) := e1
      rw [e2] at hs ⊢
      obtain ⟨a1, a2⟩ := h.step r1 r2 hs i1 i3 i4
      exact ⟨a2, .inr (.inr ⟨h1, by unfold Dc.left at h2; omega, rfl, m', i2, a1⟩)⟩
/-- a right change is added -/
theorem addD_ok (h : DAt W X w gl g l m G) (hacts : m.acts ≤ 1000000000) (hn : l.nx < 1099511628032) (x : Ch) (hx : x.Right) (hh : x.hash < 18446744073709551616) (t : Nat) (ht : t ≤ 281474976710656) :
    Calls Try.prog 81 #[.pointer (some ⟨gl, 0, none⟩), x.v, .int .i64 (t : Int)] w fun e w' => Rest X w w' ∧
      ((l.fr + 5 ≤ l.nx ∧ e = .returned (.int .i64 6) ∧ DAt W X w' gl g l m G) ∨
       (l.nx < l.fr + 5 ∧ l.pend.length < 2 ∧ e = .returned (.int .i64 0) ∧ DAt W X w' gl g ⟨l.fr, l.nx, l.tm, l.pend ++ [x]⟩ m G) ∨
       (l.nx < l.fr + 5 ∧ l.pend.length = 2 ∧ e = .returned (.int .i64 0) ∧ ∃ m', m'.acts = m.acts + 1 ∧ DAt W X w' gl g ⟨l.fr, l.nx + 1, t, []⟩ m' (setG G (l.nx % 5) (l.nx, t, l.pend ++ [x])))) := by
  obtain ⟨D, E, r1, r2⟩ := h.mem
  have hpl := h.inv.pl
  have hSd : dc12.S = 5 := rfl
  have hPd : dc12.per = 3 := rfl
  rw [hPd] at hpl
  refine (addDl_any w D E gl g dc12 l m r1 h.inv.fit h.inv.pl hacts hn x hh (t : Int)).mono ?_
  rintro e w' ⟨rfl, hs⟩
  have hTm : ¬ (¬ x.Right ∨ ¬ Tm (t : Int)) := by
    rintro (h1 | h1)
    · exact h1 hx
    · exact h1 (by unfold Tm; omega)
  have hfn := h.inv.fit.fn
  unfold Dc.add at hs ⊢
  rw [if_neg hTm] at hs ⊢
  have hgood : GoodC (l.pend ++ [x]) := by
    refine ⟨fun y hy => ?_, fun y hy => ?_⟩
    · rcases List.mem_append.1 hy with hy | hy
      · exact h.inv.fit.good.r y hy
      · rw [List.mem_singleton.1 hy]; exact hx
    · rcases List.mem_append.1 hy with hy | hy
      · exact h.inv.fit.good.h y hy
      · rw [List.mem_singleton.1 hy]; exact hh
  by_cases h2 : dc12.left l = 0
  · rw [if_pos h2] at hs ⊢
    obtain ⟨a1, a2⟩ := h.step r1 r2 hs h.inv rfl rfl
    exact ⟨a2, .inl ⟨by unfold Dc.left at h2; omega, rfl, a1⟩⟩
  · rw [if_neg h2] at hs ⊢
    have hlt : l.nx < l.fr + 5 := by unfold Dc.left at h2; omega
    by_cases h3 : l.pend.length + 1 < dc12.per
    · rw [if_pos h3] at hs ⊢
      have hi : DgInv dc12 { l with pend := l.pend ++ [x] } m G := { ok := h.inv.ok, wf := h.inv.wf, up := h.inv.up, un := h.inv.un, fit := ⟨h.inv.fit.f1, h.inv.fit.fn, h.inv.fit.nb, by simp; omega, h.inv.fit.t, hgood⟩, pl := by simp; omega, sec := h.inv.sec }
      obtain ⟨a1, a2⟩ := h.step r1 r2 hs hi rfl rfl
      exact ⟨a2, .inr (.inl ⟨hlt, by omega, rfl, a1⟩)⟩
    · rw [if_neg h3] at hs ⊢
      obtain ⟨m', e1, i1, i2, i3, i4⟩ := h.inv.write hn ht (p := l.pend ++ [x]) (by simp; omega) hgood
      simp only [Int.toNat_natCast] at hs ⊢
      rw [e1] at hs ⊢
      obtain ⟨a1, a2⟩ := h.step r1 r2 hs i1 i3 i4
      exact ⟨a2, .inr (.inr ⟨hlt, by omega, rfl, m', i2, a1⟩)⟩
theorem leftD_ok (h : DAt W X w gl g l m G) : Calls Try.prog 122 #[.pointer (some ⟨gl, 0, none⟩)] w fun e w' => e = .returned (.int .i64 ((5 - (l.nx - l.fr) : Nat) : Int)) ∧ Keep [] w w' := by
  obtain ⟨D, E, ⟨pv, r1⟩, -⟩ := h.mem
  exact leftD_any r1.row (by decide) h.inv.fit.fn h.inv.fit.nb
theorem nextD_ok (h : DAt W X w gl g l m G) : Calls Try.prog 80 #[.pointer (some ⟨gl, 0, none⟩)] w fun e w' => e = .returned (.int .i64 (l.nx : Int)) ∧ w = w' := by
  obtain ⟨D, E, ⟨pv, r1⟩, -⟩ := h.mem
  exact nextD_any r1.row
theorem restartD_ok (h : DAt W X w gl g l m G) : Calls Try.prog 79 #[.pointer (some ⟨gl, 0, none⟩)] w fun e w' => e = .returned (.tuple #[]) ∧ DAt W X w' gl g ⟨l.nx, l.nx, l.tm, []⟩ m G ∧ Rest X w w' := by
  obtain ⟨D, E, r1, r2⟩ := h.mem
  obtain ⟨pv, r1'⟩ := id r1
  refine (restartD_any r1'.row).mono ?_
  rintro e w' ⟨rfl, hr, hk⟩
  have hi : DgInv dc12 ⟨l.nx, l.nx, l.tm, []⟩ m G := { ok := h.inv.ok, wf := h.inv.wf, up := h.inv.up, un := h.inv.un, fit := ⟨Nat.le_trans h.inv.fit.f1 h.inv.fit.fn, Nat.le_refl _, h.inv.fit.nb, Nat.zero_le _, h.inv.fit.t, ⟨fun x hx => by simp at hx, fun x hx => by simp at hx⟩⟩, pl := (show 0 < 3 by omega), sec := h.inv.sec }
  obtain ⟨a1, a2⟩ := h.step r1 r2 ⟨D, E, ⟨_, r1'.turn hk (fun b hb => .inl (by simpa using hb)) hr RowE.nil (fun b hb => hb) (fun b hb => .inl hb) (fun b hb => by simp [Value.ownBlock] at hb)⟩, Grew.refl _ _, Grew.refl _ _, hk.mono (fun b hb => by rw [List.mem_singleton] at hb; subst hb; exact List.mem_append_left _ r1'.gl)⟩ hi rfl rfl
  exact ⟨rfl, a1, a2⟩
theorem formatD_ok (hk : Keep [] W w) {D : List Nat} (h : DV w D g (Dev.new 60 96)) (hD : ∀ b ∈ D, W.heap.size ≤ b ∧ b ∉ X) (hX : ∀ b ∈ X, b < w.heap.size) :
    Calls Try.prog 76 #[.pointer (some ⟨g, 0, none⟩), .agg #[.int .i64 60, .int .i64 96, .int .i64 3, .int .i64 2, .int .i64 5, .int .i64 2, .int .i64 8, .int .u64 0]] w fun e w' => ∃ gl, e = .returned (.tuple #[.pointer (some ⟨gl, 0, none⟩), .int .i64 0]) ∧ DAt W X w' gl g ⟨1, 1, 0, []⟩ (Dev.new 60 96) (fun _ => none) ∧ Keep [] w w' := by
  refine (formatD_any w D g _ h rfl rfl).mono ?_
  rintro e w' ⟨hk2, gl, rfl, hgl, hdl⟩
  refine ⟨gl, rfl, ⟨hk.trans hk2, ?_, ⟨D, [gl], ⟨_, hdl⟩, fun b hb => ?_⟩, fun b hb => Nat.lt_of_lt_of_le (hX b hb) hk2.size, rfl, rfl⟩, hk2⟩
  · exact { ok := dc12_ok _ rfl rfl, wf := h.1, up := rfl, un := rfl, fit := ⟨by decide, by decide, by decide, by decide, by decide, ⟨fun x hx => by simp at hx, fun x hx => by simp at hx⟩⟩, pl := by decide, sec := fun a ha => .inl ⟨rfl, by
      have h1 : dc12.first + a < 60 := by
        have h2 : a < 5 := ha
        have h3 : dc12.first = 2 := rfl
        omega
      unfold Dev.get
      show (lastOf [] _).getD ((List.replicate 60 (List.replicate 96 0)).getD _ []) = List.replicate 96 0
      rw [List.getD_eq_getElem?_getD, List.getElem?_replicate, if_pos h1]
      rfl⟩ }
  · rcases hb with hb | hb
    · rw [List.mem_singleton.1 hb]
      exact ⟨Nat.le_trans hk.size hgl, fun hm => by have := hX _ hm; omega⟩
    · exact hD b hb
theorem openD_ok (h : DAt W X w gl g l m G) (hacts : m.acts ≤ 1000000000) (fr : Int) :
    Calls Try.prog 85 #[.pointer (some ⟨g, 0, none⟩), .agg #[.int .i64 60, .int .i64 96, .int .i64 3, .int .i64 2, .int .i64 5, .int .i64 2, .int .i64 8, .int .u64 0], .int .i64 fr] w fun e w' => Keep [] w w' ∧
      ((¬ (1 ≤ fr ∧ fr ≤ 1099511627776) ∧ e = .returned (.tuple #[.pointer none, .slice none 0 0, .int .i64 0, .int .i64 1])) ∨
       ∃ f : Nat, fr = (f : Int) ∧ 1 ≤ f ∧ f ≤ 1099511627776 ∧ ∃ gl' pv, e = .returned (.tuple #[.pointer (some ⟨gl', 0, none⟩), pv, .int .i64 (btm 0 (druns 5 G 5 f) : Int), .int .i64 0]) ∧ CRow w' w.heap.size pv (bch (druns 5 G 5 f))) := by
  obtain ⟨D, E, ⟨pv, r1⟩, -⟩ := h.mem
  refine (openD_any w D g m r1.dv h.n60 h.s96 hacts G (fun a ha => h.inv.dsec ha) fr).mono ?_
  rintro e w' ⟨hk, (⟨h1, rfl⟩ | ⟨f, h1, h2, h3, gl', pv', rfl, -, h5, -⟩)⟩
  · exact ⟨hk, .inl ⟨h1, rfl⟩⟩
  · exact ⟨hk, .inr ⟨f, h1, h2, h3, gl', pv', rfl, h5⟩⟩
end
end Go.Proofs.Ytjkjiabfhhnngaa

/-! The chapter's awake. -/
namespace Go.Proofs.Ytjkjiabfhhnngaa
open Go.RowKit Go.Shelf Sg
set_option linter.unusedSimpArgs false
set_option linter.unusedVariables false

theorem new12_acts : (Dev.new 60 96).acts = 0 := rfl
set_option maxRecDepth 100000 in
set_option maxRecDepth 100000 in
set_option maxHeartbeats 1000000 in
set_option maxHeartbeats 4000000 in
theorem awake12_any (w : World) : Calls Try.prog 84 #[] w fun e w' => e = .returned (.bool true) ∧ Keep [] w w' := by
  have cN : Calls Try.prog 13 #[.int .i64 60, .int .i64 96] w _ := newDev_any 60 96 (by decide) w
  have cP := fun w' => per_any 96 w' (by omega)
  have CP := Lib.hid cP
  clear cP
  go_enter Try.func84, Try.ntmps84
  go_wp2_with fail
  refine cN.mono ?_
  rintro e w1 ⟨g, D, rfl, hD, hk1, hf⟩
  clear cN
  go_wp2_with fail
  refine (small12_any w1).mono ?_
  rintro e w2 ⟨rfl, hk2⟩
  have hFF := formatD_ok (W := w) (X := []) (hk1.trans hk2) (hD.keep hk2 (by simp)) (fun b hb => ⟨hf b hb, by simp⟩) (by simp)
  clear hD hf hk1 hk2
  go_wp2_with fail
  refine hFF.mono ?_
  clear hFF
  rintro e w3 ⟨gl, rfl, h3, -⟩
  have hac := new12_acts
  generalize Dev.new 60 96 = m0 at *
  generalize (fun _ => (none : Option Bt)) = G0 at *
  have cL := leftD_ok h3
  rw [show ((5 - ((⟨1, 1, 0, []⟩ : Dl).nx - (⟨1, 1, 0, []⟩ : Dl).fr) : Nat) : Int) = 5 from rfl] at cL
  have H3 := Lib.hid h3
  clear h3
  go_wp2_with fail
  refine cL.mono ?_
  clear cL
  rintro e w4 ⟨rfl, k4⟩
  have H4 := Lib.hid (H3.out.keep k4)
  clear k4 H3
  go_wp2_with fail
  go_loopw [4, 14, 15, 16, 17, 18, 19, 20, 21] (fun i _ _ _ _ _ _ _ _ wr => ∃ (k : Nat) (m : Dev) (G : Nat → Option Bt), 1 ≤ k ∧ k ≤ 6 ∧ i = .int .i64 (k : Int) ∧ m.acts ≤ k ∧ Hid (DAt w [] wr gl g ⟨1, k, k - 1, []⟩ m G)) (fun i _ _ _ _ _ _ _ _ _ => 6 - (intOf i).toNat)
  case atStart => exact ⟨1, m0, G0, by omega, by omega, rfl, by omega, H4⟩
  case round =>
    obtain ⟨k, m, G, hk1, hk2, rfl, hka, HL⟩ := hrel
    rename World => wr
    by_cases h6 : k = 6
    case neg =>
      have hlt : (k : Int) < 6 := by omega
      have cF := flushD_ok HL.out (by omega) (by show k < 1099511628032; omega) k (by omega)
      have CF := Lib.hid cF
      clear cF
      go_wp2_with fail
      refine CF.out.mono ?_
      clear CF
      rintro e w5 ⟨-, (⟨-, h2, -⟩ | ⟨-, h2, -⟩ | ⟨-, -, rfl, m', h3, h4⟩)⟩
      · exfalso
        have h2' : k = k - 1 := h2
        omega
      · exfalso
        have h2' : 1 + 5 ≤ k := h2
        omega
      · have H5 := Lib.hid h4
        clear h4
        go_wp2
        go_roundw
        case rel => exact ⟨k + 1, m', _, by omega, by omega, by go_num, by omega, by rw [Nat.add_sub_cancel]; exact H5⟩
        case measure => simp [intOf]; omega
    case pos =>
      subst h6
      have cL := leftD_ok HL.out
      rw [show ((5 - ((⟨1, 6, 6 - 1, []⟩ : Dl).nx - (⟨1, 6, 6 - 1, []⟩ : Dl).fr) : Nat) : Int) = 0 from rfl] at cL
      have CL := Lib.hid cL
      clear cL
      go_wp2_with fail
      refine CL.out.mono ?_
      clear CL
      rintro e w5 ⟨rfl, k5⟩
      have H5 := Lib.hid (restartD_ok (HL.out.keep k5))
      clear k5
      go_wp2_with fail
      refine H5.out.mono ?_
      clear H5
      rintro e w6 ⟨rfl, h6, -⟩
      have H6 := Lib.hid h6
      clear h6
      go_wp2_with fail
      refine (CP.out _).mono ?_
      rintro e w7 ⟨rfl, rfl⟩
      have cL := leftD_ok H6.out
      rw [show ((5 - ((⟨6, 6, 6 - 1, []⟩ : Dl).nx - (⟨6, 6, 6 - 1, []⟩ : Dl).fr) : Nat) : Int) = 5 from rfl] at cL
      have CL := Lib.hid cL
      clear cL
      go_wp2_with fail
      refine CL.out.mono ?_
      rintro e w8 ⟨rfl, k8⟩
      have H8 := Lib.hid (nextD_ok (H6.out.keep k8))
      have HK := Lib.hid (H6.out.k.trans k8)
      clear k8
      go_wp2_with fail
      refine H8.out.mono ?_
      rintro e w9 ⟨rfl, rfl⟩
      go_wp2_with fail
      go_ret
      exact ⟨rfl, HK.out⟩
end Go.Proofs.Ytjkjiabfhhnngaa
