import Derived.Test.YtjkjiabfhhnngaaProg
import Derived.Test.YtjkjiabfhhnngaaOwn
import Derived.Test.YtjkjiabfhhnngaaNum
import Derived.Lib.Hide
import Derived.Deep.CutRange
/-! The walks of wire's writer, and of bytes.Clone. -/
namespace Go.Proofs.Ytjkjiabfhhnngaa
open Go.RowKit Sg

/-- a number's bytes, the least first -/
def le (n : Nat) : Nat → List UInt8
  | 0 => []
  | k + 1 => le n k ++ [UInt8.ofNat (n / 256 ^ k % 256)]
theorem le_len (n : Nat) : ∀ k, (le n k).length = k
  | 0 => rfl
  | k + 1 => by simp [le, le_len n k]

set_option maxRecDepth 100000 in
set_option maxHeartbeats 1000000 in
theorem clone_any (v : Value) (l : List UInt8) (w : World) (hv : Bytes w v l) : Calls Try.prog 88 #[v] w fun e w' => ∃ v', e = .returned v' ∧ OwnB w' w.heap.size 5 v' l ∧ Keep [] w w' := by
  obtain ⟨ao, cap, rfl, hlc, hm, hcap⟩ := hv.form
  cases ao with
  | none =>
    have hl : l = [] := by
      obtain ⟨_, _, e, _, _, h3, _⟩ := hv
      cases e
      exact h3 rfl
    subst hl
    have hq : ∀ w, Sem.run Try.prog (binOp BinOp.eql 42 (.slice none 0 cap) (.slice none 0 0)) w = .ok (.bool true) w := fun _ => by kernel_rfl
    simp only [List.length_nil]
    go_enter Try.func88, Try.ntmps88
    go_wp2
    go_ret
    exact ⟨_, rfl, OwnB.nil _ _ _, Keep.refl _ _⟩
  | some ad =>
    have hq : ∀ w, Sem.run Try.prog (binOp BinOp.eql 42 (.slice (some ad) l.length cap) (.slice none 0 0)) w = .ok (.bool false) w := fun _ => by kernel_rfl
    have ho := OwnB.empty w w.heap.size 5 (Nat.le_refl _)
    have hC1 := (Keep.refl [] w).alloc (.cells #[] 5)
    go_enter Try.func88, Try.ntmps88
    go_wp2_with (refine wpList_append_bytes rfl (.tmp 5) (.tmp 6) 42 5 rfl w.heap.size Try.underlying42 (by kernel_rfl) (v := .slice (some ⟨w.heap.size, 0, none⟩) 0 0) (src := .slice (some ad) l.length cap) rfl rfl ho (hv.keep hC1 (by simp)) (by simp; omega) hC1.size ?_)
    intro v4 w4 ho4 hk4
    have hC4 : Keep [] w w4 := hC1.trans' hk4 (by intro k hk; simp [Value.ownBlock] at hk; subst hk; exact .inr (Nat.le_refl _))
    go_wp2
    go_ret
    exact ⟨_, rfl, ho4, hC4⟩

set_option maxRecDepth 100000 in
set_option maxHeartbeats 1000000 in
theorem number_any (n k : Nat) (hn : n < 18446744073709551616) (hk : k ≤ 8) (w : World) : Calls Try.prog 158 #[.int .u64 n, .int .i64 k] w fun e w' => ∃ v', e = .returned v' ∧ OwnB w' w.heap.size 5 v' (le n k) ∧ Keep [] w w' := by
  go_enter Try.func158, Try.ntmps158
  go_wp2_with (refine wpList_make_bytes rfl (.tmp 7) (.tmp 7) 42 5 rfl w.heap.size Try.underlying42 (by kernel_rfl) .i64 .i64 (n := k) rfl rfl (by omega) (Nat.le_refl _) ?_)
  intro w2 ho2 hk2 _
  go_wp2
  go_loopw [0, 11] (fun x i wr => ∃ j m : Nat, j ≤ k ∧ m < 18446744073709551616 ∧ x = .int .u64 m ∧ i = .int .i64 j ∧ Hid (m = n / 256 ^ j) ∧ Hid (OwnB wr w.heap.size 5 (.slice (some ⟨w.heap.size, 0, none⟩) k k) (le n j ++ List.replicate (k - j) 0)) ∧ Keep [] w wr) (fun _ i _ => k - (intOf i).toNat)
  case atStart => exact ⟨0, n, by omega, hn, rfl, rfl, by simp [Hid], ho2, hk2⟩
  case round =>
    obtain ⟨j, m, hj, hm, rfl, rfl, hmm, hO, hkeep⟩ := hrel
    by_cases hlt : j < k
    · have hlen : j < (le n j ++ List.replicate (k - j) (0 : UInt8)).length := by simp [le_len]; omega
      have hcell := hO.out.cell hlen
      have hfree := hO.out.free j
      obtain ⟨m', hm'⟩ : ∃ m', m / 256 = m' := ⟨_, rfl⟩
      have hsucc : Hid (m' = n / 256 ^ (j + 1)) := by show _ = _; rw [← hm', hmm.out, Nat.pow_succ, Nat.div_div_eq_div_mul]
      obtain ⟨x, hx⟩ : ∃ x : UInt8, x = UInt8.ofNat (m % 256) := ⟨_, rfl⟩
      have hx2 : ((x.toNat : Nat) : Int) = (m : Int) % 256 := by rw [hx, UInt8.toNat_ofNat']; omega
      have hconv : IntKind.u8.wrap (m : Int) = (x.toNat : Int) := by rw [u8_wrap, hx2]
      have HX := Lib.hid hx
      clear hx hx2
      have hset : Hid ((le n j ++ List.replicate (k - j) (0 : UInt8)).set j x = le n (j + 1) ++ List.replicate (k - (j + 1)) 0) := by
        show _ = _
        rw [List.set_append_right _ _ (by rw [le_len]; omega), le_len, Nat.sub_self, show k - j = (k - (j + 1)) + 1 by omega, List.replicate_succ, List.set_cons_zero, le, List.append_assoc, HX.out, hmm.out]
        rfl
      have hlt' : (j : Int) < (k : Int) := by omega
      go_wp2
      go_roundw
      case rel =>
        refine ⟨j + 1, m', by omega, by omega, by rw [← hm']; rfl, by go_num, hsucc, ?_, hkeep.setCell (.inr (Nat.le_refl _)) _⟩
        rw [← hset.out]
        exact hO.out.setCell hlen x
      case measure => simp [intOf]; omega
    · obtain rfl : j = k := by omega
      go_wp2
      go_ret
      refine ⟨_, rfl, ?_, hkeep⟩
      simpa using hO.out

theorem may_ok (k : Nat) (hk : k = 1 ∨ k = 2 ∨ k = 4 ∨ k = 8) (w : World) : Calls Try.prog 157 #[.int .i64 k] w fun e w' => e = .returned (.bool true) ∧ w = w' := by
  rcases hk with rfl | rfl | rfl | rfl
  all_goals
    go_enter Try.func157, Try.ntmps157
    go_wp2
    go_ret
    exact ⟨rfl, rfl⟩

/-- a writer at block g, since the world W -/
def WS (W w : World) (g lim : Nat) (xs : List UInt8) : Prop :=
  Keep [] W w ∧ W.heap.size ≤ g ∧ ∃ v, w.heap[g]? = some (.cells #[v, .int .i64 lim, .bool false] 266 (0, 0)) ∧ OwnB w W.heap.size 5 v xs ∧ xs.length ≤ lim ∧ lim ≤ 1000000
theorem WS.keep {W w w' : World} {g lim : Nat} {xs : List UInt8} (h : WS W w g lim xs) (k : Keep [] w w') : WS W w' g lim xs := by
  obtain ⟨h1, h2, v, h3, h4, h5, h6⟩ := h
  exact ⟨h1.trans k, h2, v, k.blk (by simp) h3, h4.keep k (by simp), h5, h6⟩

set_option maxRecDepth 100000 in
set_option maxHeartbeats 1000000 in
theorem newWriter_any (lim : Nat) (hl : lim ≤ 1000000) (w : World) : Calls Try.prog 134 #[.int .i64 lim] w fun e w' => ∃ g, e = .returned (.pointer (some ⟨g, 0, none⟩)) ∧ WS w w' g lim [] := by
  go_enter Try.func134, Try.ntmps134
  go_wp2
  go_ret
  exact ⟨_, rfl, (Keep.refl [] w).alloc _, Nat.le_refl _, _, heap_alloc_new _ _, OwnB.nil _ _ _, by simp, hl⟩

set_option maxRecDepth 100000 in
set_option maxHeartbeats 1000000 in
theorem raw_any (W : World) (g lim : Nat) (xs : List UInt8) (v : Value) (l : List UInt8) (w : World) (hw : WS W w g lim xs) (hv : Bytes w v l) (hfit : xs.length + l.length ≤ lim) :
    Calls Try.prog 136 #[.pointer (some ⟨g, 0, none⟩), v] w fun e w' => e = .returned (.tuple #[]) ∧ WS W w' g lim (xs ++ l) := by
  obtain ⟨hK, hg, b, hb, ho, hxl, hlim⟩ := hw
  obtain ⟨ao, cap, rfl, hlc, hm, hcap⟩ := hv.form
  obtain ⟨bcap, bo, rfl⟩ : ∃ bcap bo, b = .slice bo xs.length bcap := by
    rcases ho.2 with ⟨rfl, h0⟩ | ⟨g', c, cur, rfl, -⟩
    · exact ⟨0, none, by rw [h0]⟩
    · exact ⟨_, _, rfl⟩
  have hne := ho.ne_row hb (by decide)
  have hsne := fun h => hv.ne_row h hb (by
    intro i x hx n e
    subst e
    match i, hx with
    | 0, h => simp at h
    | 1, h => simp at h
    | 2, h => simp at h
    | i + 3, h => simp at h)
  have c0 := cell_of_row w _ 0 _ _ _ hb
  have c1 := cell_of_row w _ 1 _ _ _ hb
  have c2 := cell_of_row w _ 2 _ _ _ hb
  simp at c0 c1 c2
  have e0 : IntKind.i64.wrap ((lim : Int) - (xs.length : Int)) = (lim : Int) - (xs.length : Int) := i64_wrap (by omega) (by omega)
  have e1 : decide ((lim : Int) - (xs.length : Int) < (l.length : Int)) = false := decide_eq_false (by omega)
  go_enter Try.func136, Try.ntmps136
  go_wp2_with fail
  refine wp_region_still_tail 22 (by kernel_rfl) (by kernel_rfl) ?_
  simp only [List.take_succ_cons, List.take_zero, List.drop_succ_cons, List.drop_zero]
  repeat still_step
  refine wpStill_nil ?_
  have hk1 : Keep [] w w.drew := (Keep.refl [] w).drew
  change wpList _ _ _ _ _ w.drew
  generalize w.drew = w1 at hk1 ⊢
  have hb1 := hk1.blk (by simp) hb
  have f0 := frozen_of_row w1 _ 0 _ _ hb1
  have f2 := frozen_of_row w1 _ 2 _ _ hb1
  have c0 := cell_of_row w1 _ 0 _ _ _ hb1
  have c2 := cell_of_row w1 _ 2 _ _ _ hb1
  simp at c0 c2
  have ho2 : OwnB (w1.setCell ⟨g, 2, none⟩ (.bool false)) W.heap.size 5 (.slice bo xs.length bcap) xs := ownsRow_setCell_other (ho.keep hk1 (by simp)) hne _
  have hv2 : Bytes (w1.setCell ⟨g, 2, none⟩ (.bool false)) (.slice ao l.length cap) l := (hv.keep hk1 (by simp)).setCell hsne _
  have hK2 : Keep [] W (w1.setCell ⟨g, 2, none⟩ (.bool false)) := (hK.trans hk1).setCell (.inr hg) _
  have hb2 := heap_setCell_same w1 g 2 _ _ (.bool false) hb1
  clear hb hb1 hne hsne hv ho
  go_wp2_with (refine wpList_append_bytes rfl (.tmp 37) (.tmp 38) 42 5 rfl W.heap.size Try.underlying42 (by kernel_rfl) (v := .slice bo xs.length bcap) (src := .slice ao l.length cap) rfl rfl ho2 hv2 (by omega) hK2.size ?_)
  intro v4 w4 ho4 hk4
  have hne := ho2.ne_row hb2 (by decide)
  have hb4 := hk4.blk (fun h => hne (by simpa using h)) hb2
  have hK4 : Keep [] W w4 := hK2.trans' hk4 (by
    intro k hk
    rcases ho2.2 with ⟨h, -⟩ | ⟨g', c, cur, h, hg', -⟩
    · rw [h] at hk; simp [Value.ownBlock] at hk
    · rw [h] at hk; simp [Value.ownBlock] at hk; subst hk; exact .inr hg')
  have f0 := frozen_of_row w4 _ 0 _ _ hb4
  have c0 := cell_of_row w4 _ 0 _ _ _ hb4
  simp at c0
  have hne4 := ho4.ne_row hb4 (by decide)
  obtain ⟨bcap4, n4, bo4, rfl⟩ : ∃ bcap n bo, v4 = .slice bo n bcap := by
    rcases ho4.2 with ⟨rfl, h0⟩ | ⟨g', c, cur, rfl, -⟩
    · exact ⟨0, 0, none, rfl⟩
    · exact ⟨_, _, _, rfl⟩
  have hb5 := heap_setCell_same w4 g 0 _ _ (.slice bo4 n4 bcap4) hb4
  have HB5 := Lib.hid hb5
  clear hne hb2 hb4 hb5 ho2 hv2 hK2
  go_wp2
  go_end0
  exact ⟨rfl, hK4.setCell (.inr hg) _, hg, _, HB5.out, ownsRow_setCell_other ho4 hne4 _, by simp; omega, hlim⟩

set_option maxRecDepth 100000 in
set_option maxHeartbeats 1000000 in
theorem putNumber_any (W : World) (g lim : Nat) (xs : List UInt8) (n k : Nat) (hn : n < 18446744073709551616) (hk : k = 1 ∨ k = 2 ∨ k = 4 ∨ k = 8) (w : World) (hw : WS W w g lim xs) (hfit : xs.length + k ≤ lim) :
    Calls Try.prog 135 #[.pointer (some ⟨g, 0, none⟩), .int .u64 n, .int .i64 k] w fun e w' => e = .returned (.tuple #[]) ∧ WS W w' g lim (xs ++ le n k) := by
  go_enter Try.func135, Try.ntmps135
  go_wp2_with fail
  refine (may_ok k hk _).mono ?_
  rintro e w1 ⟨rfl, rfl⟩
  go_wp2_with fail
  refine (number_any n k hn (by omega) _).mono ?_
  rintro e w2 ⟨v, rfl, ho, hk2⟩
  go_wp2_with fail
  refine (raw_any W g lim xs v (le n k) w2 (hw.keep hk2) (ho.bytes (by rw [le_len]; omega)) (by rw [le_len]; exact hfit)).mono ?_
  rintro e w3 ⟨rfl, hw3⟩
  go_wp2_with fail
  go_end0
  exact ⟨rfl, hw3⟩

set_option maxRecDepth 100000 in
set_option maxHeartbeats 1000000 in
theorem wbytes_any (W : World) (g lim : Nat) (xs : List UInt8) (w : World) (hw : WS W w g lim xs) :
    Calls Try.prog 138 #[.pointer (some ⟨g, 0, none⟩)] w fun e w' => ∃ v', e = .returned v' ∧ OwnB w' w.heap.size 5 v' xs ∧ Keep [] W w' ∧ Keep [] w w' := by
  obtain ⟨hK, hg, b, hb, ho, hxl, hlim⟩ := hw
  obtain ⟨bcap, bo, rfl⟩ : ∃ bcap bo, b = .slice bo xs.length bcap := by
    rcases ho.2 with ⟨rfl, h0⟩ | ⟨g', c, cur, rfl, -⟩
    · exact ⟨0, none, by rw [h0]⟩
    · exact ⟨_, _, rfl⟩
  have c0 := cell_of_row w _ 0 _ _ _ hb
  simp at c0
  go_enter Try.func138, Try.ntmps138
  go_wp2_with fail
  refine (clone_any _ xs w (ho.bytes (by omega))).mono ?_
  rintro e w2 ⟨v, rfl, ho2, hk2⟩
  go_wp2_with fail
  go_ret
  exact ⟨v, rfl, ho2, hK.trans hk2, hk2⟩
end Go.Proofs.Ytjkjiabfhhnngaa
