import Derived.Test.YtjkjiabfhhnngaaFlashB
import Derived.Test.YtjkjiabfhhnngaaParK
import Derived.Shelf.SlMaps.Clone
import Derived.Maps.RangeWalk
import Derived.Laws.Externs
import Derived.Lib.SliceRun
/-! The clones that a copy of a device is made of. -/
namespace Sg
open Go Go.RowKit
section
variable {P : Program} {t ts ty : TypeId} {w : World} {v z : Value} {k bytes n base : Nat} {xs : List Value}
/-- append(S{}, s...) -/
theorem run_clone_row (hts : P.underlying ts = some (.slice t)) (hi : (P.info? t).map (fun i => (i.zero, i.size, i.bytes)) = some (some z, k, bytes)) (hz : z.cells.size = k) (hk : 0 < k) (hby : bytes ≤ 400)
    (h : w.ownsRow base t k v n xs) (h1 : ∀ u ∈ xs, u.oneCell' = true) (hn : n ≤ 1000000) :
    ∃ v' w', (Builtin.append_ #[ts, ts] ty #[.slice (some ⟨w.heap.size, 0, none⟩) 0 0, v]).run P (w.alloc (.cells #[] t)) = .ok v' w' ∧ w'.ownsRow w.heap.size t k v' n xs ∧ Keep [] w w' := by
  obtain ⟨i, hi1, hz1, hs1, hb1⟩ := info_parts hi
  have kA := (Keep.refl [] w).alloc (.cells #[] t)
  have lit : (w.alloc (.cells #[] t)).ownsRow w.heap.size t k (.slice (some ⟨w.heap.size, 0, none⟩) 0 0) 0 [] := by
    refine ⟨by simp, .inr ⟨w.heap.size, 0, #[], rfl, Nat.le_refl _, World.alloc_heap_new _ _, ?_, ?_, ?_, ?_⟩⟩
    all_goals simp [maxLen]
  have hs : (w.alloc (.cells #[] t)).ownsRow base t k v n xs := by
    refine ⟨h.1, ?_⟩
    rcases h.2 with hn | ⟨g, cap, cur, rfl, hb, hg, rest⟩
    · exact .inl hn
    · exact .inr ⟨g, cap, cur, rfl, hb, kA.blk (by simp) hg, rest⟩
  rcases hs.2 with ⟨rfl, h0⟩ | ⟨g, cap, cur, rfl, -, -, -⟩
  · have hx : xs = [] := by
      have := hs.1
      rw [h0] at this
      simpa using this
    subst hx h0
    refine ⟨_, _, ?_, lit, kA⟩
    simp [Builtin.append_, run_underlying hts, Go.sizeOf, typeInfo, hi1, Builtin.lenOf, Builtin.firstCells, storeCells]
  · obtain ⟨v', w', hrun, hown', hgr, -, -⟩ := run_append_own_at (P := P) (w := w.alloc (.cells #[] t)) w.heap.size ts ty t i z k bytes hts hi1 hz1 hs1 hb1 hz hk (.slice (some ⟨w.heap.size, 0, none⟩) 0 0) 0 [] lit ⟨g, 0, none⟩ n cap xs hs.1
      (fun j u hu => World.ownsRow.cells (g := g) hs rfl j u hu) h1 (by simp [maxLen]; omega) (by have : (0 + n) * bytes ≤ 1000000 * 400 := Nat.mul_le_mul (by omega) hby; omega) kA.size
    refine ⟨v', w', hrun, by simpa using hown', kA.trans' (Keep.grown hgr) (fun b hb => .inr ?_)⟩
    simp [Value.ownBlock] at hb
    omega
end
end Sg

namespace Go.Proofs.Ytjkjiabfhhnngaa
open Go.RowKit Sg
set_option linter.unusedSimpArgs false
set_option linter.unusedVariables false

theorem w4_infoF : (Try.prog.info? 177).map (fun i => (i.zero, i.size, i.bytes)) = some (some (.agg #[.int .i64 0, .slice none 0 0]), 2, 32) := by kernel_rfl
theorem b4_infoF : (Try.prog.info? 42).map (fun i => (i.zero, i.size, i.bytes)) = some (some (.slice none 0 0), 1, 24) := by kernel_rfl
set_option maxRecDepth 100000 in
set_option maxHeartbeats 1000000 in
theorem mapsClone_any (b : Nat) (es : Array MapEntry) (clock : Nat) (w : World) (hb : w.heap[b]? = some (.map es clock)) :
    Calls Try.prog 96 #[.map (some b)] w fun e w' => e = .returned (.map (some w.heap.size)) ∧ w.alloc (.map es clock) = w' := by
  have hq := fun w => run_eql_map_nil_sl (P := Try.prog) w 169 _ _ (some b) Try.underlying169
  go_enter Try.func96, Try.ntmps96
  go_wp2
  rw [run_callFunc_extern (show Try.prog.funcs[130]? = some Try.f130 by kernel_rfl) (by kernel_rfl) (by kernel_rfl) (by kernel_rfl) (e := Extern.MapsClone.clone) (by kernel_rfl), run_maps_clone_sl w 169 hb]
  simp only [Result.andThen]
  rw [Oper.upon_value]
  go_wp2
  rw [run_typeAssert_map_sl _ 169 20 _ _ _ Try.underlying169]
  simp only [Result.andThen]
  rw [Oper.upon_value]
  go_wp2
  go_ret
  exact ⟨rfl, rfl⟩
set_option maxRecDepth 100000 in
set_option maxHeartbeats 1000000 in
theorem cloneW_any (w : World) (v : Value) (n base : Nat) (xs : List Value) (h : w.ownsRow base 177 2 v n xs) (h1 : ∀ u ∈ xs, u.oneCell' = true) (hn : n ≤ 1000000) :
    Calls Try.prog 97 #[v] w fun e w' => ∃ v', e = .returned v' ∧ w'.ownsRow w.heap.size 177 2 v' n xs ∧ Keep [] w w' := by
  have hq := fun w a n c => Lib.run_eql_slice_nil (P := Try.prog) w 171 _ a n c 0 0 Try.underlying171
  obtain ⟨v', w', hrun, ho, hk⟩ := run_clone_row (P := Try.prog) (ty := 171) Try.underlying171 w4_infoF rfl (by decide) (by decide) h h1 hn
  have hl := h.1
  rcases h.2 with ⟨rfl, h0⟩ | ⟨g, cap, cur, rfl, -, -, -⟩
  · clear hrun ho hk h1
    rw [h0] at hl
    obtain rfl : xs = [] := List.eq_nil_of_length_eq_zero (by simpa using hl)
    subst h0
    clear h hl
    go_enter Try.func97, Try.ntmps97
    go_wp2
    go_ret
    exact ⟨_, rfl, World.ownsRow_nil _ _ _ _, Keep.refl _ _⟩
  · have HR := Lib.hid hrun
    have HO := Lib.hid (And.intro ho hk)
    clear hrun ho hk h h1 hl
    go_enter Try.func97, Try.ntmps97
    go_wp2_with (at_builtin; refine wpList_append_run rfl (.tmp 5) (.tmp 6) 171 rfl (w' := w') rfl rfl HR.out ?_)
    go_ret
    exact ⟨v', rfl, HO.out⟩
set_option maxRecDepth 100000 in
set_option maxHeartbeats 1000000 in
theorem cloneP_any (w : World) (v : Value) (n base : Nat) (xs : List Value) (h : w.ownsRow base 42 1 v n xs) (h1 : ∀ u ∈ xs, u.oneCell' = true) (hn : n ≤ 1000000) :
    Calls Try.prog 98 #[v] w fun e w' => ∃ v', e = .returned v' ∧ w'.ownsRow w.heap.size 42 1 v' n xs ∧ Keep [] w w' := by
  have hq := fun w a n c => Lib.run_eql_slice_nil (P := Try.prog) w 56 _ a n c 0 0 Try.underlying56
  obtain ⟨v', w', hrun, ho, hk⟩ := run_clone_row (P := Try.prog) (ty := 56) Try.underlying56 b4_infoF rfl (by decide) (by decide) h h1 hn
  have hl := h.1
  rcases h.2 with ⟨rfl, h0⟩ | ⟨g, cap, cur, rfl, -, -, -⟩
  · clear hrun ho hk h1
    rw [h0] at hl
    obtain rfl : xs = [] := List.eq_nil_of_length_eq_zero (by simpa using hl)
    subst h0
    clear h hl
    go_enter Try.func98, Try.ntmps98
    go_wp2
    go_ret
    exact ⟨_, rfl, World.ownsRow_nil _ _ _ _, Keep.refl _ _⟩
  · have HR := Lib.hid hrun
    have HO := Lib.hid (And.intro ho hk)
    clear hrun ho hk h h1 hl
    go_enter Try.func98, Try.ntmps98
    go_wp2_with (at_builtin; refine wpList_append_run rfl (.tmp 5) (.tmp 6) 56 rfl (w' := w') rfl rfl HR.out ?_)
    go_ret
    exact ⟨v', rfl, HO.out⟩
end Go.Proofs.Ytjkjiabfhhnngaa
