import Derived.Test.YtijljdcpajjhhaaFlash9
import Derived.Test.YtijljdcpajjhhaaGen
import Derived.Laws.IdiomStrings
/-! The chapter's own words on flash: full, awake. -/
namespace Go.Proofs.Ytijljdcpajjhhaa
open Go.RowKit Sg
set_option linter.unusedSimpArgs false
set_option linter.unusedVariables false

theorem replicate_set {n k : Nat} {c : UInt8} (hk : k < n) : (List.replicate k c ++ List.replicate (n - k) (0 : UInt8)).set k c = List.replicate (k + 1) c ++ List.replicate (n - (k + 1)) 0 := by
  rw [List.set_append_right _ _ (by simp), List.length_replicate, Nat.sub_self, show n - k = (n - (k + 1)) + 1 by omega, List.replicate_succ, List.set_cons_zero, List.replicate_succ', List.append_assoc]
  rfl

/-- a call upon a device that this call has made -/
theorem dev_step {w w1 w2 : World} {D D' : List Nat} (hk : Keep [] w w1) (hf : ∀ b ∈ D, w.heap.size ≤ b) (hg : Grew w1 D D') (kd : Keep D w1 w2) : Keep [] w w2 ∧ ∀ b ∈ D', w.heap.size ≤ b :=
  ⟨hk.trans' kd (fun b hb => .inr (hf b hb)), fun b hb => (hg.2 b hb).elim (hf b) (fun h => Nat.le_trans hk.size h)⟩

def aw0 : Dev := Dev.new 2 96
def aw1 : Dev := (aw0.put 0 (List.replicate 96 1)).1
def aw2 : Dev := (aw1.put 0 (List.replicate 96 2)).1
def aw3 : Dev := aw2.crash [96, 5]
theorem aw_1 : (aw0.put 0 (List.replicate 96 1)).2 = 0 := by kernel_rfl
theorem aw_2 : (aw1.put 0 (List.replicate 96 2)).2 = 0 := by kernel_rfl
theorem aw_3 : aw3.read 0 = (List.replicate 5 2 ++ List.replicate 91 1, 0) := by kernel_rfl
theorem aw_4 : aw3.acts = 2 := by kernel_rfl
theorem aw_a0 : aw0.acts ≤ 1000000000 := by decide
theorem aw_a1 : aw1.acts ≤ 1000000000 := by decide
theorem aw_a2 : aw2.acts ≤ 1000000000 := by decide
theorem aw_a3 : aw3.acts ≤ 1000000000 := by rw [aw_4]; decide

theorem ints_two (w : World) (a b : Int) (ha : -9223372036854775808 ≤ a ∧ a ≤ 9223372036854775807) (hb : -9223372036854775808 ≤ b ∧ b ≤ 9223372036854775807) : Ints (w.alloc (.cells #[.int .i64 a, .int .i64 b] 3)) (.slice (some ⟨w.heap.size, 0, none⟩) 2 2) [a, b] := by
  refine ⟨some ⟨w.heap.size, 0, none⟩, 2, rfl, by simp, ⟨by decide, by simp⟩, by simp, by simp [ha, hb], ?_⟩
  intro ad e i hi
  cases e
  rw [Addr.add_lit, Nat.zero_add, cell_of_row _ _ _ _ _ _ (heap_alloc_new _ _)]
  match i, hi with
  | 0, _ => rfl
  | 1, _ => rfl

end Go.Proofs.Ytijljdcpajjhhaa
