import Derived.Test.YtnpfjpdbfjeegaaCrcSum
/-! The walk of the law CrcTables. -/
namespace Go.Proofs.Ytnpfjpdbfjeegaa
open Go.RowKit Go.Shelf Sg

theorem u8_nat {a : Int} (h : (Lit.int .u8 a).wf = true) : ∃ n : Nat, a = n ∧ n < 256 := by
  have h1 : (IntKind.u8.min : Int) = 0 := rfl
  have h2 : (IntKind.u8.max : Int) = 255 := rfl
  simp only [Lit.wf, Bool.and_eq_true, decide_eq_true_eq, h1, h2] at h
  exact ⟨a.toNat, by omega, by omega⟩

set_option maxRecDepth 100000 in
set_option maxHeartbeats 400000 in
theorem crcTablesWalk (W : World) (a0 : Int) (w0 : (Lit.int .u8 a0).wf = true) (a1 : Int) (w1 : (Lit.int .u8 a1).wf = true) :
    Calls Try.prog 6 #[.int .u8 a0, .int .u8 a1] W fun e W' => e = .returned (.bool true) ∧ Below W.heap.size W W' := by
  obtain ⟨i, rfl, hi⟩ := u8_nat w0
  obtain ⟨j, rfl, hj⟩ := u8_nat w1
  clear w0 w1
  have hz : ∀ w, Sem.run Try.prog (zeroValue 24) w = .ok (.agg zeros256) w := fun _ => by kernel_rfl
  go_enter Try.func6, Try.ntmps6
  go_wp2_with fail
  refine (table_any _).mono ?_
  rintro e w1 ⟨rfl, hk1⟩
  go_wp2_with (refine wpList_store_row rfl 24 _ _ rfl w1.heap.size tabAll rfl rfl 24 zeros256 (heap_alloc_new _ _) (by kernel_rfl) (by kernel_rfl) (by kernel_rfl) ?_; obtain ⟨w2, hw2⟩ : ∃ w2, (w1.alloc (.cells zeros256 24)).setRow w1.heap.size tabAll = w2 := ⟨_, rfl⟩; rw [hw2])
  have hb2 : w2.heap[w1.heap.size]? = some (.cells tabAll 24 (0, 0)) := by rw [← hw2]; exact setRow_heap _ _ _ _ _ _ (heap_alloc_new _ _)
  have hk2 : Keep [] W w2 := by rw [← hw2]; exact (hk1.alloc _).setRow (.inr hk1.size) _
  clear hw2 hz
  have hx : i ^^^ j < 256 := Nat.xor_lt_two_pow (n := 8) hi hj
  have cell : ∀ k, k < 256 → w2.cell? ⟨w1.heap.size, k, none⟩ = some (.int .u32 (Crc.byte k : Int)) := by
    intro k hk
    rw [cell_of_row _ _ _ _ _ _ hb2, tabAll, tabTo_get _ _ hk]
    simp [hk]
  have c1 := cell i hi
  have c2 := cell j hj
  have c3 := cell (i ^^^ j) hx
  have e1 : bits BinOp.xor IntKind.u8 (i : Int) (j : Int) = ((i ^^^ j : Nat) : Int) := u8_xor_nat _ _ hi hj
  have l1 := Crc.byte_lt (n := i) (by omega)
  have l2 := Crc.byte_lt (n := j) (by omega)
  have e2 : bits BinOp.xor IntKind.u32 (Crc.byte i : Int) (Crc.byte j : Int) = ((Crc.byte (i ^^^ j) : Nat) : Int) := by rw [u32_xor_nat _ _ l1 l2, Crc.byte_xor]
  have hinj : Crc.byte i = Crc.byte j → i = j := Crc.byte_inj hi hj
  generalize Crc.byte (i ^^^ j) = t3 at c3 e2
  generalize i ^^^ j = k at c3 e1 hx
  have hi' : (i : Int) < 256 := by omega
  have hj' : (j : Int) < 256 := by omega
  have hx' : (k : Int) < 256 := by omega
  have e3 : (((Crc.byte i : Int) == (Crc.byte j : Int)) == ((i : Int) == (j : Int))) = true := by
    by_cases h : i = j
    · subst h; simp
    · have : ¬ Crc.byte i = Crc.byte j := fun h' => h (hinj h')
      have h1 : ((Crc.byte i : Int) == (Crc.byte j : Int)) = false := by simp; omega
      have h2 : ((i : Int) == (j : Int)) = false := by simp; omega
      rw [h1, h2]; rfl
  generalize Crc.byte i = t1 at c1 e2 e3
  generalize Crc.byte j = t2 at c2 e2 e3
  clear cell hinj hb2 l1 l2
  go_wp2_with fail
  refine wp_region_still_tail 27 (by kernel_rfl) (by kernel_rfl) ?_
  simp only [List.take_succ_cons, List.take_zero, List.drop_succ_cons, List.drop_zero]
  repeat still_step
  refine wpStill_nil ?_
  have hk3 : Keep [] W w2.drew := hk2.drew
  change wpList _ _ _ _ _ w2.drew
  generalize w2.drew = w3 at hk3 ⊢
  clear c1 c2 c3 e1 e2 hk2
  go_wp2_with fail
  refine (awake_any _).mono ?_
  rintro e w4 ⟨rfl, hk4⟩
  go_wp2_with fail
  go_ret
  exact ⟨rfl, (hk3.trans hk4).below (Nat.le_refl _) (by simp)⟩
end Go.Proofs.Ytnpfjpdbfjeegaa
