import Derived.Test.YtcmkcegnfddccaaProg
import Derived.Test.YtcmkcegnfddccaaBase
import Derived.Test.YtcmkcegnfddccaaNum
import Derived.Lib.Hide
import Derived.Test.YtcmkcegnfddccaaLeafRoom
/-! Plans and their bounds. -/
namespace Go.Proofs.Ytcmkcegnfddccaa
open Go.RowKit Sg

structure Pl where
  (sec size reg rs lg dep mem : Int)
  seed : Nat

def Pl.v (p : Pl) : Value := .agg #[.int .i64 p.sec, .int .i64 p.size, .int .i64 p.reg, .int .i64 p.rs, .int .i64 p.lg, .int .i64 p.dep, .int .i64 p.mem, .int .u64 (p.seed : Int)]
def Pl.In (p : Pl) : Prop := (-9223372036854775808 ≤ p.sec ∧ p.sec ≤ 9223372036854775807) ∧ (-9223372036854775808 ≤ p.size ∧ p.size ≤ 9223372036854775807) ∧ (-9223372036854775808 ≤ p.reg ∧ p.reg ≤ 9223372036854775807) ∧ (-9223372036854775808 ≤ p.rs ∧ p.rs ≤ 9223372036854775807) ∧ (-9223372036854775808 ≤ p.lg ∧ p.lg ≤ 9223372036854775807) ∧ (-9223372036854775808 ≤ p.dep ∧ p.dep ≤ 9223372036854775807) ∧ (-9223372036854775808 ≤ p.mem ∧ p.mem ≤ 9223372036854775807) ∧ p.seed < 18446744073709551616
def Pl.Within (p : Pl) : Prop := (96 ≤ p.size ∧ p.size ≤ 512) ∧ (1 ≤ p.sec ∧ p.sec ≤ 16384) ∧ (3 ≤ p.reg ∧ p.reg ≤ 64) ∧ (1 ≤ p.rs ∧ p.rs ≤ 32) ∧ (4 ≤ p.lg ∧ p.lg ≤ 256) ∧ (0 ≤ p.dep ∧ p.dep ≤ 8) ∧ (8 ≤ p.mem ∧ p.mem ≤ 256)
instance (p : Pl) : Decidable p.Within := by unfold Pl.Within; infer_instance

def Pl.bounds (p : Pl) : Array Value := #[.int .i64 p.size, .int .i64 96, .int .i64 512, .int .i64 p.sec, .int .i64 1, .int .i64 16384, .int .i64 p.reg, .int .i64 3, .int .i64 64, .int .i64 p.rs, .int .i64 1, .int .i64 32, .int .i64 p.lg, .int .i64 4, .int .i64 256, .int .i64 p.dep, .int .i64 0, .int .i64 8, .int .i64 p.mem, .int .i64 8, .int .i64 256]

set_option maxRecDepth 100000 in
set_option maxHeartbeats 400000 in
theorem bounds_any (p : Pl) (w : World) : Calls Try.prog 133 #[p.v] w fun e w' => e = .returned (.agg p.bounds) ∧ Keep [] w w' := by
  obtain ⟨sec, size, reg, rs, lg, dep, mem, seed⟩ := p
  obtain ⟨B, hB⟩ : ∃ B, Pl.bounds ⟨sec, size, reg, rs, lg, dep, mem, seed⟩ = B := ⟨_, rfl⟩
  rw [hB]
  simp only [Pl.v]
  obtain ⟨Z, hZ⟩ : ∃ Z : Array Value, Z = #[.int .i64 0, .int .i64 0, .int .i64 0, .int .i64 0, .int .i64 0, .int .i64 0, .int .i64 0, .int .i64 0, .int .i64 0, .int .i64 0, .int .i64 0, .int .i64 0, .int .i64 0, .int .i64 0, .int .i64 0, .int .i64 0, .int .i64 0, .int .i64 0, .int .i64 0, .int .i64 0, .int .i64 0] := ⟨_, rfl⟩
  have hz : ∀ w, Sem.run Try.prog (zeroValue 218) w = .ok (.agg Z) w := fun _ => by rw [hZ]; kernel_rfl
  have hzs : Z.size = 21 := by rw [hZ]; rfl
  have hbs : B.size = 21 := by rw [← hB]; rfl
  have hba : B.all (·.oneCell') = true := by rw [← hB]; kernel_rfl
  have HZ := Lib.hid hZ
  clear hZ
  go_enter Try.func133, Try.ntmps133
  go_wp2_with (first | (refine wpList_build_to rfl 218 _ rfl B (by rw [← hB]; kernel_rfl) ?_) | (refine wpList_store_row rfl 218 _ _ rfl (w.heap.size + 1) B rfl rfl 218 Z (heap_alloc2_new _ _ _) (by rw [hbs]; kernel_rfl) (by rw [hzs, hbs]) hba ?_))
  exact bodyPost_ret (results_cell_row rfl _ _ (w.heap.size + 1) 218 B _ _ rfl (setRow_heap _ _ _ _ _ _ (heap_alloc2_new _ _ _)) Try.underlying218 rfl (by rw [hbs]; kernel_rfl)) rfl ⟨rfl, (((Keep.refl [] w).alloc _).alloc _).setRow (.inr (by omega)) _⟩

def Pl.row (p : Pl) (k : Nat) : Int × Int × Int := [(p.size, (96 : Int), (512 : Int)), (p.sec, 1, 16384), (p.reg, 3, 64), (p.rs, 1, 32), (p.lg, 4, 256), (p.dep, 0, 8), (p.mem, 8, 256)].getD k (0, 0, 0)
theorem row_index (p : Pl) (k : Nat) (hk : k < 7) : ∀ w, Sem.run Try.prog (Instr.index 218 (.agg p.bounds) (.int .i64 (k : Int))) w = .ok (.agg #[.int .i64 (p.row k).1, .int .i64 (p.row k).2.1, .int .i64 (p.row k).2.2]) w := by
  rcases (by omega : k = 0 ∨ k = 1 ∨ k = 2 ∨ k = 3 ∨ k = 4 ∨ k = 5 ∨ k = 6) with rfl | rfl | rfl | rfl | rfl | rfl | rfl <;> intro w <;> kernel_rfl
theorem within_iff (p : Pl) : p.Within ↔ ∀ j, j < 7 → (p.row j).2.1 ≤ (p.row j).1 ∧ (p.row j).1 ≤ (p.row j).2.2 := by
  constructor
  · intro h j hj
    obtain ⟨h0, h1, h2, h3, h4, h5, h6⟩ := h
    rcases (by omega : j = 0 ∨ j = 1 ∨ j = 2 ∨ j = 3 ∨ j = 4 ∨ j = 5 ∨ j = 6) with rfl | rfl | rfl | rfl | rfl | rfl | rfl
    · exact h0
    · exact h1
    · exact h2
    · exact h3
    · exact h4
    · exact h5
    · exact h6
  · intro h
    exact ⟨h 0 (by omega), h 1 (by omega), h 2 (by omega), h 3 (by omega), h 4 (by omega), h 5 (by omega), h 6 (by omega)⟩

set_option maxRecDepth 100000 in
set_option maxHeartbeats 1000000 in
theorem within_any (p : Pl) (w : World) : Calls Try.prog 128 #[p.v] w fun e w' => e = .returned (.bool (decide p.Within)) ∧ Keep [] w w' := by
  have hB := bounds_any p
  have hI := row_index p
  have hW := within_iff p
  obtain ⟨r, hr⟩ : ∃ r, p.row = r := ⟨_, rfl⟩
  obtain ⟨bs, hbs⟩ : ∃ bs, p.bounds = bs := ⟨_, rfl⟩
  rw [hr] at hW hI
  rw [hbs] at hB hI
  obtain ⟨d, hd⟩ : ∃ d, decide p.Within = d := ⟨_, rfl⟩
  have hd2 : d = true ↔ (∀ j, j < 7 → (r j).2.1 ≤ (r j).1 ∧ (r j).1 ≤ (r j).2.2) := by
    rw [← hd, decide_eq_true_eq]; exact hW
  rw [hd]
  clear hr hbs hW hd
  obtain ⟨sec, size, reg, rs, lg, dep, mem, seed⟩ := p
  have HD := Lib.hid hd2
  have HI := Lib.hid hI
  clear hd2 hI
  simp only [Pl.v] at hB ⊢
  go_enter Try.func128, Try.ntmps128
  go_wp2_with fail
  go_step3
  go_wp2_with fail
  go_step3
  go_wp2_with fail
  refine (hB _).mono ?_
  clear hB
  rintro e w2 ⟨rfl, hk⟩
  have hk2 := ((Keep.refl [] w).alloc _).trans hk
  clear hk
  go_wp2
  go_loopw [3, 8] (fun g i wr => Keep [] w wr ∧ g = .bool true ∧ ∃ k : Nat, k ≤ 7 ∧ i = .int .i64 k ∧ Hid (∀ j, j < k → (r j).2.1 ≤ (r j).1 ∧ (r j).1 ≤ (r j).2.2)) (fun _ i _ => 7 - (intOf i).toNat)
  case atStart => exact ⟨hk2, rfl, 0, by omega, rfl, by intro j hj; omega⟩
  case round =>
    obtain ⟨hkeep, rfl, k, hk7, rfl, hR⟩ := hrel
    by_cases hlt : k < 7
    · have hi := HI.out k hlt
      obtain ⟨x, hx⟩ : ∃ x, r k = x := ⟨_, rfl⟩
      rw [hx] at hi
      obtain ⟨n, lo, up⟩ := x
      have HX := Lib.hid hx
      clear hx
      simp only at hi
      by_cases h1 : n < lo
      · have hdf : Hid (d = false) := by
          cases d with
          | false => rfl
          | true =>
            have := HD.out.1 rfl k hlt
            rw [HX.out] at this
            simp only at this
            omega
        go_wp2
        try rw [Exit.noGoto_ret]
        go_ret
        exact ⟨by rw [hdf.out]; rfl, hkeep.alloc _⟩
      · by_cases h2 : up < n
        · have hdf : Hid (d = false) := by
            cases d with
            | false => rfl
            | true =>
              have := HD.out.1 rfl k hlt
              rw [HX.out] at this
              simp only at this
              omega
          go_wp2
          try rw [Exit.noGoto_ret]
          go_ret
          exact ⟨by rw [hdf.out]; rfl, hkeep.alloc _⟩
        · go_wp2
          go_roundw
          case rel =>
            refine ⟨hkeep.alloc _, rfl, k + 1, by omega, by go_num, fun j hj => ?_⟩
            rcases (by omega : j < k ∨ j = k) with h | rfl
            · exact hR.out j h
            · rw [HX.out]; exact ⟨by simpa using h1, by simpa using h2⟩
          case measure => simp [intOf]; omega
    · obtain rfl : k = 7 := by omega
      have hdt : Hid (d = true) := HD.out.2 hR.out
      go_wp2
      try rw [Exit.noGoto_ret]
      go_ret
      exact ⟨by rw [hdt.out]; rfl, hkeep⟩

end Go.Proofs.Ytcmkcegnfddccaa
