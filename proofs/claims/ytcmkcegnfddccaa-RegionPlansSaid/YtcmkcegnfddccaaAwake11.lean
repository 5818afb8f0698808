import Derived.Test.YtcmkcegnfddccaaRegLaw
/-! The walk of the chapter's own words on regions: awake. -/
namespace Go.Proofs.Ytcmkcegnfddccaa
open Go.RowKit Sg
set_option linter.unusedSimpArgs false
set_option linter.unusedVariables false

theorem len_rep (n : Nat) : ((List.replicate n (0 : UInt8)).length : Int) = (n : Int) := by simp
theorem new_acts (n sz : Nat) : (Dev.new n sz).acts = 0 := rfl
theorem lg0_last (p : Pl) : (lg0 p).last = 0 := rfl
theorem lg0_at (p : Pl) : (lg0 p).at_ = (lcOf p).S * (lcOf p).rm := rfl

set_option maxRecDepth 100000 in
set_option maxHeartbeats 1000000 in
set_option maxHeartbeats 4000000 in
theorem awake11_any (w : World) : Calls Try.prog 63 #[] w fun e w' => e = .returned (.bool true) ∧ Keep [] w w' := by
  have cN : Calls Try.prog 21 #[.int .i64 60, .int .i64 96] w _ := newDev_any 60 96 (by decide) w
  have q1 : (lcOf smallP).R = 3 := rfl
  have q2 : (lcOf smallP).S * (lcOf smallP).rm = 154 := rfl
  have q3 : (lg0 smallP).at_ = 154 := rfl
  have q4 : (lg0 smallP).last = 0 := rfl
  have cF := fun w2 (k : Keep [] w w2) D g h hD => format_ok (W := w) (X := []) w2 k (D := D) (g := g) (n := 60) (sz := 96) h hD (by simp) smallP small_on
  generalize lcOf smallP = c at *
  generalize lg0 smallP = l0 at *
  have HF := Lib.hid cF
  clear cF
  go_enter Try.func63, Try.ntmps63
  go_wp2_with fail
  refine cN.mono ?_
  rintro e w1 ⟨g, D, rfl, hD, hk1, hf⟩
  clear cN
  go_wp2_with fail
  refine (small_any w1).mono ?_
  rintro e w2 ⟨rfl, hk2⟩
  have hFF := HF.out w2 (hk1.trans hk2) D g (hD.keep hk2 (by simp)) (fun b hb => ⟨hf b hb, by simp⟩)
  clear HF hD hf hk1 hk2
  go_wp2_with fail
  refine hFF.mono ?_
  clear hFF
  rintro e w3 ⟨gl, rfl, h3, -⟩
  go_wp2_with (refine wpList_make_bytes rfl (.const (.int .i64 100)) (.const (.int .i64 100)) 23 5 rfl 0 Try.underlying23 (by kernel_rfl) .i64 .i64 (n := 100) rfl rfl (by omega) (Nat.zero_le _) ?_)
  intro y1 oy1 ky1 sy1
  have g1 := h3.add ky1 (x := w3.heap.size) (by simp) (by simpa using sy1)
  obtain ⟨B1, lB1, ob1⟩ : ∃ B : List UInt8, B.length = 100 ∧ OwnB y1 0 5 _ B := ⟨List.replicate 100 0, by simp, oy1⟩
  clear oy1 h3
  have ac0 : (Dev.new 60 96).acts = 0 := rfl
  generalize Dev.new 60 96 = m0 at *
  generalize (fun _ => ([] : List (List UInt8))) = F0 at *
  have cA := append_ok y1 g1 (by omega) (by omega) _ _ (ob1.bytes (by omega)) (fun x hx => by cases hx; simp) (by omega) (by omega)
  clear ob1
  go_wp2_with fail
  refine cA.mono ?_
  clear cA
  rintro e w15 ⟨l1, m1, F1, a1, rfl, st1, h15, k15⟩
  have e1 : l1.last = 1 ∧ a1 = 0 ∧ l1.at_ = 100 ∧ m1.acts ≤ 101 ∧ l1.last = l0.last + 1 := by have h1 := st1.way; have h2 := st1.at_; have h3 := st1.acts; omega
  obtain ⟨e1, ea1, et1, ac1, en1⟩ := e1
  have ln1 : (cont F1 l1 1).length = 100 := by have := st1.len; rw [e1, ea1] at this; omega
  rw [show (l1.last : Int) = 1 by omega, show (a1 : Int) = 0 by omega, show (B1.length : Int) = 100 by omega]
  clear g1 k15 st1
  have A1 := heap_alloc_new w15 (.cells #[.int .i64 1, .int .i64 0, .int .i64 100] 101)
  have h16 := h15.add ((Keep.refl [] w15).alloc (.cells #[.int .i64 1, .int .i64 0, .int .i64 100] 101)) (Nat.le_refl _) (by simp)
  clear h15
  go_wp2_with (refine wpList_make_bytes rfl (.const (.int .i64 60)) (.const (.int .i64 60)) 23 5 rfl 0 Try.underlying23 (by kernel_rfl) .i64 .i64 (n := 60) rfl rfl (by omega) (Nat.zero_le _) ?_)
  intro y2 oy2 ky2 sy2
  have g2 := h16.add ky2 (x := w15.heap.size + 1) (by simp) (by simpa using sy2)
  obtain ⟨B2, lB2, ob2⟩ : ∃ B : List UInt8, B.length = 60 ∧ OwnB y2 0 5 _ B := ⟨List.replicate 60 0, by simp, oy2⟩
  clear oy2 h16
  have A1y := ky2.blk (by simp) A1
  clear A1 ky2
  have cA := append_ok y2 g2 (by omega) (by omega) _ _ (ob2.bytes (by omega)) (fun x hx => by cases hx; simp) (by omega) (by omega)
  clear ob2
  go_wp2_with fail
  refine cA.mono ?_
  clear cA
  rintro e w25 ⟨l2, m2, F2, a2, rfl, st2, h25, k25⟩
  have e2 : l2.last = 2 ∧ a2 = 0 ∧ l2.at_ = 60 ∧ m2.acts ≤ 162 ∧ l2.last = l1.last + 1 := by have h1 := st2.way; have h2 := st2.at_; have h3 := st2.acts; omega
  obtain ⟨e2, ea2, et2, ac2, en2⟩ := e2
  have ln2 : (cont F2 l2 2).length = 60 := by have := st2.len; rw [e2, ea2] at this; omega
  rw [show (l2.last : Int) = 2 by omega, show (a2 : Int) = 0 by omega, show (B2.length : Int) = 60 by omega]
  have ln21 : 100 ≤ (cont F2 l2 1).length := by have h1 := (st2.grow 1 (by omega)).length_le; omega
  have A1x := k25.blk (by simp) A1y
  clear g2 k25 st2 A1y
  have A2 := heap_alloc_new w25 (.cells #[.int .i64 2, .int .i64 0, .int .i64 60] 101)
  have h26 := h25.add ((Keep.refl [] w25).alloc (.cells #[.int .i64 2, .int .i64 0, .int .i64 60] 101)) (Nat.le_refl _) (by simp)
  clear h25
  have A1z := ((Keep.refl [] w25).alloc (.cells #[.int .i64 2, .int .i64 0, .int .i64 60] 101)).blk (by simp) A1x
  clear A1x
  go_wp2_with (refine wpList_make_bytes rfl (.const (.int .i64 150)) (.const (.int .i64 150)) 23 5 rfl 0 Try.underlying23 (by kernel_rfl) .i64 .i64 (n := 150) rfl rfl (by omega) (Nat.zero_le _) ?_)
  intro y3 oy3 ky3 sy3
  have g3 := h26.add ky3 (x := w25.heap.size + 1) (by simp) (by simpa using sy3)
  obtain ⟨B3, lB3, ob3⟩ : ∃ B : List UInt8, B.length = 150 ∧ OwnB y3 0 5 _ B := ⟨List.replicate 150 0, by simp, oy3⟩
  clear oy3 h26
  have A1y := ky3.blk (by simp) A1z
  have A2y := ky3.blk (by simp) A2
  clear A1z A2 ky3
  have cA := append_ok y3 g3 (by omega) (by omega) _ _ (ob3.bytes (by omega)) (fun x hx => by cases hx; simp) (by omega) (by omega)
  clear ob3
  go_wp2_with fail
  refine cA.mono ?_
  clear cA
  rintro e w35 ⟨l3, m3, F3, a3, rfl, st3, h35, k35⟩
  have e3 : l3.last = 3 ∧ a3 = 0 ∧ l3.at_ = 150 ∧ m3.acts ≤ 313 ∧ l3.last = l2.last + 1 := by have h1 := st3.way; have h2 := st3.at_; have h3 := st3.acts; omega
  obtain ⟨e3, ea3, et3, ac3, en3⟩ := e3
  have ln3 : (cont F3 l3 3).length = 150 := by have := st3.len; rw [e3, ea3] at this; omega
  rw [show (l3.last : Int) = 3 by omega, show (a3 : Int) = 0 by omega, show (B3.length : Int) = 150 by omega]
  have ln31 : 100 ≤ (cont F3 l3 1).length := by have h1 := (st3.grow 1 (by omega)).length_le; omega
  have ln32 : 60 ≤ (cont F3 l3 2).length := by have h1 := (st3.grow 2 (by omega)).length_le; omega
  have A1x := k35.blk (by simp) A1y
  have A2x := k35.blk (by simp) A2y
  clear g3 k35 st3 A1y A2y
  have c10 := cell_of_row _ _ 0 _ _ _ A1x
  have c11 := cell_of_row _ _ 1 _ _ _ A1x
  have c12 := cell_of_row _ _ 2 _ _ _ A1x
  simp at c10 c11 c12
  have cR := read_ok w35 h35 (by omega) 1 0 100
  have eR : c.read l3 m3 1 0 100 = (((cont F3 l3 1).drop 0).take 100, 0) := read_law h35.inv (q := 1) (at_ := 0) (size := 100) (by unfold Lc.oldest; omega) (by omega) (by omega)
  rw [eR] at cR
  clear eR
  go_wp2_with fail
  refine cR.mono ?_
  clear cR
  rintro e w4 ⟨v4, rfl, -, k4⟩
  have h4 := h35.keep k4
  have A1 := k4.blk (by simp) A1x
  have A2 := k4.blk (by simp) A2x
  clear A1x A2x c10 c11 c12 k4 h35
  go_wp2_with (refine wpList_make_bytes rfl (.const (.int .i64 150)) (.const (.int .i64 150)) 23 5 rfl 0 Try.underlying23 (by kernel_rfl) .i64 .i64 (n := 150) rfl rfl (by omega) (Nat.zero_le _) ?_)
  intro y4 oy4 ky4 sy4
  have g4 := h4.add ky4 (x := w4.heap.size) (by simp) (by simpa using sy4)
  obtain ⟨B4, lB4, ob4⟩ : ∃ B : List UInt8, B.length = 150 ∧ OwnB y4 0 5 _ B := ⟨List.replicate 150 0, by simp, oy4⟩
  clear oy4 h4
  have A1y := ky4.blk (by simp) A1
  have A2y := ky4.blk (by simp) A2
  clear A1 A2 ky4
  have cA := append_ok y4 g4 (by omega) (by omega) _ _ (ob4.bytes (by omega)) (fun x hx => by cases hx; simp) (by omega) (by omega)
  clear ob4
  go_wp2_with fail
  refine cA.mono ?_
  clear cA
  rintro e w45 ⟨l4, m4, F4, a4, rfl, st4, h45, k45⟩
  have e4 : l4.last = 4 ∧ a4 = 0 ∧ l4.at_ = 150 ∧ m4.acts ≤ 464 ∧ l4.last = l3.last + 1 := by have h1 := st4.way; have h2 := st4.at_; have h3 := st4.acts; omega
  obtain ⟨e4, ea4, et4, ac4, en4⟩ := e4
  have ln4 : (cont F4 l4 4).length = 150 := by have := st4.len; rw [e4, ea4] at this; omega
  rw [show (l4.last : Int) = 4 by omega, show (a4 : Int) = 0 by omega, show (B4.length : Int) = 150 by omega]
  have ln42 : 60 ≤ (cont F4 l4 2).length := by have h1 := (st4.grow 2 (by omega)).length_le; omega
  have A1x := k45.blk (by simp) A1y
  have A2x := k45.blk (by simp) A2y
  clear g4 k45 st4 A1y A2y
  have c10 := cell_of_row _ _ 0 _ _ _ A1x
  have c11 := cell_of_row _ _ 1 _ _ _ A1x
  have c12 := cell_of_row _ _ 2 _ _ _ A1x
  simp at c10 c11 c12
  have cR := read_ok w45 h45 (by omega) 1 0 100
  have eR : c.read l4 m4 1 0 100 = ([], 13) := read_gone l4 m4 (fun h => by have := h.1; unfold Lc.oldest at this; omega)
  rw [eR] at cR
  clear eR
  go_wp2_with fail
  refine cR.mono ?_
  clear cR
  rintro e w5 ⟨v5, rfl, -, k5⟩
  have h5 := h45.keep k5
  have A1 := k5.blk (by simp) A1x
  have A2 := k5.blk (by simp) A2x
  clear A1x A2x c10 c11 c12 k5 h45
  have c20 := cell_of_row _ _ 0 _ _ _ A2
  have c21 := cell_of_row _ _ 1 _ _ _ A2
  have c22 := cell_of_row _ _ 2 _ _ _ A2
  simp at c20 c21 c22
  have cR := read_ok w5 h5 (by omega) 2 0 60
  have eR : c.read l4 m4 2 0 60 = (((cont F4 l4 2).drop 0).take 60, 0) := read_law h5.inv (q := 2) (at_ := 0) (size := 60) (by unfold Lc.oldest; omega) (by omega) (by omega)
  obtain ⟨x6, lx6, ex6⟩ : ∃ x : List UInt8, x.length = 60 ∧ ((cont F4 l4 2).drop 0).take 60 = x := ⟨_, by rw [List.length_take, List.drop_zero]; omega, rfl⟩
  rw [eR, ex6] at cR
  clear eR
  go_wp2_with fail
  refine cR.mono ?_
  clear cR c20 c21 c22
  rintro e w6 ⟨v6, rfl, o6, k6⟩
  have h6 := h5.keep k6
  have A1x := k6.blk (by simp) A1
  have A2x := k6.blk (by simp) A2
  obtain ⟨va6, vc6, rfl⟩ := ownsRow_form o6
  clear A1 A2 k6 h5 o6
  rw [lx6]
  have c10 := cell_of_row _ _ 0 _ _ _ A1x
  have c11 := cell_of_row _ _ 1 _ _ _ A1x
  have c12 := cell_of_row _ _ 2 _ _ _ A1x
  have c20 := cell_of_row _ _ 0 _ _ _ A2x
  have c21 := cell_of_row _ _ 1 _ _ _ A2x
  have c22 := cell_of_row _ _ 2 _ _ _ A2x
  simp at c10 c11 c12 c20 c21 c22
  have cO := oldest_ok w6 h6
  rw [show c.oldest l4 = 2 by unfold Lc.oldest; omega] at cO
  have HK := Lib.hid h6.k
  clear h6
  go_wp2_with fail
  refine cO.mono ?_
  clear cO
  rintro e w7 ⟨rfl, k7⟩
  clear c10 c11 c12 c20 c21 c22
  go_wp2
  go_ret
  exact ⟨rfl, HK.out.trans k7⟩
end Go.Proofs.Ytcmkcegnfddccaa
