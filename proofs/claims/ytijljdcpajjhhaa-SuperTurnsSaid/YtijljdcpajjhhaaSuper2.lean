import Derived.Test.YtijljdcpajjhhaaSuper1
/-! The walks of super's Unpack and Save. -/
namespace Go.Proofs.Ytijljdcpajjhhaa
open Go.RowKit Go.Shelf Sg
attribute [local go_sem] Oper.semAt_some
set_option linter.unusedSimpArgs false
set_option linter.unusedVariables false

/-- a head's cells when k of the last three are read -/
def hrow (a b c d e f g : Int) (s : Nat) (gen n1 s1 d1 : Int) (q : Nat → Int) (k : Nat) : Array Value := #[.int .i64 a, .int .i64 b, .int .i64 c, .int .i64 d, .int .i64 e, .int .i64 f, .int .i64 g, .int .u64 (s : Int), .int .i64 gen, .int .i64 n1, .int .i64 s1, .int .i64 d1, .int .i64 (if 0 < k then q 0 else 0), .int .i64 (if 1 < k then q 1 else 0), .int .i64 (if 2 < k then q 2 else 0)]
theorem hrow_set (a b c d e f g : Int) (s : Nat) (gen n1 s1 d1 : Int) (q : Nat → Int) (k : Nat) (hk : k < 3) : (hrow a b c d e f g s gen n1 s1 d1 q k).setIfInBounds (12 + k) (.int .i64 (q k)) = hrow a b c d e f g s gen n1 s1 d1 q (k + 1) := by
  rcases (by omega : k = 0 ∨ k = 1 ∨ k = 2) with rfl | rfl | rfl <;> simp [hrow]
theorem hrow_get (a b c d e f g : Int) (s : Nat) (gen n1 s1 d1 : Int) (q : Nat → Int) (k : Nat) (hk : k < 3) : (hrow a b c d e f g s gen n1 s1 d1 q k)[12 + k]? = some (.int .i64 0) := by
  rcases (by omega : k = 0 ∨ k = 1 ∨ k = 2) with rfl | rfl | rfl <;> simp [hrow]
theorem hrow_zero (a b c d e f g : Int) (s : Nat) (gen n1 s1 d1 : Int) (q : Nat → Int) : hrow a b c d e f g s gen n1 s1 d1 q 0 = #[.int .i64 a, .int .i64 b, .int .i64 c, .int .i64 d, .int .i64 e, .int .i64 f, .int .i64 g, .int .u64 (s : Int), .int .i64 gen, .int .i64 n1, .int .i64 s1, .int .i64 d1, .int .i64 0, .int .i64 0, .int .i64 0] := by simp [hrow]
theorem hrow_all (a b c d e f g : Int) (s : Nat) (gen n1 s1 d1 : Int) (q : Nat → Int) : hrow a b c d e f g s gen n1 s1 d1 q 3 = #[.int .i64 a, .int .i64 b, .int .i64 c, .int .i64 d, .int .i64 e, .int .i64 f, .int .i64 g, .int .u64 (s : Int), .int .i64 gen, .int .i64 n1, .int .i64 s1, .int .i64 d1, .int .i64 (q 0), .int .i64 (q 1), .int .i64 (q 2)] := by simp [hrow]
theorem nu15 (a b c d e f g : Int) (s : Nat) (gen n1 s1 d1 x y z : Int) : ∀ (i : Nat) (v : Value), (#[.int .i64 a, .int .i64 b, .int .i64 c, .int .i64 d, .int .i64 e, .int .i64 f, .int .i64 g, .int .u64 (s : Int), .int .i64 gen, .int .i64 n1, .int .i64 s1, .int .i64 d1, .int .i64 x, .int .i64 y, .int .i64 z] : Array Value)[i]? = some v → ∀ n : Int, v ≠ Value.int .u8 n := by
  intro i x hx n e
  subst e
  rcases (by omega : i = 0 ∨ i = 1 ∨ i = 2 ∨ i = 3 ∨ i = 4 ∨ i = 5 ∨ i = 6 ∨ i = 7 ∨ i = 8 ∨ i = 9 ∨ i = 10 ∨ i = 11 ∨ i = 12 ∨ i = 13 ∨ i = 14 ∨ 15 ≤ i) with rfl | rfl | rfl | rfl | rfl | rfl | rfl | rfl | rfl | rfl | rfl | rfl | rfl | rfl | rfl | h
  case inr.inr.inr.inr.inr.inr.inr.inr.inr.inr.inr.inr.inr.inr.inr => rw [Array.getElem?_eq_none (by simp; omega)] at hx; cases hx
  all_goals simp at hx
theorem ptr_index3 (b : Nat) (k : Nat) (hk : k < 3) : ∀ w, Sem.run Try.prog (Instr.index 212 (.agg #[.pointer (some ⟨b, 12, none⟩), .pointer (some ⟨b, 13, none⟩), .pointer (some ⟨b, 14, none⟩)]) (.int .i64 (k : Int))) w = .ok (.pointer (some ⟨b, 12 + k, none⟩)) w := by
  rcases (by omega : k = 0 ∨ k = 1 ∨ k = 2) with rfl | rfl | rfl <;> intro w <;> kernel_rfl
theorem RS.setC {W w : World} {g b j : Nat} {xs : List UInt8} {bad : Bool} {old : Array Value} {t : TypeId} {fr : Nat × Nat} (h : RS W w g xs bad) (hb : w.heap[b]? = some (.cells old t fr)) (hne : g ≠ b) (hW : W.heap.size ≤ b)
    (hold : ∀ (i : Nat) (x : Value), old[i]? = some x → ∀ n : Int, x ≠ Value.int .u8 n) (x : Value) : RS W (w.setCell ⟨b, j, none⟩ x) g xs bad := by
  obtain ⟨z1, z2, v, z3, z4, z5⟩ := h
  exact ⟨z1.setCell (.inr hW) _, z2, v, (Below.heap_setCell _ _ _ _ (by simpa using hne)).trans z3, z4.setCell (fun hl => z4.ne_row hl hb hold) _, z5⟩

set_option maxRecDepth 100000 in
set_option maxHeartbeats 1000000 in
set_option maxHeartbeats 4000000 in
theorem hunpack_no (gen : Int) (x : Value) (l : List UInt8) (w : World) (hx : Bytes w x l) (hl : l.length ≠ 63) : Calls Try.prog 64 #[.int .i64 gen, x] w fun e w' => e = .returned (.tuple #[hd0.v, .int .i64 5]) ∧ Keep [] w w' := by
  obtain ⟨ao, cap, rfl, hlc, hm, hcap⟩ := hx.form
  have hq : ((l.length : Int) != 63) = true := by simp; omega
  have hA := heap_alloc_new w (.cells #[.int .i64 0, .int .i64 0, .int .i64 0, .int .i64 0, .int .i64 0, .int .i64 0, .int .i64 0, .int .u64 0, .int .i64 0, .int .i64 0, .int .i64 0, .int .i64 0, .int .i64 0, .int .i64 0, .int .i64 0] 123)
  go_enter Try.func64, Try.ntmps64
  go_wp2
  exact bodyPost_ret (results_cell_tmp_row rfl _ _ w.heap.size 123 _ _ _ rfl hA Try.underlying123 rfl (by kernel_rfl)) rfl ⟨rfl, (Keep.refl [] w).alloc _⟩

theorem punpack_one (l : List UInt8) (h : l.length = 26) : ∃ (p : Pl) (ec : Int), (∀ x w, Bytes w x l → Calls Try.prog 114 #[x] w fun e w' => e = .returned (.tuple #[p.v, .int .i64 ec]) ∧ Keep [] w w') ∧ ((ec = 0 ∧ p = of26 l ∧ (of26 l).Fits) ∨ (ec = 12 ∧ ¬ (of26 l).Fits)) := by
  by_cases hf : (of26 l).Fits
  · refine ⟨of26 l, 0, fun x w hx => (planUnpack_yes x l w hx h).mono ?_, .inl ⟨rfl, rfl, hf⟩⟩
    rintro e w' ⟨rfl, k⟩
    rw [if_pos hf]
    exact ⟨rfl, k⟩
  · refine ⟨⟨0, 0, 0, 0, 0, 0, 0, 0⟩, 12, fun x w hx => (planUnpack_yes x l w hx h).mono ?_, .inr ⟨rfl, hf⟩⟩
    rintro e w' ⟨rfl, k⟩
    rw [if_neg hf]
    exact ⟨rfl, k⟩

/-- the three numbers at the end -/
def htail (l : List UInt8) (k : Nat) : Int := sg (leOf ((l.drop (39 + 8 * k)).take 8))
set_option maxRecDepth 100000 in
set_option maxHeartbeats 1000000 in
set_option maxHeartbeats 2000000 in
theorem hunpack_yes (gen : Int) (x : Value) (l : List UInt8) (w : World) (hx : Bytes w x l) (hl : l.length = 63) : Calls Try.prog 64 #[.int .i64 gen, x] w fun e w' => e = .returned (.tuple (if (of63 gen l).code = 0 then #[(of63 gen l).v, .int .i64 0] else #[hd0.v, .int .i64 5])) ∧ Keep [] w w' := by
  obtain ⟨ao, cap, rfl, hlc, hm, hcap⟩ := hx.form
  obtain ⟨p, ec, hU, hec⟩ := punpack_one (l.take 26) (by rw [List.length_take]; omega)
  have hq : ((l.length : Int) != 63) = false := by simp; omega
  have hH : of63 gen l = ⟨of26 (l.take 26), gen, leOf ((l.drop 26).take 4), sg (leOf ((l.drop 30).take 8)), leOf ((l.drop 38).take 1), htail l 0, htail l 1, htail l 2⟩ := rfl
  have r0 : rdR (l, false) 26 = (l.take 26, l.drop 26, false) := rdR_eq (by simp; omega)
  have r1 : rdN (l.drop 26, false) 4 = (leOf ((l.drop 26).take 4), l.drop 30, false) := by rw [rdN_eq (by simp; omega)]; simp only [List.drop_drop]
  have r2 : rdN (l.drop 30, false) 8 = (leOf ((l.drop 30).take 8), l.drop 38, false) := by rw [rdN_eq (by simp; omega)]; simp only [List.drop_drop]
  have r3 : rdN (l.drop 38, false) 1 = (leOf ((l.drop 38).take 1), l.drop 39, false) := by rw [rdN_eq (by simp; omega)]; simp only [List.drop_drop]
  have r4 : ∀ k, k < 3 → ∃ n, rdN (l.drop (39 + 8 * k), false) 8 = (n, l.drop (39 + 8 * (k + 1)), false) ∧ sg n = htail l k := by
    intro k hk
    refine ⟨leOf ((l.drop (39 + 8 * k)).take 8), ?_, rfl⟩
    rw [rdN_eq (by simp; omega)]
    simp only [List.drop_drop]
    rfl
  have a1 := piece_lt l 26 4
  have a2 := piece_lt l 38 1
  obtain ⟨n1, hn1⟩ : ∃ n, leOf ((l.drop 26).take 4) = n := ⟨_, rfl⟩
  obtain ⟨n2, hn2⟩ : ∃ n, leOf ((l.drop 30).take 8) = n := ⟨_, rfl⟩
  obtain ⟨n3, hn3⟩ : ∃ n, leOf ((l.drop 38).take 1) = n := ⟨_, rfl⟩
  obtain ⟨q, hqq⟩ : ∃ q, htail l = q := ⟨_, rfl⟩
  rw [hn1] at a1 r1 hH
  rw [hn2] at r2 hH
  rw [hn3] at a2 r3 hH
  rw [hqq] at r4 hH
  simp only [Nat.reducePow] at a1 a2
  have q1 : RowKit.wrap64 (n1 : Int) = (n1 : Int) := by unfold RowKit.wrap64; omega
  have q1' : IntKind.i64.wrap (n1 : Int) = (n1 : Int) := i64_wrap_nat (Nat.lt_trans a1 (by decide))
  have q3 : RowKit.wrap64 (n3 : Int) = (n3 : Int) := by unfold RowKit.wrap64; omega
  have q3' : IntKind.i64.wrap (n3 : Int) = (n3 : Int) := i64_wrap_nat (Nat.lt_trans a2 (by decide))
  obtain ⟨s2, hs2⟩ : ∃ s, sg n2 = s := ⟨_, rfl⟩
  have q2 : RowKit.wrap64 (n2 : Int) = s2 := by rw [sg_wrap, hs2]
  have q2' : IntKind.i64.wrap (n2 : Int) = s2 := hs2
  rw [hs2] at hH
  clear hn1 hn2 hn3 hqq hs2
  have hcode : ec = 12 → ¬ (of63 gen l).code = 0 := fun e hc => by
    have := (Hd.code_zero hc).1
    rw [hH] at this
    rcases hec with ⟨h, -⟩ | ⟨-, h⟩
    · omega
    · exact h this
  have hpe : ec = 0 → of63 gen l = ⟨p, gen, n1, s2, n3, q 0, q 1, q 2⟩ := fun e => by
    rcases hec with ⟨-, h, -⟩ | ⟨h, -⟩
    · rw [hH, h]
    · omega
  have hec2 : ec = 0 ∨ ec = 12 := by rcases hec with h | h <;> omega
  obtain ⟨RES, hRES⟩ : ∃ RES, (if (of63 gen l).code = 0 then #[(of63 gen l).v, .int .i64 0] else #[hd0.v, .int .i64 5]) = RES := ⟨_, rfl⟩
  rw [hRES]
  have hcode : ec = 12 → RES = #[hd0.v, .int .i64 5] := fun e => by rw [← hRES, if_neg (hcode e)]
  have hpe : ec = 0 → ((⟨p, gen, n1, s2, n3, q 0, q 1, q 2⟩ : Hd).code = 0 → RES = #[(⟨p, gen, n1, s2, n3, q 0, q 1, q 2⟩ : Hd).v, .int .i64 0]) ∧ (¬ (⟨p, gen, n1, s2, n3, q 0, q 1, q 2⟩ : Hd).code = 0 → RES = #[hd0.v, .int .i64 5]) := fun e => by
    have h := hpe e
    rw [← h]
    exact ⟨fun c => by rw [← hRES, if_pos c], fun c => by rw [← hRES, if_neg c]⟩
  clear hH hec hRES
  obtain ⟨L26, hL26⟩ : ∃ L, l.take 26 = L := ⟨_, rfl⟩
  have hlen26 : L26.length ≤ 26 := by rw [← hL26, List.length_take]; omega
  rw [hL26] at hU r0
  have HLEN26 := Lib.hid hlen26
  clear hL26 hlen26
  obtain ⟨sec, size, reg, rs, lg, dep, mem, seed⟩ := p
  simp only [Pl.v] at *
  have HU := Lib.hid hU
  have R4 := Lib.hid r4
  have HCODE := Lib.hid hcode
  have HPE := Lib.hid hpe
  have HS := Lib.hid (hrow_set sec size reg rs lg dep mem seed gen n1 s2 n3 q)
  have HG := Lib.hid (hrow_get sec size reg rs lg dep mem seed gen n1 s2 n3 q)
  have H0 := Lib.hid (hrow_zero sec size reg rs lg dep mem seed gen n1 s2 n3 q)
  have H3 := Lib.hid (hrow_all sec size reg rs lg dep mem seed gen n1 s2 n3 q)
  have HNU : Hid (∀ k, ∀ (i : Nat) (v : Value), (hrow sec size reg rs lg dep mem seed gen n1 s2 n3 q k)[i]? = some v → ∀ n : Int, v ≠ Value.int .u8 n) := fun k => nu15 _ _ _ _ _ _ _ _ _ _ _ _ _ _ _
  clear hU r4 hcode hpe
  generalize hrow sec size reg rs lg dep mem seed gen n1 s2 n3 q = R at HS HG H0 H3 HNU
  have hlen : l.length ≤ 1000000 := by omega
  have hK0 := (Keep.refl [] w).alloc (.cells #[.int .i64 0, .int .i64 0, .int .i64 0, .int .i64 0, .int .i64 0, .int .i64 0, .int .i64 0, .int .u64 0, .int .i64 0, .int .i64 0, .int .i64 0, .int .i64 0, .int .i64 0, .int .i64 0, .int .i64 0] 123)
  have hA := heap_alloc_new w (.cells #[.int .i64 0, .int .i64 0, .int .i64 0, .int .i64 0, .int .i64 0, .int .i64 0, .int .i64 0, .int .u64 0, .int .i64 0, .int .i64 0, .int .i64 0, .int .i64 0, .int .i64 0, .int .i64 0, .int .i64 0] 123)
  have HA := Lib.hid hA
  clear hA hl
  go_enter Try.func64, Try.ntmps64
  go_wp2_with fail
  refine (newReader_any _ l _ (hx.keep hK0 (by simp)) hlen).mono ?_
  rintro e w1 ⟨g, rfl, s1⟩
  clear hx
  go_wp2_with fail
  have c := readRaw_any _ w1 g (l, false) s1 26
  rw [r0] at c
  refine c.mono ?_
  clear c s1
  rintro e w2 ⟨v2, rfl, o2, t2, -⟩
  have hgw : w.heap.size + 1 ≤ g := by have := t2.2.1; simpa using this
  have ho2 := o2.bytes (Nat.le_trans HLEN26.out (by decide))
  obtain ⟨va, vc, rfl, -⟩ := ho2.form
  go_wp2_with fail
  refine (HU.out _ _ ho2).mono ?_
  rintro e w3 ⟨rfl, k3⟩
  have t3 := t2.keep k3
  have hg3 : g < w3.heap.size := by obtain ⟨_, _, _, h, _⟩ := t3; exact (Array.getElem?_eq_some_iff.1 h).1
  have hw3 : w.heap.size + 1 ≤ w3.heap.size := by omega
  clear o2 ho2 t2
  have kk := ((Keep.refl [] w3).alloc (.cells #[.int .i64 sec, .int .i64 size, .int .i64 reg, .int .i64 rs, .int .i64 lg, .int .i64 dep, .int .i64 mem, .int .u64 (seed : Int)] 60)).alloc (.cells #[.int .i64 sec, .int .i64 size, .int .i64 reg, .int .i64 rs, .int .i64 lg, .int .i64 dep, .int .i64 mem, .int .u64 (seed : Int), .int .i64 gen, .int .i64 0, .int .i64 0, .int .i64 0, .int .i64 0, .int .i64 0, .int .i64 0] 123)
  have t4 := t3.keep kk
  have hP4 := heap_alloc2_new w3 (.cells #[.int .i64 sec, .int .i64 size, .int .i64 reg, .int .i64 rs, .int .i64 lg, .int .i64 dep, .int .i64 mem, .int .u64 (seed : Int)] 60) (.cells #[.int .i64 sec, .int .i64 size, .int .i64 reg, .int .i64 rs, .int .i64 lg, .int .i64 dep, .int .i64 mem, .int .u64 (seed : Int), .int .i64 gen, .int .i64 0, .int .i64 0, .int .i64 0, .int .i64 0, .int .i64 0, .int .i64 0] 123)
  clear kk t3
  go_wp2_with fail
  have c := readNumber_any _ _ g (l.drop 26, false) t4 4 (by omega)
  rw [r1] at c
  refine c.mono ?_
  clear c t4
  rintro e w5 ⟨rfl, t5, k5⟩
  have hP5 := k5.blk (by simp; omega) hP4
  clear hP4 k5
  obtain ⟨BB, hBB⟩ : ∃ BB, w3.heap.size + 1 = BB := ⟨_, rfl⟩
  rw [hBB] at hP5 ⊢
  have hBg : w.heap.size + 1 ≤ BB ∧ g ≠ BB := by omega
  clear hBB k3
  have g9 := cell_of_row w5 _ 9 _ _ _ hP5
  have f9 := frozen_of_row w5 _ 9 _ _ hP5
  simp at g9
  have hP6 := heap_setCell_same w5 BB 9 _ _ (.int .i64 (n1 : Int)) hP5
  simp at hP6
  have t6 := t5.setC (j := 9) hP5 hBg.2 (by simp; omega) (nu15 _ _ _ _ _ _ _ _ _ _ _ _ _ _ _) (.int .i64 (n1 : Int))
  have HP6 := Lib.hid hP6
  have T6 := Lib.hid t6
  clear hP6 t6 hP5 t5
  go_wp2_with fail
  have c := readNumber_any _ _ g (l.drop 30, false) T6.out 8 (by omega)
  rw [r2] at c
  refine c.mono ?_
  clear c
  rintro e w7 ⟨rfl, t7, k7⟩
  have hP7 := k7.blk (by simp; omega) HP6.out
  clear HP6 T6 k7 g9 f9
  have g10 := cell_of_row w7 _ 10 _ _ _ hP7
  have f10 := frozen_of_row w7 _ 10 _ _ hP7
  simp at g10
  have hP8 := heap_setCell_same w7 BB 10 _ _ (.int .i64 s2) hP7
  simp at hP8
  have t8 := t7.setC (j := 10) hP7 hBg.2 (by simp; omega) (nu15 _ _ _ _ _ _ _ _ _ _ _ _ _ _ _) (.int .i64 s2)
  have HP8 := Lib.hid hP8
  have T8 := Lib.hid t8
  clear hP8 t8 hP7 t7
  go_wp2_with fail
  have c := readNumber_any _ _ g (l.drop 38, false) T8.out 1 (by omega)
  rw [r3] at c
  refine c.mono ?_
  clear c
  rintro e w9 ⟨rfl, t9, k9⟩
  have hP9 := k9.blk (by simp; omega) HP8.out
  clear HP8 T8 k9 g10 f10
  have g11 := cell_of_row w9 _ 11 _ _ _ hP9
  have f11 := frozen_of_row w9 _ 11 _ _ hP9
  simp at g11
  have hPA := heap_setCell_same w9 BB 11 _ _ (.int .i64 (n3 : Int)) hP9
  simp at hPA
  have tA := t9.setC (j := 11) hP9 hBg.2 (by simp; omega) (nu15 _ _ _ _ _ _ _ _ _ _ _ _ _ _ _) (.int .i64 (n3 : Int))
  have HPA := Lib.hid hPA
  have TA := Lib.hid tA
  clear hPA tA hP9 t9
  have hI := ptr_index3 BB
  have HI := Lib.hid hI
  clear hI
  go_wp2_with fail
  clear g11 f11
  go_loopw [45] (fun i wr => ∃ k : Nat, k ≤ 3 ∧ i = .int .i64 k ∧ RS (w.alloc (.cells #[.int .i64 0, .int .i64 0, .int .i64 0, .int .i64 0, .int .i64 0, .int .i64 0, .int .i64 0, .int .u64 0, .int .i64 0, .int .i64 0, .int .i64 0, .int .i64 0, .int .i64 0, .int .i64 0, .int .i64 0] 123)) wr g (l.drop (39 + 8 * k)) false ∧ wr.heap[BB]? = some (.cells (R k) 123 (0, 0))) (fun i _ => 3 - (intOf i).toNat)
  case atStart => exact ⟨0, by omega, rfl, TA.out, by rw [H0.out]; exact HPA.out⟩
  case round =>
    obtain ⟨k, hk, rfl, sk, hPk⟩ := hrel
    clear TA HPA
    by_cases hlt : k < 3
    · have hi := HI.out k hlt
      have hlt' : (k : Int) < 3 := by omega
      obtain ⟨n, hr4, hsn⟩ := R4.out k hlt
      have hset := HS.out k hlt
      have u1 := sg_wrap n
      have u2 : IntKind.i64.wrap (n : Int) = sg n := rfl
      rw [hsn] at u1 u2
      have hget := HG.out k hlt
      clear hsn
      have HSET := Lib.hid hset
      clear hset
      go_wp2_with fail
      have c := readNumber_any _ wr g (l.drop (39 + 8 * k), false) sk 8 (by omega)
      rw [hr4] at c
      refine c.mono ?_
      clear c sk hr4
      rintro e wb ⟨rfl, tb, kb⟩
      have hPb := kb.blk (by simp; omega) hPk
      have gk := cell_of_row wb _ (12 + k) _ _ _ hPb
      rw [hget] at gk
      have fk := frozen_of_row wb _ (12 + k) _ _ hPb
      have hPc := heap_setCell_same wb BB (12 + k) _ _ (.int .i64 (q k)) hPb
      rw [HSET.out] at hPc
      have tc := tb.setC (j := 12 + k) hPb hBg.2 (by simp; omega) (HNU.out k) (.int .i64 (q k))
      have HPC := Lib.hid hPc
      have TC := Lib.hid tc
      clear hPc tc hPb hget hPk kb
      go_wp2_with fail
      go_roundw
      case rel => exact ⟨k + 1, by omega, by go_num, TC.out, HPC.out⟩
      case measure => simp [intOf]; omega
    · obtain rfl : k = 3 := by omega
      rw [H3.out] at hPk
      have g0 := cell_of_row wr _ 0 _ _ _ hPk
      have g1 := cell_of_row wr _ 1 _ _ _ hPk
      have g2 := cell_of_row wr _ 2 _ _ _ hPk
      have g3 := cell_of_row wr _ 3 _ _ _ hPk
      have g4 := cell_of_row wr _ 4 _ _ _ hPk
      have g5 := cell_of_row wr _ 5 _ _ _ hPk
      have g6 := cell_of_row wr _ 6 _ _ _ hPk
      have g7 := cell_of_row wr _ 7 _ _ _ hPk
      have g8 := cell_of_row wr _ 8 _ _ _ hPk
      have g9 := cell_of_row wr _ 9 _ _ _ hPk
      have g10 := cell_of_row wr _ 10 _ _ _ hPk
      have g11 := cell_of_row wr _ 11 _ _ _ hPk
      have g12 := cell_of_row wr _ 12 _ _ _ hPk
      have g13 := cell_of_row wr _ 13 _ _ _ hPk
      have g14 := cell_of_row wr _ 14 _ _ _ hPk
      simp at g0 g1 g2 g3 g4 g5 g6 g7 g8 g9 g10 g11 g12 g13 g14
      have hKr := hK0.trans sk.1
      have hRr := sk.1.blk (by simp) HA.out
      have HKR := Lib.hid hKr
      have HRR := Lib.hid hRr
      have HPK := Lib.hid hPk
      clear hKr hRr hPk sk
      rcases hec2 with rfl | rfl
      · have hpe := HPE.out (by trivial)
        clear HPE HCODE
        have hR := hright_any ⟨⟨sec, size, reg, rs, lg, dep, mem, seed⟩, gen, n1, s2, n3, q 0, q 1, q 2⟩ wr
        obtain ⟨cd, hcd⟩ : ∃ cd, (⟨⟨sec, size, reg, rs, lg, dep, mem, seed⟩, gen, n1, s2, n3, q 0, q 1, q 2⟩ : Hd).code = cd := ⟨_, rfl⟩
        rw [hcd] at hR hpe
        clear hcd
        simp only [Hd.v, Hd.cells, hd0] at hR hpe
        have HPE2 := Lib.hid hpe
        clear hpe
        go_wp2_with fail
        refine hR.mono ?_
        rintro e wc ⟨rfl, kc⟩
        have hKc := HKR.out.trans kc
        have hRc := kc.blk (by simp) HRR.out
        have hPc := kc.blk (by simp) HPK.out
        have HKC := Lib.hid hKc
        have HRC := Lib.hid hRc
        have HPC := Lib.hid hPc
        clear hKc hRc hPc kc hR g0 g1 g2 g3 g4 g5 g6 g7 g8 g9 g10 g11 g12 g13 g14 HKR HRR HPK
        by_cases hz : cd = 0
        · subst hz
          go_wp2_with (first | (refine wpList_load_row rfl 123 (.tmp 9) rfl BB rfl 123 _ _ _ HPC.out Try.underlying123 rfl (by kernel_rfl) ?_) | (refine wpList_store_row rfl 123 (.tmp 4) (.tmp 62) rfl w.heap.size #[.int .i64 sec, .int .i64 size, .int .i64 reg, .int .i64 rs, .int .i64 lg, .int .i64 dep, .int .i64 mem, .int .u64 (seed : Int), .int .i64 gen, .int .i64 (n1 : Int), .int .i64 s2, .int .i64 (n3 : Int), .int .i64 (q 0), .int .i64 (q 1), .int .i64 (q 2)] rfl rfl 123 _ HRC.out (by kernel_rfl) (by rfl) (by kernel_rfl) ?_))
          exact bodyPost_ret (results_cell_tmp_row rfl _ _ w.heap.size 123 _ _ _ rfl (setRow_heap _ _ _ _ _ _ HRC.out) Try.underlying123 rfl (by kernel_rfl)) rfl ⟨by rw [HPE2.out.1 (by trivial)] <;> try rfl, HKC.out.setRow (.inr (Nat.le_refl _)) _⟩
        · have hz' : (cd != 0) = true := by simpa using hz
          have HZ := Lib.hid hz
          clear hz
          go_wp2_with (refine wpList_store_row rfl 123 (.tmp 4) (.tmp 61) rfl w.heap.size #[.int .i64 0, .int .i64 0, .int .i64 0, .int .i64 0, .int .i64 0, .int .i64 0, .int .i64 0, .int .u64 0, .int .i64 0, .int .i64 0, .int .i64 0, .int .i64 0, .int .i64 0, .int .i64 0, .int .i64 0] rfl rfl 123 _ HRC.out (by kernel_rfl) (by rfl) (by kernel_rfl) ?_)
          exact bodyPost_ret (results_cell_tmp_row rfl _ _ w.heap.size 123 _ _ _ rfl (setRow_heap _ _ _ _ _ _ HRC.out) Try.underlying123 rfl (by kernel_rfl)) rfl ⟨by rw [HPE2.out.2 HZ.out] <;> try rfl, HKC.out.setRow (.inr (Nat.le_refl _)) _⟩
      · have hne := HCODE.out (by trivial)
        simp only [Hd.v, Hd.cells, hd0] at hne
        have HNE := Lib.hid hne
        clear HPE HCODE hne
        clear g0 g1 g2 g3 g4 g5 g6 g7 g8 g9 g10 g11 g12 g13 g14
        go_wp2_with (refine wpList_store_row rfl 123 (.tmp 4) (.tmp 61) rfl w.heap.size #[.int .i64 0, .int .i64 0, .int .i64 0, .int .i64 0, .int .i64 0, .int .i64 0, .int .i64 0, .int .u64 0, .int .i64 0, .int .i64 0, .int .i64 0, .int .i64 0, .int .i64 0, .int .i64 0, .int .i64 0] rfl rfl 123 _ HRR.out (by kernel_rfl) (by rfl) (by kernel_rfl) ?_)
        exact bodyPost_ret (results_cell_tmp_row rfl _ _ w.heap.size 123 _ _ _ rfl (setRow_heap _ _ _ _ _ _ HRR.out) Try.underlying123 rfl (by kernel_rfl)) rfl ⟨by rw [HNE.out]; rfl, HKR.out.setRow (.inr (Nat.le_refl _)) _⟩

theorem hunpack_any (gen : Int) (x : Value) (l : List UInt8) (w : World) (hx : Bytes w x l) : Calls Try.prog 64 #[.int .i64 gen, x] w fun e w' => e = .returned (.tuple (if Un63 gen l then #[(of63 gen l).v, .int .i64 0] else #[hd0.v, .int .i64 5])) ∧ Keep [] w w' := by
  by_cases hl : l.length = 63
  · refine (hunpack_yes gen x l w hx hl).mono ?_
    rintro e w' ⟨rfl, k⟩
    refine ⟨?_, k⟩
    by_cases hc : (of63 gen l).code = 0
    · rw [if_pos hc, if_pos ⟨hl, hc⟩]
    · rw [if_neg hc, if_neg (fun h => hc h.2)]
  · refine (hunpack_no gen x l w hx hl).mono ?_
    rintro e w' ⟨rfl, k⟩
    refine ⟨?_, k⟩
    rw [if_neg (fun h => hl h.1)]

set_option maxRecDepth 100000 in
set_option maxHeartbeats 1000000 in
set_option maxHeartbeats 4000000 in
theorem hsave_any (w : World) (D : List Nat) (g : Nat) (m : Dev) (hd : DV w D g m) (hacts : m.acts ≤ 1000000000) (h : Hd) (hs : h.p.seed < 18446744073709551616) (hg : h.gen ≤ 9223372036854775807) :
    Calls Try.prog 68 #[.pointer (some ⟨g, 0, none⟩), h.v] w fun e w' => e = .returned (.int .i64 (hsave m h).2) ∧ ∃ D', DV w' D' g (hsave m h).1 ∧ Grew w D D' ∧ Keep D w w' := by
  have hP := hpack_any h hs
  have hF := fun w hd => hfits_any h w D g m hd
  have hgt : h.code = 0 → 1 ≤ h.gen := fun e => (Hd.code_zero e).2.1
  have hsv : hsave m h = if h.code ≠ 0 then (m, h.code) else if h.p.sec = m.n ∧ h.p.size = m.sz then lput m (h.gen % 2) 1 (h.gen % 2) h.gen h.pack else (m, 12) := rfl
  have hpl := h.pack_len
  have hv : h.v = .agg h.cells := rfl
  obtain ⟨cd, hcd⟩ : ∃ cd, h.code = cd := ⟨_, rfl⟩
  rw [hcd] at hP hgt hsv
  obtain ⟨F, hFF⟩ : ∃ F : Bool, decide (h.p.sec = (m.n : Int) ∧ h.p.size = (m.sz : Int)) = F := ⟨_, rfl⟩
  rw [hFF] at hF
  have hsv1 : cd ≠ 0 → hsave m h = (m, cd) := fun e => by rw [hsv, if_pos e]
  have hsv2 : cd = 0 → F = false → hsave m h = (m, 12) := fun e f => by
    rw [f, decide_eq_false_iff_not] at hFF
    rw [hsv, if_neg (by simp [e]), if_neg hFF]
  have hsv3 : cd = 0 → F = true → hsave m h = lput m (h.gen % 2) 1 (h.gen % 2) h.gen h.pack := fun e f => by
    rw [f, decide_eq_true_eq] at hFF
    rw [hsv, if_neg (by simp [e]), if_pos hFF]
  clear hsv hcd hFF
  generalize hsave m h = SV at hsv1 hsv2 hsv3 ⊢
  obtain ⟨PK, hPK⟩ : ∃ PK, h.pack = PK := ⟨_, rfl⟩
  rw [hPK] at hP hpl hsv3
  clear hPK
  obtain ⟨⟨sec, size, reg, rs, lg, dep, mem, seed⟩, gen, page, stamp, hdep, log, hreg, time⟩ := h
  simp only [Hd.v, Hd.cells] at *
  have HPL := Lib.hid hpl
  clear hv hpl
  have HP := Lib.hid hP
  have HF := Lib.hid hF
  have HGT := Lib.hid hgt
  have S1 := Lib.hid hsv1
  have S2 := Lib.hid hsv2
  have S3 := Lib.hid hsv3
  have HD := Lib.hid hd
  clear hP hF hgt hsv1 hsv2 hsv3 hd
  have hA := heap_alloc_new w (.cells #[.int .i64 sec, .int .i64 size, .int .i64 reg, .int .i64 rs, .int .i64 lg, .int .i64 dep, .int .i64 mem, .int .u64 (seed : Int), .int .i64 gen, .int .i64 page, .int .i64 stamp, .int .i64 hdep, .int .i64 log, .int .i64 hreg, .int .i64 time] 123)
  have hK := (Keep.refl [] w).alloc (.cells #[.int .i64 sec, .int .i64 size, .int .i64 reg, .int .i64 rs, .int .i64 lg, .int .i64 dep, .int .i64 mem, .int .u64 (seed : Int), .int .i64 gen, .int .i64 page, .int .i64 stamp, .int .i64 hdep, .int .i64 log, .int .i64 hreg, .int .i64 time] 123)
  have HA := Lib.hid hA
  have HK := Lib.hid hK
  clear hA hK
  go_enter Try.func68, Try.ntmps68
  go_wp2_with (refine wpList_load_row rfl 123 (.tmp 3) rfl w.heap.size rfl 123 _ _ _ HA.out Try.underlying123 rfl (by kernel_rfl) ?_)
  refine (HP.out _).mono ?_
  rintro e w2 ⟨v2, rfl, o2, k2⟩
  have hA2 := k2.blk (by simp) HA.out
  have hK2 := HK.out.trans k2
  have HA2 := Lib.hid hA2
  have HK2 := Lib.hid hK2
  clear hA2 hK2 k2
  by_cases hz : cd = 0
  · subst hz
    rw [if_pos rfl] at o2
    have ob := o2.bytes (by have := HPL.out; omega)
    obtain ⟨va, vc, rfl, -, hvm, -⟩ := ob.form
    have hd2 := HD.out.keep HK2.out (by simp)
    cases F with
    | false =>
      have hs := S2.out rfl rfl
      subst hs
      go_wp2_with (refine wpList_load_row rfl 123 (.tmp 3) rfl w.heap.size rfl 123 _ _ _ HA2.out Try.underlying123 rfl (by kernel_rfl) ?_)
      refine (HF.out _ hd2).mono ?_
      rintro e w3 ⟨rfl, k3⟩
      have hK3 := HK2.out.trans k3
      have HK3 := Lib.hid hK3
      clear hK3 k3 hd2 ob o2
      go_wp2
      go_ret
      exact ⟨rfl, D, HD.out.keep HK3.out (by simp), Grew.refl _ _, HK3.out.mono (by simp)⟩
    | true =>
      have hs := S3.out rfl rfl
      subst hs
      have hg1 := HGT.out rfl
      have u1 : Int.tmod gen 2 = gen % 2 := Int.tmod_eq_emod_of_nonneg (by omega)
      have u2 : IntKind.i64.wrap (gen % 2) = gen % 2 := i64_wrap (by omega) (by omega)
      go_wp2_with (refine wpList_load_row rfl 123 (.tmp 3) rfl w.heap.size rfl 123 _ _ _ HA2.out Try.underlying123 rfl (by kernel_rfl) ?_)
      refine (HF.out _ hd2).mono ?_
      rintro e w3 ⟨rfl, k3⟩
      have hK3 := HK2.out.trans k3
      have hA3 := k3.blk (by simp) HA2.out
      have hb3 := ob.keep k3 (by simp)
      have hd3 := hd2.keep k3 (by simp)
      have g8 := cell_of_row _ _ 8 _ _ _ hA3
      simp at g8
      have HK3 := Lib.hid hK3
      have HD3 := Lib.hid hd3
      have HB3 := Lib.hid hb3
      clear hK3 k3 hd2 ob o2 hA3 hd3 hb3
      go_wp2_with fail
      refine (leafPut_any _ D g m HD3.out hacts (gen % 2) 1 (gen % 2) gen hg _ PK HB3.out).mono ?_
      rintro e w4 ⟨rfl, D4, d4, g4, k4⟩
      go_wp2
      go_ret
      exact ⟨rfl, D4, d4, ⟨g4.1, fun b hb => (g4.2 b hb).elim .inl (fun h => .inr (Nat.le_trans HK3.out.size h))⟩, (HK3.out.mono (by simp)).trans k4⟩
  · have hz' : (cd != 0) = true := by simpa using hz
    have hs := S1.out hz
    subst hs
    have HZ := Lib.hid hz
    clear hz o2
    go_wp2
    go_ret
    exact ⟨rfl, D, HD.out.keep HK2.out (by simp), Grew.refl _ _, HK2.out.mono (by simp)⟩
end Go.Proofs.Ytijljdcpajjhhaa
