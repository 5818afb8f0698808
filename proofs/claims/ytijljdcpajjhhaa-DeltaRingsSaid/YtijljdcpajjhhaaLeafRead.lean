import Derived.Test.YtijljdcpajjhhaaLeafRef
/-! The walk of leaf's Read. -/
namespace Go.Proofs.Ytijljdcpajjhhaa
open Go.RowKit Go.Shelf Sg
set_option linter.unusedSimpArgs false

theorem _root_.Sg.RS_setCell {W w : World} {g b : Nat} {xs : List UInt8} {bad : Bool} {cs : Array Value} {t : TypeId} {fr : Nat × Nat} (h : RS W w g xs bad) (hb : w.heap[b]? = some (.cells cs t fr)) (hne : g ≠ b) (hW : W.heap.size ≤ b)
    (hcs : ∀ (i : Nat) (x : Value), cs[i]? = some x → ∀ n : Int, x ≠ Value.int .u8 n) (j : Nat) (u : Value) : RS W (w.setCell ⟨b, j, none⟩ u) g xs bad := by
  obtain ⟨h1, h2, v, h3, h4, h5⟩ := h
  exact ⟨h1.setCell (.inr hW) _, h2, v, (Below.heap_setCell _ _ _ _ (show g ≠ b from hne)).trans h3, h4.setCell (fun hl => h4.ne_row hl hb hcs) _, h5⟩

/-- what a leaf's sector reads as -/
def lk (l : List UInt8) : Nat := leOf (l.take 1)
def ln (l : List UInt8) : Nat := leOf ((l.drop 1).take 2)
def lp (l : List UInt8) : Nat := leOf ((l.drop 3).take 4)
def ls (l : List UInt8) : Nat := leOf ((l.drop 7).take 8)
def ll (l : List UInt8) : List UInt8 := (l.drop 15).take (ln l)
def LeafOk (l : List UInt8) : Prop := (96 ≤ l.length ∧ l.length ≤ 512) ∧ ln l + 19 ≤ l.length ∧ ls l ≤ 9223372036854775807 ∧ lcode l.length (lk l) (lp l) (ls l) (ln l) = 0 ∧ lbuild l.length (lk l) (lp l) (ls l) (ll l) = l
instance (l : List UInt8) : Decidable (LeafOk l) := by unfold LeafOk; infer_instance
def lerr (l : List UInt8) : Int := if LeafOk l then 0 else if 96 ≤ l.length ∧ l.length ≤ 512 then 5 else 3
def leaf0 : Value := .agg #[.int .i64 0, .int .i64 0, .int .i64 0, .slice none 0 0]

theorem wrap64_small {n : Nat} (h : n < 4294967296) : RowKit.wrap64 (n : Int) = (n : Int) ∧ IntKind.i64.wrap (n : Int) = (n : Int) := ⟨by unfold RowKit.wrap64; omega, i64_wrap_nat (by omega)⟩
theorem wrap64_eq (n : Int) : IntKind.i64.wrap n = RowKit.wrap64 n := by
  simp only [IntKind.wrap, IntKind.bits, IntKind.signed, RowKit.wrap64]
  simp
  split <;> omega
theorem wrap64_u64 {n : Nat} {si : Int} (h : RowKit.wrap64 (n : Int) = si) (hn : n < 18446744073709551616) : IntKind.i64.wrap (n : Int) = si ∧ (-9223372036854775808 ≤ si ∧ si ≤ 9223372036854775807) ∧ (n ≤ 9223372036854775807 → si = n) ∧ (0 ≤ si → n ≤ 9223372036854775807) := by
  rw [wrap64_eq]
  subst h
  refine ⟨rfl, ?_, ?_, ?_⟩ <;> unfold RowKit.wrap64 <;> omega

set_option maxRecDepth 100000 in
set_option maxHeartbeats 1000000 in
set_option maxHeartbeats 4000000 in
theorem leafRead_size (x : Value) (l : List UInt8) (w : World) (hx : Bytes w x l) (hl : ¬ (96 ≤ l.length ∧ l.length ≤ 512)) : Calls Try.prog 84 #[x] w fun e w' => e = .returned (.tuple #[leaf0, .int .i64 3]) ∧ Keep [] w w' := by
  obtain ⟨ao, cap, rfl, hlc, hm, hcap⟩ := hx.form
  have hM := leafMay_any (l.length : Int)
  rw [decide_eq_false (by omega)] at hM
  have hA := heap_alloc_new w (.cells #[.int .i64 0, .int .i64 0, .int .i64 0, .slice none 0 0] 39)
  go_enter Try.func84, Try.ntmps84
  go_wp2_with fail
  refine (hM _).mono ?_
  rintro e w1 ⟨rfl, rfl⟩
  go_wp2
  exact bodyPost_ret (results_cell_tmp_row rfl _ _ w.heap.size 39 _ _ _ rfl hA Try.underlying39 rfl (by kernel_rfl)) rfl ⟨rfl, (Keep.refl [] w).alloc _⟩

set_option maxRecDepth 100000 in
set_option maxHeartbeats 1000000 in
set_option maxHeartbeats 4000000 in
theorem leafRead_in (x : Value) (l : List UInt8) (w : World) (hx : Bytes w x l) (hl : 96 ≤ l.length ∧ l.length ≤ 512) : Calls Try.prog 84 #[x] w fun e w' => Keep [] w w' ∧
    ((LeafOk l ∧ ∃ v, e = .returned (.tuple #[.agg #[.int .i64 (lk l : Int), .int .i64 (lp l : Int), .int .i64 (ls l : Int), v], .int .i64 0]) ∧ Bytes w' v (ll l)) ∨ (¬ LeafOk l ∧ e = .returned (.tuple #[leaf0, .int .i64 5]))) := by
  obtain ⟨ao, cap, rfl, hlc, hm, hcap⟩ := hx.form
  have hM := leafMay_any (l.length : Int)
  rw [decide_eq_true (by omega)] at hM
  have hOK : LeafOk l ↔ (ln l + 19 ≤ l.length ∧ ls l ≤ 9223372036854775807 ∧ lcode l.length (lk l) (lp l) (ls l) (ln l) = 0 ∧ lbuild l.length (lk l) (lp l) (ls l) (ll l) = l) := ⟨fun h => h.2, fun h => ⟨hl, h⟩⟩
  have hll : ll l = (l.drop 15).take (ln l) := rfl
  have a1 : lk l < 256 := take_lt l 1
  have a2 : ln l < 65536 := take_lt (l.drop 1) 2
  have a3 : lp l < 4294967296 := take_lt (l.drop 3) 4
  have a4 : ls l < 18446744073709551616 := take_lt (l.drop 7) 8
  have r1 : rdN (l, false) 1 = (lk l, l.drop 1, false) := rdN_eq (by simp; omega)
  have r2 : rdN (l.drop 1, false) 2 = (ln l, l.drop 3, false) := by rw [rdN_eq (by simp; omega)]; simp only [List.drop_drop, ln]
  have r3 : rdN (l.drop 3, false) 4 = (lp l, l.drop 7, false) := by rw [rdN_eq (by simp; omega)]; simp only [List.drop_drop, lp]
  have r4 : rdN (l.drop 7, false) 8 = (ls l, l.drop 15, false) := by rw [rdN_eq (by simp; omega)]; simp only [List.drop_drop, ls]
  have hdl : (l.drop 15).length = l.length - 15 := by rw [List.length_drop]
  obtain ⟨F, hF⟩ : ∃ F : Prop, F = LeafOk l := ⟨_, rfl⟩
  rw [← hF] at hOK ⊢
  generalize ll l = LD at *
  generalize lk l = kn at *
  generalize lp l = pn at *
  generalize ls l = sn at *
  generalize ln l = nn at *
  obtain ⟨si, hsi⟩ : ∃ si, RowKit.wrap64 (sn : Int) = si := ⟨_, rfl⟩
  obtain ⟨hsi', hs1, hs2, hs3⟩ := wrap64_u64 hsi a4
  have HS2 := Lib.hid hs2
  have HS3 := Lib.hid hs3
  have HOK := Lib.hid hOK
  obtain ⟨u1, u2⟩ := wrap64_small (Nat.lt_trans a1 (by decide))
  obtain ⟨u3, u4⟩ := wrap64_small (Nat.lt_trans a2 (by decide))
  obtain ⟨u5, u6⟩ := wrap64_small a3
  clear hOK hs2 hs3 hF
  obtain ⟨hs11, hs12⟩ := hs1
  have hK0 := (Keep.refl [] w).alloc (.cells #[.int .i64 0, .int .i64 0, .int .i64 0, .slice none 0 0] 39)
  have hA := heap_alloc_new w (.cells #[.int .i64 0, .int .i64 0, .int .i64 0, .slice none 0 0] 39)
  go_enter Try.func84, Try.ntmps84
  go_wp2_with fail
  refine (hM _).mono ?_
  rintro e w0 ⟨rfl, rfl⟩
  go_wp2_with fail
  refine (newReader_any _ l _ (hx.keep hK0 (by simp)) (by omega)).mono ?_
  rintro e w1 ⟨g, rfl, s1⟩
  have hA1 := s1.1.blk (by simp) hA
  have hg1 : g < w1.heap.size := by obtain ⟨_, _, _, h, _⟩ := s1; exact (Array.getElem?_eq_some_iff.1 h).1
  have hsz1 : w.heap.size + 1 ≤ w1.heap.size := by have := s1.1.size; simpa using this
  have hX := heap_alloc_new w1 (.cells #[.int .i64 0, .int .i64 0, .int .i64 0, .slice none 0 0] 39)
  have s1' := s1.keep ((Keep.refl [] w1).alloc (.cells #[.int .i64 0, .int .i64 0, .int .i64 0, .slice none 0 0] 39))
  have hne : g ≠ w1.heap.size := by omega
  have hWX : (w.alloc (.cells #[.int .i64 0, .int .i64 0, .int .i64 0, .slice none 0 0] 39)).heap.size ≤ w1.heap.size := by simp; omega
  have hslot : ∀ (a : Option Addr) (n c : Nat) (m : Int), Value.slice a n c ≠ .int .u8 m := by intro a n c m h; cases h
  have hwX : w.heap.size < w1.heap.size := by omega
  clear s1 hA hK0 hg1 hsz1 hM
  have fin5 : ∀ w', Keep [] w w' → w'.heap[w.heap.size]? = some (.cells #[.int .i64 0, .int .i64 0, .int .i64 0, .slice none 0 0] 39) → ¬ F → True := fun _ _ _ _ => trivial
  clear fin5
  go_wp2_with fail
  have c := readNumber_any _ _ g (l, false) s1' 1 (by omega)
  rw [r1] at c
  refine c.mono ?_
  clear c s1' r1
  rintro e w2 ⟨rfl, s2, k2⟩
  have hX2 := k2.blk (by simp; omega) hX
  have f2 := frozen_of_row w2 _ 0 _ _ hX2
  have g2 := cell_of_row w2 _ 0 _ _ _ hX2
  simp at g2
  have s2' := RS_setCell s2 hX2 hne hWX (nu4 0 0 0 _ (hslot _ _ _)) 0 (.int .i64 (kn : Int))
  have hX2' := heap_setCell_same w2 w1.heap.size 0 _ _ (.int .i64 (kn : Int)) hX2
  simp at hX2'
  have HXX2 := Lib.hid hX2'
  have S2 := Lib.hid s2'
  clear s2 s2' k2 hX hX2 hX2'
  go_wp2_with fail
  have c := readNumber_any _ _ g (l.drop 1, false) S2.out 2 (by omega)
  rw [r2] at c
  refine c.mono ?_
  clear c S2 r2 f2 g2
  rintro e w3 ⟨rfl, s3, k3⟩
  have hX3 := k3.blk (by simp; omega) HXX2.out
  clear HXX2 k3
  go_wp2_with fail
  have c := readNumber_any _ _ g (l.drop 3, false) s3 4 (by omega)
  rw [r3] at c
  refine c.mono ?_
  clear c s3 r3
  rintro e w4 ⟨rfl, s4, k4⟩
  have hX4 := k4.blk (by simp; omega) hX3
  have f4 := frozen_of_row w4 _ 1 _ _ hX4
  have g4 := cell_of_row w4 _ 1 _ _ _ hX4
  simp at g4
  have s4' := RS_setCell s4 hX4 hne hWX (nu4 (kn : Int) 0 0 _ (hslot _ _ _)) 1 (.int .i64 (pn : Int))
  have hX4' := heap_setCell_same w4 w1.heap.size 1 _ _ (.int .i64 (pn : Int)) hX4
  simp at hX4'
  have HXX4 := Lib.hid hX4'
  have S4 := Lib.hid s4'
  clear s4 s4' k4 hX3 hX4 hX4'
  go_wp2_with fail
  have c := readNumber_any _ _ g (l.drop 7, false) S4.out 8 (by omega)
  rw [r4] at c
  refine c.mono ?_
  clear c S4 r4 f4 g4
  rintro e w5 ⟨rfl, s5, k5⟩
  have hX5 := k5.blk (by simp; omega) HXX4.out
  have f5 := frozen_of_row w5 _ 2 _ _ hX5
  have g5 := cell_of_row w5 _ 2 _ _ _ hX5
  simp at g5
  have s5' := RS_setCell s5 hX5 hne hWX (nu4 (kn : Int) (pn : Int) 0 _ (hslot _ _ _)) 2 (.int .i64 si)
  have hX5' := heap_setCell_same w5 w1.heap.size 2 _ _ (.int .i64 si) hX5
  simp at hX5'
  have HXX5 := Lib.hid hX5'
  have S5 := Lib.hid s5'
  clear s5 s5' k5 hX5 hX5' HXX4
  go_wp2_with fail
  have c := readRaw_any _ _ g (l.drop 15, false) S5.out nn
  obtain ⟨r5, hr5⟩ : ∃ r, rdR (l.drop 15, false) nn = r := ⟨_, rfl⟩
  rw [hr5] at c
  refine c.mono ?_
  clear c S5 f5 g5
  rintro e w6 ⟨v6, rfl, o6, s6, k6⟩
  have hl6 : r5.1.length ≤ nn := by rw [← hr5]; exact rdR_len _ _
  have hX6 := k6.blk (by simp; omega) HXX5.out
  have f6 := frozen_of_row w6 _ 3 _ _ hX6
  have g6 := cell_of_row w6 _ 3 _ _ _ hX6
  simp at g6
  have b6 := o6.bytes (Nat.le_trans hl6 (Nat.le_trans (Nat.le_of_lt a2) (by decide)))
  obtain ⟨a6, c6, rfl, -⟩ := b6.form
  have s6' := RS_setCell s6 hX6 hne hWX (nu4 (kn : Int) (pn : Int) si _ (hslot _ _ _)) 3 (.slice a6 r5.1.length c6)
  have b6' := b6.setCell (p := ⟨w1.heap.size, 3, none⟩) (fun h => b6.ne_row h hX6 (nu4 (kn : Int) (pn : Int) si _ (hslot _ _ _))) (.slice a6 r5.1.length c6)
  have hX6' := heap_setCell_same w6 w1.heap.size 3 _ _ (.slice a6 r5.1.length c6) hX6
  simp at hX6'
  have hA6 := (s6'.1).blk (by simp) (heap_alloc_new w (.cells #[.int .i64 0, .int .i64 0, .int .i64 0, .slice none 0 0] 39))
  have hK6 := ((Keep.refl [] w).alloc (.cells #[.int .i64 0, .int .i64 0, .int .i64 0, .slice none 0 0] 39)).trans s6'.1
  have hx6 := hx.keep hK6 (by simp)
  have HXX6 := Lib.hid hX6'
  have HA6 := Lib.hid hA6
  have S6 := Lib.hid s6'
  have B6 := Lib.hid b6'
  clear s6 s6' k6 hX6 hX6' b6 b6' o6 hA6 HXX5 hA1
  go_wp2_with fail
  refine (bad_any _ _ g _ _ S6.out).mono ?_
  rintro e w7 ⟨rfl, rfl⟩
  by_cases hbad : nn ≤ l.length - 15
  · have e5 : r5 = (LD, (l.drop 15).drop nn, false) := by rw [← hr5, rdR_eq (by rw [hdl]; exact hbad), ← hll]
    subst e5
    have hLD : LD.length = nn := by rw [hll, List.length_take, hdl]; exact Nat.min_eq_left hbad
    have hx7 : w6.heap.size = w6.heap.size := rfl
    have R7 := HXX6.out
    have A7 := HA6.out
    have b7 := B6.out
    simp only at R7 A7 b7 hK6 hx6
    clear HXX6 HA6 B6 S6 hx7 hr5 hl6
    generalize w6.setCell ⟨w1.heap.size, 3, none⟩ (.slice a6 LD.length c6) = w7 at R7 A7 b7 hK6 hx6 ⊢
    have hR := lright_any (l.length : Int) (kn : Int) (pn : Int) si _ LD w7 b7
    obtain ⟨rc, hrc⟩ : ∃ rc, lcode (l.length : Int) (kn : Int) (pn : Int) si LD.length = rc := ⟨_, rfl⟩
    rw [hrc] at hR
    have HDL := Lib.hid hdl
    have HLL := Lib.hid hll
    clear hdl hll
    have g0 := cell_of_row w7 _ 0 _ _ _ R7
    have g1 := cell_of_row w7 _ 1 _ _ _ R7
    have g2 := cell_of_row w7 _ 2 _ _ _ R7
    have g3 := cell_of_row w7 _ 3 _ _ _ R7
    simp at g0 g1 g2 g3
    have HLD := Lib.hid hLD
    clear hLD
    by_cases hz : rc = 0
    · subst hz
      obtain rfl : si = (sn : Int) := HS2.out (HS3.out (lcode_zero hrc).2.2.2.1)
      have hsn := HS3.out (lcode_zero hrc).2.2.2.1
      have hln : nn + 19 ≤ l.length := by have := (lcode_zero hrc).2.2.2.2; rw [HLD.out] at this; omega
      have HRC := Lib.hid hrc
      clear hrc
      go_wp2_with fail
      refine hR.mono ?_
      rintro e w8 ⟨rfl, k8⟩
      have hK8 := hK6.trans k8
      have R8 := k8.blk (by simp) R7
      have A8 := k8.blk (by simp) A7
      have b8 := b7.keep k8 (by simp)
      have hx8 := hx6.keep k8 (by simp)
      clear R7 A7 b7 hx6 hK6 k8 g0 g1 g2 g3 hR
      have g0 := cell_of_row w8 _ 0 _ _ _ R8
      have g1 := cell_of_row w8 _ 1 _ _ _ R8
      have g2 := cell_of_row w8 _ 2 _ _ _ R8
      have g3 := cell_of_row w8 _ 3 _ _ _ R8
      simp at g0 g1 g2 g3
      have hB := lbuild_any (l.length : Int) (kn : Int) (pn : Int) (sn : Int) hs12 _ LD w8 b8
      rw [HRC.out, if_pos rfl] at hB
      simp only [Int.toNat_natCast] at hB
      go_wp2_with fail
      refine hB.mono ?_
      rintro e w9 ⟨v9, rfl, o9, k9⟩
      have hK9 := hK8.trans k9
      have R9 := k9.blk (by simp) R8
      have A9 := k9.blk (by simp) A8
      have b9 := b8.keep k9 (by simp)
      have hx9 := hx8.keep k9 (by simp)
      have hlen : (lbuild l.length kn pn sn LD).length = l.length := lbuild_len _ _ _ _ _ hl.1 (by rw [HLD.out]; exact hln)
      have hE := equal_any v9 _ _ l w9 (o9.bytes (by rw [hlen]; exact hm)) hx9
      by_cases hEq : lbuild l.length kn pn sn LD = l
      · rw [decide_eq_true hEq] at hE
        have hF : F := HOK.out.2 ⟨hln, hsn, by rw [← HLD.out]; exact HRC.out, hEq⟩
        clear R8 A8 b8 hx8 hK8 k9 g0 g1 g2 g3 hB hEq o9 hlen hx9
        have g0 := cell_of_row w9 _ 0 _ _ _ R9
        have g1 := cell_of_row w9 _ 1 _ _ _ R9
        have g2 := cell_of_row w9 _ 2 _ _ _ R9
        have g3 := cell_of_row w9 _ 3 _ _ _ R9
        simp at g0 g1 g2 g3
        go_wp2_with fail
        refine hE.mono ?_
        rintro e w10 ⟨rfl, rfl⟩
        go_wp2_with (first | (refine wpList_load_row rfl 39 (.tmp 5) rfl w1.heap.size rfl 39 _ _ _ R9 Try.underlying39 rfl (by kernel_rfl) ?_) | (refine wpList_store_row rfl 39 (.tmp 2) _ rfl w.heap.size _ rfl rfl 39 _ A9 (by kernel_rfl) (by rfl) (by kernel_rfl) ?_))
        refine bodyPost_ret (results_cell_tmp_row rfl _ _ w.heap.size 39 _ _ _ rfl (setRow_heap _ _ _ _ _ _ A9) Try.underlying39 rfl (by kernel_rfl)) rfl ⟨hK9.setRow (.inr (Nat.le_refl _)) _, .inl ⟨hF, _, rfl, ?_⟩⟩
        exact bytes_setRow b9 (fun h => b9.ne_row h A9 (nu4 0 0 0 _ (hslot _ _ _))) _
      · rw [decide_eq_false hEq] at hE
        have HEq := Lib.hid hEq
        clear R8 A8 b8 hx8 hK8 k9 g0 g1 g2 g3 hB hEq o9 hlen hx9
        go_wp2_with fail
        refine hE.mono ?_
        rintro e w10 ⟨rfl, rfl⟩
        go_wp2_with (refine wpList_store_row rfl 39 (.tmp 2) _ rfl w.heap.size _ rfl rfl 39 _ A9 (by kernel_rfl) (by rfl) (by kernel_rfl) ?_)
        refine bodyPost_ret (results_cell_tmp_row rfl _ _ w.heap.size 39 #[.int .i64 0, .int .i64 0, .int .i64 0, .slice none 0 0] _ _ rfl (setRow_heap _ _ _ _ _ _ A9) Try.underlying39 rfl (by kernel_rfl)) rfl ⟨hK9.setRow (.inr (Nat.le_refl _)) _, .inr ⟨fun h => ?_, rfl⟩⟩
        exact HEq.out (HOK.out.1 h).2.2.2
    · have hz' : (rc != 0) = true := by simpa using hz
      have HRC := Lib.hid hrc
      have HZ := Lib.hid hz
      clear hrc hz
      go_wp2_with fail
      refine hR.mono ?_
      rintro e w8 ⟨rfl, k8⟩
      have hK8 := hK6.trans k8
      have A8 := k8.blk (by simp) A7
      clear R7 A7 b7 hx6 hK6 k8 g0 g1 g2 g3 hR
      go_wp2_with (refine wpList_store_row rfl 39 (.tmp 2) _ rfl w.heap.size _ rfl rfl 39 _ A8 (by kernel_rfl) (by rfl) (by kernel_rfl) ?_)
      refine bodyPost_ret (results_cell_tmp_row rfl _ _ w.heap.size 39 #[.int .i64 0, .int .i64 0, .int .i64 0, .slice none 0 0] _ _ rfl (setRow_heap _ _ _ _ _ _ A8) Try.underlying39 rfl (by kernel_rfl)) rfl ⟨hK8.setRow (.inr (Nat.le_refl _)) _, .inr ⟨fun h => ?_, rfl⟩⟩
      have h4 := HOK.out.1 h
      apply HZ.out
      rw [← HRC.out, HLD.out, HS2.out h4.2.1]
      exact h4.2.2.1
  · have e5 : r5 = ([], [], true) := by rw [← hr5]; exact if_neg (by rw [hdl]; exact hbad)
    subst e5
    go_wp2_with (refine wpList_store_row rfl 39 (.tmp 2) _ rfl w.heap.size _ rfl rfl 39 _ HA6.out (by kernel_rfl) (by rfl) (by kernel_rfl) ?_)
    refine bodyPost_ret (results_cell_tmp_row rfl _ _ w.heap.size 39 #[.int .i64 0, .int .i64 0, .int .i64 0, .slice none 0 0] _ _ rfl (setRow_heap _ _ _ _ _ _ HA6.out) Try.underlying39 rfl (by kernel_rfl)) rfl ⟨hK6.setRow (.inr (Nat.le_refl _)) _, .inr ⟨fun h => ?_, rfl⟩⟩
    exact hbad (Nat.le_sub_of_add_le (Nat.le_trans (Nat.add_le_add_left (show 15 ≤ 19 by decide) nn) (HOK.out.1 h).1))
end Go.Proofs.Ytijljdcpajjhhaa
