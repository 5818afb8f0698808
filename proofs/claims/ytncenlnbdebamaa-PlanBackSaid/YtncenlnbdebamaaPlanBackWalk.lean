import Derived.Test.YtncenlnbdebamaaPlanReadsWalk
/-! The walk of the law PlanBack. -/
namespace Go.Proofs.Ytncenlnbdebamaa
open Go.RowKit Sg
set_option linter.unusedSimpArgs false

theorem pack_flat (p : Pl) : p.pack = le (un p.sec) 4 ++ (le (un p.size) 4 ++ (le (un p.reg) 2 ++ (le (un p.rs) 2 ++ (le (un p.lg) 2 ++ (le (un p.dep) 2 ++ (le (un p.mem) 2 ++ le p.seed 8)))))) := by
  simp [Pl.pack, pk]
theorem un_small {n : Int} (h0 : 0 ≤ n) (h1 : n < 65536) : un n % 65536 = n.toNat ∧ un n % 4294967296 = n.toNat ∧ ((n.toNat : Nat) : Int) = n := by
  unfold un
  omega
theorem of26_pack (p : Pl) (hw : p.Within) (hs : p.seed < 18446744073709551616) : of26 p.pack = p := by
  have h := pack_flat p
  generalize p.pack = L at h ⊢
  obtain ⟨sec, size, reg, rs, lg, dep, mem, seed⟩ := p
  obtain ⟨⟨b1, b2⟩, ⟨b3, b4⟩, ⟨b5, b6⟩, ⟨b7, b8⟩, ⟨b9, b10⟩, ⟨b11, b12⟩, b13, b14⟩ := hw
  simp only at *
  have s1 := un_small (n := sec) (by omega) (by omega)
  have s2 := un_small (n := size) (by omega) (by omega)
  have s3 := un_small (n := reg) (by omega) (by omega)
  have s4 := un_small (n := rs) (by omega) (by omega)
  have s5 := un_small (n := lg) (by omega) (by omega)
  have s6 := un_small (n := dep) (by omega) (by omega)
  have s7 := un_small (n := mem) (by omega) (by omega)
  have t0 : L.take 4 = le (un sec) 4 := by rw [h, List.take_left' (le_len _ _)]
  have d4 : L.drop 4 = le (un size) 4 ++ (le (un reg) 2 ++ (le (un rs) 2 ++ (le (un lg) 2 ++ (le (un dep) 2 ++ (le (un mem) 2 ++ le seed 8))))) := by rw [h, List.drop_left' (le_len _ _)]
  have d8 : L.drop (8 + 2 * 0) = le (un reg) 2 ++ (le (un rs) 2 ++ (le (un lg) 2 ++ (le (un dep) 2 ++ (le (un mem) 2 ++ le seed 8)))) := by rw [show 8 + 2 * 0 = 4 + 4 from rfl, ← List.drop_drop, d4, List.drop_left' (le_len _ _)]
  have d10 : L.drop (8 + 2 * 1) = le (un rs) 2 ++ (le (un lg) 2 ++ (le (un dep) 2 ++ (le (un mem) 2 ++ le seed 8))) := by rw [show 8 + 2 * 1 = (8 + 2 * 0) + 2 from rfl, ← List.drop_drop, d8, List.drop_left' (le_len _ _)]
  have d12 : L.drop (8 + 2 * 2) = le (un lg) 2 ++ (le (un dep) 2 ++ (le (un mem) 2 ++ le seed 8)) := by rw [show 8 + 2 * 2 = (8 + 2 * 1) + 2 from rfl, ← List.drop_drop, d10, List.drop_left' (le_len _ _)]
  have d14 : L.drop (8 + 2 * 3) = le (un dep) 2 ++ (le (un mem) 2 ++ le seed 8) := by rw [show 8 + 2 * 3 = (8 + 2 * 2) + 2 from rfl, ← List.drop_drop, d12, List.drop_left' (le_len _ _)]
  have d16 : L.drop (8 + 2 * 4) = le (un mem) 2 ++ le seed 8 := by rw [show 8 + 2 * 4 = (8 + 2 * 3) + 2 from rfl, ← List.drop_drop, d14, List.drop_left' (le_len _ _)]
  have d18 : L.drop 18 = le seed 8 := by rw [show 18 = (8 + 2 * 4) + 2 from rfl, ← List.drop_drop, d16, List.drop_left' (le_len _ _)]
  unfold of26 pn
  rw [t0, d4, d8, d10, d12, d14, d16, d18]
  simp only [List.take_left' (le_len _ _), List.take_of_length_le (Nat.le_of_eq (le_len seed 8)), leOf_le, Nat.reducePow]
  rw [s1.2.1, s2.2.1, s3.1, s4.1, s5.1, s6.1, s7.1, s1.2.2, s2.2.2, s3.2.2, s4.2.2, s5.2.2, s6.2.2, s7.2.2, Nat.mod_eq_of_lt hs]

set_option maxRecDepth 100000 in
set_option maxHeartbeats 1000000 in
set_option maxHeartbeats 4000000 in
theorem planBackWalk (W : World) (p : Pl) (hp : p.In) :
    Calls Try.prog 12 #[p.v] W fun e W' => e = .returned (.bool true) ∧ Below W.heap.size W W' := by
  have hO := of06_any p
  have hF := fit_one p
  have hP := planPack_any p hp.2.2.2.2.2.2.2
  have hL := p.pack_len
  by_cases hf : p.Fits
  · rw [if_pos hf] at hF
    have hU := fun x w hx => planUnpack_yes x p.pack w hx hL
    have hrt := of26_pack p hf.1 hp.2.2.2.2.2.2.2
    rw [hrt, if_pos hf] at hU
    clear hrt hf hp
    generalize p.pack = L at hP hU hL
    obtain ⟨sec, size, reg, rs, lg, dep, mem, seed⟩ := p
    simp only [Pl.v, lay8] at *
    have HO := Lib.hid hO
    have HF := Lib.hid hF
    have HP := Lib.hid hP
    have HU := Lib.hid hU
    clear hO hF hP hU
    go_enter Try.func12, Try.ntmps12
    go_wp2_with fail
    refine (HO.out _).mono ?_
    rintro e w2 ⟨rfl, hk2⟩
    obtain ⟨la, lb, lc, ld, le', lf, lg', lh, hFc⟩ := HF.out w2
    go_wp2_with fail
    refine hFc.mono ?_
    rintro e w3 ⟨rfl, hk3⟩
    have hkk := hk2.trans hk3
    have hK3 := ((Keep.refl [] W).alloc _).trans hkk
    have hb0 := hkk.blk (by simp) (heap_alloc_new W _)
    have n3 : W.heap.size < w3.heap.size := (Array.getElem?_eq_some_iff.1 hb0).1
    have n1 : ¬ W.heap.size = w3.heap.size := by omega
    have n2 : ¬ w3.heap.size = W.heap.size := by omega
    have g0 := cell_of_row w3 _ 0 _ _ _ hb0
    have g1 := cell_of_row w3 _ 1 _ _ _ hb0
    have g2 := cell_of_row w3 _ 2 _ _ _ hb0
    have g3 := cell_of_row w3 _ 3 _ _ _ hb0
    have g4 := cell_of_row w3 _ 4 _ _ _ hb0
    have g5 := cell_of_row w3 _ 5 _ _ _ hb0
    have g6 := cell_of_row w3 _ 6 _ _ _ hb0
    have g7 := cell_of_row w3 _ 7 _ _ _ hb0
    simp at g0 g1 g2 g3 g4 g5 g6 g7
    clear hk2 hk3 hkk hFc
    have HB0 := Lib.hid hb0
    clear hb0
    go_wp2_with fail
    refine (HO.out _).mono ?_
    rintro e w4 ⟨rfl, hk4⟩
    go_wp2_with fail
    refine (HP.out _).mono ?_
    rintro e w5 ⟨v5, rfl, ho5, hk5⟩
    go_wp2_with fail
    refine (HU.out _ _ (ho5.bytes (by omega))).mono ?_
    rintro e w6 ⟨rfl, hk6⟩
    have hK36 := ((Keep.refl [] w3).alloc _).trans (hk4.trans (hk5.trans hk6))
    have hp6 := hK36.blk (by simp) HB0.out
    have hK6 := hK3.trans hK36
    clear g0 g1 g2 g3 g4 g5 g6 g7 hk4 hk5 hk6 hK36 ho5 HB0 n1 n2 n3 hK3
    have hKy := (Keep.refl [] w6).alloc (.cells #[.int .i64 sec, .int .i64 size, .int .i64 reg, .int .i64 rs, .int .i64 lg, .int .i64 dep, .int .i64 mem, .int .u64 (seed : Int)] 30)
    have hY := heap_alloc_new w6 (.cells #[.int .i64 sec, .int .i64 size, .int .i64 reg, .int .i64 rs, .int .i64 lg, .int .i64 dep, .int .i64 mem, .int .u64 (seed : Int)] 30)
    go_wp2_with fail
    refine wp_region_his [] [5, 9] (fun _ => 0) (by kernel_rfl) (by kernel_rfl) ?_
    intro w7 hk7 _
    have bx := hk7.blk (by simp) hY
    have bp := (hKy.trans hk7).blk (by simp) hp6
    have hK7 := hK6.trans (hKy.trans hk7)
    have ckx := fun i w' (h : Keep [] w7 w') => cell_of_row w' _ i _ _ _ (h.blk (by simp) bx)
    have ckp := fun i w' (h : Keep [] w7 w') => cell_of_row w' _ i _ _ _ (h.blk (by simp) bp)
    have x_0 := ckx 0
    have x_1 := ckx 1
    have x_2 := ckx 2
    have x_3 := ckx 3
    have x_4 := ckx 4
    have x_5 := ckx 5
    have x_6 := ckx 6
    have x_7 := ckx 7
    have p_0 := ckp 0
    have p_1 := ckp 1
    have p_2 := ckp 2
    have p_3 := ckp 3
    have p_4 := ckp 4
    have p_5 := ckp 5
    have p_6 := ckp 6
    have p_7 := ckp 7
    clear ckx ckp bx bp hk7 hKy hY hp6 hK6
    simp at x_0 x_1 x_2 x_3 x_4 x_5 x_6 x_7 p_0 p_1 p_2 p_3 p_4 p_5 p_6 p_7
    (repeat (first | (refine his_q rfl rfl (fun K hK => ?_); apply Exists.intro; refine ⟨fun w' hC => ?_, ?_⟩; ((try simp [Sg.upd] at hC); go_simp <;> rfl); go_simp; refine hK _ _ ?_; clear hK K) | (refine his_s rfl (fun K hK => ?_); go_simp; refine hK _ _ ?_; clear hK K)))
    (refine his_l rfl rfl (fun K hK => ?_); go_simp)
    refine (HO.out _).mono ?_
    rintro x w8 ⟨rfl, hk8⟩
    refine hK _ _ hk8 ?_
    clear hK K
    (repeat (first | (refine his_q rfl rfl (fun K hK => ?_); apply Exists.intro; refine ⟨fun w' hC => ?_, ?_⟩; ((try simp [Sg.upd] at hC); go_simp <;> rfl); go_simp; refine hK _ _ ?_; clear hK K) | (refine his_s rfl (fun K hK => ?_); go_simp; refine hK _ _ ?_; clear hK K)))
    (refine his_l rfl rfl (fun K hK => ?_); go_simp)
    refine (awake06_any _).mono ?_
    rintro x w9 ⟨rfl, hk9⟩
    refine hK _ _ hk9 ?_
    clear hK K
    (repeat (first | (refine his_q rfl rfl (fun K hK => ?_); apply Exists.intro; refine ⟨fun w' hC => ?_, ?_⟩; ((try simp [Sg.upd] at hC); go_simp <;> rfl); go_simp; refine hK _ _ ?_; clear hK K) | (refine his_s rfl (fun K hK => ?_); go_simp; refine hK _ _ ?_; clear hK K)))
    refine his_nil ?_
    go_wp2
    all_goals
      go_ret
      exact ⟨rfl, (hK7.trans (hk8.trans hk9)).below (Nat.le_refl _) (by simp)⟩
  · rw [if_neg hf] at hF
    obtain ⟨q, cd, hU, -⟩ := unp_both p.pack
    clear hf hp
    generalize p.pack = L at hP hU hL
    obtain ⟨sec, size, reg, rs, lg, dep, mem, seed⟩ := p
    obtain ⟨qsec, qsize, qreg, qrs, qlg, qdep, qmem, qseed⟩ := q
    simp only [Pl.v, lay8] at *
    have HO := Lib.hid hO
    have HF := Lib.hid hF
    have HP := Lib.hid hP
    have HU := Lib.hid hU
    clear hO hF hP hU
    go_enter Try.func12, Try.ntmps12
    go_wp2_with fail
    refine (HO.out _).mono ?_
    rintro e w2 ⟨rfl, hk2⟩
    obtain ⟨la, lb, lc, ld, le', lf, lg', lh, hFc⟩ := HF.out w2
    go_wp2_with fail
    refine hFc.mono ?_
    rintro e w3 ⟨rfl, hk3⟩
    have hkk := hk2.trans hk3
    have hK3 := ((Keep.refl [] W).alloc _).trans hkk
    have hb0 := hkk.blk (by simp) (heap_alloc_new W _)
    have n3 : W.heap.size < w3.heap.size := (Array.getElem?_eq_some_iff.1 hb0).1
    have n1 : ¬ W.heap.size = w3.heap.size := by omega
    have n2 : ¬ w3.heap.size = W.heap.size := by omega
    have g0 := cell_of_row w3 _ 0 _ _ _ hb0
    have g1 := cell_of_row w3 _ 1 _ _ _ hb0
    have g2 := cell_of_row w3 _ 2 _ _ _ hb0
    have g3 := cell_of_row w3 _ 3 _ _ _ hb0
    have g4 := cell_of_row w3 _ 4 _ _ _ hb0
    have g5 := cell_of_row w3 _ 5 _ _ _ hb0
    have g6 := cell_of_row w3 _ 6 _ _ _ hb0
    have g7 := cell_of_row w3 _ 7 _ _ _ hb0
    simp at g0 g1 g2 g3 g4 g5 g6 g7
    clear hk2 hk3 hkk hFc hb0
    go_wp2_with fail
    refine (HO.out _).mono ?_
    rintro e w4 ⟨rfl, hk4⟩
    go_wp2_with fail
    refine (HP.out _).mono ?_
    rintro e w5 ⟨v5, rfl, ho5, hk5⟩
    go_wp2_with fail
    refine (HU.out _ _ (ho5.bytes (by omega))).mono ?_
    rintro e w6 ⟨rfl, hk6⟩
    have hK6 := hK3.trans (((Keep.refl [] w3).alloc _).trans (hk4.trans (hk5.trans hk6)))
    clear g0 g1 g2 g3 g4 g5 g6 g7 hk4 hk5 hk6 ho5 n1 n2 n3 hK3
    go_wp2_with fail
    refine (awake06_any _).mono ?_
    rintro e w8 ⟨rfl, hk8⟩
    go_wp2_with fail
    go_ret
    exact ⟨rfl, ((hK6.alloc _).trans hk8).below (Nat.le_refl _) (by simp)⟩
end Go.Proofs.Ytncenlnbdebamaa
