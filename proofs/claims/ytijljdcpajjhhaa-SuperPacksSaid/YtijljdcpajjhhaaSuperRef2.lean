import Derived.Test.YtijljdcpajjhhaaSuperRef1
import Derived.Test.YtijljdcpajjhhaaSuperB
/-! The walk of the document's Unpack of a head. -/
namespace Go.Proofs.Ytijljdcpajjhhaa
open Go.RowKit Go.Shelf Sg
attribute [local go_sem] Oper.semAt_some
set_option linter.unusedSimpArgs false
set_option linter.unusedVariables false

theorem byte_at (l : List UInt8) (i : Nat) (h : i < l.length) : leOf ((l.drop i).take 1) = (l[i]).toNat := by
  rw [List.drop_eq_getElem_cons h]
  show l[i].toNat + 256 * 0 = _
  omega
theorem refh_of63 (gen : Int) (l : List UInt8) (n0 n1 n2 n3 : Nat) (h0 : leOf ((l.drop 30).take 8) = n0) (h1 : leOf ((l.drop 39).take 8) = n1) (h2 : leOf ((l.drop 47).take 8) = n2) (h3 : leOf ((l.drop 55).take 8) = n3)
    (b0 : n0 < 9223372036854775808) (b1 : n1 < 9223372036854775808) (b2 : n2 < 9223372036854775808) (b3 : n3 < 9223372036854775808) :
    of63 gen l = ⟨of26 (l.take 26), gen, leOf ((l.drop 26).take 4), n0, leOf ((l.drop 38).take 1), n1, n2, n3⟩ := by
  unfold of63
  rw [h0, h1, h2, h3, sg_small b0, sg_small b1, sg_small b2, sg_small b3]
theorem refh_big (gen : Int) (l : List UInt8) (j : Nat) (hj : j = 30 ∨ j = 39 ∨ j = 47 ∨ j = 55) (hb : ¬ leOf ((l.drop j).take 8) < 9223372036854775808) : ¬ Un63 gen l := by
  rintro ⟨-, hc⟩
  obtain ⟨-, -, -, o4, -, o7, o8, o9, -⟩ := Hd.code_zero hc
  have hlt := piece_lt l j 8
  have hn := sg_neg hb (by simpa using hlt)
  unfold of63 at o4 o7 o8 o9
  simp only at o4 o7 o8 o9
  rcases hj with rfl | rfl | rfl | rfl <;> omega

set_option maxRecDepth 100000 in
set_option maxHeartbeats 1000000 in
theorem refhUnpack_size (gen : Int) (x : Value) (l : List UInt8) (w : World) (hx : Bytes w x l) (hl : l.length ≠ 63) : Calls Try.prog 65 #[.int .i64 gen, x] w fun e w' => e = .returned (.tuple #[hd0.v, .int .i64 5]) ∧ Keep [] w w' := by
  obtain ⟨ao, cap, rfl, hlc, hm, hcap⟩ := hx.form
  have hq : ((l.length : Int) != 63) = true := by simp; omega
  have hA := heap_alloc_new w (.cells #[.int .i64 0, .int .i64 0, .int .i64 0, .int .i64 0, .int .i64 0, .int .i64 0, .int .i64 0, .int .u64 0, .int .i64 0, .int .i64 0, .int .i64 0, .int .i64 0, .int .i64 0, .int .i64 0, .int .i64 0] 118)
  simp only [hd0, Hd.v, Hd.cells]
  go_enter Try.func65, Try.ntmps65
  go_wp2
  exact bodyPost_ret (results_cell_tmp_row rfl _ _ w.heap.size 118 _ _ _ rfl hA Try.underlying118 rfl (by kernel_rfl)) rfl ⟨rfl, (Keep.refl [] w).alloc _⟩

set_option maxRecDepth 100000 in
set_option maxHeartbeats 1000000 in
set_option maxHeartbeats 8000000 in
theorem refhUnpack_in (gen : Int) (x : Value) (l : List UInt8) (w : World) (hx : Bytes w x l) (hl : l.length = 63) : Calls Try.prog 65 #[.int .i64 gen, x] w fun e w' => e = .returned (.tuple (if Un63 gen l then #[(of63 gen l).v, .int .i64 0] else #[hd0.v, .int .i64 5])) ∧ Keep [] w w' := by
  obtain ⟨ao, cap, rfl, hlc, hm, hcap⟩ := hx.form
  obtain ⟨b, o, rfl, hb, hcl⟩ := hx.spot (by omega)
  have hx' : ∀ w', Keep [] w w' → Bytes w' (.slice (some ⟨b, o, none⟩) l.length cap) l := fun w' h => hx.keep h (by simp)
  have HXB := Lib.hid hx'
  have h38 := fun w' (h : Keep [] w w') => h.cell (by simp) (hcl 38 (by omega))
  -- the calls
  have cU := fun w' (h : Keep [] w w') => refPlanUnpack_yes _ _ w' ((hx' w' h).take (k := 26) (by omega)) (by rw [List.length_take]; omega)
  have cOf : ∀ (f t : Nat), f < 63 → f ≤ t → t ≤ 63 → t - f ≤ 8 → ∀ w', Keep [] w w' → Calls Try.prog 85 #[.slice (some ⟨b, o + f, none⟩) (t - f) (cap - f)] w' (fun e w'' => e = .returned (.int .u64 (leOf ((l.drop f).take (t - f)) : Int)) ∧ w' = w'') := fun f t h1 h2 h3 h4 w' h =>
    refOf_any _ _ w' ((hx' w' h).sub (f := f) (t := t) (by omega) (by omega) (by omega)) (by rw [List.length_take, List.length_drop]; omega)
  have c0 := cOf 30 38 (by omega) (by omega) (by omega) (by omega)
  have c1 := cOf 39 47 (by omega) (by omega) (by omega) (by omega)
  have c2 := cOf 47 55 (by omega) (by omega) (by omega) (by omega)
  have c3 := cOf 55 63 (by omega) (by omega) (by omega) (by omega)
  have cP := cOf 26 30 (by omega) (by omega) (by omega) (by omega)
  clear cOf hcl
  simp only [Nat.reduceSub] at c0 c1 c2 c3 cP
  -- the plain law
  have l0 := refh_big gen l 30 (by simp)
  have l1 := refh_big gen l 39 (by simp)
  have l2 := refh_big gen l 47 (by simp)
  have l3 := refh_big gen l 55 (by simp)
  have hdd := byte_at l 38 (by omega)
  obtain ⟨d, hd⟩ : ∃ d : Nat, (l[38]'(by omega)).toNat = d := ⟨_, rfl⟩
  have hd255 : d < 256 := by rw [← hd]; exact UInt8.toNat_lt _
  rw [hd] at h38 hdd
  obtain ⟨n0, e0⟩ : ∃ n, leOf ((l.drop 30).take 8) = n := ⟨_, rfl⟩
  obtain ⟨n1, e1⟩ : ∃ n, leOf ((l.drop 39).take 8) = n := ⟨_, rfl⟩
  obtain ⟨n2, e2⟩ : ∃ n, leOf ((l.drop 47).take 8) = n := ⟨_, rfl⟩
  obtain ⟨n3, e3⟩ : ∃ n, leOf ((l.drop 55).take 8) = n := ⟨_, rfl⟩
  obtain ⟨pg, ep⟩ : ∃ n, leOf ((l.drop 26).take 4) = n := ⟨_, rfl⟩
  have hpg : pg < 4294967296 := by have := piece_lt l 26 4; rw [ep] at this; simpa using this
  have hof := refh_of63 gen l n0 n1 n2 n3 e0 e1 e2 e3
  rw [ep, hdd] at hof
  rw [e0] at c0 l0
  rw [e1] at c1 l1
  rw [e2] at c2 l2
  rw [e3] at c3 l3
  rw [ep] at cP
  have hnp : ¬ (of26 (l.take 26)).Fits → ¬ Un63 gen l := fun h u => by
    have := (Hd.code_zero u.2).1
    exact h this
  have hpk := pack_of63 gen l hl
  have hsd : (of26 (l.take 26)).seed < 18446744073709551616 := fits_seed _
  have hun : Un63 gen l ↔ (of63 gen l).code = 0 := ⟨fun u => u.2, fun u => ⟨hl, u⟩⟩
  generalize of26 (l.take 26) = p at hof hnp cU hsd
  obtain ⟨RES, hRES⟩ : ∃ RES, (if Un63 gen l then #[(of63 gen l).v, .int .i64 0] else #[hd0.v, .int .i64 5]) = RES := ⟨_, rfl⟩
  have ry : Un63 gen l → RES = #[(of63 gen l).v, .int .i64 0] := fun u => by rw [← hRES, if_pos u]
  have rn : ¬ Un63 gen l → RES = #[hd0.v, .int .i64 5] := fun u => by rw [← hRES, if_neg u]
  rw [hRES]
  have hfin : n0 < 9223372036854775808 → n1 < 9223372036854775808 → n2 < 9223372036854775808 → n3 < 9223372036854775808 →
      ∃ cd : Int, (∀ w', Calls Try.prog 63 #[Hd.v ⟨p, gen, pg, n0, d, n1, n2, n3⟩] w' fun e w'' => ∃ v', e = .returned (.tuple #[v', .int .i64 cd]) ∧ OwnB w'' w'.heap.size 5 v' (if cd = 0 then l else []) ∧ Keep [] w' w'') ∧ (cd = 0 → RES = #[Hd.v ⟨p, gen, pg, n0, d, n1, n2, n3⟩, .int .i64 0]) ∧ (cd ≠ 0 → RES = #[hd0.v, .int .i64 5]) := fun b0 b1 b2 b3 => by
    have ho := hof b0 b1 b2 b3
    refine ⟨(of63 gen l).code, fun w' => ?_, fun hz => ?_, fun hz => ?_⟩
    · have h := refhPack_any (of63 gen l) (by rw [ho]; exact hsd) w'
      rw [hpk, ho] at h
      rw [ho]
      exact h
    · rw [ry (hun.2 hz), ho]
    · exact rn (fun u => hz (hun.1 u))
  have hno1 : ¬ p.Fits → RES = #[hd0.v, .int .i64 5] := fun h => rn (hnp h)
  have m0 : ¬ n0 < 9223372036854775808 → RES = #[hd0.v, .int .i64 5] := fun h => rn (l0 h)
  have m1 : ¬ n1 < 9223372036854775808 → RES = #[hd0.v, .int .i64 5] := fun h => rn (l1 h)
  have m2 : ¬ n2 < 9223372036854775808 → RES = #[hd0.v, .int .i64 5] := fun h => rn (l2 h)
  have m3 : ¬ n3 < 9223372036854775808 → RES = #[hd0.v, .int .i64 5] := fun h => rn (l3 h)
  obtain ⟨F, hFF⟩ : ∃ F : Bool, decide p.Fits = F := ⟨_, rfl⟩
  have cU2 : ∀ w', Keep [] w w' → Calls Try.prog 117 #[.slice (some ⟨b, o, none⟩) 26 cap] w' fun e w'' => e = .returned (.tuple #[if F = true then p.v else plan0, .int .i64 (if F = true then 0 else 12)]) ∧ Keep [] w' w'' := fun w' h => by
    refine (cU w' h).mono ?_
    rintro e w'' ⟨rfl, k⟩
    refine ⟨?_, k⟩
    rw [← hFF]
    by_cases hf : p.Fits <;> simp [hf]
  have hno2 : F = false → RES = #[hd0.v, .int .i64 5] := fun e => hno1 (by rw [e, decide_eq_false_iff_not] at hFF; exact hFF)
  clear hx hx' cU hof hnp hun hpk hdd e0 e1 e2 e3 ep ry rn hRES hFF hsd hd
  obtain ⟨sec, size, reg, rs, lg, dep, mem, seed⟩ := p
  simp only [hd0, Hd.v, Hd.cells, Pl.v, plan0, show ((0 : Nat) : Int) = 0 from rfl] at *
  have hsz : cap ≥ 63 := by omega
  have hl63 : ((l.length : Int) != 63) = false := by simp; omega
  have z1 : (26 : Int) ≤ (cap : Int) := by omega
  have z30 : ¬ cap = 30 := by omega
  have z39 : ¬ cap = 39 := by omega
  have z47 : ¬ cap = 47 := by omega
  have z55 : ¬ cap = 55 := by omega
  have z26 : ¬ cap = 26 := by omega
  have y38 : (38 : Int) ≤ (cap : Int) := by omega
  have y47 : (47 : Int) ≤ (cap : Int) := by omega
  have y55 : (55 : Int) ≤ (cap : Int) := by omega
  have y63 : (63 : Int) ≤ (cap : Int) := by omega
  have y30 : (30 : Int) ≤ (cap : Int) := by omega
  have x38 : (38 : Int) < (l.length : Int) := by omega
  have HL := Lib.hid hl
  have C0 := Lib.hid c0
  have C1 := Lib.hid c1
  have C2 := Lib.hid c2
  have C3 := Lib.hid c3
  have CP := Lib.hid cP
  have CU := Lib.hid cU2
  have H38 := Lib.hid h38
  have L0 := Lib.hid m0
  have L1 := Lib.hid m1
  have L2 := Lib.hid m2
  have L3 := Lib.hid m3
  have HNO := Lib.hid hno2
  have HFIN := Lib.hid hfin
  clear hl c0 c1 c2 c3 cP cU2 h38 l0 l1 l2 l3 m0 m1 m2 m3 hno1 hno2 hfin
  have hA := heap_alloc_new w (.cells #[.int .i64 0, .int .i64 0, .int .i64 0, .int .i64 0, .int .i64 0, .int .i64 0, .int .i64 0, .int .u64 0, .int .i64 0, .int .i64 0, .int .i64 0, .int .i64 0, .int .i64 0, .int .i64 0, .int .i64 0] 118)
  have hK := (Keep.refl [] w).alloc (.cells #[.int .i64 0, .int .i64 0, .int .i64 0, .int .i64 0, .int .i64 0, .int .i64 0, .int .i64 0, .int .u64 0, .int .i64 0, .int .i64 0, .int .i64 0, .int .i64 0, .int .i64 0, .int .i64 0, .int .i64 0] 118)
  have HA := Lib.hid hA
  have HK := Lib.hid hK
  clear hA hK
  go_enter Try.func65, Try.ntmps65
  go_wp2_with fail
  refine (CU.out _ HK.out).mono ?_
  rintro e w2 ⟨rfl, k2⟩
  have hA2 := k2.blk (by simp) HA.out
  have hK2 := HK.out.trans k2
  clear k2
  cases F with
  | false =>
    have hr := Lib.hid (HNO.out rfl)
    have hA3 := ((Keep.refl [] w2).alloc (.cells #[.int .i64 0, .int .i64 0, .int .i64 0, .int .i64 0, .int .i64 0, .int .i64 0, .int .i64 0, .int .u64 0] 116)).blk (by simp) hA2
    have hK3 := hK2.alloc (.cells #[.int .i64 0, .int .i64 0, .int .i64 0, .int .i64 0, .int .i64 0, .int .i64 0, .int .i64 0, .int .u64 0] 116)
    have HA3 := Lib.hid hA3
    have HK3 := Lib.hid hK3
    clear hA2 hK2 hA3 hK3
    go_wp2_with (refine wpList_store_row rfl 118 (.tmp 4) (.tmp 24) rfl w.heap.size #[.int .i64 0, .int .i64 0, .int .i64 0, .int .i64 0, .int .i64 0, .int .i64 0, .int .i64 0, .int .u64 0, .int .i64 0, .int .i64 0, .int .i64 0, .int .i64 0, .int .i64 0, .int .i64 0, .int .i64 0] rfl rfl 118 _ HA3.out (by kernel_rfl) (by rfl) (by kernel_rfl) ?_)
    exact bodyPost_ret (results_cell_tmp_row rfl _ _ w.heap.size 118 #[.int .i64 0, .int .i64 0, .int .i64 0, .int .i64 0, .int .i64 0, .int .i64 0, .int .i64 0, .int .u64 0, .int .i64 0, .int .i64 0, .int .i64 0, .int .i64 0, .int .i64 0, .int .i64 0, .int .i64 0] _ _ rfl (setRow_heap _ _ _ _ _ _ HA3.out) Try.underlying118 rfl (by kernel_rfl)) rfl ⟨by rw [hr.out]; rfl, HK3.out.setRow (.inr (Nat.le_refl _)) _⟩
  | true =>
    simp only [if_true]
    have hA3 := ((Keep.refl [] w2).alloc (.cells #[.int .i64 sec, .int .i64 size, .int .i64 reg, .int .i64 rs, .int .i64 lg, .int .i64 dep, .int .i64 mem, .int .u64 (seed : Int)] 116)).blk (by simp) hA2
    have hP3 := heap_alloc_new w2 (.cells #[.int .i64 sec, .int .i64 size, .int .i64 reg, .int .i64 rs, .int .i64 lg, .int .i64 dep, .int .i64 mem, .int .u64 (seed : Int)] 116)
    have hK3 := hK2.alloc (.cells #[.int .i64 sec, .int .i64 size, .int .i64 reg, .int .i64 rs, .int .i64 lg, .int .i64 dep, .int .i64 mem, .int .u64 (seed : Int)] 116)
    have hs3 : (w2.alloc (.cells #[.int .i64 sec, .int .i64 size, .int .i64 reg, .int .i64 rs, .int .i64 lg, .int .i64 dep, .int .i64 mem, .int .u64 (seed : Int)] 116)).heap.size = w2.heap.size + 1 := World.size_alloc _ _
    have hlt : w.heap.size < w2.heap.size := (Array.getElem?_eq_some_iff.1 hA2).1
    have HA3 := Lib.hid hA3
    have HP3 := Lib.hid hP3
    have HK3 := Lib.hid hK3
    have HS3 := Lib.hid hs3
    clear hA2 hK2 hA3 hK3 hP3 hs3
    go_wp2_with fail
    refine wp_region_his [w2.heap.size + 1] [13, 14] (fun _ => 0) (by kernel_rfl) (by kernel_rfl) ?_
    intro w4 hk4 hh4
    have hA4 := hk4.blk (by simp) HA3.out
    have hP4 := hk4.blk (by simp) HP3.out
    have hs4 : w4.heap.size = w2.heap.size + 1 := by rw [hh4]; exact HS3.out
    have hK4 := HK3.out.trans hk4
    have G : ∀ {w'}, Keep [w2.heap.size + 1] w4 w' → Keep [] w w' := fun h => hK4.trans' h (fun b hb => by simp at hb; exact .inr (by omega))
    clear hk4 hh4 HA3 HP3 HK3 HS3
    have HA4 := Lib.hid hA4
    have HP4 := Lib.hid hP4
    have HK4 := Lib.hid hK4
    clear hA4 hP4 hK4
    (repeat (first | (refine his_q rfl rfl (fun K hK => ?_); apply Exists.intro; refine ⟨fun w' hC => ?_, ?_⟩; ((try simp [Sg.upd] at hC); go_simp <;> rfl); go_simp; refine hK _ _ ?_; clear hK K) | (refine his_s rfl (fun K hK => ?_); go_simp; refine hK _ _ ?_; clear hK K)))
    refine his_c rfl rfl (.int .u64 (n0 : Int)) (fun K hK => ?_)
    refine ⟨fun w' hC => Yields.call _ _ ?_ (by kernel_rfl) (C0.out w' (G hC)), ?_⟩
    · go_simp
    go_simp
    refine hK _ _ ?_
    clear hK K
    (repeat (first | (refine his_q rfl rfl (fun K hK => ?_); apply Exists.intro; refine ⟨fun w' hC => ?_, ?_⟩; ((try simp [Sg.upd] at hC); go_simp <;> rfl); go_simp; refine hK _ _ ?_; clear hK K) | (refine his_s rfl (fun K hK => ?_); go_simp; refine hK _ _ ?_; clear hK K)))
    refine his_c rfl rfl (.int .u64 (n1 : Int)) (fun K hK => ?_)
    refine ⟨fun w' hC => Yields.call _ _ ?_ (by kernel_rfl) (C1.out w' (G hC)), ?_⟩
    · go_simp
    go_simp
    refine hK _ _ ?_
    clear hK K
    (repeat (first | (refine his_q rfl rfl (fun K hK => ?_); apply Exists.intro; refine ⟨fun w' hC => ?_, ?_⟩; ((try simp [Sg.upd] at hC); go_simp <;> rfl); go_simp; refine hK _ _ ?_; clear hK K) | (refine his_s rfl (fun K hK => ?_); go_simp; refine hK _ _ ?_; clear hK K)))
    refine his_c rfl rfl (.int .u64 (n2 : Int)) (fun K hK => ?_)
    refine ⟨fun w' hC => Yields.call _ _ ?_ (by kernel_rfl) (C2.out w' (G hC)), ?_⟩
    · go_simp
    go_simp
    refine hK _ _ ?_
    clear hK K
    (repeat (first | (refine his_q rfl rfl (fun K hK => ?_); apply Exists.intro; refine ⟨fun w' hC => ?_, ?_⟩; ((try simp [Sg.upd] at hC); go_simp <;> rfl); go_simp; refine hK _ _ ?_; clear hK K) | (refine his_s rfl (fun K hK => ?_); go_simp; refine hK _ _ ?_; clear hK K)))
    refine his_c rfl rfl (.int .u64 (n3 : Int)) (fun K hK => ?_)
    refine ⟨fun w' hC => Yields.call _ _ ?_ (by kernel_rfl) (C3.out w' (G hC)), ?_⟩
    · go_simp
    go_simp
    refine hK _ _ ?_
    clear hK K
    (repeat (first | (refine his_q rfl rfl (fun K hK => ?_); apply Exists.intro; refine ⟨fun w' hC => ?_, ?_⟩; ((try simp [Sg.upd] at hC); go_simp <;> rfl); go_simp; refine hK _ _ ?_; clear hK K) | (refine his_s rfl (fun K hK => ?_); go_simp; refine hK _ _ ?_; clear hK K)))
    (refine his_l rfl rfl (fun K hK => ?_); go_simp)
    refine hK _ _ ((Keep.refl _ _).alloc _) ?_
    clear hK K
    have hQ5 := heap_alloc_new w4 (.cells #[.int .u64 0, .int .u64 0, .int .u64 0, .int .u64 0] 215)
    rw [hs4] at hQ5
    refine his_l rfl rfl (fun K hK => ?_)
    refine loudly_store_row 215 (.tmp 8) (.tmp 37) rfl (w2.heap.size + 1) #[.int .u64 (n0 : Int), .int .u64 (n1 : Int), .int .u64 (n2 : Int), .int .u64 (n3 : Int)] rfl rfl 215 _ hQ5 (by kernel_rfl) (by rfl) (by kernel_rfl) ?_
    refine hK _ _ ((Keep.refl _ _).setRow (.inl (by simp)) _) ?_
    clear hK K
    refine his_nil ?_
    have hQ6 := setRow_heap _ _ _ #[.int .u64 (n0 : Int), .int .u64 (n1 : Int), .int .u64 (n2 : Int), .int .u64 (n3 : Int)] _ _ hQ5
    have hA6 : ((w4.alloc (.cells #[.int .u64 0, .int .u64 0, .int .u64 0, .int .u64 0] 215)).setRow (w2.heap.size + 1) #[.int .u64 (n0 : Int), .int .u64 (n1 : Int), .int .u64 (n2 : Int), .int .u64 (n3 : Int)]).heap[w.heap.size]? = _ := (setRow_other _ _ _ _ (by omega)).trans (((Keep.refl [] w4).alloc (.cells #[.int .u64 0, .int .u64 0, .int .u64 0, .int .u64 0] 215)).blk (by simp) HA4.out)
    have hP6 : ((w4.alloc (.cells #[.int .u64 0, .int .u64 0, .int .u64 0, .int .u64 0] 215)).setRow (w2.heap.size + 1) #[.int .u64 (n0 : Int), .int .u64 (n1 : Int), .int .u64 (n2 : Int), .int .u64 (n3 : Int)]).heap[w2.heap.size]? = _ := (setRow_other _ _ _ _ (by omega)).trans (((Keep.refl [] w4).alloc (.cells #[.int .u64 0, .int .u64 0, .int .u64 0, .int .u64 0] 215)).blk (by simp) HP4.out)
    have hK6 : Keep [] w ((w4.alloc (.cells #[.int .u64 0, .int .u64 0, .int .u64 0, .int .u64 0] 215)).setRow (w2.heap.size + 1) #[.int .u64 (n0 : Int), .int .u64 (n1 : Int), .int .u64 (n2 : Int), .int .u64 (n3 : Int)]) := (HK4.out.alloc _).setRow (.inr (by omega)) _
    have hs6 : ((w4.alloc (.cells #[.int .u64 0, .int .u64 0, .int .u64 0, .int .u64 0] 215)).setRow (w2.heap.size + 1) #[.int .u64 (n0 : Int), .int .u64 (n1 : Int), .int .u64 (n2 : Int), .int .u64 (n3 : Int)]).heap.size = w2.heap.size + 2 := by simp [hs4]
    generalize (w4.alloc (.cells #[.int .u64 0, .int .u64 0, .int .u64 0, .int .u64 0] 215)).setRow (w2.heap.size + 1) #[.int .u64 (n0 : Int), .int .u64 (n1 : Int), .int .u64 (n2 : Int), .int .u64 (n3 : Int)] = w6 at *
    have hc6 : ∀ k, k < 4 → w6.cell? ⟨w2.heap.size + 1, k, none⟩ = some (.int .u64 (([n0, n1, n2, n3].getD k 0 : Nat) : Int)) := fun k hk => by
      rw [cell_of_row _ _ k _ _ _ hQ6]
      rcases (by omega : k = 0 ∨ k = 1 ∨ k = 2 ∨ k = 3) with rfl | rfl | rfl | rfl <;> rfl
    have hbig : ∀ k, k < 4 → ¬ ([n0, n1, n2, n3].getD k 0) < 9223372036854775808 → RES = #[.agg #[.int .i64 0, .int .i64 0, .int .i64 0, .int .i64 0, .int .i64 0, .int .i64 0, .int .i64 0, .int .u64 0, .int .i64 0, .int .i64 0, .int .i64 0, .int .i64 0, .int .i64 0, .int .i64 0, .int .i64 0], .int .i64 5] := fun k hk h => by
      rcases (by omega : k = 0 ∨ k = 1 ∨ k = 2 ∨ k = 3) with rfl | rfl | rfl | rfl
      · exact L0.out h
      · exact L1.out h
      · exact L2.out h
      · exact L3.out h
    have HQ6 := Lib.hid hQ6
    have HA6 := Lib.hid hA6
    have HP6 := Lib.hid hP6
    have HK6 := Lib.hid hK6
    have HS6 := Lib.hid hs6
    have HC6 := Lib.hid hc6
    have HBIG := Lib.hid hbig
    clear hQ6 hA6 hP6 hK6 hs6 hc6 hbig hQ5 HA4 HP4 hs4 HK4 G C0 C1 C2 C3 L0 L1 L2 L3 HNO
    obtain ⟨N, hN⟩ : ∃ N : Nat → Nat, (fun k => [n0, n1, n2, n3].getD k 0) = N := ⟨_, rfl⟩
    have HN := Lib.hid hN
    clear hN
    go_wp2
    go_loop [9] (fun i => ∃ k : Nat, k ≤ 4 ∧ i = .int .i64 k ∧ Hid (∀ j, j < k → N j < 9223372036854775808)) (fun i => 4 - (intOf i).toNat)
    case atStart => exact ⟨0, by omega, rfl, fun j hj => by omega⟩
    case round =>
      obtain ⟨k, hk4, rfl, hlow⟩ := hrel
      by_cases hlt4 : k < 4
      · have hkk : (k : Int) < 4 := by omega
        have hck := HC6.out k hlt4
        have hNk : [n0, n1, n2, n3].getD k 0 = N k := congrFun HN.out k
        have hbk := HBIG.out k hlt4
        rw [hNk] at hck hbk
        obtain ⟨nk, hnk⟩ : ∃ n, N k = n := ⟨_, rfl⟩
        rw [hnk] at hck hbk
        have HNK := Lib.hid hnk
        have HBK := Lib.hid hbk
        clear hnk hNk hbk
        by_cases hsm : (nk : Int) ≤ 9223372036854775807
        · go_wp2
          go_round
          case rel => exact ⟨k + 1, by omega, by go_num, fun j hj => by
            by_cases hjk : j = k
            · rw [hjk, HNK.out]; omega
            · exact hlow.out j (by omega)⟩
          case measure => simp [intOf]; omega
        · have hbg : (9223372036854775807 : Int) < (nk : Int) := by omega
          have hr := Lib.hid (HBK.out (by omega))
          go_wp2_with (refine wpList_store_row rfl 118 (.tmp 4) (.tmp 46) rfl w.heap.size #[.int .i64 0, .int .i64 0, .int .i64 0, .int .i64 0, .int .i64 0, .int .i64 0, .int .i64 0, .int .u64 0, .int .i64 0, .int .i64 0, .int .i64 0, .int .i64 0, .int .i64 0, .int .i64 0, .int .i64 0] rfl rfl 118 _ HA6.out (by kernel_rfl) (by rfl) (by kernel_rfl) ?_)
          exact bodyPost_ret (results_cell_tmp_row rfl _ _ w.heap.size 118 #[.int .i64 0, .int .i64 0, .int .i64 0, .int .i64 0, .int .i64 0, .int .i64 0, .int .i64 0, .int .u64 0, .int .i64 0, .int .i64 0, .int .i64 0, .int .i64 0, .int .i64 0, .int .i64 0, .int .i64 0] _ _ rfl (setRow_heap _ _ _ _ _ _ HA6.out) Try.underlying118 rfl (by kernel_rfl)) rfl ⟨by rw [hr.out]; rfl, HK6.out.setRow (.inr (Nat.le_refl _)) _⟩
      · obtain rfl : k = 4 := by omega
        have hall : ∀ j, j < 4 → [n0, n1, n2, n3].getD j 0 < 9223372036854775808 := fun j hj => by
          rw [show [n0, n1, n2, n3].getD j 0 = N j from congrFun HN.out j]; exact hlow.out j hj
        have b0 : n0 < 9223372036854775808 := hall 0 (by omega)
        have b1 : n1 < 9223372036854775808 := hall 1 (by omega)
        have b2 : n2 < 9223372036854775808 := hall 2 (by omega)
        have b3 : n3 < 9223372036854775808 := hall 3 (by omega)
        obtain ⟨cd, cK, ry, rn⟩ := HFIN.out b0 b1 b2 b3
        have CK := Lib.hid cK
        have RY := Lib.hid ry
        have RN := Lib.hid rn
        have u0 := i64_wrap_nat b0
        have u1 := i64_wrap_nat b1
        have u2 := i64_wrap_nat b2
        have u3 := i64_wrap_nat b3
        have up := i64_wrap_nat (n := pg) (by omega)
        have ud := i64_wrap_nat (n := d) (by omega)
        have U0 : RowKit.wrap64 (n0 : Int) = (n0 : Int) := by rw [sg_wrap]; exact sg_small b0
        have U1 : RowKit.wrap64 (n1 : Int) = (n1 : Int) := by rw [sg_wrap]; exact sg_small b1
        have U2 : RowKit.wrap64 (n2 : Int) = (n2 : Int) := by rw [sg_wrap]; exact sg_small b2
        have U3 : RowKit.wrap64 (n3 : Int) = (n3 : Int) := by rw [sg_wrap]; exact sg_small b3
        have UP : RowKit.wrap64 (pg : Int) = (pg : Int) := by rw [sg_wrap]; exact sg_small (by omega)
        have UD : RowKit.wrap64 (d : Int) = (d : Int) := by rw [sg_wrap]; exact sg_small (by omega)
        clear hall hlow HN HBIG HFIN cK ry rn HC6 hlt4 b0 b1 b2 b3
        go_wp2_with fail
        refine wp_region_his [w2.heap.size + 2] [23, 24] (fun _ => 0) (by kernel_rfl) (by kernel_rfl) ?_
        intro w7 hk7 hh7
        have hA7 := hk7.blk (by simp) HA6.out
        have hP7 := hk7.blk (by simp) HP6.out
        have hQ7 := hk7.blk (by simp) HQ6.out
        have hs7 : w7.heap.size = w2.heap.size + 2 := by rw [hh7]; exact HS6.out
        have hK7 := HK6.out.trans hk7
        have G : ∀ {w'}, Keep [w2.heap.size + 2] w7 w' → Keep [] w w' := fun h => hK7.trans' h (fun b hb => by simp at hb; exact .inr (by omega))
        have g38 := fun w' (h' : Keep [w2.heap.size + 2] w7 w') => H38.out w' (G h')
        have p0 := fun w' (h' : Keep [w2.heap.size + 2] w7 w') => cell_of_row w' _ 0 _ _ _ (h'.blk (by simp) hP7)
        have p1 := fun w' (h' : Keep [w2.heap.size + 2] w7 w') => cell_of_row w' _ 1 _ _ _ (h'.blk (by simp) hP7)
        have p2 := fun w' (h' : Keep [w2.heap.size + 2] w7 w') => cell_of_row w' _ 2 _ _ _ (h'.blk (by simp) hP7)
        have p3 := fun w' (h' : Keep [w2.heap.size + 2] w7 w') => cell_of_row w' _ 3 _ _ _ (h'.blk (by simp) hP7)
        have p4 := fun w' (h' : Keep [w2.heap.size + 2] w7 w') => cell_of_row w' _ 4 _ _ _ (h'.blk (by simp) hP7)
        have p5 := fun w' (h' : Keep [w2.heap.size + 2] w7 w') => cell_of_row w' _ 5 _ _ _ (h'.blk (by simp) hP7)
        have p6 := fun w' (h' : Keep [w2.heap.size + 2] w7 w') => cell_of_row w' _ 6 _ _ _ (h'.blk (by simp) hP7)
        have p7 := fun w' (h' : Keep [w2.heap.size + 2] w7 w') => cell_of_row w' _ 7 _ _ _ (h'.blk (by simp) hP7)
        have q0 := fun w' (h' : Keep [w2.heap.size + 2] w7 w') => cell_of_row w' _ 0 _ _ _ (h'.blk (by simp) hQ7)
        have q1 := fun w' (h' : Keep [w2.heap.size + 2] w7 w') => cell_of_row w' _ 1 _ _ _ (h'.blk (by simp) hQ7)
        have q2 := fun w' (h' : Keep [w2.heap.size + 2] w7 w') => cell_of_row w' _ 2 _ _ _ (h'.blk (by simp) hQ7)
        have q3 := fun w' (h' : Keep [w2.heap.size + 2] w7 w') => cell_of_row w' _ 3 _ _ _ (h'.blk (by simp) hQ7)
        simp at p0 p1 p2 p3 p4 p5 p6 p7 q0 q1 q2 q3
        have HA7 := Lib.hid hA7
        have HK7 := Lib.hid hK7
        clear hk7 hh7 hA7 hP7 hQ7 hK7 HA6 HP6 HQ6 HK6 HS6
        (repeat (first | (refine his_q rfl rfl (fun K hK => ?_); apply Exists.intro; refine ⟨fun w' hC => ?_, ?_⟩; ((try simp [Sg.upd] at hC); go_simp <;> rfl); go_simp; refine hK _ _ ?_; clear hK K) | (refine his_s rfl (fun K hK => ?_); go_simp; refine hK _ _ ?_; clear hK K)))
        refine his_c rfl rfl (.int .u64 (pg : Int)) (fun K hK => ?_)
        refine ⟨fun w' hC => Yields.call _ _ ?_ (by kernel_rfl) (CP.out w' (G hC)), ?_⟩
        · go_simp
        go_simp
        refine hK _ _ ?_
        clear hK K
        (repeat (first | (refine his_q rfl rfl (fun K hK => ?_); apply Exists.intro; refine ⟨fun w' hC => ?_, ?_⟩; ((try simp [Sg.upd] at hC); go_simp <;> rfl); go_simp; refine hK _ _ ?_; clear hK K) | (refine his_s rfl (fun K hK => ?_); go_simp; refine hK _ _ ?_; clear hK K)))
        (refine his_l rfl rfl (fun K hK => ?_); go_simp)
        refine hK _ _ ((Keep.refl _ _).alloc _) ?_
        clear hK K
        have hR8 := heap_alloc_new w7 (.cells #[.int .i64 0, .int .i64 0, .int .i64 0, .int .i64 0, .int .i64 0, .int .i64 0, .int .i64 0, .int .u64 0, .int .i64 0, .int .i64 0, .int .i64 0, .int .i64 0, .int .i64 0, .int .i64 0, .int .i64 0] 118)
        rw [hs7] at hR8
        refine his_l rfl rfl (fun K hK => ?_)
        refine loudly_store_row 118 (.tmp 10) (.tmp 69) rfl (w2.heap.size + 2) #[.int .i64 sec, .int .i64 size, .int .i64 reg, .int .i64 rs, .int .i64 lg, .int .i64 dep, .int .i64 mem, .int .u64 (seed : Int), .int .i64 gen, .int .i64 (pg : Int), .int .i64 (n0 : Int), .int .i64 (d : Int), .int .i64 (n1 : Int), .int .i64 (n2 : Int), .int .i64 (n3 : Int)] rfl rfl 118 _ hR8 (by kernel_rfl) (by rfl) (by kernel_rfl) ?_
        refine hK _ _ ((Keep.refl _ _).setRow (.inl (by simp)) _) ?_
        clear hK K
        refine his_nil ?_
        have hR9 := setRow_heap _ _ _ #[.int .i64 sec, .int .i64 size, .int .i64 reg, .int .i64 rs, .int .i64 lg, .int .i64 dep, .int .i64 mem, .int .u64 (seed : Int), .int .i64 gen, .int .i64 (pg : Int), .int .i64 (n0 : Int), .int .i64 (d : Int), .int .i64 (n1 : Int), .int .i64 (n2 : Int), .int .i64 (n3 : Int)] _ _ hR8
        have hA9 : ((w7.alloc (.cells #[.int .i64 0, .int .i64 0, .int .i64 0, .int .i64 0, .int .i64 0, .int .i64 0, .int .i64 0, .int .u64 0, .int .i64 0, .int .i64 0, .int .i64 0, .int .i64 0, .int .i64 0, .int .i64 0, .int .i64 0] 118)).setRow (w2.heap.size + 2) #[.int .i64 sec, .int .i64 size, .int .i64 reg, .int .i64 rs, .int .i64 lg, .int .i64 dep, .int .i64 mem, .int .u64 (seed : Int), .int .i64 gen, .int .i64 (pg : Int), .int .i64 (n0 : Int), .int .i64 (d : Int), .int .i64 (n1 : Int), .int .i64 (n2 : Int), .int .i64 (n3 : Int)]).heap[w.heap.size]? = _ := (setRow_other _ _ _ _ (by omega)).trans (((Keep.refl [] w7).alloc (.cells #[.int .i64 0, .int .i64 0, .int .i64 0, .int .i64 0, .int .i64 0, .int .i64 0, .int .i64 0, .int .u64 0, .int .i64 0, .int .i64 0, .int .i64 0, .int .i64 0, .int .i64 0, .int .i64 0, .int .i64 0] 118)).blk (by simp) HA7.out)
        have hK9 : Keep [] w ((w7.alloc (.cells #[.int .i64 0, .int .i64 0, .int .i64 0, .int .i64 0, .int .i64 0, .int .i64 0, .int .i64 0, .int .u64 0, .int .i64 0, .int .i64 0, .int .i64 0, .int .i64 0, .int .i64 0, .int .i64 0, .int .i64 0] 118)).setRow (w2.heap.size + 2) #[.int .i64 sec, .int .i64 size, .int .i64 reg, .int .i64 rs, .int .i64 lg, .int .i64 dep, .int .i64 mem, .int .u64 (seed : Int), .int .i64 gen, .int .i64 (pg : Int), .int .i64 (n0 : Int), .int .i64 (d : Int), .int .i64 (n1 : Int), .int .i64 (n2 : Int), .int .i64 (n3 : Int)]) := (HK7.out.alloc _).setRow (.inr (by omega)) _
        generalize (w7.alloc (.cells #[.int .i64 0, .int .i64 0, .int .i64 0, .int .i64 0, .int .i64 0, .int .i64 0, .int .i64 0, .int .u64 0, .int .i64 0, .int .i64 0, .int .i64 0, .int .i64 0, .int .i64 0, .int .i64 0, .int .i64 0] 118)).setRow (w2.heap.size + 2) #[.int .i64 sec, .int .i64 size, .int .i64 reg, .int .i64 rs, .int .i64 lg, .int .i64 dep, .int .i64 mem, .int .u64 (seed : Int), .int .i64 gen, .int .i64 (pg : Int), .int .i64 (n0 : Int), .int .i64 (d : Int), .int .i64 (n1 : Int), .int .i64 (n2 : Int), .int .i64 (n3 : Int)] = w9 at *
        have HR9 := Lib.hid hR9
        have HA9 := Lib.hid hA9
        have HK9 := Lib.hid hK9
        clear hR8 hR9 hA9 hK9 HA7 hs7 HK7 G CP g38 p0 p1 p2 p3 p4 p5 p6 p7 q0 q1 q2 q3 u0 u1 u2 u3 up ud U0 U1 U2 U3 UP UD
        go_wp2_with (refine wpList_load_row rfl 118 (.tmp 10) rfl (w2.heap.size + 2) rfl 118 _ _ _ HR9.out Try.underlying118 rfl (by kernel_rfl) ?_)
        refine (CK.out _).mono ?_
        rintro e w10 ⟨v10, rfl, o10, k10⟩
        have hR10 := k10.blk (by simp) HR9.out
        have hA10 := k10.blk (by simp) HA9.out
        have hK10 := HK9.out.trans k10
        have HR10 := Lib.hid hR10
        have HA10 := Lib.hid hA10
        have HK10 := Lib.hid hK10
        clear hR10 hA10 hK10 HR9 HA9 HK9 k10
        by_cases hz : cd = 0
        · have hr := Lib.hid (RY.out hz)
          subst hz
          rw [if_pos rfl] at o10
          have hb10 := o10.bytes (by have := HL.out; omega)
          have hxb := HXB.out _ HK10.out
          have s1 := run_str (P := Try.prog) 30 9 5 Try.underlying30 Try.underlying5 Try.underlying9 hb10
          have s2 := run_str (P := Try.prog) 30 9 5 Try.underlying30 Try.underlying5 Try.underlying9 hxb
          clear o10 hb10 hxb
          go_wp2_with (first | (refine wpList_load_row rfl 118 (.tmp 10) rfl (w2.heap.size + 2) rfl 118 _ _ _ HR10.out Try.underlying118 rfl (by kernel_rfl) ?_) | (refine wpList_store_row rfl 118 (.tmp 4) (.tmp 85) rfl w.heap.size #[.int .i64 sec, .int .i64 size, .int .i64 reg, .int .i64 rs, .int .i64 lg, .int .i64 dep, .int .i64 mem, .int .u64 (seed : Int), .int .i64 gen, .int .i64 (pg : Int), .int .i64 (n0 : Int), .int .i64 (d : Int), .int .i64 (n1 : Int), .int .i64 (n2 : Int), .int .i64 (n3 : Int)] rfl rfl 118 _ HA10.out (by kernel_rfl) (by rfl) (by kernel_rfl) ?_))
          exact bodyPost_ret (results_cell_tmp_row rfl _ _ w.heap.size 118 #[.int .i64 sec, .int .i64 size, .int .i64 reg, .int .i64 rs, .int .i64 lg, .int .i64 dep, .int .i64 mem, .int .u64 (seed : Int), .int .i64 gen, .int .i64 (pg : Int), .int .i64 (n0 : Int), .int .i64 (d : Int), .int .i64 (n1 : Int), .int .i64 (n2 : Int), .int .i64 (n3 : Int)] _ _ rfl (setRow_heap _ _ _ _ _ _ HA10.out) Try.underlying118 rfl (by kernel_rfl)) rfl ⟨by rw [hr.out]; rfl, HK10.out.setRow (.inr (Nat.le_refl _)) _⟩
        · have hr := Lib.hid (RN.out hz)
          have hzb : (cd != 0) = true := by simpa using hz
          clear o10 hz
          go_wp2_with (refine wpList_store_row rfl 118 (.tmp 4) (.tmp 84) rfl w.heap.size #[.int .i64 0, .int .i64 0, .int .i64 0, .int .i64 0, .int .i64 0, .int .i64 0, .int .i64 0, .int .u64 0, .int .i64 0, .int .i64 0, .int .i64 0, .int .i64 0, .int .i64 0, .int .i64 0, .int .i64 0] rfl rfl 118 _ HA10.out (by kernel_rfl) (by rfl) (by kernel_rfl) ?_)
          exact bodyPost_ret (results_cell_tmp_row rfl _ _ w.heap.size 118 #[.int .i64 0, .int .i64 0, .int .i64 0, .int .i64 0, .int .i64 0, .int .i64 0, .int .i64 0, .int .u64 0, .int .i64 0, .int .i64 0, .int .i64 0, .int .i64 0, .int .i64 0, .int .i64 0, .int .i64 0] _ _ rfl (setRow_heap _ _ _ _ _ _ HA10.out) Try.underlying118 rfl (by kernel_rfl)) rfl ⟨by rw [hr.out]; rfl, HK10.out.setRow (.inr (Nat.le_refl _)) _⟩

theorem refhUnpack_any (gen : Int) (x : Value) (l : List UInt8) (w : World) (hx : Bytes w x l) : Calls Try.prog 65 #[.int .i64 gen, x] w fun e w' => e = .returned (.tuple (if Un63 gen l then #[(of63 gen l).v, .int .i64 0] else #[hd0.v, .int .i64 5])) ∧ Keep [] w w' := by
  by_cases hl : l.length = 63
  · exact refhUnpack_in gen x l w hx hl
  · rw [if_neg (fun u => hl u.1)]
    exact refhUnpack_size gen x l w hx hl
end Go.Proofs.Ytijljdcpajjhhaa
