import Derived.Test.YtijljdcpajjhhaaSuperDef
import Derived.Outline
import Derived.Test.YtijljdcpajjhhaaSuperB
/-! The walk of the document's Pack of a head. -/
namespace Go.Proofs.Ytijljdcpajjhhaa
open Go.RowKit Go.Shelf Sg
attribute [local go_sem] Oper.semAt_some
set_option linter.unusedSimpArgs false
set_option linter.unusedVariables false

set_option maxRecDepth 100000 in
set_option maxHeartbeats 1000000 in
set_option maxHeartbeats 8000000 in
theorem refhPack_any (h : Hd) (hs : h.p.seed < 18446744073709551616) (w : World) : Calls Try.prog 63 #[h.v] w fun e w' => ∃ v', e = .returned (.tuple #[v', .int .i64 h.code]) ∧ OwnB w' w.heap.size 5 v' (if h.code = 0 then h.pack else []) ∧ Keep [] w w' := by
  have hP := refPlanPack_any h.p hs
  have hF := reffit_one h.p
  have hpk : h.pack = (((((h.p.pack ++ le (un h.page) 4) ++ le (un h.stamp) 8) ++ le (un h.dep) 1) ++ le (un h.log) 8) ++ le (un h.reg) 8) ++ le (un h.time) 8 := rfl
  have hpl := h.p.pack_len
  obtain ⟨F, hFF⟩ : ∃ F : Bool, decide h.p.Fits = F := ⟨_, rfl⟩
  have e1 : (if h.p.Fits then (0 : Int) else 12) = if F = true then 0 else 12 := by rw [← hFF]; simp
  rw [e1] at hF
  have k1 : F = false → h.code = 12 := fun e => by rw [e, decide_eq_false_iff_not] at hFF; unfold Hd.code; rw [if_neg hFF]
  have k2 : F = true → h.Ok → h.code = 0 := fun e a => by rw [e, decide_eq_true_eq] at hFF; exact Hd.code_ok hFF a
  have k3 : F = true → ¬ h.Ok → h.code = 1 := fun e a => by rw [e, decide_eq_true_eq] at hFF; unfold Hd.code; rw [if_pos hFF, if_neg a]
  obtain ⟨PK, hPK⟩ : ∃ PK, h.pack = PK := ⟨_, rfl⟩
  rw [hPK] at hpk ⊢
  generalize h.p.pack = pp at hpk hpl hP
  obtain ⟨cd, hcd⟩ : ∃ cd, h.code = cd := ⟨_, rfl⟩
  rw [hcd] at k1 k2 k3 ⊢
  obtain ⟨RES, hRES⟩ : ∃ RES, (if cd = 0 then PK else []) = RES := ⟨_, rfl⟩
  rw [hRES]
  have HRES := Lib.hid hRES
  clear hPK hcd hFF e1 hRES
  have hok : h.Ok ↔ (1 ≤ h.gen ∧ (0 ≤ h.page ∧ h.page ≤ 2147483647) ∧ 0 ≤ h.stamp ∧ (0 ≤ h.dep ∧ h.dep ≤ h.p.dep) ∧ 1 ≤ h.log ∧ 0 ≤ h.reg ∧ (0 ≤ h.time ∧ h.time ≤ 281474976710656)) := Iff.rfl
  obtain ⟨⟨sec, size, reg, rs, lg, dep, mem, seed⟩, gen, page, stamp, hdep, log, hreg, time⟩ := h
  simp only [Hd.v, Hd.cells, Pl.v, lay8] at *
  have K1 := Lib.hid k1
  have K2 := Lib.hid k2
  have K3 := Lib.hid k3
  have HOK := Lib.hid hok
  have HPK := Lib.hid hpk
  have HPL := Lib.hid hpl
  have HP := Lib.hid hP
  have hA := heap_alloc_new w (.cells #[.int .i64 sec, .int .i64 size, .int .i64 reg, .int .i64 rs, .int .i64 lg, .int .i64 dep, .int .i64 mem, .int .u64 (seed : Int), .int .i64 gen, .int .i64 page, .int .i64 stamp, .int .i64 hdep, .int .i64 log, .int .i64 hreg, .int .i64 time] 118)
  have hK := (Keep.refl [] w).alloc (.cells #[.int .i64 sec, .int .i64 size, .int .i64 reg, .int .i64 rs, .int .i64 lg, .int .i64 dep, .int .i64 mem, .int .u64 (seed : Int), .int .i64 gen, .int .i64 page, .int .i64 stamp, .int .i64 hdep, .int .i64 log, .int .i64 hreg, .int .i64 time] 118)
  have HA := Lib.hid hA
  have HK := Lib.hid hK
  clear k1 k2 k3 hpk hpl hP hA hK hok hs
  obtain ⟨a, b, c, d, e, f, g, hh, hF⟩ := hF (w.alloc (.cells #[.int .i64 sec, .int .i64 size, .int .i64 reg, .int .i64 rs, .int .i64 lg, .int .i64 dep, .int .i64 mem, .int .u64 (seed : Int), .int .i64 gen, .int .i64 page, .int .i64 stamp, .int .i64 hdep, .int .i64 log, .int .i64 hreg, .int .i64 time] 118))
  go_enter Try.func63, Try.ntmps63
  go_wp2_with fail
  refine hF.mono ?_
  rintro x w2 ⟨rfl, hk2⟩
  have hA2 := hk2.blk (by simp) HA.out
  have hK2 := HK.out.trans hk2
  have hk3 := hK2.alloc (.cells #[.int .i64 a, .int .i64 b, .int .i64 c, .int .i64 d, .int .i64 e, .int .i64 f, .int .i64 g, .int .i64 hh] 202)
  have hA3 := ((Keep.refl [] w2).alloc (.cells #[.int .i64 a, .int .i64 b, .int .i64 c, .int .i64 d, .int .i64 e, .int .i64 f, .int .i64 g, .int .i64 hh] 202)).blk (by simp) hA2
  have HK3 := Lib.hid hk3
  clear hF hk2 hA2 hK2 hk3
  cases F with
  | false =>
    have hc := Lib.hid (K1.out rfl)
    clear hA3
    go_wp2
    go_ret2
    exact ⟨_, by rw [hc.out]; rfl, by rw [← HRES.out, hc.out]; exact OwnB.nil _ _ _, HK3.out⟩
  | true =>
    have c5 := cell_of_row _ _ 5 _ _ _ hA3
    have c8 := cell_of_row _ _ 8 _ _ _ hA3
    have c9 := cell_of_row _ _ 9 _ _ _ hA3
    have c10 := cell_of_row _ _ 10 _ _ _ hA3
    have c11 := cell_of_row _ _ 11 _ _ _ hA3
    have c12 := cell_of_row _ _ 12 _ _ _ hA3
    have c13 := cell_of_row _ _ 13 _ _ _ hA3
    have c14 := cell_of_row _ _ 14 _ _ _ hA3
    simp at c5 c8 c9 c10 c11 c12 c13 c14
    have HA3 := Lib.hid hA3
    clear hA3
    by_cases a0 : gen < 1
    · have hc := Lib.hid (K3.out rfl (fun o => by have o' := HOK.out.1 o; omega))
      go_wp2
      go_ret2
      exact ⟨_, by rw [hc.out]; rfl, by rw [← HRES.out, hc.out]; exact OwnB.nil _ _ _, HK3.out⟩
    by_cases a1 : page < 0
    · have hc := Lib.hid (K3.out rfl (fun o => by have o' := HOK.out.1 o; omega))
      go_wp2
      go_ret2
      exact ⟨_, by rw [hc.out]; rfl, by rw [← HRES.out, hc.out]; exact OwnB.nil _ _ _, HK3.out⟩
    by_cases a2 : 2147483647 < page
    · have hc := Lib.hid (K3.out rfl (fun o => by have o' := HOK.out.1 o; omega))
      go_wp2
      go_ret2
      exact ⟨_, by rw [hc.out]; rfl, by rw [← HRES.out, hc.out]; exact OwnB.nil _ _ _, HK3.out⟩
    by_cases a3 : stamp < 0
    · have hc := Lib.hid (K3.out rfl (fun o => by have o' := HOK.out.1 o; omega))
      go_wp2
      go_ret2
      exact ⟨_, by rw [hc.out]; rfl, by rw [← HRES.out, hc.out]; exact OwnB.nil _ _ _, HK3.out⟩
    by_cases a4 : hdep < 0
    · have hc := Lib.hid (K3.out rfl (fun o => by have o' := HOK.out.1 o; omega))
      go_wp2
      go_ret2
      exact ⟨_, by rw [hc.out]; rfl, by rw [← HRES.out, hc.out]; exact OwnB.nil _ _ _, HK3.out⟩
    by_cases a5 : dep < hdep
    · have hc := Lib.hid (K3.out rfl (fun o => by have o' := HOK.out.1 o; omega))
      go_wp2
      go_ret2
      exact ⟨_, by rw [hc.out]; rfl, by rw [← HRES.out, hc.out]; exact OwnB.nil _ _ _, HK3.out⟩
    by_cases a6 : log < 1
    · have hc := Lib.hid (K3.out rfl (fun o => by have o' := HOK.out.1 o; omega))
      go_wp2
      go_ret2
      exact ⟨_, by rw [hc.out]; rfl, by rw [← HRES.out, hc.out]; exact OwnB.nil _ _ _, HK3.out⟩
    by_cases a7 : hreg < 0
    · have hc := Lib.hid (K3.out rfl (fun o => by have o' := HOK.out.1 o; omega))
      go_wp2
      go_ret2
      exact ⟨_, by rw [hc.out]; rfl, by rw [← HRES.out, hc.out]; exact OwnB.nil _ _ _, HK3.out⟩
    by_cases a8 : time < 0
    · have hc := Lib.hid (K3.out rfl (fun o => by have o' := HOK.out.1 o; omega))
      go_wp2
      go_ret2
      exact ⟨_, by rw [hc.out]; rfl, by rw [← HRES.out, hc.out]; exact OwnB.nil _ _ _, HK3.out⟩
    by_cases a9 : 281474976710656 < time
    · have hc := Lib.hid (K3.out rfl (fun o => by have o' := HOK.out.1 o; omega))
      go_wp2
      go_ret2
      exact ⟨_, by rw [hc.out]; rfl, by rw [← HRES.out, hc.out]; exact OwnB.nil _ _ _, HK3.out⟩
    have hc := Lib.hid (K2.out rfl (HOK.out.2 ⟨by omega, ⟨by omega, by omega⟩, by omega, ⟨by omega, by omega⟩, by omega, by omega, ⟨by omega, by omega⟩⟩))
    have c0 := cell_of_row _ _ 0 _ _ _ HA3.out
    have c1 := cell_of_row _ _ 1 _ _ _ HA3.out
    have c2 := cell_of_row _ _ 2 _ _ _ HA3.out
    have c3 := cell_of_row _ _ 3 _ _ _ HA3.out
    have c4 := cell_of_row _ _ 4 _ _ _ HA3.out
    have c6 := cell_of_row _ _ 6 _ _ _ HA3.out
    have c7 := cell_of_row _ _ 7 _ _ _ HA3.out
    simp at c0 c1 c2 c3 c4 c6 c7
    go_wp2_with fail
    clear c0 c1 c2 c3 c4 c6 c7 c8 c5 c9 c10 c11 c12 c13 c14
    refine (HP.out _).mono ?_
    rintro x w4 ⟨v4, rfl, o4, k4⟩
    have hA4 := k4.blk (by simp) HA3.out
    have hK4 := HK3.out.trans k4
    have ho4 : OwnB w4 w.heap.size 5 v4 pp := o4.base HK3.out.size
    clear k4 o4 HA3 a0 a1 a2 a3 a4 a5 a6 a7 a8 a9
    have g9 := cell_of_row w4 _ 9 _ _ _ hA4
    simp at g9
    have u9 := un_wrap page
    go_wp2_with fail
    refine (refNumber_any (un page) 4 (un_lt page) (by omega) _).mono ?_
    rintro x w5 ⟨n5, rfl, on5, k5⟩
    have hA5 := k5.blk (by simp) hA4
    have hK5 := hK4.trans k5
    have ho5 := ho4.keep k5 (by simp)
    clear hA4 hK4 ho4 k5 g9 u9
    go_wp2_with (refine wpList_append_bytes rfl (.tmp 69) (.tmp 73) 30 5 rfl w.heap.size Try.underlying30 (by kernel_rfl) rfl rfl ho5 (on5.bytes (by rw [le_len]; omega)) (by simp only [List.length_append, le_len, HPL.out]; omega) hK5.size ?_)
    intro v6 w6 ho6 k6
    have hA6 := k6.blk (fun h => (ho5.ne_row hA5 (by decide)) (by simpa using h)) hA5
    have hK6 := own_grow ho5 hK5 k6
    clear hA5 hK5 ho5 on5 k6
    have g10 := cell_of_row w6 _ 10 _ _ _ hA6
    simp at g10
    have u10 := un_wrap stamp
    go_wp2_with fail
    refine (refNumber_any (un stamp) 8 (un_lt stamp) (by omega) _).mono ?_
    rintro x w7 ⟨n7, rfl, on7, k7⟩
    have hA7 := k7.blk (by simp) hA6
    have hK7 := hK6.trans k7
    have ho7 := ho6.keep k7 (by simp)
    clear hA6 hK6 ho6 k7 g10 u10
    go_wp2_with (refine wpList_append_bytes rfl (.tmp 75) (.tmp 79) 30 5 rfl w.heap.size Try.underlying30 (by kernel_rfl) rfl rfl ho7 (on7.bytes (by rw [le_len]; omega)) (by simp only [List.length_append, le_len, HPL.out]; omega) hK7.size ?_)
    intro v8 w8 ho8 k8
    have hA8 := k8.blk (fun h => (ho7.ne_row hA7 (by decide)) (by simpa using h)) hA7
    have hK8 := own_grow ho7 hK7 k8
    clear hA7 hK7 ho7 on7 k8
    have g11 := cell_of_row w8 _ 11 _ _ _ hA8
    simp at g11
    have u11 := un_wrap hdep
    go_wp2_with fail
    refine (refNumber_any (un hdep) 1 (un_lt hdep) (by omega) _).mono ?_
    rintro x w9 ⟨n9, rfl, on9, k9⟩
    have hA9 := k9.blk (by simp) hA8
    have hK9 := hK8.trans k9
    have ho9 := ho8.keep k9 (by simp)
    clear hA8 hK8 ho8 k9 g11 u11
    go_wp2_with (refine wpList_append_bytes rfl (.tmp 81) (.tmp 85) 30 5 rfl w.heap.size Try.underlying30 (by kernel_rfl) rfl rfl ho9 (on9.bytes (by rw [le_len]; omega)) (by simp only [List.length_append, le_len, HPL.out]; omega) hK9.size ?_)
    intro v10 w10 ho10 k10
    have hA10 := k10.blk (fun h => (ho9.ne_row hA9 (by decide)) (by simpa using h)) hA9
    have hK10 := own_grow ho9 hK9 k10
    clear hA9 hK9 ho9 on9 k10
    have g12 := cell_of_row w10 _ 12 _ _ _ hA10
    simp at g12
    have u12 := un_wrap log
    go_wp2_with fail
    refine (refNumber_any (un log) 8 (un_lt log) (by omega) _).mono ?_
    rintro x w11 ⟨n11, rfl, on11, k11⟩
    have hA11 := k11.blk (by simp) hA10
    have hK11 := hK10.trans k11
    have ho11 := ho10.keep k11 (by simp)
    clear hA10 hK10 ho10 k11 g12 u12
    go_wp2_with (refine wpList_append_bytes rfl (.tmp 87) (.tmp 91) 30 5 rfl w.heap.size Try.underlying30 (by kernel_rfl) rfl rfl ho11 (on11.bytes (by rw [le_len]; omega)) (by simp only [List.length_append, le_len, HPL.out]; omega) hK11.size ?_)
    intro v12 w12 ho12 k12
    have hA12 := k12.blk (fun h => (ho11.ne_row hA11 (by decide)) (by simpa using h)) hA11
    have hK12 := own_grow ho11 hK11 k12
    clear hA11 hK11 ho11 on11 k12
    have g13 := cell_of_row w12 _ 13 _ _ _ hA12
    simp at g13
    have u13 := un_wrap hreg
    go_wp2_with fail
    refine (refNumber_any (un hreg) 8 (un_lt hreg) (by omega) _).mono ?_
    rintro x w13 ⟨n13, rfl, on13, k13⟩
    have hA13 := k13.blk (by simp) hA12
    have hK13 := hK12.trans k13
    have ho13 := ho12.keep k13 (by simp)
    clear hA12 hK12 ho12 k13 g13 u13
    go_wp2_with (refine wpList_append_bytes rfl (.tmp 93) (.tmp 97) 30 5 rfl w.heap.size Try.underlying30 (by kernel_rfl) rfl rfl ho13 (on13.bytes (by rw [le_len]; omega)) (by simp only [List.length_append, le_len, HPL.out]; omega) hK13.size ?_)
    intro v14 w14 ho14 k14
    have hA14 := k14.blk (fun h => (ho13.ne_row hA13 (by decide)) (by simpa using h)) hA13
    have hK14 := own_grow ho13 hK13 k14
    clear hA13 hK13 ho13 on13 k14
    have g14 := cell_of_row w14 _ 14 _ _ _ hA14
    simp at g14
    have u14 := un_wrap time
    go_wp2_with fail
    refine (refNumber_any (un time) 8 (un_lt time) (by omega) _).mono ?_
    rintro x w15 ⟨n15, rfl, on15, k15⟩
    have hA15 := k15.blk (by simp) hA14
    have hK15 := hK14.trans k15
    have ho15 := ho14.keep k15 (by simp)
    clear hA14 hK14 ho14 k15 g14 u14
    go_wp2_with (refine wpList_append_bytes rfl (.tmp 99) (.tmp 103) 30 5 rfl w.heap.size Try.underlying30 (by kernel_rfl) rfl rfl ho15 (on15.bytes (by rw [le_len]; omega)) (by simp only [List.length_append, le_len, HPL.out]; omega) hK15.size ?_)
    intro v16 w16 ho16 k16
    have hA16 := k16.blk (fun h => (ho15.ne_row hA15 (by decide)) (by simpa using h)) hA15
    have hK16 := own_grow ho15 hK15 k16
    clear hA15 hK15 ho15 on15 k16
    go_wp2_with fail
    go_ret2
    refine ⟨_, by rw [hc.out]; rfl, ?_, hK16⟩
    rw [← HRES.out, hc.out, if_pos rfl, HPK.out]
    show OwnB _ _ _ v16 _
    simpa [List.append_assoc] using ho16
end Go.Proofs.Ytijljdcpajjhhaa

/-! The walk of the document's Unpack of a head. -/
namespace Go.Proofs.Ytijljdcpajjhhaa
open Go.RowKit Go.Shelf Sg
attribute [local go_sem] Oper.semAt_some
set_option linter.unusedSimpArgs false
set_option linter.unusedVariables false

theorem byte_at (l : List UInt8) (i : Nat) (h : i < l.length) : leOf ((l.drop i).take 1) = (l[i]).toNat := by
  rw [List.drop_eq_getElem_cons h]
  show l[i].toNat + 256 * 0 = _
  omega
theorem refh_of63 (gen : Int) (l : List UInt8) (n0 n1 n2 n3 : Nat) (h0 : leOf ((l.drop 30).take 8) = n0) (h1 : leOf ((l.drop 39).take 8) = n1) (h2 : leOf ((l.drop 47).take 8) = n2) (h3 : leOf ((l.drop 55).take 8) = n3)
    (b0 : n0 < 9223372036854775808) (b1 : n1 < 9223372036854775808) (b2 : n2 < 9223372036854775808) (b3 : n3 < 9223372036854775808) :
    of63 gen l = ⟨of26 (l.take 26), gen, leOf ((l.drop 26).take 4), n0, leOf ((l.drop 38).take 1), n1, n2, n3⟩ := by
  unfold of63
  rw [h0, h1, h2, h3, sg_small b0, sg_small b1, sg_small b2, sg_small b3]
theorem refh_big (gen : Int) (l : List UInt8) (j : Nat) (hj : j = 30 ∨ j = 39 ∨ j = 47 ∨ j = 55) (hb : ¬ leOf ((l.drop j).take 8) < 9223372036854775808) : ¬ Un63 gen l := by
  rintro ⟨-, hc⟩
  obtain ⟨-, -, -, o4, -, o7, o8, o9, -⟩ := Hd.code_zero hc
  have hlt := piece_lt l j 8
  have hn := sg_neg hb (by simpa using hlt)
  unfold of63 at o4 o7 o8 o9
  simp only at o4 o7 o8 o9
  rcases hj with rfl | rfl | rfl | rfl <;> omega

set_option maxRecDepth 100000 in
set_option maxHeartbeats 1000000 in
theorem refhUnpack_size (gen : Int) (x : Value) (l : List UInt8) (w : World) (hx : Bytes w x l) (hl : l.length ≠ 63) : Calls Try.prog 65 #[.int .i64 gen, x] w fun e w' => e = .returned (.tuple #[hd0.v, .int .i64 5]) ∧ Keep [] w w' := by
  obtain ⟨ao, cap, rfl, hlc, hm, hcap⟩ := hx.form
  have hq : ((l.length : Int) != 63) = true := by simp; omega
  have hA := heap_alloc_new w (.cells #[.int .i64 0, .int .i64 0, .int .i64 0, .int .i64 0, .int .i64 0, .int .i64 0, .int .i64 0, .int .u64 0, .int .i64 0, .int .i64 0, .int .i64 0, .int .i64 0, .int .i64 0, .int .i64 0, .int .i64 0] 118)
  simp only [hd0, Hd.v, Hd.cells]
  go_enter Try.func65, Try.ntmps65
  go_wp2
  exact bodyPost_ret (results_cell_tmp_row rfl _ _ w.heap.size 118 _ _ _ rfl hA Try.underlying118 rfl (by kernel_rfl)) rfl ⟨rfl, (Keep.refl [] w).alloc _⟩

set_option maxRecDepth 100000 in
set_option maxHeartbeats 1000000 in
set_option maxHeartbeats 8000000 in
theorem refhUnpack_in (gen : Int) (x : Value) (l : List UInt8) (w : World) (hx : Bytes w x l) (hl : l.length = 63) : Calls Try.prog 65 #[.int .i64 gen, x] w fun e w' => e = .returned (.tuple (if Un63 gen l then #[(of63 gen l).v, .int .i64 0] else #[hd0.v, .int .i64 5])) ∧ Keep [] w w' := by
  obtain ⟨ao, cap, rfl, hlc, hm, hcap⟩ := hx.form
  obtain ⟨b, o, rfl, hb, hcl⟩ := hx.spot (by omega)
  have hx' : ∀ w', Keep [] w w' → Bytes w' (.slice (some ⟨b, o, none⟩) l.length cap) l := fun w' h => hx.keep h (by simp)
  have HXB := Lib.hid hx'
  have h38 := fun w' (h : Keep [] w w') => h.cell (by simp) (hcl 38 (by omega))
  -- the calls
  have cU := fun w' (h : Keep [] w w') => refPlanUnpack_yes _ _ w' ((hx' w' h).take (k := 26) (by omega)) (by rw [List.length_take]; omega)
  have cOf : ∀ (f t : Nat), f < 63 → f ≤ t → t ≤ 63 → t - f ≤ 8 → ∀ w', Keep [] w w' → Calls Try.prog 85 #[.slice (some ⟨b, o + f, none⟩) (t - f) (cap - f)] w' (fun e w'' => e = .returned (.int .u64 (leOf ((l.drop f).take (t - f)) : Int)) ∧ w' = w'') := fun f t h1 h2 h3 h4 w' h =>
    refOf_any _ _ w' ((hx' w' h).sub (f := f) (t := t) (by omega) (by omega) (by omega)) (by rw [List.length_take, List.length_drop]; omega)
  have c0 := cOf 30 38 (by omega) (by omega) (by omega) (by omega)
  have c1 := cOf 39 47 (by omega) (by omega) (by omega) (by omega)
  have c2 := cOf 47 55 (by omega) (by omega) (by omega) (by omega)
  have c3 := cOf 55 63 (by omega) (by omega) (by omega) (by omega)
  have cP := cOf 26 30 (by omega) (by omega) (by omega) (by omega)
  clear cOf hcl
  simp only [Nat.reduceSub] at c0 c1 c2 c3 cP
  -- the plain law
  have l0 := refh_big gen l 30 (by simp)
  have l1 := refh_big gen l 39 (by simp)
  have l2 := refh_big gen l 47 (by simp)
  have l3 := refh_big gen l 55 (by simp)
  have hdd := byte_at l 38 (by omega)
  obtain ⟨d, hd⟩ : ∃ d : Nat, (l[38]'(by omega)).toNat = d := ⟨_, rfl⟩
  have hd255 : d < 256 := by rw [← hd]; exact UInt8.toNat_lt _
  rw [hd] at h38 hdd
  obtain ⟨n0, e0⟩ : ∃ n, leOf ((l.drop 30).take 8) = n := ⟨_, rfl⟩
  obtain ⟨n1, e1⟩ : ∃ n, leOf ((l.drop 39).take 8) = n := ⟨_, rfl⟩
  obtain ⟨n2, e2⟩ : ∃ n, leOf ((l.drop 47).take 8) = n := ⟨_, rfl⟩
  obtain ⟨n3, e3⟩ : ∃ n, leOf ((l.drop 55).take 8) = n := ⟨_, rfl⟩
  obtain ⟨pg, ep⟩ : ∃ n, leOf ((l.drop 26).take 4) = n := ⟨_, rfl⟩
  have hpg : pg < 4294967296 := by have := piece_lt l 26 4; rw [ep] at this; simpa using this
  have hof := refh_of63 gen l n0 n1 n2 n3 e0 e1 e2 e3
  rw [ep, hdd] at hof
  rw [e0] at c0 l0
  rw [e1] at c1 l1
  rw [e2] at c2 l2
  rw [e3] at c3 l3
  rw [ep] at cP
  have hnp : ¬ (of26 (l.take 26)).Fits → ¬ Un63 gen l := fun h u => by
    have := (Hd.code_zero u.2).1
    exact h this
  have hpk := pack_of63 gen l hl
  have hsd : (of26 (l.take 26)).seed < 18446744073709551616 := fits_seed _
  have hun : Un63 gen l ↔ (of63 gen l).code = 0 := ⟨fun u => u.2, fun u => ⟨hl, u⟩⟩
  generalize of26 (l.take 26) = p at hof hnp cU hsd
  obtain ⟨RES, hRES⟩ : ∃ RES, (if Un63 gen l then #[(of63 gen l).v, .int .i64 0] else #[hd0.v, .int .i64 5]) = RES := ⟨_, rfl⟩
  have ry : Un63 gen l → RES = #[(of63 gen l).v, .int .i64 0] := fun u => by rw [← hRES, if_pos u]
  have rn : ¬ Un63 gen l → RES = #[hd0.v, .int .i64 5] := fun u => by rw [← hRES, if_neg u]
  rw [hRES]
  have hfin : n0 < 9223372036854775808 → n1 < 9223372036854775808 → n2 < 9223372036854775808 → n3 < 9223372036854775808 →
      ∃ cd : Int, (∀ w', Calls Try.prog 63 #[Hd.v ⟨p, gen, pg, n0, d, n1, n2, n3⟩] w' fun e w'' => ∃ v', e = .returned (.tuple #[v', .int .i64 cd]) ∧ OwnB w'' w'.heap.size 5 v' (if cd = 0 then l else []) ∧ Keep [] w' w'') ∧ (cd = 0 → RES = #[Hd.v ⟨p, gen, pg, n0, d, n1, n2, n3⟩, .int .i64 0]) ∧ (cd ≠ 0 → RES = #[hd0.v, .int .i64 5]) := fun b0 b1 b2 b3 => by
    have ho := hof b0 b1 b2 b3
    refine ⟨(of63 gen l).code, fun w' => ?_, fun hz => ?_, fun hz => ?_⟩
    · have h := refhPack_any (of63 gen l) (by rw [ho]; exact hsd) w'
      rw [hpk, ho] at h
      rw [ho]
      exact h
    · rw [ry (hun.2 hz), ho]
    · exact rn (fun u => hz (hun.1 u))
  have hno1 : ¬ p.Fits → RES = #[hd0.v, .int .i64 5] := fun h => rn (hnp h)
  have m0 : ¬ n0 < 9223372036854775808 → RES = #[hd0.v, .int .i64 5] := fun h => rn (l0 h)
  have m1 : ¬ n1 < 9223372036854775808 → RES = #[hd0.v, .int .i64 5] := fun h => rn (l1 h)
  have m2 : ¬ n2 < 9223372036854775808 → RES = #[hd0.v, .int .i64 5] := fun h => rn (l2 h)
  have m3 : ¬ n3 < 9223372036854775808 → RES = #[hd0.v, .int .i64 5] := fun h => rn (l3 h)
  obtain ⟨F, hFF⟩ : ∃ F : Bool, decide p.Fits = F := ⟨_, rfl⟩
  have cU2 : ∀ w', Keep [] w w' → Calls Try.prog 117 #[.slice (some ⟨b, o, none⟩) 26 cap] w' fun e w'' => e = .returned (.tuple #[if F = true then p.v else plan0, .int .i64 (if F = true then 0 else 12)]) ∧ Keep [] w' w'' := fun w' h => by
    refine (cU w' h).mono ?_
    rintro e w'' ⟨rfl, k⟩
    refine ⟨?_, k⟩
    rw [← hFF]
    by_cases hf : p.Fits <;> simp [hf]
  have hno2 : F = false → RES = #[hd0.v, .int .i64 5] := fun e => hno1 (by rw [e, decide_eq_false_iff_not] at hFF; exact hFF)
  clear hx hx' cU hof hnp hun hpk hdd e0 e1 e2 e3 ep ry rn hRES hFF hsd hd
  obtain ⟨sec, size, reg, rs, lg, dep, mem, seed⟩ := p
  simp only [hd0, Hd.v, Hd.cells, Pl.v, plan0, show ((0 : Nat) : Int) = 0 from rfl] at *
  have hsz : cap ≥ 63 := by omega
  have hl63 : ((l.length : Int) != 63) = false := by simp; omega
  have z1 : (26 : Int) ≤ (cap : Int) := by omega
  have z30 : ¬ cap = 30 := by omega
  have z39 : ¬ cap = 39 := by omega
  have z47 : ¬ cap = 47 := by omega
  have z55 : ¬ cap = 55 := by omega
  have z26 : ¬ cap = 26 := by omega
  have y38 : (38 : Int) ≤ (cap : Int) := by omega
  have y47 : (47 : Int) ≤ (cap : Int) := by omega
  have y55 : (55 : Int) ≤ (cap : Int) := by omega
  have y63 : (63 : Int) ≤ (cap : Int) := by omega
  have y30 : (30 : Int) ≤ (cap : Int) := by omega
  have x38 : (38 : Int) < (l.length : Int) := by omega
  have HL := Lib.hid hl
  have C0 := Lib.hid c0
  have C1 := Lib.hid c1
  have C2 := Lib.hid c2
  have C3 := Lib.hid c3
  have CP := Lib.hid cP
  have CU := Lib.hid cU2
  have H38 := Lib.hid h38
  have L0 := Lib.hid m0
  have L1 := Lib.hid m1
  have L2 := Lib.hid m2
  have L3 := Lib.hid m3
  have HNO := Lib.hid hno2
  have HFIN := Lib.hid hfin
  clear hl c0 c1 c2 c3 cP cU2 h38 l0 l1 l2 l3 m0 m1 m2 m3 hno1 hno2 hfin
  have hA := heap_alloc_new w (.cells #[.int .i64 0, .int .i64 0, .int .i64 0, .int .i64 0, .int .i64 0, .int .i64 0, .int .i64 0, .int .u64 0, .int .i64 0, .int .i64 0, .int .i64 0, .int .i64 0, .int .i64 0, .int .i64 0, .int .i64 0] 118)
  have hK := (Keep.refl [] w).alloc (.cells #[.int .i64 0, .int .i64 0, .int .i64 0, .int .i64 0, .int .i64 0, .int .i64 0, .int .i64 0, .int .u64 0, .int .i64 0, .int .i64 0, .int .i64 0, .int .i64 0, .int .i64 0, .int .i64 0, .int .i64 0] 118)
  have HA := Lib.hid hA
  have HK := Lib.hid hK
  clear hA hK
  go_enter Try.func65, Try.ntmps65
  go_wp2_with fail
  refine (CU.out _ HK.out).mono ?_
  rintro e w2 ⟨rfl, k2⟩
  have hA2 := k2.blk (by simp) HA.out
  have hK2 := HK.out.trans k2
  clear k2
  cases F with
  | false =>
    have hr := Lib.hid (HNO.out rfl)
    have hA3 := ((Keep.refl [] w2).alloc (.cells #[.int .i64 0, .int .i64 0, .int .i64 0, .int .i64 0, .int .i64 0, .int .i64 0, .int .i64 0, .int .u64 0] 116)).blk (by simp) hA2
    have hK3 := hK2.alloc (.cells #[.int .i64 0, .int .i64 0, .int .i64 0, .int .i64 0, .int .i64 0, .int .i64 0, .int .i64 0, .int .u64 0] 116)
    have HA3 := Lib.hid hA3
    have HK3 := Lib.hid hK3
    clear hA2 hK2 hA3 hK3
    go_wp2_with (refine wpList_store_row rfl 118 (.tmp 4) (.tmp 24) rfl w.heap.size #[.int .i64 0, .int .i64 0, .int .i64 0, .int .i64 0, .int .i64 0, .int .i64 0, .int .i64 0, .int .u64 0, .int .i64 0, .int .i64 0, .int .i64 0, .int .i64 0, .int .i64 0, .int .i64 0, .int .i64 0] rfl rfl 118 _ HA3.out (by kernel_rfl) (by rfl) (by kernel_rfl) ?_)
    exact bodyPost_ret (results_cell_tmp_row rfl _ _ w.heap.size 118 #[.int .i64 0, .int .i64 0, .int .i64 0, .int .i64 0, .int .i64 0, .int .i64 0, .int .i64 0, .int .u64 0, .int .i64 0, .int .i64 0, .int .i64 0, .int .i64 0, .int .i64 0, .int .i64 0, .int .i64 0] _ _ rfl (setRow_heap _ _ _ _ _ _ HA3.out) Try.underlying118 rfl (by kernel_rfl)) rfl ⟨by rw [hr.out]; rfl, HK3.out.setRow (.inr (Nat.le_refl _)) _⟩
  | true =>
    simp only [if_true]
    have hA3 := ((Keep.refl [] w2).alloc (.cells #[.int .i64 sec, .int .i64 size, .int .i64 reg, .int .i64 rs, .int .i64 lg, .int .i64 dep, .int .i64 mem, .int .u64 (seed : Int)] 116)).blk (by simp) hA2
    have hP3 := heap_alloc_new w2 (.cells #[.int .i64 sec, .int .i64 size, .int .i64 reg, .int .i64 rs, .int .i64 lg, .int .i64 dep, .int .i64 mem, .int .u64 (seed : Int)] 116)
    have hK3 := hK2.alloc (.cells #[.int .i64 sec, .int .i64 size, .int .i64 reg, .int .i64 rs, .int .i64 lg, .int .i64 dep, .int .i64 mem, .int .u64 (seed : Int)] 116)
    have hs3 : (w2.alloc (.cells #[.int .i64 sec, .int .i64 size, .int .i64 reg, .int .i64 rs, .int .i64 lg, .int .i64 dep, .int .i64 mem, .int .u64 (seed : Int)] 116)).heap.size = w2.heap.size + 1 := World.size_alloc _ _
    have hlt : w.heap.size < w2.heap.size := (Array.getElem?_eq_some_iff.1 hA2).1
    have HA3 := Lib.hid hA3
    have HP3 := Lib.hid hP3
    have HK3 := Lib.hid hK3
    have HS3 := Lib.hid hs3
    clear hA2 hK2 hA3 hK3 hP3 hs3
    go_wp2_with fail
    refine wp_region_his [w2.heap.size + 1] [13, 14] (fun _ => 0) (by kernel_rfl) (by kernel_rfl) ?_
    intro w4 hk4 hh4
    have hA4 := hk4.blk (by simp) HA3.out
    have hP4 := hk4.blk (by simp) HP3.out
    have hs4 : w4.heap.size = w2.heap.size + 1 := by rw [hh4]; exact HS3.out
    have hK4 := HK3.out.trans hk4
    have G : ∀ {w'}, Keep [w2.heap.size + 1] w4 w' → Keep [] w w' := fun h => hK4.trans' h (fun b hb => by simp at hb; exact .inr (by omega))
    clear hk4 hh4 HA3 HP3 HK3 HS3
    have HA4 := Lib.hid hA4
    have HP4 := Lib.hid hP4
    have HK4 := Lib.hid hK4
    clear hA4 hP4 hK4
    (repeat (first | (refine his_q rfl rfl (fun K hK => ?_); apply Exists.intro; refine ⟨fun w' hC => ?_, ?_⟩; ((try simp [Sg.upd] at hC); go_simp <;> rfl); go_simp; refine hK _ _ ?_; clear hK K) | (refine his_s rfl (fun K hK => ?_); go_simp; refine hK _ _ ?_; clear hK K)))
    refine his_c rfl rfl (.int .u64 (n0 : Int)) (fun K hK => ?_)
    refine ⟨fun w' hC => Yields.call _ _ ?_ (by kernel_rfl) (C0.out w' (G hC)), ?_⟩
    · go_simp
    go_simp
    refine hK _ _ ?_
    clear hK K
    (repeat (first | (refine his_q rfl rfl (fun K hK => ?_); apply Exists.intro; refine ⟨fun w' hC => ?_, ?_⟩; ((try simp [Sg.upd] at hC); go_simp <;> rfl); go_simp; refine hK _ _ ?_; clear hK K) | (refine his_s rfl (fun K hK => ?_); go_simp; refine hK _ _ ?_; clear hK K)))
    refine his_c rfl rfl (.int .u64 (n1 : Int)) (fun K hK => ?_)
    refine ⟨fun w' hC => Yields.call _ _ ?_ (by kernel_rfl) (C1.out w' (G hC)), ?_⟩
    · go_simp
    go_simp
    refine hK _ _ ?_
    clear hK K
    (repeat (first | (refine his_q rfl rfl (fun K hK => ?_); apply Exists.intro; refine ⟨fun w' hC => ?_, ?_⟩; ((try simp [Sg.upd] at hC); go_simp <;> rfl); go_simp; refine hK _ _ ?_; clear hK K) | (refine his_s rfl (fun K hK => ?_); go_simp; refine hK _ _ ?_; clear hK K)))
    refine his_c rfl rfl (.int .u64 (n2 : Int)) (fun K hK => ?_)
    refine ⟨fun w' hC => Yields.call _ _ ?_ (by kernel_rfl) (C2.out w' (G hC)), ?_⟩
    · go_simp
    go_simp
    refine hK _ _ ?_
    clear hK K
    (repeat (first | (refine his_q rfl rfl (fun K hK => ?_); apply Exists.intro; refine ⟨fun w' hC => ?_, ?_⟩; ((try simp [Sg.upd] at hC); go_simp <;> rfl); go_simp; refine hK _ _ ?_; clear hK K) | (refine his_s rfl (fun K hK => ?_); go_simp; refine hK _ _ ?_; clear hK K)))
    refine his_c rfl rfl (.int .u64 (n3 : Int)) (fun K hK => ?_)
    refine ⟨fun w' hC => Yields.call _ _ ?_ (by kernel_rfl) (C3.out w' (G hC)), ?_⟩
    · go_simp
    go_simp
    refine hK _ _ ?_
    clear hK K
    (repeat (first | (refine his_q rfl rfl (fun K hK => ?_); apply Exists.intro; refine ⟨fun w' hC => ?_, ?_⟩; ((try simp [Sg.upd] at hC); go_simp <;> rfl); go_simp; refine hK _ _ ?_; clear hK K) | (refine his_s rfl (fun K hK => ?_); go_simp; refine hK _ _ ?_; clear hK K)))
    (refine his_l rfl rfl (fun K hK => ?_); go_simp)
    refine hK _ _ ((Keep.refl _ _).alloc _) ?_
    clear hK K
    have hQ5 := heap_alloc_new w4 (.cells #[.int .u64 0, .int .u64 0, .int .u64 0, .int .u64 0] 215)
    rw [hs4] at hQ5
    refine his_l rfl rfl (fun K hK => ?_)
    refine loudly_store_row 215 (.tmp 8) (.tmp 37) rfl (w2.heap.size + 1) #[.int .u64 (n0 : Int), .int .u64 (n1 : Int), .int .u64 (n2 : Int), .int .u64 (n3 : Int)] rfl rfl 215 _ hQ5 (by kernel_rfl) (by rfl) (by kernel_rfl) ?_
    refine hK _ _ ((Keep.refl _ _).setRow (.inl (by simp)) _) ?_
    clear hK K
    refine his_nil ?_
    have hQ6 := setRow_heap _ _ _ #[.int .u64 (n0 : Int), .int .u64 (n1 : Int), .int .u64 (n2 : Int), .int .u64 (n3 : Int)] _ _ hQ5
    have hA6 : ((w4.alloc (.cells #[.int .u64 0, .int .u64 0, .int .u64 0, .int .u64 0] 215)).setRow (w2.heap.size + 1) #[.int .u64 (n0 : Int), .int .u64 (n1 : Int), .int .u64 (n2 : Int), .int .u64 (n3 : Int)]).heap[w.heap.size]? = _ := (setRow_other _ _ _ _ (by omega)).trans (((Keep.refl [] w4).alloc (.cells #[.int .u64 0, .int .u64 0, .int .u64 0, .int .u64 0] 215)).blk (by simp) HA4.out)
    have hP6 : ((w4.alloc (.cells #[.int .u64 0, .int .u64 0, .int .u64 0, .int .u64 0] 215)).setRow (w2.heap.size + 1) #[.int .u64 (n0 : Int), .int .u64 (n1 : Int), .int .u64 (n2 : Int), .int .u64 (n3 : Int)]).heap[w2.heap.size]? = _ := (setRow_other _ _ _ _ (by omega)).trans (((Keep.refl [] w4).alloc (.cells #[.int .u64 0, .int .u64 0, .int .u64 0, .int .u64 0] 215)).blk (by simp) HP4.out)
    have hK6 : Keep [] w ((w4.alloc (.cells #[.int .u64 0, .int .u64 0, .int .u64 0, .int .u64 0] 215)).setRow (w2.heap.size + 1) #[.int .u64 (n0 : Int), .int .u64 (n1 : Int), .int .u64 (n2 : Int), .int .u64 (n3 : Int)]) := (HK4.out.alloc _).setRow (.inr (by omega)) _
    have hs6 : ((w4.alloc (.cells #[.int .u64 0, .int .u64 0, .int .u64 0, .int .u64 0] 215)).setRow (w2.heap.size + 1) #[.int .u64 (n0 : Int), .int .u64 (n1 : Int), .int .u64 (n2 : Int), .int .u64 (n3 : Int)]).heap.size = w2.heap.size + 2 := by simp [hs4]
    generalize (w4.alloc (.cells #[.int .u64 0, .int .u64 0, .int .u64 0, .int .u64 0] 215)).setRow (w2.heap.size + 1) #[.int .u64 (n0 : Int), .int .u64 (n1 : Int), .int .u64 (n2 : Int), .int .u64 (n3 : Int)] = w6 at *
    have hc6 : ∀ k, k < 4 → w6.cell? ⟨w2.heap.size + 1, k, none⟩ = some (.int .u64 (([n0, n1, n2, n3].getD k 0 : Nat) : Int)) := fun k hk => by
      rw [cell_of_row _ _ k _ _ _ hQ6]
      rcases (by omega : k = 0 ∨ k = 1 ∨ k = 2 ∨ k = 3) with rfl | rfl | rfl | rfl <;> rfl
    have hbig : ∀ k, k < 4 → ¬ ([n0, n1, n2, n3].getD k 0) < 9223372036854775808 → RES = #[.agg #[.int .i64 0, .int .i64 0, .int .i64 0, .int .i64 0, .int .i64 0, .int .i64 0, .int .i64 0, .int .u64 0, .int .i64 0, .int .i64 0, .int .i64 0, .int .i64 0, .int .i64 0, .int .i64 0, .int .i64 0], .int .i64 5] := fun k hk h => by
      rcases (by omega : k = 0 ∨ k = 1 ∨ k = 2 ∨ k = 3) with rfl | rfl | rfl | rfl
      · exact L0.out h
      · exact L1.out h
      · exact L2.out h
      · exact L3.out h
    have HQ6 := Lib.hid hQ6
    have HA6 := Lib.hid hA6
    have HP6 := Lib.hid hP6
    have HK6 := Lib.hid hK6
    have HS6 := Lib.hid hs6
    have HC6 := Lib.hid hc6
    have HBIG := Lib.hid hbig
    clear hQ6 hA6 hP6 hK6 hs6 hc6 hbig hQ5 HA4 HP4 hs4 HK4 G C0 C1 C2 C3 L0 L1 L2 L3 HNO
    obtain ⟨N, hN⟩ : ∃ N : Nat → Nat, (fun k => [n0, n1, n2, n3].getD k 0) = N := ⟨_, rfl⟩
    have HN := Lib.hid hN
    clear hN
    go_wp2
    go_loop [9] (fun i => ∃ k : Nat, k ≤ 4 ∧ i = .int .i64 k ∧ Hid (∀ j, j < k → N j < 9223372036854775808)) (fun i => 4 - (intOf i).toNat)
    case atStart => exact ⟨0, by omega, rfl, fun j hj => by omega⟩
    case round =>
      obtain ⟨k, hk4, rfl, hlow⟩ := hrel
      by_cases hlt4 : k < 4
      · have hkk : (k : Int) < 4 := by omega
        have hck := HC6.out k hlt4
        have hNk : [n0, n1, n2, n3].getD k 0 = N k := congrFun HN.out k
        have hbk := HBIG.out k hlt4
        rw [hNk] at hck hbk
        obtain ⟨nk, hnk⟩ : ∃ n, N k = n := ⟨_, rfl⟩
        rw [hnk] at hck hbk
        have HNK := Lib.hid hnk
        have HBK := Lib.hid hbk
        clear hnk hNk hbk
        by_cases hsm : (nk : Int) ≤ 9223372036854775807
        · go_wp2
          go_round
          case rel => exact ⟨k + 1, by omega, by go_num, fun j hj => by
            by_cases hjk : j = k
            · rw [hjk, HNK.out]; omega
            · exact hlow.out j (by omega)⟩
          case measure => simp [intOf]; omega
        · have hbg : (9223372036854775807 : Int) < (nk : Int) := by omega
          have hr := Lib.hid (HBK.out (by omega))
          go_wp2_with (refine wpList_store_row rfl 118 (.tmp 4) (.tmp 46) rfl w.heap.size #[.int .i64 0, .int .i64 0, .int .i64 0, .int .i64 0, .int .i64 0, .int .i64 0, .int .i64 0, .int .u64 0, .int .i64 0, .int .i64 0, .int .i64 0, .int .i64 0, .int .i64 0, .int .i64 0, .int .i64 0] rfl rfl 118 _ HA6.out (by kernel_rfl) (by rfl) (by kernel_rfl) ?_)
          exact bodyPost_ret (results_cell_tmp_row rfl _ _ w.heap.size 118 #[.int .i64 0, .int .i64 0, .int .i64 0, .int .i64 0, .int .i64 0, .int .i64 0, .int .i64 0, .int .u64 0, .int .i64 0, .int .i64 0, .int .i64 0, .int .i64 0, .int .i64 0, .int .i64 0, .int .i64 0] _ _ rfl (setRow_heap _ _ _ _ _ _ HA6.out) Try.underlying118 rfl (by kernel_rfl)) rfl ⟨by rw [hr.out]; rfl, HK6.out.setRow (.inr (Nat.le_refl _)) _⟩
      · obtain rfl : k = 4 := by omega
        have hall : ∀ j, j < 4 → [n0, n1, n2, n3].getD j 0 < 9223372036854775808 := fun j hj => by
          rw [show [n0, n1, n2, n3].getD j 0 = N j from congrFun HN.out j]; exact hlow.out j hj
        have b0 : n0 < 9223372036854775808 := hall 0 (by omega)
        have b1 : n1 < 9223372036854775808 := hall 1 (by omega)
        have b2 : n2 < 9223372036854775808 := hall 2 (by omega)
        have b3 : n3 < 9223372036854775808 := hall 3 (by omega)
        obtain ⟨cd, cK, ry, rn⟩ := HFIN.out b0 b1 b2 b3
        have CK := Lib.hid cK
        have RY := Lib.hid ry
        have RN := Lib.hid rn
        have u0 := i64_wrap_nat b0
        have u1 := i64_wrap_nat b1
        have u2 := i64_wrap_nat b2
        have u3 := i64_wrap_nat b3
        have up := i64_wrap_nat (n := pg) (by omega)
        have ud := i64_wrap_nat (n := d) (by omega)
        have U0 : RowKit.wrap64 (n0 : Int) = (n0 : Int) := by rw [sg_wrap]; exact sg_small b0
        have U1 : RowKit.wrap64 (n1 : Int) = (n1 : Int) := by rw [sg_wrap]; exact sg_small b1
        have U2 : RowKit.wrap64 (n2 : Int) = (n2 : Int) := by rw [sg_wrap]; exact sg_small b2
        have U3 : RowKit.wrap64 (n3 : Int) = (n3 : Int) := by rw [sg_wrap]; exact sg_small b3
        have UP : RowKit.wrap64 (pg : Int) = (pg : Int) := by rw [sg_wrap]; exact sg_small (by omega)
        have UD : RowKit.wrap64 (d : Int) = (d : Int) := by rw [sg_wrap]; exact sg_small (by omega)
        clear hall hlow HN HBIG HFIN cK ry rn HC6 hlt4 b0 b1 b2 b3
        go_wp2_with fail
        refine wp_region_his [w2.heap.size + 2] [23, 24] (fun _ => 0) (by kernel_rfl) (by kernel_rfl) ?_
        intro w7 hk7 hh7
        have hA7 := hk7.blk (by simp) HA6.out
        have hP7 := hk7.blk (by simp) HP6.out
        have hQ7 := hk7.blk (by simp) HQ6.out
        have hs7 : w7.heap.size = w2.heap.size + 2 := by rw [hh7]; exact HS6.out
        have hK7 := HK6.out.trans hk7
        have G : ∀ {w'}, Keep [w2.heap.size + 2] w7 w' → Keep [] w w' := fun h => hK7.trans' h (fun b hb => by simp at hb; exact .inr (by omega))
        have g38 := fun w' (h' : Keep [w2.heap.size + 2] w7 w') => H38.out w' (G h')
        have p0 := fun w' (h' : Keep [w2.heap.size + 2] w7 w') => cell_of_row w' _ 0 _ _ _ (h'.blk (by simp) hP7)
        have p1 := fun w' (h' : Keep [w2.heap.size + 2] w7 w') => cell_of_row w' _ 1 _ _ _ (h'.blk (by simp) hP7)
        have p2 := fun w' (h' : Keep [w2.heap.size + 2] w7 w') => cell_of_row w' _ 2 _ _ _ (h'.blk (by simp) hP7)
        have p3 := fun w' (h' : Keep [w2.heap.size + 2] w7 w') => cell_of_row w' _ 3 _ _ _ (h'.blk (by simp) hP7)
        have p4 := fun w' (h' : Keep [w2.heap.size + 2] w7 w') => cell_of_row w' _ 4 _ _ _ (h'.blk (by simp) hP7)
        have p5 := fun w' (h' : Keep [w2.heap.size + 2] w7 w') => cell_of_row w' _ 5 _ _ _ (h'.blk (by simp) hP7)
        have p6 := fun w' (h' : Keep [w2.heap.size + 2] w7 w') => cell_of_row w' _ 6 _ _ _ (h'.blk (by simp) hP7)
        have p7 := fun w' (h' : Keep [w2.heap.size + 2] w7 w') => cell_of_row w' _ 7 _ _ _ (h'.blk (by simp) hP7)
        have q0 := fun w' (h' : Keep [w2.heap.size + 2] w7 w') => cell_of_row w' _ 0 _ _ _ (h'.blk (by simp) hQ7)
        have q1 := fun w' (h' : Keep [w2.heap.size + 2] w7 w') => cell_of_row w' _ 1 _ _ _ (h'.blk (by simp) hQ7)
        have q2 := fun w' (h' : Keep [w2.heap.size + 2] w7 w') => cell_of_row w' _ 2 _ _ _ (h'.blk (by simp) hQ7)
        have q3 := fun w' (h' : Keep [w2.heap.size + 2] w7 w') => cell_of_row w' _ 3 _ _ _ (h'.blk (by simp) hQ7)
        simp at p0 p1 p2 p3 p4 p5 p6 p7 q0 q1 q2 q3
        have HA7 := Lib.hid hA7
        have HK7 := Lib.hid hK7
        clear hk7 hh7 hA7 hP7 hQ7 hK7 HA6 HP6 HQ6 HK6 HS6
        (repeat (first | (refine his_q rfl rfl (fun K hK => ?_); apply Exists.intro; refine ⟨fun w' hC => ?_, ?_⟩; ((try simp [Sg.upd] at hC); go_simp <;> rfl); go_simp; refine hK _ _ ?_; clear hK K) | (refine his_s rfl (fun K hK => ?_); go_simp; refine hK _ _ ?_; clear hK K)))
        refine his_c rfl rfl (.int .u64 (pg : Int)) (fun K hK => ?_)
        refine ⟨fun w' hC => Yields.call _ _ ?_ (by kernel_rfl) (CP.out w' (G hC)), ?_⟩
        · go_simp
        go_simp
        refine hK _ _ ?_
        clear hK K
        (repeat (first | (refine his_q rfl rfl (fun K hK => ?_); apply Exists.intro; refine ⟨fun w' hC => ?_, ?_⟩; ((try simp [Sg.upd] at hC); go_simp <;> rfl); go_simp; refine hK _ _ ?_; clear hK K) | (refine his_s rfl (fun K hK => ?_); go_simp; refine hK _ _ ?_; clear hK K)))
        (refine his_l rfl rfl (fun K hK => ?_); go_simp)
        refine hK _ _ ((Keep.refl _ _).alloc _) ?_
        clear hK K
        have hR8 := heap_alloc_new w7 (.cells #[.int .i64 0, .int .i64 0, .int .i64 0, .int .i64 0, .int .i64 0, .int .i64 0, .int .i64 0, .int .u64 0, .int .i64 0, .int .i64 0, .int .i64 0, .int .i64 0, .int .i64 0, .int .i64 0, .int .i64 0] 118)
        rw [hs7] at hR8
        refine his_l rfl rfl (fun K hK => ?_)
        refine loudly_store_row 118 (.tmp 10) (.tmp 69) rfl (w2.heap.size + 2) #[.int .i64 sec, .int .i64 size, .int .i64 reg, .int .i64 rs, .int .i64 lg, .int .i64 dep, .int .i64 mem, .int .u64 (seed : Int), .int .i64 gen, .int .i64 (pg : Int), .int .i64 (n0 : Int), .int .i64 (d : Int), .int .i64 (n1 : Int), .int .i64 (n2 : Int), .int .i64 (n3 : Int)] rfl rfl 118 _ hR8 (by kernel_rfl) (by rfl) (by kernel_rfl) ?_
        refine hK _ _ ((Keep.refl _ _).setRow (.inl (by simp)) _) ?_
        clear hK K
        refine his_nil ?_
        have hR9 := setRow_heap _ _ _ #[.int .i64 sec, .int .i64 size, .int .i64 reg, .int .i64 rs, .int .i64 lg, .int .i64 dep, .int .i64 mem, .int .u64 (seed : Int), .int .i64 gen, .int .i64 (pg : Int), .int .i64 (n0 : Int), .int .i64 (d : Int), .int .i64 (n1 : Int), .int .i64 (n2 : Int), .int .i64 (n3 : Int)] _ _ hR8
        have hA9 : ((w7.alloc (.cells #[.int .i64 0, .int .i64 0, .int .i64 0, .int .i64 0, .int .i64 0, .int .i64 0, .int .i64 0, .int .u64 0, .int .i64 0, .int .i64 0, .int .i64 0, .int .i64 0, .int .i64 0, .int .i64 0, .int .i64 0] 118)).setRow (w2.heap.size + 2) #[.int .i64 sec, .int .i64 size, .int .i64 reg, .int .i64 rs, .int .i64 lg, .int .i64 dep, .int .i64 mem, .int .u64 (seed : Int), .int .i64 gen, .int .i64 (pg : Int), .int .i64 (n0 : Int), .int .i64 (d : Int), .int .i64 (n1 : Int), .int .i64 (n2 : Int), .int .i64 (n3 : Int)]).heap[w.heap.size]? = _ := (setRow_other _ _ _ _ (by omega)).trans (((Keep.refl [] w7).alloc (.cells #[.int .i64 0, .int .i64 0, .int .i64 0, .int .i64 0, .int .i64 0, .int .i64 0, .int .i64 0, .int .u64 0, .int .i64 0, .int .i64 0, .int .i64 0, .int .i64 0, .int .i64 0, .int .i64 0, .int .i64 0] 118)).blk (by simp) HA7.out)
        have hK9 : Keep [] w ((w7.alloc (.cells #[.int .i64 0, .int .i64 0, .int .i64 0, .int .i64 0, .int .i64 0, .int .i64 0, .int .i64 0, .int .u64 0, .int .i64 0, .int .i64 0, .int .i64 0, .int .i64 0, .int .i64 0, .int .i64 0, .int .i64 0] 118)).setRow (w2.heap.size + 2) #[.int .i64 sec, .int .i64 size, .int .i64 reg, .int .i64 rs, .int .i64 lg, .int .i64 dep, .int .i64 mem, .int .u64 (seed : Int), .int .i64 gen, .int .i64 (pg : Int), .int .i64 (n0 : Int), .int .i64 (d : Int), .int .i64 (n1 : Int), .int .i64 (n2 : Int), .int .i64 (n3 : Int)]) := (HK7.out.alloc _).setRow (.inr (by omega)) _
        generalize (w7.alloc (.cells #[.int .i64 0, .int .i64 0, .int .i64 0, .int .i64 0, .int .i64 0, .int .i64 0, .int .i64 0, .int .u64 0, .int .i64 0, .int .i64 0, .int .i64 0, .int .i64 0, .int .i64 0, .int .i64 0, .int .i64 0] 118)).setRow (w2.heap.size + 2) #[.int .i64 sec, .int .i64 size, .int .i64 reg, .int .i64 rs, .int .i64 lg, .int .i64 dep, .int .i64 mem, .int .u64 (seed : Int), .int .i64 gen, .int .i64 (pg : Int), .int .i64 (n0 : Int), .int .i64 (d : Int), .int .i64 (n1 : Int), .int .i64 (n2 : Int), .int .i64 (n3 : Int)] = w9 at *
        have HR9 := Lib.hid hR9
        have HA9 := Lib.hid hA9
        have HK9 := Lib.hid hK9
        clear hR8 hR9 hA9 hK9 HA7 hs7 HK7 G CP g38 p0 p1 p2 p3 p4 p5 p6 p7 q0 q1 q2 q3 u0 u1 u2 u3 up ud U0 U1 U2 U3 UP UD
        go_wp2_with (refine wpList_load_row rfl 118 (.tmp 10) rfl (w2.heap.size + 2) rfl 118 _ _ _ HR9.out Try.underlying118 rfl (by kernel_rfl) ?_)
        refine (CK.out _).mono ?_
        rintro e w10 ⟨v10, rfl, o10, k10⟩
        have hR10 := k10.blk (by simp) HR9.out
        have hA10 := k10.blk (by simp) HA9.out
        have hK10 := HK9.out.trans k10
        have HR10 := Lib.hid hR10
        have HA10 := Lib.hid hA10
        have HK10 := Lib.hid hK10
        clear hR10 hA10 hK10 HR9 HA9 HK9 k10
        by_cases hz : cd = 0
        · have hr := Lib.hid (RY.out hz)
          subst hz
          rw [if_pos rfl] at o10
          have hb10 := o10.bytes (by have := HL.out; omega)
          have hxb := HXB.out _ HK10.out
          have s1 := run_str (P := Try.prog) 30 9 5 Try.underlying30 Try.underlying5 Try.underlying9 hb10
          have s2 := run_str (P := Try.prog) 30 9 5 Try.underlying30 Try.underlying5 Try.underlying9 hxb
          clear o10 hb10 hxb
          go_wp2_with (first | (refine wpList_load_row rfl 118 (.tmp 10) rfl (w2.heap.size + 2) rfl 118 _ _ _ HR10.out Try.underlying118 rfl (by kernel_rfl) ?_) | (refine wpList_store_row rfl 118 (.tmp 4) (.tmp 85) rfl w.heap.size #[.int .i64 sec, .int .i64 size, .int .i64 reg, .int .i64 rs, .int .i64 lg, .int .i64 dep, .int .i64 mem, .int .u64 (seed : Int), .int .i64 gen, .int .i64 (pg : Int), .int .i64 (n0 : Int), .int .i64 (d : Int), .int .i64 (n1 : Int), .int .i64 (n2 : Int), .int .i64 (n3 : Int)] rfl rfl 118 _ HA10.out (by kernel_rfl) (by rfl) (by kernel_rfl) ?_))
          exact bodyPost_ret (results_cell_tmp_row rfl _ _ w.heap.size 118 #[.int .i64 sec, .int .i64 size, .int .i64 reg, .int .i64 rs, .int .i64 lg, .int .i64 dep, .int .i64 mem, .int .u64 (seed : Int), .int .i64 gen, .int .i64 (pg : Int), .int .i64 (n0 : Int), .int .i64 (d : Int), .int .i64 (n1 : Int), .int .i64 (n2 : Int), .int .i64 (n3 : Int)] _ _ rfl (setRow_heap _ _ _ _ _ _ HA10.out) Try.underlying118 rfl (by kernel_rfl)) rfl ⟨by rw [hr.out]; rfl, HK10.out.setRow (.inr (Nat.le_refl _)) _⟩
        · have hr := Lib.hid (RN.out hz)
          have hzb : (cd != 0) = true := by simpa using hz
          clear o10 hz
          go_wp2_with (refine wpList_store_row rfl 118 (.tmp 4) (.tmp 84) rfl w.heap.size #[.int .i64 0, .int .i64 0, .int .i64 0, .int .i64 0, .int .i64 0, .int .i64 0, .int .i64 0, .int .u64 0, .int .i64 0, .int .i64 0, .int .i64 0, .int .i64 0, .int .i64 0, .int .i64 0, .int .i64 0] rfl rfl 118 _ HA10.out (by kernel_rfl) (by rfl) (by kernel_rfl) ?_)
          exact bodyPost_ret (results_cell_tmp_row rfl _ _ w.heap.size 118 #[.int .i64 0, .int .i64 0, .int .i64 0, .int .i64 0, .int .i64 0, .int .i64 0, .int .i64 0, .int .u64 0, .int .i64 0, .int .i64 0, .int .i64 0, .int .i64 0, .int .i64 0, .int .i64 0, .int .i64 0] _ _ rfl (setRow_heap _ _ _ _ _ _ HA10.out) Try.underlying118 rfl (by kernel_rfl)) rfl ⟨by rw [hr.out]; rfl, HK10.out.setRow (.inr (Nat.le_refl _)) _⟩

theorem refhUnpack_any (gen : Int) (x : Value) (l : List UInt8) (w : World) (hx : Bytes w x l) : Calls Try.prog 65 #[.int .i64 gen, x] w fun e w' => e = .returned (.tuple (if Un63 gen l then #[(of63 gen l).v, .int .i64 0] else #[hd0.v, .int .i64 5])) ∧ Keep [] w w' := by
  by_cases hl : l.length = 63
  · exact refhUnpack_in gen x l w hx hl
  · rw [if_neg (fun u => hl u.1)]
    exact refhUnpack_size gen x l w hx hl
end Go.Proofs.Ytijljdcpajjhhaa

/-! The walk of the document's Load of a head. -/
namespace Go.Proofs.Ytijljdcpajjhhaa
open Go.RowKit Go.Shelf Sg
attribute [local go_sem] Oper.semAt_some
set_option linter.unusedSimpArgs false
set_option linter.unusedVariables false

/-- the head in a sector's bytes, if one is right -/
def hdIn (n sz : Int) (t : Nat) (l : List UInt8) : Option Hd :=
  if LeafOk l ∧ lk l = 1 ∧ lp l = t ∧ ls l % 2 = t ∧ Un63 (ls l) (ll l) ∧ (of63 (ls l) (ll l)).p.sec = n ∧ (of63 (ls l) (ll l)).p.size = sz then some (of63 (ls l) (ll l)) else none
theorem hdIn_read {m : Dev} {t : Nat} (h : (m.read (t : Int)).2 = 0) : hdAt m t = hdIn m.n m.sz t (m.read (t : Int)).1 := by
  unfold hdAt hdIn lgot
  congr 1
  apply propext
  constructor
  · rintro ⟨⟨-, h1, h2, h3⟩, h4, h5, h6, h7⟩
    exact ⟨h1, by omega, by omega, h4, h5, h6, h7⟩
  · rintro ⟨h1, h2, h3, h4, h5, h6, h7⟩
    exact ⟨⟨h, h1, by omega, by omega⟩, h4, h5, h6, h7⟩
def hstep (s : Hd × Bool) (o : Option Hd) : Hd × Bool := match o with
  | none => s
  | some h => if s.2 = false ∨ s.1.gen < h.gen then (h, true) else s
def hpick (a b : Option Hd) (k : Nat) : Hd × Bool := if k = 0 then (hd0, false) else if k = 1 then hstep (hd0, false) a else hstep (hstep (hd0, false) a) b
theorem hpick_step (a b : Option Hd) (k : Nat) (hk : k < 2) : hpick a b (k + 1) = hstep (hpick a b k) (if k = 0 then a else b) := by
  rcases (by omega : k = 0 ∨ k = 1) with rfl | rfl <;> rfl
theorem hpick_two (a b : Option Hd) : hpick a b 2 = match insSorted (a.toList ++ b.toList) with
    | [] => (hd0, false)
    | x :: _ => (x, true) := by
  cases a with
  | none =>
    cases b with
    | none => rfl
    | some y => simp [hpick, hstep, insSorted]
  | some x =>
    cases b with
    | none => simp [hpick, hstep, insSorted]
    | some y =>
      by_cases h : x.gen < y.gen <;> simp [hpick, hstep, insSorted, h]
theorem hstep_none (s : Hd × Bool) : hstep s none = s := rfl

set_option maxRecDepth 100000 in
set_option maxHeartbeats 1000000 in
set_option maxHeartbeats 16000000 in
theorem refhLoad_any (n sz : Int) (x y : Value) (a b : List UInt8) (w : World) (hx : Bytes w x a) (hy : Bytes w y b) (ha : 96 ≤ a.length ∧ a.length ≤ 512) (hb : 96 ≤ b.length ∧ b.length ≤ 512) :
    Calls Try.prog 71 #[.int .i64 n, .int .i64 sz, x, y] w fun e w' => e = .returned (.tuple #[(hpick (hdIn n sz 0 a) (hdIn n sz 1 b) 2).1.v, .bool (hpick (hdIn n sz 0 a) (hdIn n sz 1 b) 2).2]) ∧ Keep [] w w' := by
  have HX := Lib.hid hx
  have HY := Lib.hid hy
  have hst := hpick_step (hdIn n sz 0 a) (hdIn n sz 1 b)
  obtain ⟨pk, hpk⟩ : ∃ pk, hpick (hdIn n sz 0 a) (hdIn n sz 1 b) = pk := ⟨_, rfl⟩
  have hp0 : pk 0 = (hd0, false) := by rw [← hpk]; rfl
  rw [hpk] at hst ⊢
  clear hpk
  have HST := Lib.hid hst
  have HP0 := Lib.hid hp0
  have H8 := Lib.hid ((((Keep.refl [] (w.alloc (.cells #[.int .i64 0, .int .i64 0, .int .i64 0, .int .i64 0, .int .i64 0, .int .i64 0, .int .i64 0, .int .u64 0, .int .i64 0, .int .i64 0, .int .i64 0, .int .i64 0, .int .i64 0, .int .i64 0, .int .i64 0] 118))).alloc (.cells #[.int .i64 0, .int .i64 0, .int .i64 0, .int .i64 0, .int .i64 0, .int .i64 0, .int .i64 0, .int .u64 0, .int .i64 0, .int .i64 0, .int .i64 0, .int .i64 0, .int .i64 0, .int .i64 0, .int .i64 0] 118))).blk (by simp) (heap_alloc_new w (.cells #[.int .i64 0, .int .i64 0, .int .i64 0, .int .i64 0, .int .i64 0, .int .i64 0, .int .i64 0, .int .u64 0, .int .i64 0, .int .i64 0, .int .i64 0, .int .i64 0, .int .i64 0, .int .i64 0, .int .i64 0] 118)))
  have H10 : Hid (((w.alloc (.cells #[.int .i64 0, .int .i64 0, .int .i64 0, .int .i64 0, .int .i64 0, .int .i64 0, .int .i64 0, .int .u64 0, .int .i64 0, .int .i64 0, .int .i64 0, .int .i64 0, .int .i64 0, .int .i64 0, .int .i64 0] 118)).alloc (.cells #[.int .i64 0, .int .i64 0, .int .i64 0, .int .i64 0, .int .i64 0, .int .i64 0, .int .i64 0, .int .u64 0, .int .i64 0, .int .i64 0, .int .i64 0, .int .i64 0, .int .i64 0, .int .i64 0, .int .i64 0] 118)).heap[w.heap.size + 1]? = some (.cells #[.int .i64 0, .int .i64 0, .int .i64 0, .int .i64 0, .int .i64 0, .int .i64 0, .int .i64 0, .int .u64 0, .int .i64 0, .int .i64 0, .int .i64 0, .int .i64 0, .int .i64 0, .int .i64 0, .int .i64 0] 118)) := Lib.hid (by have h := heap_alloc_new (w.alloc (.cells #[.int .i64 0, .int .i64 0, .int .i64 0, .int .i64 0, .int .i64 0, .int .i64 0, .int .i64 0, .int .u64 0, .int .i64 0, .int .i64 0, .int .i64 0, .int .i64 0, .int .i64 0, .int .i64 0, .int .i64 0] 118)) (.cells #[.int .i64 0, .int .i64 0, .int .i64 0, .int .i64 0, .int .i64 0, .int .i64 0, .int .i64 0, .int .u64 0, .int .i64 0, .int .i64 0, .int .i64 0, .int .i64 0, .int .i64 0, .int .i64 0, .int .i64 0] 118); rw [World.size_alloc] at h; exact h)
  have HK0 := Lib.hid (((Keep.refl [] w).alloc (.cells #[.int .i64 0, .int .i64 0, .int .i64 0, .int .i64 0, .int .i64 0, .int .i64 0, .int .i64 0, .int .u64 0, .int .i64 0, .int .i64 0, .int .i64 0, .int .i64 0, .int .i64 0, .int .i64 0, .int .i64 0] 118)).alloc (.cells #[.int .i64 0, .int .i64 0, .int .i64 0, .int .i64 0, .int .i64 0, .int .i64 0, .int .i64 0, .int .u64 0, .int .i64 0, .int .i64 0, .int .i64 0, .int .i64 0, .int .i64 0, .int .i64 0, .int .i64 0] 118))
  clear hx hy hst hp0
  obtain ⟨B, hB⟩ : ∃ B, w.heap.size = B := ⟨_, rfl⟩
  rw [hB] at H8 H10
  have HBW := Lib.hid hB
  go_enter Try.func71, Try.ntmps71
  go_wp2
  try rw [hB]
  clear hB
  go_loopw [11, 12] (fun f i wr => ∃ (k : Nat) (h : Hd) (fd : Bool), k ≤ 2 ∧ i = .int .i64 (k : Int) ∧ f = .bool fd ∧ Hid (pk k = (h, fd)) ∧ Hid (wr.heap[B]? = some (.cells #[.int .i64 0, .int .i64 0, .int .i64 0, .int .i64 0, .int .i64 0, .int .i64 0, .int .i64 0, .int .u64 0, .int .i64 0, .int .i64 0, .int .i64 0, .int .i64 0, .int .i64 0, .int .i64 0, .int .i64 0] 118 (0, 0))) ∧ Hid (wr.heap[B + 1]? = some (.cells h.cells 118 (0, 0))) ∧ Hid (Keep [] w wr)) (fun _ i _ => 2 - (intOf i).toNat)
  case atStart => exact ⟨0, hd0, false, by omega, rfl, rfl, HP0, H8, H10, HK0⟩
  case round =>
    clear HP0 H8 H10 HK0
    obtain ⟨k, h, fd, hk2, rfl, rfl, hpk, h8, h10, hK⟩ := hrel
    by_cases hlt : k < 2
    case pos =>
      have hlt' : (k : Int) < 2 := by omega
      have hstk := HST.out k hlt
      rw [hpk.out] at hstk
      by_cases hk0 : k = 0
      case pos =>
        subst hk0
        rw [if_pos rfl] at hstk
        have hat : hdIn n sz 0 a = if LeafOk a ∧ lk a = 1 ∧ lp a = 0 ∧ ls a % 2 = 0 ∧ Un63 (ls a) (ll a) ∧ (of63 (ls a) (ll a)).p.sec = n ∧ (of63 (ls a) (ll a)).p.size = sz then some (of63 (ls a) (ll a)) else none := rfl
        obtain ⟨X, hX⟩ : ∃ X, hdIn n sz 0 a = X := ⟨_, rfl⟩
        rw [hX] at hat hstk
        have hR := fun w' hw' => refRead_in x a w' hw' ha
        have hU := fun v' w' hv' => refhUnpack_any (ls a) v' (ll a) w' hv'
        have hll : (ll a).length ≤ 512 := by unfold ll; rw [List.length_take, List.length_drop]; omega
        obtain ⟨kd, hkd⟩ : ∃ n, lk a = n := ⟨_, rfl⟩
        obtain ⟨pl, hpl⟩ : ∃ n, lp a = n := ⟨_, rfl⟩
        obtain ⟨st, hst⟩ : ∃ n, ls a = n := ⟨_, rfl⟩
        obtain ⟨D, hD⟩ : ∃ n, ll a = n := ⟨_, rfl⟩
        obtain ⟨LO, hLO⟩ : ∃ P : Prop, LeafOk a = P := ⟨_, rfl⟩
        rw [hkd, hpl, hst, hD] at hat
        rw [hst, hD] at hU
        rw [hkd, hpl, hst, hD, hLO] at hR
        rw [hD] at hll
        have n1 : ¬ LO → X = none := fun e => by rw [hat, if_neg (fun u => e (by rw [← hLO]; exact u.1))]
        have n2 : ¬ kd = 1 → X = none := fun e => by rw [hat, if_neg (fun u => e u.2.1)]
        have n3 : ¬ pl = 0 → X = none := fun e => by rw [hat, if_neg (fun u => e u.2.2.1)]
        have n4 : ¬ st % 2 = 0 → X = none := fun e => by rw [hat, if_neg (fun u => e u.2.2.2.1)]
        have n5 : ¬ Un63 (st : Int) D → X = none := fun e => by rw [hat, if_neg (fun u => e u.2.2.2.2.1)]
        have n6 : ¬ (of63 (st : Int) D).p.sec = n → X = none := fun e => by rw [hat, if_neg (fun u => e u.2.2.2.2.2.1)]
        have n7 : ¬ (of63 (st : Int) D).p.size = sz → X = none := fun e => by rw [hat, if_neg (fun u => e u.2.2.2.2.2.2)]
        have n8 : LO → kd = 1 → pl = 0 → st % 2 = 0 → Un63 (st : Int) D → (of63 (st : Int) D).p.sec = n → (of63 (st : Int) D).p.size = sz → X = some (of63 (st : Int) D) := fun u1 u2 u3 u4 u5 u6 u7 => by rw [hat, if_pos ⟨by rw [hLO]; exact u1, u2, u3, u4, u5, u6, u7⟩]
        obtain ⟨r, hr⟩ : ∃ r, st % 2 = r := ⟨_, rfl⟩
        have t1 : Int.tmod (st : Int) 2 = (r : Int) := by rw [Int.tmod_eq_emod_of_nonneg (by omega)]; omega
        have t2 : IntKind.i64.wrap (r : Int) = (r : Int) := i64_wrap (by omega) (by omega)
        rw [hr] at n4 n8
        have hnone : X = none → pk (0 + 1) = (h, fd) := fun e => by rw [hstk, e]; rfl
        have hsome : ∀ q, X = some q → pk (0 + 1) = if fd = false ∨ h.gen < q.gen then (q, true) else (h, fd) := fun q e => by rw [hstk, e]; rfl
        clear hat hX hkd hpl hst hD hLO hr hstk
        have HN1 := Lib.hid n1
        have HN2 := Lib.hid n2
        have HN3 := Lib.hid n3
        have HN4 := Lib.hid n4
        have HN5 := Lib.hid n5
        have HN6 := Lib.hid n6
        have HN7 := Lib.hid n7
        have HN8 := Lib.hid n8
        have HNONE := Lib.hid hnone
        have HSOME := Lib.hid hsome
        have HR := Lib.hid hR
        have HU := Lib.hid hU
        have HLL := Lib.hid hll
        clear n1 n2 n3 n4 n5 n6 n7 n8 hnone hsome hR hU hll
        go_wp2_with fail
        refine (HR.out _ (HX.out.keep hK.out (by simp))).mono ?_
        rintro e w2 ⟨k2, ⟨hlo, rfl⟩ | ⟨hlo, rfl⟩⟩
        case inr =>
          have hX := Lib.hid (HNONE.out (HN1.out hlo))
          have kA := k2.trans ((Keep.refl [] w2).alloc (.cells #[.int .i64 0, .int .i64 0, .int .i64 0, .string ByteArray.empty] 29))
          have HA := Lib.hid kA
          clear kA k2
          simp only [leafS0]
          go_wp2
          go_roundw
          case rel => exact ⟨0 + 1, h, fd, by omega, by go_num, rfl, hX, HA.out.blk (by simp) h8.out, HA.out.blk (by simp) h10.out, hK.out.trans HA.out⟩
          case measure => simp [intOf]
        case inl =>
        have HLO := Lib.hid hlo
        have kA := k2.trans ((Keep.refl [] w2).alloc (.cells #[.int .i64 (kd : Int), .int .i64 (pl : Int), .int .i64 (st : Int), .string ⟨D.toArray⟩] 29))
        have hb2 := heap_alloc_new w2 (.cells #[.int .i64 (kd : Int), .int .i64 (pl : Int), .int .i64 (st : Int), .string ⟨D.toArray⟩] 29)
        have g2 := cell_of_row _ _ 2 _ _ _ hb2
        have g3 := cell_of_row _ _ 3 _ _ _ hb2
        simp at g2 g3
        have HA := Lib.hid kA
        clear kA k2 hb2 hlo
        by_cases c1 : kd = 1
        case neg =>
          have z1 : ((kd : Int) != 1) = true := by simp; omega
          have hX := Lib.hid (HNONE.out (HN2.out c1))
          clear c1
          go_wp2
          go_roundw
          case rel => exact ⟨0 + 1, h, fd, by omega, by go_num, rfl, hX, HA.out.blk (by simp) h8.out, HA.out.blk (by simp) h10.out, hK.out.trans HA.out⟩
          case measure => simp [intOf]
        have z1 : ((kd : Int) != 1) = false := by simp; omega
        have C1 := Lib.hid c1
        clear c1
        by_cases c2 : pl = 0
        case neg =>
          have z2 : ((pl : Int) != 0) = true := by simp; omega
          have hX := Lib.hid (HNONE.out (HN3.out c2))
          clear c2
          go_wp2
          go_roundw
          case rel => exact ⟨0 + 1, h, fd, by omega, by go_num, rfl, hX, HA.out.blk (by simp) h8.out, HA.out.blk (by simp) h10.out, hK.out.trans HA.out⟩
          case measure => simp [intOf]
        have z2 : ((pl : Int) != 0) = false := by simp; omega
        have C2 := Lib.hid c2
        clear c2
        by_cases c3 : r = 0
        case neg =>
          have z3 : ((r : Int) != 0) = true := by simp; omega
          have hX := Lib.hid (HNONE.out (HN4.out c3))
          clear c3
          go_wp2
          go_roundw
          case rel => exact ⟨0 + 1, h, fd, by omega, by go_num, rfl, hX, HA.out.blk (by simp) h8.out, HA.out.blk (by simp) h10.out, hK.out.trans HA.out⟩
          case measure => simp [intOf]
        have z3 : ((r : Int) != 0) = false := by simp; omega
        have C3 := Lib.hid c3
        clear c3
        by_cases c4 : Un63 (st : Int) D
        case neg =>
          have hX := Lib.hid (HNONE.out (HN5.out c4))
          have C4 := Lib.hid c4
          clear c4
          obtain ⟨v4, w4, hrun, hv4, k4⟩ := run_of_string (P := Try.prog) (w2.alloc (.cells #[.int .i64 (kd : Int), .int .i64 (pl : Int), .int .i64 (st : Int), .string ⟨D.toArray⟩] 29)) 9 30 5 ⟨D.toArray⟩ Try.underlying9 Try.underlying30 Try.underlying5 (by show D.toArray.size ≤ _; rw [List.size_toArray]; exact Nat.le_trans HLL.out (by decide))
          replace hv4 : Bytes w4 v4 D := hv4
          go_wp2_with fail
          refine (HU.out _ _ hv4).mono ?_
          rw [if_neg C4.out]
          rintro e w5 ⟨rfl, k5⟩
          have kB := (k4.trans k5).trans ((Keep.refl [] w5).alloc (.cells #[.int .i64 0, .int .i64 0, .int .i64 0, .int .i64 0, .int .i64 0, .int .i64 0, .int .i64 0, .int .u64 0, .int .i64 0, .int .i64 0, .int .i64 0, .int .i64 0, .int .i64 0, .int .i64 0, .int .i64 0] 118))
          have HB := Lib.hid (HA.out.trans kB)
          clear k4 k5 kB hv4 g2 g3 hrun
          simp only [hd0, Hd.v, Hd.cells]
          go_wp2
          go_roundw
          case rel => exact ⟨0 + 1, h, fd, by omega, by go_num, rfl, hX, HB.out.blk (by simp) h8.out, HB.out.blk (by simp) h10.out, hK.out.trans HB.out⟩
          case measure => simp [intOf]
        have C4 := Lib.hid c4
        clear c4
        have hs := HN8.out HLO.out C1.out C2.out C3.out C4.out
        have HN8' := Lib.hid hs
        clear hs
        obtain ⟨v4, w4, hrun, hv4, k4⟩ := run_of_string (P := Try.prog) (w2.alloc (.cells #[.int .i64 (kd : Int), .int .i64 (pl : Int), .int .i64 (st : Int), .string ⟨D.toArray⟩] 29)) 9 30 5 ⟨D.toArray⟩ Try.underlying9 Try.underlying30 Try.underlying5 (by show D.toArray.size ≤ _; rw [List.size_toArray]; exact Nat.le_trans HLL.out (by decide))
        replace hv4 : Bytes w4 v4 D := hv4
        go_wp2_with fail
        refine (HU.out _ _ hv4).mono ?_
        rw [if_pos C4.out]
        rintro e w5 ⟨rfl, k5⟩
        generalize of63 (st : Int) D = q at *
        obtain ⟨⟨secq, sizeq, regq, rsq, lgq, depq, memq, seedq⟩, genq, pageq, stampq, hdepq, logq, hregq, timeq⟩ := q
        simp only [Hd.v, Hd.cells] at *
        have kB := (k4.trans k5).trans ((Keep.refl [] w5).alloc (.cells #[.int .i64 secq, .int .i64 sizeq, .int .i64 regq, .int .i64 rsq, .int .i64 lgq, .int .i64 depq, .int .i64 memq, .int .u64 (seedq : Int), .int .i64 genq, .int .i64 pageq, .int .i64 stampq, .int .i64 hdepq, .int .i64 logq, .int .i64 hregq, .int .i64 timeq] 118))
        have HQ := Lib.hid (heap_alloc_new w5 (.cells #[.int .i64 secq, .int .i64 sizeq, .int .i64 regq, .int .i64 rsq, .int .i64 lgq, .int .i64 depq, .int .i64 memq, .int .u64 (seedq : Int), .int .i64 genq, .int .i64 pageq, .int .i64 stampq, .int .i64 hdepq, .int .i64 logq, .int .i64 hregq, .int .i64 timeq] 118))
        have HB := Lib.hid (HA.out.trans kB)
        clear k4 k5 kB hv4 g2 g3 hrun
        have f0 := cell_of_row _ _ 0 _ _ _ HQ.out
        have f1 := cell_of_row _ _ 1 _ _ _ HQ.out
        have f8 := cell_of_row _ _ 8 _ _ _ HQ.out
        simp at f0 f1 f8
        have h10' := Lib.hid (HB.out.blk (by simp) h10.out)
        have h8' := Lib.hid (HB.out.blk (by simp) h8.out)
        by_cases c5 : secq = n
        case neg =>
          have hX := Lib.hid (HNONE.out (HN6.out c5))
          have z5 : (secq != n) = true := by simpa using c5
          clear c5
          go_wp2
          go_roundw
          case rel => exact ⟨0 + 1, h, fd, by omega, by go_num, rfl, hX, h8', h10', hK.out.trans HB.out⟩
          case measure => simp [intOf]
        have z5 : (secq != n) = false := by simpa using c5
        have C5 := Lib.hid c5
        clear c5
        by_cases c6 : sizeq = sz
        case neg =>
          have hX := Lib.hid (HNONE.out (HN7.out c6))
          have z6 : (sizeq != sz) = true := by simpa using c6
          clear c6
          go_wp2
          go_roundw
          case rel => exact ⟨0 + 1, h, fd, by omega, by go_num, rfl, hX, h8', h10', hK.out.trans HB.out⟩
          case measure => simp [intOf]
        have z6 : (sizeq != sz) = false := by simpa using c6
        have hs := HSOME.out _ (HN8'.out C5.out c6)
        simp only at hs
        clear c6
        cases fd with
        | false =>
          rw [if_pos (.inl rfl)] at hs
          have hX := Lib.hid hs
          clear hs
          go_wp2_with (first | (refine wpList_load_row rfl 118 (.tmp 16) rfl w5.heap.size rfl 118 _ _ _ HQ.out Try.underlying118 rfl (by kernel_rfl) ?_) | (refine wpList_store_row rfl 118 (.tmp 10) (.tmp 84) rfl (B + 1) #[.int .i64 secq, .int .i64 sizeq, .int .i64 regq, .int .i64 rsq, .int .i64 lgq, .int .i64 depq, .int .i64 memq, .int .u64 (seedq : Int), .int .i64 genq, .int .i64 pageq, .int .i64 stampq, .int .i64 hdepq, .int .i64 logq, .int .i64 hregq, .int .i64 timeq] rfl rfl 118 _ h10'.out (by kernel_rfl) (by rfl) (by kernel_rfl) ?_))
          go_roundw
          case rel => exact ⟨0 + 1, _, true, by omega, by go_num, rfl, hX, (setRow_other _ _ _ _ (by omega)).trans h8'.out, setRow_heap _ _ _ _ _ _ h10'.out, (hK.out.trans HB.out).setRow (.inr (by rw [HBW.out]; omega)) _⟩
          case measure => simp [intOf]
        | true =>
          have o8 := cell_of_row _ _ 8 _ _ _ h10'.out
          by_cases c7 : h.gen < genq
          · rw [if_pos (.inr c7)] at hs
            have hX := Lib.hid hs
            obtain ⟨⟨sec, size, reg, rs, lg, dep, mem, seed⟩, gen, page, stamp, hdep, log, hreg, time⟩ := h
            simp only [Hd.cells] at h10' o8 c7
            simp at o8
            clear hs
            go_wp2_with (first | (refine wpList_load_row rfl 118 (.tmp 16) rfl w5.heap.size rfl 118 _ _ _ HQ.out Try.underlying118 rfl (by kernel_rfl) ?_) | (refine wpList_store_row rfl 118 (.tmp 10) (.tmp 84) rfl (B + 1) #[.int .i64 secq, .int .i64 sizeq, .int .i64 regq, .int .i64 rsq, .int .i64 lgq, .int .i64 depq, .int .i64 memq, .int .u64 (seedq : Int), .int .i64 genq, .int .i64 pageq, .int .i64 stampq, .int .i64 hdepq, .int .i64 logq, .int .i64 hregq, .int .i64 timeq] rfl rfl 118 _ h10'.out (by kernel_rfl) (by rfl) (by kernel_rfl) ?_))
            go_roundw
            case rel => exact ⟨0 + 1, _, true, by omega, by go_num, rfl, hX, (setRow_other _ _ _ _ (by omega)).trans h8'.out, setRow_heap _ _ _ _ _ _ h10'.out, (hK.out.trans HB.out).setRow (.inr (by rw [HBW.out]; omega)) _⟩
            case measure => simp [intOf]
          · rw [if_neg (by rintro (e | e); cases e; exact c7 e)] at hs
            have hX := Lib.hid hs
            obtain ⟨⟨sec, size, reg, rs, lg, dep, mem, seed⟩, gen, page, stamp, hdep, log, hreg, time⟩ := h
            simp only [Hd.cells] at h10' o8 c7
            simp at o8
            clear hs
            go_wp2
            go_roundw
            case rel => exact ⟨0 + 1, _, true, by omega, by go_num, rfl, hX, h8', h10', hK.out.trans HB.out⟩
            case measure => simp [intOf]
      case neg =>
        obtain rfl : k = 1 := by omega
        rw [if_neg (by decide)] at hstk
        have hat : hdIn n sz 1 b = if LeafOk b ∧ lk b = 1 ∧ lp b = 1 ∧ ls b % 2 = 1 ∧ Un63 (ls b) (ll b) ∧ (of63 (ls b) (ll b)).p.sec = n ∧ (of63 (ls b) (ll b)).p.size = sz then some (of63 (ls b) (ll b)) else none := rfl
        obtain ⟨X, hX⟩ : ∃ X, hdIn n sz 1 b = X := ⟨_, rfl⟩
        rw [hX] at hat hstk
        have hR := fun w' hw' => refRead_in y b w' hw' hb
        have hU := fun v' w' hv' => refhUnpack_any (ls b) v' (ll b) w' hv'
        have hll : (ll b).length ≤ 512 := by unfold ll; rw [List.length_take, List.length_drop]; omega
        obtain ⟨kd, hkd⟩ : ∃ n, lk b = n := ⟨_, rfl⟩
        obtain ⟨pl, hpl⟩ : ∃ n, lp b = n := ⟨_, rfl⟩
        obtain ⟨st, hst⟩ : ∃ n, ls b = n := ⟨_, rfl⟩
        obtain ⟨D, hD⟩ : ∃ n, ll b = n := ⟨_, rfl⟩
        obtain ⟨LO, hLO⟩ : ∃ P : Prop, LeafOk b = P := ⟨_, rfl⟩
        rw [hkd, hpl, hst, hD] at hat
        rw [hst, hD] at hU
        rw [hkd, hpl, hst, hD, hLO] at hR
        rw [hD] at hll
        have n1 : ¬ LO → X = none := fun e => by rw [hat, if_neg (fun u => e (by rw [← hLO]; exact u.1))]
        have n2 : ¬ kd = 1 → X = none := fun e => by rw [hat, if_neg (fun u => e u.2.1)]
        have n3 : ¬ pl = 1 → X = none := fun e => by rw [hat, if_neg (fun u => e u.2.2.1)]
        have n4 : ¬ st % 2 = 1 → X = none := fun e => by rw [hat, if_neg (fun u => e u.2.2.2.1)]
        have n5 : ¬ Un63 (st : Int) D → X = none := fun e => by rw [hat, if_neg (fun u => e u.2.2.2.2.1)]
        have n6 : ¬ (of63 (st : Int) D).p.sec = n → X = none := fun e => by rw [hat, if_neg (fun u => e u.2.2.2.2.2.1)]
        have n7 : ¬ (of63 (st : Int) D).p.size = sz → X = none := fun e => by rw [hat, if_neg (fun u => e u.2.2.2.2.2.2)]
        have n8 : LO → kd = 1 → pl = 1 → st % 2 = 1 → Un63 (st : Int) D → (of63 (st : Int) D).p.sec = n → (of63 (st : Int) D).p.size = sz → X = some (of63 (st : Int) D) := fun u1 u2 u3 u4 u5 u6 u7 => by rw [hat, if_pos ⟨by rw [hLO]; exact u1, u2, u3, u4, u5, u6, u7⟩]
        obtain ⟨r, hr⟩ : ∃ r, st % 2 = r := ⟨_, rfl⟩
        have t1 : Int.tmod (st : Int) 2 = (r : Int) := by rw [Int.tmod_eq_emod_of_nonneg (by omega)]; omega
        have t2 : IntKind.i64.wrap (r : Int) = (r : Int) := i64_wrap (by omega) (by omega)
        rw [hr] at n4 n8
        have hnone : X = none → pk (1 + 1) = (h, fd) := fun e => by rw [hstk, e]; rfl
        have hsome : ∀ q, X = some q → pk (1 + 1) = if fd = false ∨ h.gen < q.gen then (q, true) else (h, fd) := fun q e => by rw [hstk, e]; rfl
        clear hat hX hkd hpl hst hD hLO hr hstk
        have HN1 := Lib.hid n1
        have HN2 := Lib.hid n2
        have HN3 := Lib.hid n3
        have HN4 := Lib.hid n4
        have HN5 := Lib.hid n5
        have HN6 := Lib.hid n6
        have HN7 := Lib.hid n7
        have HN8 := Lib.hid n8
        have HNONE := Lib.hid hnone
        have HSOME := Lib.hid hsome
        have HR := Lib.hid hR
        have HU := Lib.hid hU
        have HLL := Lib.hid hll
        clear n1 n2 n3 n4 n5 n6 n7 n8 hnone hsome hR hU hll
        go_wp2_with fail
        refine (HR.out _ (HY.out.keep hK.out (by simp))).mono ?_
        rintro e w2 ⟨k2, ⟨hlo, rfl⟩ | ⟨hlo, rfl⟩⟩
        case inr =>
          have hX := Lib.hid (HNONE.out (HN1.out hlo))
          have kA := k2.trans ((Keep.refl [] w2).alloc (.cells #[.int .i64 0, .int .i64 0, .int .i64 0, .string ByteArray.empty] 29))
          have HA := Lib.hid kA
          clear kA k2
          simp only [leafS0]
          go_wp2
          go_roundw
          case rel => exact ⟨1 + 1, h, fd, by omega, by go_num, rfl, hX, HA.out.blk (by simp) h8.out, HA.out.blk (by simp) h10.out, hK.out.trans HA.out⟩
          case measure => simp [intOf]
        case inl =>
        have HLO := Lib.hid hlo
        have kA := k2.trans ((Keep.refl [] w2).alloc (.cells #[.int .i64 (kd : Int), .int .i64 (pl : Int), .int .i64 (st : Int), .string ⟨D.toArray⟩] 29))
        have hb2 := heap_alloc_new w2 (.cells #[.int .i64 (kd : Int), .int .i64 (pl : Int), .int .i64 (st : Int), .string ⟨D.toArray⟩] 29)
        have g2 := cell_of_row _ _ 2 _ _ _ hb2
        have g3 := cell_of_row _ _ 3 _ _ _ hb2
        simp at g2 g3
        have HA := Lib.hid kA
        clear kA k2 hb2 hlo
        by_cases c1 : kd = 1
        case neg =>
          have z1 : ((kd : Int) != 1) = true := by simp; omega
          have hX := Lib.hid (HNONE.out (HN2.out c1))
          clear c1
          go_wp2
          go_roundw
          case rel => exact ⟨1 + 1, h, fd, by omega, by go_num, rfl, hX, HA.out.blk (by simp) h8.out, HA.out.blk (by simp) h10.out, hK.out.trans HA.out⟩
          case measure => simp [intOf]
        have z1 : ((kd : Int) != 1) = false := by simp; omega
        have C1 := Lib.hid c1
        clear c1
        by_cases c2 : pl = 1
        case neg =>
          have z2 : ((pl : Int) != 1) = true := by simp; omega
          have hX := Lib.hid (HNONE.out (HN3.out c2))
          clear c2
          go_wp2
          go_roundw
          case rel => exact ⟨1 + 1, h, fd, by omega, by go_num, rfl, hX, HA.out.blk (by simp) h8.out, HA.out.blk (by simp) h10.out, hK.out.trans HA.out⟩
          case measure => simp [intOf]
        have z2 : ((pl : Int) != 1) = false := by simp; omega
        have C2 := Lib.hid c2
        clear c2
        by_cases c3 : r = 1
        case neg =>
          have z3 : ((r : Int) != 1) = true := by simp; omega
          have hX := Lib.hid (HNONE.out (HN4.out c3))
          clear c3
          go_wp2
          go_roundw
          case rel => exact ⟨1 + 1, h, fd, by omega, by go_num, rfl, hX, HA.out.blk (by simp) h8.out, HA.out.blk (by simp) h10.out, hK.out.trans HA.out⟩
          case measure => simp [intOf]
        have z3 : ((r : Int) != 1) = false := by simp; omega
        have C3 := Lib.hid c3
        clear c3
        by_cases c4 : Un63 (st : Int) D
        case neg =>
          have hX := Lib.hid (HNONE.out (HN5.out c4))
          have C4 := Lib.hid c4
          clear c4
          obtain ⟨v4, w4, hrun, hv4, k4⟩ := run_of_string (P := Try.prog) (w2.alloc (.cells #[.int .i64 (kd : Int), .int .i64 (pl : Int), .int .i64 (st : Int), .string ⟨D.toArray⟩] 29)) 9 30 5 ⟨D.toArray⟩ Try.underlying9 Try.underlying30 Try.underlying5 (by show D.toArray.size ≤ _; rw [List.size_toArray]; exact Nat.le_trans HLL.out (by decide))
          replace hv4 : Bytes w4 v4 D := hv4
          go_wp2_with fail
          refine (HU.out _ _ hv4).mono ?_
          rw [if_neg C4.out]
          rintro e w5 ⟨rfl, k5⟩
          have kB := (k4.trans k5).trans ((Keep.refl [] w5).alloc (.cells #[.int .i64 0, .int .i64 0, .int .i64 0, .int .i64 0, .int .i64 0, .int .i64 0, .int .i64 0, .int .u64 0, .int .i64 0, .int .i64 0, .int .i64 0, .int .i64 0, .int .i64 0, .int .i64 0, .int .i64 0] 118))
          have HB := Lib.hid (HA.out.trans kB)
          clear k4 k5 kB hv4 g2 g3 hrun
          simp only [hd0, Hd.v, Hd.cells]
          go_wp2
          go_roundw
          case rel => exact ⟨1 + 1, h, fd, by omega, by go_num, rfl, hX, HB.out.blk (by simp) h8.out, HB.out.blk (by simp) h10.out, hK.out.trans HB.out⟩
          case measure => simp [intOf]
        have C4 := Lib.hid c4
        clear c4
        have hs := HN8.out HLO.out C1.out C2.out C3.out C4.out
        have HN8' := Lib.hid hs
        clear hs
        obtain ⟨v4, w4, hrun, hv4, k4⟩ := run_of_string (P := Try.prog) (w2.alloc (.cells #[.int .i64 (kd : Int), .int .i64 (pl : Int), .int .i64 (st : Int), .string ⟨D.toArray⟩] 29)) 9 30 5 ⟨D.toArray⟩ Try.underlying9 Try.underlying30 Try.underlying5 (by show D.toArray.size ≤ _; rw [List.size_toArray]; exact Nat.le_trans HLL.out (by decide))
        replace hv4 : Bytes w4 v4 D := hv4
        go_wp2_with fail
        refine (HU.out _ _ hv4).mono ?_
        rw [if_pos C4.out]
        rintro e w5 ⟨rfl, k5⟩
        generalize of63 (st : Int) D = q at *
        obtain ⟨⟨secq, sizeq, regq, rsq, lgq, depq, memq, seedq⟩, genq, pageq, stampq, hdepq, logq, hregq, timeq⟩ := q
        simp only [Hd.v, Hd.cells] at *
        have kB := (k4.trans k5).trans ((Keep.refl [] w5).alloc (.cells #[.int .i64 secq, .int .i64 sizeq, .int .i64 regq, .int .i64 rsq, .int .i64 lgq, .int .i64 depq, .int .i64 memq, .int .u64 (seedq : Int), .int .i64 genq, .int .i64 pageq, .int .i64 stampq, .int .i64 hdepq, .int .i64 logq, .int .i64 hregq, .int .i64 timeq] 118))
        have HQ := Lib.hid (heap_alloc_new w5 (.cells #[.int .i64 secq, .int .i64 sizeq, .int .i64 regq, .int .i64 rsq, .int .i64 lgq, .int .i64 depq, .int .i64 memq, .int .u64 (seedq : Int), .int .i64 genq, .int .i64 pageq, .int .i64 stampq, .int .i64 hdepq, .int .i64 logq, .int .i64 hregq, .int .i64 timeq] 118))
        have HB := Lib.hid (HA.out.trans kB)
        clear k4 k5 kB hv4 g2 g3 hrun
        have f0 := cell_of_row _ _ 0 _ _ _ HQ.out
        have f1 := cell_of_row _ _ 1 _ _ _ HQ.out
        have f8 := cell_of_row _ _ 8 _ _ _ HQ.out
        simp at f0 f1 f8
        have h10' := Lib.hid (HB.out.blk (by simp) h10.out)
        have h8' := Lib.hid (HB.out.blk (by simp) h8.out)
        by_cases c5 : secq = n
        case neg =>
          have hX := Lib.hid (HNONE.out (HN6.out c5))
          have z5 : (secq != n) = true := by simpa using c5
          clear c5
          go_wp2
          go_roundw
          case rel => exact ⟨1 + 1, h, fd, by omega, by go_num, rfl, hX, h8', h10', hK.out.trans HB.out⟩
          case measure => simp [intOf]
        have z5 : (secq != n) = false := by simpa using c5
        have C5 := Lib.hid c5
        clear c5
        by_cases c6 : sizeq = sz
        case neg =>
          have hX := Lib.hid (HNONE.out (HN7.out c6))
          have z6 : (sizeq != sz) = true := by simpa using c6
          clear c6
          go_wp2
          go_roundw
          case rel => exact ⟨1 + 1, h, fd, by omega, by go_num, rfl, hX, h8', h10', hK.out.trans HB.out⟩
          case measure => simp [intOf]
        have z6 : (sizeq != sz) = false := by simpa using c6
        have hs := HSOME.out _ (HN8'.out C5.out c6)
        simp only at hs
        clear c6
        cases fd with
        | false =>
          rw [if_pos (.inl rfl)] at hs
          have hX := Lib.hid hs
          clear hs
          go_wp2_with (first | (refine wpList_load_row rfl 118 (.tmp 16) rfl w5.heap.size rfl 118 _ _ _ HQ.out Try.underlying118 rfl (by kernel_rfl) ?_) | (refine wpList_store_row rfl 118 (.tmp 10) (.tmp 84) rfl (B + 1) #[.int .i64 secq, .int .i64 sizeq, .int .i64 regq, .int .i64 rsq, .int .i64 lgq, .int .i64 depq, .int .i64 memq, .int .u64 (seedq : Int), .int .i64 genq, .int .i64 pageq, .int .i64 stampq, .int .i64 hdepq, .int .i64 logq, .int .i64 hregq, .int .i64 timeq] rfl rfl 118 _ h10'.out (by kernel_rfl) (by rfl) (by kernel_rfl) ?_))
          go_roundw
          case rel => exact ⟨1 + 1, _, true, by omega, by go_num, rfl, hX, (setRow_other _ _ _ _ (by omega)).trans h8'.out, setRow_heap _ _ _ _ _ _ h10'.out, (hK.out.trans HB.out).setRow (.inr (by rw [HBW.out]; omega)) _⟩
          case measure => simp [intOf]
        | true =>
          have o8 := cell_of_row _ _ 8 _ _ _ h10'.out
          by_cases c7 : h.gen < genq
          · rw [if_pos (.inr c7)] at hs
            have hX := Lib.hid hs
            obtain ⟨⟨sec, size, reg, rs, lg, dep, mem, seed⟩, gen, page, stamp, hdep, log, hreg, time⟩ := h
            simp only [Hd.cells] at h10' o8 c7
            simp at o8
            clear hs
            go_wp2_with (first | (refine wpList_load_row rfl 118 (.tmp 16) rfl w5.heap.size rfl 118 _ _ _ HQ.out Try.underlying118 rfl (by kernel_rfl) ?_) | (refine wpList_store_row rfl 118 (.tmp 10) (.tmp 84) rfl (B + 1) #[.int .i64 secq, .int .i64 sizeq, .int .i64 regq, .int .i64 rsq, .int .i64 lgq, .int .i64 depq, .int .i64 memq, .int .u64 (seedq : Int), .int .i64 genq, .int .i64 pageq, .int .i64 stampq, .int .i64 hdepq, .int .i64 logq, .int .i64 hregq, .int .i64 timeq] rfl rfl 118 _ h10'.out (by kernel_rfl) (by rfl) (by kernel_rfl) ?_))
            go_roundw
            case rel => exact ⟨1 + 1, _, true, by omega, by go_num, rfl, hX, (setRow_other _ _ _ _ (by omega)).trans h8'.out, setRow_heap _ _ _ _ _ _ h10'.out, (hK.out.trans HB.out).setRow (.inr (by rw [HBW.out]; omega)) _⟩
            case measure => simp [intOf]
          · rw [if_neg (by rintro (e | e); cases e; exact c7 e)] at hs
            have hX := Lib.hid hs
            obtain ⟨⟨sec, size, reg, rs, lg, dep, mem, seed⟩, gen, page, stamp, hdep, log, hreg, time⟩ := h
            simp only [Hd.cells] at h10' o8 c7
            simp at o8
            clear hs
            go_wp2
            go_roundw
            case rel => exact ⟨1 + 1, _, true, by omega, by go_num, rfl, hX, h8', h10', hK.out.trans HB.out⟩
            case measure => simp [intOf]
    case neg =>
      obtain rfl : k = 2 := by omega
      obtain ⟨⟨sec, size, reg, rs, lg, dep, mem, seed⟩, gen, page, stamp, hdep, log, hreg, time⟩ := h
      simp only [Hd.cells] at h10
      go_wp2_with (first | (refine wpList_load_row rfl 118 (.tmp 10) rfl (B + 1) rfl 118 _ _ _ h10.out Try.underlying118 rfl (by kernel_rfl) ?_) | (refine wpList_store_row rfl 118 (.tmp 8) (.tmp 85) rfl B #[.int .i64 sec, .int .i64 size, .int .i64 reg, .int .i64 rs, .int .i64 lg, .int .i64 dep, .int .i64 mem, .int .u64 (seed : Int), .int .i64 gen, .int .i64 page, .int .i64 stamp, .int .i64 hdep, .int .i64 log, .int .i64 hreg, .int .i64 time] rfl rfl 118 _ h8.out (by kernel_rfl) (by rfl) (by kernel_rfl) ?_))
      exact bodyPost_ret (results_cell_tmp_row rfl _ _ B 118 _ _ _ rfl (setRow_heap _ _ _ _ _ _ h8.out) Try.underlying118 rfl (by kernel_rfl)) rfl ⟨by rw [hpk.out]; rfl, hK.out.setRow (.inr (by rw [HBW.out]; exact Nat.le_refl _)) _⟩
end Go.Proofs.Ytijljdcpajjhhaa
