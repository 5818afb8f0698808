import Derived.Test.YtijljdcpajjhhaaSuperDef
import Derived.Outline
/-! The walk of the document's Pack of a head. -/
namespace Go.Proofs.Ytijljdcpajjhhaa
open Go.RowKit Go.Shelf Sg
attribute [local go_sem] Oper.semAt_some
set_option linter.unusedSimpArgs false
set_option linter.unusedVariables false

set_option maxRecDepth 100000 in
set_option maxHeartbeats 1000000 in
set_option maxHeartbeats 8000000 in
theorem refhPack_any (h : Hd) (hs : h.p.seed < 18446744073709551616) (w : World) : Calls Try.prog 63 #[h.v] w fun e w' => ∃ v', e = .returned (.tuple #[v', .int .i64 h.code]) ∧ OwnB w' w.heap.size 5 v' (if h.code = 0 then h.pack else []) ∧ Keep [] w w' := by
  have hP := refPlanPack_any h.p hs
  have hF := reffit_one h.p
  have hpk : h.pack = (((((h.p.pack ++ le (un h.page) 4) ++ le (un h.stamp) 8) ++ le (un h.dep) 1) ++ le (un h.log) 8) ++ le (un h.reg) 8) ++ le (un h.time) 8 := rfl
  have hpl := h.p.pack_len
  obtain ⟨F, hFF⟩ : ∃ F : Bool, decide h.p.Fits = F := ⟨_, rfl⟩
  have e1 : (if h.p.Fits then (0 : Int) else 12) = if F = true then 0 else 12 := by rw [← hFF]; simp
  rw [e1] at hF
  have k1 : F = false → h.code = 12 := fun e => by rw [e, decide_eq_false_iff_not] at hFF; unfold Hd.code; rw [if_neg hFF]
  have k2 : F = true → h.Ok → h.code = 0 := fun e a => by rw [e, decide_eq_true_eq] at hFF; exact Hd.code_ok hFF a
  have k3 : F = true → ¬ h.Ok → h.code = 1 := fun e a => by rw [e, decide_eq_true_eq] at hFF; unfold Hd.code; rw [if_pos hFF, if_neg a]
  obtain ⟨PK, hPK⟩ : ∃ PK, h.pack = PK := ⟨_, rfl⟩
  rw [hPK] at hpk ⊢
  generalize h.p.pack = pp at hpk hpl hP
  obtain ⟨cd, hcd⟩ : ∃ cd, h.code = cd := ⟨_, rfl⟩
  rw [hcd] at k1 k2 k3 ⊢
  obtain ⟨RES, hRES⟩ : ∃ RES, (if cd = 0 then PK else []) = RES := ⟨_, rfl⟩
  rw [hRES]
  have HRES := Lib.hid hRES
  clear hPK hcd hFF e1 hRES
  have hok : h.Ok ↔ (1 ≤ h.gen ∧ (0 ≤ h.page ∧ h.page ≤ 2147483647) ∧ 0 ≤ h.stamp ∧ (0 ≤ h.dep ∧ h.dep ≤ h.p.dep) ∧ 1 ≤ h.log ∧ 0 ≤ h.reg ∧ (0 ≤ h.time ∧ h.time ≤ 281474976710656)) := Iff.rfl
  obtain ⟨⟨sec, size, reg, rs, lg, dep, mem, seed⟩, gen, page, stamp, hdep, log, hreg, time⟩ := h
  simp only [Hd.v, Hd.cells, Pl.v, lay8] at *
  have K1 := Lib.hid k1
  have K2 := Lib.hid k2
  have K3 := Lib.hid k3
  have HOK := Lib.hid hok
  have HPK := Lib.hid hpk
  have HPL := Lib.hid hpl
  have HP := Lib.hid hP
  have hA := heap_alloc_new w (.cells #[.int .i64 sec, .int .i64 size, .int .i64 reg, .int .i64 rs, .int .i64 lg, .int .i64 dep, .int .i64 mem, .int .u64 (seed : Int), .int .i64 gen, .int .i64 page, .int .i64 stamp, .int .i64 hdep, .int .i64 log, .int .i64 hreg, .int .i64 time] 118)
  have hK := (Keep.refl [] w).alloc (.cells #[.int .i64 sec, .int .i64 size, .int .i64 reg, .int .i64 rs, .int .i64 lg, .int .i64 dep, .int .i64 mem, .int .u64 (seed : Int), .int .i64 gen, .int .i64 page, .int .i64 stamp, .int .i64 hdep, .int .i64 log, .int .i64 hreg, .int .i64 time] 118)
  have HA := Lib.hid hA
  have HK := Lib.hid hK
  clear k1 k2 k3 hpk hpl hP hA hK hok hs
  obtain ⟨a, b, c, d, e, f, g, hh, hF⟩ := hF (w.alloc (.cells #[.int .i64 sec, .int .i64 size, .int .i64 reg, .int .i64 rs, .int .i64 lg, .int .i64 dep, .int .i64 mem, .int .u64 (seed : Int), .int .i64 gen, .int .i64 page, .int .i64 stamp, .int .i64 hdep, .int .i64 log, .int .i64 hreg, .int .i64 time] 118))
  go_enter Try.func63, Try.ntmps63
  go_wp2_with fail
  refine hF.mono ?_
  rintro x w2 ⟨rfl, hk2⟩
  have hA2 := hk2.blk (by simp) HA.out
  have hK2 := HK.out.trans hk2
  have hk3 := hK2.alloc (.cells #[.int .i64 a, .int .i64 b, .int .i64 c, .int .i64 d, .int .i64 e, .int .i64 f, .int .i64 g, .int .i64 hh] 202)
  have hA3 := ((Keep.refl [] w2).alloc (.cells #[.int .i64 a, .int .i64 b, .int .i64 c, .int .i64 d, .int .i64 e, .int .i64 f, .int .i64 g, .int .i64 hh] 202)).blk (by simp) hA2
  have HK3 := Lib.hid hk3
  clear hF hk2 hA2 hK2 hk3
  cases F with
  | false =>
    have hc := Lib.hid (K1.out rfl)
    clear hA3
    go_wp2
    go_ret2
    exact ⟨_, by rw [hc.out]; rfl, by rw [← HRES.out, hc.out]; exact OwnB.nil _ _ _, HK3.out⟩
  | true =>
    have c5 := cell_of_row _ _ 5 _ _ _ hA3
    have c8 := cell_of_row _ _ 8 _ _ _ hA3
    have c9 := cell_of_row _ _ 9 _ _ _ hA3
    have c10 := cell_of_row _ _ 10 _ _ _ hA3
    have c11 := cell_of_row _ _ 11 _ _ _ hA3
    have c12 := cell_of_row _ _ 12 _ _ _ hA3
    have c13 := cell_of_row _ _ 13 _ _ _ hA3
    have c14 := cell_of_row _ _ 14 _ _ _ hA3
    simp at c5 c8 c9 c10 c11 c12 c13 c14
    have HA3 := Lib.hid hA3
    clear hA3
    by_cases a0 : gen < 1
    · have hc := Lib.hid (K3.out rfl (fun o => by have o' := HOK.out.1 o; omega))
      go_wp2
      go_ret2
      exact ⟨_, by rw [hc.out]; rfl, by rw [← HRES.out, hc.out]; exact OwnB.nil _ _ _, HK3.out⟩
    by_cases a1 : page < 0
    · have hc := Lib.hid (K3.out rfl (fun o => by have o' := HOK.out.1 o; omega))
      go_wp2
      go_ret2
      exact ⟨_, by rw [hc.out]; rfl, by rw [← HRES.out, hc.out]; exact OwnB.nil _ _ _, HK3.out⟩
    by_cases a2 : 2147483647 < page
    · have hc := Lib.hid (K3.out rfl (fun o => by have o' := HOK.out.1 o; omega))
      go_wp2
      go_ret2
      exact ⟨_, by rw [hc.out]; rfl, by rw [← HRES.out, hc.out]; exact OwnB.nil _ _ _, HK3.out⟩
    by_cases a3 : stamp < 0
    · have hc := Lib.hid (K3.out rfl (fun o => by have o' := HOK.out.1 o; omega))
      go_wp2
      go_ret2
      exact ⟨_, by rw [hc.out]; rfl, by rw [← HRES.out, hc.out]; exact OwnB.nil _ _ _, HK3.out⟩
    by_cases a4 : hdep < 0
    · have hc := Lib.hid (K3.out rfl (fun o => by have o' := HOK.out.1 o; omega))
      go_wp2
      go_ret2
      exact ⟨_, by rw [hc.out]; rfl, by rw [← HRES.out, hc.out]; exact OwnB.nil _ _ _, HK3.out⟩
    by_cases a5 : dep < hdep
    · have hc := Lib.hid (K3.out rfl (fun o => by have o' := HOK.out.1 o; omega))
      go_wp2
      go_ret2
      exact ⟨_, by rw [hc.out]; rfl, by rw [← HRES.out, hc.out]; exact OwnB.nil _ _ _, HK3.out⟩
    by_cases a6 : log < 1
    · have hc := Lib.hid (K3.out rfl (fun o => by have o' := HOK.out.1 o; omega))
      go_wp2
      go_ret2
      exact ⟨_, by rw [hc.out]; rfl, by rw [← HRES.out, hc.out]; exact OwnB.nil _ _ _, HK3.out⟩
    by_cases a7 : hreg < 0
    · have hc := Lib.hid (K3.out rfl (fun o => by have o' := HOK.out.1 o; omega))
      go_wp2
      go_ret2
      exact ⟨_, by rw [hc.out]; rfl, by rw [← HRES.out, hc.out]; exact OwnB.nil _ _ _, HK3.out⟩
    by_cases a8 : time < 0
    · have hc := Lib.hid (K3.out rfl (fun o => by have o' := HOK.out.1 o; omega))
      go_wp2
      go_ret2
      exact ⟨_, by rw [hc.out]; rfl, by rw [← HRES.out, hc.out]; exact OwnB.nil _ _ _, HK3.out⟩
    by_cases a9 : 281474976710656 < time
    · have hc := Lib.hid (K3.out rfl (fun o => by have o' := HOK.out.1 o; omega))
      go_wp2
      go_ret2
      exact ⟨_, by rw [hc.out]; rfl, by rw [← HRES.out, hc.out]; exact OwnB.nil _ _ _, HK3.out⟩
    have hc := Lib.hid (K2.out rfl (HOK.out.2 ⟨by omega, ⟨by omega, by omega⟩, by omega, ⟨by omega, by omega⟩, by omega, by omega, ⟨by omega, by omega⟩⟩))
    have c0 := cell_of_row _ _ 0 _ _ _ HA3.out
    have c1 := cell_of_row _ _ 1 _ _ _ HA3.out
    have c2 := cell_of_row _ _ 2 _ _ _ HA3.out
    have c3 := cell_of_row _ _ 3 _ _ _ HA3.out
    have c4 := cell_of_row _ _ 4 _ _ _ HA3.out
    have c6 := cell_of_row _ _ 6 _ _ _ HA3.out
    have c7 := cell_of_row _ _ 7 _ _ _ HA3.out
    simp at c0 c1 c2 c3 c4 c6 c7
    go_wp2_with fail
    clear c0 c1 c2 c3 c4 c6 c7 c8 c5 c9 c10 c11 c12 c13 c14
    refine (HP.out _).mono ?_
    rintro x w4 ⟨v4, rfl, o4, k4⟩
    have hA4 := k4.blk (by simp) HA3.out
    have hK4 := HK3.out.trans k4
    have ho4 : OwnB w4 w.heap.size 5 v4 pp := o4.base HK3.out.size
    clear k4 o4 HA3 a0 a1 a2 a3 a4 a5 a6 a7 a8 a9
    have g9 := cell_of_row w4 _ 9 _ _ _ hA4
    simp at g9
    have u9 := un_wrap page
    go_wp2_with fail
    refine (refNumber_any (un page) 4 (un_lt page) (by omega) _).mono ?_
    rintro x w5 ⟨n5, rfl, on5, k5⟩
    have hA5 := k5.blk (by simp) hA4
    have hK5 := hK4.trans k5
    have ho5 := ho4.keep k5 (by simp)
    clear hA4 hK4 ho4 k5 g9 u9
    go_wp2_with (refine wpList_append_bytes rfl (.tmp 69) (.tmp 73) 30 5 rfl w.heap.size Try.underlying30 (by kernel_rfl) rfl rfl ho5 (on5.bytes (by rw [le_len]; omega)) (by simp only [List.length_append, le_len, HPL.out]; omega) hK5.size ?_)
    intro v6 w6 ho6 k6
    have hA6 := k6.blk (fun h => (ho5.ne_row hA5 (by decide)) (by simpa using h)) hA5
    have hK6 := own_grow ho5 hK5 k6
    clear hA5 hK5 ho5 on5 k6
    have g10 := cell_of_row w6 _ 10 _ _ _ hA6
    simp at g10
    have u10 := un_wrap stamp
    go_wp2_with fail
    refine (refNumber_any (un stamp) 8 (un_lt stamp) (by omega) _).mono ?_
    rintro x w7 ⟨n7, rfl, on7, k7⟩
    have hA7 := k7.blk (by simp) hA6
    have hK7 := hK6.trans k7
    have ho7 := ho6.keep k7 (by simp)
    clear hA6 hK6 ho6 k7 g10 u10
    go_wp2_with (refine wpList_append_bytes rfl (.tmp 75) (.tmp 79) 30 5 rfl w.heap.size Try.underlying30 (by kernel_rfl) rfl rfl ho7 (on7.bytes (by rw [le_len]; omega)) (by simp only [List.length_append, le_len, HPL.out]; omega) hK7.size ?_)
    intro v8 w8 ho8 k8
    have hA8 := k8.blk (fun h => (ho7.ne_row hA7 (by decide)) (by simpa using h)) hA7
    have hK8 := own_grow ho7 hK7 k8
    clear hA7 hK7 ho7 on7 k8
    have g11 := cell_of_row w8 _ 11 _ _ _ hA8
    simp at g11
    have u11 := un_wrap hdep
    go_wp2_with fail
    refine (refNumber_any (un hdep) 1 (un_lt hdep) (by omega) _).mono ?_
    rintro x w9 ⟨n9, rfl, on9, k9⟩
    have hA9 := k9.blk (by simp) hA8
    have hK9 := hK8.trans k9
    have ho9 := ho8.keep k9 (by simp)
    clear hA8 hK8 ho8 k9 g11 u11
    go_wp2_with (refine wpList_append_bytes rfl (.tmp 81) (.tmp 85) 30 5 rfl w.heap.size Try.underlying30 (by kernel_rfl) rfl rfl ho9 (on9.bytes (by rw [le_len]; omega)) (by simp only [List.length_append, le_len, HPL.out]; omega) hK9.size ?_)
    intro v10 w10 ho10 k10
    have hA10 := k10.blk (fun h => (ho9.ne_row hA9 (by decide)) (by simpa using h)) hA9
    have hK10 := own_grow ho9 hK9 k10
    clear hA9 hK9 ho9 on9 k10
    have g12 := cell_of_row w10 _ 12 _ _ _ hA10
    simp at g12
    have u12 := un_wrap log
    go_wp2_with fail
    refine (refNumber_any (un log) 8 (un_lt log) (by omega) _).mono ?_
    rintro x w11 ⟨n11, rfl, on11, k11⟩
    have hA11 := k11.blk (by simp) hA10
    have hK11 := hK10.trans k11
    have ho11 := ho10.keep k11 (by simp)
    clear hA10 hK10 ho10 k11 g12 u12
    go_wp2_with (refine wpList_append_bytes rfl (.tmp 87) (.tmp 91) 30 5 rfl w.heap.size Try.underlying30 (by kernel_rfl) rfl rfl ho11 (on11.bytes (by rw [le_len]; omega)) (by simp only [List.length_append, le_len, HPL.out]; omega) hK11.size ?_)
    intro v12 w12 ho12 k12
    have hA12 := k12.blk (fun h => (ho11.ne_row hA11 (by decide)) (by simpa using h)) hA11
    have hK12 := own_grow ho11 hK11 k12
    clear hA11 hK11 ho11 on11 k12
    have g13 := cell_of_row w12 _ 13 _ _ _ hA12
    simp at g13
    have u13 := un_wrap hreg
    go_wp2_with fail
    refine (refNumber_any (un hreg) 8 (un_lt hreg) (by omega) _).mono ?_
    rintro x w13 ⟨n13, rfl, on13, k13⟩
    have hA13 := k13.blk (by simp) hA12
    have hK13 := hK12.trans k13
    have ho13 := ho12.keep k13 (by simp)
    clear hA12 hK12 ho12 k13 g13 u13
    go_wp2_with (refine wpList_append_bytes rfl (.tmp 93) (.tmp 97) 30 5 rfl w.heap.size Try.underlying30 (by kernel_rfl) rfl rfl ho13 (on13.bytes (by rw [le_len]; omega)) (by simp only [List.length_append, le_len, HPL.out]; omega) hK13.size ?_)
    intro v14 w14 ho14 k14
    have hA14 := k14.blk (fun h => (ho13.ne_row hA13 (by decide)) (by simpa using h)) hA13
    have hK14 := own_grow ho13 hK13 k14
    clear hA13 hK13 ho13 on13 k14
    have g14 := cell_of_row w14 _ 14 _ _ _ hA14
    simp at g14
    have u14 := un_wrap time
    go_wp2_with fail
    refine (refNumber_any (un time) 8 (un_lt time) (by omega) _).mono ?_
    rintro x w15 ⟨n15, rfl, on15, k15⟩
    have hA15 := k15.blk (by simp) hA14
    have hK15 := hK14.trans k15
    have ho15 := ho14.keep k15 (by simp)
    clear hA14 hK14 ho14 k15 g14 u14
    go_wp2_with (refine wpList_append_bytes rfl (.tmp 99) (.tmp 103) 30 5 rfl w.heap.size Try.underlying30 (by kernel_rfl) rfl rfl ho15 (on15.bytes (by rw [le_len]; omega)) (by simp only [List.length_append, le_len, HPL.out]; omega) hK15.size ?_)
    intro v16 w16 ho16 k16
    have hA16 := k16.blk (fun h => (ho15.ne_row hA15 (by decide)) (by simpa using h)) hA15
    have hK16 := own_grow ho15 hK15 k16
    clear hA15 hK15 ho15 on15 k16
    go_wp2_with fail
    go_ret2
    refine ⟨_, by rw [hc.out]; rfl, ?_, hK16⟩
    rw [← HRES.out, hc.out, if_pos rfl, HPK.out]
    show OwnB _ _ _ v16 _
    simpa [List.append_assoc] using ho16
end Go.Proofs.Ytijljdcpajjhhaa
