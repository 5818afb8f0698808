import Derived.Test.YtijljdcpajjhhaaSuperT
import Derived.Deep.CutRange
/-! The walk of the law SuperTurns. -/
namespace Go.Proofs.Ytijljdcpajjhhaa
open Go.RowKit Go.Shelf Sg Go.Sort Go.Proofs
attribute [local go_sem] Oper.semAt_some
set_option linter.unusedSimpArgs false
set_option linter.unusedVariables false

theorem turn_law0 {A : Hd} (fa : Fine A) : ∃ (m1 m2 : Dev), hsave (Dev.new 60 96) A = (m1, 0) ∧ m1.sync = (m2, 0) ∧ m1.acts = 1 ∧ m2.acts = 2 := by
  obtain ⟨GA, a1, a2, a3, a4, a5⟩ := save_law2 up_new fa
  exact ⟨_, _, a4, rfl, rfl, rfl⟩
theorem pastO_two {w : World} {base : Nat} {v : Value} {a b : List UInt8} (h : PastO w base [] v [a, b]) (ha : a.length ≤ 512) (hb : b.length ≤ 512) :
    ∃ blk cap u0 u1, v = .slice (some ⟨blk, 0, none⟩) 2 cap ∧ w.cell? ⟨blk, 0, none⟩ = some u0 ∧ w.cell? ⟨blk, 1, none⟩ = some u1 ∧ Bytes w u0 a ∧ Bytes w u1 b := by
  obtain ⟨vs, h1, h2, -, h4⟩ := h
  obtain ⟨u0, u1, rfl⟩ : ∃ u0 u1, vs = [u0, u1] := by
    match vs, h2 with
    | [u0, u1], _ => exact ⟨u0, u1, rfl⟩
  rcases h1.2 with ⟨rfl, h0⟩ | ⟨g, cap, cur, rfl, -⟩
  · simp at h0
  · refine ⟨g, cap, u0, u1, rfl, ?_, ?_, (h4 0 u0 a rfl rfl).1.bytes (by omega), (h4 1 u1 b rfl rfl).1.bytes (by omega)⟩
    · have := World.ownsRow.cells (g := g) h1 rfl 0 u0 rfl
      rw [Addr.add_lit, Nat.zero_add] at this
      exact this
    · have := World.ownsRow.cells (g := g) h1 rfl 1 u1 rfl
      rw [Addr.add_lit, Nat.zero_add] at this
      exact this

set_option maxRecDepth 100000 in
set_option maxHeartbeats 1000000 in
set_option maxHeartbeats 16000000 in
theorem superTurnsWalk (W : World) (ha : Hd) (hIa : ha.In) (hb : Hd) (hIb : hb.In) (fate : Int) (wf : (Lit.int .i64 fate).wf = true) : Calls Try.prog 14 #[ha.v, hb.v, .int .i64 fate] W fun e W' => e = .returned (.bool true) ∧ Below W.heap.size W W' := by
  have hfate := i64_in wf
  obtain ⟨⟨sec, size, reg, rs, lg, dep, mem, seed⟩, gen, page, stamp, hdep, log, hreg, time⟩ := ha
  obtain ⟨⟨secb, sizeb, regb, rsb, lgb, depb, memb, seedb⟩, genb, pageb, stampb, hdepb, logb, hregb, timeb⟩ := hb
  obtain ⟨-, ig, i2, i3, i4, i5, i6, i7⟩ := hIa
  obtain ⟨-, -, j2, j3, j4, j5, j6, j7⟩ := hIb
  simp only at ig i2 i3 i4 i5 i6 i7 j2 j3 j4 j5 j6 j7
  obtain ⟨r, hr⟩ : ∃ r, Int.tmod gen 1000 = r := ⟨_, rfl⟩
  have hr1 : -1000 < r ∧ r < 1000 := by
    rw [← hr]
    have h1 := Int.tmod_lt_of_pos gen (show (0 : Int) < 1000 by decide)
    have h2 := Int.lt_tmod_of_pos gen (show (0 : Int) < 1000 by decide)
    omega
  obtain ⟨gA, hgA⟩ : ∃ gA, max r 1 = gA := ⟨_, rfl⟩
  obtain ⟨gB, hgB⟩ : ∃ gB, gA + 1 = gB := ⟨_, rfl⟩
  have hA1 : 1 ≤ gA ∧ gA < 1000 := by omega
  have tr : IntKind.i64.wrap r = r := i64_wrap (by omega) (by omega)
  have tB : IntKind.i64.wrap gB = gB := i64_wrap (by omega) (by omega)
  have hinA : Hd.In ⟨pl10, gA, page, stamp, hdep, log, hreg, time⟩ := ⟨pl10_in, ⟨by show (_ : Int) ≤ gA; omega, by show gA ≤ _; omega⟩, i2, i3, i4, i5, i6, i7⟩
  have hinB : Hd.In ⟨pl10, gB, pageb, stampb, hdepb, logb, hregb, timeb⟩ := ⟨pl10_in, ⟨by show (_ : Int) ≤ gB; omega, by show gB ≤ _; omega⟩, j2, j3, j4, j5, j6, j7⟩
  have HIN := Lib.hid (And.intro hinA (And.intro hinB (And.intro (show (Hd.gen ⟨pl10, gB, pageb, stampb, hdepb, logb, hregb, timeb⟩) = (Hd.gen ⟨pl10, gA, page, stamp, hdep, log, hreg, time⟩) + 1 from hgB.symm) (And.intro hA1 hfate))))
  clear ig i2 i3 i4 i5 i6 i7 j2 j3 j4 j5 j6 j7 hr1 hA1 hinA hinB wf hfate
  have H3 := Lib.hid (((Keep.refl [] (W.alloc (.cells #[.int .i64 sec, .int .i64 size, .int .i64 reg, .int .i64 rs, .int .i64 lg, .int .i64 dep, .int .i64 mem, .int .u64 (seed : Int), .int .i64 gen, .int .i64 page, .int .i64 stamp, .int .i64 hdep, .int .i64 log, .int .i64 hreg, .int .i64 time] 118))).alloc (.cells #[.int .i64 secb, .int .i64 sizeb, .int .i64 regb, .int .i64 rsb, .int .i64 lgb, .int .i64 depb, .int .i64 memb, .int .u64 (seedb : Int), .int .i64 genb, .int .i64 pageb, .int .i64 stampb, .int .i64 hdepb, .int .i64 logb, .int .i64 hregb, .int .i64 timeb] 118)).blk (by simp) (heap_alloc_new W (.cells #[.int .i64 sec, .int .i64 size, .int .i64 reg, .int .i64 rs, .int .i64 lg, .int .i64 dep, .int .i64 mem, .int .u64 (seed : Int), .int .i64 gen, .int .i64 page, .int .i64 stamp, .int .i64 hdep, .int .i64 log, .int .i64 hreg, .int .i64 time] 118)))
  have H4 : Hid (((W.alloc (.cells #[.int .i64 sec, .int .i64 size, .int .i64 reg, .int .i64 rs, .int .i64 lg, .int .i64 dep, .int .i64 mem, .int .u64 (seed : Int), .int .i64 gen, .int .i64 page, .int .i64 stamp, .int .i64 hdep, .int .i64 log, .int .i64 hreg, .int .i64 time] 118)).alloc (.cells #[.int .i64 secb, .int .i64 sizeb, .int .i64 regb, .int .i64 rsb, .int .i64 lgb, .int .i64 depb, .int .i64 memb, .int .u64 (seedb : Int), .int .i64 genb, .int .i64 pageb, .int .i64 stampb, .int .i64 hdepb, .int .i64 logb, .int .i64 hregb, .int .i64 timeb] 118)).heap[W.heap.size + 1]? = some (.cells #[.int .i64 secb, .int .i64 sizeb, .int .i64 regb, .int .i64 rsb, .int .i64 lgb, .int .i64 depb, .int .i64 memb, .int .u64 (seedb : Int), .int .i64 genb, .int .i64 pageb, .int .i64 stampb, .int .i64 hdepb, .int .i64 logb, .int .i64 hregb, .int .i64 timeb] 118)) := Lib.hid (by have h := heap_alloc_new (W.alloc (.cells #[.int .i64 sec, .int .i64 size, .int .i64 reg, .int .i64 rs, .int .i64 lg, .int .i64 dep, .int .i64 mem, .int .u64 (seed : Int), .int .i64 gen, .int .i64 page, .int .i64 stamp, .int .i64 hdep, .int .i64 log, .int .i64 hreg, .int .i64 time] 118)) (.cells #[.int .i64 secb, .int .i64 sizeb, .int .i64 regb, .int .i64 rsb, .int .i64 lgb, .int .i64 depb, .int .i64 memb, .int .u64 (seedb : Int), .int .i64 genb, .int .i64 pageb, .int .i64 stampb, .int .i64 hdepb, .int .i64 logb, .int .i64 hregb, .int .i64 timeb] 118); rw [World.size_alloc] at h; exact h)
  have HK := Lib.hid (((Keep.refl [] W).alloc (.cells #[.int .i64 sec, .int .i64 size, .int .i64 reg, .int .i64 rs, .int .i64 lg, .int .i64 dep, .int .i64 mem, .int .u64 (seed : Int), .int .i64 gen, .int .i64 page, .int .i64 stamp, .int .i64 hdep, .int .i64 log, .int .i64 hreg, .int .i64 time] 118)).alloc (.cells #[.int .i64 secb, .int .i64 sizeb, .int .i64 regb, .int .i64 rsb, .int .i64 lgb, .int .i64 depb, .int .i64 memb, .int .u64 (seedb : Int), .int .i64 genb, .int .i64 pageb, .int .i64 stampb, .int .i64 hdepb, .int .i64 logb, .int .i64 hregb, .int .i64 timeb] 118))
  simp only [Hd.v, Hd.cells]
  go_enter Try.func14, Try.ntmps14
  go_wp2_with fail
  obtain ⟨b7, hb7⟩ : ∃ b7, W.heap.size = b7 := ⟨_, rfl⟩
  obtain ⟨b8, hb8⟩ : ∃ b8, b7 + 1 = b8 := ⟨_, rfl⟩
  rw [hb7] at H3 H4 ⊢
  rw [hb8] at H4 ⊢
  have hne : b7 ≠ b8 := by omega
  have HGE := Lib.hid (⟨by omega, by omega⟩ : W.heap.size ≤ b7 ∧ W.heap.size ≤ b8)
  clear hb7 hb8
  refine (small10_any _).mono ?_
  rintro e w1 ⟨rfl, k1⟩
  go_wp2_with fail
  refine (small10_any _).mono ?_
  rintro e w2 ⟨rfl, k2⟩
  have h72 := k2.blk (by simp) (k1.blk (by simp) H3.out)
  have h82 := k2.blk (by simp) (k1.blk (by simp) H4.out)
  have HK2 := Lib.hid ((HK.out.trans k1).trans k2)
  clear k1 k2 H3 H4 HK
  have hn := hne
  have hn' : ¬ b8 = b7 := fun e => hne e.symm
  clear hne
  have p0 := cell_of_row _ _ 0 _ _ _ h72
  have q0 := cell_of_row _ _ 0 _ _ _ h82
  have e0 := frozen_of_row w2 _ 0 _ _ h72
  have f0 := frozen_of_row w2 _ 0 _ _ h82
  have p1 := cell_of_row _ _ 1 _ _ _ h72
  have q1 := cell_of_row _ _ 1 _ _ _ h82
  have e1 := frozen_of_row w2 _ 1 _ _ h72
  have f1 := frozen_of_row w2 _ 1 _ _ h82
  have p2 := cell_of_row _ _ 2 _ _ _ h72
  have q2 := cell_of_row _ _ 2 _ _ _ h82
  have e2 := frozen_of_row w2 _ 2 _ _ h72
  have f2 := frozen_of_row w2 _ 2 _ _ h82
  have p3 := cell_of_row _ _ 3 _ _ _ h72
  have q3 := cell_of_row _ _ 3 _ _ _ h82
  have e3 := frozen_of_row w2 _ 3 _ _ h72
  have f3 := frozen_of_row w2 _ 3 _ _ h82
  have p4 := cell_of_row _ _ 4 _ _ _ h72
  have q4 := cell_of_row _ _ 4 _ _ _ h82
  have e4 := frozen_of_row w2 _ 4 _ _ h72
  have f4 := frozen_of_row w2 _ 4 _ _ h82
  have p5 := cell_of_row _ _ 5 _ _ _ h72
  have q5 := cell_of_row _ _ 5 _ _ _ h82
  have e5 := frozen_of_row w2 _ 5 _ _ h72
  have f5 := frozen_of_row w2 _ 5 _ _ h82
  have p6 := cell_of_row _ _ 6 _ _ _ h72
  have q6 := cell_of_row _ _ 6 _ _ _ h82
  have e6 := frozen_of_row w2 _ 6 _ _ h72
  have f6 := frozen_of_row w2 _ 6 _ _ h82
  have p7 := cell_of_row _ _ 7 _ _ _ h72
  have q7 := cell_of_row _ _ 7 _ _ _ h82
  have e7 := frozen_of_row w2 _ 7 _ _ h72
  have f7 := frozen_of_row w2 _ 7 _ _ h82
  have p8 := cell_of_row _ _ 8 _ _ _ h72
  have q8 := cell_of_row _ _ 8 _ _ _ h82
  have e8 := frozen_of_row w2 _ 8 _ _ h72
  have f8 := frozen_of_row w2 _ 8 _ _ h82
  simp at p0 q0 p1 q1 p2 q2 p3 q3 p4 q4 p5 q5 p6 q6 p7 q7 p8 q8
  have hA1 := setP_same h72 (.int .i64 60) (.int .i64 96) (.int .i64 3) (.int .i64 2) (.int .i64 4) (.int .i64 2) (.int .i64 8) (.int .u64 0)
  have hB1 : (setP w2 b7 (.int .i64 60) (.int .i64 96) (.int .i64 3) (.int .i64 2) (.int .i64 4) (.int .i64 2) (.int .i64 8) (.int .u64 0)).heap[b8]? = _ := ((setP_keep (Keep.refl [b7] w2) (.inl (by simp)) (.int .i64 60) (.int .i64 96) (.int .i64 3) (.int .i64 2) (.int .i64 4) (.int .i64 2) (.int .i64 8) (.int .u64 0)).blk (by simpa using hn') h82)
  have hB2 := setP_same hB1 (.int .i64 60) (.int .i64 96) (.int .i64 3) (.int .i64 2) (.int .i64 4) (.int .i64 2) (.int .i64 8) (.int .u64 0)
  have hA2 : (setP (setP w2 b7 (.int .i64 60) (.int .i64 96) (.int .i64 3) (.int .i64 2) (.int .i64 4) (.int .i64 2) (.int .i64 8) (.int .u64 0)) b8 (.int .i64 60) (.int .i64 96) (.int .i64 3) (.int .i64 2) (.int .i64 4) (.int .i64 2) (.int .i64 8) (.int .u64 0)).heap[b7]? = _ := ((setP_keep (Keep.refl [b8] _) (.inl (by simp)) (.int .i64 60) (.int .i64 96) (.int .i64 3) (.int .i64 2) (.int .i64 4) (.int .i64 2) (.int .i64 8) (.int .u64 0)).blk (by simpa using hn) hA1)
  have hA3 := heap_setCell_same _ b7 8 _ _ (.int .i64 gA) hA2
  simp only [List.setIfInBounds_toArray, List.set_cons_zero, List.set_cons_succ] at hA3
  have hB3 : ((setP (setP w2 b7 (.int .i64 60) (.int .i64 96) (.int .i64 3) (.int .i64 2) (.int .i64 4) (.int .i64 2) (.int .i64 8) (.int .u64 0)) b8 (.int .i64 60) (.int .i64 96) (.int .i64 3) (.int .i64 2) (.int .i64 4) (.int .i64 2) (.int .i64 8) (.int .u64 0)).setCell ⟨b7, 8, none⟩ (.int .i64 gA)).heap[b8]? = _ := (Keep.refl [b7] _).setCell (.inl (by simp)) _ |>.blk (by simpa using hn') hB2
  have hB4 := heap_setCell_same _ b8 8 _ _ (.int .i64 gB) hB3
  simp only [List.setIfInBounds_toArray, List.set_cons_zero, List.set_cons_succ] at hB4
  have hA4 : (((setP (setP w2 b7 (.int .i64 60) (.int .i64 96) (.int .i64 3) (.int .i64 2) (.int .i64 4) (.int .i64 2) (.int .i64 8) (.int .u64 0)) b8 (.int .i64 60) (.int .i64 96) (.int .i64 3) (.int .i64 2) (.int .i64 4) (.int .i64 2) (.int .i64 8) (.int .u64 0)).setCell ⟨b7, 8, none⟩ (.int .i64 gA)).setCell ⟨b8, 8, none⟩ (.int .i64 gB)).heap[b7]? = _ := (Keep.refl [b8] _).setCell (.inl (by simp)) _ |>.blk (by simpa using hn) hA3
  have hK4 : Keep [] W (((setP (setP w2 b7 (.int .i64 60) (.int .i64 96) (.int .i64 3) (.int .i64 2) (.int .i64 4) (.int .i64 2) (.int .i64 8) (.int .u64 0)) b8 (.int .i64 60) (.int .i64 96) (.int .i64 3) (.int .i64 2) (.int .i64 4) (.int .i64 2) (.int .i64 8) (.int .u64 0)).setCell ⟨b7, 8, none⟩ (.int .i64 gA)).setCell ⟨b8, 8, none⟩ (.int .i64 gB)) := ((setP_keep (setP_keep HK2.out (.inr HGE.out.1) (.int .i64 60) (.int .i64 96) (.int .i64 3) (.int .i64 2) (.int .i64 4) (.int .i64 2) (.int .i64 8) (.int .u64 0)) (.inr HGE.out.2) (.int .i64 60) (.int .i64 96) (.int .i64 3) (.int .i64 2) (.int .i64 4) (.int .i64 2) (.int .i64 8) (.int .u64 0)).setCell (.inr HGE.out.1) _).setCell (.inr HGE.out.2) _
  have HA4 := Lib.hid hA4
  have HB4 := Lib.hid hB4
  have HK4 := Lib.hid hK4
  clear h72 h82 hA1 hB1 hB2 hA2 hA3 hB3 hB4 hA4 hK4 HK2
  go_wp2_with fail
  clear p0 q0 e0 f0 p1 q1 e1 f1 p2 q2 e2 f2 p3 q3 e3 f3 p4 q4 e4 f4 p5 q5 e5 f5 p6 q6 e6 f6 p7 q7 e7 f7 p8 q8 e8 f8 hn hn' HGE
  change Calls _ _ _ (((setP (setP w2 b7 (.int .i64 60) (.int .i64 96) (.int .i64 3) (.int .i64 2) (.int .i64 4) (.int .i64 2) (.int .i64 8) (.int .u64 0)) b8 (.int .i64 60) (.int .i64 96) (.int .i64 3) (.int .i64 2) (.int .i64 4) (.int .i64 2) (.int .i64 8) (.int .u64 0)).setCell ⟨b7, 8, none⟩ (.int .i64 gA)).setCell ⟨b8, 8, none⟩ (.int .i64 gB)) _
  generalize (((setP (setP w2 b7 (.int .i64 60) (.int .i64 96) (.int .i64 3) (.int .i64 2) (.int .i64 4) (.int .i64 2) (.int .i64 8) (.int .u64 0)) b8 (.int .i64 60) (.int .i64 96) (.int .i64 3) (.int .i64 2) (.int .i64 4) (.int .i64 2) (.int .i64 8) (.int .u64 0)).setCell ⟨b7, 8, none⟩ (.int .i64 gA)).setCell ⟨b8, 8, none⟩ (.int .i64 gB)) = w4 at HA4 HB4 HK4 ⊢
  clear tr hr hgA hgB
  refine (show Calls Try.prog 15 #[.int .i64 60, .int .i64 96] _ _ from newDev_any 60 96 (by decide) _).mono ?_
  rintro e wA ⟨g, D, rfl, hD, kA, hf⟩
  have HA5 := Lib.hid (kA.blk (by simp) HA4.out)
  have HB5 := Lib.hid (kA.blk (by simp) HB4.out)
  have HK5 := Lib.hid (HK4.out.trans kA)
  have HD5 := Lib.hid hD
  have HF5 := Lib.hid (fun b hb => Nat.le_trans HK4.out.size (hf b hb) : ∀ b ∈ D, W.heap.size ≤ b)
  have HN5 := Lib.hid (fun b hb e => by have h1 := hf b hb; have h2 := (Array.getElem?_eq_some_iff.1 HA4.out).1; omega : ∀ b ∈ D, b ≠ b7)
  have HN6 := Lib.hid (fun b hb e => by have h1 := hf b hb; have h2 := (Array.getElem?_eq_some_iff.1 HB4.out).1; omega : ∀ b ∈ D, b ≠ b8)
  clear hD kA hf HA4 HB4 HK4
  have cOx := fun w => of10_any ⟨pl10, gA, page, stamp, hdep, log, hreg, time⟩ w
  have cOy := fun w => of10_any ⟨pl10, gB, pageb, stampb, hdepb, logb, hregb, timeb⟩ w
  simp only [Hd.v, Hd.cells, pl10, show ((0 : Nat) : Int) = 0 from rfl] at cOx cOy
  have COX := Lib.hid cOx
  have COY := Lib.hid cOy
  clear cOx cOy
  have c0 : (Dev.new 60 96).acts ≤ 1000000000 := by show (0 : Nat) ≤ _; decide
  by_cases hok : Hd.Ok ⟨pl10, gA, page, stamp, hdep, log, hreg, time⟩
  case neg =>
   as_aux_lemma =>
    have hcode : Hd.code ⟨pl10, gA, page, stamp, hdep, log, hreg, time⟩ = 1 := by unfold Hd.code; rw [if_pos pl10_fits, if_neg hok]
    have hsv : hsave (Dev.new 60 96) ⟨pl10, gA, page, stamp, hdep, log, hreg, time⟩ = (Dev.new 60 96, 1) := by unfold hsave; rw [if_pos (by rw [hcode]; decide), hcode]
    have cS := fun w D g (hd : DV w D g (Dev.new 60 96)) => hsave_any w D g (Dev.new 60 96) hd c0 ⟨pl10, gA, page, stamp, hdep, log, hreg, time⟩ (by show (0 : Nat) < _; decide) HIN.out.1.2.1.2
    rw [hsv] at cS
    simp only [Hd.v, Hd.cells, pl10, show ((0 : Nat) : Int) = 0 from rfl] at cS
    have CS := Lib.hid cS
    clear cS hok hcode hsv
    go_wp2_with (refine wpList_load_row rfl 118 (.tmp 3) rfl b7 rfl 118 _ _ _ HA5.out Try.underlying118 rfl (by kernel_rfl) ?_)
    refine (COX.out _).mono ?_
    rintro e wB ⟨rfl, kB⟩
    go_wp2_with fail
    refine (CS.out _ D g (HD5.out.keep kB (by simp))).mono ?_
    rintro e wC ⟨rfl, D', hD', hG', kC⟩
    obtain ⟨hkC, -⟩ := dev_step (HK5.out.trans kB) HF5.out hG' kC
    have HKC := Lib.hid hkC
    clear kB hD' hG' kC hkC
    go_wp2_with fail
    refine (awake10_any _).mono ?_
    rintro e wD ⟨rfl, kD⟩
    have HKD := Lib.hid (HKC.out.trans kD)
    clear kD
    go_wp2
    go_ret
    exact ⟨rfl, HKD.out.below (Nat.le_refl _) (by simp)⟩
  have fx : Fine ⟨pl10, gA, page, stamp, hdep, log, hreg, time⟩ := fine_small _ _ _ _ _ _ _ hok HIN.out.1
  obtain ⟨m1, m2, a1, a2, a3, a4⟩ := turn_law0 fx
  have cS1 := fun w D g hd => hsave_any w D g (Dev.new 60 96) hd c0 ⟨pl10, gA, page, stamp, hdep, log, hreg, time⟩ fx.seed HIN.out.1.2.1.2
  have cY := fun w D g hd => sync_any w D g m1 hd (by rw [a3]; decide)
  have cS2 := fun w D g hd => hsave_any w D g m2 hd (by rw [a4]; decide) ⟨pl10, gB, pageb, stampb, hdepb, logb, hregb, timeb⟩ (by show (0 : Nat) < _; decide) HIN.out.2.1.2.1.2
  rw [a1] at cS1
  rw [a2] at cY
  obtain ⟨RS, hRS⟩ : ∃ RS, hsave m2 ⟨pl10, gB, pageb, stampb, hdepb, logb, hregb, timeb⟩ = RS := ⟨_, rfl⟩
  rw [hRS] at cS2
  have HRS := Lib.hid hRS
  clear hRS
  simp only [Hd.v, Hd.cells, pl10, show ((0 : Nat) : Int) = 0 from rfl] at cS1 cS2
  have CS1 := Lib.hid cS1
  have CY := Lib.hid cY
  have CS2 := Lib.hid cS2
  have HM := Lib.hid (And.intro a1 a2)
  have FX := Lib.hid fx
  clear cS1 cY cS2 c0 a1 a2 a3 a4 hok fx
  go_wp2_with (refine wpList_load_row rfl 118 (.tmp 3) rfl b7 rfl 118 _ _ _ HA5.out Try.underlying118 rfl (by kernel_rfl) ?_)
  refine (COX.out _).mono ?_
  rintro e wB ⟨rfl, kB⟩
  go_wp2_with fail
  refine (CS1.out _ D g (HD5.out.keep kB (by simp))).mono ?_
  rintro e wC ⟨rfl, D6, hD6, hG6, kC⟩
  obtain ⟨hkC, hfC⟩ := dev_step (HK5.out.trans kB) HF5.out hG6 kC
  have HA6 := Lib.hid (kC.blk (fun h => HN5.out _ h rfl) (kB.blk (by simp) HA5.out))
  have HB6 := Lib.hid (kC.blk (fun h => HN6.out _ h rfl) (kB.blk (by simp) HB5.out))
  have HN7 := Lib.hid (fun b hb => (hG6.2 b hb).elim (HN5.out b) (fun h1 e => by have h2 := (Array.getElem?_eq_some_iff.1 HA5.out).1; have := kB.size; omega) : ∀ b ∈ D6, b ≠ b7)
  have HN8 := Lib.hid (fun b hb => (hG6.2 b hb).elim (HN6.out b) (fun h1 e => by have h2 := (Array.getElem?_eq_some_iff.1 HB5.out).1; have := kB.size; omega) : ∀ b ∈ D6, b ≠ b8)
  have HK6 := Lib.hid hkC
  have HF6 := Lib.hid hfC
  have HD6 := Lib.hid hD6
  clear kB hD6 hG6 kC hkC hfC HK5 HF5 HA5 HB5 HN5 HN6 HD5
  go_wp2_with fail
  refine (CY.out _ D6 g HD6.out).mono ?_
  rintro e wE ⟨rfl, D7, hD7, hG7, kE⟩
  obtain ⟨hkE, hfE⟩ := dev_step HK6.out HF6.out hG7 kE
  have HA7 := Lib.hid (kE.blk (fun h => HN7.out _ h rfl) HA6.out)
  have HB7 := Lib.hid (kE.blk (fun h => HN8.out _ h rfl) HB6.out)
  have HN9 := Lib.hid (fun b hb => (hG7.2 b hb).elim (HN7.out b) (fun h1 e => by have h2 := (Array.getElem?_eq_some_iff.1 HA6.out).1; omega) : ∀ b ∈ D7, b ≠ b7)
  have HN10 := Lib.hid (fun b hb => (hG7.2 b hb).elim (HN8.out b) (fun h1 e => by have h2 := (Array.getElem?_eq_some_iff.1 HB6.out).1; omega) : ∀ b ∈ D7, b ≠ b8)
  have HK7 := Lib.hid hkE
  have HF7 := Lib.hid hfE
  have HD7 := Lib.hid hD7
  clear hD7 hG7 kE hkE hfE HK6 HF6 HA6 HB6 HN7 HN8 HD6
  have p0 := cell_of_row _ _ 0 _ _ _ HB7.out
  have p1 := cell_of_row _ _ 1 _ _ _ HB7.out
  have p2 := cell_of_row _ _ 2 _ _ _ HB7.out
  have p3 := cell_of_row _ _ 3 _ _ _ HB7.out
  have p4 := cell_of_row _ _ 4 _ _ _ HB7.out
  have p5 := cell_of_row _ _ 5 _ _ _ HB7.out
  have p6 := cell_of_row _ _ 6 _ _ _ HB7.out
  have p7 := cell_of_row _ _ 7 _ _ _ HB7.out
  have p8 := cell_of_row _ _ 8 _ _ _ HB7.out
  have p9 := cell_of_row _ _ 9 _ _ _ HB7.out
  have p10 := cell_of_row _ _ 10 _ _ _ HB7.out
  have p11 := cell_of_row _ _ 11 _ _ _ HB7.out
  have p12 := cell_of_row _ _ 12 _ _ _ HB7.out
  have p13 := cell_of_row _ _ 13 _ _ _ HB7.out
  have p14 := cell_of_row _ _ 14 _ _ _ HB7.out
  simp at p0 p1 p2 p3 p4 p5 p6 p7 p8 p9 p10 p11 p12 p13 p14
  go_wp2_with fail
  clear p0 p1 p2 p3 p4 p5 p6 p7 p8 p9 p10 p11 p12 p13 p14
  refine (COY.out _).mono ?_
  rintro e wF ⟨rfl, kF⟩
  by_cases hok : Hd.Ok ⟨pl10, gB, pageb, stampb, hdepb, logb, hregb, timeb⟩
  case neg =>
   as_aux_lemma =>
    have hcode : Hd.code ⟨pl10, gB, pageb, stampb, hdepb, logb, hregb, timeb⟩ = 1 := by unfold Hd.code; rw [if_pos pl10_fits, if_neg hok]
    have hsv : hsave m2 ⟨pl10, gB, pageb, stampb, hdepb, logb, hregb, timeb⟩ = (m2, 1) := by unfold hsave; rw [if_pos (by rw [hcode]; decide), hcode]
    have cS := CS2.out
    rw [HRS.out.symm.trans hsv] at cS
    have CS := Lib.hid cS
    clear cS hok hcode hsv
    go_wp2_with fail
    refine (CS.out _ D7 g (HD7.out.keep kF (by simp))).mono ?_
    rintro e wC ⟨rfl, D', hD', hG', kC⟩
    obtain ⟨hkC, -⟩ := dev_step (HK7.out.trans kF) HF7.out hG' kC
    have HKC := Lib.hid hkC
    clear kF hD' hG' kC hkC
    go_wp2_with fail
    refine (awake10_any _).mono ?_
    rintro e wD ⟨rfl, kD⟩
    have HKD := Lib.hid (HKC.out.trans kD)
    clear kD
    go_wp2
    go_ret
    exact ⟨rfl, HKD.out.below (Nat.le_refl _) (by simp)⟩
  have fy : Fine ⟨pl10, gB, pageb, stampb, hdepb, logb, hregb, timeb⟩ := fine_small _ _ _ _ _ _ _ hok HIN.out.2.1
  obtain ⟨n1, n2, m3, TL, Bb, tb, SS_, q1, q2, q3, q4, q5, q6, q7, q8, q9, q10, q11, q12⟩ := turn_law FX.out fy HIN.out.2.2.1 fate
  obtain rfl : m1 = n1 := by have h := HM.out.1.symm.trans q1; exact congrArg Prod.fst h
  obtain rfl : m2 = n2 := by have h := HM.out.2.symm.trans q2; exact congrArg Prod.fst h
  have cS := CS2.out
  rw [HRS.out.symm.trans q3] at cS
  have cC := fun w D g hd v hv hn => crash_any w D g m3 hd (by rw [q5.2.2]; decide) v [fate] hv hn
  have hac : (m3.crash [fate]).acts ≤ 1000000000 := by show m3.acts ≤ _; rw [q5.2.2]; decide
  have cH := fun w D g hd => heads_any w D g (m3.crash [fate]) hd hac
  have cL := fun w D g hd => load_any w D g (m3.crash [fate]) hd hac
  have cR := fun w D g hd => read_any w D g (m3.crash [fate]) hd hac (tb : Int)
  have cPa := fun w D g hd => past_any w D g (m3.crash [fate]) hd hac (tb : Int)
  rw [q6] at cH
  rw [q8] at cR
  rw [q9] at cPa
  obtain ⟨X, hX1, hX2⟩ : ∃ X, hload (m3.crash [fate]) = (X, 0) ∧ ((SS_ = none ∧ X = ⟨pl10, gA, page, stamp, hdep, log, hreg, time⟩) ∨ SS_ = some X) := by
    cases SS_ with
    | none => exact ⟨_, hload_up q4.dn (r := []) (by rw [q6]; rfl), .inl ⟨rfl, rfl⟩⟩
    | some y => exact ⟨y, hload_up q4.dn (r := [_]) (by rw [q6]; rfl), .inr rfl⟩
  rw [hX1] at cL
  have tt : Int.tmod gB 2 = (tb : Int) := by rw [Int.tmod_eq_emod_of_nonneg (by have := HIN.out.2.2.2.1; have h2 : gB = gA + 1 := HIN.out.2.2.1; omega)]; exact q7
  have tt2 : IntKind.i64.wrap (tb : Int) = (tb : Int) := i64_wrap (by omega) (by have q7' : gB % 2 = (tb : Int) := q7; omega)
  have HQ := Lib.hid (And.intro hX2 q12)
  have CS := Lib.hid cS
  have CC_ := Lib.hid cC
  have CH := Lib.hid cH
  have CL := Lib.hid cL
  have CR := Lib.hid cR
  have CP := Lib.hid cPa
  have HTL := Lib.hid (And.intro q10 q11)
  clear cS cC cH cL cR cPa q1 q2 q3 q4 q5 q6 q7 q8 q9 q10 q11 q12 hac hX1 hX2 fy hok CS2 CS1 CY HM FX
  go_wp2_with fail
  refine (CS.out _ D7 g (HD7.out.keep kF (by simp))).mono ?_
  rintro e wG ⟨rfl, D8, hD8, hG8, kG⟩
  obtain ⟨hkG, hfG⟩ := dev_step (HK7.out.trans kF) HF7.out hG8 kG
  have hA8 := kG.blk (fun h => HN9.out _ h rfl) (kF.blk (by simp) HA7.out)
  have hB8 := kG.blk (fun h => HN10.out _ h rfl) (kF.blk (by simp) HB7.out)
  have hN9 : ∀ b ∈ D8, b ≠ b7 := (fun b hb => (hG8.2 b hb).elim (HN9.out b) (fun h1 e => by have h2 := (Array.getElem?_eq_some_iff.1 HA7.out).1; have := kF.size; omega) : ∀ b ∈ D8, b ≠ b7)
  have hN10 : ∀ b ∈ D8, b ≠ b8 := (fun b hb => (hG8.2 b hb).elim (HN10.out b) (fun h1 e => by have h2 := (Array.getElem?_eq_some_iff.1 HB7.out).1; have := kF.size; omega) : ∀ b ∈ D8, b ≠ b8)
  have kX := (Keep.refl [] wG).alloc (.cells #[.int .i64 fate] 3)
  have hbX := heap_alloc_new wG (.cells #[.int .i64 fate] 3)
  have hIn : Ints (wG.alloc (.cells #[.int .i64 fate] 3)) (.slice (some ⟨wG.heap.size, 0, none⟩) 1 1) [fate] := ⟨some ⟨wG.heap.size, 0, none⟩, 1, rfl, by simp, ⟨by decide, by simp⟩, by simp, by intro y hy; rw [List.mem_singleton.1 hy]; exact HIN.out.2.2.2.2, by
    intro ad e i hi
    cases e
    obtain rfl : i = 0 := by simpa using hi
    rw [Addr.add_lit, Nat.add_zero]
    exact cell_of_one hbX⟩
  have hcr := CC_.out _ D8 g (hD8.keep kX (by simp)) _ hIn (fun _ b hb h => by simp [Value.ownBlock] at hb; subst hb; have := hD8.lt _ h; omega)
  have HCR := Lib.hid hcr
  have HK8 := Lib.hid (hkG.trans kX)
  have HF8 := Lib.hid hfG
  have HA8 := Lib.hid (kX.blk (by simp) hA8)
  have HB8 := Lib.hid (kX.blk (by simp) hB8)
  have HN11 := Lib.hid (And.intro hN9 hN10)
  clear hD8 hG8 kG hkG hfG hA8 hB8 hN9 hN10 kX hbX hIn hcr kF HK7 HF7 HA7 HB7 HN9 HN10 HD7 CC_ CS
  go_wp2_with fail
  refine HCR.out.mono ?_
  rintro e wH ⟨rfl, D9, hD9, hG9, kH⟩
  obtain ⟨hkH, hfH⟩ := dev_step HK8.out HF8.out hG9 kH
  have HA9 := Lib.hid (kH.blk (fun h => HN11.out.1 _ h rfl) HA8.out)
  have HB9 := Lib.hid (kH.blk (fun h => HN11.out.2 _ h rfl) HB8.out)
  have HK9 := Lib.hid hkH
  have HD9 := Lib.hid hD9
  clear hD9 hG9 kH hkH hfH HK8 HF8 HA8 HB8 HN11 HCR
  go_wp2_with fail
  refine (CH.out _ D9 g HD9.out).mono ?_
  rintro e wI ⟨v, rfl, hrow, -, kI⟩
  have HD10 := Lib.hid (HD9.out.keep kI (by simp))
  have HA10 := Lib.hid (kI.blk (by simp) HA9.out)
  have HB10 := Lib.hid (kI.blk (by simp) HB9.out)
  have HK10 := Lib.hid (HK9.out.trans kI)
  clear kI HD9 HA9 HB9 HK9 CH
  cases SS_ with
  | none =>
   as_aux_lemma =>
    have hc0 : ∃ blk cap, v = .slice (some ⟨blk, 0, none⟩) 1 cap ∧ ∀ (j : Nat) (y : Value), (Hd.cells ⟨pl10, gA, page, stamp, hdep, log, hreg, time⟩)[j]? = some y → wI.cell? ⟨blk, 0 * 15 + j, none⟩ = some y := hrow.cells (i := 0) (x := ⟨pl10, gA, page, stamp, hdep, log, hreg, time⟩) rfl
    obtain ⟨blk, cap, rfl, hc'⟩ := hc0
    simp only [Hd.cells, pl10, show ((0 : Nat) : Int) = 0 from rfl] at hc'
    have HC := Lib.hid hc'
    clear hrow hc'
    go_wp2_with fail
    have wz0 : IntKind.i64.wrap 0 = 0 := by decide
    have wz1 : IntKind.i64.wrap 1 = 1 := by decide
    refine wp_region_his [] [11] (fun _ => 0) (by kernel_rfl) (by kernel_rfl) ?_
    intro wJ hkJ hh
    clear hh
    have x0 := fun w' (h' : Keep [] wJ w') => (hkJ.trans h').cell (by simp) (HC.out 0 (.int .i64 60) rfl)
    have y0 := fun w' (h' : Keep [] wJ w') => cell_of_row w' _ 0 _ _ _ ((hkJ.trans h').blk (by simp) HA10.out)
    have x1 := fun w' (h' : Keep [] wJ w') => (hkJ.trans h').cell (by simp) (HC.out 1 (.int .i64 96) rfl)
    have y1 := fun w' (h' : Keep [] wJ w') => cell_of_row w' _ 1 _ _ _ ((hkJ.trans h').blk (by simp) HA10.out)
    have x2 := fun w' (h' : Keep [] wJ w') => (hkJ.trans h').cell (by simp) (HC.out 2 (.int .i64 3) rfl)
    have y2 := fun w' (h' : Keep [] wJ w') => cell_of_row w' _ 2 _ _ _ ((hkJ.trans h').blk (by simp) HA10.out)
    have x3 := fun w' (h' : Keep [] wJ w') => (hkJ.trans h').cell (by simp) (HC.out 3 (.int .i64 2) rfl)
    have y3 := fun w' (h' : Keep [] wJ w') => cell_of_row w' _ 3 _ _ _ ((hkJ.trans h').blk (by simp) HA10.out)
    have x4 := fun w' (h' : Keep [] wJ w') => (hkJ.trans h').cell (by simp) (HC.out 4 (.int .i64 4) rfl)
    have y4 := fun w' (h' : Keep [] wJ w') => cell_of_row w' _ 4 _ _ _ ((hkJ.trans h').blk (by simp) HA10.out)
    have x5 := fun w' (h' : Keep [] wJ w') => (hkJ.trans h').cell (by simp) (HC.out 5 (.int .i64 2) rfl)
    have y5 := fun w' (h' : Keep [] wJ w') => cell_of_row w' _ 5 _ _ _ ((hkJ.trans h').blk (by simp) HA10.out)
    have x6 := fun w' (h' : Keep [] wJ w') => (hkJ.trans h').cell (by simp) (HC.out 6 (.int .i64 8) rfl)
    have y6 := fun w' (h' : Keep [] wJ w') => cell_of_row w' _ 6 _ _ _ ((hkJ.trans h').blk (by simp) HA10.out)
    have x7 := fun w' (h' : Keep [] wJ w') => (hkJ.trans h').cell (by simp) (HC.out 7 (.int .u64 0) rfl)
    have y7 := fun w' (h' : Keep [] wJ w') => cell_of_row w' _ 7 _ _ _ ((hkJ.trans h').blk (by simp) HA10.out)
    have x8 := fun w' (h' : Keep [] wJ w') => (hkJ.trans h').cell (by simp) (HC.out 8 (.int .i64 gA) rfl)
    have y8 := fun w' (h' : Keep [] wJ w') => cell_of_row w' _ 8 _ _ _ ((hkJ.trans h').blk (by simp) HA10.out)
    have x9 := fun w' (h' : Keep [] wJ w') => (hkJ.trans h').cell (by simp) (HC.out 9 (.int .i64 page) rfl)
    have y9 := fun w' (h' : Keep [] wJ w') => cell_of_row w' _ 9 _ _ _ ((hkJ.trans h').blk (by simp) HA10.out)
    have x10 := fun w' (h' : Keep [] wJ w') => (hkJ.trans h').cell (by simp) (HC.out 10 (.int .i64 stamp) rfl)
    have y10 := fun w' (h' : Keep [] wJ w') => cell_of_row w' _ 10 _ _ _ ((hkJ.trans h').blk (by simp) HA10.out)
    have x11 := fun w' (h' : Keep [] wJ w') => (hkJ.trans h').cell (by simp) (HC.out 11 (.int .i64 hdep) rfl)
    have y11 := fun w' (h' : Keep [] wJ w') => cell_of_row w' _ 11 _ _ _ ((hkJ.trans h').blk (by simp) HA10.out)
    have x12 := fun w' (h' : Keep [] wJ w') => (hkJ.trans h').cell (by simp) (HC.out 12 (.int .i64 log) rfl)
    have y12 := fun w' (h' : Keep [] wJ w') => cell_of_row w' _ 12 _ _ _ ((hkJ.trans h').blk (by simp) HA10.out)
    have x13 := fun w' (h' : Keep [] wJ w') => (hkJ.trans h').cell (by simp) (HC.out 13 (.int .i64 hreg) rfl)
    have y13 := fun w' (h' : Keep [] wJ w') => cell_of_row w' _ 13 _ _ _ ((hkJ.trans h').blk (by simp) HA10.out)
    have x14 := fun w' (h' : Keep [] wJ w') => (hkJ.trans h').cell (by simp) (HC.out 14 (.int .i64 time) rfl)
    have y14 := fun w' (h' : Keep [] wJ w') => cell_of_row w' _ 14 _ _ _ ((hkJ.trans h').blk (by simp) HA10.out)
    simp only [Nat.zero_mul, Nat.one_mul, Nat.reduceMul, Nat.reduceAdd, Nat.zero_add, Nat.add_zero] at x0 x1 x2 x3 x4 x5 x6 x7 x8 x9 x10 x11 x12 x13 x14
    simp at y0 y1 y2 y3 y4 y5 y6 y7 y8 y9 y10 y11 y12 y13 y14
    have HK11 := Lib.hid (HK10.out.trans hkJ)
    have HD11 := Lib.hid (HD10.out.keep hkJ (by simp))
    have HA11 := Lib.hid (hkJ.blk (by simp) HA10.out)
    have HB11 := Lib.hid (hkJ.blk (by simp) HB10.out)
    clear hkJ HD10 HA10 HB10 HK10 HC
    (repeat (first | (refine his_q rfl rfl (fun K hK => ?_); apply Exists.intro; refine ⟨fun w' hC => ?_, ?_⟩; ((try simp [Sg.upd] at hC); go_simp <;> rfl); go_simp; refine hK _ _ ?_; clear hK K) | (refine his_s rfl (fun K hK => ?_); go_simp; refine hK _ _ ?_; clear hK K)))
    (refine his_l rfl rfl (fun K hK => ?_); go_simp)
    refine (COX.out _).mono ?_
    rintro x wK ⟨rfl, kK⟩
    refine hK _ _ kK ?_
    clear hK K
    (repeat (first | (refine his_q rfl rfl (fun K hK => ?_); apply Exists.intro; refine ⟨fun w' hC => ?_, ?_⟩; ((try simp [Sg.upd] at hC); go_simp <;> rfl); go_simp; refine hK _ _ ?_; clear hK K) | (refine his_s rfl (fun K hK => ?_); go_simp; refine hK _ _ ?_; clear hK K)))
    refine his_nil ?_
    clear x0 x1 x2 x3 x4 x5 x6 x7 x8 x9 x10 x11 x12 x13 x14 y0 y1 y2 y3 y4 y5 y6 y7 y8 y9 y10 y11 y12 y13 y14
    have HK12 := Lib.hid (HK11.out.trans kK)
    have HD12 := Lib.hid (HD11.out.keep kK (by simp))
    have HA12 := Lib.hid (kK.blk (by simp) HA11.out)
    have HB12 := Lib.hid (kK.blk (by simp) HB11.out)
    clear kK HK11 HD11 HA11 HB11
    have p8 := cell_of_row _ _ 8 _ _ _ HB12.out
    simp at p8
    go_wp2_with fail
    refine (CR.out _ D9 g HD12.out).mono ?_
    rintro e wL ⟨vs, rfl, os, kL⟩
    have HS13 := Lib.hid (os.bytes (by have := HTL.out.1; omega))
    have HK13 := Lib.hid (HK12.out.trans kL)
    have HD13 := Lib.hid (HD12.out.keep kL (by simp))
    have HA13 := Lib.hid (kL.blk (by simp) HA12.out)
    have HB13 := Lib.hid (kL.blk (by simp) HB12.out)
    clear kL HK12 HD12 HA12 HB12 p8 os
    have p8 := cell_of_row _ _ 8 _ _ _ HB13.out
    simp at p8
    go_wp2_with fail
    refine (CP.out _ D9 g HD13.out).mono ?_
    rintro e wM ⟨vp, rfl, op, kM⟩
    obtain ⟨pb, pcap, u0, u1, rfl, pc0, pc1, pb0, pb1⟩ := pastO_two op (by have := HTL.out.2; omega) (by simp)
    have HP := Lib.hid (And.intro pc0 (And.intro pc1 (And.intro pb0 pb1)))
    have HS14 := Lib.hid (HS13.out.keep kM (by simp))
    have HK14 := Lib.hid (HK13.out.trans kM)
    have HD14 := Lib.hid (HD13.out.keep kM (by simp))
    have HA14 := Lib.hid (kM.blk (by simp) HA13.out)
    have HB14 := Lib.hid (kM.blk (by simp) HB13.out)
    clear kM HK13 HD13 HA13 HB13 HS13 p8 op pc0 pc1 pb0 pb1 CR CP
    obtain ⟨ST, hST⟩ : ∃ ST : ByteArray, (⟨TL.toArray⟩ : ByteArray) = ST := ⟨_, rfl⟩
    obtain ⟨S0, hS0⟩ : ∃ S0 : ByteArray, (⟨Bb.toArray⟩ : ByteArray) = S0 := ⟨_, rfl⟩
    obtain ⟨S1, hS1⟩ : ∃ S1 : ByteArray, (⟨(List.replicate 96 (0 : UInt8)).toArray⟩ : ByteArray) = S1 := ⟨_, rfl⟩
    have e0 : (S0.toList == ST.toList) = true → Bb = TL := fun e => by rw [beq_iff_eq, ByteArray.toList_eq, ByteArray.toList_eq, ← hST, ← hS0] at e; simpa using e
    have e1 : (S1.toList == ST.toList) = true → List.replicate 96 0 = TL := fun e => by rw [beq_iff_eq, ByteArray.toList_eq, ByteArray.toList_eq, ← hST, ← hS1] at e; simpa using e
    obtain ⟨gv, hgv⟩ : ∃ gv : Nat → Bool, (fun k => if k = 0 then false else if k = 1 then (S0.toList == ST.toList) else (S0.toList == ST.toList) || (S1.toList == ST.toList)) = gv := ⟨_, rfl⟩
    have g0 : gv 0 = false := by rw [← hgv]; rfl
    have g1 : gv 1 = (S0.toList == ST.toList) := by rw [← hgv]; rfl
    have g2 : gv 2 = ((S0.toList == ST.toList) || (S1.toList == ST.toList)) := by rw [← hgv]; rfl
    have HG := Lib.hid (And.intro g0 (And.intro g1 g2))
    have HE := Lib.hid (And.intro e0 e1)
    have HST := Lib.hid (And.intro hST (And.intro hS0 hS1))
    clear hgv g0 g1 g2 e0 e1 hST hS0 hS1
    go_wp2
    go_loopw [12, 13] (fun gt i wr => ∃ k : Nat, k ≤ 2 ∧ i = .int .i64 (k : Int) ∧ gt = .bool (gv k) ∧ Hid (Keep [] wM wr)) (fun _ i _ => 2 - (intOf i).toNat)
    case atStart => exact ⟨0, by omega, rfl, by rw [HG.out.1], Keep.refl [] _⟩
    case round =>
      obtain ⟨k, hk2, rfl, rfl, hkr⟩ := hrel
      by_cases hlt : k < 2
      case pos =>
       as_aux_lemma =>
        rcases (by omega : k = 0 ∨ k = 1) with rfl | rfl
        · rw [HG.out.1]
          go_wp2_with fail
          refine wp_region_his [] [] (fun _ => 0) (by kernel_rfl) (by kernel_rfl) ?_
          intro wN hkN hh
          clear hh
          have c0 := fun w' (h' : Keep [] wN w') => ((hkr.out.trans hkN).trans h').cell (by simp) HP.out.1
          have s3 : ∀ w', Keep [] wN w' → Sem.run Try.prog (convert 30 9 u0) w' = .ok (.string S0) w' := fun w' h => by rw [← HST.out.2.1]; exact run_str (P := Try.prog) 30 9 5 Try.underlying30 Try.underlying5 Try.underlying9 (HP.out.2.2.1.keep ((hkr.out.trans hkN).trans h) (by simp))
          have s4 : ∀ w', Keep [] wN w' → Sem.run Try.prog (convert 30 9 vs) w' = .ok (.string ST) w' := fun w' h => by rw [← HST.out.1]; exact run_str (P := Try.prog) 30 9 5 Try.underlying30 Try.underlying5 Try.underlying9 (HS14.out.keep ((hkr.out.trans hkN).trans h) (by simp))
          have HKN := Lib.hid (hkr.out.trans hkN)
          clear hkN hkr
          (repeat (first | (refine his_q rfl rfl (fun K hK => ?_); apply Exists.intro; refine ⟨fun w' hC => ?_, ?_⟩; ((try simp [Sg.upd] at hC); go_simp <;> rfl); go_simp; refine hK _ _ ?_; clear hK K) | (refine his_s rfl (fun K hK => ?_); go_simp; refine hK _ _ ?_; clear hK K)))
          refine his_nil ?_
          clear c0 s3 s4
          go_wp2_with fail
          go_roundw
          case rel => exact ⟨1, by omega, by go_num, by rw [HG.out.2.1], HKN⟩
          case measure => simp [intOf]
        · rw [HG.out.2.1]
          by_cases hd : (S0.toList == ST.toList) = true
          · have hdd : (S0.toList == ST.toList) = true := hd
            rw [hdd]
            have HDD := Lib.hid hdd
            clear hd hdd
            go_wp2_with fail
            refine wp_region_his [] [] (fun _ => 0) (by kernel_rfl) (by kernel_rfl) ?_
            intro wN hkN hh
            clear hh
            have HKN := Lib.hid (hkr.out.trans hkN)
            clear hkN hkr
            (repeat (first | (refine his_q rfl rfl (fun K hK => ?_); apply Exists.intro; refine ⟨fun w' hC => ?_, ?_⟩; ((try simp [Sg.upd] at hC); go_simp <;> rfl); go_simp; refine hK _ _ ?_; clear hK K) | (refine his_s rfl (fun K hK => ?_); go_simp; refine hK _ _ ?_; clear hK K)))
            refine his_nil ?_
            go_wp2_with fail
            go_roundw
            case rel => exact ⟨2, by omega, by go_num, by rw [HG.out.2.2, HDD.out]; rfl, HKN⟩
            case measure => simp [intOf]
          · have hdd : (S0.toList == ST.toList) = false := by
              cases h : (S0.toList == ST.toList) with
              | true => exact absurd h hd
              | false => rfl
            rw [hdd]
            have HDD := Lib.hid hdd
            clear hd hdd
            go_wp2_with fail
            refine wp_region_his [] [] (fun _ => 0) (by kernel_rfl) (by kernel_rfl) ?_
            intro wN hkN hh
            clear hh
            have c1 := fun w' (h' : Keep [] wN w') => ((hkr.out.trans hkN).trans h').cell (by simp) HP.out.2.1
            have s3 : ∀ w', Keep [] wN w' → Sem.run Try.prog (convert 30 9 u1) w' = .ok (.string S1) w' := fun w' h => by rw [← HST.out.2.2]; exact run_str (P := Try.prog) 30 9 5 Try.underlying30 Try.underlying5 Try.underlying9 (HP.out.2.2.2.keep ((hkr.out.trans hkN).trans h) (by simp))
            have s4 : ∀ w', Keep [] wN w' → Sem.run Try.prog (convert 30 9 vs) w' = .ok (.string ST) w' := fun w' h => by rw [← HST.out.1]; exact run_str (P := Try.prog) 30 9 5 Try.underlying30 Try.underlying5 Try.underlying9 (HS14.out.keep ((hkr.out.trans hkN).trans h) (by simp))
            have HKN := Lib.hid (hkr.out.trans hkN)
            clear hkN hkr
            (repeat (first | (refine his_q rfl rfl (fun K hK => ?_); apply Exists.intro; refine ⟨fun w' hC => ?_, ?_⟩; ((try simp [Sg.upd] at hC); go_simp <;> rfl); go_simp; refine hK _ _ ?_; clear hK K) | (refine his_s rfl (fun K hK => ?_); go_simp; refine hK _ _ ?_; clear hK K)))
            refine his_nil ?_
            clear c1 s3 s4
            go_wp2_with fail
            go_roundw
            case rel => exact ⟨2, by omega, by go_num, by rw [HG.out.2.2, HDD.out]; first | rfl | (congr 1; simp), HKN⟩
            case measure => simp [intOf]
      case neg =>
      as_aux_lemma =>
        obtain rfl : k = 2 := by omega
        obtain ⟨G, hG⟩ : ∃ G, gv 2 = G := ⟨_, rfl⟩
        rw [hG]
        have hGQ : G = true → (Bb = TL ∨ List.replicate 96 0 = TL) := fun e => by
          rw [← hG, HG.out.2.2] at e
          simp only [Bool.or_eq_true, decide_eq_true_eq] at e
          exact e.imp HE.out.1 HE.out.2
        have HGQ := Lib.hid hGQ
        clear hGQ hG
        have HD15 := Lib.hid (HD14.out.keep hkr.out (by simp))
        have HA15 := Lib.hid (hkr.out.blk (by simp) HA14.out)
        have HB15 := Lib.hid (hkr.out.blk (by simp) HB14.out)
        have HK15 := Lib.hid (HK14.out.trans hkr.out)
        clear hkr HD14 HA14 HB14 HK14 HS14
        go_wp2_with fail
        refine (CL.out _ D9 g HD15.out).mono ?_
        rintro e wN ⟨rfl, kN⟩
        obtain rfl : X = ⟨pl10, gA, page, stamp, hdep, log, hreg, time⟩ := by rcases HQ.out.1 with h | h; exact h.2; cases h
        simp only [Hd.v, Hd.cells, pl10, show ((0 : Nat) : Int) = 0 from rfl]
        have kA := (Keep.refl [] wN).alloc (.cells #[.int .i64 60, .int .i64 96, .int .i64 3, .int .i64 2, .int .i64 4, .int .i64 2, .int .i64 8, .int .u64 0, .int .i64 gA, .int .i64 page, .int .i64 stamp, .int .i64 hdep, .int .i64 log, .int .i64 hreg, .int .i64 time] 123)
        have HX16 := Lib.hid (heap_alloc_new wN (.cells #[.int .i64 60, .int .i64 96, .int .i64 3, .int .i64 2, .int .i64 4, .int .i64 2, .int .i64 8, .int .u64 0, .int .i64 gA, .int .i64 page, .int .i64 stamp, .int .i64 hdep, .int .i64 log, .int .i64 hreg, .int .i64 time] 123))
        have HA16 := Lib.hid ((kN.trans kA).blk (by simp) HA15.out)
        have HB16 := Lib.hid ((kN.trans kA).blk (by simp) HB15.out)
        have HK16 := Lib.hid (HK15.out.trans (kN.trans kA))
        clear kN kA HA15 HB15 HK15 HD15
        go_wp2_with fail
        refine wp_region_his [] [17, 23, 28] (fun _ => 0) (by kernel_rfl) (by kernel_rfl) ?_
        intro wO hkO hh
        clear hh
        have x0 := fun w' (h' : Keep [] wO w') => cell_of_row w' _ 0 _ _ _ ((hkO.trans h').blk (by simp) HX16.out)
        have y0 := fun w' (h' : Keep [] wO w') => cell_of_row w' _ 0 _ _ _ ((hkO.trans h').blk (by simp) HA16.out)
        have x1 := fun w' (h' : Keep [] wO w') => cell_of_row w' _ 1 _ _ _ ((hkO.trans h').blk (by simp) HX16.out)
        have y1 := fun w' (h' : Keep [] wO w') => cell_of_row w' _ 1 _ _ _ ((hkO.trans h').blk (by simp) HA16.out)
        have x2 := fun w' (h' : Keep [] wO w') => cell_of_row w' _ 2 _ _ _ ((hkO.trans h').blk (by simp) HX16.out)
        have y2 := fun w' (h' : Keep [] wO w') => cell_of_row w' _ 2 _ _ _ ((hkO.trans h').blk (by simp) HA16.out)
        have x3 := fun w' (h' : Keep [] wO w') => cell_of_row w' _ 3 _ _ _ ((hkO.trans h').blk (by simp) HX16.out)
        have y3 := fun w' (h' : Keep [] wO w') => cell_of_row w' _ 3 _ _ _ ((hkO.trans h').blk (by simp) HA16.out)
        have x4 := fun w' (h' : Keep [] wO w') => cell_of_row w' _ 4 _ _ _ ((hkO.trans h').blk (by simp) HX16.out)
        have y4 := fun w' (h' : Keep [] wO w') => cell_of_row w' _ 4 _ _ _ ((hkO.trans h').blk (by simp) HA16.out)
        have x5 := fun w' (h' : Keep [] wO w') => cell_of_row w' _ 5 _ _ _ ((hkO.trans h').blk (by simp) HX16.out)
        have y5 := fun w' (h' : Keep [] wO w') => cell_of_row w' _ 5 _ _ _ ((hkO.trans h').blk (by simp) HA16.out)
        have x6 := fun w' (h' : Keep [] wO w') => cell_of_row w' _ 6 _ _ _ ((hkO.trans h').blk (by simp) HX16.out)
        have y6 := fun w' (h' : Keep [] wO w') => cell_of_row w' _ 6 _ _ _ ((hkO.trans h').blk (by simp) HA16.out)
        have x7 := fun w' (h' : Keep [] wO w') => cell_of_row w' _ 7 _ _ _ ((hkO.trans h').blk (by simp) HX16.out)
        have y7 := fun w' (h' : Keep [] wO w') => cell_of_row w' _ 7 _ _ _ ((hkO.trans h').blk (by simp) HA16.out)
        have x8 := fun w' (h' : Keep [] wO w') => cell_of_row w' _ 8 _ _ _ ((hkO.trans h').blk (by simp) HX16.out)
        have y8 := fun w' (h' : Keep [] wO w') => cell_of_row w' _ 8 _ _ _ ((hkO.trans h').blk (by simp) HA16.out)
        have x9 := fun w' (h' : Keep [] wO w') => cell_of_row w' _ 9 _ _ _ ((hkO.trans h').blk (by simp) HX16.out)
        have y9 := fun w' (h' : Keep [] wO w') => cell_of_row w' _ 9 _ _ _ ((hkO.trans h').blk (by simp) HA16.out)
        have x10 := fun w' (h' : Keep [] wO w') => cell_of_row w' _ 10 _ _ _ ((hkO.trans h').blk (by simp) HX16.out)
        have y10 := fun w' (h' : Keep [] wO w') => cell_of_row w' _ 10 _ _ _ ((hkO.trans h').blk (by simp) HA16.out)
        have x11 := fun w' (h' : Keep [] wO w') => cell_of_row w' _ 11 _ _ _ ((hkO.trans h').blk (by simp) HX16.out)
        have y11 := fun w' (h' : Keep [] wO w') => cell_of_row w' _ 11 _ _ _ ((hkO.trans h').blk (by simp) HA16.out)
        have x12 := fun w' (h' : Keep [] wO w') => cell_of_row w' _ 12 _ _ _ ((hkO.trans h').blk (by simp) HX16.out)
        have y12 := fun w' (h' : Keep [] wO w') => cell_of_row w' _ 12 _ _ _ ((hkO.trans h').blk (by simp) HA16.out)
        have x13 := fun w' (h' : Keep [] wO w') => cell_of_row w' _ 13 _ _ _ ((hkO.trans h').blk (by simp) HX16.out)
        have y13 := fun w' (h' : Keep [] wO w') => cell_of_row w' _ 13 _ _ _ ((hkO.trans h').blk (by simp) HA16.out)
        have x14 := fun w' (h' : Keep [] wO w') => cell_of_row w' _ 14 _ _ _ ((hkO.trans h').blk (by simp) HX16.out)
        have y14 := fun w' (h' : Keep [] wO w') => cell_of_row w' _ 14 _ _ _ ((hkO.trans h').blk (by simp) HA16.out)
        simp at x0 y0 x1 y1 x2 y2 x3 y3 x4 y4 x5 y5 x6 y6 x7 y7 x8 y8 x9 y9 x10 y10 x11 y11 x12 y12 x13 y13 x14 y14
        have HK17 := Lib.hid (HK16.out.trans hkO)
        clear hkO HK16 HX16 HA16 HB16
        cases G with
        | false =>
          (repeat (first | (refine his_q rfl rfl (fun K hK => ?_); apply Exists.intro; refine ⟨fun w' hC => ?_, ?_⟩; ((try simp [Sg.upd] at hC); go_simp <;> rfl); go_simp; refine hK _ _ ?_; clear hK K) | (refine his_s rfl (fun K hK => ?_); go_simp; refine hK _ _ ?_; clear hK K)))
          (refine his_l rfl rfl (fun K hK => ?_); go_simp)
          refine (COX.out _).mono ?_
          rintro x wP ⟨rfl, kP⟩
          refine hK _ _ kP ?_
          clear hK K
          (repeat (first | (refine his_q rfl rfl (fun K hK => ?_); apply Exists.intro; refine ⟨fun w' hC => ?_, ?_⟩; ((try simp [Sg.upd] at hC); go_simp <;> rfl); go_simp; refine hK _ _ ?_; clear hK K) | (refine his_s rfl (fun K hK => ?_); go_simp; refine hK _ _ ?_; clear hK K)))
          (refine his_l rfl rfl (fun K hK => ?_); go_simp)
          refine (awake10_any _).mono ?_
          rintro x wQ ⟨rfl, kQ⟩
          refine hK _ _ kQ ?_
          clear hK K
          (repeat (first | (refine his_q rfl rfl (fun K hK => ?_); apply Exists.intro; refine ⟨fun w' hC => ?_, ?_⟩; ((try simp [Sg.upd] at hC); go_simp <;> rfl); go_simp; refine hK _ _ ?_; clear hK K) | (refine his_s rfl (fun K hK => ?_); go_simp; refine hK _ _ ?_; clear hK K)))
          refine his_nil ?_
          clear x0 y0 x1 y1 x2 y2 x3 y3 x4 y4 x5 y5 x6 y6 x7 y7 x8 y8 x9 y9 x10 y10 x11 y11 x12 y12 x13 y13 x14 y14
          have HK18 := Lib.hid ((HK17.out.trans kP).trans kQ)
          go_wp2
          go_ret
          exact ⟨rfl, HK18.out.below (Nat.le_refl _) (by simp)⟩
        | true =>
          (repeat (first | (refine his_q rfl rfl (fun K hK => ?_); apply Exists.intro; refine ⟨fun w' hC => ?_, ?_⟩; ((try simp [Sg.upd] at hC); go_simp <;> rfl); go_simp; refine hK _ _ ?_; clear hK K) | (refine his_s rfl (fun K hK => ?_); go_simp; refine hK _ _ ?_; clear hK K)))
          (refine his_l rfl rfl (fun K hK => ?_); go_simp)
          refine (COX.out _).mono ?_
          rintro x wP ⟨rfl, kP⟩
          refine hK _ _ kP ?_
          clear hK K
          (repeat (first | (refine his_q rfl rfl (fun K hK => ?_); apply Exists.intro; refine ⟨fun w' hC => ?_, ?_⟩; ((try simp [Sg.upd] at hC); go_simp <;> rfl); go_simp; refine hK _ _ ?_; clear hK K) | (refine his_s rfl (fun K hK => ?_); go_simp; refine hK _ _ ?_; clear hK K)))
          (refine his_l rfl rfl (fun K hK => ?_); go_simp)
          refine (awake10_any _).mono ?_
          rintro x wQ ⟨rfl, kQ⟩
          refine hK _ _ kQ ?_
          clear hK K
          (repeat (first | (refine his_q rfl rfl (fun K hK => ?_); apply Exists.intro; refine ⟨fun w' hC => ?_, ?_⟩; ((try simp [Sg.upd] at hC); go_simp <;> rfl); go_simp; refine hK _ _ ?_; clear hK K) | (refine his_s rfl (fun K hK => ?_); go_simp; refine hK _ _ ?_; clear hK K)))
          refine his_nil ?_
          clear x0 y0 x1 y1 x2 y2 x3 y3 x4 y4 x5 y5 x6 y6 x7 y7 x8 y8 x9 y9 x10 y10 x11 y11 x12 y12 x13 y13 x14 y14
          have HK18 := Lib.hid ((HK17.out.trans kP).trans kQ)
          go_wp2
          go_ret
          exact ⟨rfl, HK18.out.below (Nat.le_refl _) (by simp)⟩
  | some y =>
   as_aux_lemma =>
    have hc0 : ∃ blk cap, v = .slice (some ⟨blk, 0, none⟩) 2 cap ∧ ∀ (j : Nat) (y : Value), (Hd.cells ⟨pl10, gA, page, stamp, hdep, log, hreg, time⟩)[j]? = some y → wI.cell? ⟨blk, 1 * 15 + j, none⟩ = some y := hrow.cells (i := 1) (x := ⟨pl10, gA, page, stamp, hdep, log, hreg, time⟩) rfl
    obtain ⟨blk, cap, rfl, hc'⟩ := hc0
    simp only [Hd.cells, pl10, show ((0 : Nat) : Int) = 0 from rfl] at hc'
    have HC := Lib.hid hc'
    clear hrow hc'
    go_wp2_with fail
    have wz0 : IntKind.i64.wrap 0 = 0 := by decide
    have wz1 : IntKind.i64.wrap 1 = 1 := by decide
    refine wp_region_his [] [11] (fun _ => 0) (by kernel_rfl) (by kernel_rfl) ?_
    intro wJ hkJ hh
    clear hh
    have x0 := fun w' (h' : Keep [] wJ w') => (hkJ.trans h').cell (by simp) (HC.out 0 (.int .i64 60) rfl)
    have y0 := fun w' (h' : Keep [] wJ w') => cell_of_row w' _ 0 _ _ _ ((hkJ.trans h').blk (by simp) HA10.out)
    have x1 := fun w' (h' : Keep [] wJ w') => (hkJ.trans h').cell (by simp) (HC.out 1 (.int .i64 96) rfl)
    have y1 := fun w' (h' : Keep [] wJ w') => cell_of_row w' _ 1 _ _ _ ((hkJ.trans h').blk (by simp) HA10.out)
    have x2 := fun w' (h' : Keep [] wJ w') => (hkJ.trans h').cell (by simp) (HC.out 2 (.int .i64 3) rfl)
    have y2 := fun w' (h' : Keep [] wJ w') => cell_of_row w' _ 2 _ _ _ ((hkJ.trans h').blk (by simp) HA10.out)
    have x3 := fun w' (h' : Keep [] wJ w') => (hkJ.trans h').cell (by simp) (HC.out 3 (.int .i64 2) rfl)
    have y3 := fun w' (h' : Keep [] wJ w') => cell_of_row w' _ 3 _ _ _ ((hkJ.trans h').blk (by simp) HA10.out)
    have x4 := fun w' (h' : Keep [] wJ w') => (hkJ.trans h').cell (by simp) (HC.out 4 (.int .i64 4) rfl)
    have y4 := fun w' (h' : Keep [] wJ w') => cell_of_row w' _ 4 _ _ _ ((hkJ.trans h').blk (by simp) HA10.out)
    have x5 := fun w' (h' : Keep [] wJ w') => (hkJ.trans h').cell (by simp) (HC.out 5 (.int .i64 2) rfl)
    have y5 := fun w' (h' : Keep [] wJ w') => cell_of_row w' _ 5 _ _ _ ((hkJ.trans h').blk (by simp) HA10.out)
    have x6 := fun w' (h' : Keep [] wJ w') => (hkJ.trans h').cell (by simp) (HC.out 6 (.int .i64 8) rfl)
    have y6 := fun w' (h' : Keep [] wJ w') => cell_of_row w' _ 6 _ _ _ ((hkJ.trans h').blk (by simp) HA10.out)
    have x7 := fun w' (h' : Keep [] wJ w') => (hkJ.trans h').cell (by simp) (HC.out 7 (.int .u64 0) rfl)
    have y7 := fun w' (h' : Keep [] wJ w') => cell_of_row w' _ 7 _ _ _ ((hkJ.trans h').blk (by simp) HA10.out)
    have x8 := fun w' (h' : Keep [] wJ w') => (hkJ.trans h').cell (by simp) (HC.out 8 (.int .i64 gA) rfl)
    have y8 := fun w' (h' : Keep [] wJ w') => cell_of_row w' _ 8 _ _ _ ((hkJ.trans h').blk (by simp) HA10.out)
    have x9 := fun w' (h' : Keep [] wJ w') => (hkJ.trans h').cell (by simp) (HC.out 9 (.int .i64 page) rfl)
    have y9 := fun w' (h' : Keep [] wJ w') => cell_of_row w' _ 9 _ _ _ ((hkJ.trans h').blk (by simp) HA10.out)
    have x10 := fun w' (h' : Keep [] wJ w') => (hkJ.trans h').cell (by simp) (HC.out 10 (.int .i64 stamp) rfl)
    have y10 := fun w' (h' : Keep [] wJ w') => cell_of_row w' _ 10 _ _ _ ((hkJ.trans h').blk (by simp) HA10.out)
    have x11 := fun w' (h' : Keep [] wJ w') => (hkJ.trans h').cell (by simp) (HC.out 11 (.int .i64 hdep) rfl)
    have y11 := fun w' (h' : Keep [] wJ w') => cell_of_row w' _ 11 _ _ _ ((hkJ.trans h').blk (by simp) HA10.out)
    have x12 := fun w' (h' : Keep [] wJ w') => (hkJ.trans h').cell (by simp) (HC.out 12 (.int .i64 log) rfl)
    have y12 := fun w' (h' : Keep [] wJ w') => cell_of_row w' _ 12 _ _ _ ((hkJ.trans h').blk (by simp) HA10.out)
    have x13 := fun w' (h' : Keep [] wJ w') => (hkJ.trans h').cell (by simp) (HC.out 13 (.int .i64 hreg) rfl)
    have y13 := fun w' (h' : Keep [] wJ w') => cell_of_row w' _ 13 _ _ _ ((hkJ.trans h').blk (by simp) HA10.out)
    have x14 := fun w' (h' : Keep [] wJ w') => (hkJ.trans h').cell (by simp) (HC.out 14 (.int .i64 time) rfl)
    have y14 := fun w' (h' : Keep [] wJ w') => cell_of_row w' _ 14 _ _ _ ((hkJ.trans h').blk (by simp) HA10.out)
    simp only [Nat.zero_mul, Nat.one_mul, Nat.reduceMul, Nat.reduceAdd, Nat.zero_add, Nat.add_zero] at x0 x1 x2 x3 x4 x5 x6 x7 x8 x9 x10 x11 x12 x13 x14
    simp at y0 y1 y2 y3 y4 y5 y6 y7 y8 y9 y10 y11 y12 y13 y14
    have HK11 := Lib.hid (HK10.out.trans hkJ)
    have HD11 := Lib.hid (HD10.out.keep hkJ (by simp))
    have HA11 := Lib.hid (hkJ.blk (by simp) HA10.out)
    have HB11 := Lib.hid (hkJ.blk (by simp) HB10.out)
    clear hkJ HD10 HA10 HB10 HK10 HC
    (repeat (first | (refine his_q rfl rfl (fun K hK => ?_); apply Exists.intro; refine ⟨fun w' hC => ?_, ?_⟩; ((try simp [Sg.upd] at hC); go_simp <;> rfl); go_simp; refine hK _ _ ?_; clear hK K) | (refine his_s rfl (fun K hK => ?_); go_simp; refine hK _ _ ?_; clear hK K)))
    (refine his_l rfl rfl (fun K hK => ?_); go_simp)
    refine (COX.out _).mono ?_
    rintro x wK ⟨rfl, kK⟩
    refine hK _ _ kK ?_
    clear hK K
    (repeat (first | (refine his_q rfl rfl (fun K hK => ?_); apply Exists.intro; refine ⟨fun w' hC => ?_, ?_⟩; ((try simp [Sg.upd] at hC); go_simp <;> rfl); go_simp; refine hK _ _ ?_; clear hK K) | (refine his_s rfl (fun K hK => ?_); go_simp; refine hK _ _ ?_; clear hK K)))
    refine his_nil ?_
    clear x0 x1 x2 x3 x4 x5 x6 x7 x8 x9 x10 x11 x12 x13 x14 y0 y1 y2 y3 y4 y5 y6 y7 y8 y9 y10 y11 y12 y13 y14
    have HK12 := Lib.hid (HK11.out.trans kK)
    have HD12 := Lib.hid (HD11.out.keep kK (by simp))
    have HA12 := Lib.hid (kK.blk (by simp) HA11.out)
    have HB12 := Lib.hid (kK.blk (by simp) HB11.out)
    clear kK HK11 HD11 HA11 HB11
    have p8 := cell_of_row _ _ 8 _ _ _ HB12.out
    simp at p8
    go_wp2_with fail
    refine (CR.out _ D9 g HD12.out).mono ?_
    rintro e wL ⟨vs, rfl, os, kL⟩
    have HS13 := Lib.hid (os.bytes (by have := HTL.out.1; omega))
    have HK13 := Lib.hid (HK12.out.trans kL)
    have HD13 := Lib.hid (HD12.out.keep kL (by simp))
    have HA13 := Lib.hid (kL.blk (by simp) HA12.out)
    have HB13 := Lib.hid (kL.blk (by simp) HB12.out)
    clear kL HK12 HD12 HA12 HB12 p8 os
    have p8 := cell_of_row _ _ 8 _ _ _ HB13.out
    simp at p8
    go_wp2_with fail
    refine (CP.out _ D9 g HD13.out).mono ?_
    rintro e wM ⟨vp, rfl, op, kM⟩
    obtain ⟨pb, pcap, u0, u1, rfl, pc0, pc1, pb0, pb1⟩ := pastO_two op (by have := HTL.out.2; omega) (by simp)
    have HP := Lib.hid (And.intro pc0 (And.intro pc1 (And.intro pb0 pb1)))
    have HS14 := Lib.hid (HS13.out.keep kM (by simp))
    have HK14 := Lib.hid (HK13.out.trans kM)
    have HD14 := Lib.hid (HD13.out.keep kM (by simp))
    have HA14 := Lib.hid (kM.blk (by simp) HA13.out)
    have HB14 := Lib.hid (kM.blk (by simp) HB13.out)
    clear kM HK13 HD13 HA13 HB13 HS13 p8 op pc0 pc1 pb0 pb1 CR CP
    obtain ⟨ST, hST⟩ : ∃ ST : ByteArray, (⟨TL.toArray⟩ : ByteArray) = ST := ⟨_, rfl⟩
    obtain ⟨S0, hS0⟩ : ∃ S0 : ByteArray, (⟨Bb.toArray⟩ : ByteArray) = S0 := ⟨_, rfl⟩
    obtain ⟨S1, hS1⟩ : ∃ S1 : ByteArray, (⟨(List.replicate 96 (0 : UInt8)).toArray⟩ : ByteArray) = S1 := ⟨_, rfl⟩
    have e0 : (S0.toList == ST.toList) = true → Bb = TL := fun e => by rw [beq_iff_eq, ByteArray.toList_eq, ByteArray.toList_eq, ← hST, ← hS0] at e; simpa using e
    have e1 : (S1.toList == ST.toList) = true → List.replicate 96 0 = TL := fun e => by rw [beq_iff_eq, ByteArray.toList_eq, ByteArray.toList_eq, ← hST, ← hS1] at e; simpa using e
    obtain ⟨gv, hgv⟩ : ∃ gv : Nat → Bool, (fun k => if k = 0 then false else if k = 1 then (S0.toList == ST.toList) else (S0.toList == ST.toList) || (S1.toList == ST.toList)) = gv := ⟨_, rfl⟩
    have g0 : gv 0 = false := by rw [← hgv]; rfl
    have g1 : gv 1 = (S0.toList == ST.toList) := by rw [← hgv]; rfl
    have g2 : gv 2 = ((S0.toList == ST.toList) || (S1.toList == ST.toList)) := by rw [← hgv]; rfl
    have HG := Lib.hid (And.intro g0 (And.intro g1 g2))
    have HE := Lib.hid (And.intro e0 e1)
    have HST := Lib.hid (And.intro hST (And.intro hS0 hS1))
    clear hgv g0 g1 g2 e0 e1 hST hS0 hS1
    go_wp2
    go_loopw [12, 13] (fun gt i wr => ∃ k : Nat, k ≤ 2 ∧ i = .int .i64 (k : Int) ∧ gt = .bool (gv k) ∧ Hid (Keep [] wM wr)) (fun _ i _ => 2 - (intOf i).toNat)
    case atStart => exact ⟨0, by omega, rfl, by rw [HG.out.1], Keep.refl [] _⟩
    case round =>
      obtain ⟨k, hk2, rfl, rfl, hkr⟩ := hrel
      by_cases hlt : k < 2
      case pos =>
       as_aux_lemma =>
        rcases (by omega : k = 0 ∨ k = 1) with rfl | rfl
        · rw [HG.out.1]
          go_wp2_with fail
          refine wp_region_his [] [] (fun _ => 0) (by kernel_rfl) (by kernel_rfl) ?_
          intro wN hkN hh
          clear hh
          have c0 := fun w' (h' : Keep [] wN w') => ((hkr.out.trans hkN).trans h').cell (by simp) HP.out.1
          have s3 : ∀ w', Keep [] wN w' → Sem.run Try.prog (convert 30 9 u0) w' = .ok (.string S0) w' := fun w' h => by rw [← HST.out.2.1]; exact run_str (P := Try.prog) 30 9 5 Try.underlying30 Try.underlying5 Try.underlying9 (HP.out.2.2.1.keep ((hkr.out.trans hkN).trans h) (by simp))
          have s4 : ∀ w', Keep [] wN w' → Sem.run Try.prog (convert 30 9 vs) w' = .ok (.string ST) w' := fun w' h => by rw [← HST.out.1]; exact run_str (P := Try.prog) 30 9 5 Try.underlying30 Try.underlying5 Try.underlying9 (HS14.out.keep ((hkr.out.trans hkN).trans h) (by simp))
          have HKN := Lib.hid (hkr.out.trans hkN)
          clear hkN hkr
          (repeat (first | (refine his_q rfl rfl (fun K hK => ?_); apply Exists.intro; refine ⟨fun w' hC => ?_, ?_⟩; ((try simp [Sg.upd] at hC); go_simp <;> rfl); go_simp; refine hK _ _ ?_; clear hK K) | (refine his_s rfl (fun K hK => ?_); go_simp; refine hK _ _ ?_; clear hK K)))
          refine his_nil ?_
          clear c0 s3 s4
          go_wp2_with fail
          go_roundw
          case rel => exact ⟨1, by omega, by go_num, by rw [HG.out.2.1], HKN⟩
          case measure => simp [intOf]
        · rw [HG.out.2.1]
          by_cases hd : (S0.toList == ST.toList) = true
          · have hdd : (S0.toList == ST.toList) = true := hd
            rw [hdd]
            have HDD := Lib.hid hdd
            clear hd hdd
            go_wp2_with fail
            refine wp_region_his [] [] (fun _ => 0) (by kernel_rfl) (by kernel_rfl) ?_
            intro wN hkN hh
            clear hh
            have HKN := Lib.hid (hkr.out.trans hkN)
            clear hkN hkr
            (repeat (first | (refine his_q rfl rfl (fun K hK => ?_); apply Exists.intro; refine ⟨fun w' hC => ?_, ?_⟩; ((try simp [Sg.upd] at hC); go_simp <;> rfl); go_simp; refine hK _ _ ?_; clear hK K) | (refine his_s rfl (fun K hK => ?_); go_simp; refine hK _ _ ?_; clear hK K)))
            refine his_nil ?_
            go_wp2_with fail
            go_roundw
            case rel => exact ⟨2, by omega, by go_num, by rw [HG.out.2.2, HDD.out]; rfl, HKN⟩
            case measure => simp [intOf]
          · have hdd : (S0.toList == ST.toList) = false := by
              cases h : (S0.toList == ST.toList) with
              | true => exact absurd h hd
              | false => rfl
            rw [hdd]
            have HDD := Lib.hid hdd
            clear hd hdd
            go_wp2_with fail
            refine wp_region_his [] [] (fun _ => 0) (by kernel_rfl) (by kernel_rfl) ?_
            intro wN hkN hh
            clear hh
            have c1 := fun w' (h' : Keep [] wN w') => ((hkr.out.trans hkN).trans h').cell (by simp) HP.out.2.1
            have s3 : ∀ w', Keep [] wN w' → Sem.run Try.prog (convert 30 9 u1) w' = .ok (.string S1) w' := fun w' h => by rw [← HST.out.2.2]; exact run_str (P := Try.prog) 30 9 5 Try.underlying30 Try.underlying5 Try.underlying9 (HP.out.2.2.2.keep ((hkr.out.trans hkN).trans h) (by simp))
            have s4 : ∀ w', Keep [] wN w' → Sem.run Try.prog (convert 30 9 vs) w' = .ok (.string ST) w' := fun w' h => by rw [← HST.out.1]; exact run_str (P := Try.prog) 30 9 5 Try.underlying30 Try.underlying5 Try.underlying9 (HS14.out.keep ((hkr.out.trans hkN).trans h) (by simp))
            have HKN := Lib.hid (hkr.out.trans hkN)
            clear hkN hkr
            (repeat (first | (refine his_q rfl rfl (fun K hK => ?_); apply Exists.intro; refine ⟨fun w' hC => ?_, ?_⟩; ((try simp [Sg.upd] at hC); go_simp <;> rfl); go_simp; refine hK _ _ ?_; clear hK K) | (refine his_s rfl (fun K hK => ?_); go_simp; refine hK _ _ ?_; clear hK K)))
            refine his_nil ?_
            clear c1 s3 s4
            go_wp2_with fail
            go_roundw
            case rel => exact ⟨2, by omega, by go_num, by rw [HG.out.2.2, HDD.out]; first | rfl | (congr 1; simp), HKN⟩
            case measure => simp [intOf]
      case neg =>
      as_aux_lemma =>
        obtain rfl : k = 2 := by omega
        obtain ⟨G, hG⟩ : ∃ G, gv 2 = G := ⟨_, rfl⟩
        rw [hG]
        have hGQ : G = true → (Bb = TL ∨ List.replicate 96 0 = TL) := fun e => by
          rw [← hG, HG.out.2.2] at e
          simp only [Bool.or_eq_true, decide_eq_true_eq] at e
          exact e.imp HE.out.1 HE.out.2
        have HGQ := Lib.hid hGQ
        clear hGQ hG
        have HD15 := Lib.hid (HD14.out.keep hkr.out (by simp))
        have HA15 := Lib.hid (hkr.out.blk (by simp) HA14.out)
        have HB15 := Lib.hid (hkr.out.blk (by simp) HB14.out)
        have HK15 := Lib.hid (HK14.out.trans hkr.out)
        clear hkr HD14 HA14 HB14 HK14 HS14
        go_wp2_with fail
        refine (CL.out _ D9 g HD15.out).mono ?_
        rintro e wN ⟨rfl, kN⟩
        obtain rfl : X = y := by rcases HQ.out.1 with h | h; exact absurd h.1 (by simp); exact (Option.some.inj h).symm
        have HQ2 := Lib.hid (fun e => by rcases HQ.out.2 e with h | h; exact absurd h (by simp); exact Option.some.inj h : (Bb = TL ∨ List.replicate 96 0 = TL) → X = ⟨pl10, gB, pageb, stampb, hdepb, logb, hregb, timeb⟩)
        clear HQ
        cases G with
        | false =>
          obtain ⟨⟨secx, sizex, regx, rsx, lgx, depx, memx, seedx⟩, genx, pagex, stampx, hdepx, logx, hregx, timex⟩ := X
          simp only [Hd.v, Hd.cells]
          have kA := (Keep.refl [] wN).alloc (.cells #[.int .i64 secx, .int .i64 sizex, .int .i64 regx, .int .i64 rsx, .int .i64 lgx, .int .i64 depx, .int .i64 memx, .int .u64 (seedx : Int), .int .i64 genx, .int .i64 pagex, .int .i64 stampx, .int .i64 hdepx, .int .i64 logx, .int .i64 hregx, .int .i64 timex] 123)
          have HX16 := Lib.hid (heap_alloc_new wN (.cells #[.int .i64 secx, .int .i64 sizex, .int .i64 regx, .int .i64 rsx, .int .i64 lgx, .int .i64 depx, .int .i64 memx, .int .u64 (seedx : Int), .int .i64 genx, .int .i64 pagex, .int .i64 stampx, .int .i64 hdepx, .int .i64 logx, .int .i64 hregx, .int .i64 timex] 123))
          have HA16 := Lib.hid ((kN.trans kA).blk (by simp) HA15.out)
          have HB16 := Lib.hid ((kN.trans kA).blk (by simp) HB15.out)
          have HK16 := Lib.hid (HK15.out.trans (kN.trans kA))
          clear kN kA HA15 HB15 HK15 HD15
          go_wp2_with fail
          refine wp_region_his [] [17, 23, 28] (fun _ => 0) (by kernel_rfl) (by kernel_rfl) ?_
          intro wO hkO hh
          clear hh
          have HK17 := Lib.hid (HK16.out.trans hkO)
          clear hkO HK16 HX16 HA16 HB16
          (repeat (first | (refine his_q rfl rfl (fun K hK => ?_); apply Exists.intro; refine ⟨fun w' hC => ?_, ?_⟩; ((try simp [Sg.upd] at hC); go_simp <;> rfl); go_simp; refine hK _ _ ?_; clear hK K) | (refine his_s rfl (fun K hK => ?_); go_simp; refine hK _ _ ?_; clear hK K)))
          (refine his_l rfl rfl (fun K hK => ?_); go_simp)
          refine (awake10_any _).mono ?_
          rintro x wQ ⟨rfl, kQ⟩
          refine hK _ _ kQ ?_
          clear hK K
          (repeat (first | (refine his_q rfl rfl (fun K hK => ?_); apply Exists.intro; refine ⟨fun w' hC => ?_, ?_⟩; ((try simp [Sg.upd] at hC); go_simp <;> rfl); go_simp; refine hK _ _ ?_; clear hK K) | (refine his_s rfl (fun K hK => ?_); go_simp; refine hK _ _ ?_; clear hK K)))
          refine his_nil ?_
          have HK18 := Lib.hid (HK17.out.trans kQ)
          go_wp2
          go_ret
          exact ⟨rfl, HK18.out.below (Nat.le_refl _) (by simp)⟩
        | true =>
          obtain rfl : X = ⟨pl10, gB, pageb, stampb, hdepb, logb, hregb, timeb⟩ := HQ2.out (HGQ.out rfl)
          have hne : (gB == gA) = false := by
            have h2 : gB = gA + 1 := HIN.out.2.2.1
            simp
            omega
          have hne2 : ¬ gB = gA := by
            have h2 : gB = gA + 1 := HIN.out.2.2.1
            omega
          simp only [Hd.v, Hd.cells, pl10, show ((0 : Nat) : Int) = 0 from rfl]
          have kA := (Keep.refl [] wN).alloc (.cells #[.int .i64 60, .int .i64 96, .int .i64 3, .int .i64 2, .int .i64 4, .int .i64 2, .int .i64 8, .int .u64 0, .int .i64 gB, .int .i64 pageb, .int .i64 stampb, .int .i64 hdepb, .int .i64 logb, .int .i64 hregb, .int .i64 timeb] 123)
          have HX16 := Lib.hid (heap_alloc_new wN (.cells #[.int .i64 60, .int .i64 96, .int .i64 3, .int .i64 2, .int .i64 4, .int .i64 2, .int .i64 8, .int .u64 0, .int .i64 gB, .int .i64 pageb, .int .i64 stampb, .int .i64 hdepb, .int .i64 logb, .int .i64 hregb, .int .i64 timeb] 123))
          have HA16 := Lib.hid ((kN.trans kA).blk (by simp) HA15.out)
          have HB16 := Lib.hid ((kN.trans kA).blk (by simp) HB15.out)
          have HK16 := Lib.hid (HK15.out.trans (kN.trans kA))
          clear kN kA HA15 HB15 HK15 HD15
          go_wp2_with fail
          refine wp_region_his [] [17, 23, 28] (fun _ => 0) (by kernel_rfl) (by kernel_rfl) ?_
          intro wO hkO hh
          clear hh
          have x0 := fun w' (h' : Keep [] wO w') => cell_of_row w' _ 0 _ _ _ ((hkO.trans h').blk (by simp) HX16.out)
          have y0 := fun w' (h' : Keep [] wO w') => cell_of_row w' _ 0 _ _ _ ((hkO.trans h').blk (by simp) HA16.out)
          have z0 := fun w' (h' : Keep [] wO w') => cell_of_row w' _ 0 _ _ _ ((hkO.trans h').blk (by simp) HB16.out)
          have x1 := fun w' (h' : Keep [] wO w') => cell_of_row w' _ 1 _ _ _ ((hkO.trans h').blk (by simp) HX16.out)
          have y1 := fun w' (h' : Keep [] wO w') => cell_of_row w' _ 1 _ _ _ ((hkO.trans h').blk (by simp) HA16.out)
          have z1 := fun w' (h' : Keep [] wO w') => cell_of_row w' _ 1 _ _ _ ((hkO.trans h').blk (by simp) HB16.out)
          have x2 := fun w' (h' : Keep [] wO w') => cell_of_row w' _ 2 _ _ _ ((hkO.trans h').blk (by simp) HX16.out)
          have y2 := fun w' (h' : Keep [] wO w') => cell_of_row w' _ 2 _ _ _ ((hkO.trans h').blk (by simp) HA16.out)
          have z2 := fun w' (h' : Keep [] wO w') => cell_of_row w' _ 2 _ _ _ ((hkO.trans h').blk (by simp) HB16.out)
          have x3 := fun w' (h' : Keep [] wO w') => cell_of_row w' _ 3 _ _ _ ((hkO.trans h').blk (by simp) HX16.out)
          have y3 := fun w' (h' : Keep [] wO w') => cell_of_row w' _ 3 _ _ _ ((hkO.trans h').blk (by simp) HA16.out)
          have z3 := fun w' (h' : Keep [] wO w') => cell_of_row w' _ 3 _ _ _ ((hkO.trans h').blk (by simp) HB16.out)
          have x4 := fun w' (h' : Keep [] wO w') => cell_of_row w' _ 4 _ _ _ ((hkO.trans h').blk (by simp) HX16.out)
          have y4 := fun w' (h' : Keep [] wO w') => cell_of_row w' _ 4 _ _ _ ((hkO.trans h').blk (by simp) HA16.out)
          have z4 := fun w' (h' : Keep [] wO w') => cell_of_row w' _ 4 _ _ _ ((hkO.trans h').blk (by simp) HB16.out)
          have x5 := fun w' (h' : Keep [] wO w') => cell_of_row w' _ 5 _ _ _ ((hkO.trans h').blk (by simp) HX16.out)
          have y5 := fun w' (h' : Keep [] wO w') => cell_of_row w' _ 5 _ _ _ ((hkO.trans h').blk (by simp) HA16.out)
          have z5 := fun w' (h' : Keep [] wO w') => cell_of_row w' _ 5 _ _ _ ((hkO.trans h').blk (by simp) HB16.out)
          have x6 := fun w' (h' : Keep [] wO w') => cell_of_row w' _ 6 _ _ _ ((hkO.trans h').blk (by simp) HX16.out)
          have y6 := fun w' (h' : Keep [] wO w') => cell_of_row w' _ 6 _ _ _ ((hkO.trans h').blk (by simp) HA16.out)
          have z6 := fun w' (h' : Keep [] wO w') => cell_of_row w' _ 6 _ _ _ ((hkO.trans h').blk (by simp) HB16.out)
          have x7 := fun w' (h' : Keep [] wO w') => cell_of_row w' _ 7 _ _ _ ((hkO.trans h').blk (by simp) HX16.out)
          have y7 := fun w' (h' : Keep [] wO w') => cell_of_row w' _ 7 _ _ _ ((hkO.trans h').blk (by simp) HA16.out)
          have z7 := fun w' (h' : Keep [] wO w') => cell_of_row w' _ 7 _ _ _ ((hkO.trans h').blk (by simp) HB16.out)
          have x8 := fun w' (h' : Keep [] wO w') => cell_of_row w' _ 8 _ _ _ ((hkO.trans h').blk (by simp) HX16.out)
          have y8 := fun w' (h' : Keep [] wO w') => cell_of_row w' _ 8 _ _ _ ((hkO.trans h').blk (by simp) HA16.out)
          have z8 := fun w' (h' : Keep [] wO w') => cell_of_row w' _ 8 _ _ _ ((hkO.trans h').blk (by simp) HB16.out)
          have x9 := fun w' (h' : Keep [] wO w') => cell_of_row w' _ 9 _ _ _ ((hkO.trans h').blk (by simp) HX16.out)
          have y9 := fun w' (h' : Keep [] wO w') => cell_of_row w' _ 9 _ _ _ ((hkO.trans h').blk (by simp) HA16.out)
          have z9 := fun w' (h' : Keep [] wO w') => cell_of_row w' _ 9 _ _ _ ((hkO.trans h').blk (by simp) HB16.out)
          have x10 := fun w' (h' : Keep [] wO w') => cell_of_row w' _ 10 _ _ _ ((hkO.trans h').blk (by simp) HX16.out)
          have y10 := fun w' (h' : Keep [] wO w') => cell_of_row w' _ 10 _ _ _ ((hkO.trans h').blk (by simp) HA16.out)
          have z10 := fun w' (h' : Keep [] wO w') => cell_of_row w' _ 10 _ _ _ ((hkO.trans h').blk (by simp) HB16.out)
          have x11 := fun w' (h' : Keep [] wO w') => cell_of_row w' _ 11 _ _ _ ((hkO.trans h').blk (by simp) HX16.out)
          have y11 := fun w' (h' : Keep [] wO w') => cell_of_row w' _ 11 _ _ _ ((hkO.trans h').blk (by simp) HA16.out)
          have z11 := fun w' (h' : Keep [] wO w') => cell_of_row w' _ 11 _ _ _ ((hkO.trans h').blk (by simp) HB16.out)
          have x12 := fun w' (h' : Keep [] wO w') => cell_of_row w' _ 12 _ _ _ ((hkO.trans h').blk (by simp) HX16.out)
          have y12 := fun w' (h' : Keep [] wO w') => cell_of_row w' _ 12 _ _ _ ((hkO.trans h').blk (by simp) HA16.out)
          have z12 := fun w' (h' : Keep [] wO w') => cell_of_row w' _ 12 _ _ _ ((hkO.trans h').blk (by simp) HB16.out)
          have x13 := fun w' (h' : Keep [] wO w') => cell_of_row w' _ 13 _ _ _ ((hkO.trans h').blk (by simp) HX16.out)
          have y13 := fun w' (h' : Keep [] wO w') => cell_of_row w' _ 13 _ _ _ ((hkO.trans h').blk (by simp) HA16.out)
          have z13 := fun w' (h' : Keep [] wO w') => cell_of_row w' _ 13 _ _ _ ((hkO.trans h').blk (by simp) HB16.out)
          have x14 := fun w' (h' : Keep [] wO w') => cell_of_row w' _ 14 _ _ _ ((hkO.trans h').blk (by simp) HX16.out)
          have y14 := fun w' (h' : Keep [] wO w') => cell_of_row w' _ 14 _ _ _ ((hkO.trans h').blk (by simp) HA16.out)
          have z14 := fun w' (h' : Keep [] wO w') => cell_of_row w' _ 14 _ _ _ ((hkO.trans h').blk (by simp) HB16.out)
          simp at x0 y0 z0 x1 y1 z1 x2 y2 z2 x3 y3 z3 x4 y4 z4 x5 y5 z5 x6 y6 z6 x7 y7 z7 x8 y8 z8 x9 y9 z9 x10 y10 z10 x11 y11 z11 x12 y12 z12 x13 y13 z13 x14 y14 z14
          have HK17 := Lib.hid (HK16.out.trans hkO)
          clear hkO HK16 HX16 HA16 HB16
          (repeat (first | (refine his_q rfl rfl (fun K hK => ?_); apply Exists.intro; refine ⟨fun w' hC => ?_, ?_⟩; ((try simp [Sg.upd] at hC); go_simp <;> rfl); go_simp; refine hK _ _ ?_; clear hK K) | (refine his_s rfl (fun K hK => ?_); go_simp; refine hK _ _ ?_; clear hK K)))
          (refine his_l rfl rfl (fun K hK => ?_); go_simp)
          refine (COX.out _).mono ?_
          rintro x wP ⟨rfl, kP⟩
          refine hK _ _ kP ?_
          clear hK K
          (repeat (first | (refine his_q rfl rfl (fun K hK => ?_); apply Exists.intro; refine ⟨fun w' hC => ?_, ?_⟩; ((try simp [Sg.upd] at hC); go_simp <;> rfl); go_simp; refine hK _ _ ?_; clear hK K) | (refine his_s rfl (fun K hK => ?_); go_simp; refine hK _ _ ?_; clear hK K)))
          (refine his_l rfl rfl (fun K hK => ?_); go_simp)
          refine (COY.out _).mono ?_
          rintro x wP2 ⟨rfl, kP2⟩
          refine hK _ _ kP2 ?_
          clear hK K
          (repeat (first | (refine his_q rfl rfl (fun K hK => ?_); apply Exists.intro; refine ⟨fun w' hC => ?_, ?_⟩; ((try simp [Sg.upd] at hC); go_simp <;> rfl); go_simp; refine hK _ _ ?_; clear hK K) | (refine his_s rfl (fun K hK => ?_); go_simp; refine hK _ _ ?_; clear hK K)))
          (refine his_l rfl rfl (fun K hK => ?_); go_simp)
          refine (awake10_any _).mono ?_
          rintro x wQ ⟨rfl, kQ⟩
          refine hK _ _ kQ ?_
          clear hK K
          (repeat (first | (refine his_q rfl rfl (fun K hK => ?_); apply Exists.intro; refine ⟨fun w' hC => ?_, ?_⟩; ((try simp [Sg.upd] at hC); go_simp <;> rfl); go_simp; refine hK _ _ ?_; clear hK K) | (refine his_s rfl (fun K hK => ?_); go_simp; refine hK _ _ ?_; clear hK K)))
          refine his_nil ?_
          clear x0 y0 z0 x1 y1 z1 x2 y2 z2 x3 y3 z3 x4 y4 z4 x5 y5 z5 x6 y6 z6 x7 y7 z7 x8 y8 z8 x9 y9 z9 x10 y10 z10 x11 y11 z11 x12 y12 z12 x13 y13 z13 x14 y14 z14
          have HK18 := Lib.hid (((HK17.out.trans kP).trans kP2).trans kQ)
          go_wp2
          go_ret
          exact ⟨rfl, HK18.out.below (Nat.le_refl _) (by simp)⟩
end Go.Proofs.Ytijljdcpajjhhaa
