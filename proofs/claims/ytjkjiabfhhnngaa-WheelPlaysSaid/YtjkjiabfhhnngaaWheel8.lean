import Derived.Test.YtjkjiabfhhnngaaWheel7
/-! Wheel's Go. -/
namespace Sg
open Go Go.RowKit
theorem span_take {α : Type} (P : α → Bool) : ∀ (l : List α) (j : Nat), j ≤ l.length → (∀ x ∈ l.take j, P x = true) → (∀ x, (l.drop j).head? = some x → P x = false) → l.takeWhile P = l.take j ∧ l.dropWhile P = l.drop j
  | [], j, hj, _, _ => by simp at hj; subst hj; simp
  | y :: l, 0, _, _, h => by
    have := h y rfl
    simp [this]
  | y :: l, j + 1, hj, h1, h2 => by
    have hy : P y = true := h1 y (by simp)
    obtain ⟨e1, e2⟩ := span_take P l j (by simp at hj; omega) (fun x hx => h1 x (by simp [hx])) (fun x hx => h2 x (by simpa using hx))
    simp [hy, e1, e2]
end Sg

namespace Go.Proofs.Ytjkjiabfhhnngaa
open Go.RowKit Go.Shelf Sg
set_option linter.unusedSimpArgs false
set_option linter.unusedVariables false

theorem headV_two (l : List (Int × Nat)) : ∃ x y : Int, headV l = #[.int .i64 x, .int .i64 y] := by
  cases l with
  | nil => exact ⟨0, 0, rfl⟩
  | cons p l => exact ⟨_, _, rfl⟩
theorem headV_cons (p : Int × Nat) (l : List (Int × Nat)) : headV (p :: l) = #[.int .i64 p.1, .int .i64 (p.2 : Int)] := rfl
theorem drop_head {p : Int × Nat} {l : List (Int × Nat)} (h : ((p :: l).map (·.1)).Nodup) : dropD p.1 (p :: l) = l := by
  unfold dropD
  rw [List.filter_cons, if_neg (by simp), List.filter_eq_self]
  intro q hq
  rw [List.map_cons, List.nodup_cons] at h
  have : q.1 ≠ p.1 := fun e => h.1 (List.mem_map.2 ⟨q, hq, e⟩)
  simpa using this

def slen : Value → Nat
  | .slice _ n _ => n
  | _ => 0
/-- of Go's loop: so many things have been told -/
structure GoR (w wr : World) (D : List Nat) (g : Nat) (m : Wm) (en j tm b8 : Nat) (v : Value) : Prop where
  le : j ≤ m.ths.length
  wv : WV wr D g { time := tm, ths := m.ths.drop j }
  keep : Keep D w wr
  row : RowE dueE 2 128 wr w.heap.size v (m.ths.take j)
  box : wr.heap[b8]? = some (.cells (headV (m.ths.drop j)) 128 (0, 0))
  new : w.heap.size ≤ b8
  ne : v.ownBlock ≠ some b8
  told : ∀ p ∈ m.ths.take j, p.2 ≤ en
  tm : tm ≤ en

set_option maxRecDepth 100000 in
set_option maxHeartbeats 1000000 in
set_option maxHeartbeats 8000000 in
theorem go_any (w : World) (D : List Nat) (g : Nat) (m : Wm) (h : WV w D g m) (k : Int) (hk : k ≤ 9223372036854775807) :
    Calls Try.prog 65 #[.pointer (some ⟨g, 0, none⟩), .int .i64 k] w fun e w' => ∃ v, e = .returned (.tuple #[v, .int .i64 ((m.go k).2.2 : Int)]) ∧ RowE dueE 2 128 w' w.heap.size v (m.go k).2.1 ∧ WV w' D g (m.go k).1 ∧ Keep D w w' := by
  have c0 : w.cell? ⟨g, 0, none⟩ = some (.int .i64 (m.time : Int)) := by
    obtain ⟨-, dm, blk, h⟩ := h
    exact h.c0
  have ht := h.1.t
  unfold top48 at ht
  have H := Lib.hid h
  have e0 : IntKind.i64.wrap (281474976710656 - (m.time : Int)) = 281474976710656 - (m.time : Int) := i64_wrap (by omega) (by omega)
  by_cases hb : k < 0 ∨ (281474976710656 : Int) - (m.time : Int) < k
  · have e : m.go k = (m, [], 2) := by unfold Wm.go top48; exact if_pos hb
    rw [e]
    clear e h
    by_cases h1 : k < 0
    · clear hb
      go_enter Try.func65, Try.ntmps65
      go_wp2
      refine bodyPost_ret (results_tmp2 rfl _ _ _) rfl ?_
      exact ⟨_, rfl, RowE.nil, H.out, Keep.refl _ _⟩
    · have h2 : (281474976710656 : Int) - (m.time : Int) < k := by omega
      clear hb
      go_enter Try.func65, Try.ntmps65
      go_wp2
      refine bodyPost_ret (results_tmp2 rfl _ _ _) rfl ?_
      exact ⟨_, rfl, RowE.nil, H.out, Keep.refl _ _⟩
  obtain ⟨n, rfl⟩ : ∃ n : Nat, k = (n : Int) := ⟨k.toNat, by omega⟩
  have h1 : ¬ (n : Int) < 0 := by omega
  have h2 : ¬ (281474976710656 : Int) - (m.time : Int) < (n : Int) := by omega
  obtain ⟨en, hen⟩ : ∃ en, m.time + n = en := ⟨_, rfl⟩
  have hen48 : en ≤ 281474976710656 := by omega
  have e : m.go (n : Int) = ({ time := en, ths := m.ths.dropWhile (fun p => decide (p.2 ≤ en)) }, m.ths.takeWhile (fun p => decide (p.2 ≤ en)), 0) := by
    unfold Wm.go top48
    rw [if_neg (by omega), Int.toNat_natCast, hen]
  rw [e]
  clear e hb
  have hew : IntKind.i64.wrap ((m.time : Int) + (n : Int)) = (en : Int) := by rw [i64_wrap (by omega) (by omega)]; omega
  have hnx := next_any w D g m h
  obtain ⟨x0, y0, hxy⟩ := headV_two m.ths
  rw [hxy] at hnx
  have HEN := Lib.hid (And.intro hen hxy)
  have htme : m.time ≤ en := by omega
  clear hen h hxy
  go_enter Try.func65, Try.ntmps65
  go_wp2_with fail
  refine hnx.mono ?_
  clear hnx c0
  rintro e w1 ⟨rfl, hk1⟩
  have HW1 := Lib.hid (And.intro (H.out.keep hk1 (by simp)) (hk1.mono (T := D) (by simp)))
  clear hk1
  go_wp2_with fail
  have hbx := heap_alloc_new w1 (.cells #[.int .i64 x0, .int .i64 y0] 128)
  have hA1 := (Keep.refl [] w1).alloc (.cells #[.int .i64 x0, .int .i64 y0] 128)
  obtain ⟨w2, hw2⟩ : ∃ w2, w1.alloc (.cells #[.int .i64 x0, .int .i64 y0] 128) = w2 := ⟨_, rfl⟩
  rw [hw2] at hbx hA1 ⊢
  have h0 : GoR w w2 D g m en 0 m.time w1.heap.size (.slice none 0 0) :=
    ⟨Nat.zero_le _, by have := HW1.out.1.keep hA1 (by simp); simpa using this, HW1.out.2.trans (hA1.mono (by simp)), RowE.nil, by have := hbx; rw [List.drop_zero, HEN.out.2]; exact this, HW1.out.2.size, by simp [Value.ownBlock], fun p hp => by simp at hp, htme⟩
  have H0 := Lib.hid h0
  obtain ⟨be, hbe⟩ : ∃ be, m.ths.isEmpty = be := ⟨_, rfl⟩
  rw [hbe]
  have HBE := Lib.hid hbe
  have hlD : ∀ b ∈ D, b < w.heap.size := H.out.lt
  have HLD := Lib.hid hlD
  clear h0 hbx hA1 hw2 HW1 hbe hlD e0 h2 ht
  go_loopw [7, 8, 9] (fun vo vx vb wr => ∃ (j tm b8 : Nat), vx = .pointer (some ⟨b8, 0, none⟩) ∧ vb = .bool (!(m.ths.drop j).isEmpty) ∧ Hid (GoR w wr D g m en j tm b8 vo)) (fun vo _ _ _ => m.ths.length - slen vo)
  case atStart => exact ⟨0, m.time, w1.heap.size, rfl, by rw [← HBE.out]; rfl, H0⟩
  case round =>
    clear H0
    obtain ⟨j, tm, b8, rfl, rfl, HG⟩ := hrel
    have hrow := HG.out.row
    have hjl := HG.out.le
    obtain ⟨va, vc, e7⟩ := hrow.form
    rw [List.length_take, Nat.min_eq_left hjl] at e7
    subst e7
    have hwf := HG.out.wv.1
    cases hd : m.ths.drop j with
    | nil =>
      have hmv := move_any _ D g _ HG.out.wv en HG.out.tm (fun p hp => by rw [hd] at hp; cases hp) (by unfold top48; omega)
      have HD := Lib.hid hd
      clear hd hrow
      go_wp2_with fail
      refine hmv.mono ?_
      clear hmv
      rintro e w3 ⟨rfl, hwv, hk3⟩
      have hsp := span_take (fun p : Int × Nat => decide (p.2 ≤ en)) m.ths j hjl (fun p hp => by simpa using HG.out.told p hp) (fun p hp => by rw [HD.out] at hp; cases hp)
      have HF := Lib.hid (And.intro hwv (And.intro (HG.out.keep.trans hk3) (And.intro (HG.out.row.keep hk3 (fun b hb hm => by
        have h5 := (HG.out.row.lt b hb).1
        have h6 := HLD.out b hm
        omega)) hsp)))
      clear hwv hk3 hsp
      go_wp2
      refine bodyPost_ret (results_tmp2 rfl _ _ _) rfl ?_
      refine ⟨_, rfl, ?_, ?_, HF.out.2.1⟩
      · rw [HF.out.2.2.2.1]
        exact HF.out.2.2.1
      · rw [HF.out.2.2.2.2]
        exact HF.out.1
    | cons p rest =>
      have hbx := HG.out.box
      rw [hd, headV_cons] at hbx
      have c1 := cell_of_row _ _ 1 _ _ _ hbx
      have c0 := cell_of_row _ _ 0 _ _ _ hbx
      simp at c0 c1
      have hle : ∀ q ∈ p :: rest, p.2 ≤ q.2 := fun q hq => by
        rcases List.mem_cons.1 hq with rfl | hq
        · exact Nat.le_refl _
        · have ho := hwf.ord
          simp only [hd] at ho
          have := (List.pairwise_cons.1 ho).1 q hq
          rw [dueLt_iff] at this
          omega
      by_cases hpe : p.2 ≤ en
      · have t1 : (p.2 : Int) ≤ (en : Int) := by omega
        have hp48 : p.2 ≤ top48 := (hwf.lo p (by simp only [hd]; simp)).2
        have hptm : tm ≤ p.2 := (hwf.lo p (by simp only [hd]; simp)).1
        have hpw := hwf.rng p (by simp only [hd]; simp)
        have hnd := hwf.nd
        simp only [hd] at hnd
        have hmv := move_any _ D g _ HG.out.wv p.2 hptm (fun q hq => by rw [hd] at hq; exact hle q hq) hp48
        simp only [hd] at hmv
        have hjlt : j < m.ths.length := by
          refine Decidable.byContradiction fun hn => ?_
          rw [List.drop_eq_nil_of_le (by omega)] at hd
          cases hd
        have htk : m.ths.take (j + 1) = m.ths.take j ++ [p] := by
          rw [List.take_succ_eq_append_getElem hjlt]
          have := List.drop_eq_getElem_cons hjlt
          rw [hd] at this
          injection this with h5 _
          rw [← h5]
        have hdr : m.ths.drop (j + 1) = rest := by
          have := List.drop_eq_getElem_cons hjlt
          rw [hd] at this
          injection this with _ h6
          exact h6.symm
        obtain ⟨n, a⟩ := p
        simp only at c0 c1 hbx t1 hpw hp48 hmv hpe ⊢
        have hb8D : b8 ∉ D := fun h => by have := HLD.out b8 h; have := HG.out.new; omega
        have HP := Lib.hid (And.intro hd (And.intro htk (And.intro hdr (And.intro hnd (And.intro hjlt (And.intro hb8D (And.intro hbx (And.intro hpe hp48))))))))
        clear hd htk hdr hnd hbx hle hptm hb8D hrow hpe hp48 hwf
        go_wp2_with fail
        refine hmv.mono ?_
        clear hmv
        rintro e w3 ⟨rfl, hwv3, hk3⟩
        have hb3 := hk3.blk HP.out.2.2.2.2.2.1 HP.out.2.2.2.2.2.2.1
        have c30 := cell_of_row _ _ 0 _ _ _ hb3
        simp at c30
        have hdp := drop_any w3 D g _ hwv3 n hpw
        clear c0 c1
        go_wp2_with fail
        refine hdp.mono ?_
        clear hdp c30
        rintro e w4 ⟨rfl, hwv4, hk4⟩
        have hwv4' : WV w4 D g { time := a, ths := rest } := by
          have e1 : dropD n ((n, a) :: rest) = rest := drop_head HP.out.2.2.2.1
          simp only [Wm.drop, e1] at hwv4
          exact hwv4
        have hb4 := hk4.blk HP.out.2.2.2.2.2.1 hb3
        have c40 := cell_of_row _ _ 0 _ _ _ hb4
        have c41 := cell_of_row _ _ 1 _ _ _ hb4
        simp at c40 c41
        have hnoD : ∀ b, (Value.slice va j vc).ownBlock = some b → b ∉ D := fun b hb hm => by
          have h5 := (HG.out.row.lt b hb).1
          have h6 := HLD.out b hm
          omega
        have hrow4 := (HG.out.row.keep hk3 hnoD).keep hk4 hnoD
        have hfew : m.ths.length ≤ 1000000 := H.out.1.few
        have hA4 := (Keep.refl [] w4).alloc (.cells (dueE (n, a)).toArray 128)
        obtain ⟨v5, w5, hrun, hO5, hk5, hloc⟩ := run_append_one (P := Try.prog) (ty := 124) dueLies Try.underlying124 due_infoF rfl (by decide) (by decide) w.heap.size (hrow4.keep hA4 (by simp)) w4.heap.size (n, a) (heap_alloc_new w4 _) (by rw [List.length_take]; omega) (by have := HG.out.keep.size; have := hk3.size; have := hk4.size; have := hA4.size; omega)
        obtain ⟨va', vc', e7⟩ := hO5.form
        rw [show (m.ths.take j ++ [(n, a)]).length = j + 1 by simp; omega] at e7
        subst e7
        have hb8o : b8 ∉ (Value.slice va j vc).ownBlock.toList := fun h => by
          rw [Option.mem_toList] at h
          exact HG.out.ne h
        have hk45 : Keep (Value.slice va j vc).ownBlock.toList w4 w5 := (hA4.mono (by simp)).trans hk5
        have hb5 := hk45.blk hb8o hb4
        have c50 := cell_of_row _ _ 0 _ _ _ hb5
        have c51 := cell_of_row _ _ 1 _ _ _ hb5
        simp at c50 c51
        have hA5 := (Keep.refl [] w5).alloc (.cells #[.int .i64 n, .int .i64 (a : Int)] 128)
        have hoD : ∀ b ∈ (Value.slice va j vc).ownBlock.toList, b ∉ D := fun b hb hm => by
          rw [Option.mem_toList] at hb
          exact hnoD b hb hm
        have hwv5 := (hwv4'.keep hk45 hoD).keep hA5 (by simp)
        have hnx := next_any _ D g _ hwv5
        simp only at hnx
        obtain ⟨x1, y1, hxy⟩ := headV_two rest
        rw [hxy] at hnx
        have hn6 := heap_alloc_new w5 (.cells #[.int .i64 n, .int .i64 (a : Int)] 128)
        have hkD5 : Keep D w w5 := by
          have h6 : Keep D w w4 := (HG.out.keep.trans hk3).trans hk4
          exact keep_bump h6 hk45 (fun b hb => by
            rw [Option.mem_toList] at hb
            exact .inr (HG.out.row.lt b hb).1)
        have HRN := Lib.hid hrun
        have H5 := Lib.hid (And.intro hO5 (And.intro hkD5 (And.intro hwv5 (And.intro hA5 (And.intro hn6 (And.intro hxy hloc))))))
        clear hrun hO5 hkD5 hwv5 hA5 hn6 hxy hloc hb5 hk45 hb8o hk5 hA4 hrow4 hnoD hb4 hwv4' hwv4 hk4 hb3 hwv3 hk3 hoD
        go_wp2_with (at_builtin; refine wpList_append_run rfl (.tmp 56) (.tmp 58) 124 rfl (w' := w5) rfl rfl HRN.out ?_)
        refine hnx.mono ?_
        clear hnx c40 c41 c50 c51
        rintro e w7 ⟨rfl, hk7⟩
        have hn7 := hk7.blk (by simp) H5.out.2.2.2.2.1
        have z0 := cell_of_row _ _ 0 _ _ _ hn7
        have z1 := cell_of_row _ _ 1 _ _ _ hn7
        simp at z0 z1
        have f0 := frozen_of_row w7 w5.heap.size 0 _ _ hn7
        have f1 := frozen_of_row w7 w5.heap.size 1 _ _ hn7
        have hk8 : Keep [w5.heap.size] w7 ((w7.setCell ⟨w5.heap.size, 0, none⟩ (.int .i64 x1)).setCell ⟨w5.heap.size, 1, none⟩ (.int .i64 y1)) := ((Keep.refl _ _).setCell (.inl (by simp)) _).setCell (.inl (by simp)) _
        have hn8 := heap_setCell_same _ w5.heap.size 1 _ _ (.int .i64 y1) (heap_setCell_same w7 w5.heap.size 0 _ _ (.int .i64 x1) hn7)
        have hown : ∀ b, (Value.slice va' (j + 1) vc').ownBlock = some b → b < w5.heap.size := fun b hb => (H5.out.1.lt b hb).2.1
        have hs5 := H5.out.2.1.size
        have hk58 : Keep [w5.heap.size] w5 ((w7.setCell ⟨w5.heap.size, 0, none⟩ (.int .i64 x1)).setCell ⟨w5.heap.size, 1, none⟩ (.int .i64 y1)) := ((H5.out.2.2.2.1.trans hk7).mono (by simp)).trans hk8
        have hnew : GoR w ((w7.setCell ⟨w5.heap.size, 0, none⟩ (.int .i64 x1)).setCell ⟨w5.heap.size, 1, none⟩ (.int .i64 y1)) D g m en (j + 1) a w5.heap.size (.slice va' (j + 1) vc') :=
          ⟨HP.out.2.2.2.2.1, by
            rw [HP.out.2.2.1]
            exact (H5.out.2.2.1.keep hk7 (by simp)).keep hk8 (fun b hb hm => by
              rw [List.mem_singleton] at hb
              have := HLD.out b hm
              omega), keep_bump H5.out.2.1 hk58 (fun b hb => .inr (by rw [List.mem_singleton] at hb; omega)), by
            rw [HP.out.2.1]
            exact H5.out.1.keep hk58 (fun b hb hm => by
              rw [List.mem_singleton] at hm
              have := hown b hb
              omega), by
            rw [HP.out.2.2.1, H5.out.2.2.2.2.2.1]
            exact hn8, hs5, fun e => by
              have := hown _ e
              omega, fun q hq => by
            rw [HP.out.2.1] at hq
            rcases List.mem_append.1 hq with hq | hq
            · exact HG.out.told q hq
            · rw [List.mem_singleton.1 hq]
              exact HP.out.2.2.2.2.2.2.2.1, HP.out.2.2.2.2.2.2.2.1⟩
        have HN := Lib.hid hnew
        have HE : Hid ((!rest.isEmpty) = !(m.ths.drop (j + 1)).isEmpty) := Lib.hid (by rw [HP.out.2.2.1])
        have HLL := Lib.hid HP.out.2.2.2.2.1
        clear hnew hk58 hs5 hown hn8 hk8 hn7 hk7
        go_wp2
        go_roundw
        case rel => exact ⟨j + 1, a, w5.heap.size, rfl, by rw [HE.out], HN⟩
        case measure =>
          have := HLL.out
          simp only [slen]
          omega
      · have t1 : ¬ (p.2 : Int) ≤ (en : Int) := by omega
        have hmv := move_any _ D g _ HG.out.wv en HG.out.tm (fun q hq => by rw [hd] at hq; have := hle q hq; omega) (by unfold top48; omega)
        have hsp := span_take (fun p : Int × Nat => decide (p.2 ≤ en)) m.ths j hjl (fun p hp => by simpa using HG.out.told p hp) (fun q hq => by
          rw [hd] at hq
          injection hq with hq
          subst hq
          simpa using hpe)
        have HD := Lib.hid (And.intro hd hsp)
        clear hd hrow hsp hbx hle
        go_wp2_with fail
        refine hmv.mono ?_
        clear hmv
        rintro e w3 ⟨rfl, hwv, hk3⟩
        have HF := Lib.hid (And.intro hwv (And.intro (HG.out.keep.trans hk3) (HG.out.row.keep hk3 (fun b hb hm => by
          have h5 := (HG.out.row.lt b hb).1
          have h6 := HLD.out b hm
          omega))))
        clear hwv hk3
        go_wp2
        refine bodyPost_ret (results_tmp2 rfl _ _ _) rfl ?_
        refine ⟨_, rfl, ?_, ?_, HF.out.2.1⟩
        · rw [HD.out.2.1]
          exact HF.out.2.2
        · rw [HD.out.2.2]
          exact HF.out.1
end Go.Proofs.Ytjkjiabfhhnngaa
