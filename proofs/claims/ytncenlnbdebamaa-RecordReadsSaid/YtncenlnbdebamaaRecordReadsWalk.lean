import Derived.Test.YtncenlnbdebamaaRecRefAll
import Derived.Test.YtncenlnbdebamaaOpen
/-! The walk of the law RecordReads. -/
namespace Go.Proofs.Ytncenlnbdebamaa
open Go.RowKit Sg
set_option linter.unusedSimpArgs false
set_option linter.unusedVariables false

theorem flat3 {α β : Type} (f : α → List β) (h3 : ∀ x, (f x).length = 3) : ∀ (l : List α) (i j : Nat) (x : α), l[i]? = some x → j < 3 → (l.flatMap f)[3 * i + j]? = (f x)[j]?
  | [], i, j, x, h, _ => by simp at h
  | y :: l, 0, j, x, h, hj => by
    simp at h
    subst h
    rw [List.flatMap_cons, List.getElem?_append_left (by rw [h3]; omega)]
    simp
  | y :: l, i + 1, j, x, h, hj => by
    rw [List.flatMap_cons, List.getElem?_append_right (by rw [h3]; omega), h3, show 3 * (i + 1) + j - 3 = 3 * i + j by omega]
    exact flat3 f h3 l i j x (by simpa using h) hj

/-- the cells of one record in memory -/
theorem OwnR.at {w : World} {base : Nat} {v : Value} {rs : List (Value × Value × Int)} (h : OwnR w base 40 v rs) (i : Nat) (r : Value × Value × Int) (hi : rs[i]? = some r) :
    ∃ g cap, v = .slice (some ⟨g, 0, none⟩) rs.length cap ∧ w.cell? ⟨g, i * 3, none⟩ = some r.1 ∧ w.cell? ⟨g, i * 3 + 1, none⟩ = some r.2.1 ∧ w.cell? ⟨g, i * 3 + 2, none⟩ = some (.int .i64 r.2.2) := by
  have hlt := (List.getElem?_eq_some_iff.1 hi).1
  rcases id h.2 with ⟨-, h0⟩ | ⟨g, cap, cur, rfl, -⟩
  · omega
  · have c := fun j hj u hu => World.ownsRow.cells (g := g) h rfl (3 * i + j) u ((flat3 rvals (fun _ => rfl) rs i j r hi hj).trans hu)
    simp only [Addr.add_lit, Nat.zero_add, Nat.mul_comm 3 i] at c
    exact ⟨g, cap, rfl, c 0 (by decide) _ rfl, c 1 (by decide) _ rfl, c 2 (by decide) _ rfl⟩
theorem OwnS.at {w : World} {base : Nat} {v : Value} {rs : List Rc} (h : OwnS w base v rs) (i : Nat) (r : Rc) (hi : rs[i]? = some r) :
    ∃ g cap, v = .slice (some ⟨g, 0, none⟩) rs.length cap ∧ w.cell? ⟨g, i * 3, none⟩ = some (.string ⟨r.k.toArray⟩) ∧ w.cell? ⟨g, i * 3 + 1, none⟩ = some (.string ⟨r.v.toArray⟩) ∧ w.cell? ⟨g, i * 3 + 2, none⟩ = some (.int .i64 (r.en : Int)) := by
  have hlt := (List.getElem?_eq_some_iff.1 hi).1
  rcases id h.2 with ⟨-, h0⟩ | ⟨g, cap, cur, rfl, -⟩
  · omega
  · have c := fun j hj u hu => World.ownsRow.cells (g := g) h rfl (3 * i + j) u ((flat3 _ (fun _ => rfl) rs i j r hi hj).trans hu)
    simp only [Addr.add_lit, Nat.zero_add, Nat.mul_comm 3 i] at c
    exact ⟨g, cap, rfl, c 0 (by decide) _ rfl, c 1 (by decide) _ rfl, c 2 (by decide) _ rfl⟩
theorem OwnR.form {w : World} {base : Nat} {e : TypeId} {v : Value} {rs : List (Value × Value × Int)} (h : OwnR w base e v rs) : ∃ a c, v = .slice a rs.length c := by
  rcases h.2 with ⟨rfl, h0⟩ | ⟨g', c, cur, rfl, -⟩
  · exact ⟨_, _, by rw [h0]⟩
  · exact ⟨_, _, rfl⟩

set_option maxRecDepth 100000 in
set_option maxHeartbeats 1000000 in
set_option maxHeartbeats 4000000 in
theorem recordReadsWalk (W : World) (v0 : Value) (l0 : List UInt8) (b0 : Bytes W v0 l0) :
    Calls Try.prog 10 #[v0] W fun e W' => e = .returned (.bool true) ∧ Below W.heap.size W W' := by
  obtain ⟨ao, cap, rfl, hlc, hm, hcap⟩ := b0.form
  by_cases hl : 1000 < l0.length
  · have hl' : (1000 : Int) < (l0.length : Int) := by omega
    go_enter Try.func10, Try.ntmps10
    go_wp2
    go_ret
    exact ⟨rfl, (Keep.refl [] W).below (Nat.le_refl _) (by simp)⟩
  · have hl' : ¬ (1000 : Int) < (l0.length : Int) := by omega
    obtain ⟨kd, vd, en, n, cd, hU, hR⟩ := unpack_both l0 (by omega)
    have HU := Lib.hid hU
    have HR := Lib.hid hR
    clear hU hR
    have ho := OwnB.empty W W.heap.size 5 (Nat.le_refl _)
    have hC1 := (Keep.refl [] W).alloc (.cells #[] 5)
    go_enter Try.func10, Try.ntmps10
    go_wp2_with (refine wpList_append_bytes rfl (.tmp 16) (.tmp 17) 36 5 rfl W.heap.size Try.underlying36 (by kernel_rfl) (v := .slice (some ⟨W.heap.size, 0, none⟩) 0 0) (src := .slice ao l0.length cap) rfl rfl ho (b0.keep hC1 (by simp)) (by simp; omega) hC1.size ?_)
    intro v4 w4 ho4 hk4
    have hC4 : Keep [] W w4 := hC1.trans' hk4 (by intro k hk; simp [Value.ownBlock] at hk; subst hk; exact .inr (Nat.le_refl _))
    clear hk4
    go_wp2_with fail
    refine (HU.out _ _ (ho4.bytes (by omega))).mono ?_
    rintro e w5 ⟨k, v, rfl, hbk, hbv, hk5⟩
    obtain ⟨ka, kc, rfl, -⟩ := hbk.form
    obtain ⟨va, vc, rfl, -⟩ := hbv.form
    have hC5 := (hC4.trans hk5).alloc (.cells #[.slice ka kd.length kc, .slice va vd.length vc, .int .i64 en] 40)
    have hA5 := (Keep.refl [] w5).alloc (.cells #[.slice ka kd.length kc, .slice va vd.length vc, .int .i64 en] 40)
    have hX := heap_alloc_new w5 (.cells #[.slice ka kd.length kc, .slice va vd.length vc, .int .i64 en] 40)
    go_wp2_with fail
    refine (HR.out _ _ (b0.keep hC5 (by simp))).mono ?_
    rintro e w6 ⟨rfl, hk6⟩
    have hX6 := hk6.blk (by simp) hX
    have hC6 := (hC5.trans hk6).alloc (.cells #[.string ⟨kd.toArray⟩, .string ⟨vd.toArray⟩, .int .i64 en] 35)
    have hA6 := (Keep.refl [] w6).alloc (.cells #[.string ⟨kd.toArray⟩, .string ⟨vd.toArray⟩, .int .i64 en] 35)
    have hY := heap_alloc_new w6 (.cells #[.string ⟨kd.toArray⟩, .string ⟨vd.toArray⟩, .int .i64 en] 35)
    have hbk6 := ((hbk.keep hA5 (by simp)).keep hk6 (by simp)).keep hA6 (by simp)
    have hbv6 := ((hbv.keep hA5 (by simp)).keep hk6 (by simp)).keep hA6 (by simp)
    have hX7 := hA6.blk (by simp) hX6
    have hT := told09_any _ _ kd vd en _ hbk6 hbv6
    have x0 := cell_of_row _ _ 0 _ _ _ hX7
    have x1 := cell_of_row _ _ 1 _ _ _ hX7
    have x2 := cell_of_row _ _ 2 _ _ _ hX7
    simp at x0 x1 x2
    clear hX hX6 hX7 hk6 hk5 hC5 hC1 ho ho4 hbk hbv hbk6 hbv6 hA5 hA6 hY hC4
    go_wp2_with fail
    refine hT.mono ?_
    rintro e w8 ⟨rfl, hk8⟩
    clear hT
    have hC8 := hC6.trans hk8
    have ho := OwnB.empty w8 W.heap.size 5 hC8.size
    have hC9 := hC8.alloc (.cells #[] 5)
    clear hC6 hk8 x0 x1 x2
    go_wp2_with (refine wpList_append_bytes rfl (.tmp 43) (.tmp 44) 36 5 rfl W.heap.size Try.underlying36 (by kernel_rfl) (v := .slice (some ⟨w8.heap.size, 0, none⟩) 0 0) (src := .slice ao l0.length cap) rfl rfl ho (b0.keep hC9 (by simp)) (by simp; omega) hC9.size ?_)
    intro v10 w10 ho10 hk10
    have hC10 : Keep [] W w10 := hC9.trans' hk10 (by intro k hk; simp [Value.ownBlock] at hk; subst hk; exact .inr hC8.size)
    clear hk10 hC9 hC8 ho
    go_wp2_with fail
    refine (all09_any _ l0 _ (ho10.bytes (by omega)) (by omega)).mono ?_
    rintro e w11 ⟨lv, rs, rfl, hLO, hLM, hk11⟩
    have hC11 := hC10.trans hk11
    clear ho10 hk11
    go_wp2_with fail
    refine (refAll09_any _ l0 _ (b0.keep hC11 (by simp)) (by omega)).mono ?_
    rintro e w12 ⟨sv, rfl, hSO, hk12⟩
    have hC12 := hC11.trans hk12
    have hLO := hLO.keep hk12 (by simp)
    have hLM := hLM.keep hk12 (by simp)
    have hrl := hLM.1
    have hln := recsOf_len _ l0 (Nat.le_refl _)
    generalize recsOf l0 = L at hLM hSO hrl hln
    obtain ⟨la, lc, rfl⟩ := hLO.form
    obtain ⟨sa, sc, rfl⟩ := hSO.form
    rw [hrl] at hLO
    clear hk12 hC11 hC10
    have HLO := Lib.hid hLO
    have HLM := Lib.hid hLM
    have HSO := Lib.hid hSO
    clear hLO hLM hSO
    rw [hrl]
    go_wp2
    go_loopw [11] (fun i wr => ∃ k : Nat, k ≤ L.length ∧ i = .int .i64 k ∧ Keep [] w12 wr) (fun i _ => L.length - (intOf i).toNat)
    case atStart => exact ⟨0, by omega, rfl, Keep.refl _ _⟩
    case round =>
      obtain ⟨k, hk, rfl, hkw⟩ := hrel
      by_cases hlt : k < L.length
      · have hkr : k < rs.length := by omega
        have hm := HLM.out.2 k rs[k] L[k] (List.getElem?_eq_getElem hkr) (List.getElem?_eq_getElem hlt)
        obtain ⟨g, cap1, e1, a0, a1, a2⟩ := OwnR.at HLO.out k rs[k] (List.getElem?_eq_getElem hkr)
        obtain ⟨g2, cap2, e2, b0', b1, b2⟩ := OwnS.at HSO.out k L[k] (List.getElem?_eq_getElem hlt)
        obtain rfl : la = some ⟨g, 0, none⟩ := by injection e1
        obtain rfl : sa = some ⟨g2, 0, none⟩ := by injection e2
        clear e1 e2
        generalize rs[k] = r at hm a0 a1 a2
        obtain ⟨k1, v1, n1⟩ := r
        obtain ⟨hm1, hm2, hm3, hm4, hm5⟩ := hm
        simp only at hm1 hm2 hm3 a0 a1 a2
        subst hm3
        generalize L[k] = x at hm1 hm2 hm4 hm5 a0 a1 a2 b0' b1 b2
        have hB1 := hm1.bytes (Nat.le_trans hm4 (by decide))
        have hB2 := hm2.bytes (Nat.le_trans hm5 (by decide))
        obtain ⟨k1a, k1c, rfl, -⟩ := hB1.form
        obtain ⟨v1a, v1c, rfl, -⟩ := hB2.form
        have hT := fun w' (h : Keep [] w12 w') => told09_any _ _ x.k x.v (x.en : Int) w' (hB1.keep h (by simp)) (hB2.keep h (by simp))
        have HT := Lib.hid hT
        have A0 := Lib.hid a0
        have A1 := Lib.hid a1
        have A2 := Lib.hid a2
        have B0 := Lib.hid b0'
        have B1 := Lib.hid b1
        have B2 := Lib.hid b2
        clear hT hB1 hB2 hm1 hm2 a0 a1 a2 b0' b1 b2
        go_wp2_with fail
        refine wp_region_his [] [8] (fun _ => 0) (by kernel_rfl) (by kernel_rfl) ?_
        intro w13 hk13 hh
        clear hh
        have hkw13 := hkw.trans hk13
        have da0 := fun w' (h : Keep [] w13 w') => (hkw13.trans h).cell (by simp) A0.out
        have da1 := fun w' (h : Keep [] w13 w') => (hkw13.trans h).cell (by simp) A1.out
        have da2 := fun w' (h : Keep [] w13 w') => (hkw13.trans h).cell (by simp) A2.out
        have db0 := fun w' (h : Keep [] w13 w') => (hkw13.trans h).cell (by simp) B0.out
        have db1 := fun w' (h : Keep [] w13 w') => (hkw13.trans h).cell (by simp) B1.out
        have db2 := fun w' (h : Keep [] w13 w') => (hkw13.trans h).cell (by simp) B2.out
        clear hk13
        (repeat (first | (refine his_q rfl rfl (fun K hK => ?_); apply Exists.intro; refine ⟨fun w' hC => ?_, ?_⟩; ((try simp [Sg.upd] at hC); go_simp <;> rfl); go_simp; refine hK _ _ ?_; clear hK K) | (refine his_s rfl (fun K hK => ?_); go_simp; refine hK _ _ ?_; clear hK K)))
        (refine his_l rfl rfl (fun K hK => ?_); go_simp)
        refine (HT.out _ hkw13).mono ?_
        rintro x w14 ⟨rfl, hk14⟩
        refine hK _ _ hk14 ?_
        clear hK K
        (repeat (first | (refine his_q rfl rfl (fun K hK => ?_); apply Exists.intro; refine ⟨fun w' hC => ?_, ?_⟩; ((try simp [Sg.upd] at hC); go_simp <;> rfl); go_simp; refine hK _ _ ?_; clear hK K) | (refine his_s rfl (fun K hK => ?_); go_simp; refine hK _ _ ?_; clear hK K)))
        refine his_nil ?_
        clear da0 da1 da2 db0 db1 db2
        go_wp2
        go_roundw
        case rel => exact ⟨k + 1, by omega, by go_num, hkw13.trans hk14⟩
        case measure => simp [intOf]; omega
      · go_wp2_with fail
        refine (awake09_any _).mono ?_
        rintro e w13 ⟨rfl, hk13⟩
        go_wp2
        go_ret
        exact ⟨rfl, (hC12.trans (hkw.trans hk13)).below (Nat.le_refl _) (by simp)⟩
end Go.Proofs.Ytncenlnbdebamaa
