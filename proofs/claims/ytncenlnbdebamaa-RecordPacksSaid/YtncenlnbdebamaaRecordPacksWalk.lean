import Derived.Test.YtncenlnbdebamaaRecRefPack
import Derived.Deep.CutRange
/-! The walk of the law RecordPacks. -/
namespace Go.Proofs.Ytncenlnbdebamaa
open Go.RowKit Sg

set_option maxRecDepth 100000 in
set_option maxHeartbeats 1000000 in
set_option maxHeartbeats 4000000 in
theorem recordPacksWalk (W : World) (ks vs : ByteArray) (e : Int) (_ : -9223372036854775808 ≤ e) (_ : e ≤ 9223372036854775807) (a1 : Int) (_ : (Lit.int .i64 a1).wf = true) :
    Calls Try.prog 5 #[.agg #[.string ks, .string vs, .int .i64 e], .int .i64 a1] W fun x W' => x = .returned (.bool true) ∧ Below W.heap.size W W' := by
  have hK0 := (Keep.refl [] W).alloc (.cells #[.string ks, .string vs, .int .i64 e] 35)
  by_cases h1 : 100 < ks.size
  · go_enter Try.func5, Try.ntmps5
    go_wp2
    go_ret
    exact ⟨rfl, hK0.below (Nat.le_refl _) (by simp)⟩
  by_cases h2 : 5000 < vs.size
  · go_enter Try.func5, Try.ntmps5
    go_wp2
    go_ret
    exact ⟨rfl, hK0.below (Nat.le_refl _) (by simp)⟩
  have lk : ks.data.toList.length = ks.size := by rw [Array.length_toList]; rfl
  have lv : vs.data.toList.length = vs.size := by rw [Array.length_toList]; rfl
  have hO := of09_any ks vs e (by omega) (by omega)
  have hR := ref09Pack_any ks vs e (by omega) (by omega)
  have hP := fun k v w => rpack_any k v ks.data.toList vs.data.toList e w
  rw [lk, lv] at hP
  obtain ⟨L, hL⟩ : ∃ L, (if rcode ks.size vs.size e = 0 then rpack ks.data.toList vs.data.toList e.toNat else []) = L := ⟨_, rfl⟩
  have hLl : L.length ≤ 100000 := by
    rw [← hL]
    split
    · rw [rpack_len, lk, lv]; omega
    · simp
  rw [hL] at hP hR
  obtain ⟨rc, hrc⟩ : ∃ rc, rcode ks.size vs.size e = rc := ⟨_, rfl⟩
  rw [hrc] at hP hR
  clear hL hrc
  have hS := size_any (ks.size : Int) (vs.size : Int)
  obtain ⟨Z, hZ⟩ : ∃ Z : Int, (if 1 ≤ (ks.size : Int) ∧ (ks.size : Int) ≤ 64 ∧ 0 ≤ (vs.size : Int) ∧ (vs.size : Int) ≤ 4096 then 13 + (ks.size : Int) + (vs.size : Int) else 0) = Z := ⟨_, rfl⟩
  rw [hZ] at hS
  have HZ := Lib.hid hZ
  clear hZ
  have hE := ended_any e a1
  go_enter Try.func5, Try.ntmps5
  go_wp2_with fail
  refine (hO _).mono ?_
  rintro x w2 ⟨k, v, rfl, hbk, hbv, hk2⟩
  go_wp2_with fail
  refine (hP _ _ _ hbk hbv).mono ?_
  rintro x w3 ⟨v5, rfl, ho5, hk3⟩
  have hA3 := hk3.blk (by simp) (hk2.blk (by simp) (heap_alloc_new W _))
  have hK3 := (hK0.trans hk2).trans hk3
  have g0 := cell_of_row w3 _ 0 _ _ _ hA3
  have g1 := cell_of_row w3 _ 1 _ _ _ hA3
  have g2 := cell_of_row w3 _ 2 _ _ _ hA3
  simp at g0 g1 g2
  clear hO hP hbk hbv hk2 hk3
  go_wp2_with fail
  refine (hR _).mono ?_
  rintro x w4 ⟨v7, rfl, ho7, hk4⟩
  have hA4 := hk4.blk (by simp) hA3
  have hK4 := hK3.trans hk4
  have hb5 := (ho5.keep hk4 (by simp)).bytes (by omega)
  have hb7 := ho7.bytes (by omega)
  clear hA3 hK3 hk4 ho5 ho7 hR g0 g1 g2
  have g0 := cell_of_row w4 _ 0 _ _ _ hA4
  have g1 := cell_of_row w4 _ 1 _ _ _ hA4
  simp at g0 g1
  go_upto_region 6 with fail
  obtain ⟨B, hB⟩ : ∃ B : Bool, decide (1 ≤ ks.size ∧ ks.size ≤ 64 ∧ vs.size ≤ 4096) = B := ⟨_, rfl⟩
  have HB := Lib.hid hB
  clear hB
  go_cut [46] from 31 to 46 (fun s46 wx => wx = w4 ∧ s46 = .bool B)
  case first =>
    by_cases z1 : ks.size < 1
    · have : Hid (B = false) := by show _ = _; rw [← HB.out]; exact decide_eq_false (by omega)
      go_wp2_with fail
      go_meet
      exact ⟨rfl, by rw [this.out]⟩
    by_cases z2 : 64 < ks.size
    · have : Hid (B = false) := by show _ = _; rw [← HB.out]; exact decide_eq_false (by omega)
      go_wp2_with fail
      go_meet
      exact ⟨rfl, by rw [this.out]⟩
    by_cases z3 : 4096 < vs.size
    · have : Hid (B = false) := by show _ = _; rw [← HB.out]; exact decide_eq_false (by omega)
      have z4 : decide ((vs.size : Int) ≤ 4096) = false := decide_eq_false (by omega)
      go_wp2_with fail
      go_meet
      exact ⟨rfl, by rw [this.out]⟩
    · have : Hid (B = true) := by show _ = _; rw [← HB.out]; exact decide_eq_true (by omega)
      have z4 : decide ((vs.size : Int) ≤ 4096) = true := decide_eq_true (by omega)
      go_wp2_with fail
      go_meet
      exact ⟨rfl, by rw [this.out]⟩
  case rest =>
  obtain ⟨rfl, rfl⟩ := hcut
  have ck0 : ∀ w', Keep [] wc w' → w'.cell? ⟨W.heap.size, 0, none⟩ = some (.string ks) := fun w' h => h.cell (by simp) g0
  have ck1 : ∀ w', Keep [] wc w' → w'.cell? ⟨W.heap.size, 1, none⟩ = some (.string vs) := fun w' h => h.cell (by simp) g1
  have g2 := cell_of_row wc _ 2 _ _ _ hA4
  simp at g2
  have ck2 : ∀ w', Keep [] wc w' → w'.cell? ⟨W.heap.size, 2, none⟩ = some (.int .i64 e) := fun w' h => h.cell (by simp) g2
  have hq5 : ∀ w', Keep [] wc w' → Sem.run Try.prog (convert 36 9 v5) w' = .ok (.string ⟨L.toArray⟩) w' := fun w' h => run_str (P := Try.prog) 36 9 5 Try.underlying36 Try.underlying5 Try.underlying9 (hb5.keep h (by simp))
  have hq7 : ∀ w', Keep [] wc w' → Sem.run Try.prog (convert 36 9 v7) w' = .ok (.string ⟨L.toArray⟩) w' := fun w' h => run_str (P := Try.prog) 36 9 5 Try.underlying36 Try.underlying5 Try.underlying9 (hb7.keep h (by simp))
  clear hb5 hb7 hA4
  cases B with
  | false =>
    have hZ0 : Z = 0 := by
      have := HB.out
      rw [decide_eq_false_iff_not] at this
      rw [← HZ.out, if_neg (by omega)]
    subst hZ0
    by_cases he : e = 0
    · have d0 : (e != 0) = false := by simp [he]
      rw [show decide (e ≠ 0 ∧ e ≤ a1) = false from decide_eq_false (fun h => h.1 he)] at hE
      clear he
      go_wp2_with fail
      have hC0 : Keep [] wc wc.drew := (Keep.refl [] wc).drew
      refine wp_region_lex (fun w' => Keep [] wc w') [17, 25, 38] (by kernel_rfl) (by kernel_rfl) hC0 ?_
      generalize wc.drew = w5 at hC0 ⊢
      (repeat (first | (refine lex_q rfl rfl (fun K hK => ?_); apply Exists.intro; refine ⟨fun w' hC => ?_, ?_⟩; (go_simp <;> rfl); go_simp; refine hK _ _ ?_; clear hK K) | (refine lex_s rfl (fun K hK => ?_); go_simp; refine hK _ _ ?_; clear hK K)))
      (refine lex_l rfl rfl (fun K hK => ?_); go_simp)
      refine (hS _).mono ?_
      rintro x w6 ⟨rfl, rfl⟩
      refine hK _ _ hC0 ?_
      clear hK K
      (repeat (first | (refine lex_q rfl rfl (fun K hK => ?_); apply Exists.intro; refine ⟨fun w' hC => ?_, ?_⟩; (go_simp <;> rfl); go_simp; refine hK _ _ ?_; clear hK K) | (refine lex_s rfl (fun K hK => ?_); go_simp; refine hK _ _ ?_; clear hK K)))
      (refine lex_l rfl rfl (fun K hK => ?_); go_simp)
      refine (hE _).mono ?_
      rintro x w6 ⟨rfl, rfl⟩
      refine hK _ _ hC0 ?_
      clear hK K
      (repeat (first | (refine lex_q rfl rfl (fun K hK => ?_); apply Exists.intro; refine ⟨fun w' hC => ?_, ?_⟩; (go_simp <;> rfl); go_simp; refine hK _ _ ?_; clear hK K) | (refine lex_s rfl (fun K hK => ?_); go_simp; refine hK _ _ ?_; clear hK K)))
      (refine lex_l rfl rfl (fun K hK => ?_); go_simp)
      refine (awake09_any _).mono ?_
      rintro x w8 ⟨rfl, hk8⟩
      have hC8 := hC0.trans hk8
      refine hK _ _ hC8 ?_
      clear hK K hk8
      (repeat (first | (refine lex_q rfl rfl (fun K hK => ?_); apply Exists.intro; refine ⟨fun w' hC => ?_, ?_⟩; (go_simp <;> rfl); go_simp; refine hK _ _ ?_; clear hK K) | (refine lex_s rfl (fun K hK => ?_); go_simp; refine hK _ _ ?_; clear hK K)))
      refine lex_nil ?_
      go_wp2
      all_goals
        go_ret
        exact ⟨rfl, (hK4.trans hC8).below (Nat.le_refl _) (by simp)⟩
    · have d0 : (e != 0) = true := by simpa using he
      rw [show decide (e ≠ 0 ∧ e ≤ a1) = decide (e ≤ a1) from decide_eq_decide.2 ⟨fun h => h.2, fun h => ⟨he, h⟩⟩] at hE
      clear he
      go_wp2_with fail
      have hC0 : Keep [] wc wc.drew := (Keep.refl [] wc).drew
      refine wp_region_lex (fun w' => Keep [] wc w') [17, 25, 38] (by kernel_rfl) (by kernel_rfl) hC0 ?_
      generalize wc.drew = w5 at hC0 ⊢
      (repeat (first | (refine lex_q rfl rfl (fun K hK => ?_); apply Exists.intro; refine ⟨fun w' hC => ?_, ?_⟩; (go_simp <;> rfl); go_simp; refine hK _ _ ?_; clear hK K) | (refine lex_s rfl (fun K hK => ?_); go_simp; refine hK _ _ ?_; clear hK K)))
      (refine lex_l rfl rfl (fun K hK => ?_); go_simp)
      refine (hS _).mono ?_
      rintro x w6 ⟨rfl, rfl⟩
      refine hK _ _ hC0 ?_
      clear hK K
      (repeat (first | (refine lex_q rfl rfl (fun K hK => ?_); apply Exists.intro; refine ⟨fun w' hC => ?_, ?_⟩; (go_simp <;> rfl); go_simp; refine hK _ _ ?_; clear hK K) | (refine lex_s rfl (fun K hK => ?_); go_simp; refine hK _ _ ?_; clear hK K)))
      (refine lex_l rfl rfl (fun K hK => ?_); go_simp)
      refine (hE _).mono ?_
      rintro x w6 ⟨rfl, rfl⟩
      refine hK _ _ hC0 ?_
      clear hK K
      (repeat (first | (refine lex_q rfl rfl (fun K hK => ?_); apply Exists.intro; refine ⟨fun w' hC => ?_, ?_⟩; (go_simp <;> rfl); go_simp; refine hK _ _ ?_; clear hK K) | (refine lex_s rfl (fun K hK => ?_); go_simp; refine hK _ _ ?_; clear hK K)))
      (refine lex_l rfl rfl (fun K hK => ?_); go_simp)
      refine (awake09_any _).mono ?_
      rintro x w8 ⟨rfl, hk8⟩
      have hC8 := hC0.trans hk8
      refine hK _ _ hC8 ?_
      clear hK K hk8
      (repeat (first | (refine lex_q rfl rfl (fun K hK => ?_); apply Exists.intro; refine ⟨fun w' hC => ?_, ?_⟩; (go_simp <;> rfl); go_simp; refine hK _ _ ?_; clear hK K) | (refine lex_s rfl (fun K hK => ?_); go_simp; refine hK _ _ ?_; clear hK K)))
      refine lex_nil ?_
      go_wp2
      all_goals
        go_ret
        exact ⟨rfl, (hK4.trans hC8).below (Nat.le_refl _) (by simp)⟩
  | true =>
    have hZ0 : Z = 13 + (ks.size : Int) + (vs.size : Int) := by
      have := HB.out
      rw [decide_eq_true_eq] at this
      rw [← HZ.out, if_pos (by omega)]
    subst hZ0
    by_cases he : e = 0
    · have d0 : (e != 0) = false := by simp [he]
      rw [show decide (e ≠ 0 ∧ e ≤ a1) = false from decide_eq_false (fun h => h.1 he)] at hE
      clear he
      go_wp2_with fail
      have hC0 : Keep [] wc wc.drew := (Keep.refl [] wc).drew
      refine wp_region_lex (fun w' => Keep [] wc w') [17, 25, 38] (by kernel_rfl) (by kernel_rfl) hC0 ?_
      generalize wc.drew = w5 at hC0 ⊢
      (repeat (first | (refine lex_q rfl rfl (fun K hK => ?_); apply Exists.intro; refine ⟨fun w' hC => ?_, ?_⟩; (go_simp <;> rfl); go_simp; refine hK _ _ ?_; clear hK K) | (refine lex_s rfl (fun K hK => ?_); go_simp; refine hK _ _ ?_; clear hK K)))
      (refine lex_l rfl rfl (fun K hK => ?_); go_simp)
      refine (hS _).mono ?_
      rintro x w6 ⟨rfl, rfl⟩
      refine hK _ _ hC0 ?_
      clear hK K
      (repeat (first | (refine lex_q rfl rfl (fun K hK => ?_); apply Exists.intro; refine ⟨fun w' hC => ?_, ?_⟩; (go_simp <;> rfl); go_simp; refine hK _ _ ?_; clear hK K) | (refine lex_s rfl (fun K hK => ?_); go_simp; refine hK _ _ ?_; clear hK K)))
      (refine lex_l rfl rfl (fun K hK => ?_); go_simp)
      refine (hE _).mono ?_
      rintro x w6 ⟨rfl, rfl⟩
      refine hK _ _ hC0 ?_
      clear hK K
      (repeat (first | (refine lex_q rfl rfl (fun K hK => ?_); apply Exists.intro; refine ⟨fun w' hC => ?_, ?_⟩; (go_simp <;> rfl); go_simp; refine hK _ _ ?_; clear hK K) | (refine lex_s rfl (fun K hK => ?_); go_simp; refine hK _ _ ?_; clear hK K)))
      (refine lex_l rfl rfl (fun K hK => ?_); go_simp)
      refine (awake09_any _).mono ?_
      rintro x w8 ⟨rfl, hk8⟩
      have hC8 := hC0.trans hk8
      refine hK _ _ hC8 ?_
      clear hK K hk8
      (repeat (first | (refine lex_q rfl rfl (fun K hK => ?_); apply Exists.intro; refine ⟨fun w' hC => ?_, ?_⟩; (go_simp <;> rfl); go_simp; refine hK _ _ ?_; clear hK K) | (refine lex_s rfl (fun K hK => ?_); go_simp; refine hK _ _ ?_; clear hK K)))
      refine lex_nil ?_
      go_wp2
      all_goals
        go_ret
        exact ⟨rfl, (hK4.trans hC8).below (Nat.le_refl _) (by simp)⟩
    · have d0 : (e != 0) = true := by simpa using he
      rw [show decide (e ≠ 0 ∧ e ≤ a1) = decide (e ≤ a1) from decide_eq_decide.2 ⟨fun h => h.2, fun h => ⟨he, h⟩⟩] at hE
      clear he
      go_wp2_with fail
      have hC0 : Keep [] wc wc.drew := (Keep.refl [] wc).drew
      refine wp_region_lex (fun w' => Keep [] wc w') [17, 25, 38] (by kernel_rfl) (by kernel_rfl) hC0 ?_
      generalize wc.drew = w5 at hC0 ⊢
      (repeat (first | (refine lex_q rfl rfl (fun K hK => ?_); apply Exists.intro; refine ⟨fun w' hC => ?_, ?_⟩; (go_simp <;> rfl); go_simp; refine hK _ _ ?_; clear hK K) | (refine lex_s rfl (fun K hK => ?_); go_simp; refine hK _ _ ?_; clear hK K)))
      (refine lex_l rfl rfl (fun K hK => ?_); go_simp)
      refine (hS _).mono ?_
      rintro x w6 ⟨rfl, rfl⟩
      refine hK _ _ hC0 ?_
      clear hK K
      (repeat (first | (refine lex_q rfl rfl (fun K hK => ?_); apply Exists.intro; refine ⟨fun w' hC => ?_, ?_⟩; (go_simp <;> rfl); go_simp; refine hK _ _ ?_; clear hK K) | (refine lex_s rfl (fun K hK => ?_); go_simp; refine hK _ _ ?_; clear hK K)))
      (refine lex_l rfl rfl (fun K hK => ?_); go_simp)
      refine (hE _).mono ?_
      rintro x w6 ⟨rfl, rfl⟩
      refine hK _ _ hC0 ?_
      clear hK K
      (repeat (first | (refine lex_q rfl rfl (fun K hK => ?_); apply Exists.intro; refine ⟨fun w' hC => ?_, ?_⟩; (go_simp <;> rfl); go_simp; refine hK _ _ ?_; clear hK K) | (refine lex_s rfl (fun K hK => ?_); go_simp; refine hK _ _ ?_; clear hK K)))
      (refine lex_l rfl rfl (fun K hK => ?_); go_simp)
      refine (awake09_any _).mono ?_
      rintro x w8 ⟨rfl, hk8⟩
      have hC8 := hC0.trans hk8
      refine hK _ _ hC8 ?_
      clear hK K hk8
      (repeat (first | (refine lex_q rfl rfl (fun K hK => ?_); apply Exists.intro; refine ⟨fun w' hC => ?_, ?_⟩; (go_simp <;> rfl); go_simp; refine hK _ _ ?_; clear hK K) | (refine lex_s rfl (fun K hK => ?_); go_simp; refine hK _ _ ?_; clear hK K)))
      refine lex_nil ?_
      go_wp2
      all_goals
        go_ret
        exact ⟨rfl, (hK4.trans hC8).below (Nat.le_refl _) (by simp)⟩
end Go.Proofs.Ytncenlnbdebamaa
