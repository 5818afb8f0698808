import Derived.Test.YtjkjiabfhhnngaaReg
import Derived.Outline
/-! The walks of region's small functions. -/
namespace Go.Proofs.Ytjkjiabfhhnngaa
open Go.RowKit Sg
set_option linter.unusedSimpArgs false
set_option linter.unusedVariables false

section
variable (w : World) (gl g : Nat) (c : Lc) (l : Lg) (pv : Value)

set_option maxRecDepth 100000 in
set_option maxHeartbeats 1000000 in
theorem last_any (h : RowL w gl c g l pv) : Calls Try.prog 52 #[.pointer (some ⟨gl, 0, none⟩)] w fun e w' => e = .returned (.int .i64 (l.last : Int)) ∧ w = w' := by
  have k18 := h.k18
  clear h
  go_enter Try.func52, Try.ntmps52
  go_wp2
  go_ret
  exact ⟨rfl, rfl⟩
theorem ret_of {k : IntKind} {a b : Int} (h : a = b) : Ending.returned (.int k a) = .returned (.int k b) := by rw [h]
theorem ret_bool {a b : Bool} (h : a = b) : Ending.returned (.bool a) = .returned (.bool b) := by rw [h]
def Lc.oldest (c : Lc) (l : Lg) : Nat := max (l.last + 1 - c.R) 1
set_option maxRecDepth 100000 in
set_option maxHeartbeats 1000000 in
theorem oldest_any (h : RowL w gl c g l pv) (hR : c.R ≤ 64) (hl : l.last ≤ 4398046511104) : Calls Try.prog 110 #[.pointer (some ⟨gl, 0, none⟩)] w fun e w' => e = .returned (.int .i64 (c.oldest l : Int)) ∧ Keep [] w w' := by
  have H := Lib.hid h
  have q1 : IntKind.i64.wrap ((l.last : Int) - (c.R : Int)) = (l.last : Int) - (c.R : Int) := i64_wrap (by omega) (by omega)
  have q2 : IntKind.i64.wrap ((l.last : Int) - (c.R : Int) + 1) = (l.last : Int) - (c.R : Int) + 1 := i64_wrap (by omega) (by omega)
  clear h
  by_cases hq : (l.last : Int) - (c.R : Int) + 1 ≤ 1
  · have HO : Hid ((1 : Int) = (c.oldest l : Int)) := Lib.hid (by unfold Lc.oldest; omega)
    go_enter Try.func110, Try.ntmps110
    go_wp2_with fail
    refine wp_region_his [] [] (fun _ => 0) (by kernel_rfl) (by kernel_rfl) ?_
    intro w2 hk2 hh
    clear hh
    have k18 := fun w' (h : Keep [] w2 w') => (H.out.keep (hk2.trans h) (by simp)).k18
    have k3 := fun w' (h : Keep [] w2 w') => (H.out.keep (hk2.trans h) (by simp)).k3
    have HK := Lib.hid hk2
    clear hk2
    (repeat (first | (refine his_q rfl rfl (fun K hK => ?_); apply Exists.intro; refine ⟨fun w' hC => ?_, ?_⟩; ((try simp [Sg.upd] at hC); go_simp <;> rfl); go_simp; refine hK _ _ ?_; clear hK K) | (refine his_s rfl (fun K hK => ?_); go_simp; refine hK _ _ ?_; clear hK K)))
    refine his_nil ?_
    clear k18 k3
    go_wp2
    all_goals
      go_ret
      exact ⟨ret_of (by have := HO.out; omega), HK.out⟩
  · have HO : Hid ((l.last : Int) - (c.R : Int) + 1 = (c.oldest l : Int)) := Lib.hid (by unfold Lc.oldest; omega)
    have hq2 : (1 : Int) ≤ (l.last : Int) - (c.R : Int) + 1 := by omega
    have hq3 : ¬ ((l.last : Int) - (c.R : Int) + 1 < 1) := by omega
    go_enter Try.func110, Try.ntmps110
    go_wp2_with fail
    refine wp_region_his [] [] (fun _ => 0) (by kernel_rfl) (by kernel_rfl) ?_
    intro w2 hk2 hh
    clear hh
    have k18 := fun w' (h : Keep [] w2 w') => (H.out.keep (hk2.trans h) (by simp)).k18
    have k3 := fun w' (h : Keep [] w2 w') => (H.out.keep (hk2.trans h) (by simp)).k3
    have HK := Lib.hid hk2
    clear hk2
    (repeat (first | (refine his_q rfl rfl (fun K hK => ?_); apply Exists.intro; refine ⟨fun w' hC => ?_, ?_⟩; ((try simp [Sg.upd] at hC); go_simp <;> rfl); go_simp; refine hK _ _ ?_; clear hK K) | (refine his_s rfl (fun K hK => ?_); go_simp; refine hK _ _ ?_; clear hK K)))
    refine his_nil ?_
    clear k18 k3
    go_wp2
    all_goals
      go_ret
      exact ⟨ret_of (by have := HO.out; omega), HK.out⟩

set_option maxRecDepth 100000 in
set_option maxHeartbeats 1000000 in
theorem thereL_any (h : RowL w gl c g l pv) (hR : c.R ≤ 64) (hl : l.last ≤ 4398046511104) (q : Int) : Calls Try.prog 111 #[.pointer (some ⟨gl, 0, none⟩), .int .i64 q] w fun e w' => e = .returned (.bool (decide ((c.oldest l : Int) ≤ q ∧ q ≤ (l.last : Int)))) ∧ Keep [] w w' := by
  have ho := oldest_any w gl g c l pv h hR hl
  have H := Lib.hid h
  clear h
  obtain ⟨o, hO⟩ : ∃ o, c.oldest l = o := ⟨_, rfl⟩
  rw [hO] at ho ⊢
  clear hO
  by_cases h1 : (o : Int) ≤ q
  · by_cases h2 : q ≤ (l.last : Int)
    · rw [decide_eq_true (And.intro h1 h2)]
      go_enter Try.func111, Try.ntmps111
      go_wp2_with fail
      refine ho.mono ?_
      rintro e w1 ⟨rfl, hk⟩
      have k18 := (H.out.keep hk (by simp)).k18
      go_wp2
      go_ret
      exact ⟨ret_bool (by simp [h2]), hk⟩
    · rw [decide_eq_false (fun h => h2 h.2)]
      go_enter Try.func111, Try.ntmps111
      go_wp2_with fail
      refine ho.mono ?_
      rintro e w1 ⟨rfl, hk⟩
      have k18 := (H.out.keep hk (by simp)).k18
      go_wp2
      go_ret
      exact ⟨ret_bool (by simp [h2]), hk⟩
  · rw [decide_eq_false (fun h => h1 h.1)]
    go_enter Try.func111, Try.ntmps111
    go_wp2_with fail
    refine ho.mono ?_
    rintro e w1 ⟨rfl, hk⟩
    go_wp2
    go_ret
    exact ⟨ret_bool (by simp [h1]), hk⟩

set_option maxRecDepth 100000 in
set_option maxHeartbeats 1000000 in
theorem sector_any (h : RowL w gl c g l pv) (hR : c.R ≤ 64) (hR1 : 1 ≤ c.R) (hS : c.S ≤ 32) (q i : Nat) (hi : i ≤ 1000000000) : Calls Try.prog 146 #[.pointer (some ⟨gl, 0, none⟩), .int .i64 (q : Int), .int .i64 (i : Int)] w fun e w' => e = .returned (.int .i64 ((c.sec q i : Nat) : Int)) ∧ Keep [] w w' := by
  have H := Lib.hid h
  obtain ⟨r, hr⟩ : ∃ r, q % c.R = r := ⟨_, rfl⟩
  have hr2 : r < c.R := by rw [← hr]; exact Nat.mod_lt _ hR1
  obtain ⟨M, hM⟩ : ∃ M, r * c.S = M := ⟨_, rfl⟩
  have hM2 : M ≤ 64 * 32 := by rw [← hM]; exact Nat.mul_le_mul (by omega) hS
  have e0 : c.sec q i = M + i := by unfold Lc.sec; rw [hr, hM]
  have q0 : ((q : Int).tmod (c.R : Int)) = (r : Int) := by rw [Int.tmod_eq_emod_of_nonneg (by omega), ← hr]; rfl
  have q1 : (r : Int) * (c.S : Int) = (M : Int) := by rw [← hM]; push_cast; rfl
  have q2 : IntKind.i64.wrap (M : Int) = (M : Int) := i64_wrap (by omega) (by omega)
  have q3 : IntKind.i64.wrap ((M : Int) + (i : Int)) = ((M + i : Nat) : Int) := by rw [i64_wrap (by omega) (by omega)]; push_cast; rfl
  have q4 : IntKind.i64.wrap (r : Int) = (r : Int) := i64_wrap (by omega) (by omega)
  have z1 : ¬ ((c.R : Int) = 0) := by omega
  have z2 : ((c.R : Int) == 0) = false := by simp; omega
  have z3 : ¬ (c.R = 0) := by omega
  rw [e0]
  clear h hr hM e0
  go_enter Try.func146, Try.ntmps146
  go_wp2_with fail
  refine wp_region_his [] [] (fun _ => 0) (by kernel_rfl) (by kernel_rfl) ?_
  intro w2 hk2 hh
  clear hh
  have k3 := fun w' (h : Keep [] w2 w') => (H.out.keep (hk2.trans h) (by simp)).k3
  have k4 := fun w' (h : Keep [] w2 w') => (H.out.keep (hk2.trans h) (by simp)).k4
  have HK := Lib.hid hk2
  clear hk2
  (repeat (first | (refine his_q rfl rfl (fun K hK => ?_); apply Exists.intro; refine ⟨fun w' hC => ?_, ?_⟩; ((try simp [Sg.upd] at hC); go_simp <;> rfl); go_simp; refine hK _ _ ?_; clear hK K) | (refine his_s rfl (fun K hK => ?_); go_simp; refine hK _ _ ?_; clear hK K)))
  refine his_nil ?_
  clear k3 k4
  go_wp2
  go_ret
  exact ⟨rfl, HK.out⟩
end
end Go.Proofs.Ytjkjiabfhhnngaa
