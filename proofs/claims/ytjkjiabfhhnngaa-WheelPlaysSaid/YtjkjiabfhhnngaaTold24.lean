import Derived.Test.YtjkjiabfhhnngaaWheelAw
/-! The law's told: two rows that are the same. -/
namespace Go.Proofs.Ytjkjiabfhhnngaa
open Go.RowKit Go.Shelf Sg
set_option linter.unusedSimpArgs false
set_option linter.unusedVariables false

set_option maxRecDepth 100000 in
set_option maxHeartbeats 1000000 in
set_option maxHeartbeats 4000000 in
theorem told24_any (w : World) (b1 b2 : Nat) (v u : Value) (l : List (Int × Nat)) (h1 : RowE dueE 2 128 w b1 v l) (h2 : RowE dueE 2 145 w b2 u l) (hl : l.length ≤ 1000000) :
    Calls Try.prog 72 #[v, u] w fun e w' => e = .returned (.bool true) ∧ Keep [] w w' := by
  obtain ⟨a1, c1, rfl⟩ := h1.form
  obtain ⟨a2, c2, rfl⟩ := h2.form
  have HR := Lib.hid (And.intro h1 (And.intro h2 (Keep.refl [] w)))
  clear h1 h2
  go_enter Try.func72, Try.ntmps72
  go_wp2
  go_loopw [5] (fun vi wr => ∃ (i : Nat), i ≤ l.length ∧ vi = .int .i64 (i : Int) ∧ Hid (RowE dueE 2 128 wr b1 (.slice a1 l.length c1) l ∧ RowE dueE 2 145 wr b2 (.slice a2 l.length c2) l ∧ Keep [] w wr)) (fun vi _ => l.length - (intOf vi).toNat)
  case atStart => exact ⟨0, by omega, rfl, HR⟩
  case round =>
    clear HR
    obtain ⟨i, hi, rfl, HI⟩ := hrel
    by_cases hil : i < l.length
    · obtain ⟨g1, rfl, -, q1⟩ := RowE.cells dueLies HI.out.1 hil
      obtain ⟨g2, rfl, -, q2⟩ := RowE.cells dueLies HI.out.2.1 hil
      obtain ⟨n, hn⟩ : ∃ n, l[i].1 = n := ⟨_, rfl⟩
      obtain ⟨t, ht⟩ : ∃ t, l[i].2 = t := ⟨_, rfl⟩
      have x0 := q1 0 (.int .i64 n) (by rw [← hn]; rfl)
      have x1 := q1 1 (.int .i64 (t : Int)) (by rw [← ht]; rfl)
      have y0 := q2 0 (.int .i64 n) (by rw [← hn]; rfl)
      have y1 := q2 1 (.int .i64 (t : Int)) (by rw [← ht]; rfl)
      rw [Nat.add_zero] at x0 y0
      clear q1 q2 hn ht
      go_upto_region 6 with fail
      refine wp_region_his [] [] (fun _ => 0) (by kernel_rfl) (by kernel_rfl) ?_
      intro wx hkx hhx
      have p1 := fun w' (h' : Keep [] wx w') => (hkx.trans h').cell (by simp) x0
      have p2 := fun w' (h' : Keep [] wx w') => (hkx.trans h').cell (by simp) x1
      have p3 := fun w' (h' : Keep [] wx w') => (hkx.trans h').cell (by simp) y0
      have p4 := fun w' (h' : Keep [] wx w') => (hkx.trans h').cell (by simp) y1
      clear x0 x1 y0 y1 hhx
      (repeat (first | (refine his_q rfl rfl (fun K hK => ?_); apply Exists.intro; refine ⟨fun w' hC => ?_, ?_⟩; ((try simp [Sg.upd] at hC); go_simp <;> rfl); go_simp; refine hK _ _ ?_; clear hK K) | (refine his_s rfl (fun K hK => ?_); go_simp; refine hK _ _ ?_; clear hK K)))
      refine his_nil ?_
      have H3 := Lib.hid (And.intro (HI.out.1.keep hkx (by simp)) (And.intro (HI.out.2.1.keep hkx (by simp)) (HI.out.2.2.trans hkx)))
      clear p1 p2 p3 p4 HI hkx
      go_wp2
      go_roundw
      case rel => exact ⟨i + 1, by omega, by go_num, H3⟩
      case measure => simp [intOf]; omega
    · have HK := Lib.hid HI.out.2.2
      clear HI
      go_wp2
      go_ret
      exact ⟨rfl, HK.out⟩
end Go.Proofs.Ytjkjiabfhhnngaa
