import Derived.Test.YtncenlnbdebamaaPlanUnpack
import Derived.Test.YtncenlnbdebamaaPlanFitsWalk
import Derived.Test.YtncenlnbdebamaaRefOf
/-! The walk of the document's Unpack of a plan. -/
namespace Go.Proofs.Ytncenlnbdebamaa
open Go.RowKit Sg
set_option linter.unusedSimpArgs false

set_option maxRecDepth 100000 in
set_option maxHeartbeats 1000000 in
theorem refAt_any (b o n cap : Nat) (l : List UInt8) (w : World) (hx : Bytes w (.slice (some ⟨b, o, none⟩) n cap) l) (f t : Nat) (h1 : f < t) (h2 : t ≤ l.length) (h3 : t ≤ f + 4) : Calls Try.prog 42 #[.slice (some ⟨b, o, none⟩) n cap, .int .i64 f, .int .i64 t] w fun e w' => e = .returned (.int .i64 (leOf ((l.drop f).take (t - f)) : Int)) ∧ w = w' := by
  obtain ⟨_, _, e, h4, h5, h6⟩ := hx.form
  cases e
  have hs := hx.sub (f := f) (t := t) (by omega) (by omega) h2
  have hlt := take_lt (l.drop f) (t - f)
  have hle : (256 : Nat) ^ (t - f) ≤ 256 ^ 4 := Nat.pow_le_pow_right (by omega) (by omega)
  simp only [Nat.reducePow] at hle
  have hlen : ((l.drop f).take (t - f)).length ≤ 8 := by rw [List.length_take]; omega
  have c := refOf_any _ _ w hs hlen
  generalize leOf ((l.drop f).take (t - f)) = m at c hlt ⊢
  have q1 : RowKit.wrap64 (m : Int) = (m : Int) := by unfold RowKit.wrap64; omega
  have q2 : IntKind.i64.wrap (m : Int) = (m : Int) := i64_wrap_nat (by omega)
  have z1 : (f : Int) ≤ (t : Int) := by omega
  have z2 : (t : Int) ≤ (cap : Int) := by omega
  have z3 : ¬ cap = f := by omega
  clear hs hlen hle hlt hx
  go_enter Try.func42, Try.ntmps42
  go_wp2_with fail
  refine c.mono ?_
  rintro e w1 ⟨rfl, rfl⟩
  go_wp2_with fail
  go_ret
  exact ⟨rfl, rfl⟩

theorem reffit_one (p : Pl) (w : World) : ∃ a b c d e f g h : Int, Calls Try.prog 24 #[p.v] w fun x w' => x = .returned (.tuple #[lay8 a b c d e f g h, .int .i64 (if p.Fits then 0 else 12)]) ∧ Keep [] w w' := by
  by_cases hf : p.Fits
  · refine ⟨2, 2 + p.lg, p.page, p.sec - p.page, p.per, (p.room - 10) / 20, p.tree, p.rs * p.room, (refFit_any p w).mono ?_⟩
    rintro x w' ⟨rfl, hk⟩
    rw [if_pos hf, if_pos hf]
    exact ⟨rfl, hk⟩
  · refine ⟨0, 0, 0, 0, 0, 0, 0, 0, (refFit_any p w).mono ?_⟩
    rintro x w' ⟨rfl, hk⟩
    rw [if_neg hf, if_neg hf]
    exact ⟨rfl, hk⟩

set_option maxRecDepth 100000 in
set_option maxHeartbeats 1000000 in
theorem refPlanUnpack_no (x : Value) (l : List UInt8) (w : World) (hx : Bytes w x l) (hl : l.length ≠ 26) : Calls Try.prog 23 #[x] w fun e w' => e = .returned (.tuple #[plan0, .int .i64 5]) ∧ Keep [] w w' := by
  obtain ⟨ao, cap, rfl, hlc, hm, hcap⟩ := hx.form
  have hq : ((l.length : Int) != 26) = true := by simp; omega
  have hA := heap_alloc_new w (.cells #[.int .i64 0, .int .i64 0, .int .i64 0, .int .i64 0, .int .i64 0, .int .i64 0, .int .i64 0, .int .u64 0] 24)
  go_enter Try.func23, Try.ntmps23
  go_wp2
  exact bodyPost_ret (results_cell_tmp_row rfl _ _ w.heap.size 24 _ _ _ rfl hA Try.underlying24 rfl (by kernel_rfl)) rfl ⟨rfl, (Keep.refl [] w).alloc _⟩

set_option maxRecDepth 100000 in
set_option maxHeartbeats 1000000 in
set_option maxHeartbeats 4000000 in
theorem refPlanUnpack_yes (x : Value) (l : List UInt8) (w : World) (hx : Bytes w x l) (hl : l.length = 26) : Calls Try.prog 23 #[x] w fun e w' => e = .returned (.tuple (if (of26 l).Fits then #[(of26 l).v, .int .i64 0] else #[plan0, .int .i64 12])) ∧ Keep [] w w' := by
  obtain ⟨ao, cap, rfl, hlc, hm, hcap⟩ := hx.form
  have hF := reffit_one (of26 l)
  have hv : (of26 l).v = .agg #[.int .i64 (leOf (l.take 4) : Int), .int .i64 (leOf ((l.drop 4).take 4) : Int), .int .i64 (pn l 0 : Int), .int .i64 (pn l 1 : Int), .int .i64 (pn l 2 : Int), .int .i64 (pn l 3 : Int), .int .i64 (pn l 4 : Int), .int .u64 (leOf ((l.drop 18).take 8) : Int)] := rfl
  rw [hv] at hF ⊢
  obtain ⟨F, hFF⟩ : ∃ F : Bool, decide (of26 l).Fits = F := ⟨_, rfl⟩
  have e1 : (if (of26 l).Fits then (0 : Int) else 12) = if F = true then 0 else 12 := by rw [← hFF]; simp
  have e2 : (if (of26 l).Fits then #[Value.agg #[.int .i64 (leOf (l.take 4) : Int), .int .i64 (leOf ((l.drop 4).take 4) : Int), .int .i64 (pn l 0 : Int), .int .i64 (pn l 1 : Int), .int .i64 (pn l 2 : Int), .int .i64 (pn l 3 : Int), .int .i64 (pn l 4 : Int), .int .u64 (leOf ((l.drop 18).take 8) : Int)], .int .i64 0] else #[plan0, .int .i64 12]) = if F = true then #[Value.agg #[.int .i64 (leOf (l.take 4) : Int), .int .i64 (leOf ((l.drop 4).take 4) : Int), .int .i64 (pn l 0 : Int), .int .i64 (pn l 1 : Int), .int .i64 (pn l 2 : Int), .int .i64 (pn l 3 : Int), .int .i64 (pn l 4 : Int), .int .u64 (leOf ((l.drop 18).take 8) : Int)], .int .i64 0] else #[plan0, .int .i64 12] := by rw [← hFF]; simp
  rw [e1] at hF
  rw [e2]
  clear e1 e2 hFF hv
  obtain ⟨b, o, rfl, hb, -⟩ := hx.spot (by omega)
  have hkx : ∀ w', Keep [w.heap.size + 1] (w.alloc (.cells #[.int .i64 0, .int .i64 0, .int .i64 0, .int .i64 0, .int .i64 0, .int .i64 0, .int .i64 0, .int .u64 0] 24)) w' → Bytes w' (.slice (some ⟨b, o, none⟩) l.length cap) l := fun w' h => hx.keep ((((Keep.refl [] w).alloc _).mono (by simp)).trans h) (by intro b' h1 h2; simp [Value.ownBlock] at h1 h2; omega)
  have hat := fun f t w' h => refAt_any b o _ cap l w' (hkx w' h) f t
  have c_n1 : ∀ w', Keep [w.heap.size + 1] (w.alloc (.cells #[.int .i64 0, .int .i64 0, .int .i64 0, .int .i64 0, .int .i64 0, .int .i64 0, .int .i64 0, .int .u64 0] 24)) w' → Calls Try.prog 42 #[.slice (some ⟨b, o, none⟩) l.length cap, .int .i64 0, .int .i64 4] w' (fun e w'' => e = .returned (.int .i64 (leOf (l.take 4) : Int)) ∧ w' = w'') := fun w' h => hat 0 4 w' h (by omega) (by omega) (by omega)
  have c_n2 : ∀ w', Keep [w.heap.size + 1] (w.alloc (.cells #[.int .i64 0, .int .i64 0, .int .i64 0, .int .i64 0, .int .i64 0, .int .i64 0, .int .i64 0, .int .u64 0] 24)) w' → Calls Try.prog 42 #[.slice (some ⟨b, o, none⟩) l.length cap, .int .i64 4, .int .i64 8] w' (fun e w'' => e = .returned (.int .i64 (leOf ((l.drop 4).take 4) : Int)) ∧ w' = w'') := fun w' h => hat 4 8 w' h (by omega) (by omega) (by omega)
  have c_p0 : ∀ w', Keep [w.heap.size + 1] (w.alloc (.cells #[.int .i64 0, .int .i64 0, .int .i64 0, .int .i64 0, .int .i64 0, .int .i64 0, .int .i64 0, .int .u64 0] 24)) w' → Calls Try.prog 42 #[.slice (some ⟨b, o, none⟩) l.length cap, .int .i64 8, .int .i64 10] w' (fun e w'' => e = .returned (.int .i64 (pn l 0 : Int)) ∧ w' = w'') := fun w' h => hat 8 10 w' h (by omega) (by omega) (by omega)
  have c_p1 : ∀ w', Keep [w.heap.size + 1] (w.alloc (.cells #[.int .i64 0, .int .i64 0, .int .i64 0, .int .i64 0, .int .i64 0, .int .i64 0, .int .i64 0, .int .u64 0] 24)) w' → Calls Try.prog 42 #[.slice (some ⟨b, o, none⟩) l.length cap, .int .i64 10, .int .i64 12] w' (fun e w'' => e = .returned (.int .i64 (pn l 1 : Int)) ∧ w' = w'') := fun w' h => hat 10 12 w' h (by omega) (by omega) (by omega)
  have c_p2 : ∀ w', Keep [w.heap.size + 1] (w.alloc (.cells #[.int .i64 0, .int .i64 0, .int .i64 0, .int .i64 0, .int .i64 0, .int .i64 0, .int .i64 0, .int .u64 0] 24)) w' → Calls Try.prog 42 #[.slice (some ⟨b, o, none⟩) l.length cap, .int .i64 12, .int .i64 14] w' (fun e w'' => e = .returned (.int .i64 (pn l 2 : Int)) ∧ w' = w'') := fun w' h => hat 12 14 w' h (by omega) (by omega) (by omega)
  have c_p3 : ∀ w', Keep [w.heap.size + 1] (w.alloc (.cells #[.int .i64 0, .int .i64 0, .int .i64 0, .int .i64 0, .int .i64 0, .int .i64 0, .int .i64 0, .int .u64 0] 24)) w' → Calls Try.prog 42 #[.slice (some ⟨b, o, none⟩) l.length cap, .int .i64 14, .int .i64 16] w' (fun e w'' => e = .returned (.int .i64 (pn l 3 : Int)) ∧ w' = w'') := fun w' h => hat 14 16 w' h (by omega) (by omega) (by omega)
  have c_p4 : ∀ w', Keep [w.heap.size + 1] (w.alloc (.cells #[.int .i64 0, .int .i64 0, .int .i64 0, .int .i64 0, .int .i64 0, .int .i64 0, .int .i64 0, .int .u64 0] 24)) w' → Calls Try.prog 42 #[.slice (some ⟨b, o, none⟩) l.length cap, .int .i64 16, .int .i64 18] w' (fun e w'' => e = .returned (.int .i64 (pn l 4 : Int)) ∧ w' = w'') := fun w' h => hat 16 18 w' h (by omega) (by omega) (by omega)
  have hsub : ∀ w', Keep [w.heap.size + 1] (w.alloc (.cells #[.int .i64 0, .int .i64 0, .int .i64 0, .int .i64 0, .int .i64 0, .int .i64 0, .int .i64 0, .int .u64 0] 24)) w' → Calls Try.prog 43 #[.slice (some ⟨b, o + 18, none⟩) (26 - 18) (cap - 18)] w' (fun e w'' => e = .returned (.int .u64 (leOf ((l.drop 18).take 8) : Int)) ∧ w' = w'') := fun w' h => refOf_any _ _ w' ((hkx w' h).sub (f := 18) (t := 26) (by omega) (by omega) (by omega)) (by rw [List.length_take]; omega)
  have z2 : (26 : Int) ≤ (cap : Int) := by omega
  have z3 : ¬ cap = 18 := by omega
  have z4 : (26 : Int) ≤ (l.length : Int) := by omega
  have hq : ((l.length : Int) != 26) = false := by simp; omega
  obtain ⟨n1, hn1⟩ : ∃ n, leOf (l.take 4) = n := ⟨_, rfl⟩
  rw [hn1] at c_n1 hF ⊢
  clear hn1
  obtain ⟨n2, hn2⟩ : ∃ n, leOf ((l.drop 4).take 4) = n := ⟨_, rfl⟩
  rw [hn2] at c_n2 hF ⊢
  clear hn2
  obtain ⟨p0, hp0⟩ : ∃ n, pn l 0 = n := ⟨_, rfl⟩
  rw [hp0] at c_p0 hF ⊢
  clear hp0
  obtain ⟨p1, hp1⟩ : ∃ n, pn l 1 = n := ⟨_, rfl⟩
  rw [hp1] at c_p1 hF ⊢
  clear hp1
  obtain ⟨p2, hp2⟩ : ∃ n, pn l 2 = n := ⟨_, rfl⟩
  rw [hp2] at c_p2 hF ⊢
  clear hp2
  obtain ⟨p3, hp3⟩ : ∃ n, pn l 3 = n := ⟨_, rfl⟩
  rw [hp3] at c_p3 hF ⊢
  clear hp3
  obtain ⟨p4, hp4⟩ : ∃ n, pn l 4 = n := ⟨_, rfl⟩
  rw [hp4] at c_p4 hF ⊢
  clear hp4
  obtain ⟨n3, hn3⟩ : ∃ n, leOf ((l.drop 18).take 8) = n := ⟨_, rfl⟩
  rw [hn3] at hsub hF ⊢
  clear hn3 hkx hat hx hl
  have HF := Lib.hid hF
  have C_n1 := Lib.hid c_n1
  have C_n2 := Lib.hid c_n2
  have C_p0 := Lib.hid c_p0
  have C_p1 := Lib.hid c_p1
  have C_p2 := Lib.hid c_p2
  have C_p3 := Lib.hid c_p3
  have C_p4 := Lib.hid c_p4
  have HSUB := Lib.hid hsub
  clear hF hsub c_n1 c_n2 c_p0 c_p1 c_p2 c_p3 c_p4
  have hA := heap_alloc_new w (.cells #[.int .i64 0, .int .i64 0, .int .i64 0, .int .i64 0, .int .i64 0, .int .i64 0, .int .i64 0, .int .u64 0] 24)
  have hK0 := (Keep.refl [] w).alloc (.cells #[.int .i64 0, .int .i64 0, .int .i64 0, .int .i64 0, .int .i64 0, .int .i64 0, .int .i64 0, .int .u64 0] 24)
  go_enter Try.func23, Try.ntmps23
  go_wp2_with fail
  refine wp_region_his [w.heap.size + 1] [18, 19] (fun _ => 0) (by kernel_rfl) (by kernel_rfl) ?_
  intro w1 hk1 hh1
  have hA1 := hk1.blk (by simp) hA
  have hK1 := hK0.trans hk1
  have hk1' : Keep [w.heap.size + 1] (w.alloc (.cells #[.int .i64 0, .int .i64 0, .int .i64 0, .int .i64 0, .int .i64 0, .int .i64 0, .int .i64 0, .int .u64 0] 24)) w1 := hk1.mono (by simp)
  have hs1 : w1.heap.size = w.heap.size + 1 := by rw [hh1]; simp
  have G : ∀ {w'}, Keep [w.heap.size + 1] w1 w' → Keep [w.heap.size + 1] (w.alloc (.cells #[.int .i64 0, .int .i64 0, .int .i64 0, .int .i64 0, .int .i64 0, .int .i64 0, .int .i64 0, .int .u64 0] 24)) w' := fun h => hk1'.trans h
  clear hA hh1 hk1 hK0
  (repeat (first | (refine his_q rfl rfl (fun K hK => ?_); apply Exists.intro; refine ⟨fun w' hC => ?_, ?_⟩; ((try simp [Sg.upd] at hC); go_simp <;> rfl); go_simp; refine hK _ _ ?_; clear hK K) | (refine his_s rfl (fun K hK => ?_); go_simp; refine hK _ _ ?_; clear hK K)))
  refine his_c rfl rfl (.int .i64 (n1 : Int)) (fun K hK => ?_)
  refine ⟨fun w' hC => Yields.call _ _ ?_ (by kernel_rfl) (C_n1.out w' (G hC)), ?_⟩
  · go_simp
  go_simp
  refine hK _ _ ?_
  clear hK K
  (repeat (first | (refine his_q rfl rfl (fun K hK => ?_); apply Exists.intro; refine ⟨fun w' hC => ?_, ?_⟩; ((try simp [Sg.upd] at hC); go_simp <;> rfl); go_simp; refine hK _ _ ?_; clear hK K) | (refine his_s rfl (fun K hK => ?_); go_simp; refine hK _ _ ?_; clear hK K)))
  refine his_c rfl rfl (.int .i64 (n2 : Int)) (fun K hK => ?_)
  refine ⟨fun w' hC => Yields.call _ _ ?_ (by kernel_rfl) (C_n2.out w' (G hC)), ?_⟩
  · go_simp
  go_simp
  refine hK _ _ ?_
  clear hK K
  (repeat (first | (refine his_q rfl rfl (fun K hK => ?_); apply Exists.intro; refine ⟨fun w' hC => ?_, ?_⟩; ((try simp [Sg.upd] at hC); go_simp <;> rfl); go_simp; refine hK _ _ ?_; clear hK K) | (refine his_s rfl (fun K hK => ?_); go_simp; refine hK _ _ ?_; clear hK K)))
  refine his_c rfl rfl (.int .i64 (p0 : Int)) (fun K hK => ?_)
  refine ⟨fun w' hC => Yields.call _ _ ?_ (by kernel_rfl) (C_p0.out w' (G hC)), ?_⟩
  · go_simp
  go_simp
  refine hK _ _ ?_
  clear hK K
  (repeat (first | (refine his_q rfl rfl (fun K hK => ?_); apply Exists.intro; refine ⟨fun w' hC => ?_, ?_⟩; ((try simp [Sg.upd] at hC); go_simp <;> rfl); go_simp; refine hK _ _ ?_; clear hK K) | (refine his_s rfl (fun K hK => ?_); go_simp; refine hK _ _ ?_; clear hK K)))
  refine his_c rfl rfl (.int .i64 (p1 : Int)) (fun K hK => ?_)
  refine ⟨fun w' hC => Yields.call _ _ ?_ (by kernel_rfl) (C_p1.out w' (G hC)), ?_⟩
  · go_simp
  go_simp
  refine hK _ _ ?_
  clear hK K
  (repeat (first | (refine his_q rfl rfl (fun K hK => ?_); apply Exists.intro; refine ⟨fun w' hC => ?_, ?_⟩; ((try simp [Sg.upd] at hC); go_simp <;> rfl); go_simp; refine hK _ _ ?_; clear hK K) | (refine his_s rfl (fun K hK => ?_); go_simp; refine hK _ _ ?_; clear hK K)))
  refine his_c rfl rfl (.int .i64 (p2 : Int)) (fun K hK => ?_)
  refine ⟨fun w' hC => Yields.call _ _ ?_ (by kernel_rfl) (C_p2.out w' (G hC)), ?_⟩
  · go_simp
  go_simp
  refine hK _ _ ?_
  clear hK K
  (repeat (first | (refine his_q rfl rfl (fun K hK => ?_); apply Exists.intro; refine ⟨fun w' hC => ?_, ?_⟩; ((try simp [Sg.upd] at hC); go_simp <;> rfl); go_simp; refine hK _ _ ?_; clear hK K) | (refine his_s rfl (fun K hK => ?_); go_simp; refine hK _ _ ?_; clear hK K)))
  refine his_c rfl rfl (.int .i64 (p3 : Int)) (fun K hK => ?_)
  refine ⟨fun w' hC => Yields.call _ _ ?_ (by kernel_rfl) (C_p3.out w' (G hC)), ?_⟩
  · go_simp
  go_simp
  refine hK _ _ ?_
  clear hK K
  (repeat (first | (refine his_q rfl rfl (fun K hK => ?_); apply Exists.intro; refine ⟨fun w' hC => ?_, ?_⟩; ((try simp [Sg.upd] at hC); go_simp <;> rfl); go_simp; refine hK _ _ ?_; clear hK K) | (refine his_s rfl (fun K hK => ?_); go_simp; refine hK _ _ ?_; clear hK K)))
  refine his_c rfl rfl (.int .i64 (p4 : Int)) (fun K hK => ?_)
  refine ⟨fun w' hC => Yields.call _ _ ?_ (by kernel_rfl) (C_p4.out w' (G hC)), ?_⟩
  · go_simp
  go_simp
  refine hK _ _ ?_
  clear hK K
  (repeat (first | (refine his_q rfl rfl (fun K hK => ?_); apply Exists.intro; refine ⟨fun w' hC => ?_, ?_⟩; ((try simp [Sg.upd] at hC); go_simp <;> rfl); go_simp; refine hK _ _ ?_; clear hK K) | (refine his_s rfl (fun K hK => ?_); go_simp; refine hK _ _ ?_; clear hK K)))
  refine his_c rfl rfl (.int .u64 (n3 : Int)) (fun K hK => ?_)
  refine ⟨fun w' hC => Yields.call _ _ ?_ (by kernel_rfl) (HSUB.out w' (G hC)), ?_⟩
  · go_simp
  go_simp
  refine hK _ _ ?_
  clear hK K
  (repeat (first | (refine his_q rfl rfl (fun K hK => ?_); apply Exists.intro; refine ⟨fun w' hC => ?_, ?_⟩; ((try simp [Sg.upd] at hC); go_simp <;> rfl); go_simp; refine hK _ _ ?_; clear hK K) | (refine his_s rfl (fun K hK => ?_); go_simp; refine hK _ _ ?_; clear hK K)))
  (refine his_l rfl rfl (fun K hK => ?_); go_simp)
  refine hK _ _ ((Keep.refl _ _).alloc _) ?_
  clear hK K
  have hP := heap_alloc_new w1 (.cells #[.int .i64 0, .int .i64 0, .int .i64 0, .int .i64 0, .int .i64 0, .int .i64 0, .int .i64 0, .int .u64 0] 24)
  rw [hs1] at hP
  have hA2 := (((Keep.refl [] w1).alloc (.cells #[.int .i64 0, .int .i64 0, .int .i64 0, .int .i64 0, .int .i64 0, .int .i64 0, .int .i64 0, .int .u64 0] 24))).blk (by simp) hA1
  refine his_l rfl rfl (fun K hK => ?_)
  refine loudly_store_row 24 (.tmp 4) (.tmp 28) rfl (w.heap.size + 1) #[.int .i64 (n1 : Int), .int .i64 (n2 : Int), .int .i64 (p0 : Int), .int .i64 (p1 : Int), .int .i64 (p2 : Int), .int .i64 (p3 : Int), .int .i64 (p4 : Int), .int .u64 (n3 : Int)] rfl rfl 24 _ hP (by kernel_rfl) (by rfl) (by kernel_rfl) ?_
  refine hK _ _ ((Keep.refl _ _).setRow (.inl (by simp)) _) ?_
  clear hK K
  refine his_nil ?_
  have hA3 : ((w1.alloc (.cells #[.int .i64 0, .int .i64 0, .int .i64 0, .int .i64 0, .int .i64 0, .int .i64 0, .int .i64 0, .int .u64 0] 24)).setRow (w.heap.size + 1) #[.int .i64 (n1 : Int), .int .i64 (n2 : Int), .int .i64 (p0 : Int), .int .i64 (p1 : Int), .int .i64 (p2 : Int), .int .i64 (p3 : Int), .int .i64 (p4 : Int), .int .u64 (n3 : Int)]).heap[w.heap.size]? = _ := (setRow_other _ _ _ _ (by omega)).trans hA2
  have hP3 := setRow_heap _ _ _ #[.int .i64 (n1 : Int), .int .i64 (n2 : Int), .int .i64 (p0 : Int), .int .i64 (p1 : Int), .int .i64 (p2 : Int), .int .i64 (p3 : Int), .int .i64 (p4 : Int), .int .u64 (n3 : Int)] _ _ hP
  have hK3 : Keep [] w ((w1.alloc (.cells #[.int .i64 0, .int .i64 0, .int .i64 0, .int .i64 0, .int .i64 0, .int .i64 0, .int .i64 0, .int .u64 0] 24)).setRow (w.heap.size + 1) #[.int .i64 (n1 : Int), .int .i64 (n2 : Int), .int .i64 (p0 : Int), .int .i64 (p1 : Int), .int .i64 (p2 : Int), .int .i64 (p3 : Int), .int .i64 (p4 : Int), .int .u64 (n3 : Int)]) := (hK1.alloc _).setRow (.inr (by omega)) _
  clear hP hA2 hA1 hK1 hk1' hs1 G HSUB C_n1 C_n2 C_p0 C_p1 C_p2 C_p3 C_p4
  generalize (w1.alloc (.cells #[.int .i64 0, .int .i64 0, .int .i64 0, .int .i64 0, .int .i64 0, .int .i64 0, .int .i64 0, .int .u64 0] 24)).setRow (w.heap.size + 1) #[.int .i64 (n1 : Int), .int .i64 (n2 : Int), .int .i64 (p0 : Int), .int .i64 (p1 : Int), .int .i64 (p2 : Int), .int .i64 (p3 : Int), .int .i64 (p4 : Int), .int .u64 (n3 : Int)] = w3 at hA3 hP3 hK3 ⊢
  have g0 := cell_of_row w3 _ 0 _ _ _ hP3
  have g1 := cell_of_row w3 _ 1 _ _ _ hP3
  have g2 := cell_of_row w3 _ 2 _ _ _ hP3
  have g3 := cell_of_row w3 _ 3 _ _ _ hP3
  have g4 := cell_of_row w3 _ 4 _ _ _ hP3
  have g5 := cell_of_row w3 _ 5 _ _ _ hP3
  have g6 := cell_of_row w3 _ 6 _ _ _ hP3
  have g7 := cell_of_row w3 _ 7 _ _ _ hP3
  simp at g0 g1 g2 g3 g4 g5 g6 g7
  obtain ⟨la, lb, lc, ld, le', lf, lg', lh, hFc⟩ := HF.out w3
  cases F with
  | true =>
    simp only [lay8, if_true, Bool.false_eq_true, if_false] at hFc ⊢
    go_wp2_with fail
    refine hFc.mono ?_
    rintro e w7 ⟨rfl, k7⟩
    have hA7 := k7.blk (by simp) hA3
    have hP7 := k7.blk (by simp) hP3
    have hK8 := fun o => (hK3.trans k7).alloc o
    have n7 : w.heap.size + 1 < w7.heap.size := (Array.getElem?_eq_some_iff.1 hP7).1
    have hA8 := fun o => (heap_alloc_old w7 o (r := w.heap.size) (by omega)).trans hA7
    have hP8 := fun o => (heap_alloc_old w7 o n7).trans hP7
    have HA8 := Lib.hid hA8
    have HP8 := Lib.hid hP8
    clear hA8 hP8 hA7 hP7 hFc g0 g1 g2 g3 g4 g5 g6 g7 hA3 hP3
    go_wp2_with (first | (refine wpList_load_row rfl 24 (.tmp 4) rfl (w.heap.size + 1) rfl 24 _ _ _ (HP8.out _) Try.underlying24 rfl (by kernel_rfl) ?_) | (refine wpList_store_row rfl 24 (.tmp 2) _ rfl w.heap.size #[.int .i64 (n1 : Int), .int .i64 (n2 : Int), .int .i64 (p0 : Int), .int .i64 (p1 : Int), .int .i64 (p2 : Int), .int .i64 (p3 : Int), .int .i64 (p4 : Int), .int .u64 (n3 : Int)] rfl rfl 24 _ (HA8.out _) (by kernel_rfl) (by rfl) (by kernel_rfl) ?_))
    exact bodyPost_ret (results_cell_tmp_row rfl _ _ w.heap.size 24 #[.int .i64 (n1 : Int), .int .i64 (n2 : Int), .int .i64 (p0 : Int), .int .i64 (p1 : Int), .int .i64 (p2 : Int), .int .i64 (p3 : Int), .int .i64 (p4 : Int), .int .u64 (n3 : Int)] _ _ rfl (setRow_heap _ _ _ _ _ _ (HA8.out _)) Try.underlying24 rfl (by kernel_rfl)) rfl ⟨rfl, (hK8 _).setRow (.inr (Nat.le_refl _)) _⟩
  | false =>
    simp only [lay8, if_true, Bool.false_eq_true, if_false] at hFc ⊢
    go_wp2_with fail
    refine hFc.mono ?_
    rintro e w7 ⟨rfl, k7⟩
    have hA7 := k7.blk (by simp) hA3
    have hP7 := k7.blk (by simp) hP3
    have hK8 := fun o => (hK3.trans k7).alloc o
    have n7 : w.heap.size + 1 < w7.heap.size := (Array.getElem?_eq_some_iff.1 hP7).1
    have hA8 := fun o => (heap_alloc_old w7 o (r := w.heap.size) (by omega)).trans hA7
    have hP8 := fun o => (heap_alloc_old w7 o n7).trans hP7
    have HA8 := Lib.hid hA8
    have HP8 := Lib.hid hP8
    clear hA8 hP8 hA7 hP7 hFc g0 g1 g2 g3 g4 g5 g6 g7 hA3 hP3
    go_wp2_with (first | (refine wpList_load_row rfl 24 (.tmp 4) rfl (w.heap.size + 1) rfl 24 _ _ _ (HP8.out _) Try.underlying24 rfl (by kernel_rfl) ?_) | (refine wpList_store_row rfl 24 (.tmp 2) _ rfl w.heap.size #[.int .i64 0, .int .i64 0, .int .i64 0, .int .i64 0, .int .i64 0, .int .i64 0, .int .i64 0, .int .u64 0] rfl rfl 24 _ (HA8.out _) (by kernel_rfl) (by rfl) (by kernel_rfl) ?_))
    exact bodyPost_ret (results_cell_tmp_row rfl _ _ w.heap.size 24 #[.int .i64 0, .int .i64 0, .int .i64 0, .int .i64 0, .int .i64 0, .int .i64 0, .int .i64 0, .int .u64 0] _ _ rfl (setRow_heap _ _ _ _ _ _ (HA8.out _)) Try.underlying24 rfl (by kernel_rfl)) rfl ⟨rfl, (hK8 _).setRow (.inr (Nat.le_refl _)) _⟩
end Go.Proofs.Ytncenlnbdebamaa
