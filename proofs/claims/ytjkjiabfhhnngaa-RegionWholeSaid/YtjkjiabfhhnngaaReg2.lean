import Derived.Test.YtjkjiabfhhnngaaReg1
import Derived.Test.YtjkjiabfhhnngaaAppZ
/-! The walks of region's write, Flush and begin. -/
namespace Go.Proofs.Ytjkjiabfhhnngaa
open Go.RowKit Sg
set_option linter.unusedSimpArgs false
set_option linter.unusedVariables false

/-- what a call upon a log has done -/
def LgStep (w : World) (D E : List Nat) (gl g : Nat) (c : Lc) (l' : Lg) (m' : Dev) (w' : World) : Prop := ∃ D' E', RV w' D' E' gl g c l' m' ∧ Grew w D D' ∧ Grew w E E' ∧ Keep (E ++ D) w w'
theorem LgStep.trans {w w1 w2 : World} {D E : List Nat} {gl g : Nat} {c : Lc} {l1 l2 : Lg} {m1 m2 : Dev} (h : LgStep w D E gl g c l1 m1 w1) (k : ∀ D1 E1, RV w1 D1 E1 gl g c l1 m1 → LgStep w1 D1 E1 gl g c l2 m2 w2) : LgStep w D E gl g c l2 m2 w2 := by
  obtain ⟨D1, E1, h1, g1, g2, k1⟩ := h
  obtain ⟨D2, E2, h2, g3, g4, k2⟩ := k D1 E1 h1
  refine ⟨D2, E2, h2, g1.trans g3 k1.size, g2.trans g4 k1.size, keep_bump k1 k2 (fun b hb => ?_)⟩
  rcases List.mem_append.1 hb with hb | hb
  · exact (g2.2 b hb).elim (fun h => .inl (List.mem_append_left _ h)) .inr
  · exact (g1.2 b hb).elim (fun h => .inl (List.mem_append_right _ h)) .inr
theorem LgStep.of {w w1 w2 : World} {D E : List Nat} {gl g : Nat} {c : Lc} {l2 : Lg} {m2 : Dev} (k : Keep [] w w1) (h : LgStep w1 D E gl g c l2 m2 w2) : LgStep w D E gl g c l2 m2 w2 := by
  obtain ⟨D2, E2, h2, g3, g4, k2⟩ := h
  exact ⟨D2, E2, h2, ⟨g3.1, fun b hb => (g3.2 b hb).elim .inl (fun h => .inr (Nat.le_trans k.size h))⟩, ⟨g4.1, fun b hb => (g4.2 b hb).elim .inl (fun h => .inr (Nat.le_trans k.size h))⟩, (k.mono (by simp)).trans k2⟩

theorem lput_acts (m : Dev) (a k p s : Int) (b : List UInt8) : (lput m a k p s b).1.acts ≤ m.acts + 1 ∧ (lput m a k p s b).1.n = m.n ∧ (lput m a k p s b).1.sz = m.sz := by
  unfold lput
  split
  · exact ⟨by simp, rfl, rfl⟩
  · unfold Dev.put
    split
    · exact ⟨by simp, rfl, rfl⟩
    · split
      · exact ⟨by simp, rfl, rfl⟩
      · exact ⟨Nat.le_refl _, rfl, rfl⟩
theorem Lc.Ok.of {c : Lc} {m m' : Dev} (h : c.Ok m) (h1 : m'.n = m.n) (h2 : m'.sz = m.sz) : c.Ok m' := ⟨h.r1, h.r2, h.s1, h.s2, h.m1, h.m2, by rw [h2]; exact h.sz, by rw [h1]; exact h.top⟩

set_option maxRecDepth 100000 in
set_option maxHeartbeats 1000000 in
set_option maxHeartbeats 4000000 in
theorem writeL_any (w : World) (D E : List Nat) (gl g : Nat) (c : Lc) (l : Lg) (m : Dev) (h : RV w D E gl g c l m) (hacts : m.acts ≤ 1000000000) (hat : l.at_ ≤ c.S * c.rm) (ha1 : 1 ≤ l.at_) (hp : l.pend.length ≤ c.rm) (hl : l.last ≤ 4398046511104) :
    Calls Try.prog 108 #[.pointer (some ⟨gl, 0, none⟩)] w fun e w' => e = .returned (.int .i64 (c.wr l m).2.2) ∧ LgStep w D E gl g c (c.wr l m).1 (c.wr l m).2.1 w' := by
  obtain ⟨pv, h⟩ := h
  obtain ⟨pa, pc, rfl⟩ := ownsRow_form h.own
  obtain ⟨i, hi⟩ : ∃ i, (l.at_ - 1) / c.rm = i := ⟨_, rfl⟩
  have m1 := h.ok.m1
  have m2 := h.ok.m2
  have r1 := h.ok.r1
  have r2 := h.ok.r2
  have s2 := h.ok.s2
  have hi2 : i ≤ 1000000 := by
    have h1 : (l.at_ - 1) / c.rm ≤ l.at_ - 1 := Nat.div_le_self _ _
    have h2 : c.S * c.rm ≤ 32 * 493 := Nat.mul_le_mul s2 m2
    omega
  obtain ⟨n, hn⟩ : ∃ n, c.sec l.last i = n := ⟨_, rfl⟩
  have hn2 : n ≤ 64 * 32 + 1000000 := by
    rw [← hn]
    unfold Lc.sec
    have h1 : l.last % c.R * c.S ≤ 64 * 32 := Nat.mul_le_mul (by have := Nat.mod_lt l.last (show 0 < c.R by omega); omega) s2
    omega
  have hat2 : l.at_ ≤ 15776 := Nat.le_trans hat (Nat.mul_le_mul s2 m2)
  have q1 : IntKind.i64.wrap ((l.at_ : Int) - 1) = ((l.at_ - 1 : Nat) : Int) := by rw [i64_wrap (by omega) (by omega)]; omega
  have q2 : (((l.at_ - 1 : Nat) : Int)).tdiv (c.rm : Int) = (i : Int) := by rw [Int.tdiv_eq_ediv_of_nonneg (by omega), ← hi]; rfl
  have q3 : IntKind.i64.wrap (i : Int) = (i : Int) := i64_wrap (by omega) (by omega)
  have z1 : ¬ ((c.rm : Int) = 0) := by omega
  have z2 : ((c.rm : Int) == 0) = false := by simp; omega
  have z3 : ¬ (c.rm = 0) := by omega
  have hsec := fun w' h' => sector_any w' gl g c l (.slice pa l.pend.length pc) h' r2 (by omega) s2 l.last i (by omega)
  rw [hn] at hsec
  have hwr : c.wr l m = ({ l with pend := [] }, lput m ((c.base + n : Nat) : Int) 3 (n : Int) (l.last : Int) l.pend) := by unfold Lc.wr; rw [hi, hn]
  rw [hwr]
  have H := Lib.hid h
  have HS := Lib.hid hsec
  clear h hsec hwr hn hi
  go_enter Try.func108, Try.ntmps108
  go_wp2_with fail
  refine wp_region_his [] [15] (fun _ => 0) (by kernel_rfl) (by kernel_rfl) ?_
  intro w2 hk2 hh
  clear hh
  have k17 := fun w' (h : Keep [] w2 w') => (H.out.row.keep (hk2.trans h) (by simp)).k17
  have k18 := fun w' (h : Keep [] w2 w') => (H.out.row.keep (hk2.trans h) (by simp)).k18
  have k19 := fun w' (h : Keep [] w2 w') => (H.out.row.keep (hk2.trans h) (by simp)).k19
  have HK := Lib.hid hk2
  clear hk2
  (repeat (first | (refine his_q rfl rfl (fun K hK => ?_); apply Exists.intro; refine ⟨fun w' hC => ?_, ?_⟩; ((try simp [Sg.upd] at hC); go_simp <;> rfl); go_simp; refine hK _ _ ?_; clear hK K) | (refine his_s rfl (fun K hK => ?_); go_simp; refine hK _ _ ?_; clear hK K)))
  (refine his_l rfl rfl (fun K hK => ?_); go_simp)
  refine (HS.out _ (H.out.row.keep HK.out (by simp))).mono ?_
  rintro x w3 ⟨rfl, hk3⟩
  refine hK _ _ hk3 ?_
  clear hK K
  (repeat (first | (refine his_q rfl rfl (fun K hK => ?_); apply Exists.intro; refine ⟨fun w' hC => ?_, ?_⟩; ((try simp [Sg.upd] at hC); go_simp <;> rfl); go_simp; refine hK _ _ ?_; clear hK K) | (refine his_s rfl (fun K hK => ?_); go_simp; refine hK _ _ ?_; clear hK K)))
  refine his_nil ?_
  have HK3 := Lib.hid (HK.out.trans hk3)
  clear k17 k18 k19 hk3 q1 q2 q3 z1 z2 z3
  go_wp2_with fail
  refine wp_region_his [] [10, 11] (fun _ => 0) (by kernel_rfl) (by kernel_rfl) ?_
  intro w4 hk4 hh
  clear hh
  have k18 := fun w' (h : Keep [] w4 w') => (H.out.row.keep (HK3.out.trans (hk4.trans h)) (by simp)).k18
  have k20 := fun w' (h : Keep [] w4 w') => (H.out.row.keep (HK3.out.trans (hk4.trans h)) (by simp)).k20
  have HK4 := Lib.hid (HK3.out.trans hk4)
  clear hk4
  (repeat (first | (refine his_q rfl rfl (fun K hK => ?_); apply Exists.intro; refine ⟨fun w' hC => ?_, ?_⟩; ((try simp [Sg.upd] at hC); go_simp <;> rfl); go_simp; refine hK _ _ ?_; clear hK K) | (refine his_s rfl (fun K hK => ?_); go_simp; refine hK _ _ ?_; clear hK K)))
  (refine his_l rfl rfl (fun K hK => ?_); go_simp)
  refine hK _ _ ((Keep.refl [] w4).alloc _) ?_
  clear hK K
  (refine his_last rfl (by kernel_rfl) rfl (fun K hK => ?_); go_simp)
  refine hK _ _ ?_
  clear hK K k18 k20
  refine his_nil ?_
  obtain ⟨w5, hw5⟩ : ∃ w5, w4.alloc (.cells #[.int .i64 3, .int .i64 (n : Int), .int .i64 (l.last : Int), .slice pa l.pend.length pc] 74) = w5 := ⟨_, rfl⟩
  have hk45 : Keep [] w4 w5 := by rw [← hw5]; exact (Keep.refl [] w4).alloc _
  have hX5 : w5.heap[w4.heap.size]? = some (.cells #[.int .i64 3, .int .i64 (n : Int), .int .i64 (l.last : Int), .slice pa l.pend.length pc] 74 (0, 0)) := by rw [← hw5]; exact heap_alloc_new _ _
  have h5 := H.out.keep (HK4.out.trans hk45) (by simp)
  have f20 := h5.row.free 20
  have k20 := h5.row.k20
  have hglt := h5.lt gl h5.gl
  have hgl4 : gl < w4.heap.size := Nat.lt_of_lt_of_le (H.out.lt gl H.out.gl) HK4.out.size
  obtain ⟨w6, hw6⟩ : ∃ w6, w5.setCell ⟨gl, 20, none⟩ (.slice none 0 0) = w6 := ⟨_, rfl⟩
  have hk56 : Keep [gl] w5 w6 := by rw [← hw6]; exact (Keep.refl [gl] w5).setCell (.inl (by simp)) _
  have h6 : RVAt w6 D E gl g c { l with pend := [] } m (.slice none 0 0) := h5.turn hk56 (by simp) (by rw [← hw6]; exact h5.row.pend _ _) (OwnB.nil _ _ _) (fun b h => h) (fun b h => .inl h) (fun b hb => by simp [Value.ownBlock] at hb)
  have hbv : Bytes w6 (.slice pa l.pend.length pc) l.pend := (h5.own.bytes (by omega)).keep hk56 (fun b hb hm => by simp at hm; exact h5.ne b hb hm)
  have hX6 := hk56.blk (by simp; omega) hX5
  have H6 := Lib.hid (And.intro h6 (And.intro hbv (And.intro hX6 (And.intro (HK4.out.trans hk45) hk56))))
  clear hk45 hX5 h5 hglt hgl4 hk56 h6 hbv hX6
  go_wp2_with fail
  have htop := H.out.ok.top
  have hmn := H.out.dv.1.n2
  have hsum : IntKind.i64.wrap ((c.base : Int) + (n : Int)) = ((c.base + n : Nat) : Int) := by rw [i64_wrap (by omega) (by omega)]; push_cast; rfl
  have hput := fun w' (h : DV w' D g m) hv => leafPut_any w' D g m h hacts ((c.base + n : Nat) : Int) 3 (n : Int) (l.last : Int) (by omega) (.slice pa l.pend.length pc) l.pend hv
  have HP := Lib.hid hput
  clear hput htop hmn
  have hglD : gl ∉ D := H.out.apart _ H.out.gl
  have hXD : w4.heap.size ∉ D := fun hm => by have := H.out.dv.lt _ hm; have := HK4.out.size; omega
  have HD := Lib.hid (And.intro hglD hXD)
  clear hglD hXD
  refine wp_region_his D [12] (fun _ => 0) (by kernel_rfl) (by kernel_rfl) ?_
  intro w7 hk7 hh
  clear hh
  have k0 := fun w' (h : Keep D w7 w') => ((H6.out.1.row.keep hk7 (by simp)).keep h HD.out.1).k0
  have k10 := fun w' (h : Keep D w7 w') => ((H6.out.1.row.keep hk7 (by simp)).keep h HD.out.1).k10
  have x0 := fun w' (h : Keep D w7 w') => cell_of_row w' _ 0 _ _ _ (h.blk HD.out.2 (hk7.blk (by simp) H6.out.2.2.1))
  have x1 := fun w' (h : Keep D w7 w') => cell_of_row w' _ 1 _ _ _ (h.blk HD.out.2 (hk7.blk (by simp) H6.out.2.2.1))
  have x2 := fun w' (h : Keep D w7 w') => cell_of_row w' _ 2 _ _ _ (h.blk HD.out.2 (hk7.blk (by simp) H6.out.2.2.1))
  have x3 := fun w' (h : Keep D w7 w') => cell_of_row w' _ 3 _ _ _ (h.blk HD.out.2 (hk7.blk (by simp) H6.out.2.2.1))
  simp at x0 x1 x2 x3
  have HK7 := Lib.hid hk7
  clear hk7
  (repeat (first | (refine his_q rfl rfl (fun K hK => ?_); apply Exists.intro; refine ⟨fun w' hC => ?_, ?_⟩; ((try simp [Sg.upd] at hC); go_simp <;> rfl); go_simp; refine hK _ _ ?_; clear hK K) | (refine his_s rfl (fun K hK => ?_); go_simp; refine hK _ _ ?_; clear hK K)))
  (refine his_l rfl rfl (fun K hK => ?_); go_simp)
  refine (HP.out _ (H6.out.1.dv.keep HK7.out (by simp)) (H6.out.2.1.keep HK7.out (by simp))).mono ?_
  rintro x w8 ⟨rfl, D8, hD8, hG8, hK8⟩
  refine hK _ _ hK8 ?_
  clear hK K k0 k10 x0 x1 x2 x3
  (repeat (first | (refine his_q rfl rfl (fun K hK => ?_); apply Exists.intro; refine ⟨fun w' hC => ?_, ?_⟩; ((try simp [Sg.upd] at hC); go_simp <;> rfl); go_simp; refine hK _ _ ?_; clear hK K) | (refine his_s rfl (fun K hK => ?_); go_simp; refine hK _ _ ?_; clear hK K)))
  refine his_nil ?_
  have la := lput_acts m ((c.base + n : Nat) : Int) 3 (n : Int) (l.last : Int) l.pend
  have h7 := H6.out.1.keep HK7.out (by simp)
  have hk67 := HK7.out
  have h8 : RVAt w8 D8 E gl g c { l with pend := [] } (lput m ((c.base + n : Nat) : Int) 3 (n : Int) (l.last : Int) l.pend).1 (.slice none 0 0) :=
    { dv := hD8, row := h7.row.keep hK8 (h7.apart _ h7.gl), own := h7.own.keep hK8 (fun b hb => by simp [Value.ownBlock] at hb), inE := h7.inE, gl := h7.gl,
      apart := fun b hb hm => (hG8.2 b hm).elim (h7.apart b hb) (fun h => by have := h7.lt b hb; omega), lt := fun b hb => Nat.lt_of_lt_of_le (h7.lt b hb) hK8.size, ok := h7.ok.of la.2.1 la.2.2 }
  have hkE : Keep (E ++ D) w w8 := by
    have k1 : Keep (E ++ D) w w6 := (H6.out.2.2.2.1.mono (by simp)).trans (H6.out.2.2.2.2.mono (fun b hb => by simp at hb; subst hb; exact List.mem_append_left _ H.out.gl))
    exact (k1.trans (hk67.mono (by simp))).trans (hK8.mono (fun b hb => List.mem_append_right _ hb))
  have hws : w.heap.size ≤ w7.heap.size := by
    have := H6.out.2.2.2.1.size
    have := H6.out.2.2.2.2.size
    have := hk67.size
    omega
  have HF : Hid (LgStep w D E gl g c { l with pend := [] } (lput m ((c.base + n : Nat) : Int) 3 (n : Int) (l.last : Int) l.pend).1 w8) := Lib.hid ⟨D8, E, ⟨_, h8⟩, ⟨hG8.1, fun b hb => (hG8.2 b hb).elim .inl (fun h => .inr (Nat.le_trans hws h))⟩, Grew.refl _ _, hkE⟩
  clear hD8 hG8 hK8 h7 h8 hkE hws la hk67
  go_wp2
  go_ret
  exact ⟨rfl, HF.out⟩

theorem Lg.Fit.fill {c : Lc} {l : Lg} {m : Dev} (h : l.Fit c) (ok : c.Ok m) (hp : l.pend ≠ []) : (c.fill l).at_ ≤ c.S * c.rm ∧ 1 ≤ (c.fill l).at_ ∧ (c.fill l).pend.length = c.rm ∧ l.pend.length < c.rm ∧ (c.fill l).at_ % c.rm = 0 := by
  have m1 := ok.m1
  have h0 : 0 < l.pend.length := List.length_pos_iff.2 hp
  have h1 : l.pend.length < c.rm := by rw [h.pend]; exact Nat.mod_lt _ (by omega)
  have h2 := h.at_
  have h3 := Nat.div_add_mod l.at_ c.rm
  rw [← h.pend] at h3
  have h4 : l.at_ / c.rm < c.S := by
    rw [Nat.div_lt_iff_lt_mul (by omega)]
    rcases Nat.lt_or_eq_of_le h2 with h | h
    · exact h
    · have h5 := h.symm ▸ (rfl : l.at_ % c.rm = l.at_ % c.rm)
      have h6 : l.at_ % c.rm = 0 := by rw [h]; exact Nat.mul_mod_left _ _
      rw [← ‹Lg.Fit c l›.pend] at h6
      omega
  have h5 : c.rm * (l.at_ / c.rm + 1) ≤ c.S * c.rm := by rw [Nat.mul_comm c.S]; exact Nat.mul_le_mul_left _ h4
  rw [Nat.mul_add, Nat.mul_one] at h5
  have e : (c.fill l).at_ = c.rm * (l.at_ / c.rm + 1) := by
    show l.at_ + (c.rm - l.pend.length) = _
    rw [Nat.mul_add, Nat.mul_one]
    omega
  refine ⟨?_, ?_, ?_, h1, ?_⟩
  · rw [e, Nat.mul_add, Nat.mul_one]; omega
  · show 1 ≤ l.at_ + (c.rm - l.pend.length); omega
  · show (l.pend ++ List.replicate (c.rm - l.pend.length) 0).length = _; simp; omega
  · rw [e]; exact Nat.mul_mod_right _ _

set_option maxRecDepth 100000 in
set_option maxHeartbeats 1000000 in
set_option maxHeartbeats 4000000 in
theorem flushL_any (w : World) (D E : List Nat) (gl g : Nat) (c : Lc) (l : Lg) (m : Dev) (h : RV w D E gl g c l m) (hf : l.Fit c) (hacts : m.acts ≤ 1000000000) :
    Calls Try.prog 51 #[.pointer (some ⟨gl, 0, none⟩)] w fun e w' => e = .returned (.int .i64 (c.flush l m).2.2) ∧ LgStep w D E gl g c (c.flush l m).1 (c.flush l m).2.1 w' := by
  obtain ⟨pv, h⟩ := h
  obtain ⟨pa, pc, rfl⟩ := ownsRow_form h.own
  by_cases hp : l.pend = []
  · have e0 : c.flush l m = (l, m, 0) := if_pos hp
    rw [e0]
    have hlen : l.pend.length = 0 := by rw [hp]; rfl
    have k20 := h.row.k20
    rw [hlen] at k20
    have HF : Hid (LgStep w D E gl g c l m w) := Lib.hid ⟨D, E, ⟨_, h⟩, Grew.refl _ _, Grew.refl _ _, Keep.refl _ _⟩
    clear h hp hlen hf e0
    go_enter Try.func51, Try.ntmps51
    go_wp2
    go_ret
    exact ⟨rfl, HF.out⟩
  obtain ⟨b1, b2, b3, b4, -⟩ := hf.fill h.ok hp
  have e0 : c.flush l m = c.wr (c.fill l) m := if_neg hp
  rw [e0]
  have m2 := h.ok.m2
  have s2 := h.ok.s2
  have hat2 : (c.fill l).at_ ≤ 15776 := Nat.le_trans b1 (Nat.mul_le_mul s2 m2)
  have hlast := hf.last
  obtain ⟨P, hP⟩ : ∃ P, l.pend.length = P := ⟨_, rfl⟩
  have hP0 : 0 < P := by rw [← hP]; exact List.length_pos_iff.2 hp
  rw [hP] at b4
  have ea : (c.fill l).at_ = l.at_ + (c.rm - P) := by show l.at_ + (c.rm - l.pend.length) = _; rw [hP]
  have ep : (c.fill l).pend = l.pend ++ List.replicate (c.rm - P) 0 := by show l.pend ++ List.replicate (c.rm - l.pend.length) 0 = _; rw [hP]
  have z1 : ¬ ((P : Int) = 0) := by omega
  have z2 : ((P : Int) == 0) = false := by simp; omega
  have q1 : IntKind.i64.wrap ((c.rm : Int) - (P : Int)) = ((c.rm - P : Nat) : Int) := by rw [i64_wrap (by omega) (by omega)]; omega
  have q2 : IntKind.i64.wrap ((l.at_ : Int) + ((c.rm - P : Nat) : Int)) = ((l.at_ + (c.rm - P) : Nat) : Int) := by rw [ea] at hat2; rw [i64_wrap (by omega) (by omega)]; push_cast; rfl
  have H := Lib.hid h
  have HE := Lib.hid (And.intro ea ep)
  have HB := Lib.hid (And.intro b1 (And.intro b2 (Nat.le_of_eq b3)))
  have k20 := h.row.k20
  rw [hP] at k20
  have HP := Lib.hid hP
  clear h hf hp e0 b1 b2 b3 ea ep hP
  go_enter Try.func51, Try.ntmps51
  go_wp2_with fail
  refine wp_region_his [] [17] (fun _ => 0) (by kernel_rfl) (by kernel_rfl) ?_
  intro w2 hk2 hh
  clear hh k20
  have k17 := fun w' (h : Keep [] w2 w') => (H.out.row.keep (hk2.trans h) (by simp)).k17
  have k19 := fun w' (h : Keep [] w2 w') => (H.out.row.keep (hk2.trans h) (by simp)).k19
  have k20 := fun w' (h : Keep [] w2 w') => (H.out.row.keep (hk2.trans h) (by simp)).k20
  rw [HP.out] at k20
  have f19 := (H.out.row.keep hk2 (by simp)).free 19
  have c19 := (H.out.row.keep hk2 (by simp)).k19
  have HK := Lib.hid hk2
  clear hk2
  (repeat (first | (refine his_q rfl rfl (fun K hK => ?_); apply Exists.intro; refine ⟨fun w' hC => ?_, ?_⟩; ((try simp [Sg.upd] at hC); go_simp <;> rfl); go_simp; refine hK _ _ ?_; clear hK K) | (refine his_s rfl (fun K hK => ?_); go_simp; refine hK _ _ ?_; clear hK K)))
  (refine his_last rfl (by kernel_rfl) rfl (fun K hK => ?_); go_simp)
  refine hK _ _ ?_
  clear hK K k17 k19 k20 f19 c19
  refine his_nil ?_
  have h2 := H.out.keep HK.out (by simp)
  have r3 := h2.row.at_ (l.at_ + (c.rm - P))
  rw [show (((l.at_ + (c.rm - P) : Nat)) : Int) = (l.at_ : Int) + ((c.rm - P : Nat) : Int) by push_cast; rfl] at r3
  obtain ⟨w3, hw3⟩ : ∃ w3, w2.setCell ⟨gl, 19, none⟩ (.int .i64 ((l.at_ : Int) + ((c.rm - P : Nat) : Int))) = w3 := ⟨_, rfl⟩
  rw [hw3]
  rw [hw3] at r3
  have hk23 : Keep [gl] w2 w3 := by rw [← hw3]; exact (Keep.refl [gl] w2).setCell (.inl (by simp)) _
  have h3 : RVAt w3 D E gl g c { l with at_ := l.at_ + (c.rm - P) } m (.slice pa P pc) := by
    have := h2.turn (l' := { l with at_ := l.at_ + (c.rm - P) }) hk23 (by simp) r3 (h2.own.keep hk23 (fun b hb hm => h2.ne b hb (by simpa using hm))) (fun b h => h) (fun b h => .inl h) h2.inE
    rwa [HP.out] at this
  have H3 := Lib.hid (And.intro h3 (And.intro HK.out hk23))
  clear h2 r3 hk23 h3 q2
  go_wp2_with fail
  refine wp_region_his (Value.slice pa P pc).ownBlock.toList [15, 18] (fun _ => 0) (by kernel_rfl) (by kernel_rfl) ?_
  intro w4 hk4 hh
  clear hh
  have h4 := H3.out.1.keep hk4 (by simp)
  have hgS : gl ∉ (Value.slice pa P pc).ownBlock.toList := fun hm => by
    rw [Option.mem_toList] at hm
    exact h4.ne _ hm rfl
  have k17 := fun w' (h : Keep (Value.slice pa P pc).ownBlock.toList w4 w') => (h4.row.keep h hgS).k17
  have k20 := fun w' (h : Keep (Value.slice pa P pc).ownBlock.toList w4 w') => (h4.row.keep h hgS).k20
  obtain ⟨pv', w5, hrun, ho5, hk5, hloc⟩ := run_append_zeros (P := Try.prog) (ty := 42) (kq := .i64) 0 Try.underlying42 Try.underlying3 (by kernel_rfl) h4.own (c.rm - P) (by show l.pend.length + _ ≤ _; rw [HP.out]; omega) (Nat.zero_le _)
  obtain ⟨pa', pc', rfl⟩ := ownsRow_form ho5
  have f20 := (h4.row.keep hk5 hgS).free 20
  have c20 := (h4.row.keep hk5 hgS).k20
  have HR := Lib.hid hrun
  have H4 := Lib.hid (And.intro h4 (And.intro hk4 (And.intro ho5 (And.intro hk5 (And.intro hgS hloc)))))
  clear hrun h4 hk4 ho5 hgS hloc
  (repeat (first | (refine his_q rfl rfl (fun K hK => ?_); apply Exists.intro; refine ⟨fun w' hC => ?_, ?_⟩; ((try simp [Sg.upd] at hC); go_simp <;> rfl); go_simp; refine hK _ _ ?_; clear hK K) | (refine his_s rfl (fun K hK => ?_); go_simp; refine hK _ _ ?_; clear hK K)))
  refine his_l rfl rfl (fun K hK => ?_)
  refine loudly_append_num (.tmp 32) (.tmp 42) 42 3 rfl rfl rfl HR.out ?_
  refine hK _ _ hk5 ?_
  clear hK K
  (repeat (first | (refine his_q rfl rfl (fun K hK => ?_); apply Exists.intro; refine ⟨fun w' hC => ?_, ?_⟩; ((try simp [Sg.upd] at hC); go_simp <;> rfl); go_simp; refine hK _ _ ?_; clear hK K) | (refine his_s rfl (fun K hK => ?_); go_simp; refine hK _ _ ?_; clear hK K)))
  (refine his_last rfl (by kernel_rfl) rfl (fun K hK => ?_); go_simp)
  refine hK _ _ ?_
  clear hK K k17 k20 f20 c20
  refine his_nil ?_
  obtain ⟨h4, hk4, ho5, -, hgS, hloc⟩ := H4.out
  have hr5 := h4.row.keep hk5 hgS
  obtain ⟨w6, hw6⟩ : ∃ w6, w5.setCell ⟨gl, 20, none⟩ (.slice pa' (l.pend ++ List.replicate (c.rm - P) 0).length pc') = w6 := ⟨_, rfl⟩
  have hk56 : Keep [gl] w5 w6 := by rw [← hw6]; exact (Keep.refl [gl] w5).setCell (.inl (by simp)) _
  have hne5 : ∀ b, (Value.slice pa' (l.pend ++ List.replicate (c.rm - P) 0).length pc').ownBlock = some b → b ≠ gl := fun b hb e => by
    subst e
    exact ho5.ne_row hr5 (by decide) hb
  have hk46 : Keep ((Value.slice pa P pc).ownBlock.toList ++ [gl]) w4 w6 := (hk5.mono (fun b hb => List.mem_append_left _ hb)).trans (hk56.mono (fun b hb => List.mem_append_right _ hb))
  have h6 : RVAt w6 D (E ++ newer w4 w6) gl g c (c.fill l) m (.slice pa' (l.pend ++ List.replicate (c.rm - P) 0).length pc') := by
    refine h4.turn hk46 (fun b hb => ?_) ?_ ?_ (fun b hb => List.mem_append_left _ hb) (fun b hb => ?_) (fun b hb => ?_)
    · rcases List.mem_append.1 hb with hb | hb
      · rw [Option.mem_toList] at hb
        exact .inr (.inl hb)
      · exact .inl (by simpa using hb)
    · have := hr5.pend (.slice pa' (l.pend ++ List.replicate (c.rm - P) 0).length pc') (l.pend ++ List.replicate (c.rm - P) 0)
      rw [hw6] at this
      have e : c.fill l = { l with at_ := l.at_ + (c.rm - P), pend := l.pend ++ List.replicate (c.rm - P) 0 } := by unfold Lc.fill; rw [HP.out]
      rw [e]
      exact this
    · rw [HE.out.2]
      exact ho5.keep hk56 (fun b hb hm => hne5 b hb (by simpa using hm))
    · exact (List.mem_append.1 hb).elim .inl (fun h => .inr (mem_newer.1 h))
    · rcases hloc with e | e
      · rw [e] at hb
        exact List.mem_append_left _ (h4.inE b hb)
      · rw [e] at hb
        cases hb
        refine List.mem_append_right _ (mem_newer.2 ⟨Nat.le_refl _, ?_⟩)
        obtain ⟨cs, hc⟩ := ownsRow_block ho5 e
        exact Nat.lt_of_lt_of_le (Array.getElem?_eq_some_iff.1 hc).1 hk56.size
  have hE4 := h4.inE
  have hglE := h4.gl
  have k1 : Keep [gl] w w3 := (H3.out.2.1.mono (by simp)).trans H3.out.2.2
  have k2 : Keep (E ++ D) w w6 := by
    refine ((k1.trans (hk4.mono (by simp))).mono (fun b hb => ?_)).trans (hk46.mono (fun b hb => ?_))
    · rw [List.mem_singleton.1 hb]; exact List.mem_append_left _ hglE
    · rcases List.mem_append.1 hb with hb | hb
      · rw [Option.mem_toList] at hb
        exact List.mem_append_left _ (hE4 b hb)
      · rw [List.mem_singleton.1 hb]; exact List.mem_append_left _ hglE
  have hws : w.heap.size ≤ w4.heap.size := Nat.le_trans k1.size hk4.size
  have hst : LgStep w D E gl g c (c.fill l) m w6 := ⟨D, E ++ newer w4 w6, ⟨_, h6⟩, Grew.refl _ _, ⟨fun b hb => List.mem_append_left _ hb, fun b hb => (List.mem_append.1 hb).elim .inl (fun h => .inr (Nat.le_trans hws (mem_newer.1 h).1))⟩, k2⟩
  have hcall := writeL_any w6 D (E ++ newer w4 w6) gl g c (c.fill l) m ⟨_, h6⟩ hacts HB.out.1 HB.out.2.1 HB.out.2.2 hlast
  rw [List.length_append, List.length_replicate] at hw6
  rw [hw6]
  have HST := Lib.hid hst
  have HS6 := Lib.hid (And.intro k2 (And.intro hws h6))
  clear hst h6 hk46 hne5 hk56 hr5 h4 hk4 ho5 hgS hloc hE4 hglE k1 k2 hk5 hws hw6
  go_wp2_with fail
  refine hcall.mono ?_
  rintro e w7 ⟨rfl, h7⟩
  go_wp2
  go_ret
  obtain ⟨D7, E7, r1, r2, r3, r4⟩ := h7
  obtain ⟨k2, hws, -⟩ := HS6.out
  refine ⟨rfl, D7, E7, r1, ⟨r2.1, fun b hb => (r2.2 b hb).elim .inl (fun h => .inr (Nat.le_trans k2.size h))⟩, ⟨fun b hb => r3.1 b (List.mem_append_left _ hb), fun b hb => (r3.2 b hb).elim (fun h => (List.mem_append.1 h).elim .inl (fun h => .inr (Nat.le_trans hws (mem_newer.1 h).1))) (fun h => .inr (Nat.le_trans k2.size h))⟩, keep_bump k2 r4 (fun b hb => ?_)⟩
  rcases List.mem_append.1 hb with hb | hb
  · exact (List.mem_append.1 hb).elim (fun h => .inl (List.mem_append_left _ h)) (fun h => .inr (Nat.le_trans hws (mem_newer.1 h).1))
  · exact .inl (List.mem_append_right _ hb)
end Go.Proofs.Ytjkjiabfhhnngaa
