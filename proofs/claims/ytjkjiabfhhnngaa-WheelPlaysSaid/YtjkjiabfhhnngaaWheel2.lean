import Derived.Test.YtjkjiabfhhnngaaWheel1
/-! The walks of wheel's Time, Len, at, Drop, Put. -/
namespace Go.Proofs.Ytjkjiabfhhnngaa
open Go.RowKit Sg
open Go.Maps (int_keyed keyOf_int_mk)
set_option linter.unusedSimpArgs false
set_option linter.unusedVariables false

set_option maxRecDepth 100000 in
set_option maxHeartbeats 1000000 in
theorem time_any (w : World) (D : List Nat) (g : Nat) (m : Wm) (h : WV w D g m) : Calls Try.prog 67 #[.pointer (some ⟨g, 0, none⟩)] w fun e w' => e = .returned (.int .i64 (m.time : Int)) ∧ w = w' := by
  obtain ⟨hw, dm, blk, h⟩ := h
  have c0 := h.c0
  go_enter Try.func67, Try.ntmps67
  go_wp2
  go_ret
  exact ⟨rfl, rfl⟩
set_option maxRecDepth 100000 in
set_option maxHeartbeats 1000000 in
theorem len_any (w : World) (D : List Nat) (g : Nat) (m : Wm) (h : WV w D g m) : Calls Try.prog 66 #[.pointer (some ⟨g, 0, none⟩)] w fun e w' => e = .returned (.int .i64 (m.ths.length : Int)) ∧ w = w' := by
  obtain ⟨hw, dm, blk, h⟩ := h
  have c1 := h.c1
  have hl := fun ty => h.due.len Try.underlying3 Try.underlying214 ty
  rw [List.length_map] at hl
  clear h
  go_enter Try.func66, Try.ntmps66
  go_wp2
  go_ret
  exact ⟨rfl, rfl⟩

theorem div_pow (x r : Nat) {q : Nat} (hq : x / 64 ^ r = q) : (x : Int) / 2 ^ (6 * (r : Int)).toNat = (q : Int) := by
  have e1 : (6 * (r : Int)).toNat = 6 * r := by omega
  have e2 : ((2 : Int) ^ (6 * r)) = ((64 ^ r : Nat) : Int) := by
    have : (2 : Nat) ^ (6 * r) = 64 ^ r := by rw [Nat.pow_mul]
    rw [← this]
    simp
  rw [e1, e2, ← hq, Int.natCast_ediv]
theorem shr_pow (x r : Nat) (y : Int) (hy : y = 6 * (r : Int)) (hr : r ≤ 10) {q : Nat} (hq : x / 64 ^ r = q) : Op.shift .shr .i64 (x : Int) .i64 y = pure (.int .i64 (q : Int)) := by
  rw [shift_shr_any _ _ _ _ (by omega)]
  have e1 : min y.toNat IntKind.i64.bits = 6 * r := by
    have : IntKind.i64.bits = 64 := rfl
    omega
  have e2 : ((2 : Int) ^ (6 * r)) = ((64 ^ r : Nat) : Int) := by
    have : (2 : Nat) ^ (6 * r) = 64 ^ r := by rw [Nat.pow_mul]
    rw [← this]
    simp
  rw [e1, e2, ← hq, Int.natCast_ediv]
set_option maxRecDepth 100000 in
set_option maxHeartbeats 1000000 in
theorem at_any (w : World) (D : List Nat) (g tm dm : Nat) (blk : Nat → Nat) (fd : Int → Option Value) (kd : List Int) (S : Nat → Int → Bool) (h : WhAt w D g tm dm blk fd kd S) (ht : tm ≤ top48) (a : Nat) (ha : a ≤ top48) :
    Calls Try.prog 114 #[.pointer (some ⟨g, 0, none⟩), .int .i64 (a : Int)] w fun e w' => e = .returned (.map (some (blk (plc tm a)))) ∧ Keep [] w w' := by
  unfold top48 at ht ha
  have H := Lib.hid h
  clear h
  go_enter Try.func114, Try.ntmps114
  go_wp2
  go_loopw [7] (fun i wr => ∃ (r : Nat), r ≤ 6 ∧ i = .int .i64 r ∧ Hid (∀ q < r, a / 64 ^ (q + 1) ≠ tm / 64 ^ (q + 1)) ∧ Hid (Keep [] w wr)) (fun i _ => 6 - (intOf i).toNat)
  case atStart => exact ⟨0, by omega, rfl, Lib.hid (fun q hq => absurd hq (by omega)), Lib.hid (Keep.refl _ _)⟩
  case round =>
    obtain ⟨r, hr, rfl, HQ, HK⟩ := hrel
    have hh := H.out.keep HK.out (by simp)
    have c0 := hh.c0
    by_cases hlt : r < 6
    · have t1 : (r : Int) < 6 := by omega
      obtain ⟨qa, hqa⟩ : ∃ q, a / 64 ^ (r + 1) = q := ⟨_, rfl⟩
      obtain ⟨qt, hqt⟩ : ∃ q, tm / 64 ^ (r + 1) = q := ⟨_, rfl⟩
      have sh1 := shr_pow a (r + 1) (IntKind.i64.wrap (6 * (r : Int) + 6)) (by rw [i64_wrap (by omega) (by omega)]; omega) (by omega) hqa
      have sh2 := shr_pow tm (r + 1) (IntKind.i64.wrap (6 * (r : Int) + 6)) (by rw [i64_wrap (by omega) (by omega)]; omega) (by omega) hqt
      by_cases hq : qa = qt
      · have t2 : ((qa : Int) == (qt : Int)) = true := by simp [hq]
        obtain ⟨ia, hia⟩ : ∃ q, a / 64 ^ r = q := ⟨_, rfl⟩
        obtain ⟨ka, hka⟩ : ∃ q, ia % 64 = q := ⟨_, rfl⟩
        have sh3 : (a : Int) / 2 ^ (6 * (r : Int)).toNat = (ia : Int) := div_pow a r hia
        have hkl : (ka : Int) < 64 := by omega
        have hk64 : ka < 64 := by omega
        have hm : ((ia : Int).tmod 64) = (ka : Int) := by rw [Int.tmod_eq_emod_of_nonneg (by omega)]; omega
        have hr6 : ringOf tm a = r := by
          have h1 := ringOf_min (t := tm) (a := a) hlt (by rw [hqa, hqt, hq])
          rcases Nat.lt_or_ge (ringOf tm a) r with h2 | h2
          · exact absurd (ringOf_eq (by omega)) (HQ.out _ h2)
          · omega
        have hpl : plc tm a = r * 64 + ka := by
          unfold plc
          rw [hr6, if_pos hlt, hia, hka]
          omega
        have ck := hh.ck (r * 64 + ka) (by omega)
        rw [← Nat.add_assoc] at ck
        have HP := Lib.hid hpl
        clear hpl hr6 hqa hqt hia hka
        go_wp2_with fail
        refine wp_region_his [] [] (fun _ => 0) (by kernel_rfl) (by kernel_rfl) ?_
        intro w2 hk2 hx
        clear hx
        have q0 := fun w' (h' : Keep [] w2 w') => h'.cell (p := ⟨g, 0, none⟩) (by simp) (hh.keep hk2 (by simp)).c0
        (repeat (first | (refine his_q rfl rfl (fun K hK => ?_); apply Exists.intro; refine ⟨fun w' hC => ?_, ?_⟩; ((try simp [Sg.upd] at hC); go_simp <;> rfl); go_simp; refine hK _ _ ?_; clear hK K) | (refine his_s rfl (fun K hK => ?_); go_simp; refine hK _ _ ?_; clear hK K)))
        refine his_nil ?_
        go_wp2_with fail
        refine wp_region_his [] [] (fun _ => 0) (by kernel_rfl) (by kernel_rfl) ?_
        intro w3 hk3 hx
        clear hx q0
        have q3 := fun w' (h' : Keep [] w3 w') => ((hk2.trans hk3).trans h').cell (p := ⟨g, 2 + r * 64 + ka, none⟩) (by simp) ck
        (repeat (first | (refine his_q rfl rfl (fun K hK => ?_); apply Exists.intro; refine ⟨fun w' hC => ?_, ?_⟩; ((try simp [Sg.upd] at hC); go_simp <;> rfl); go_simp; refine hK _ _ ?_; clear hK K) | (refine his_s rfl (fun K hK => ?_); go_simp; refine hK _ _ ?_; clear hK K)))
        refine his_nil ?_
        clear q3
        go_wp2
        go_ret
        exact ⟨by rw [HP.out]; rfl, (HK.out.trans hk2).trans hk3⟩
      · have t2 : ((qa : Int) == (qt : Int)) = false := by simpa using fun e => hq (by omega)
        have hne : ∀ q < r + 1, a / 64 ^ (q + 1) ≠ tm / 64 ^ (q + 1) := fun q hqr => by
          rcases Nat.lt_or_ge q r with h1 | h1
          · exact HQ.out q h1
          · obtain rfl : q = r := by omega
            rw [hqa, hqt]
            exact hq
        have HN := Lib.hid hne
        clear hne hqa hqt
        go_wp2_with fail
        refine wp_region_his [] [] (fun _ => 0) (by kernel_rfl) (by kernel_rfl) ?_
        intro w2 hk2 hx
        clear hx
        have q0 := fun w' (h' : Keep [] w2 w') => h'.cell (p := ⟨g, 0, none⟩) (by simp) (hh.keep hk2 (by simp)).c0
        (repeat (first | (refine his_q rfl rfl (fun K hK => ?_); apply Exists.intro; refine ⟨fun w' hC => ?_, ?_⟩; ((try simp [Sg.upd] at hC); go_simp <;> rfl); go_simp; refine hK _ _ ?_; clear hK K) | (refine his_s rfl (fun K hK => ?_); go_simp; refine hK _ _ ?_; clear hK K)))
        refine his_nil ?_
        clear q0
        go_wp2
        go_roundw
        case rel => exact ⟨r + 1, by omega, by go_num, HN, Lib.hid (HK.out.trans hk2)⟩
        case measure => simp [intOf]; omega
    · have t1 : ¬ (r : Int) < 6 := by omega
      obtain rfl : r = 6 := by omega
      have hpl : plc tm a = 384 := by
        unfold plc
        rw [if_neg ?_]
        intro h1
        exact HQ.out _ h1 (ringOf_eq h1)
      have ck := hh.ck 384 (by omega)
      go_wp2
      go_ret
      exact ⟨rfl, HK.out⟩

theorem look_none {l : List (Int × Nat)} {n : Int} (h : ∀ p ∈ l, p.1 ≠ n) : l.find? (fun p => p.1 == n) = none := by
  rw [List.find?_eq_none]
  intro p hp
  simpa using h p hp
theorem look_mem {l : List (Int × Nat)} {n : Int} {p : Int × Nat} (h : l.find? (fun p => p.1 == n) = some p) : p ∈ l ∧ p.1 = n :=
  ⟨List.mem_of_find?_eq_some h, by simpa using List.find?_some h⟩
theorem nd_eq {l : List (Int × Nat)} (h : (l.map (·.1)).Nodup) {p q : Int × Nat} (hp : p ∈ l) (hq : q ∈ l) (e : p.1 = q.1) : p = q := by
  induction l with
  | nil => cases hp
  | cons x l ih =>
    rw [List.map_cons, List.nodup_cons] at h
    rcases List.mem_cons.1 hp with rfl | hp' <;> rcases List.mem_cons.1 hq with rfl | hq'
    · rfl
    · exact (h.1 (List.mem_map.2 ⟨q, hq', e.symm⟩)).elim
    · exact (h.1 (List.mem_map.2 ⟨p, hp', e⟩)).elim
    · exact ih h.2 hp' hq'
theorem look_of {l : List (Int × Nat)} (h : (l.map (·.1)).Nodup) {p : Int × Nat} (hp : p ∈ l) : l.find? (fun q => q.1 == p.1) = some p := by
  cases hf : l.find? (fun q => q.1 == p.1) with
  | none =>
    rw [List.find?_eq_none] at hf
    exact (hf p hp (by simp)).elim
  | some q =>
    obtain ⟨h1, h2⟩ := look_mem hf
    rw [nd_eq h h1 hp h2]
theorem inP_drop (t : Nat) (l : List (Int × Nat)) (n : Int) (k : Nat) (x : Int) : inP t (dropD n l) k x = (inP t l k x && decide (x ≠ n)) := by
  rw [Bool.eq_iff_iff, Bool.and_eq_true, inP_iff, inP_iff, decide_eq_true_iff]
  constructor
  · rintro ⟨p, hp, rfl, h2⟩
    obtain ⟨h3, h4⟩ := mem_dropD.1 hp
    exact ⟨⟨p, h3, rfl, h2⟩, h4⟩
  · rintro ⟨⟨p, hp, rfl, h2⟩, h4⟩
    exact ⟨p, mem_dropD.2 ⟨hp, h4⟩, rfl, h2⟩
theorem dueF_drop (l : List (Int × Nat)) (n : Int) (x : Int) : dueF (dropD n l) x = delZ (dueF l) n x := by
  unfold dueF delZ
  by_cases e : x = n
  · subst e
    rw [if_pos rfl, look_none (fun p hp => (mem_dropD.1 hp).2)]
    rfl
  · rw [if_neg e]
    congr 1
    unfold dropD
    rw [List.find?_filter]
    congr 1
    funext p
    by_cases h : p.1 = x
    · have : p.1 ≠ n := by rw [h]; exact e
      simp [h, e]
    · simp [h]
theorem map_drop (l : List (Int × Nat)) (n : Int) : (dropD n l).map (·.1) = (l.map (·.1)).filter (fun i => decide (i ≠ n)) := by
  unfold dropD
  rw [List.filter_map]
  rfl
theorem zero_int (w : World) : (zeroValue 3).run Try.prog w = .ok (.int .i64 0) w := by kernel_rfl
theorem zero_bool (w : World) : (zeroValue 4).run Try.prog w = .ok (.bool false) w := by kernel_rfl

/-- what Drop tells -/
def wasD (m : Wm) (n : Int) : Nat × Bool := match m.ths.find? (fun p => p.1 == n) with | some p => (p.2, true) | none => (0, false)

set_option maxRecDepth 100000 in
set_option maxHeartbeats 1000000 in
set_option maxHeartbeats 4000000 in
theorem drop_any (w : World) (D : List Nat) (g : Nat) (m : Wm) (h : WV w D g m) (n : Int) (hn : (Lit.int .i64 n).wf = true) :
    Calls Try.prog 70 #[.pointer (some ⟨g, 0, none⟩), .int .i64 n] w fun e w' => e = .returned (.tuple #[.int .i64 ((wasD m n).1 : Int), .bool (wasD m n).2]) ∧ WV w' D g (m.drop n) ∧ Keep D w w' := by
  obtain ⟨hw, dm, blk, h⟩ := h
  have c1 := h.c1
  have hlk := h.due.look_ok Try.underlying3 Try.underlying214 (zero_int w) n hn
  cases hf : m.ths.find? (fun p => p.1 == n) with
  | none =>
    have e1 : wasD m n = (0, false) := by unfold wasD; rw [hf]
    have e2 : m.drop n = m := by
      have hne : ∀ p ∈ m.ths, p.1 ≠ n := fun p hp => by
        rw [List.find?_eq_none] at hf
        simpa using hf p hp
      unfold Wm.drop dropD
      rw [List.filter_eq_self.2 (fun p hp => by simpa using hne p hp)]
    have e3 : dueF m.ths n = none := by unfold dueF; rw [hf]; rfl
    rw [e1, e2]
    rw [e3] at hlk
    have H := Lib.hid h
    simp only [Option.getD_none, Option.isSome_none] at hlk
    clear h e1 e2 e3 hf
    go_enter Try.func70, Try.ntmps70
    go_wp2
    refine bodyPost_ret (results_tmp2 rfl _ _ _) rfl ?_
    exact ⟨rfl, ⟨hw, dm, blk, H.out⟩, Keep.refl _ _⟩
  | some p =>
    obtain ⟨hp, rfl⟩ := look_mem hf
    obtain ⟨n, a⟩ := p
    have e1 : wasD m n = (a, true) := by unfold wasD; rw [hf]
    have e3 : dueF m.ths n = some (.int .i64 (a : Int)) := by unfold dueF; rw [hf]; rfl
    have hlo := hw.lo _ hp
    simp only at hlo hn hlk c1 ⊢
    rw [e1]
    rw [e3] at hlk
    simp only [Option.getD_some, Option.isSome_some] at hlk
    have hat := at_any w D g m.time dm blk _ _ _ h hw.t a hlo.2
    have hj := plc_le m.time a
    obtain ⟨j, hje⟩ : ∃ j, plc m.time a = j := ⟨_, rfl⟩
    rw [hje] at hat hj
    have H := Lib.hid h
    have HP := Lib.hid hp
    clear h e1 e3 hf hlo hp
    go_enter Try.func70, Try.ntmps70
    go_wp2_with fail
    refine hat.mono ?_
    clear hat hlk c1
    rintro e w1 ⟨rfl, hk1⟩
    have h1 := H.out.keep hk1 (by simp)
    obtain ⟨ks, hm⟩ := h1.maps j hj
    obtain ⟨w2, hrun, hm2, hk2, hs2⟩ := hm.drop Try.underlying3 Try.underlying216 n hn 0
    have h2 := h1.turn hj hk2 (S' := inP m.time (dropD n m.ths)) (ks := ks.filter (fun i => decide (i ≠ n))) (hm2.congr fun x => by
      unfold setF delZ
      rw [inP_drop]
      by_cases hx : x = n
      · simp [hx]
      · simp [hx]) (fun i hi hne => by
      funext x
      rw [inP_drop]
      by_cases hx : x = n
      · subst hx
        have : inP m.time m.ths i x = false := by
          rw [Bool.eq_false_iff]
          intro ht
          obtain ⟨q, hq, e1, e2⟩ := inP_iff.1 ht
          have := nd_eq hw.nd hq HP.out e1
          subst this
          exact hne (e2.symm.trans hje)
        simp [this]
      · simp [hx]) (fun x hx => by
      rw [inP_drop, Bool.and_eq_true] at hx
      exact h1.sub j hj x hx.1)
    have c1 := h2.c1
    obtain ⟨w3, hrun3, hm3, hk3, hs3⟩ := h2.due.drop Try.underlying3 Try.underlying214 n hn 0
    have h3 := h2.dueTurn hk3 (fd' := dueF (dropD n m.ths)) (kd' := (dropD n m.ths).map (·.1)) (by rw [map_drop]; exact hm3.congr (dueF_drop _ _)) (fun i hi x hx => by
      rw [inP_iff] at hx
      obtain ⟨q, hq, rfl, -⟩ := hx
      exact List.mem_map.2 ⟨q, hq, rfl⟩)
    have HH := Lib.hid (And.intro h3 (((hk1.mono (T := D) (by simp)).trans (hk2.mono (T := D) (by simp; exact h1.inB j hj))).trans (hk3.mono (T := D) (by simp; exact h1.inM))))
    clear h3 hm3 hk3 hs3 h2 hk2 hs2 hm2 hm h1 hk1
    go_wp2
    refine bodyPost_ret (results_tmp2 rfl _ _ _) rfl ?_
    exact ⟨rfl, ⟨hw.drop n, dm, blk, HH.out.1⟩, HH.out.2⟩

theorem dueF_ins (p : Int × Nat) (l : List (Int × Nat)) (hnd : (l.map (·.1)).Nodup) (hp : ∀ q ∈ l, q.1 ≠ p.1) (x : Int) : dueF (insD p l) x = updZ (dueF l) p.1 (.int .i64 (p.2 : Int)) x := by
  have hn : ((insD p l).map (·.1)).Nodup := by
    rw [((insD_perm p l).map (·.1)).nodup_iff]
    refine List.nodup_cons.2 ⟨fun hm => ?_, hnd⟩
    obtain ⟨q, hq, e⟩ := List.mem_map.1 hm
    exact hp q hq e
  unfold dueF updZ
  by_cases e : x = p.1
  · subst e
    rw [if_pos rfl, look_of hn (mem_insD.2 (.inl rfl))]
    rfl
  · rw [if_neg e]
    congr 1
    cases hf : l.find? (fun q => q.1 == x) with
    | none =>
      refine look_none fun q hq => ?_
      rcases mem_insD.1 hq with rfl | hq
      · exact fun e2 => e e2.symm
      · rw [List.find?_eq_none] at hf
        simpa using hf q hq
    | some q =>
      obtain ⟨h1, rfl⟩ := look_mem hf
      exact look_of hn (mem_insD.2 (.inr h1))
theorem inP_ins (t : Nat) (p : Int × Nat) (l : List (Int × Nat)) (k : Nat) (x : Int) : inP t (insD p l) k x = (inP t l k x || (decide (p.1 = x) && decide (plc t p.2 = k))) := by
  rw [Bool.eq_iff_iff, Bool.or_eq_true, inP_iff, inP_iff, Bool.and_eq_true, decide_eq_true_iff, decide_eq_true_iff]
  constructor
  · rintro ⟨q, hq, h1, h2⟩
    rcases mem_insD.1 hq with rfl | hq
    · exact .inr ⟨h1, h2⟩
    · exact .inl ⟨q, hq, h1, h2⟩
  · rintro (⟨q, hq, h1, h2⟩ | ⟨h1, h2⟩)
    · exact ⟨q, mem_insD.2 (.inr hq), h1, h2⟩
    · exact ⟨p, mem_insD.2 (.inl rfl), h1, h2⟩

set_option maxRecDepth 100000 in
set_option maxHeartbeats 1000000 in
set_option maxHeartbeats 4000000 in
theorem put_any (w : World) (D : List Nat) (g : Nat) (m : Wm) (h : WV w D g m) (n a : Int) (hn : (Lit.int .i64 n).wf = true) (hlen : m.ths.length < 1000000) :
    Calls Try.prog 64 #[.pointer (some ⟨g, 0, none⟩), .int .i64 n, .int .i64 a] w fun e w' => e = .returned (.int .i64 ((m.put n a).2 : Int)) ∧ WV w' D g (m.put n a).1 ∧ Keep D w w' := by
  have c0 : w.cell? ⟨g, 0, none⟩ = some (.int .i64 (m.time : Int)) := by
    obtain ⟨-, dm, blk, h⟩ := h
    exact h.c0
  have H := Lib.hid h
  by_cases h1 : a ≤ (m.time : Int)
  · have e : m.put n a = (m, 2) := by unfold Wm.put; rw [if_pos (.inl h1)]
    rw [e]
    clear h e
    go_enter Try.func64, Try.ntmps64
    go_wp2
    go_ret
    exact ⟨rfl, H.out, Keep.refl _ _⟩
  by_cases h2 : (281474976710656 : Int) < a
  · have e : m.put n a = (m, 2) := by unfold Wm.put top48; rw [if_pos (.inr h2)]
    rw [e]
    clear h e
    go_enter Try.func64, Try.ntmps64
    go_wp2
    go_ret
    exact ⟨rfl, H.out, Keep.refl _ _⟩
  have e : m.put n a = ({ m with ths := insD (n, a.toNat) (dropD n m.ths) }, 0) := by unfold Wm.put top48; rw [if_neg (by omega)]
  have hwf := h.1.put (a := a) hn hlen
  rw [e] at hwf ⊢
  obtain ⟨b, rfl⟩ : ∃ b : Nat, a = (b : Int) := ⟨a.toNat, by omega⟩
  rw [Int.toNat_natCast] at hwf ⊢
  have hdr := drop_any w D g m h n hn
  have hlen2 : (dropD n m.ths).length < 1000000 := Nat.lt_of_le_of_lt (List.length_filter_le _ _) hlen
  have HWF := Lib.hid hwf
  clear h e hwf
  go_enter Try.func64, Try.ntmps64
  go_wp2_with fail
  refine hdr.mono ?_
  clear hdr c0
  rintro e w1 ⟨rfl, ⟨hw1, dm, blk, h1'⟩, hk1⟩
  have c1 := h1'.c1
  simp only [Wm.drop] at h1' hw1
  obtain ⟨w2, hrun, hm2, hk2, hs2⟩ := h1'.due.store Try.underlying3 Try.underlying214 n hn (by rw [List.length_map]; omega) (.int .i64 (b : Int))
  have hne : ∀ q ∈ dropD n m.ths, q.1 ≠ n := fun q hq => (mem_dropD.1 hq).2
  have hkeys : ∀ x, x ∈ (insD (n, b) (dropD n m.ths)).map (·.1) ↔ x = n ∨ x ∈ (dropD n m.ths).map (·.1) := fun x => by
    rw [((insD_perm (n, b) (dropD n m.ths)).map (·.1)).mem_iff, List.map_cons, List.mem_cons]
  have h2' := h1'.dueTurn hk2 (fd' := dueF (insD (n, b) (dropD n m.ths))) (kd' := (insD (n, b) (dropD n m.ths)).map (·.1))
    ((hm2.congr (dueF_ins (n, b) _ hw1.nd hne)).perm HWF.out.nd (fun x => by
      rw [hkeys, List.mem_cons, List.mem_filter]
      by_cases hx : x = n
      · simp [hx]
      · simp [hx]))
    (fun i hi x hx => (hkeys x).2 (.inr (h1'.sub i hi x hx)))
  have hat := at_any w2 D g m.time dm blk _ _ _ h2' hw1.t b (by unfold top48; omega)
  have hj := plc_le m.time b
  obtain ⟨j, hje⟩ : ∃ j, plc m.time b = j := ⟨_, rfl⟩
  rw [hje] at hat hj
  have H2 := Lib.hid (And.intro h2' ((hk1.trans (hk2.mono (T := D) (by simp; exact h1'.inM)))))
  clear hs2 hk2 h1' hm2
  go_wp2_with fail
  refine hat.mono ?_
  clear hat hrun c1
  rintro e w3 ⟨rfl, hk3⟩
  have h3 := H2.out.1.keep hk3 (by simp)
  obtain ⟨ks, hm⟩ := h3.maps j hj
  have hfw := h3.fewer hj hm
  obtain ⟨w4, hrun, hm4, hk4, hs4⟩ := hm.store Try.underlying3 Try.underlying216 n hn (by
    have := HWF.out.few
    rw [List.length_map] at hfw
    simp only at this
    omega) (.bool true)
  have h4 := h3.turn hj hk4 (S' := inP m.time (insD (n, b) (dropD n m.ths))) (ks := n :: ks.filter (fun i => decide (i ≠ n))) (hm4.congr fun x => by
    unfold setF updZ
    rw [inP_ins]
    by_cases hx : x = n
    · simp [hx, hje]
    · have : ¬ n = x := fun e => hx e.symm
      simp [hx, this]) (fun i hi hne => by
    funext x
    rw [inP_ins]
    have : ¬ plc m.time b = i := fun e => hne (e.symm.trans hje)
    simp [this]) (fun x hx => by
    obtain ⟨q, hq, rfl, -⟩ := inP_iff.1 hx
    exact List.mem_map.2 ⟨q, hq, rfl⟩)
  have HH := Lib.hid (And.intro h4 ((H2.out.2.trans (hk3.mono (T := D) (by simp))).trans (hk4.mono (T := D) (by simp; exact h3.inB j hj))))
  clear h4 hm4 hk4 hs4 hm h3 hk3
  go_wp2
  go_ret
  exact ⟨rfl, ⟨HWF.out, dm, blk, HH.out.1⟩, HH.out.2⟩
end Go.Proofs.Ytjkjiabfhhnngaa
