import Derived.Test.YtnpfjpdbfjeegaaCrcSum
import Derived.Test.YtnpfjpdbfjeegaaLex
/-! The walk of the law CrcSplits. -/
namespace Go.Proofs.Ytnpfjpdbfjeegaa
open Go.RowKit Go.Shelf Sg

theorem u16_nat {a : Int} (h : (Lit.int .u16 a).wf = true) : ∃ n : Nat, a = n ∧ n < 65536 := by
  have h1 : (IntKind.u16.min : Int) = 0 := rfl
  have h2 : (IntKind.u16.max : Int) = 65535 := rfl
  simp only [Lit.wf, Bool.and_eq_true, decide_eq_true_eq, h1, h2] at h
  exact ⟨a.toNat, by omega, by omega⟩

theorem sum_lt (l : List UInt8) : Crc.sum (nats l) < 4294967296 := by unfold Crc.sum; omega
theorem sum_more (a b : List UInt8) : neg32 (Crc.run (neg32 (Crc.sum (nats a))) (nats b)) = Crc.sum (nats (a ++ b)) := by
  have h := Crc.run_lt (nats a) (n := 4294967295) (by decide) (nats_lt a)
  have e : neg32 (Crc.sum (nats a)) = Crc.run 4294967295 (nats a) := by unfold neg32 Crc.sum; omega
  rw [e]
  have e2 : nats (a ++ b) = nats a ++ nats b := by simp [nats]
  unfold Crc.sum neg32
  rw [e2, Crc.run_append]

set_option maxRecDepth 100000 in
set_option maxHeartbeats 400000 in
theorem crcSplitsWalk (W : World) (v : Value) (l : List UInt8) (hv : Bytes W v l) (a1 : Int) (w1 : (Lit.int .u16 a1).wf = true) :
    Calls Try.prog 8 #[v, .int .u16 a1] W fun e W' => e = .returned (.bool true) ∧ Below W.heap.size W W' := by
  obtain ⟨j, rfl, hj⟩ := u16_nat w1
  clear w1
  obtain ⟨ao, cap, rfl, hlc, hm, hcap⟩ := hv.form
  by_cases hbig : 1000 < l.length
  · go_enter Try.func8, Try.ntmps8
    go_wp2
    go_ret
    exact ⟨rfl, Below.refl _ _⟩
  · go_enter Try.func8, Try.ntmps8
    obtain ⟨k, hk⟩ : ∃ k, k = j % (l.length + 1) := ⟨_, rfl⟩
    have hkl : k ≤ l.length := by have := Nat.mod_lt j (show 0 < l.length + 1 by omega); omega
    have hk' : (j : Int) % ((l.length : Int) + 1) = (k : Int) := by rw [hk]; simp
    clear hk
    have hk1 : (k : Int) ≤ (l.length : Int) := by omega
    have hk2 : (k : Int) ≤ (cap : Int) := by omega
    go_wp2_with fail
    have hC0 : Keep [] W W.drew := (Keep.refl [] W).drew
    refine wp_region_lex (fun w' => Keep [] W w') [3, 7, 9, 18, 19, 21, 25] (by kernel_rfl) (by kernel_rfl) hC0 ?_
    generalize W.drew = w1 at hC0 ⊢
    have bt := hv.take hkl
    have bd := hv.drop hkl
    (repeat (first | (refine lex_q rfl rfl (fun K hK => ?_); apply Exists.intro; refine ⟨fun w' hC => ?_, ?_⟩; (go_simp <;> rfl); go_simp; refine hK _ _ ?_; clear hK K) | (refine lex_s rfl (fun K hK => ?_); go_simp; refine hK _ _ ?_; clear hK K)))
    (refine lex_l rfl rfl (fun K hK => ?_); go_simp)
    refine (sum_any _ _ _ (bt.keep hC0 (by simp))).mono ?_
    rintro e w2 ⟨rfl, hk2⟩
    refine hK _ _ (hC0.trans hk2) ?_
    clear hK K
    (repeat (first | (refine lex_q rfl rfl (fun K hK => ?_); apply Exists.intro; refine ⟨fun w' hC => ?_, ?_⟩; (go_simp <;> rfl); go_simp; refine hK _ _ ?_; clear hK K) | (refine lex_s rfl (fun K hK => ?_); go_simp; refine hK _ _ ?_; clear hK K)))
    have hC2 := hC0.trans hk2
    clear hk2
    (refine lex_l rfl rfl (fun K hK => ?_); go_simp)
    refine (add_any _ (sum_lt _) _ _ _ (bd.keep hC2 (by simp))).mono ?_
    rintro e w3 ⟨rfl, hk3⟩
    have hC3 := hC2.trans hk3
    refine hK _ _ hC3 ?_
    clear hK K hk3 hC2
    rw [sum_more, List.take_append_drop]
    (repeat (first | (refine lex_q rfl rfl (fun K hK => ?_); apply Exists.intro; refine ⟨fun w' hC => ?_, ?_⟩; (go_simp <;> rfl); go_simp; refine hK _ _ ?_; clear hK K) | (refine lex_s rfl (fun K hK => ?_); go_simp; refine hK _ _ ?_; clear hK K)))
    (refine lex_l rfl rfl (fun K hK => ?_); go_simp)
    refine (sum_any _ l _ (hv.keep hC3 (by simp))).mono ?_
    rintro e w4 ⟨rfl, hk4⟩
    have hC4 := hC3.trans hk4
    refine hK _ _ hC4 ?_
    clear hK K hk4 hC3
    (repeat (first | (refine lex_q rfl rfl (fun K hK => ?_); apply Exists.intro; refine ⟨fun w' hC => ?_, ?_⟩; (go_simp <;> rfl); go_simp; refine hK _ _ ?_; clear hK K) | (refine lex_s rfl (fun K hK => ?_); go_simp; refine hK _ _ ?_; clear hK K)))
    (refine lex_l rfl rfl (fun K hK => ?_); go_simp)
    refine hK _ _ (hC4.alloc _) ?_
    clear hK K
    have hC5 := hC4.alloc (.cells #[.slice ao k cap, .slice none 0 0, .slice (if cap = k then ao else Option.map (fun x => x.add k) ao) (l.length - k) (cap - k)] 22)
    have hp : Pieces (w4.alloc (.cells #[.slice ao k cap, .slice none 0 0, .slice (if cap = k then ao else Option.map (fun x => x.add k) ao) (l.length - k) (cap - k)] 22)) (.slice (some ⟨w4.heap.size, 0, none⟩) 3 3)
        [(.slice ao k cap, l.take k), (.slice none 0 0, []), (.slice (if cap = k then ao else Option.map (fun x => x.add k) ao) (l.length - k) (cap - k), l.drop k)] := by
      refine Pieces.row (ps := [(.slice ao k cap, l.take k), (.slice none 0 0, []), (.slice (if cap = k then ao else Option.map (fun x => x.add k) ao) (l.length - k) (cap - k), l.drop k)]) (World.alloc_heap_new _ _) ?_ ?_ (Nat.le_refl _) ⟨by decide, by simp⟩
      · intro i hi
        have : i < 3 := hi
        match i, this with
        | 0, _ => rfl
        | 1, _ => rfl
        | 2, _ => rfl
      · intro p hp
        simp only [List.mem_cons, List.not_mem_nil, or_false] at hp
        rcases hp with rfl | rfl | rfl
        · exact bt.keep hC5 (by simp)
        · exact Bytes.nil _
        · exact bd.keep hC5 (by simp)
    have hfl : flat [((.slice ao k cap : Value), l.take k), ((.slice none 0 0 : Value), []), ((.slice (if cap = k then ao else Option.map (fun x => x.add k) ao) (l.length - k) (cap - k) : Value), l.drop k)] = l := by
      simp [flat]
    (repeat (first | (refine lex_q rfl rfl (fun K hK => ?_); apply Exists.intro; refine ⟨fun w' hC => ?_, ?_⟩; (go_simp <;> rfl); go_simp; refine hK _ _ ?_; clear hK K) | (refine lex_s rfl (fun K hK => ?_); go_simp; refine hK _ _ ?_; clear hK K)))
    (refine lex_l rfl rfl (fun K hK => ?_); go_simp)
    refine (pieces_any _ _ _ hp).mono ?_
    rw [hfl]
    rintro e w6 ⟨rfl, hk6⟩
    have hC6 := hC5.trans hk6
    refine hK _ _ hC6 ?_
    clear hK K hk6 hp hfl hC5 hC4
    (repeat (first | (refine lex_q rfl rfl (fun K hK => ?_); apply Exists.intro; refine ⟨fun w' hC => ?_, ?_⟩; (go_simp <;> rfl); go_simp; refine hK _ _ ?_; clear hK K) | (refine lex_s rfl (fun K hK => ?_); go_simp; refine hK _ _ ?_; clear hK K)))
    (refine lex_l rfl rfl (fun K hK => ?_); go_simp)
    refine (sum_any _ l _ (hv.keep hC6 (by simp))).mono ?_
    rintro e w7 ⟨rfl, hk7⟩
    have hC7 := hC6.trans hk7
    refine hK _ _ hC7 ?_
    clear hK K hk7 hC6
    (repeat (first | (refine lex_q rfl rfl (fun K hK => ?_); apply Exists.intro; refine ⟨fun w' hC => ?_, ?_⟩; (go_simp <;> rfl); go_simp; refine hK _ _ ?_; clear hK K) | (refine lex_s rfl (fun K hK => ?_); go_simp; refine hK _ _ ?_; clear hK K)))
    (refine lex_l rfl rfl (fun K hK => ?_); go_simp)
    refine (awake_any _).mono ?_
    rintro e w8 ⟨rfl, hk8⟩
    have hC8 := hC7.trans hk8
    refine hK _ _ hC8 ?_
    clear hK K hk8 hC7
    (repeat (first | (refine lex_q rfl rfl (fun K hK => ?_); apply Exists.intro; refine ⟨fun w' hC => ?_, ?_⟩; (go_simp <;> rfl); go_simp; refine hK _ _ ?_; clear hK K) | (refine lex_s rfl (fun K hK => ?_); go_simp; refine hK _ _ ?_; clear hK K)))
    refine lex_nil ?_
    go_wp2
    all_goals
      go_ret
      exact ⟨rfl, hC8.below (Nat.le_refl _) (by simp)⟩
end Go.Proofs.Ytnpfjpdbfjeegaa
