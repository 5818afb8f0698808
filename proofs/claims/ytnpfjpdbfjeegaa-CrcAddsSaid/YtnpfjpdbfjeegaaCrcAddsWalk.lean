import Derived.Test.YtnpfjpdbfjeegaaCrcSumsWalk
/-! The walk of the law CrcAdds. -/
namespace Go.Proofs.Ytnpfjpdbfjeegaa
open Go.RowKit Go.Shelf Sg

theorem flat_len (ps : List (Value × List UInt8)) (m : Nat) (h : ∀ p ∈ ps, p.2.length ≤ m) : (flat ps).length ≤ ps.length * m := by
  induction ps with
  | nil => simp [flat]
  | cons p ps ih =>
    have h1 := ih (fun q hq => h q (List.mem_cons_of_mem _ hq))
    have h2 := h p List.mem_cons_self
    simp only [flat, List.flatMap_cons, List.length_append, List.length_cons, Nat.succ_mul] at h1 ⊢
    omega

set_option maxRecDepth 100000 in
set_option maxHeartbeats 400000 in
theorem crcAddsWalk (W : World) (v : Value) (ps : List (Value × List UInt8)) (hv : Pieces W v ps) :
    Calls Try.prog 7 #[v] W fun e W' => e = .returned (.bool true) ∧ Below W.heap.size W W' := by
  obtain ⟨ao, cap, rfl, hlc, ⟨hm, hcap⟩, -⟩ := id hv
  by_cases hbig : 20 < ps.length
  · go_enter Try.func7, Try.ntmps7
    go_wp2
    go_ret
    exact ⟨rfl, Below.refl _ _⟩
  · go_enter Try.func7, Try.ntmps7
    go_wp2
    go_loopw [3, 4, 5] (fun al sm i wr => ∃ k : Nat, k ≤ ps.length ∧ i = .int .i64 k ∧ (flat (ps.take k)).length ≤ 200 * k ∧ sm = .int .u32 (Crc.sum (nats (flat (ps.take k))) : Int) ∧ OwnB wr W.heap.size 5 al (flat (ps.take k)) ∧ Keep [] W wr) (fun _ _ i _ => ps.length - (intOf i).toNat)
    case atStart =>
      refine ⟨0, by omega, rfl, by simp [flat], ?_, OwnB.nil _ _ _, Keep.refl _ _⟩
      rw [show Crc.sum (nats (flat (ps.take 0))) = 0 from (by decide +kernel : Crc.sum (nats []) = 0)]; rfl
    case round =>
      obtain ⟨k, hk, rfl, hfl, rfl, ho, hkeep⟩ := hrel
      by_cases hlt : k < ps.length
      · have hp2 := hv.keep hkeep (by simp) (by simp)
        obtain ⟨b, o, rfl, -, hc⟩ := hp2.spot (by omega)
        obtain ⟨hck, hbk⟩ := hc k hlt
        obtain ⟨ao2, cap2, hv2, -, hm2, -⟩ := hbk.form
        rw [hv2] at hck hbk
        clear hc hp2
        have hf := flat_take_succ ps k hlt
        have HF := Lib.hid hf
        have HO := Lib.hid ho
        have hsl := sum_lt (flat (ps.take k))
        generalize flat (ps.take k) = pre at hfl HF HO hsl ⊢
        clear hf ho
        by_cases h200 : 200 < ps[k].2.length
        · go_wp2
          go_ret
          exact ⟨rfl, hkeep.below (Nat.le_refl _) (by simp)⟩
        · go_wp2_with fail
          refine (add_any _ hsl _ _ _ hbk).mono ?_
          rw [sum_more]
          rintro e w2 ⟨rfl, hk2⟩
          have hk3 := hkeep.trans hk2
          have hck2 := hk2.cell (by simp) hck
          have hbk2 := hbk.keep hk2 (by simp)
          have ho2 : OwnB w2 W.heap.size 5 u3 pre := HO.out.keep hk2 (by simp)
          go_wp2_with (refine wpList_append_bytes rfl (.tmp 27) (.tmp 31) 22 5 rfl W.heap.size Try.underlying22 (by kernel_rfl) rfl rfl ho2 hbk2 (by omega) hk3.size ?_)
          intro v4 w4 ho4 hk4
          have hk5 : Keep [] W w4 := by
            refine hk3.trans' hk4 ?_
            intro k hk
            rcases ho2.2 with ⟨rfl, -⟩ | ⟨g, c, cur, rfl, hg, -⟩
            · simp [Value.ownBlock] at hk
            · simp [Value.ownBlock] at hk; subst hk; exact .inr hg
          clear ho2 hk4 hk3 hbk hbk2 hck hck2
          go_wp2
          go_roundw
          case rel => exact ⟨k + 1, by omega, by go_num, by rw [HF.out]; simp; omega, by rw [HF.out], by rw [HF.out]; exact ho4, hk5⟩
          case measure => simp [intOf]; omega
      · have hfe : flat (ps.take k) = flat ps := by rw [List.take_of_length_le (by omega)]
        rw [hfe] at ho hfl ⊢
        have hbb := ho.bytes (by omega)
        have hp2 := hv.keep hkeep (by simp) (by simp)
        go_wp2_with fail
        refine (sum_any _ _ _ hbb).mono ?_
        rintro e w2 ⟨rfl, hk2⟩
        have hC2 := hkeep.trans hk2
        clear hbb hk2 ho
        go_wp2_with fail
        refine (pieces_any _ _ _ (hv.keep hC2 (by simp) (by simp))).mono ?_
        rintro e w3 ⟨rfl, hk3⟩
        have hC3 := hC2.trans hk3
        clear hk3 hC2 hp2
        go_wp2_with fail
        refine (pieces_any _ [] _ (Pieces.nil _)).mono ?_
        rw [show Crc.sum (nats (flat [])) = 0 from (by decide +kernel : Crc.sum (nats []) = 0)]
        rintro e w4 ⟨rfl, hk4⟩
        have hC4 := hC3.trans hk4
        clear hk4 hC3
        go_wp2_with fail
        refine (awake_any _).mono ?_
        rintro e w5 ⟨rfl, hk5⟩
        have hC5 := hC4.trans hk5
        clear hk5 hC4
        go_wp2_with fail
        go_ret
        exact ⟨rfl, hC5.below (Nat.le_refl _) (by simp)⟩
end Go.Proofs.Ytnpfjpdbfjeegaa
