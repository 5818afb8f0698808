import Derived.Test.YtnpfjpdbfjeegaaCrcSumsWalk
import Derived.Deep.CutRange
import Derived.BigRegion
/-! The walk of the law CrcOnes. -/
namespace Go.Proofs.Ytnpfjpdbfjeegaa
open Go.RowKit Go.Shelf Sg

def xors (a b : List UInt8) (k : Nat) : List UInt8 := (List.range a.length).map fun i => if i < k then a.getD i 0 ^^^ b.getD i 0 else 0
theorem xors_len (a b : List UInt8) (k : Nat) : (xors a b k).length = a.length := by simp [xors]
theorem xors_zero (a b : List UInt8) : xors a b 0 = List.replicate a.length 0 := by
  apply List.ext_getElem <;> simp [xors]
theorem xors_set (a b : List UInt8) (k : Nat) (h : k < a.length) (hb : k < b.length) (x : UInt8) (hx : x.toNat = a[k].toNat ^^^ b[k].toNat) : (xors a b k).set k x = xors a b (k + 1) := by
  have hx' : x = a[k] ^^^ b[k] := by
    apply UInt8.toNat_inj.1
    rw [hx, UInt8.toNat_xor]
  apply List.ext_getElem?
  intro i
  rw [List.getElem?_set]
  unfold xors
  by_cases hi : k = i
  · subst hi
    simp [h, hb, hx']
  · by_cases hil : i < a.length
    · simp only [hi, if_false, List.getElem?_map, List.getElem?_range hil, Option.map_some]
      by_cases hik : i < k
      · simp [hik, show i < k + 1 by omega]
      · simp [hik, show ¬ i < k + 1 by omega]
    · simp [hil, hi]
theorem xors_all (a b : List UInt8) (hl : a.length = b.length) : nats (xors a b a.length) = List.zipWith (· ^^^ ·) (nats a) (nats b) := by
  apply List.ext_getElem
  · simp [nats, xors, hl]
  · intro i h1 h2
    have ha : i < a.length := by simpa [nats, xors] using h1
    have hb : i < b.length := by omega
    simp [nats, xors, ha, hb]

set_option maxRecDepth 100000 in
set_option maxHeartbeats 400000 in
theorem crcOnesWalk (W : World) (v0 : Value) (l0 : List UInt8) (hv0 : Bytes W v0 l0) (v1 : Value) (l1 : List UInt8) (hv1 : Bytes W v1 l1) :
    Calls Try.prog 5 #[v0, v1] W fun e W' => e = .returned (.bool true) ∧ Below W.heap.size W W' := by
  obtain ⟨ao, cap, rfl, hlc, hm, hcap⟩ := hv0.form
  obtain ⟨bo, capb, rfl, hlcb, hmb, hcapb⟩ := hv1.form
  by_cases hbig : 1000 < l0.length ∨ 1000 < l1.length
  · rcases (by omega : 1000 < l0.length ∨ ¬ 1000 < l0.length ∧ 1000 < l1.length) with h | ⟨h, h2⟩
    all_goals
      go_enter Try.func5, Try.ntmps5
      go_wp2
      go_ret
      exact ⟨rfl, Below.refl _ _⟩
  · have h0 : l0.length ≤ 1000 := by omega
    have h1 : l1.length ≤ 1000 := by omega
    clear hbig
    rcases (by omega : l0.length ≤ l1.length ∨ l1.length < l0.length) with hle | hle
    · have hn0 : l0.length ≤ l0.length := by omega
      have hn1 : l0.length ≤ l1.length := by omega
      have hcmp : ¬ l1.length < l0.length := by omega
      have hcmp' : ¬ (l1.length : Int) < (l0.length : Int) := by omega
      go_enter Try.func5, Try.ntmps5
      go_wp2_with fail
      go_cut [6, 7] from 22 to 25 (fun s6 s7 wx => ∃ g1 g2, s6 = .slice (some ⟨g1, 0, none⟩) l0.length l0.length ∧ s7 = .slice (some ⟨g2, 0, none⟩) l0.length l0.length ∧ OwnB wx W.heap.size 5 (.slice (some ⟨g1, 0, none⟩) l0.length l0.length) (List.replicate l0.length 0) ∧ OwnB wx W.heap.size 5 (.slice (some ⟨g2, 0, none⟩) l0.length l0.length) (List.replicate l0.length 0) ∧ W.heap.size ≤ g1 ∧ W.heap.size ≤ g2 ∧ g1 ≠ g2 ∧ Keep [] W wx)
      case first =>
        have mk := fun w : World => run_make_cells (P := Try.prog) (w := w) 22 5 Try.underlying22 (by kernel_rfl) .i64 .i64 l0.length (by omega)
        have m1 := OwnB.made (w := W) W.heap.size 5 l0.length (by omega) (Nat.le_refl _)
        have m2 := OwnB.made (w := W.alloc (.cells (List.replicate l0.length (u8v 0)).toArray 5)) W.heap.size 5 l0.length (by omega) (by simp)
        obtain ⟨Z, hZ⟩ : ∃ Z : Array Value, (List.replicate l0.length (u8v 0)).toArray = Z := ⟨_, rfl⟩
        rw [hZ] at mk m1 m2
        have m1' := (m1.keep (((Keep.refl [] _).alloc (.cells Z 5)).drew) (by simp))
        have m2' := (m2.keep ((Keep.refl [] _).drew) (by simp))
        have hkk : Keep [] W ((W.alloc (.cells Z 5)).alloc (.cells Z 5)).drew := (((Keep.refl [] W).alloc _).alloc _).drew
        rw [show (W.alloc (.cells Z 5)).heap.size = W.heap.size + 1 by simp] at m2'
        clear m1 m2
        go_region
        · go_wp2_with fail
          go_meet
          case rel => exact ⟨_, _, rfl, rfl, m1', m2', by omega, by omega, by omega, hkk⟩
        · go_wp2_with fail
          go_meet
          case rel => exact ⟨_, _, rfl, rfl, m2', m1', by omega, by omega, by omega, hkk⟩
      case rest =>
      obtain ⟨g1, g2, rfl, rfl, ho3, hp3, hg1, hg2, hg12, hC3⟩ := hcut
      go_wp2
      go_loopw [8] (fun i wr => ∃ k : Nat, k ≤ l0.length ∧ i = .int .i64 k ∧ Hid (OwnB wr W.heap.size 5 (.slice (some ⟨g1, 0, none⟩) l0.length l0.length) (xors (l0.take l0.length) (l1.take l0.length) k)) ∧ Hid (OwnB wr W.heap.size 5 (.slice (some ⟨g2, 0, none⟩) l0.length l0.length) (List.replicate l0.length 0)) ∧ Keep [] W wr) (fun i _ => l0.length - (intOf i).toNat)
      case atStart =>
        refine ⟨0, by omega, rfl, ?_, hp3, hC3⟩
        rw [xors_zero]
        simpa [Nat.min_eq_left hn0, Hid] using ho3
      case round =>
        obtain ⟨k, hk, rfl, hO, hP, hkeep⟩ := hrel
        by_cases hlt : k < l0.length
        · obtain ⟨b0, o0, rfl, -, hc0⟩ := (hv0.keep hkeep (by simp)).spot (by omega)
          obtain ⟨b1, o1, rfl, -, hc1⟩ := (hv1.keep hkeep (by simp)).spot (by omega)
          have hk0 : k < l0.length := by omega
          have hk1 : k < l1.length := by omega
          have hd0 := hc0 k hk0
          have hd1 := hc1 k hk1
          clear hc0 hc1
          have hx0 := l0[k].toNat_lt
          have hx1 := l1[k].toNat_lt
          have hxor := u8_xor_nat l0[k].toNat l1[k].toNat (by omega) (by omega)
          have hxl : l0[k].toNat ^^^ l1[k].toNat < 256 := Nat.xor_lt_two_pow (n := 8) (by omega) (by omega)
          obtain ⟨x, hxx⟩ : ∃ x : UInt8, x.toNat = l0[k].toNat ^^^ l1[k].toNat := ⟨UInt8.ofNat (l0[k].toNat ^^^ l1[k].toNat), by rw [UInt8.toNat_ofNat']; exact Nat.mod_eq_of_lt hxl⟩
          have HX := Lib.hid hxx
          rw [← hxx] at hxor
          clear hxx hxl
          have hlt' : (k : Int) < (l0.length : Int) := by omega
          have hlt0 : (k : Int) < (l0.length : Int) := by omega
          have hlt1 : (k : Int) < (l1.length : Int) := by omega
          go_wp2_with fail
          refine wp_region_still_tail 12 (by kernel_rfl) (by kernel_rfl) ?_
          simp only [List.take_succ_cons, List.take_zero, List.drop_succ_cons, List.drop_zero]
          repeat still_step
          refine wpStill_nil ?_
          have hkd : Keep [] wr wr.drew := (Keep.refl [] wr).drew
          change wpList _ _ _ _ _ wr.drew
          generalize wr.drew = w5 at hkd ⊢
          have hfree := (hO.out.keep hkd (by simp)).free k
          have hcl : k < (xors (l0.take l0.length) (l1.take l0.length) k).length := by rw [xors_len]; simp; omega
          have hcell := (hO.out.keep hkd (by simp)).cell hcl
          go_wp2
          go_roundw
          case rel =>
            refine ⟨k + 1, by omega, by go_num, ?_, ?_, (hkeep.trans hkd).setCell (.inr (by omega)) _⟩
            · rw [← xors_set (l0.take l0.length) (l1.take l0.length) k (by simp; omega) (by simp; omega) x (by rw [HX.out]; simp)]
              exact (hO.out.keep hkd (by simp)).setCell hcl x
            · exact ownsRow_setCell_other (hP.out.keep hkd (by simp)) (by simp [Value.ownBlock]; omega) _
          case measure => simp [intOf]; omega
        · have hke : k = l0.length := by omega
          have hbo := hO.out.bytes (by rw [xors_len]; simp; omega)
          have hbp := hP.out.bytes (by simp; omega)
          have ht0 := (hv0.keep hkeep (by simp)).take hn0
          have ht1 := (hv1.keep hkeep (by simp)).take hn1
          have hlen : (l0.take l0.length).length = l0.length := by rw [List.length_take]; omega
          have hso : Crc.sum (nats (l0.take l0.length)) ^^^ Crc.sum (nats (l1.take l0.length)) = Crc.sum (nats (xors (l0.take l0.length) (l1.take l0.length) k)) ^^^ Crc.sum (nats (List.replicate l0.length 0)) := by
            have h := Crc.sum_ones (nats (l0.take l0.length)) (nats (l1.take l0.length)) (by simp [nats]; omega) (nats_lt _) (nats_lt _)
            rw [← xors_all _ _ (by simp; omega), hlen] at h
            rw [hke, h]
            congr 2
            simp only [nats, List.length_map, hlen, List.map_replicate]
            rfl
          have l0s := sum_lt (l0.take l0.length)
          have l1s := sum_lt (l1.take l0.length)
          have l2s := sum_lt (xors (l0.take l0.length) (l1.take l0.length) k)
          have l3s := sum_lt (List.replicate l0.length (0 : UInt8))
          obtain ⟨s0, hs0⟩ : ∃ s, Crc.sum (nats (l0.take l0.length)) = s := ⟨_, rfl⟩
          obtain ⟨s1, hs1⟩ : ∃ s, Crc.sum (nats (l1.take l0.length)) = s := ⟨_, rfl⟩
          obtain ⟨s2, hs2⟩ : ∃ s, Crc.sum (nats (xors (l0.take l0.length) (l1.take l0.length) k)) = s := ⟨_, rfl⟩
          obtain ⟨s3, hs3⟩ : ∃ s, Crc.sum (nats (List.replicate l0.length (0 : UInt8))) = s := ⟨_, rfl⟩
          rw [hs0, hs1, hs2, hs3] at hso
          rw [hs0] at l0s
          rw [hs1] at l1s
          rw [hs2] at l2s
          rw [hs3] at l3s
          have e1 := u32_xor_nat s0 s1 l0s l1s
          have e2 := u32_xor_nat s2 s3 l2s l3s
          rw [hso] at e1
          have hnc0 : (l0.length : Int) ≤ (cap : Int) := by omega
          have hnc1 : (l0.length : Int) ≤ (capb : Int) := by omega
          have HS0 := Lib.hid hs0
          have HS1 := Lib.hid hs1
          have HS2 := Lib.hid hs2
          have HS3 := Lib.hid hs3
          have HSO := Lib.hid hso
          clear hs0 hs1 hs2 hs3 hso
          generalize s2 ^^^ s3 = sx at e1 e2 HSO
          go_wp2_with fail
          have hC0 : Keep [] wr wr.drew := (Keep.refl [] wr).drew
          refine wp_region_lex (fun w' => Keep [] wr w') [3, 7, 10, 12, 16] (by kernel_rfl) (by kernel_rfl) hC0 ?_
          generalize wr.drew = w5 at hC0 ⊢
          (repeat (first | (refine lex_q rfl rfl (fun K hK => ?_); apply Exists.intro; refine ⟨fun w' hC => ?_, ?_⟩; (go_simp <;> rfl); go_simp; refine hK _ _ ?_; clear hK K) | (refine lex_s rfl (fun K hK => ?_); go_simp; refine hK _ _ ?_; clear hK K)))
          (refine lex_l rfl rfl (fun K hK => ?_); go_simp)
          refine (sum_any _ (l0.take l0.length) _ (ht0.keep hC0 (by simp))).mono ?_
          rw [HS0.out]
          rintro e w6 ⟨rfl, hk6⟩
          have hC6 := hC0.trans hk6
          refine hK _ _ hC6 ?_
          clear hK K hk6
          (repeat (first | (refine lex_q rfl rfl (fun K hK => ?_); apply Exists.intro; refine ⟨fun w' hC => ?_, ?_⟩; (go_simp <;> rfl); go_simp; refine hK _ _ ?_; clear hK K) | (refine lex_s rfl (fun K hK => ?_); go_simp; refine hK _ _ ?_; clear hK K)))
          (refine lex_l rfl rfl (fun K hK => ?_); go_simp)
          refine (sum_any _ (l1.take l0.length) _ (ht1.keep hC6 (by simp))).mono ?_
          rw [HS1.out]
          rintro e w7 ⟨rfl, hk7⟩
          have hC7 := hC6.trans hk7
          refine hK _ _ hC7 ?_
          clear hK K hk7 hC6
          (repeat (first | (refine lex_q rfl rfl (fun K hK => ?_); apply Exists.intro; refine ⟨fun w' hC => ?_, ?_⟩; (go_simp <;> rfl); go_simp; refine hK _ _ ?_; clear hK K) | (refine lex_s rfl (fun K hK => ?_); go_simp; refine hK _ _ ?_; clear hK K)))
          (refine lex_l rfl rfl (fun K hK => ?_); go_simp)
          refine (sum_any _ (xors (l0.take l0.length) (l1.take l0.length) k) _ (hbo.keep hC7 (by simp))).mono ?_
          rw [HS2.out]
          rintro e w8 ⟨rfl, hk8⟩
          have hC8 := hC7.trans hk8
          refine hK _ _ hC8 ?_
          clear hK K hk8 hC7
          (repeat (first | (refine lex_q rfl rfl (fun K hK => ?_); apply Exists.intro; refine ⟨fun w' hC => ?_, ?_⟩; (go_simp <;> rfl); go_simp; refine hK _ _ ?_; clear hK K) | (refine lex_s rfl (fun K hK => ?_); go_simp; refine hK _ _ ?_; clear hK K)))
          (refine lex_l rfl rfl (fun K hK => ?_); go_simp)
          refine (sum_any _ (List.replicate l0.length (0 : UInt8)) _ (hbp.keep hC8 (by simp))).mono ?_
          rw [HS3.out]
          rintro e w9 ⟨rfl, hk9⟩
          have hC9 := hC8.trans hk9
          refine hK _ _ hC9 ?_
          clear hK K hk9 hC8
          (repeat (first | (refine lex_q rfl rfl (fun K hK => ?_); apply Exists.intro; refine ⟨fun w' hC => ?_, ?_⟩; (go_simp <;> rfl); go_simp; refine hK _ _ ?_; clear hK K) | (refine lex_s rfl (fun K hK => ?_); go_simp; refine hK _ _ ?_; clear hK K)))
          (refine lex_l rfl rfl (fun K hK => ?_); go_simp)
          refine (awake_any _).mono ?_
          rintro e w10 ⟨rfl, hk10⟩
          have hC10 := hC9.trans hk10
          refine hK _ _ hC10 ?_
          clear hK K hk10 hC9
          (repeat (first | (refine lex_q rfl rfl (fun K hK => ?_); apply Exists.intro; refine ⟨fun w' hC => ?_, ?_⟩; (go_simp <;> rfl); go_simp; refine hK _ _ ?_; clear hK K) | (refine lex_s rfl (fun K hK => ?_); go_simp; refine hK _ _ ?_; clear hK K)))
          refine lex_nil ?_
          go_wp2
          all_goals
            go_ret
            exact ⟨rfl, (hkeep.trans hC10).below (Nat.le_refl _) (by simp)⟩
    · have hn0 : l1.length ≤ l0.length := by omega
      have hn1 : l1.length ≤ l1.length := by omega
      have hcmp' : (l1.length : Int) < (l0.length : Int) := by omega
      go_enter Try.func5, Try.ntmps5
      go_wp2_with fail
      go_cut [6, 7] from 22 to 25 (fun s6 s7 wx => ∃ g1 g2, s6 = .slice (some ⟨g1, 0, none⟩) l1.length l1.length ∧ s7 = .slice (some ⟨g2, 0, none⟩) l1.length l1.length ∧ OwnB wx W.heap.size 5 (.slice (some ⟨g1, 0, none⟩) l1.length l1.length) (List.replicate l1.length 0) ∧ OwnB wx W.heap.size 5 (.slice (some ⟨g2, 0, none⟩) l1.length l1.length) (List.replicate l1.length 0) ∧ W.heap.size ≤ g1 ∧ W.heap.size ≤ g2 ∧ g1 ≠ g2 ∧ Keep [] W wx)
      case first =>
        have mk := fun w : World => run_make_cells (P := Try.prog) (w := w) 22 5 Try.underlying22 (by kernel_rfl) .i64 .i64 l1.length (by omega)
        have m1 := OwnB.made (w := W) W.heap.size 5 l1.length (by omega) (Nat.le_refl _)
        have m2 := OwnB.made (w := W.alloc (.cells (List.replicate l1.length (u8v 0)).toArray 5)) W.heap.size 5 l1.length (by omega) (by simp)
        obtain ⟨Z, hZ⟩ : ∃ Z : Array Value, (List.replicate l1.length (u8v 0)).toArray = Z := ⟨_, rfl⟩
        rw [hZ] at mk m1 m2
        have m1' := (m1.keep (((Keep.refl [] _).alloc (.cells Z 5)).drew) (by simp))
        have m2' := (m2.keep ((Keep.refl [] _).drew) (by simp))
        have hkk : Keep [] W ((W.alloc (.cells Z 5)).alloc (.cells Z 5)).drew := (((Keep.refl [] W).alloc _).alloc _).drew
        rw [show (W.alloc (.cells Z 5)).heap.size = W.heap.size + 1 by simp] at m2'
        clear m1 m2
        go_region
        · go_wp2_with fail
          go_meet
          case rel => exact ⟨_, _, rfl, rfl, m1', m2', by omega, by omega, by omega, hkk⟩
        · go_wp2_with fail
          go_meet
          case rel => exact ⟨_, _, rfl, rfl, m2', m1', by omega, by omega, by omega, hkk⟩
      case rest =>
      obtain ⟨g1, g2, rfl, rfl, ho3, hp3, hg1, hg2, hg12, hC3⟩ := hcut
      go_wp2
      go_loopw [8] (fun i wr => ∃ k : Nat, k ≤ l1.length ∧ i = .int .i64 k ∧ Hid (OwnB wr W.heap.size 5 (.slice (some ⟨g1, 0, none⟩) l1.length l1.length) (xors (l0.take l1.length) (l1.take l1.length) k)) ∧ Hid (OwnB wr W.heap.size 5 (.slice (some ⟨g2, 0, none⟩) l1.length l1.length) (List.replicate l1.length 0)) ∧ Keep [] W wr) (fun i _ => l1.length - (intOf i).toNat)
      case atStart =>
        refine ⟨0, by omega, rfl, ?_, hp3, hC3⟩
        rw [xors_zero]
        simpa [Nat.min_eq_left hn0, Hid] using ho3
      case round =>
        obtain ⟨k, hk, rfl, hO, hP, hkeep⟩ := hrel
        by_cases hlt : k < l1.length
        · obtain ⟨b0, o0, rfl, -, hc0⟩ := (hv0.keep hkeep (by simp)).spot (by omega)
          obtain ⟨b1, o1, rfl, -, hc1⟩ := (hv1.keep hkeep (by simp)).spot (by omega)
          have hk0 : k < l0.length := by omega
          have hk1 : k < l1.length := by omega
          have hd0 := hc0 k hk0
          have hd1 := hc1 k hk1
          clear hc0 hc1
          have hx0 := l0[k].toNat_lt
          have hx1 := l1[k].toNat_lt
          have hxor := u8_xor_nat l0[k].toNat l1[k].toNat (by omega) (by omega)
          have hxl : l0[k].toNat ^^^ l1[k].toNat < 256 := Nat.xor_lt_two_pow (n := 8) (by omega) (by omega)
          obtain ⟨x, hxx⟩ : ∃ x : UInt8, x.toNat = l0[k].toNat ^^^ l1[k].toNat := ⟨UInt8.ofNat (l0[k].toNat ^^^ l1[k].toNat), by rw [UInt8.toNat_ofNat']; exact Nat.mod_eq_of_lt hxl⟩
          have HX := Lib.hid hxx
          rw [← hxx] at hxor
          clear hxx hxl
          have hlt' : (k : Int) < (l1.length : Int) := by omega
          have hlt0 : (k : Int) < (l0.length : Int) := by omega
          have hlt1 : (k : Int) < (l1.length : Int) := by omega
          go_wp2_with fail
          refine wp_region_still_tail 12 (by kernel_rfl) (by kernel_rfl) ?_
          simp only [List.take_succ_cons, List.take_zero, List.drop_succ_cons, List.drop_zero]
          repeat still_step
          refine wpStill_nil ?_
          have hkd : Keep [] wr wr.drew := (Keep.refl [] wr).drew
          change wpList _ _ _ _ _ wr.drew
          generalize wr.drew = w5 at hkd ⊢
          have hfree := (hO.out.keep hkd (by simp)).free k
          have hcl : k < (xors (l0.take l1.length) (l1.take l1.length) k).length := by rw [xors_len]; simp; omega
          have hcell := (hO.out.keep hkd (by simp)).cell hcl
          go_wp2
          go_roundw
          case rel =>
            refine ⟨k + 1, by omega, by go_num, ?_, ?_, (hkeep.trans hkd).setCell (.inr (by omega)) _⟩
            · rw [← xors_set (l0.take l1.length) (l1.take l1.length) k (by simp; omega) (by simp; omega) x (by rw [HX.out]; simp)]
              exact (hO.out.keep hkd (by simp)).setCell hcl x
            · exact ownsRow_setCell_other (hP.out.keep hkd (by simp)) (by simp [Value.ownBlock]; omega) _
          case measure => simp [intOf]; omega
        · have hke : k = l1.length := by omega
          have hbo := hO.out.bytes (by rw [xors_len]; simp; omega)
          have hbp := hP.out.bytes (by simp; omega)
          have ht0 := (hv0.keep hkeep (by simp)).take hn0
          have ht1 := (hv1.keep hkeep (by simp)).take hn1
          have hlen : (l0.take l1.length).length = l1.length := by rw [List.length_take]; omega
          have hso : Crc.sum (nats (l0.take l1.length)) ^^^ Crc.sum (nats (l1.take l1.length)) = Crc.sum (nats (xors (l0.take l1.length) (l1.take l1.length) k)) ^^^ Crc.sum (nats (List.replicate l1.length 0)) := by
            have h := Crc.sum_ones (nats (l0.take l1.length)) (nats (l1.take l1.length)) (by simp [nats]; omega) (nats_lt _) (nats_lt _)
            rw [← xors_all _ _ (by simp; omega), hlen] at h
            rw [hke, h]
            congr 2
            simp only [nats, List.length_map, hlen, List.map_replicate]
            rfl
          have l0s := sum_lt (l0.take l1.length)
          have l1s := sum_lt (l1.take l1.length)
          have l2s := sum_lt (xors (l0.take l1.length) (l1.take l1.length) k)
          have l3s := sum_lt (List.replicate l1.length (0 : UInt8))
          obtain ⟨s0, hs0⟩ : ∃ s, Crc.sum (nats (l0.take l1.length)) = s := ⟨_, rfl⟩
          obtain ⟨s1, hs1⟩ : ∃ s, Crc.sum (nats (l1.take l1.length)) = s := ⟨_, rfl⟩
          obtain ⟨s2, hs2⟩ : ∃ s, Crc.sum (nats (xors (l0.take l1.length) (l1.take l1.length) k)) = s := ⟨_, rfl⟩
          obtain ⟨s3, hs3⟩ : ∃ s, Crc.sum (nats (List.replicate l1.length (0 : UInt8))) = s := ⟨_, rfl⟩
          rw [hs0, hs1, hs2, hs3] at hso
          rw [hs0] at l0s
          rw [hs1] at l1s
          rw [hs2] at l2s
          rw [hs3] at l3s
          have e1 := u32_xor_nat s0 s1 l0s l1s
          have e2 := u32_xor_nat s2 s3 l2s l3s
          rw [hso] at e1
          have hnc0 : (l1.length : Int) ≤ (cap : Int) := by omega
          have hnc1 : (l1.length : Int) ≤ (capb : Int) := by omega
          have HS0 := Lib.hid hs0
          have HS1 := Lib.hid hs1
          have HS2 := Lib.hid hs2
          have HS3 := Lib.hid hs3
          have HSO := Lib.hid hso
          clear hs0 hs1 hs2 hs3 hso
          generalize s2 ^^^ s3 = sx at e1 e2 HSO
          go_wp2_with fail
          have hC0 : Keep [] wr wr.drew := (Keep.refl [] wr).drew
          refine wp_region_lex (fun w' => Keep [] wr w') [3, 7, 10, 12, 16] (by kernel_rfl) (by kernel_rfl) hC0 ?_
          generalize wr.drew = w5 at hC0 ⊢
          (repeat (first | (refine lex_q rfl rfl (fun K hK => ?_); apply Exists.intro; refine ⟨fun w' hC => ?_, ?_⟩; (go_simp <;> rfl); go_simp; refine hK _ _ ?_; clear hK K) | (refine lex_s rfl (fun K hK => ?_); go_simp; refine hK _ _ ?_; clear hK K)))
          (refine lex_l rfl rfl (fun K hK => ?_); go_simp)
          refine (sum_any _ (l0.take l1.length) _ (ht0.keep hC0 (by simp))).mono ?_
          rw [HS0.out]
          rintro e w6 ⟨rfl, hk6⟩
          have hC6 := hC0.trans hk6
          refine hK _ _ hC6 ?_
          clear hK K hk6
          (repeat (first | (refine lex_q rfl rfl (fun K hK => ?_); apply Exists.intro; refine ⟨fun w' hC => ?_, ?_⟩; (go_simp <;> rfl); go_simp; refine hK _ _ ?_; clear hK K) | (refine lex_s rfl (fun K hK => ?_); go_simp; refine hK _ _ ?_; clear hK K)))
          (refine lex_l rfl rfl (fun K hK => ?_); go_simp)
          refine (sum_any _ (l1.take l1.length) _ (ht1.keep hC6 (by simp))).mono ?_
          rw [HS1.out]
          rintro e w7 ⟨rfl, hk7⟩
          have hC7 := hC6.trans hk7
          refine hK _ _ hC7 ?_
          clear hK K hk7 hC6
          (repeat (first | (refine lex_q rfl rfl (fun K hK => ?_); apply Exists.intro; refine ⟨fun w' hC => ?_, ?_⟩; (go_simp <;> rfl); go_simp; refine hK _ _ ?_; clear hK K) | (refine lex_s rfl (fun K hK => ?_); go_simp; refine hK _ _ ?_; clear hK K)))
          (refine lex_l rfl rfl (fun K hK => ?_); go_simp)
          refine (sum_any _ (xors (l0.take l1.length) (l1.take l1.length) k) _ (hbo.keep hC7 (by simp))).mono ?_
          rw [HS2.out]
          rintro e w8 ⟨rfl, hk8⟩
          have hC8 := hC7.trans hk8
          refine hK _ _ hC8 ?_
          clear hK K hk8 hC7
          (repeat (first | (refine lex_q rfl rfl (fun K hK => ?_); apply Exists.intro; refine ⟨fun w' hC => ?_, ?_⟩; (go_simp <;> rfl); go_simp; refine hK _ _ ?_; clear hK K) | (refine lex_s rfl (fun K hK => ?_); go_simp; refine hK _ _ ?_; clear hK K)))
          (refine lex_l rfl rfl (fun K hK => ?_); go_simp)
          refine (sum_any _ (List.replicate l1.length (0 : UInt8)) _ (hbp.keep hC8 (by simp))).mono ?_
          rw [HS3.out]
          rintro e w9 ⟨rfl, hk9⟩
          have hC9 := hC8.trans hk9
          refine hK _ _ hC9 ?_
          clear hK K hk9 hC8
          (repeat (first | (refine lex_q rfl rfl (fun K hK => ?_); apply Exists.intro; refine ⟨fun w' hC => ?_, ?_⟩; (go_simp <;> rfl); go_simp; refine hK _ _ ?_; clear hK K) | (refine lex_s rfl (fun K hK => ?_); go_simp; refine hK _ _ ?_; clear hK K)))
          (refine lex_l rfl rfl (fun K hK => ?_); go_simp)
          refine (awake_any _).mono ?_
          rintro e w10 ⟨rfl, hk10⟩
          have hC10 := hC9.trans hk10
          refine hK _ _ hC10 ?_
          clear hK K hk10 hC9
          (repeat (first | (refine lex_q rfl rfl (fun K hK => ?_); apply Exists.intro; refine ⟨fun w' hC => ?_, ?_⟩; (go_simp <;> rfl); go_simp; refine hK _ _ ?_; clear hK K) | (refine lex_s rfl (fun K hK => ?_); go_simp; refine hK _ _ ?_; clear hK K)))
          refine lex_nil ?_
          go_wp2
          all_goals
            go_ret
            exact ⟨rfl, (hkeep.trans hC10).below (Nat.le_refl _) (by simp)⟩
end Go.Proofs.Ytnpfjpdbfjeegaa
