import Derived.Test.YtjkjiabfhhnngaaFlash9
import Derived.Test.YtjkjiabfhhnngaaGen
import Derived.Laws.IdiomStrings
/-! The chapter's own words on flash: full, awake. -/
namespace Go.Proofs.Ytjkjiabfhhnngaa
open Go.RowKit Sg
set_option linter.unusedSimpArgs false
set_option linter.unusedVariables false

theorem replicate_set {n k : Nat} {c : UInt8} (hk : k < n) : (List.replicate k c ++ List.replicate (n - k) (0 : UInt8)).set k c = List.replicate (k + 1) c ++ List.replicate (n - (k + 1)) 0 := by
  rw [List.set_append_right _ _ (by simp), List.length_replicate, Nat.sub_self, show n - k = (n - (k + 1)) + 1 by omega, List.replicate_succ, List.set_cons_zero, List.replicate_succ', List.append_assoc]
  rfl

set_option maxRecDepth 100000 in
set_option maxHeartbeats 1000000 in
theorem full_any (c : UInt8) (n : Nat) (hn : n ≤ 1000000) (w : World) : Calls Try.prog 38 #[.int .u8 (c.toNat : Int), .int .i64 (n : Int)] w fun e w' => ∃ v, e = .returned v ∧ OwnB w' w.heap.size 5 v (List.replicate n c) ∧ Keep [] w w' := by
  go_enter Try.func38, Try.ntmps38
  go_wp2_with (refine wpList_make_bytes rfl (.tmp 7) (.tmp 7) 42 5 rfl w.heap.size Try.underlying42 (by kernel_rfl) .i64 .i64 (n := n) rfl rfl (by omega) (Nat.le_refl _) ?_)
  intro w2 ho2 hk2 _
  go_wp2
  go_loopw [6] (fun i wr => ∃ k : Nat, k ≤ n ∧ i = .int .i64 k ∧ Hid (OwnB wr w.heap.size 5 (.slice (some ⟨w.heap.size, 0, none⟩) n n) (List.replicate k c ++ List.replicate (n - k) 0)) ∧ Keep [] w wr) (fun i _ => n - (intOf i).toNat)
  case atStart => exact ⟨0, by omega, rfl, by simpa [Hid] using ho2, hk2⟩
  case round =>
    obtain ⟨k, hk, rfl, hO, hkeep⟩ := hrel
    by_cases hlt : k < n
    · have hlen : k < (List.replicate k c ++ List.replicate (n - k) (0 : UInt8)).length := by simp; omega
      have hcell := hO.out.cell hlen
      have hfree := hO.out.free k
      have hnew := Lib.hid (hO.out.setCell hlen c)
      clear ho2 hk2
      go_wp2
      go_roundw
      case rel => exact ⟨k + 1, by omega, by go_num, by have := hnew.out; rw [replicate_set hlt] at this; exact this, hkeep.setCell (.inr (Nat.le_refl _)) _⟩
      case measure => simp [intOf]; omega
    · have e1 : n - k = 0 := by omega
      have e2 : k = n := by omega
      go_wp2
      go_ret
      exact ⟨_, rfl, by have := hO.out; rw [e1, e2] at this; simpa using this, hkeep⟩

/-- a call upon a device that this call has made -/
theorem dev_step {w w1 w2 : World} {D D' : List Nat} (hk : Keep [] w w1) (hf : ∀ b ∈ D, w.heap.size ≤ b) (hg : Grew w1 D D') (kd : Keep D w1 w2) : Keep [] w w2 ∧ ∀ b ∈ D', w.heap.size ≤ b :=
  ⟨hk.trans' kd (fun b hb => .inr (hf b hb)), fun b hb => (hg.2 b hb).elim (hf b) (fun h => Nat.le_trans hk.size h)⟩

def aw0 : Dev := Dev.new 2 96
def aw1 : Dev := (aw0.put 0 (List.replicate 96 1)).1
def aw2 : Dev := (aw1.put 0 (List.replicate 96 2)).1
def aw3 : Dev := aw2.crash [96, 5]
theorem aw_1 : (aw0.put 0 (List.replicate 96 1)).2 = 0 := by kernel_rfl
theorem aw_2 : (aw1.put 0 (List.replicate 96 2)).2 = 0 := by kernel_rfl
theorem aw_3 : aw3.read 0 = (List.replicate 5 2 ++ List.replicate 91 1, 0) := by kernel_rfl
theorem aw_4 : aw3.acts = 2 := by kernel_rfl
theorem aw_a0 : aw0.acts ≤ 1000000000 := by decide
theorem aw_a1 : aw1.acts ≤ 1000000000 := by decide
theorem aw_a2 : aw2.acts ≤ 1000000000 := by decide
theorem aw_a3 : aw3.acts ≤ 1000000000 := by rw [aw_4]; decide

theorem ints_two (w : World) (a b : Int) (ha : -9223372036854775808 ≤ a ∧ a ≤ 9223372036854775807) (hb : -9223372036854775808 ≤ b ∧ b ≤ 9223372036854775807) : Ints (w.alloc (.cells #[.int .i64 a, .int .i64 b] 3)) (.slice (some ⟨w.heap.size, 0, none⟩) 2 2) [a, b] := by
  refine ⟨some ⟨w.heap.size, 0, none⟩, 2, rfl, by simp, ⟨by decide, by simp⟩, by simp, by simp [ha, hb], ?_⟩
  intro ad e i hi
  cases e
  rw [Addr.add_lit, Nat.zero_add, cell_of_row _ _ _ _ _ _ (heap_alloc_new _ _)]
  match i, hi with
  | 0, _ => rfl
  | 1, _ => rfl

set_option maxRecDepth 100000 in
set_option maxHeartbeats 1000000 in
set_option maxHeartbeats 4000000 in
theorem awake04_any (w : World) : Calls Try.prog 17 #[] w fun e w' => e = .returned (.bool true) ∧ Keep [] w w' := by
  have cN : Calls Try.prog 13 #[.int .i64 2, .int .i64 96] w _ := newDev_any 2 96 (by decide) w
  have cF1 := fun w => (show Calls Try.prog 38 #[.int .u8 1, .int .i64 96] w _ from full_any 1 96 (by decide) w)
  have cF2 := fun w => (show Calls Try.prog 38 #[.int .u8 2, .int .i64 96] w _ from full_any 2 96 (by decide) w)
  have cF3 := fun w => (show Calls Try.prog 38 #[.int .u8 2, .int .i64 5] w _ from full_any 2 5 (by decide) w)
  have cF4 := fun w => (show Calls Try.prog 38 #[.int .u8 1, .int .i64 91] w _ from full_any 1 91 (by decide) w)
  go_enter Try.func17, Try.ntmps17
  go_wp2_with fail
  refine cN.mono ?_
  rintro e w1 ⟨g, D, rfl, hD, hk1, hf⟩
  clear cN
  go_wp2_with fail
  refine (cF1 _).mono ?_
  rintro e w2 ⟨v2, rfl, ho2, hk2⟩
  obtain ⟨a2, c2, rfl⟩ := ownsRow_form ho2
  have hD2 := hD.keep hk2 (by simp)
  have hk12 := hk1.trans hk2
  clear hD hk1 hk2
  go_wp2_with fail
  refine (write_any w2 D g aw0 hD2 aw_a0 0 _ _ (ho2.bytes (by simp))).mono ?_
  rintro e w3 ⟨rfl, D3, hD3, hG3, hK3⟩
  obtain ⟨hk3, hf3⟩ := dev_step hk12 hf hG3 hK3
  rw [aw_1]
  clear hD2 hk12 hf hG3 hK3 ho2
  go_wp2_with fail
  refine (cF2 _).mono ?_
  rintro e w4 ⟨v4, rfl, ho4, hk4⟩
  obtain ⟨a4, c4, rfl⟩ := ownsRow_form ho4
  have hD4 := hD3.keep hk4 (by simp)
  have hk34 := hk3.trans hk4
  clear hD3 hk3 hk4
  go_wp2_with fail
  refine (write_any w4 D3 g aw1 hD4 aw_a1 0 _ _ (ho4.bytes (by simp))).mono ?_
  rintro e w5 ⟨rfl, D5, hD5, hG5, hK5⟩
  obtain ⟨hk5, hf5⟩ := dev_step hk34 hf3 hG5 hK5
  rw [aw_2]
  clear hD4 hk34 hf3 hG5 hK5 ho4
  have hA := (Keep.refl [] w5).alloc (.cells #[.int .i64 96, .int .i64 5] 3)
  have hI := ints_two w5 96 5 (by decide) (by decide)
  have hD6 := hD5.keep hA (by simp)
  have hlt := hD5.lt
  have hk6 := hk5.trans hA
  clear hD5 hk5 hA
  go_wp2_with fail
  refine (crash_any _ D5 g aw2 hD6 aw_a2 _ [96, 5] hI (by intro _ b hb hm; simp [Value.ownBlock] at hb; have := hlt b hm; omega)).mono ?_
  rintro e w7 ⟨rfl, D7, hD7, hG7, hK7⟩
  obtain ⟨hk7, hf7⟩ := dev_step hk6 hf5 hG7 hK7
  clear hD6 hk6 hf5 hG7 hK7 hI hlt
  go_wp2_with fail
  refine (read_any _ D7 g aw3 hD7 aw_a3 0).mono ?_
  rintro e w8 ⟨v8, rfl, ho8, hk8⟩
  rw [aw_3] at ho8
  rw [aw_3]
  have hD8 := hD7.keep hk8 (by simp)
  have hk78 := hk7.trans hk8
  have hlen : (List.replicate 5 (2 : UInt8) ++ List.replicate 91 1).length = 96 := by simp
  obtain ⟨a8, c8, rfl⟩ := ownsRow_form ho8
  rw [hlen] at ho8
  clear hD7 hk7 hk8
  go_wp2_with fail
  refine wp_region_hisG (Since w8) (Since.tr _) (Since.rf _) [13, 14, 15, 16] (fun _ => 0) (by kernel_rfl) (by kernel_rfl) ?_
  intro w9 hk9 hh
  clear hh
  have hb8 := ho8.bytes (by simp)
  have q8 : ∀ w', Since w8 w9 w' → Sem.run Try.prog (convert 42 9 (.slice a8 96 c8)) w' = .ok (.string ⟨(List.replicate 5 (2 : UInt8) ++ List.replicate 91 1).toArray⟩) w' := fun w' h => run_str (P := Try.prog) 42 9 5 Try.underlying42 Try.underlying5 Try.underlying9 (hb8.keep (h hk9) (by simp))
  have HQ8 := Lib.hid q8
  have HD8 := Lib.hid hD8
  clear ho8 hb8 q8 hD8
  (refine his_q rfl rfl (fun K hK => ?_); apply Exists.intro; refine ⟨fun w' hC => ?_, ?_⟩; ((try simp [Sg.upd] at hC); go_simp <;> rfl); go_simp; refine hK _ _ ?_; clear hK K)
  (refine his_q rfl rfl (fun K hK => ?_); apply Exists.intro; refine ⟨fun w' hC => ?_, ?_⟩; ((try simp [Sg.upd] at hC); go_simp <;> rfl); go_simp; refine hK _ _ ?_; clear hK K)
  (refine his_q rfl rfl (fun K hK => ?_); apply Exists.intro; refine ⟨fun w' hC => ?_, ?_⟩; ((try simp [Sg.upd] at hC); go_simp <;> rfl); go_simp; refine hK _ _ ?_; clear hK K)
  (refine his_q rfl rfl (fun K hK => ?_); apply Exists.intro; refine ⟨fun w' hC => ?_, ?_⟩; ((try simp [Sg.upd] at hC); go_simp <;> rfl); go_simp; refine hK _ _ ?_; clear hK K)
  (refine his_q rfl rfl (fun K hK => ?_); apply Exists.intro; refine ⟨fun w' hC => ?_, ?_⟩; ((try simp [Sg.upd] at hC); go_simp <;> rfl); go_simp; refine hK _ _ ?_; clear hK K)
  (refine his_q rfl rfl (fun K hK => ?_); apply Exists.intro; refine ⟨fun w' hC => ?_, ?_⟩; ((try simp [Sg.upd] at hC); go_simp <;> rfl); go_simp; refine hK _ _ ?_; clear hK K)
  (refine his_q rfl rfl (fun K hK => ?_); apply Exists.intro; refine ⟨fun w' hC => ?_, ?_⟩; ((try simp [Sg.upd] at hC); go_simp <;> rfl); go_simp; refine hK _ _ ?_; clear hK K)
  (refine his_q rfl rfl (fun K hK => ?_); apply Exists.intro; refine ⟨fun w' hC => ?_, ?_⟩; ((try simp [Sg.upd] at hC); go_simp <;> rfl); go_simp; refine hK _ _ ?_; clear hK K)
  (refine his_q rfl rfl (fun K hK => ?_); apply Exists.intro; refine ⟨fun w' hC => ?_, ?_⟩; ((try simp [Sg.upd] at hC); go_simp <;> rfl); go_simp; refine hK _ _ ?_; clear hK K)
  (refine his_q rfl rfl (fun K hK => ?_); apply Exists.intro; refine ⟨fun w' hC => ?_, ?_⟩; ((try simp [Sg.upd] at hC); go_simp <;> rfl); go_simp; refine hK _ _ ?_; clear hK K)
  (refine his_q rfl rfl (fun K hK => ?_); apply Exists.intro; refine ⟨fun w' hC => ?_, ?_⟩; ((try simp [Sg.upd] at hC); go_simp <;> rfl); go_simp; refine hK _ _ ?_; clear hK K)
  (refine his_q rfl rfl (fun K hK => ?_); apply Exists.intro; refine ⟨fun w' hC => ?_, ?_⟩; ((try simp [Sg.upd] at hC); go_simp <;> rfl); go_simp; refine hK _ _ ?_; clear hK K)
  have q8 := HQ8.out
  (refine his_q rfl rfl (fun K hK => ?_); apply Exists.intro; refine ⟨fun w' hC => ?_, ?_⟩; ((try simp [Sg.upd] at hC); go_simp <;> rfl); go_simp; refine hK _ _ ?_; clear hK K)
  clear q8
  (refine his_l rfl rfl (fun K hK => ?_); go_simp)
  refine (cF3 _).mono ?_
  rintro x w10 ⟨v10, rfl, ho10, hk10⟩
  refine hK _ _ (fun h => h.trans hk10) ?_
  clear hK K
  (refine his_l rfl rfl (fun K hK => ?_); go_simp)
  refine (cF4 _).mono ?_
  rintro x w11 ⟨v11, rfl, ho11, hk11⟩
  refine hK _ _ (fun h => h.trans hk11) ?_
  clear hK K
  have ho10' := (ho10.keep hk11 (by simp)).base (Nat.le_trans hk9.size (Nat.le_refl _))
  refine his_l rfl rfl (fun K hK => ?_)
  refine loudly_append (.tmp 34) (.tmp 35) 42 5 rfl w8.heap.size Try.underlying42 (by kernel_rfl) (v := v10) (src := v11) rfl rfl ho10' (ho11.bytes (by simp)) (by simp) (Nat.le_trans hk9.size (Nat.le_trans hk10.size hk11.size)) ?_
  intro v12 w12 ho12 hk12
  have hk812 : Keep [] w8 w12 := (hk9.trans (hk10.trans hk11)).trans' hk12 (fun b hb => by
    rw [Option.mem_toList] at hb
    rcases ho10'.2 with ⟨h, -⟩ | ⟨g', c', cur, h, hg', -⟩
    · rw [h] at hb; simp [Value.ownBlock] at hb
    · rw [h] at hb
      simp [Value.ownBlock] at hb
      subst hb
      exact .inr hg')
  refine hK _ _ (fun _ => hk812) ?_
  clear hK K
  have q12 : Sem.run Try.prog (convert 42 9 v12) w12 = .ok (.string ⟨(List.replicate 5 (2 : UInt8) ++ List.replicate 91 1).toArray⟩) w12 := run_str (P := Try.prog) 42 9 5 Try.underlying42 Try.underlying5 Try.underlying9 (ho12.bytes (by simp))
  (refine his_l rfl rfl (fun K hK => ?_); go_simp)
  refine hK _ _ (fun h => h) ?_
  clear hK K q12
  generalize (List.replicate 5 (2 : UInt8) ++ List.replicate 91 1).toArray = L
  (refine his_q rfl rfl (fun K hK => ?_); apply Exists.intro; refine ⟨fun w' hC => ?_, ?_⟩; ((try simp [Sg.upd] at hC); go_simp <;> rfl); go_simp; refine hK _ _ ?_; clear hK K)
  (refine his_q rfl rfl (fun K hK => ?_); apply Exists.intro; refine ⟨fun w' hC => ?_, ?_⟩; ((try simp [Sg.upd] at hC); go_simp <;> rfl); go_simp; refine hK _ _ ?_; clear hK K)
  (refine his_q rfl rfl (fun K hK => ?_); apply Exists.intro; refine ⟨fun w' hC => ?_, ?_⟩; ((try simp [Sg.upd] at hC); go_simp <;> rfl); go_simp; refine hK _ _ ?_; clear hK K)
  (refine his_q rfl rfl (fun K hK => ?_); apply Exists.intro; refine ⟨fun w' hC => ?_, ?_⟩; ((try simp [Sg.upd] at hC); go_simp <;> rfl); go_simp; refine hK _ _ ?_; clear hK K)
  refine his_c rfl rfl (.int .i64 2) (fun K hK => ?_)
  refine ⟨fun w' hC => Yields.call 33 #[.pointer (some ⟨g, 0, none⟩)] ?_ (by kernel_rfl) ?_, ?_⟩
  · go_simp
  · have hC' : Keep [] w8 w' := hC hk9
    have := acts_any w' D7 g aw3 (HD8.out.keep hC' (by simp))
    rw [aw_4] at this
    exact this
  go_simp
  refine hK _ _ ?_
  clear hK K
  (repeat (first | (refine his_q rfl rfl (fun K hK => ?_); apply Exists.intro; refine ⟨fun w' hC => ?_, ?_⟩; ((try simp [Sg.upd] at hC); go_simp <;> rfl); go_simp; refine hK _ _ ?_; clear hK K) | (refine his_s rfl (fun K hK => ?_); go_simp; refine hK _ _ ?_; clear hK K)))
  refine his_nil ?_
  go_wp2
  go_ret
  exact ⟨rfl, hk78.trans hk812⟩
end Go.Proofs.Ytjkjiabfhhnngaa
