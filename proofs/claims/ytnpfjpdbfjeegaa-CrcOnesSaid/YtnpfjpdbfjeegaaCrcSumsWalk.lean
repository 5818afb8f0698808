import Derived.Test.YtnpfjpdbfjeegaaCrcSplitsWalk
import Derived.Test.YtnpfjpdbfjeegaaCrcTablesWalk
import Derived.Test.YtnpfjpdbfjeegaaOwn
import Derived.Test.YtnpfjpdbfjeegaaNum
/-! The walk of the law CrcSums. -/
namespace Go.Proofs.Ytnpfjpdbfjeegaa
open Go.RowKit Go.Shelf Sg

set_option maxRecDepth 100000 in
set_option maxHeartbeats 400000 in
theorem crcSumsWalk (W : World) (v : Value) (l : List UInt8) (hv : Bytes W v l) (a1 : Int) (w1 : (Lit.int .u8 a1).wf = true) :
    Calls Try.prog 3 #[v, .int .u8 a1] W fun e W' => e = .returned (.bool true) ∧ Below W.heap.size W W' := by
  obtain ⟨i, rfl, hi⟩ := u8_nat w1
  clear w1
  obtain ⟨ao, cap, rfl, hlc, hm, hcap⟩ := hv.form
  by_cases hbig : 1000 < l.length
  · go_enter Try.func3, Try.ntmps3
    go_wp2
    go_ret
    exact ⟨rfl, Below.refl _ _⟩
  · have hz : ∀ w, Sem.run Try.prog (zeroValue 24) w = .ok (.agg zeros256) w := fun _ => by kernel_rfl
    go_enter Try.func3, Try.ntmps3
    go_wp2_with fail
    refine (table_any _).mono ?_
    rintro e w1 ⟨rfl, hk1⟩
    go_wp2_with (refine wpList_store_row rfl 24 _ _ rfl w1.heap.size tabAll rfl rfl 24 zeros256 (heap_alloc_new _ _) (by kernel_rfl) (by kernel_rfl) (by kernel_rfl) ?_; obtain ⟨w2, hw2⟩ : ∃ w2, (w1.alloc (.cells zeros256 24)).setRow w1.heap.size tabAll = w2 := ⟨_, rfl⟩; rw [hw2])
    have hb2 : w2.heap[w1.heap.size]? = some (.cells tabAll 24 (0, 0)) := by rw [← hw2]; exact setRow_heap _ _ _ _ _ _ (heap_alloc_new _ _)
    have hk2 : Keep [] W w2 := by rw [← hw2]; exact (hk1.alloc _).setRow (.inr hk1.size) _
    clear hw2 hz
    have cell : w2.cell? ⟨w1.heap.size, i, none⟩ = some (.int .u32 (Crc.byte i : Int)) := by
      rw [cell_of_row _ _ _ _ _ _ hb2, tabAll, tabTo_get _ _ hi]
      simp [hi]
    have hi' : (i : Int) < 256 := by omega
    have hlt : w1.heap.size < w2.heap.size := by have := (Array.getElem?_eq_some_iff.1 hb2).1; omega
    clear hb2
    have hC0 : Keep [] w2 w2.drew := (Keep.refl [] w2).drew
    refine wp_region_lex (fun w' => Keep [] w2 w') [0, 2, 3, 6, 15, 19] (by kernel_rfl) (by kernel_rfl) hC0 ?_
    have cellk : ∀ w', Keep [] w2 w' → w'.cell? ⟨w1.heap.size, i, none⟩ = some (.int .u32 (Crc.byte i : Int)) := fun w' h => h.cell (by simp) cell
    generalize w2.drew = w3 at hC0 ⊢
    (repeat (first | (refine lex_q rfl rfl (fun K hK => ?_); apply Exists.intro; refine ⟨fun w' hC => ?_, ?_⟩; (go_simp <;> rfl); go_simp; refine hK _ _ ?_; clear hK K) | (refine lex_s rfl (fun K hK => ?_); go_simp; refine hK _ _ ?_; clear hK K)))
    (refine lex_l rfl rfl (fun K hK => ?_); go_simp)
    refine hK _ _ (hC0.alloc _) ?_
    clear hK K
    have hC1 := hC0.alloc (.cells #[] 5)
    have ho := OwnB.empty w3 w3.heap.size 5 (Nat.le_refl _)
    have hkW := hk2.trans hC1
    (repeat (first | (refine lex_q rfl rfl (fun K hK => ?_); apply Exists.intro; refine ⟨fun w' hC => ?_, ?_⟩; (go_simp <;> rfl); go_simp; refine hK _ _ ?_; clear hK K) | (refine lex_s rfl (fun K hK => ?_); go_simp; refine hK _ _ ?_; clear hK K)))
    refine lex_l rfl rfl (fun K hK => ?_)
    refine loudly_append (.tmp 10) (.tmp 11) 22 5 rfl w3.heap.size Try.underlying22 (by kernel_rfl) (v := .slice (some ⟨w3.heap.size, 0, none⟩) 0 0) (src := .slice ao l.length cap) rfl rfl ho (hv.keep hkW (by simp)) (by simp; omega) ((Keep.refl [] w3).alloc _).size ?_
    intro v4 w4 ho4 hk4
    have hC4 : Keep [] w2 w4 := hC1.trans' hk4 (by intro k hk; simp [Value.ownBlock] at hk; subst hk; exact .inr hC0.size)
    refine hK _ _ hC4 ?_
    clear hK K ho hkW hk4
    have hb4 := ho4.bytes (by simp; omega)
    simp only [List.nil_append] at hb4
    clear ho4 hC1 hC0
    have hW4 := hk2.trans hC4
    go_simp
    (repeat (first | (refine lex_q rfl rfl (fun K hK => ?_); apply Exists.intro; refine ⟨fun w' hC => ?_, ?_⟩; (go_simp <;> rfl); go_simp; refine hK _ _ ?_; clear hK K) | (refine lex_s rfl (fun K hK => ?_); go_simp; refine hK _ _ ?_; clear hK K)))
    (refine lex_l rfl rfl (fun K hK => ?_); go_simp)
    refine (sum_any _ _ _ hb4).mono ?_
    rintro e w5 ⟨rfl, hk5⟩
    have hC5 := hC4.trans hk5
    refine hK _ _ hC5 ?_
    clear hK K hb4 hW4 hC4 hk5
    have hs := sum_lt l
    have hs' : IntKind.i64.wrap ((Crc.sum (nats l) : Nat) : Int) = _ := i64_wrap_nat (by omega)
    have hby := Crc.byte_lt (n := i) (by omega)
    have hi2 : IntKind.i64.wrap (i : Int) = _ := i64_wrap_nat (by omega)
    have hb2 : IntKind.i64.wrap ((Crc.byte i : Nat) : Int) = _ := i64_wrap_nat (by omega)
    have hW5 := hk2.trans hC5
    (repeat (first | (refine lex_q rfl rfl (fun K hK => ?_); apply Exists.intro; refine ⟨fun w' hC => ?_, ?_⟩; (go_simp <;> rfl); go_simp; refine hK _ _ ?_; clear hK K) | (refine lex_s rfl (fun K hK => ?_); go_simp; refine hK _ _ ?_; clear hK K)))
    (refine lex_l rfl rfl (fun K hK => ?_); go_simp)
    refine (refSum_any _ _ _ (hv.keep hW5 (by simp))).mono ?_
    rintro e w6 ⟨rfl, rfl⟩
    refine hK _ _ hC5 ?_
    clear hK K
    (repeat (first | (refine lex_q rfl rfl (fun K hK => ?_); apply Exists.intro; refine ⟨fun w' hC => ?_, ?_⟩; (go_simp <;> rfl); go_simp; refine hK _ _ ?_; clear hK K) | (refine lex_s rfl (fun K hK => ?_); go_simp; refine hK _ _ ?_; clear hK K)))
    (refine lex_l rfl rfl (fun K hK => ?_); go_simp)
    refine (place_any i (by omega) _).mono ?_
    rintro e w6 ⟨rfl, rfl⟩
    refine hK _ _ hC5 ?_
    clear hK K
    (repeat (first | (refine lex_q rfl rfl (fun K hK => ?_); apply Exists.intro; refine ⟨fun w' hC => ?_, ?_⟩; (go_simp <;> rfl); go_simp; refine hK _ _ ?_; clear hK K) | (refine lex_s rfl (fun K hK => ?_); go_simp; refine hK _ _ ?_; clear hK K)))
    (refine lex_l rfl rfl (fun K hK => ?_); go_simp)
    refine (awake_any _).mono ?_
    rintro e w8 ⟨rfl, hk8⟩
    have hC8 := hC5.trans hk8
    refine hK _ _ hC8 ?_
    clear hK K hk8
    (repeat (first | (refine lex_q rfl rfl (fun K hK => ?_); apply Exists.intro; refine ⟨fun w' hC => ?_, ?_⟩; (go_simp <;> rfl); go_simp; refine hK _ _ ?_; clear hK K) | (refine lex_s rfl (fun K hK => ?_); go_simp; refine hK _ _ ?_; clear hK K)))
    refine lex_nil ?_
    go_wp2
    all_goals
      go_ret
      exact ⟨rfl, (hk2.trans hC8).below (Nat.le_refl _) (by simp)⟩
end Go.Proofs.Ytnpfjpdbfjeegaa
