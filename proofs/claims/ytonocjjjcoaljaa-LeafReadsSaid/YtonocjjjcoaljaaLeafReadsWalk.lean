import Derived.Test.YtonocjjjcoaljaaLeafLaw
/-! The walk of the law LeafReads. -/
namespace Go.Proofs.Ytonocjjjcoaljaa
open Go.RowKit Go.Shelf Sg
set_option linter.unusedSimpArgs false

/-- which leaf any bytes are the sector of, said once of both readers -/
theorem read_both (l : List UInt8) : ∃ (k p s : Int) (d : List UInt8) (cd : Int), d.length ≤ 100000 ∧
    (∀ x w, Bytes w x l → Calls Try.prog 12 #[x] w fun e w' => ∃ v, e = .returned (.tuple #[.agg #[.int .i64 k, .int .i64 p, .int .i64 s, v], .int .i64 cd]) ∧ Bytes w' v d ∧ Keep [] w w') ∧
    (∀ x w, Bytes w x l → Calls Try.prog 13 #[x] w fun e w' => e = .returned (.tuple #[.agg #[.int .i64 k, .int .i64 p, .int .i64 s, .string ⟨d.toArray⟩], .int .i64 cd]) ∧ Keep [] w w') := by
  by_cases hl : 96 ≤ l.length ∧ l.length ≤ 512
  · by_cases hok : LeafOk l
    · refine ⟨lk l, lp l, ls l, ll l, 0, ?_, fun x w hx => ?_, fun x w hx => ?_⟩
      · rw [ll, List.length_take, List.length_drop]; omega
      · refine (leafRead_in x l w hx hl).mono ?_
        rintro e w' ⟨hk, ⟨-, v, rfl, hb⟩ | ⟨h, -⟩⟩
        · exact ⟨v, rfl, hb, hk⟩
        · exact absurd hok h
      · refine (refRead_in x l w hx hl).mono ?_
        rintro e w' ⟨hk, ⟨-, rfl⟩ | ⟨h, -⟩⟩
        · exact ⟨rfl, hk⟩
        · exact absurd hok h
    · refine ⟨0, 0, 0, [], 5, by simp, fun x w hx => ?_, fun x w hx => ?_⟩
      · refine (leafRead_in x l w hx hl).mono ?_
        rintro e w' ⟨hk, ⟨h, -⟩ | ⟨-, rfl⟩⟩
        · exact absurd h hok
        · exact ⟨_, rfl, Bytes.nil _, hk⟩
      · refine (refRead_in x l w hx hl).mono ?_
        rintro e w' ⟨hk, ⟨h, -⟩ | ⟨-, rfl⟩⟩
        · exact absurd h hok
        · exact ⟨rfl, hk⟩
  · refine ⟨0, 0, 0, [], 3, by simp, fun x w hx => ?_, fun x w hx => ?_⟩
    · refine (leafRead_size x l w hx hl).mono ?_
      rintro e w' ⟨rfl, hk⟩
      exact ⟨_, rfl, Bytes.nil _, hk⟩
    · refine (refRead_size x l w hx hl).mono ?_
      rintro e w' ⟨rfl, hk⟩
      exact ⟨rfl, hk⟩

set_option maxRecDepth 100000 in
set_option maxHeartbeats 1000000 in
set_option maxHeartbeats 4000000 in
theorem leafReadsWalk (W : World) (v0 : Value) (l0 : List UInt8) (b0 : Bytes W v0 l0) :
    Calls Try.prog 4 #[v0] W fun e W' => e = .returned (.bool true) ∧ Below W.heap.size W W' := by
  obtain ⟨ao, cap, rfl, hlc, hm, hcap⟩ := b0.form
  by_cases hl : 600 < l0.length
  · have hl' : (600 : Int) < (l0.length : Int) := by omega
    go_enter Try.func4, Try.ntmps4
    go_wp2
    go_ret
    exact ⟨rfl, (Keep.refl [] W).below (Nat.le_refl _) (by simp)⟩
  · have hl' : ¬ (600 : Int) < (l0.length : Int) := by omega
    obtain ⟨k, p, s, d, cd, hd, hU, hR⟩ := read_both l0
    have HU := Lib.hid hU
    have HR := Lib.hid hR
    clear hU hR
    have ho := OwnB.empty W W.heap.size 5 (Nat.le_refl _)
    have hC1 := (Keep.refl [] W).alloc (.cells #[] 5)
    go_enter Try.func4, Try.ntmps4
    go_wp2_with (refine wpList_append_bytes rfl (.tmp 11) (.tmp 12) 24 5 rfl W.heap.size Try.underlying24 (by kernel_rfl) (v := .slice (some ⟨W.heap.size, 0, none⟩) 0 0) (src := .slice ao l0.length cap) rfl rfl ho (b0.keep hC1 (by simp)) (by simp; omega) hC1.size ?_)
    intro v4 w4 ho4 hk4
    have hC4 : Keep [] W w4 := hC1.trans' hk4 (by intro k hk; simp [Value.ownBlock] at hk; subst hk; exact .inr (Nat.le_refl _))
    clear hk4
    go_wp2_with fail
    refine (HU.out _ _ (ho4.bytes (by omega))).mono ?_
    rintro e w5 ⟨v5, rfl, b5, hk5⟩
    obtain ⟨a5, c5, rfl, -⟩ := b5.form
    have hC5 := (hC4.trans hk5).alloc (.cells #[.int .i64 k, .int .i64 p, .int .i64 s, .slice a5 d.length c5] 29)
    have b5' := b5.keep ((Keep.refl [] w5).alloc (.cells #[.int .i64 k, .int .i64 p, .int .i64 s, .slice a5 d.length c5] 29)) (by simp)
    have hX := heap_alloc_new w5 (.cells #[.int .i64 k, .int .i64 p, .int .i64 s, .slice a5 d.length c5] 29)
    clear b5 ho4 hk5 hC4
    go_wp2_with fail
    refine (HR.out _ _ (b0.keep hC5 (by simp))).mono ?_
    rintro e w6 ⟨rfl, hk6⟩
    have hX6 := hk6.blk (by simp) hX
    have b6 := b5'.keep hk6 (by simp)
    have hC6 := hC5.trans hk6
    have n6 : w5.heap.size < w6.heap.size := (Array.getElem?_eq_some_iff.1 hX6).1
    have n7 : ¬ w5.heap.size = w6.heap.size := by omega
    have g0 := cell_of_row w6 _ 0 _ _ _ hX6
    have g1 := cell_of_row w6 _ 1 _ _ _ hX6
    have g2 := cell_of_row w6 _ 2 _ _ _ hX6
    have g3 := cell_of_row w6 _ 3 _ _ _ hX6
    simp at g0 g1 g2 g3
    clear hX hX6 b5' hk6 hC5
    have hk7 := (Keep.refl [] w6).alloc (.cells #[.int .i64 k, .int .i64 p, .int .i64 s, .string ⟨d.toArray⟩] 23)
    go_wp2_with fail
    refine (told05_any k p s _ d _ (b6.keep hk7 (by simp))).mono ?_
    rintro x w8 ⟨rfl, hk8⟩
    clear g0 g1 g2 g3
    go_wp2_with fail
    refine (awake05_any _).mono ?_
    rintro x w9 ⟨rfl, hk9⟩
    go_wp2_with fail
    go_ret
    exact ⟨rfl, (hC6.trans (hk7.trans (hk8.trans hk9))).below (Nat.le_refl _) (by simp)⟩
end Go.Proofs.Ytonocjjjcoaljaa
