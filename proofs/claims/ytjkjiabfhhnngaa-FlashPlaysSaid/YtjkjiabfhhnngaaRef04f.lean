import Derived.Test.YtjkjiabfhhnngaaRef04e
/-! The document's device: a new one. -/
namespace Go.Proofs.Ytjkjiabfhhnngaa
open Go.RowKit Sg
set_option linter.unusedSimpArgs false
set_option linter.unusedVariables false

def newCells (sz : Nat) (fv pv : Value) : Array Value := #[.int .i64 (sz : Int), fv, .slice none 0 0, pv, .int .i64 0, .int .i64 0, .bool false]

/-- the rows of a new device's loop -/
structure New4 (w : World) (base : Nat) (Z : List UInt8) (fv pv : Value) (vs : List Sl) (j : Nat) : Prop where
  fast : SRow4 w base fv (List.replicate j Z)
  past : PRow4 w base pv vs
  len : vs.length = j
  each : ∀ k (h : k < vs.length), SRow4 w base vs[k].v [Z] ∧ vs[k].v.ownBlock ≠ fv.ownBlock
theorem row_ne_ty {α β : Type} {ea : α → List Value} {eb : β → List Value} {ka kb : Nat} {ta tb : TypeId} {w : World} {base base2 : Nat} {u v : Value} {l : List α} {m : List β} (h : RowE ea ka ta w base u l) (h2 : RowE eb kb tb w base2 v m) (ht : ta ≠ tb) :
    ∀ b, u.ownBlock = some b → b ∉ v.ownBlock.toList := by
  intro b hb hm
  have h3 : v.ownBlock = some b := by simpa using hm
  obtain ⟨-, -, cs, hc⟩ := h2.lt b h3
  exact h.ne hc (Ne.symm ht) hb
theorem keep_more {T S : List Nat} {a b c : World} (h : Keep T a b) (k : Keep S b c) (hs : ∀ k, k ∈ S → k ∈ T ∨ a.heap.size ≤ k) : Keep T a c := by
  refine ⟨k.os.trans h.os, k.tape.trans h.tape, k.output.trans h.output, Nat.le_trans h.size k.size, fun b hb hbs => ?_⟩
  rw [k.block b (Nat.lt_of_lt_of_le hb h.size) (fun hm => ?_)]
  · exact h.block b hb hbs
  · rcases hs b hm with h1 | h1
    · exact hbs h1
    · omega
theorem row_own_some {w : World} {base : Nat} {v : Value} {Z : List UInt8} (h : SRow4 w base v [Z]) : ∃ b, v.ownBlock = some b := by
  obtain ⟨-, hcs⟩ := h
  rcases hcs with ⟨-, e1⟩ | ⟨g', cap, cur, e1, -⟩
  · cases e1
  · exact ⟨g', by rw [e1]; rfl⟩

set_option maxRecDepth 100000 in
set_option maxHeartbeats 1000000 in
set_option maxHeartbeats 8000000 in
theorem refNew4_any (n sz : Nat) (hn : 1 ≤ n ∧ n ≤ 100) (hs : 1 ≤ sz ∧ sz ≤ 512) (w : World) (P : Nat → Prop) (HP : Hid (∀ b, w.heap.size ≤ b → P b)) :
    Calls Try.prog 18 #[.int .i64 (n : Int), .int .i64 (sz : Int)] w fun e w' => ∃ fv pv, e = .returned (.agg (d4cells (Dev.new n sz) fv (.slice none 0 0) pv)) ∧ RDV P w' fv (.slice none 0 0) pv (Dev.new n sz) ∧ Keep [] w w' := by
  obtain ⟨B, hB⟩ : ∃ B, w.heap.size = B := ⟨_, rfl⟩
  have HB := Lib.hid hB
  have hR0 : ((w.alloc (.cells z4cells 33)).alloc (.cells (newCells sz (.slice none 0 0) (.slice none 0 0)) 33)).heap[B]? = some (.cells z4cells 33 (0, 0)) := by
    rw [← hB]
    exact ((Keep.refl [] _).alloc _).blk (by simp) (heap_alloc_new w _)
  have hA0 : ((w.alloc (.cells z4cells 33)).alloc (.cells (newCells sz (.slice none 0 0) (.slice none 0 0)) 33)).heap[B + 1]? = some (.cells (newCells sz (.slice none 0 0) (.slice none 0 0)) 33 (0, 0)) := by
    rw [← hB]
    exact heap_alloc2_new w _ _
  have hK0 : Keep [] w ((w.alloc (.cells z4cells 33)).alloc (.cells (newCells sz (.slice none 0 0) (.slice none 0 0)) 33)) := ((Keep.refl [] w).alloc _).alloc _
  have HK0 := Lib.hid (And.intro hK0 (And.intro hA0 hR0))
  clear hA0 hR0 hK0
  unfold newCells z4cells at HK0
  go_enter Try.func18, Try.ntmps18
  go_upto_region 2 with fail
  clear hB
  generalize (w.alloc (.cells #[.int .i64 0, .slice none 0 0, .slice none 0 0, .slice none 0 0, .int .i64 0, .int .i64 0, .bool false] 33)).alloc (.cells #[.int .i64 (sz : Int), .slice none 0 0, .slice none 0 0, .slice none 0 0, .int .i64 0, .int .i64 0, .bool false] 33) = w2 at *
  go_wp2_with (refine wpList_make_bytes rfl (.tmp 10) (.tmp 10) 42 5 rfl w2.heap.size Try.underlying42 (by kernel_rfl) .i64 .i64 (n := sz) rfl rfl (by omega) (Nat.le_refl _) ?_)
  intro w3 hb3 hk3 hlt3
  have q3 := run_str (P := Try.prog) 42 9 5 Try.underlying42 Try.underlying5 Try.underlying9 (hb3.bytes (by simp; omega))
  obtain ⟨Z, hZ⟩ : ∃ Z : List UInt8, List.replicate sz 0 = Z := ⟨_, rfl⟩
  rw [hZ] at q3
  have HZ := Lib.hid hZ
  have H3 := Lib.hid (And.intro (hk3.blk (by simp) HK0.out.2.1) (And.intro (hk3.blk (by simp) HK0.out.2.2) (HK0.out.1.trans hk3)))
  have hBw : B + 2 ≤ w3.heap.size := by have := (Array.getElem?_eq_some_iff.1 H3.out.1).1; omega
  clear hb3 hk3 hlt3 hZ
  go_wp2
  clear q3
  go_loopw [7] (fun i wr => ∃ j : Nat, ∃ fv pv : Value, ∃ vs : List Sl, j ≤ n ∧ i = .int .i64 (j : Int) ∧ Hid (wr.heap[B + 1]? = some (.cells #[.int .i64 (sz : Int), fv, .slice none 0 0, pv, .int .i64 0, .int .i64 0, .bool false] 33 (0, 0))) ∧ Hid (New4 wr w3.heap.size Z fv pv vs j) ∧ Hid (Keep [B + 1] w3 wr)) (fun i _ => n - (intOf i).toNat)
  case atStart => exact ⟨0, .slice none 0 0, .slice none 0 0, [], by omega, rfl, Lib.hid H3.out.1, Lib.hid ⟨RowE.nil, RowE.nil, rfl, fun k h => by simp at h⟩, Lib.hid (Keep.refl _ _)⟩
  case round =>
    obtain ⟨j, fv, pv, vs, hj, rfl, HA, HN, HK⟩ := hrel
    rename World => wr
    obtain ⟨fa, fc, rfl⟩ := HN.out.fast.form
    obtain ⟨pa, pc, rfl⟩ := HN.out.past.form
    rw [List.length_replicate] at HA HN
    rw [HN.out.len] at HA HN
    have hBr : w3.heap.size ≤ wr.heap.size := HK.out.size
    have d0 := cell_of_row wr _ 0 _ _ _ HA.out
    have d1 := cell_of_row wr _ 1 _ _ _ HA.out
    have d3 := cell_of_row wr _ 3 _ _ _ HA.out
    simp at d0 d1 d3
    by_cases hjn : j < n
    · have hji : (j : Int) < (n : Int) := by omega
      -- the first append
      have kA := (Keep.refl [] wr).alloc (.cells #[.string ⟨Z.toArray⟩] 9)
      have nA : (wr.alloc (.cells #[.string ⟨Z.toArray⟩] 9)).heap[wr.heap.size]? = some (.cells (s4enc Z).toArray 9 (0, 0)) := heap_alloc_new wr _
      obtain ⟨v8, w8, hrun8, ho8, hk8, hl8⟩ := run_append_one (P := Try.prog) (ty := 29) s4lies Try.underlying29 s4_info rfl (by decide) (by decide) w3.heap.size (HN.out.fast.keep kA (by simp)) wr.heap.size Z nA (by simp; omega) (Nat.le_trans hBr kA.size)
      have e8 : List.replicate j Z ++ [Z] = List.replicate (j + 1) Z := by rw [List.replicate_succ']
      rw [e8] at ho8
      obtain ⟨a8, c8', rfl⟩ := ho8.form
      rw [List.length_replicate] at ho8 hrun8 hl8
      have hB1 : ∀ (b : Nat), (Value.slice fa j fc).ownBlock = some b → w3.heap.size ≤ b := fun b hb => (HN.out.fast.lt b hb).1
      have hA8 := hk8.blk (b := B + 1) (by intro h; have h2 : (Value.slice fa j fc).ownBlock = some (B + 1) := by simpa using h
                                           have := hB1 _ h2; omega) (kA.blk (by simp) HA.out)
      have e1 := cell_of_row _ _ 1 _ _ _ hA8
      have f1 := frozen_of_row w8 (B + 1) 1 _ _ hA8
      simp at e1
      have hA9 := heap_setCell_same w8 (B + 1) 1 _ _ (.slice a8 (j + 1) c8') hA8
      simp only [List.setIfInBounds_toArray, List.set_cons_zero, List.set_cons_succ] at hA9
      have HR8 := Lib.hid hrun8
      have H8 := Lib.hid (And.intro ho8 (And.intro hk8 (And.intro hl8 (And.intro kA (And.intro hA9 hB1)))))
      clear hrun8 ho8 hk8 hl8 e8 kA nA hA8 hA9 hB1
      go_upto_region 7 with (at_builtin; refine wpList_append_run rfl (.tmp 19) (.tmp 21) 29 rfl (w' := w8) rfl rfl HR8.out ?_)
      clear e1 f1 d0 d1 d3 HR8
      have k89 : Keep [B + 1] w8 (w8.setCell ⟨B + 1, 1, none⟩ (.slice a8 (j + 1) c8')) := (Keep.refl _ _).setCell (.inl (by simp)) _
      have hA9 := H8.out.2.2.2.2.1
      generalize w8.setCell ⟨B + 1, 1, none⟩ (.slice a8 (j + 1) c8') = w9 at *
      have d1 := cell_of_row w9 _ 1 _ _ _ hA9
      have d3 := cell_of_row w9 _ 3 _ _ _ hA9
      simp at d1 d3
      have hB9 : w3.heap.size ≤ w9.heap.size := Nat.le_trans (Nat.le_trans hBr (Nat.le_trans H8.out.2.2.2.1.size H8.out.2.1.size)) k89.size
      have fo9 : SRow4 w9 w3.heap.size (.slice a8 (j + 1) c8') (List.replicate (j + 1) Z) := H8.out.1.keep k89 (fun b hb hm => by have := (H8.out.1.lt b hb).1; simp at hm; omega)
      have po9 : PRow4 w9 w3.heap.size (.slice pa j pc) vs := ((HN.out.past.keep H8.out.2.2.2.1 (by simp)).keep H8.out.2.1 (row_ne_ty (HN.out.past.keep H8.out.2.2.2.1 (by simp)) (HN.out.fast.keep H8.out.2.2.2.1 (by simp)) (by decide))).keep k89 (fun b hb hm => by have := (HN.out.past.lt b hb).1; simp at hm; omega)
      have eo9 : ∀ k (h : k < vs.length), SRow4 w9 w3.heap.size vs[k].v [Z] ∧ vs[k].v.ownBlock ≠ (Value.slice a8 (j + 1) c8').ownBlock := by
        intro k h
        obtain ⟨h1, h2⟩ := HN.out.each k h
        have h3 : SRow4 (wr.alloc (.cells #[.string ⟨Z.toArray⟩] 9)) w3.heap.size vs[k].v [Z] := h1.keep H8.out.2.2.2.1 (by simp)
        have h4 := h3.keep H8.out.2.1 (fun b hb hm => h2 (by rw [hb]; exact (by simpa using hm : _ = some b).symm))
        refine ⟨h4.keep k89 (fun b hb hm => by have := (h4.lt b hb).1; simp at hm; omega), fun e => ?_⟩
        rcases H8.out.2.2.1 with h5 | h5
        · exact h2 (e.trans h5)
        · have h6 := (h3.lt _ (e.trans h5)).2.1
          omega
      have kA := (Keep.refl [] w9).alloc (.cells #[.string ⟨Z.toArray⟩] 9)
      have lit : SRow4 (w9.alloc (.cells #[.string ⟨Z.toArray⟩] 9)) w9.heap.size (.slice (some ⟨w9.heap.size, 0, none⟩) 1 1) [Z] := row_lit (enc := s4enc) (k := 1) (t := 9) w9 [Z] (by simp) rfl
      have kB := kA.alloc (.cells #[.slice (some ⟨w9.heap.size, 0, none⟩) 1 1] 29)
      have kB' := (Keep.refl [] (w9.alloc (.cells #[.string ⟨Z.toArray⟩] 9))).alloc (.cells #[.slice (some ⟨w9.heap.size, 0, none⟩) 1 1] 29)
      have nB : ((w9.alloc (.cells #[.string ⟨Z.toArray⟩] 9)).alloc (.cells #[.slice (some ⟨w9.heap.size, 0, none⟩) 1 1] 29)).heap[w9.heap.size + 1]? = some (.cells (p4enc (some ⟨w9.heap.size, 0, none⟩, 1, 1)).toArray 29 (0, 0)) := heap_alloc2_new w9 _ _
      obtain ⟨v10, w10, hrun10, ho10, hk10, hl10⟩ := run_append_one (P := Try.prog) (ty := 31) p4lies Try.underlying31 p4_info rfl (by decide) (by decide) w3.heap.size (po9.keep kB (by simp)) (w9.heap.size + 1) (some ⟨w9.heap.size, 0, none⟩, 1, 1) nB (by rw [HN.out.len]; omega) (Nat.le_trans hB9 kB.size)
      obtain ⟨a10, c10', rfl⟩ := ho10.form
      rw [List.length_append, HN.out.len, show j + [(some (⟨w9.heap.size, 0, none⟩ : Addr), 1, 1)].length = j + 1 from rfl] at ho10 hrun10
      have hrow10 : ∀ {l : List (List UInt8)} {v : Value} {base : Nat}, SRow4 ((w9.alloc (.cells #[.string ⟨Z.toArray⟩] 9)).alloc (.cells #[.slice (some ⟨w9.heap.size, 0, none⟩) 1 1] 29)) base v l → SRow4 w10 base v l := fun h => h.keep hk10 (row_ne_ty h (po9.keep kB (by simp)) (by decide))
      have hB1 : ∀ (b : Nat), (Value.slice pa j pc).ownBlock = some b → w3.heap.size ≤ b := fun b hb => (po9.lt b hb).1
      have hA10 := hk10.blk (b := B + 1) (by intro h; have h2 : (Value.slice pa j pc).ownBlock = some (B + 1) := by simpa using h
                                             have := hB1 _ h2; omega) (kB.blk (by simp) hA9)
      have e3 := cell_of_row _ _ 3 _ _ _ hA10
      have f3 := frozen_of_row w10 (B + 1) 3 _ _ hA10
      simp at e3
      have hA11 := heap_setCell_same w10 (B + 1) 3 _ _ (.slice a10 (j + 1) c10') hA10
      simp only [List.setIfInBounds_toArray, List.set_cons_zero, List.set_cons_succ] at hA11
      have k1011 : Keep [B + 1] w10 (w10.setCell ⟨B + 1, 3, none⟩ (.slice a10 (j + 1) c10')) := (Keep.refl _ _).setCell (.inl (by simp)) _
      have below : ∀ {α : Type} {enc : α → List Value} {k : Nat} {t : TypeId} {base : Nat} {v : Value} {l : List α}, w3.heap.size ≤ base → RowE enc k t w10 base v l → RowE enc k t (w10.setCell ⟨B + 1, 3, none⟩ (.slice a10 (j + 1) c10')) base v l := fun hb h => h.keep k1011 (fun b hb' hm => by have := (h.lt b hb').1; simp at hm; omega)
      have hnew : New4 (w10.setCell ⟨B + 1, 3, none⟩ (.slice a10 (j + 1) c10')) w3.heap.size Z (.slice a8 (j + 1) c8') (.slice a10 (j + 1) c10') (vs ++ [(some ⟨w9.heap.size, 0, none⟩, 1, 1)]) (j + 1) := by
        refine ⟨below (Nat.le_refl _) (hrow10 (fo9.keep kB (by simp))), below (Nat.le_refl _) ho10, by simp [HN.out.len], fun k h => ?_⟩
        by_cases hk : k < vs.length
        · rw [List.getElem_append_left hk]
          exact ⟨below (Nat.le_refl _) (hrow10 ((eo9 k hk).1.keep kB (by simp))), (eo9 k hk).2⟩
        · have hkl : k = vs.length := by simp at h; omega
          subst hkl
          rw [List.getElem_append_right (Nat.le_refl _)]
          simp only [Nat.sub_self, List.getElem_cons_zero]
          refine ⟨below (Nat.le_refl _) (hrow10 ((lit.keep kB' (by simp)).lower hB9)), fun e => ?_⟩
          have h5 : (Value.slice a8 (j + 1) c8').ownBlock = some w9.heap.size := e.symm
          have := (fo9.lt _ h5).2.1
          omega
      have kfin : Keep [B + 1] w3 (w10.setCell ⟨B + 1, 3, none⟩ (.slice a10 (j + 1) c10')) := by
        have s1 : Keep [B + 1] w3 (wr.alloc (.cells #[.string ⟨Z.toArray⟩] 9)) := HK.out.trans (H8.out.2.2.2.1.mono (by simp))
        have s2 : Keep [B + 1] w3 w8 := keep_more s1 H8.out.2.1 (fun b hb => .inr (H8.out.2.2.2.2.2 b (by simpa using hb)))
        have s3 : Keep [B + 1] w3 ((w9.alloc (.cells #[.string ⟨Z.toArray⟩] 9)).alloc (.cells #[.slice (some ⟨w9.heap.size, 0, none⟩) 1 1] 29)) := (s2.trans k89).trans (kB.mono (by simp))
        exact (keep_more s3 hk10 (fun b hb => .inr (hB1 b (by simpa using hb)))).trans k1011
      have HNEW := Lib.hid hnew
      have HKF := Lib.hid kfin
      have HA11 := Lib.hid hA11
      have HR10 := Lib.hid hrun10
      clear hnew kfin hA11 below hrow10 ho10 hk10 hl10 hA10 hB1 nB kB kB' lit kA eo9 po9 fo9 k1011 k89 hrun10 hA9
      go_upto_region 5 with (at_builtin; refine wpList_append_run rfl (.tmp 25) (.tmp 28) 31 rfl (w' := w10) rfl rfl HR10.out ?_)
      clear e3 f3 d1 d3
      go_wp2
      go_roundw
      case rel => exact ⟨j + 1, _, _, _, by omega, by go_num, HA11, HNEW, HKF⟩
      case measure => simp [intOf]; omega
    · have hji : ¬ (j : Int) < (n : Int) := by omega
      obtain rfl : j = n := by omega
      have hkr : Keep [] w wr := H3.out.2.2.trans' HK.out (fun b hb => .inr (by have := HB.out; simp at hb; omega))
      have hRr := HK.out.blk (by simp) H3.out.2.1
      have d2 := cell_of_row wr _ 2 _ _ _ HA.out
      have d4 := cell_of_row wr _ 4 _ _ _ HA.out
      have d5 := cell_of_row wr _ 5 _ _ _ HA.out
      have d6 := cell_of_row wr _ 6 _ _ _ HA.out
      simp at d2 d4 d5 d6
      have HR := Lib.hid hRr
      have HKR := Lib.hid hkr
      clear hRr hkr
      go_wp2_with (refine wpList_store_row rfl 33 (.tmp 4) (.tmp 31) rfl B #[.int .i64 (sz : Int), .slice fa j fc, .slice none 0 0, .slice pa j pc, .int .i64 0, .int .i64 0, .bool false] rfl rfl 33 _ HR.out (by kernel_rfl) (by rfl) (by kernel_rfl) ?_)
      refine bodyPost_ret (results_cell_row rfl _ _ B 33 _ _ _ rfl (setRow_heap _ _ _ _ _ _ HR.out) Try.underlying33 rfl (by kernel_rfl)) rfl ?_
      have k10 : Keep [B] wr (wr.setRow B #[.int .i64 (sz : Int), .slice fa j fc, .slice none 0 0, .slice pa j pc, .int .i64 0, .int .i64 0, .bool false]) := (Keep.refl _ _).setRow (.inl (by simp)) _
      have hk10 := HKR.out.trans' k10 (fun b hb => .inr (by have := HB.out; simp at hb; omega))
      refine ⟨.slice fa j fc, .slice pa j pc, rfl, ⟨?_, RowE.nil, ⟨vs, ?_, ?_, fun k h => ?_⟩, fun b hb => HP.out b (by have h1 := (HN.out.fast.lt b hb).1; have h2 := HB.out; omega), fun b hb => (by cases hb), fun b hb => HP.out b (by have h1 := (HN.out.past.lt b hb).1; have h2 := HB.out; omega)⟩, hk10⟩
      · show SRow4 _ 0 _ (List.replicate j (List.replicate sz 0))
        rw [HZ.out]
        exact (HN.out.fast.keep k10 (fun b hb hm => by have := (HN.out.fast.lt b hb).1; simp at hm; omega)).lower (Nat.zero_le _)
      · exact (HN.out.past.keep k10 (fun b hb hm => by have := (HN.out.past.lt b hb).1; simp at hm; omega)).lower (Nat.zero_le _)
      · rw [HN.out.len]; simp [Dev.new]
      · have h1 := (HN.out.each k h).1
        have h2 := (h1.keep k10 (fun b hb hm => by have := (h1.lt b hb).1; simp at hm; omega)).lower (base' := 0) (Nat.zero_le _)
        have h3 : pastAt (Dev.new j sz) k = [Z] := by
          unfold pastAt Dev.new
          rw [List.getD_eq_getElem?_getD, List.getElem?_replicate, HZ.out]
          split <;> rfl
        rw [h3]
        exact ⟨h2, fun b hb => HP.out b (by have h4 := (h1.lt b hb).1; have h5 := HB.out; omega)⟩
end Go.Proofs.Ytjkjiabfhhnngaa
