import Derived.Test.YtjkjiabfhhnngaaFlashCopy
/-! The walk of flash's Copy: another device, which shares nothing with it but bytes. -/
namespace Go.Proofs.Ytjkjiabfhhnngaa
open Go.RowKit Sg
open Go.Maps (int_keyed keyOf_int_mk)
set_option linter.unusedSimpArgs false
set_option linter.unusedVariables false

def isU8 (w : World) (b : Nat) : Bool := match w.heap[b]? with | some (.cells _ t _) => t == 5 | _ => false
theorem isU8_of {w : World} {b : Nat} {cs : Array Value} {fr : Nat × Nat} (h : w.heap[b]? = some (.cells cs 5 fr)) : isU8 w b = true := by
  unfold isU8
  rw [h]
  rfl
theorem isU8_inv {w : World} {b : Nat} (h : isU8 w b = true) : ∃ cs fr, w.heap[b]? = some (.cells cs 5 fr) := by
  unfold isU8 at h
  split at h
  · next t fr e => exact ⟨_, _, by rw [e, of_decide_eq_true (show decide (t = 5) = true by simpa using h)]⟩
  · cases h
/-- the blocks of a copy: those of D that are bytes, and new ones -/
def shares (w w' : World) (D : List Nat) : List Nat := D.filter (isU8 w) ++ newer w w'
theorem mem_shares {w w' : World} {D : List Nat} {b : Nat} : b ∈ shares w w' D ↔ (b ∈ D ∧ isU8 w b = true) ∨ (w.heap.size ≤ b ∧ b < w'.heap.size) := by
  unfold shares
  rw [List.mem_append, List.mem_filter, mem_newer]
theorem ownB_shares {w w' : World} {D : List Nat} {v : Value} {l : List UInt8} (h : OwnB w 0 5 v l) (hi : inD D v) : inD (shares w w' D) v := fun b hb => by
  obtain ⟨cs, h1⟩ := ownsRow_block h hb
  exact mem_shares.2 (.inl ⟨hi b hb, isU8_of h1⟩)
theorem Each.shares {w w' : World} {D : List Nat} {vs : List Value} {ls : List (List UInt8)} (h : Each w D vs ls) (k : Keep [] w w') : Each w' (shares w w' D) vs ls :=
  ⟨h.1, fun i v l h1 h2 => ⟨(h.2 i v l h1 h2).1.keep k (by simp), ownB_shares (h.2 i v l h1 h2).1 (h.2 i v l h1 h2).2⟩⟩
theorem Each.cells1 {w : World} {D : List Nat} {vs : List Value} {ls : List (List UInt8)} (h : Each w D vs ls) : ∀ u ∈ vs, u.oneCell' = true := fun u hu => by
  obtain ⟨i, hi, rfl⟩ := List.getElem_of_mem hu
  have hi2 : i < ls.length := by rw [← h.1]; exact hi
  have := (h.2 i _ _ (List.getElem?_eq_getElem hi) (List.getElem?_eq_getElem hi2)).1
  obtain ⟨a, c, e⟩ := ownsRow_form this
  rw [e]
  rfl
theorem loose_cells1 {w : World} {D : List Nat} : ∀ {ls : List (Nat × List UInt8)} {vs : List Value}, Each w D vs (ls.map (·.2)) → ∀ u ∈ looseCells ls vs, u.oneCell' = true := by
  intro ls vs h u hu
  unfold looseCells at hu
  obtain ⟨x, hx, hm⟩ := List.mem_flatMap.1 hu
  rcases List.mem_cons.1 hm with rfl | hm
  · rfl
  · rw [List.mem_singleton] at hm
    subst hm
    exact h.cells1 _ (List.of_mem_zip hx).2

theorem cpFrom {w : World} {base : Nat} {e : TypeId} {sz n : Nat} {v : Value} {xs : List Value} (h : w.ownsRow base e sz v n xs) {b : Nat} (hb : v.ownBlock = some b) : base ≤ b := by
  rcases h.2 with ⟨rfl, -⟩ | ⟨g, cap, cur, rfl, h1, -⟩
  · simp [Value.ownBlock] at hb
  · simp only [Value.ownBlock, Option.some.injEq] at hb
    omega
theorem cpBase {w : World} {base base' : Nat} {e : TypeId} {sz n : Nat} {v : Value} {xs : List Value} (h : w.ownsRow base e sz v n xs) (hb : base' ≤ base) : w.ownsRow base' e sz v n xs := by
  refine ⟨h.1, ?_⟩
  rcases h.2 with hn | ⟨g, cap, cur, rfl, hb', rest⟩
  · exact .inl hn
  · exact .inr ⟨g, cap, cur, rfl, Nat.le_trans hb hb', rest⟩

theorem ownsRow_inj {w : World} {base base' : Nat} {e : TypeId} {v : Value} {xs ys : List Value} (h : w.ownsRow base e 1 v xs.length xs) (k : w.ownsRow base' e 1 v ys.length ys) : xs = ys := by
  rcases h.2 with ⟨rfl, h0⟩ | ⟨g, cap, cur, rfl, -, hg, -, -, -, ht⟩
  · rcases k.2 with ⟨-, k0⟩ | ⟨g, cap, cur, e, -⟩
    · rw [List.eq_nil_of_length_eq_zero h0, List.eq_nil_of_length_eq_zero k0]
    · cases e
  · rcases k.2 with ⟨e, -⟩ | ⟨g', cap', cur', e, -, kg, -, -, -, kt⟩
    · cases e
    · injection e with e1 e2 e3
      injection e1 with e1
      injection e1 with e1 _ _
      subst e1
      rw [hg] at kg
      injection kg with kg
      injection kg with kg _ _
      subst kg
      rw [← e2] at kt
      exact ht.symm.trans kt

/-- of the range over the past: who is still to come, what has been laid -/
structure CpR (w0 wr : World) (base pm2 n : Nat) (pv : Nat → Option Value) (left : Lit → Bool) (fp : Nat → Option Value) : Prop where
  map : MapV Try.prog 3 wr pm2 n fp
  non : ∀ k, fp k = none ↔ (pv k = none ∨ left (.int .i64 (k : Int)) = true)
  has : ∀ k v, fp k = some v → ∃ u vs, pv k = some u ∧ w0.ownsRow 0 42 1 u vs.length vs ∧ wr.ownsRow base 42 1 v vs.length vs
  apart : ∀ j k v u b, fp j = some v → fp k = some u → v.ownBlock = some b → u.ownBlock = some b → j = k

theorem CpR.start {w0 wr : World} {base pm2 n : Nat} {pv : Nat → Option Value} {left : Lit → Bool} (hm : MapV Try.prog 3 wr pm2 n (fun _ => none)) (hl : ∀ k v, pv k = some v → left (.int .i64 (k : Int)) = true) : CpR w0 wr base pm2 n pv left (fun _ => none) :=
  ⟨hm, fun k => ⟨fun _ => by
    cases h : pv k with
    | none => exact .inl rfl
    | some v => exact .inr (hl k v h), fun _ => rfl⟩, fun k v h => by (cases h), fun j k v u b h => by (cases h)⟩
theorem CpR.step {w0 wr w1 w2 w3 : World} {base pm2 n k : Nat} {pv : Nat → Option Value} {left : Lit → Bool} {fp : Nat → Option Value} (h : CpR w0 wr base pm2 n pv left fp) {r : Nat} (k1 : Keep [r] wr w1) (hr : r ≠ pm2 ∧ ∀ t cs fr, wr.heap[r]? ≠ some (.cells cs t fr))
    (k2 : Keep [] w1 w2) (k3 : Keep [pm2] w2 w3) {u v : Value} {vs : List Value} (hu : pv k = some u) (hrow : w0.ownsRow 0 42 1 u vs.length vs) (hb : base ≤ w1.heap.size) (hv : w2.ownsRow w1.heap.size 42 1 v vs.length vs)
    (hm : MapV Try.prog 3 w3 pm2 n (updF fp k v)) : CpR w0 w3 base pm2 n pv (fun z => left z && !z.sameKey (.int .i64 (k : Int))) (updF fp k v) := by
  have hpm : ∃ es c, w2.heap[pm2]? = some (.map es c) := by
    have := (h.map.keep k1 (by simp; exact fun e => hr.1 e.symm)).keep k2 (by simp)
    exact this.isMapBlock
  obtain ⟨es, c, hpm⟩ := hpm
  have hv3 : w3.ownsRow base 42 1 v vs.length vs := by
    refine cpBase (ownsRow_keep hv k3 fun b hb hm => ?_) hb
    rw [List.mem_singleton] at hm
    subst hm
    obtain ⟨cs, h1⟩ := ownsRow_block hv hb
    rw [hpm] at h1
    cases h1
  have mv : ∀ {u : Value} {us : List Value}, wr.ownsRow base 42 1 u us.length us → w3.ownsRow base 42 1 u us.length us := fun {u us} ho => by
    refine ownsRow_keep (ownsRow_keep (ownsRow_keep ho k1 fun b hb hm => ?_) k2 (by simp)) k3 fun b hb hm => ?_
    · rw [List.mem_singleton] at hm
      subst hm
      obtain ⟨cs, h1⟩ := ownsRow_block ho hb
      exact hr.2 _ _ _ h1
    · rw [List.mem_singleton] at hm
      subst hm
      obtain ⟨cs, h1⟩ := ownsRow_block ho hb
      obtain ⟨es, c, h2⟩ := h.map.isMapBlock
      rw [h2] at h1
      cases h1
  have fr : ∀ {j : Nat} {t : Value} {b : Nat}, fp j = some t → t.ownBlock = some b → v.ownBlock = some b → False := fun {j t b} hj h1 h2 => by
    obtain ⟨u', vs', -, -, ho⟩ := h.has j t hj
    have := ownsRow_lt ho h1
    have := cpFrom hv h2
    have := k1.size
    omega
  refine ⟨hm, fun j => ?_, fun j t hj => ?_, fun i j t t' b hi hj h1 h2 => ?_⟩
  · by_cases e : j = k
    · subst e
      unfold updF
      rw [if_pos rfl, hu]
      simp [Lit.sameKey]
    · unfold updF
      rw [if_neg e, h.non j]
      have : (Lit.int .i64 (j : Int)).sameKey (.int .i64 (k : Int)) = false := by
        simp [Lit.sameKey]
        omega
      rw [this]
      simp
  · by_cases e : j = k
    · subst e
      unfold updF at hj
      rw [if_pos rfl] at hj
      cases hj
      exact ⟨u, vs, hu, hrow, hv3⟩
    · unfold updF at hj
      rw [if_neg e] at hj
      obtain ⟨u', vs', h1, h2, h3⟩ := h.has j t hj
      exact ⟨u', vs', h1, h2, mv h3⟩
  · unfold updF at hi hj
    by_cases ei : i = k <;> by_cases ej : j = k
    · rw [ei, ej]
    · rw [if_pos ei] at hi
      rw [if_neg ej] at hj
      cases hi
      exact (fr hj h2 h1).elim
    · rw [if_neg ei] at hi
      rw [if_pos ej] at hj
      cases hj
      exact (fr hi h1 h2).elim
    · rw [if_neg ei] at hi
      rw [if_neg ej] at hj
      exact h.apart i j t t' b hi hj h1 h2

theorem tok_any {v : Value} {y : DataW Value × List MemPlace} (h : tokR v = some y) : ∃ c, v = (fun x : Value => x) c := ⟨v, rfl⟩

set_option maxRecDepth 100000 in
set_option maxHeartbeats 1000000 in
set_option maxHeartbeats 4000000 in
theorem copy_any (w : World) (D : List Nat) (g : Nat) (m : Dev) (h : DV w D g m) (hacts : m.acts ≤ 1000000) :
    Calls Try.prog 37 #[.pointer (some ⟨g, 0, none⟩)] w fun e w' => ∃ gc D', e = .returned (.pointer (some ⟨gc, 0, none⟩)) ∧ DV w' D' gc m ∧ (∀ b ∈ D', (b ∈ D ∧ isU8 w b = true) ∨ w.heap.size ≤ b) ∧ Keep [] w w' := by
  obtain ⟨hw, fm, pm, lv, fv, pv, h⟩ := h
  obtain ⟨la, lc, rfl⟩ := h.loose.form
  have hn2 := hw.n2
  have c0 := h.rowD.c0
  have c1 := h.rowD.c1
  have c2 := h.rowD.c2
  have c3 := h.rowD.c3
  have c4 := h.rowD.c4
  have c5 := h.rowD.c5
  have c6 := h.rowD.c6
  have c7 := h.rowD.c7
  have H := Lib.hid h
  clear h
  go_enter Try.func37, Try.ntmps37
  go_wp2_with fail
  obtain ⟨w1, hw1⟩ : ∃ w1, w.alloc (.cells (devCells m fm pm (.slice la m.loose.length lc)) 173) = w1 := ⟨_, rfl⟩
  have hA : Keep [] w w1 := by rw [← hw1]; exact (Keep.refl [] w).alloc _
  have hB1 : w1.heap[w.heap.size]? = some (.cells (devCells m fm pm (.slice la m.loose.length lc)) 173 (0, 0)) := by rw [← hw1]; exact heap_alloc_new w _
  have hs1 : w1.heap.size = w.heap.size + 1 := by rw [← hw1]; simp
  unfold devCells at hw1
  rw [hw1]
  clear hw1 c0 c1 c2 c3 c4 c5 c6 c7
  obtain ⟨gb, hgb⟩ : ∃ gb, w.heap.size = gb := ⟨_, rfl⟩
  rw [hgb] at hB1 hs1 ⊢
  have hgg : g ∉ [gb] := fun e => by
    rw [List.mem_singleton] at e
    have := H.out.lt _ H.out.inG
    omega
  refine wp_region_his [gb] [4, 9, 11, 13] (fun _ => 0) (by kernel_rfl) (by kernel_rfl) ?_
  intro w2 hk2 hh
  clear hh
  have hB2 := hk2.blk (by simp) hB1
  have hk02 := hA.trans hk2
  have hr2 := H.out.rowD.keep hk02 (by simp)
  have q2 := fun w' (h' : Keep [gb] w2 w') => h'.cell (p := ⟨g, 2, none⟩) hgg hr2.c2
  have q3 := fun w' (h' : Keep [gb] w2 w') => h'.cell (p := ⟨g, 3, none⟩) hgg hr2.c3
  obtain ⟨es, clock, hes⟩ := H.out.fast.isMapBlock
  have hcl := mapsClone_any fm es clock w2 (hk02.blk (by simp) hes)
  have hm2 : MapV Try.prog 3 (w2.alloc (.map es clock)) w2.heap.size m.n fv := by
    obtain ⟨D0, n0, ⟨es', clock', h1, h2⟩, h3⟩ := H.out.fast
    rw [hes] at h1
    cases h1
    exact ⟨D0, n0, ⟨es, clock, heap_alloc_new _ _, h2⟩, h3⟩
  obtain ⟨w3, hw3⟩ : ∃ w3, w2.alloc (.map es clock) = w3 := ⟨_, rfl⟩
  have hk3 : Keep [] w2 w3 := by rw [← hw3]; exact (Keep.refl [] w2).alloc _
  have hs3 : w3.heap.size = w2.heap.size + 1 := by rw [← hw3]; simp
  rw [hw3] at hcl hm2
  clear hw3 hes
  obtain ⟨vs, hL1, hL2, hL3⟩ : LooseV w D (.slice la m.loose.length lc) m.loose := H.out.loose
  have hk03 := hk02.trans hk3
  have hcw := cloneW_any w3 _ _ _ _ (ownsRow_keep hL1 hk03 (by simp)) (loose_cells1 hL3) (by have := hw.ll; omega)
  (repeat (first | (refine his_q rfl rfl (fun K hK => ?_); apply Exists.intro; refine ⟨fun w' hC => ?_, ?_⟩; ((try simp [Sg.upd] at hC); go_simp <;> rfl); go_simp; refine hK _ _ ?_; clear hK K) | (refine his_s rfl (fun K hK => ?_); go_simp; refine hK _ _ ?_; clear hK K)))
  (refine his_l rfl rfl (fun K hK => ?_); go_simp)
  refine hcl.mono ?_
  rintro e w' ⟨rfl, rfl⟩
  refine hK _ _ (hk3.mono (by simp)) ?_
  clear hK K
  (repeat (first | (refine his_q rfl rfl (fun K hK => ?_); apply Exists.intro; refine ⟨fun w' hC => ?_, ?_⟩; ((try simp [Sg.upd] at hC); go_simp <;> rfl); go_simp; refine hK _ _ ?_; clear hK K) | (refine his_s rfl (fun K hK => ?_); go_simp; refine hK _ _ ?_; clear hK K)))
  (refine his_l rfl rfl (fun K hK => ?_); go_simp)
  refine hcw.mono ?_
  rintro e w4 ⟨v4, rfl, ho4, hk4⟩
  refine hK _ _ (hk4.mono (by simp)) ?_
  clear hK K
  obtain ⟨va, vc, rfl⟩ := ownsRow_form ho4
  have hB4 := (hk3.trans hk4).blk (by simp) hB2
  have e4 : w4.cell? ⟨gb, 2, none⟩ = some (.map (some fm)) := by rw [cell_of_row _ _ _ _ _ _ hB4]; rfl
  have f4 := fun j => frozen_of_row _ gb j _ _ hB4
  have hB5 := heap_setCell_same w4 gb 2 _ _ (.map (some w2.heap.size)) hB4
  have e5 : (w4.setCell ⟨gb, 2, none⟩ (.map (some w2.heap.size))).cell? ⟨gb, 3, none⟩ = some (.slice la m.loose.length lc) := by rw [cell_of_row _ _ _ _ _ _ hB5]; rfl
  have f5 := fun j => frozen_of_row _ gb j _ _ hB5
  (repeat (first | (refine his_q rfl rfl (fun K hK => ?_); apply Exists.intro; refine ⟨fun w' hC => ?_, ?_⟩; ((try simp [Sg.upd] at hC); go_simp <;> rfl); go_simp; refine hK _ _ ?_; clear hK K) | (refine his_s rfl (fun K hK => ?_); go_simp; refine hK _ _ ?_; clear hK K)))
  (refine his_l rfl rfl (fun K hK => ?_); go_simp)
  have hkb : ∀ (a b : World) (j : Nat) (v : Value), Keep [gb] a b → Keep [gb] a (b.setCell ⟨gb, j, none⟩ v) := fun a b j v k => k.setCell (.inl (by simp)) v
  refine hK _ _ (hkb _ _ _ _ (Keep.refl _ _)) ?_
  clear hK K
  (repeat (first | (refine his_q rfl rfl (fun K hK => ?_); apply Exists.intro; refine ⟨fun w' hC => ?_, ?_⟩; ((try simp [Sg.upd] at hC); go_simp <;> rfl); go_simp; refine hK _ _ ?_; clear hK K) | (refine his_s rfl (fun K hK => ?_); go_simp; refine hK _ _ ?_; clear hK K)))
  (refine his_l rfl rfl (fun K hK => ?_); go_simp)
  obtain ⟨w5, hw5⟩ : ∃ w5, (w4.setCell ⟨gb, 2, none⟩ (.map (some w2.heap.size))).setCell ⟨gb, 3, none⟩ (.slice va m.loose.length vc) = w5 := ⟨_, rfl⟩
  have hB6 := heap_setCell_same _ gb 3 _ _ (.slice va m.loose.length vc) hB5
  have hk45 : Keep [gb] w4 w5 := by rw [← hw5]; exact hkb _ _ _ _ (hkb _ _ _ _ (Keep.refl _ _))
  refine hK _ _ (hkb _ _ _ _ (Keep.refl _ _)) ?_
  clear hK K
  rw [hw5] at hB6 ⊢
  refine his_nil ?_
  clear q2 q3 e4 f4 e5 f5 hw5 hB5 hkb
  have hB6' : w5.heap[gb]? = some (.cells (devCells m w2.heap.size pm (.slice va m.loose.length vc)) 173 (0, 0)) := hB6
  clear hB6
  have hk5 : Keep [] w w5 := (hk03.trans hk4).trans' hk45 (by simp [hgb])
  have hA6 := (Keep.refl [] w5).alloc (.map #[] 0)
  have hB7 := hA6.blk (by simp) hB6'
  have e6 : (w5.alloc (.map #[] 0)).cell? ⟨gb, 4, none⟩ = some (.map (some pm)) := by rw [cell_of_row _ _ _ _ _ _ hB7]; rfl
  have f6 := frozen_of_row _ gb 4 _ _ hB7
  have hB8 := heap_setCell_same _ gb 4 _ _ (.map (some w5.heap.size)) hB7
  have hk58 : Keep [gb] w5 ((w5.alloc (.map #[] 0)).setCell ⟨gb, 4, none⟩ (.map (some w5.heap.size))) := (hA6.mono (by simp)).setCell (.inl (by simp)) _
  have hk8 := hk5.trans' hk58 (by simp [hgb])
  have c4 := (H.out.rowD.keep hk8 (by simp)).c4
  obtain ⟨D0, hown, hat0, hin0⟩ := (H.out.past.keep hk8 (by simp)).few Try.underlying3
  have hm8 : MapV Try.prog 3 ((w5.alloc (.map #[] 0)).setCell ⟨gb, 4, none⟩ (.map (some w5.heap.size))) w5.heap.size m.n (fun _ => none) := (MapV.made w5 Try.prog 3 m.n).keep ((Keep.refl [gb] _).setCell (.inl (by simp)) _) (by
    have := (Array.getElem?_eq_some_iff.1 hB6').1
    simp
    omega)
  have hs8 : ((w5.alloc (.map #[] 0)).setCell ⟨gb, 4, none⟩ (.map (some w5.heap.size))).heap.size = w5.heap.size + 1 := by simp
  have hgb2 : gb < w2.heap.size := (Array.getElem?_eq_some_iff.1 hB2).1
  have K5 := Lib.hid (And.intro hk5 (And.intro hk8 (And.intro hk45 (And.intro ho4 (And.intro hm2 (And.intro hk2 (And.intro hk3 (And.intro hk4 (And.intro hL1 (And.intro hL2 (And.intro hL3 (And.intro hk58 (And.intro hk02 (And.intro hs3 hgb2))))))))))))))
  have KB := Lib.hid (And.intro hB6' (And.intro hB8 (And.intro hm8 (And.intro hown (And.intro hat0 (And.intro hin0 hs8))))))
  clear hk5 hk8 hk45 ho4 hm2 hk2 hk3 hk4 hL1 hL2 hL3 hk58 hk02 hs3 hgb2 hB6' hB8 hm8 hat0 hin0 hs8 hB7 hA6 hk03 hB4 hB2 hB1 hr2 hA hs1 hcl hcw
  have hmm := @run_makeMap Try.prog
  have kz := int_keyed (P := Try.prog) Try.underlying3
  go_wp2_with (first
    | (at_range; refine wpList_range_own _ rfl _ 170 rfl 3 56 kz Try.underlying170 _ pm m.n _ rfl hown ?_; intro w8 hrg0 hg0 hs0)
    | go_in)
  go_frame
  obtain ⟨w7, hw7⟩ : ∃ w7, (w5.alloc (.map #[] 0)).setCell ⟨gb, 4, none⟩ (.map (some w5.heap.size)) = w7 := ⟨_, rfl⟩
  have KB7 := KB.out
  rw [hw7] at KB7 hrg0 hg0 hs0 ⊢
  have K57 := K5.out
  rw [hw7] at K57
  clear KB K5 hown c4 e6 f6 hw7
  obtain ⟨p2, hp2⟩ : ∃ p2, w5.heap.size = p2 := ⟨_, rfl⟩
  obtain ⟨r, hr⟩ : ∃ r, w7.heap.size = r := ⟨_, rfl⟩
  rw [hr] at hrg0 hs0 ⊢
  rw [hp2] at KB7
  have hk78 : Keep [] w7 w8 := Keep.grown hg0
  have hne : r ≠ p2 := by have := KB7.2.2.2.2.2.2; omega
  have hst : CpR w w8 w8.heap.size p2 m.n pv (Maps.has D0) (fun _ => none) := CpR.start (KB7.2.2.1.keep hk78 (by simp)) (fun k v hv => by
    have h1 := KB7.2.2.2.2.1 k .nil
    rw [hv] at h1
    cases hh : Maps.has D0 (.int .i64 (k : Int)) with
    | true => rfl
    | false =>
      rw [Maps.atKey_of_not_has hh] at h1
      cases h1)
  have hr8 := hk78.blk (by simp) KB7.2.1
  have HK := Lib.hid (And.intro K57 (And.intro KB7 (And.intro hk78 (And.intro hne (And.intro hp2 (And.intro hr (And.intro hs0 hr8)))))))
  have HRG := Lib.hid hrg0
  have HST := Lib.hid hst
  clear K57 KB7 hk78 hne hp2 hr hs0 hr8 hrg0 hst hg0
  go_loopw [4] (fun _ wr => ∃ (left : Lit → Bool) (cnt : Nat) (fp : Nat → Option Value), Hid (wr.ranges Try.prog 3 tokR pm r m.n D0 left cnt) ∧ Hid (∀ kl, left kl = true → Maps.has D0 kl = true) ∧ Hid (Keep [p2, r] w8 wr) ∧ Hid (CpR w wr w8.heap.size p2 m.n pv left fp))
    (fun _ wr => wr.rangeLeft pm r)
  case atStart => exact ⟨_, _, _, HRG, Lib.hid (fun _ h => h), Lib.hid (Keep.refl _ _), HST⟩
  case round =>
    clear HRG HST
    obtain ⟨left, cnt, fp, HRG, HL, HKW, HCP⟩ := hrel
    have hrg := HRG.out
    go_wp2_with (first
      | (at_next; refine wpList_next_ranges _ rfl _ rfl 3 kz tokR (Value.int .i64) (fun x => x) (fun key kl hkey => by obtain ⟨x, rfl, _⟩ := Maps.keyOf_int_inv Try.underlying3 hkey; exact ⟨x, rfl⟩) (fun v y hv => ⟨v, rfl⟩) pm r m.n _ _ _ rfl hrg ?_ ?_)
      | go_in)
    · intro hc0 hl0
      go_wp2
      go_ret
      obtain ⟨⟨hk5, hk7, hk45, ho4, hm2, hk2, hk3, hk4, hL1, hL2, hL3, hk57, hk02, hs3, hgb2⟩, ⟨hB6, hB7, hm7, hown, hat0, hin0, hs7⟩, hk78, hne, hp2, hr, hs8, hr8⟩ := HK.out
      have hsw2 := hk02.size
      have hs4 := hk4.size
      have hs5 := hk45.size
      have hk0r : Keep [] w wr := (hk7.trans hk78).trans' HKW.out (by
        intro b hb
        have h3 := hk5.size
        simp at hb
        omega)
      have k4r : Keep [gb, p2, r] w4 wr := (((hk45.mono (by simp)).trans (hk57.mono (by simp))).trans (hk78.mono (by simp))).trans (HKW.out.mono (by simp))
      have hrow := HKW.out.blk (by simp; omega) hr8
      refine ⟨gb, shares w wr D, rfl, ⟨hw, w2.heap.size, p2, .slice va m.loose.length vc, fv, fp, ?_⟩, fun b hb => ?_, hk0r⟩
      · have hlt : ∀ b ∈ D, b < w.heap.size := H.out.lt
        have hnew : ∀ b, w.heap.size ≤ b → b < wr.heap.size → b ∈ shares w wr D := fun b h1 h2 => mem_shares.2 (.inr ⟨h1, h2⟩)
        have hsr := k4r.size
        have hs0r := HKW.out.size
        refine ⟨hrow, (hm2.keep hk4 (by simp)).keep k4r (by simp; omega), HCP.out.map, fun k hk => ?_, fun k hk => ?_, HCP.out.apart, ?_, hnew _ (by omega) (by omega), hnew _ (by omega) (by omega), hnew _ (by omega) (by omega), by omega, fun b hb => ?_⟩
        · have := H.out.fasts k hk
          cases hf : fv k with
          | none => rw [hf] at this; exact this
          | some v =>
            rw [hf] at this
            exact ⟨this.1.keep hk0r (by simp), ownB_shares this.1 this.2⟩
        · have := H.out.pasts k hk
          cases hf : fp k with
          | none =>
            rcases (HCP.out.non k).1 hf with h1 | h1
            · rw [h1] at this
              exact this
            · rw [hl0] at h1
              cases h1
          | some v =>
            obtain ⟨u, vs', h1, h2, h3⟩ := HCP.out.has k v hf
            rw [h1] at this
            obtain ⟨vs2, h4, -, h6⟩ := this
            obtain rfl := ownsRow_inj h4 h2
            refine ⟨_, cpBase h3 (Nat.zero_le _), fun b hb => ?_, h6.shares hk0r⟩
            have h7 := ownsRow_lt h3 hb
            have h8 := cpFrom h3 hb
            exact hnew b (by omega) h7
        · refine ⟨_, cpBase (ownsRow_keep ho4 k4r fun b hb => ?_) (Nat.zero_le _), fun b hb => ?_, hL3.shares hk0r⟩
          · have h7 := ownsRow_lt ho4 hb
            have h8 := cpFrom ho4 hb
            simp
            omega
          · have h7 := ownsRow_lt ho4 hb
            have h8 := cpFrom ho4 hb
            exact hnew b (by omega) (by omega)
        · rcases mem_shares.1 hb with h1 | h1
          · have := hlt b h1.1
            have := hk0r.size
            omega
          · exact h1.2
      · rcases mem_shares.1 hb with h1 | h1
        · exact .inl h1
        · exact .inr h1.1
    · intro x c kl y ps w1 cnt1 hkey hlk hR hat hrg1 hlt hg1 hs1 hen
      obtain ⟨x', e1, rfl, hwf⟩ := Maps.keyOf_int_inv Try.underlying3 hkey
      cases e1
      have ey : y = .held c := tokR_inv hR
      subst ey
      obtain ⟨k, hkn, ek⟩ := HK.out.2.1.2.2.2.2.2.1 _ (HL.out _ hlk)
      cases ek
      have hat1 := HK.out.2.1.2.2.2.2.1 k .nil
      have hpv : pv k = some c := by
        rw [hat] at hat1
        cases hh : pv k with
        | none => rw [hh] at hat1; cases hat1
        | some c' => rw [hh] at hat1; cases hat1; rfl
      have hkp : k < m.past.length := by rw [hw.pl]; exact hkn
      have hpa := H.out.pasts k hkp
      rw [hpv] at hpa
      obtain ⟨vs, hrow, -, heach⟩ := hpa
      have hvl : vs.length ≤ 1000000 := by
        have := (hw.ps k hkp).1
        have := heach.1
        omega
      have hkr1 : Keep [r] wr w1 := Keep.grown hg1
      have hk81 : Keep [p2, r] w8 w1 := HKW.out.trans (hkr1.mono (by simp))
      have hk01 : Keep [] w w1 := (HK.out.1.2.1.trans HK.out.2.2.1).trans' hk81 (by
        intro b hb
        have h1 := HK.out.2.2.2.2.1
        have h2 := HK.out.2.2.2.2.2.1
        have h3 := HK.out.1.1.size
        have h4 := HK.out.1.2.1.size
        simp at hb
        have h5 := HK.out.2.2.1.size
        omega)
      have hcc := fun w' (h' : Keep [] w1 w') => cloneP_any w' c vs.length 0 vs (ownsRow_keep hrow (hk01.trans h') (by simp)) heach.cells1 hvl
      obtain ⟨ca, cc, rfl⟩ := ownsRow_form hrow
      have hgb : gb ∉ [p2, r] := by
        have h1 := (Array.getElem?_eq_some_iff.1 HK.out.2.1.1).1
        have h2 := HK.out.2.2.2.2.1
        have h3 := HK.out.2.2.2.2.2.1
        have h4 := HK.out.1.2.1.size
        have h5 := HK.out.2.1.2.2.2.2.2.2
        simp
        omega
      have hB1 := hk81.blk hgb HK.out.2.2.2.2.2.2.2
      have HH := Lib.hid (And.intro hrow (And.intro heach (And.intro hkr1 (And.intro hk81 (And.intro hk01 (And.intro hrg1 (And.intro hlt (And.intro hs1 hpv))))))))
      clear hrow heach hkr1 hk81 hk01 hrg1 hlt hs1 hpv hat1 hat hg1 hR hlk hkey
      go_wp2_with fail
      refine wp_region_his [] [4, 5] (fun _ => 0) (by kernel_rfl) (by kernel_rfl) ?_
      intro wx hkx hh
      clear hh hen
      have hBx := hkx.blk (by simp) hB1
      have qx := fun w' (h' : Keep [] wx w') => show w'.cell? ⟨gb, 4, none⟩ = some (.map (some p2)) from by rw [cell_of_row _ _ _ _ _ _ (h'.blk (by simp) hBx)]; rfl
      (repeat (first | (refine his_q rfl rfl (fun K hK => ?_); apply Exists.intro; refine ⟨fun w' hC => ?_, ?_⟩; ((try simp [Sg.upd] at hC); go_simp <;> rfl); go_simp; refine hK _ _ ?_; clear hK K) | (refine his_s rfl (fun K hK => ?_); go_simp; refine hK _ _ ?_; clear hK K)))
      (refine his_l rfl rfl (fun K hK => ?_); go_simp)
      refine (hcc wx hkx).mono ?_
      rintro e wy ⟨vy, rfl, hoy, hky⟩
      refine hK _ _ hky ?_
      clear hK K
      have hmy : MapV Try.prog 3 wy p2 m.n fp := ((HCP.out.map.keep HH.out.2.2.1 (by simp; exact fun e => HK.out.2.2.2.1 e.symm)).keep hkx (by simp)).keep hky (by simp)
      obtain ⟨wz, hrz, hmz, hkz, hsz⟩ := hmy.store Try.underlying3 Try.underlying170 k hkn (by omega) vy
      obtain ⟨ya, yc, rfl⟩ := ownsRow_form hoy
      have HR := Lib.hid hrz
      clear hrz hcc hB1 hBx
      refine his_last rfl (by kernel_rfl) rfl (fun K hK => ?_)
      refine loudly_mapUpdate_run (.tmp 36) (.tmp 37) (.tmp 39) 170 rfl (mv := .map (some p2)) (xv := .int .i64 (k : Int)) (yv := .slice ya vs.length yc) (w' := wz) ?_ ?_ ?_ HR.out ?_
      · rfl
      · rfl
      · rfl
      refine hK _ _ ?_
      clear hK K qx HR
      refine his_nil ?_
      simp only [Act.put]
      have hpd : pm ≠ p2 := by
        have h1 := H.out.lt _ H.out.inP
        have h2 := HK.out.2.2.2.2.1
        have h3 := HK.out.1.1.size
        omega
      have hrp : r ≠ pm := fun e => by
        have h1 := H.out.lt _ H.out.inP
        have h2 := HK.out.2.2.2.2.2.1
        have h3 := HK.out.1.2.1.size
        omega
      have k1z : Keep [p2] w1 wz := ((hkx.trans hky).mono (by simp)).trans hkz
      have hrgz := HH.out.2.2.2.2.2.1.kept (w' := wz) (row := some p2) ⟨k1z.os, k1z.tape, k1z.output, k1z.size, fun i hi hne => k1z.block i hi (by simp; exact fun e => hne (by rw [e]))⟩ (by simp; exact hpd) (by simp; exact HK.out.2.2.2.1)
      have hst := HCP.out.step HH.out.2.2.1 ⟨HK.out.2.2.2.1, fun t cs fr he => by
        obtain ⟨_, _, _, _, _, _, _, _, _, hr, _⟩ := hrg
        rw [hr] at he
        cases he⟩ (hkx.trans hky) hkz HH.out.2.2.2.2.2.2.2.2 HH.out.1 HH.out.2.2.2.1.size (cpBase hoy hkx.size) hmz
      have HZ := Lib.hid (And.intro hrgz (And.intro hst (And.intro (HH.out.2.2.2.1.trans (k1z.mono (by simp))) HH.out.2.2.2.2.2.2.1)))
      clear hrgz hst k1z hmz hkz hsz hoy hky hkx hmy
      go_wp2
      go_roundw
      case rel => exact ⟨_, cnt1, _, Lib.hid HZ.out.1, Lib.hid (fun z hz => by simp at hz; exact HL.out z hz.1), Lib.hid HZ.out.2.2.1, Lib.hid HZ.out.2.1⟩
      case measure => rw [HZ.out.1.left_eq, hrg.left_eq]; exact HZ.out.2.2.2

/-- What is done to a copy leaves the other one alone: what they share is bytes. -/
theorem DV.apart {w w' : World} {D Dc : List Nat} {g : Nat} {m : Dev} (h : DV w D g m) (k : KeepU Dc w w') (hs : ∀ b ∈ Dc, b ∈ D → isU8 w b = true) : DV w' D g m := by
  refine h.keep (S := Dc.filter (fun b => !isU8 w b)) ⟨k.os, k.tape, k.output, k.size, fun b hb hn => ?_⟩ fun b hb hD => ?_
  · by_cases hc : b ∈ Dc
    · cases hu : isU8 w b with
      | true =>
        obtain ⟨cs, fr, h1⟩ := isU8_inv hu
        rw [k.u8 b cs fr h1, h1]
      | false => exact absurd (List.mem_filter.2 ⟨hc, by simp [hu]⟩) hn
    · exact k.block b hb hc
  · obtain ⟨h1, h2⟩ := List.mem_filter.1 hb
    rw [hs b h1 hD] at h2
    cases h2
theorem KeepU.more {w w1 w2 : World} {D D' : List Nat} (h : KeepU D w w1) (k : KeepU D' w1 w2) (hg : Grew w D D') : KeepU D w w2 :=
  ⟨keep_bump h.toKeep k.toKeep hg.2, h.u8.trans k.u8⟩
end Go.Proofs.Ytjkjiabfhhnngaa
