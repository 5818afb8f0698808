import Derived.Test.YtjkjiabfhhnngaaWheel5
/-! Wheel's Next. -/
namespace Go.Proofs.Ytjkjiabfhhnngaa
open Go.RowKit Go.Shelf Sg
attribute [local go_sem] Oper.semAt_some
set_option linter.unusedSimpArgs false
set_option linter.unusedVariables false

set_option maxRecDepth 100000 in
set_option maxHeartbeats 1000000 in
theorem full_any (w : World) (g : Nat) : Calls Try.prog 116 #[.pointer (some ⟨g, 0, none⟩)] w fun e w' => e = .returned (.func (.func 148) #[] #[.pointer (some ⟨w.heap.size, 0, none⟩)]) ∧ w.alloc (.cells #[.pointer (some ⟨g, 0, none⟩)] 118) = w' := by
  go_enter Try.func116, Try.ntmps116
  go_wp2
  go_ret
  exact ⟨rfl, rfl⟩

/-- the first place in which something is -/
theorem upTo_first {m : Wm} (hw : m.Wf) {p : Int × Nat} {rest : List (Int × Nat)} (hp : m.ths = p :: rest) {k : Nat} (hk : [k] <+: upTo m.time m.ths 385) : k = plc m.time p.2 := by
  have hpm : p ∈ m.ths := by rw [hp]; simp
  have hin : plc m.time p.2 ∈ upTo m.time m.ths 385 := by
    unfold upTo
    rw [List.mem_filter, List.mem_range]
    exact ⟨by have := plc_le m.time p.2; omega, occ_iff.2 ⟨p, hpm, rfl⟩⟩
  have hs : (upTo m.time m.ths 385).Pairwise (· < ·) := List.pairwise_lt_range.filter _
  obtain ⟨t, ht⟩ := hk
  have ht' : upTo m.time m.ths 385 = k :: t := ht.symm
  rw [ht'] at hs hin
  have hkm : k ∈ upTo m.time m.ths 385 := by rw [ht']; simp
  unfold upTo at hkm
  obtain ⟨q, hq, e⟩ := occ_iff.1 (List.mem_filter.1 hkm).2
  have hle : plc m.time p.2 ≤ k := by
    rw [← e]
    refine plc_mono (hw.lo p hpm).1 ?_
    rw [hp] at hq
    rcases List.mem_cons.1 hq with rfl | hq
    · omega
    · have ho := hw.ord
      rw [hp] at ho
      have := (List.pairwise_cons.1 ho).1 q hq
      rw [dueLt_iff] at this
      omega
  rcases List.mem_cons.1 hin with h | h
  · exact h.symm
  · have := (List.pairwise_cons.1 hs).1 _ h
    omega
theorem upTo_nil {m : Wm} (h : upTo m.time m.ths 385 = []) : m.ths = [] := by
  cases hl : m.ths with
  | nil => rfl
  | cons p rest =>
    have hin : plc m.time p.2 ∈ upTo m.time m.ths 385 := by
      unfold upTo
      rw [List.mem_filter, List.mem_range]
      exact ⟨by have := plc_le m.time p.2; omega, occ_iff.2 ⟨p, by rw [hl]; simp, rfl⟩⟩
    rw [h] at hin
    cases hin

def headV (l : List (Int × Nat)) : Array Value := match l with | p :: _ => #[.int .i64 p.1, .int .i64 (p.2 : Int)] | [] => #[.int .i64 0, .int .i64 0]
def NxInv (w : World) (g b0 b1 b2 b3 : Nat) (pre : List Nat) (W : World) : Prop :=
  pre = [] ∧ Keep [] w W ∧ W.heap[b0]? = some (.cells #[.pointer (some ⟨g, 0, none⟩)] 118 (0, 0)) ∧ W.heap[b1]? = some (.cells #[.int .i64 0, .int .i64 0] 128 (0, 0)) ∧
    W.heap[b2]? = some (.cells #[.bool false] 4 (0, 0)) ∧ W.heap[b3]? = some (.cells #[.pointer (some ⟨g, 0, none⟩)] 118 (0, 0))
def NxEnd (w : World) (l : List (Int × Nat)) (b1 b2 : Nat) (c : Code) (pre : List Nat) (W : World) : Prop :=
  c = .ret ∧ Keep [] w W ∧ l ≠ [] ∧ W.heap[b1]? = some (.cells (headV l) 128 (0, 0)) ∧ W.heap[b2]? = some (.cells #[.bool true] 4 (0, 0))

theorem results_next (tmps : Array Value) (w : World) {b1 b2 : Nat} {x y c : Value}
    (hp : tmps.getD 2 undef = .pointer (some ⟨b1, 0, none⟩)) (hu : tmps.getD 3 undef = .pointer (some ⟨b2, 0, none⟩)) (h1 : w.heap[b1]? = some (.cells #[x, y] 128 (0, 0))) (h2 : w.heap[b2]? = some (.cells #[c] 4 (0, 0))) :
    (results Try.f74 tmps).run Try.prog w = .ok (.tuple #[.agg #[x, y], c]) w := by
  have hp' : tmps[2]?.getD undef = .pointer (some ⟨b1, 0, none⟩) := by simpa using hp
  have hu' : tmps[3]?.getD undef = .pointer (some ⟨b2, 0, none⟩) := by simpa using hu
  have z0 := cell_of_row w _ 0 _ _ _ h1
  have z1 := cell_of_row w _ 1 _ _ _ h1
  simp at z0 z1
  have z2 := cell_of_one h2
  have ha := Try.isAgg128 w
  have hs := Try.sizeOf128 w
  have hb := Try.isAgg4 w
  simp [results, Try.f74, hp', hu', asAddr, loadVar, Sem.run_bind, ha, hs, hb, z0, z1, z2, Result.andThen, go_sem]

set_option maxRecDepth 100000 in
set_option maxHeartbeats 1000000 in
set_option maxHeartbeats 4000000 in
theorem next_any (w : World) (D : List Nat) (g : Nat) (m : Wm) (h : WV w D g m) : Calls Try.prog 74 #[.pointer (some ⟨g, 0, none⟩)] w fun e w' => e = .returned (.tuple #[.agg (headV m.ths), .bool (!m.ths.isEmpty)]) ∧ Keep [] w w' := by
  have HV := Lib.hid h
  obtain ⟨hw, dm, blk, h⟩ := h
  have H := Lib.hid h
  clear h
  refine calls_of_marks Try.func74 rfl ?_
  simp only [Try.ntmps74, List.size_toArray, List.length_cons, List.length_nil, Nat.reduceAdd, Nat.reduceSub, Array.replicate_succ, Array.replicate_zero, List.push_toArray, List.append_toArray, List.nil_append, List.cons_append]
  go_wp2_with fail
  refine (full_any _ _).mono ?_
  rintro e w3 ⟨rfl, rfl⟩
  go_wp2_with fail
  obtain ⟨w4, hw4⟩ : ∃ w4, ((((w.alloc (.cells #[.pointer (some ⟨g, 0, none⟩)] 118)).alloc (.cells #[.int .i64 0, .int .i64 0] 128)).alloc (.cells #[.bool false] 4)).alloc (.cells #[.pointer (some ⟨g, 0, none⟩)] 118)) = w4 := ⟨_, rfl⟩
  have h0 : NxInv w g w.heap.size (w.heap.size + 1) (w.heap.size + 1 + 1) (w.heap.size + 1 + 1 + 1) [] w4 := by
    have k1 := (Keep.refl [] w).alloc (.cells #[.pointer (some ⟨g, 0, none⟩)] 118)
    have k2 := (Keep.refl [] (w.alloc (.cells #[.pointer (some ⟨g, 0, none⟩)] 118))).alloc (.cells #[.int .i64 0, .int .i64 0] 128)
    have k3 := (Keep.refl [] ((w.alloc (.cells #[.pointer (some ⟨g, 0, none⟩)] 118)).alloc (.cells #[.int .i64 0, .int .i64 0] 128))).alloc (.cells #[.bool false] 4)
    have k4 := (Keep.refl [] (((w.alloc (.cells #[.pointer (some ⟨g, 0, none⟩)] 118)).alloc (.cells #[.int .i64 0, .int .i64 0] 128)).alloc (.cells #[.bool false] 4))).alloc (.cells #[.pointer (some ⟨g, 0, none⟩)] 118)
    rw [hw4] at k4
    have e1 := heap_alloc_new w (.cells #[.pointer (some ⟨g, 0, none⟩)] 118)
    have e2 := heap_alloc_new (w.alloc (.cells #[.pointer (some ⟨g, 0, none⟩)] 118)) (.cells #[.int .i64 0, .int .i64 0] 128)
    have e3 := heap_alloc_new ((w.alloc (.cells #[.pointer (some ⟨g, 0, none⟩)] 118)).alloc (.cells #[.int .i64 0, .int .i64 0] 128)) (.cells #[.bool false] 4)
    have e4 := heap_alloc_new (((w.alloc (.cells #[.pointer (some ⟨g, 0, none⟩)] 118)).alloc (.cells #[.int .i64 0, .int .i64 0] 128)).alloc (.cells #[.bool false] 4)) (.cells #[.pointer (some ⟨g, 0, none⟩)] 118)
    simp only [World.size_alloc] at e2 e3 e4
    rw [hw4] at e4
    exact ⟨rfl, ((k1.trans k2).trans k3).trans k4, ((k2.trans k3).trans k4).blk (by simp) e1, (k3.trans k4).blk (by simp) e2, k4.blk (by simp) e3, e4⟩
  have hs4 : w4.heap.size = w.heap.size + 4 := by rw [← hw4]; simp
  rw [hw4]
  obtain ⟨b1, hb1⟩ : ∃ b, w.heap.size + 1 = b := ⟨_, rfl⟩
  rw [hb1] at h0 ⊢
  obtain ⟨b2, hb2⟩ : ∃ b, b1 + 1 = b := ⟨_, rfl⟩
  rw [hb2] at h0 ⊢
  obtain ⟨b3, hb3⟩ : ∃ b, b2 + 1 = b := ⟨_, rfl⟩
  rw [hb3] at h0 ⊢
  have H0 := Lib.hid h0
  have HB := Lib.hid (And.intro hb1 (And.intro hb2 (And.intro hb3 hs4)))
  clear h0 hb1 hb2 hb3 hs4 hw4
  refine wp_range2 (n := 3) (gf := 148) (lb := #[.pointer (some ⟨b3, 0, none⟩)]) rfl (enters_of Try.func148 (by kernel_rfl) rfl) (T := []) (by simp) (full_iter b3 D g m hw dm blk)
    (fun x args W W' _ h => h) (fun x args W h => by rw [show args = #[.map (some (blk x))] from h]; rfl)
    (NxInv w g w.heap.size b1 b2 b3) (NxEnd w m.ths b1 b2) ?hRd (fun _ _ => trivial) ?hI ?hIx ?h0
    (fun args => { tmps := #[.pointer (some ⟨g, 0, none⟩), .pointer (some ⟨w.heap.size, 0, none⟩), .pointer (some ⟨b1, 0, none⟩), .pointer (some ⟨b2, 0, none⟩), args.getD 0 undef, .pointer (some ⟨g, 0, none⟩), .bool false, undef, .pointer (some ⟨g, 0, none⟩),
      .func (.func 148) #[] #[.pointer (some ⟨b3, 0, none⟩)], args.getD 0 undef, undef, undef, undef, undef, undef, undef, undef], defers := [] })
    ?hassign ?hbody ?hdone ?hstop
  case hRd =>
    rintro pre W ⟨-, hk, e0, e1, e2, e3⟩ hlt
    exact ⟨cell_of_one e3, H.out.keep hk (by simp)⟩
  case hI =>
    rintro pre W W' k ⟨hp, hk, e0, e1, e2, e3⟩
    have hb := HB.out
    have ne : ∀ b, b < w4.heap.size → b ∉ [w4.heap.size + 1] := fun b hb hm => by rw [List.mem_singleton] at hm; omega
    exact ⟨hp, hk.trans' k (fun b hm => .inr (by rw [List.mem_singleton] at hm; omega)), k.blk (ne _ (by omega)) e0, k.blk (ne _ (by omega)) e1, k.blk (ne _ (by omega)) e2, k.blk (ne _ (by omega)) e3⟩
  case hIx =>
    rintro c pre W W' k ⟨hc, hk, hn, e1, e2⟩
    have hb := HB.out
    have ne : ∀ b, b < w4.heap.size → b ∉ [w4.heap.size + 1] := fun b hb hm => by rw [List.mem_singleton] at hm; omega
    exact ⟨hc, hk.trans' k (fun b hm => .inr (by rw [List.mem_singleton] at hm; omega)), hn, k.blk (ne _ (by omega)) e1, k.blk (ne _ (by omega)) e2⟩
  case h0 =>
    intro W k
    obtain ⟨hp, hk, e0, e1, e2, e3⟩ := H0.out
    exact ⟨hp, hk.trans k, k.blk (by simp) e0, k.blk (by simp) e1, k.blk (by simp) e2, k.blk (by simp) e3⟩
  case hassign =>
    rintro x args W K h hK
    obtain rfl : args = #[.map (some (blk x))] := h
    gi_wp2
    exact hK
  case hbody =>
    rintro pre k args W hpre ⟨rfl, hk, e0, e1, e2, e3⟩ henc ⟨r, hL⟩ hD
    obtain rfl : args = #[.map (some (blk k))] := henc
    simp only [List.nil_append] at hpre ⊢
    obtain ⟨p, rest, hths⟩ : ∃ p rest, m.ths = p :: rest := by
      cases hl : m.ths with
      | nil =>
        rw [hl] at hpre
        have : upTo m.time ([] : List (Int × Nat)) 385 = [] := by
          unfold upTo
          rw [List.filter_eq_nil_iff]
          intro a _
          simp [occ]
        rw [this] at hpre
        have := List.prefix_nil.1 hpre
        cases this
      | cons p rest => exact ⟨p, rest, rfl⟩
    have hkp := upTo_first hw hths hpre
    have hk384 : k ≤ 384 := by rw [hkp]; exact plc_le _ _
    obtain ⟨L, hLd⟩ : ∃ L, m.ths.filter (fun q => plc m.time q.2 == k) = L := ⟨_, rfl⟩
    have hLh : ∃ rest', L = p :: rest' := by
      rw [← hLd, hths, List.filter_cons, if_pos (by simp [hkp])]
      exact ⟨_, rfl⟩
    obtain ⟨rest', hLh⟩ := hLh
    have hLo : L.Pairwise (fun p q => dueLt p q = true) := by rw [← hLd]; exact hw.ord.filter _
    have hLs : ∀ q ∈ L, q ∈ m.ths := fun q hq => by rw [← hLd] at hq; exact (List.mem_filter.1 hq).1
    have hLn : (L.map (·.1)).Nodup := by rw [← hLd]; exact (List.filter_sublist.map _).nodup hw.nd
    obtain ⟨ks, hm0⟩ := H.out.maps k hk384
    have hm : MapZ Try.prog 3 w (blk k) (setF (inP m.time m.ths k)) (L.map (·.1)) := hm0.perm hLn fun a => by
      rw [hm0.mem a, setF_some, inP_iff, List.mem_map]
      constructor
      · rintro ⟨q, hq, rfl⟩
        rw [← hLd, List.mem_filter] at hq
        exact ⟨q, hq.1, rfl, by simpa using hq.2⟩
      · rintro ⟨q, hq, rfl, e⟩
        exact ⟨q, by rw [← hLd, List.mem_filter]; exact ⟨hq, by simpa using e⟩, rfl⟩
    obtain ⟨es, clock, hes⟩ := hm.isMapBlock
    have HM := Lib.hid (And.intro hLo (And.intro hLs (And.intro hLn (And.intro hm (And.intro hes (And.intro hths hLh))))))
    clear hLo hLs hLn hm hes hths hLh hm0 hLd hkp hpre
    gi_wp2_with fail
    refine wpIn_region_his [b1, b2] [2, 3, 6, 7] (fun j => if j = 5 then 5 else 0) (by kernel_rfl) ?hQ (by kernel_rfl) (by kernel_rfl) ?_
    case hQ =>
      rintro ⟨a', w', h'⟩
      exact h'
    intro w5 hk5 hh
    clear hh
    have hb := HB.out
    have n0 : w.heap.size ∉ [b1, b2] := by simp; omega
    have x1 := fun w' (h : Keep [b1, b2] w5 w') => cell_of_one (h.blk n0 (hk5.blk (by simp) e0))
    have hkw5 := hk.trans hk5
    have hA := (Keep.refl [] w5).alloc (.cells #[.map (some (blk k))] 216)
    have hbx := heap_alloc_new w5 (.cells #[.map (some (blk k))] 216)
    obtain ⟨w6, hw6⟩ : ∃ w6, w5.alloc (.cells #[.map (some (blk k))] 216) = w6 := ⟨_, rfl⟩
    have hky := keysP_any w5 (blk k)
    rw [hw6] at hA hbx hky
    clear hw6
    have hkw6 := hkw5.trans hA
    have hth := things_any w6 D g m (HV.out.keep hkw6 (by simp)) L HM.out.1 HM.out.2.1 HM.out.2.2.1 151 #[.pointer (some ⟨w5.heap.size, 0, none⟩)] (enters_of Try.func151 (by kernel_rfl) rfl) _
      (keysP_iter w5.heap.size (blk k) es clock (setF (inP m.time m.ths k)) (L.map (·.1)) (fun W hW => mapZ_same HM.out.2.2.2.1 (hW.trans HM.out.2.2.2.2.1.symm)))
      (fun W hk' => ⟨cell_of_one (hk'.blk (by simp) hbx), (hkw6.trans hk').blk (by simp) HM.out.2.2.2.2.1⟩)
    (repeat (first | (refine his_q rfl rfl (fun K hK => ?_); apply Exists.intro; refine ⟨fun w' hC => ?_, ?_⟩; ((try simp [Sg.upd] at hC); go_simp <;> rfl); go_simp; refine hK _ _ ?_; clear hK K) | (refine his_s rfl (fun K hK => ?_); go_simp; refine hK _ _ ?_; clear hK K)))
    (refine his_l rfl rfl (fun K hK => ?_); go_simp)
    refine hky.mono ?_
    rintro e w' ⟨rfl, rfl⟩
    refine hK _ _ (hA.mono (by simp)) ?_
    clear hK K hky
    (repeat (first | (refine his_q rfl rfl (fun K hK => ?_); apply Exists.intro; refine ⟨fun w' hC => ?_, ?_⟩; ((try simp [Sg.upd] at hC); go_simp <;> rfl); go_simp; refine hK _ _ ?_; clear hK K) | (refine his_s rfl (fun K hK => ?_); go_simp; refine hK _ _ ?_; clear hK K)))
    (refine his_l rfl rfl (fun K hK => ?_); go_simp)
    refine hth.mono ?_
    clear hth
    rintro e w7 ⟨v7, rfl, hr7, hk7⟩
    refine hK _ _ (hk7.mono (by simp)) ?_
    clear hK K
    obtain ⟨a7, c7, rfl⟩ := hr7.form
    have hL0 : 0 < L.length := by rw [HM.out.2.2.2.2.2.2]; simp
    obtain ⟨gv, rfl, hgv, hcv⟩ := RowE.cells dueLies hr7 hL0
    have hhd : L[0] = p := by simp [HM.out.2.2.2.2.2.2]
    rw [hhd] at hcv
    have hgs : gv ∉ [b1, b2] := by
      have h1 := hA.size
      have h2 := hk5.size
      have h3 := (Array.getElem?_eq_some_iff.1 hL).1
      simp
      omega
    have y0 := fun w' (h : Keep [b1, b2] w7 w') => h.cell (p := ⟨gv, 0, none⟩) hgs (by simpa using hcv 0 (.int .i64 p.1) rfl)
    have y1 := fun w' (h : Keep [b1, b2] w7 w') => h.cell (p := ⟨gv, 1, none⟩) hgs (by simpa using hcv 1 (.int .i64 (p.2 : Int)) rfl)
    obtain ⟨nl, hnl⟩ : ∃ nl, L.length = nl := ⟨_, rfl⟩
    rw [hnl] at hL0 ⊢
    have hli : (0 : Int) < (nl : Int) := by omega
    have hkw7 := (hk5.trans hA).trans hk7
    have e17 := hkw7.blk (by simp) e1
    have e27 := hkw7.blk (by simp) e2
    have z0 := cell_of_row w7 _ 0 _ _ _ e17
    have z1 := cell_of_row w7 _ 1 _ _ _ e17
    have f0 := frozen_of_row w7 b1 0 _ _ e17
    have f1 := frozen_of_row w7 b1 1 _ _ e17
    simp at z0 z1
    clear hr7 hcv hnl hhd
    (repeat (first | (refine his_q rfl rfl (fun K hK => ?_); apply Exists.intro; refine ⟨fun w' hC => ?_, ?_⟩; ((try simp [Sg.upd] at hC); go_simp <;> rfl); go_simp; refine hK _ _ ?_; clear hK K) | (refine his_s rfl (fun K hK => ?_); go_simp; refine hK _ _ ?_; clear hK K)))
    (refine his_l rfl rfl (fun K hK => ?_); go_simp)
    obtain ⟨w8, hw8⟩ : ∃ w8, (w7.setCell ⟨b1, 0, none⟩ (.int .i64 p.1)).setCell ⟨b1, 1, none⟩ (.int .i64 (p.2 : Int)) = w8 := ⟨_, rfl⟩
    have hk8 : Keep [b1, b2] w7 w8 := by rw [← hw8]; exact ((Keep.refl _ _).setCell (.inl (by simp)) _).setCell (.inl (by simp)) _
    have e18 : w8.heap[b1]? = some (.cells #[.int .i64 p.1, .int .i64 (p.2 : Int)] 128 (0, 0)) := by
      rw [← hw8]
      exact heap_setCell_same _ b1 1 _ _ _ (heap_setCell_same w7 b1 0 _ _ _ e17)
    have e28 : w8.heap[b2]? = some (.cells #[.bool false] 4 (0, 0)) := by
      rw [← hw8, heap_setCell_other _ _ _ _ (by simp; omega), heap_setCell_other _ _ _ _ (by simp; omega)]
      exact e27
    rw [hw8]
    clear hw8 z0 z1 f0 f1
    refine hK _ _ hk8 ?_
    clear hK K
    have z2 := cell_of_one e28
    have f2 := free_of_one e28
    (refine his_last rfl (by kernel_rfl) rfl (fun K hK => ?_); go_simp)
    refine hK _ _ ?_
    clear hK K y0 y1 x1
    refine his_nil ?_
    have hW : Keep [b1, b2] W w8 := (hkw7.mono (by simp)).trans hk8
    have hLl := (Array.getElem?_eq_some_iff.1 hL).1
    have e29 := one_setCell (u := Value.bool true) e28
    have e19 : (w8.setCell ⟨b2, 0, none⟩ (.bool true)).heap[b1]? = _ := (heap_setCell_other _ _ _ _ (by simp; omega)).trans e18
    have hk9 : Keep [b1, b2] W (w8.setCell ⟨b2, 0, none⟩ (.bool true)) := hW.setCell (.inl (by simp)) _
    have hne : m.ths ≠ [] := by rw [HM.out.2.2.2.2.2.1]; simp
    have hhv : headV m.ths = #[.int .i64 p.1, .int .i64 (p.2 : Int)] := by rw [HM.out.2.2.2.2.2.1]; rfl
    have hkz : Keep [] w (w8.setCell ⟨b2, 0, none⟩ (.bool true)) := hk.trans' hk9 (fun b hm => .inr (by simp at hm; omega))
    have HE := Lib.hid (And.intro hk9 (And.intro hkz (And.intro e29 (And.intro e19 (And.intro hne hhv)))))
    have HX := Lib.hid (And.intro hLl (show w4.heap.size < W.heap.size by omega))
    clear hk9 hkz e29 e19 hne hhv hW hLl e28 e18 z2 f2 hk8 e17 e27 hkw7 hk7 hkw6 hkw5 hA hbx hk5 hk e0 e1 e2 e3 hL hD
    gi_wp2
    refine ⟨HE.out.1.block _ HX.out.1 (by have := HB.out; simp; omega), HE.out.1.block _ HX.out.2 (by have := HB.out; simp; omega), by simp, rfl, HE.out.2.1, HE.out.2.2.2.2.1, ?_, HE.out.2.2.1⟩
    rw [HE.out.2.2.2.2.2]
    exact HE.out.2.2.2.1
  case hdone =>
    rintro W ⟨hpre, hk, e0, e1, e2, e3⟩ hD
    have hnil := upTo_nil hpre
    have hb := HB.out
    have z0 := cell_of_row W _ 0 _ _ _ e1
    have z1 := cell_of_row W _ 1 _ _ _ e1
    have f0 := frozen_of_row W b1 0 _ _ e1
    have f1 := frozen_of_row W b1 1 _ _ e1
    simp at z0 z1
    have g1 := heap_setCell_same _ b1 1 _ _ (.int .i64 0) (heap_setCell_same W b1 0 _ _ (.int .i64 0) e1)
    have g2 : ((W.setCell ⟨b1, 0, none⟩ (.int .i64 0)).setCell ⟨b1, 1, none⟩ (.int .i64 0)).heap[b2]? = some (.cells #[.bool false] 4 (0, 0)) := by
      rw [heap_setCell_other _ _ _ _ (by simp; omega), heap_setCell_other _ _ _ _ (by simp; omega)]
      exact e2
    have z2 := cell_of_one g2
    have f2 := free_of_one g2
    have g3 := one_setCell (u := Value.bool false) g2
    have g4 := (heap_setCell_other ((W.setCell ⟨b1, 0, none⟩ (.int .i64 0)).setCell ⟨b1, 1, none⟩ (.int .i64 0)) ⟨b2, 0, none⟩ b1 (.bool false) (by simp; omega)).trans g1
    have hkz : Keep [b1, b2] W (((W.setCell ⟨b1, 0, none⟩ (.int .i64 0)).setCell ⟨b1, 1, none⟩ (.int .i64 0)).setCell ⟨b2, 0, none⟩ (.bool false)) := (((Keep.refl _ _).setCell (.inl (by simp)) _).setCell (.inl (by simp)) _).setCell (.inl (by simp)) _
    have HG := Lib.hid (And.intro g3 (And.intro g4 (And.intro (hk.trans' hkz (fun b hm => .inr (by simp at hm; omega))) (And.intro (hkz.blk (by simp; omega) hD) hnil))))
    clear g1 g3 g4 hkz e0 e1 e2 e3 hk hD hnil
    go_wp2
    have hb := HB.out
    refine leavesM_one HG.out.2.2.2.1 (results_next _ _ rfl rfl ((World.putObj_heap_other (by omega)).trans HG.out.2.1) ((World.putObj_heap_other (by omega)).trans HG.out.1)) ⟨?_, HG.out.2.2.1.putObj (.inr (by omega)) _⟩
    rw [HG.out.2.2.2.2]
    rfl
  case hstop =>
    rintro c pre W _ ⟨rfl, hk, hn, e1, e2⟩ hD
    have HG := Lib.hid (And.intro hk (And.intro hn (And.intro e1 (And.intro e2 hD))))
    clear hk hn e1 e2 hD
    go_wp2
    have hb := HB.out
    obtain ⟨hk, hn, e1, e2, hD⟩ := HG.out
    cases hl : m.ths with
    | nil => exact absurd hl hn
    | cons p rest =>
      rw [hl] at e1
      refine leavesM_one hD (results_next _ _ rfl rfl ((World.putObj_heap_other (by omega)).trans e1) ((World.putObj_heap_other (by omega)).trans e2)) ⟨?_, hk.putObj (.inr (by omega)) _⟩
      rfl
end Go.Proofs.Ytjkjiabfhhnngaa
