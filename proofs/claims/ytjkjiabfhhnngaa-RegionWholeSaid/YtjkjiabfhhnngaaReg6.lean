import Derived.Test.YtjkjiabfhhnngaaReg5
import Derived.Test.YtjkjiabfhhnngaaAppZ
import Derived.Stop.RegionWithIn
/-! The walk of region.Read. -/
namespace Go.Proofs.Ytjkjiabfhhnngaa
open Go.RowKit Go.Shelf Sg
attribute [local go_sem] Oper.semAt_some
set_option linter.unusedSimpArgs false
set_option linter.unusedVariables false

def Lc.rd (c : Lc) (l : Lg) (m : Dev) (q : Nat) : List Pc → List UInt8 → List UInt8 × Nat
  | [], out => (out, 0)
  | x :: t, out => if (c.ld l m q (x.at_ / c.rm) true).2 ≠ 0 then ([], (c.ld l m q (x.at_ / c.rm) true).2)
    else if (c.ld l m q (x.at_ / c.rm) true).1.length < x.at_ % c.rm + x.n then ([], 13)
    else c.rd l m q t (out ++ ((c.ld l m q (x.at_ / c.rm) true).1.drop (x.at_ % c.rm)).take x.n)
def Lc.seen (c : Lc) (l : Lg) (a b s : Int) : Prop := ((c.oldest l : Int) ≤ a ∧ a ≤ (l.last : Int)) ∧ 0 ≤ b ∧ 0 ≤ s ∧ b ≤ ((c.S * c.rm : Nat) : Int) ∧ s ≤ ((c.S * c.rm : Nat) : Int) - b
instance (c : Lc) (l : Lg) (a b s : Int) : Decidable (c.seen l a b s) := by unfold Lc.seen; infer_instance
def Lc.read (c : Lc) (l : Lg) (m : Dev) (a b s : Int) : List UInt8 × Nat := if c.seen l a b s then c.rd l m a.toNat (pcs c.rm s.toNat b.toNat s.toNat) [] else ([], 13)

theorem four_new (w : World) (o1 o2 o3 o4 : Obj) : Keep [] w ((((w.alloc o1).alloc o2).alloc o3).alloc o4) ∧ ((((w.alloc o1).alloc o2).alloc o3).alloc o4).heap[w.heap.size]? = some o1 ∧ ((((w.alloc o1).alloc o2).alloc o3).alloc o4).heap[w.heap.size + 1]? = some o2 ∧
    ((((w.alloc o1).alloc o2).alloc o3).alloc o4).heap[w.heap.size + 1 + 1]? = some o3 ∧ ((((w.alloc o1).alloc o2).alloc o3).alloc o4).heap[w.heap.size + 1 + 1 + 1]? = some o4 ∧ ((((w.alloc o1).alloc o2).alloc o3).alloc o4).heap.size = w.heap.size + 4 := by
  have h1 := heap_alloc_new w o1
  have h2 := heap_alloc_new (w.alloc o1) o2
  have h3 := heap_alloc_new ((w.alloc o1).alloc o2) o3
  have h4 := heap_alloc_new (((w.alloc o1).alloc o2).alloc o3) o4
  have k4 := (Keep.refl [] (((w.alloc o1).alloc o2).alloc o3)).alloc o4
  have k3 := ((Keep.refl [] ((w.alloc o1).alloc o2)).alloc o3).trans k4
  have k2 := ((Keep.refl [] (w.alloc o1)).alloc o2).trans k3
  have k1 := ((Keep.refl [] w).alloc o1).trans k2
  simp only [World.size_alloc] at h2 h3 h4
  exact ⟨k1, k2.blk (by simp) h1, k3.blk (by simp) h2, k4.blk (by simp) h3, h4, by simp⟩

theorem pcs_len (rm : Nat) : ∀ (f at_ size : Nat), (pcs rm f at_ size).length ≤ f
  | 0, _, _ => by simp [pcs]
  | f + 1, at_, size => by
    rw [pcs]
    split
    · simp
    · have := pcs_len rm f (at_ + min size (rm - at_ % rm)) (size - min size (rm - at_ % rm))
      simp
      omega
theorem pcs_mem (rm : Nat) (hrm : 0 < rm) : ∀ (f at_ size : Nat), ∀ x ∈ pcs rm f at_ size, (1 ≤ x.n ∧ x.n ≤ rm) ∧ x.at_ + x.n ≤ at_ + size
  | 0, _, _ => by simp [pcs]
  | f + 1, at_, size => by
    intro x hx
    rw [pcs] at hx
    split at hx
    · simp at hx
    · have hm := Nat.mod_lt at_ hrm
      rcases List.mem_cons.1 hx with rfl | hx
      · refine ⟨⟨?_, ?_⟩, ?_⟩ <;> simp <;> omega
      · have := pcs_mem rm hrm f _ _ x hx
        omega
theorem rowLt {w : World} {base : Nat} {e : TypeId} {sz n : Nat} {v : Value} {xs : List Value} (h : w.ownsRow base e sz v n xs) {b : Nat} (hb : v.ownBlock = some b) : b < w.heap.size ∧ base ≤ b ∧ ∃ cs, w.heap[b]? = some (.cells cs e (0, 0)) := by
  rcases h.2 with ⟨rfl, -⟩ | ⟨g, cap, cur, rfl, h1, hg, -⟩
  · simp [Value.ownBlock] at hb
  · simp only [Value.ownBlock, Option.some.injEq] at hb
    subst hb
    exact ⟨(Array.getElem?_eq_some_iff.1 hg).1, h1, _, hg⟩
/-- what a round of Read finds -/
def RrInv (c : Lc) (l : Lg) (m : Dev) (q : Nat) (w3 : World) (OB Bl : Nat) (T : List Nat) (pre : List Pc) (W : World) : Prop :=
  Keep (OB :: T) w3 W ∧ (∀ b ∈ T, Bl < b) ∧ ∃ (out : List UInt8) (v : Value), W.heap[OB]? = some (.cells #[v] 42 (0, 0)) ∧ OwnB W (w3.heap.size + 2) 5 v out ∧ (∀ b, v.ownBlock = some b → b ∉ T) ∧ out.length ≤ pre.length * c.rm ∧ ∀ t, c.rd l m q (pre ++ t) [] = c.rd l m q t out
/-- .. and how it ends early -/
def RrEnd (c : Lc) (l : Lg) (m : Dev) (q : Nat) (w : World) (xs : List Pc) (cd : Code) (T : List Nat) (pre : List Pc) (W : World) : Prop :=
  cd = .ret ∧ Keep [] w W ∧ (∀ b ∈ T, w.heap.size + 4 ≤ b) ∧ ∃ code : Nat, c.rd l m q xs [] = ([], code) ∧ W.heap[w.heap.size + 1 + 1]? = some (.cells #[.slice none 0 0] 42 (0, 0)) ∧ W.heap[w.heap.size + 1 + 1 + 1]? = some (.cells #[.int .i64 (code : Int)] 38 (0, 0))

set_option maxRecDepth 100000 in
set_option maxHeartbeats 1000000 in
set_option maxHeartbeats 4000000 in
theorem readL_any (w : World) (D E : List Nat) (gl g : Nat) (c : Lc) (l : Lg) (m : Dev) (h : RV w D E gl g c l m) (hacts : m.acts ≤ 1000000000) (hf : l.Fit c) (a b s : Int) :
    Calls Try.prog 60 #[.pointer (some ⟨gl, 0, none⟩), .agg #[.int .i64 a, .int .i64 b, .int .i64 s]] w fun e w' => ∃ v, e = .returned (.tuple #[v, .int .i64 ((c.read l m a b s).2 : Int)]) ∧ OwnB w' w.heap.size 5 v (c.read l m a b s).1 ∧ Keep [] w w' := by
  obtain ⟨pv, h⟩ := h
  obtain ⟨o1, o2, o3, o4, o5⟩ := ok_rm c m h.ok
  have r1 := h.ok.r1
  have r2 := h.ok.r2
  obtain ⟨X, hX⟩ : ∃ X, c.S * c.rm = X := ⟨_, rfl⟩
  rw [hX] at o5
  have H := Lib.hid h
  have HF := Lib.hid hf
  have HXX := Lib.hid hX
  have hlast := hf.last
  have hways : (¬ ((c.oldest l : Int) ≤ a ∧ a ≤ (l.last : Int)) ∨ (((c.oldest l : Int) ≤ a ∧ a ≤ (l.last : Int)) ∧ b < 0) ∨ (((c.oldest l : Int) ≤ a ∧ a ≤ (l.last : Int)) ∧ decide (b < 0) = false ∧ s < 0) ∨ (((c.oldest l : Int) ≤ a ∧ a ≤ (l.last : Int)) ∧ decide (b < 0) = false ∧ decide (s < 0) = false ∧ (X : Int) < b) ∨
      (((c.oldest l : Int) ≤ a ∧ a ≤ (l.last : Int)) ∧ decide (b < 0) = false ∧ decide (s < 0) = false ∧ decide ((X : Int) < b) = false ∧ (X : Int) - b < s ∧ IntKind.i64.wrap ((X : Int) - b) = (X : Int) - b)) ∧ ¬ c.seen l a b s ∨
      ((((c.oldest l : Int) ≤ a ∧ a ≤ (l.last : Int)) ∧ decide (b < 0) = false ∧ decide (s < 0) = false ∧ decide ((X : Int) < b) = false ∧ decide ((X : Int) - b < s) = false ∧ IntKind.i64.wrap ((X : Int) - b) = (X : Int) - b) ∧ c.seen l a b s) := by
    unfold Lc.seen
    rw [hX]
    have D : ∀ {p : Prop} [Decidable p], ¬ p → decide p = false := fun h => decide_eq_false h
    have hwr : 0 ≤ b → b ≤ X → IntKind.i64.wrap ((X : Int) - b) = (X : Int) - b := fun _ _ => i64_wrap (by omega) (by omega)
    by_cases h1 : (c.oldest l : Int) ≤ a ∧ a ≤ (l.last : Int)
    · by_cases h2 : b < 0
      · exact .inl ⟨.inr (.inl ⟨h1, h2⟩), by omega⟩
      by_cases h3 : s < 0
      · exact .inl ⟨.inr (.inr (.inl ⟨h1, D h2, h3⟩)), by omega⟩
      by_cases h4 : (X : Int) < b
      · exact .inl ⟨.inr (.inr (.inr (.inl ⟨h1, D h2, D h3, h4⟩))), by omega⟩
      by_cases h5 : (X : Int) - b < s
      · exact .inl ⟨.inr (.inr (.inr (.inr ⟨h1, D h2, D h3, D h4, h5, hwr (by omega) (by omega)⟩))), by omega⟩
      · exact .inr ⟨⟨h1, D h2, D h3, D h4, D h5, hwr (by omega) (by omega)⟩, h1, by omega⟩
    · exact .inl ⟨.inl h1, fun h => h1 h.1⟩
  have hnew := four_new w (.cells #[.pointer (some ⟨gl, 0, none⟩)] 87) (.cells #[.int .i64 a, .int .i64 b, .int .i64 s] 103) (.cells #[.slice none 0 0] 42) (.cells #[.int .i64 0] 38)
  obtain ⟨w1, hw1⟩ : ∃ w1, ((((w.alloc (.cells #[.pointer (some ⟨gl, 0, none⟩)] 87)).alloc (.cells #[.int .i64 a, .int .i64 b, .int .i64 s] 103)).alloc (.cells #[.slice none 0 0] 42)).alloc (.cells #[.int .i64 0] 38)) = w1 := ⟨_, rfl⟩
  rw [hw1] at hnew
  obtain ⟨kA, b0, b1, b2, b3, hs1⟩ := hnew
  have HB := Lib.hid (And.intro b0 (And.intro b1 (And.intro b2 b3)))
  have HA := Lib.hid kA
  have HS1 := Lib.hid hs1
  have y0 := cell_of_one b0
  clear h hX b0 b1 b2 b3 kA hs1 hf
  refine calls_of_marks Try.func60 rfl ?_
  simp only [Try.ntmps60, List.size_toArray, List.length_cons, List.length_nil, Nat.reduceAdd, Nat.reduceSub, Array.replicate_succ, Array.replicate_zero, List.push_toArray, List.append_toArray, List.nil_append, List.cons_append]
  go_wp2_with fail
  clear hw1 y0
  have hth := fun w' h' => thereL_any w' gl g c l pv h' r2 hlast a
  have HTH := Lib.hid hth
  clear hth
  go_cut [13] from 13 to 51 (fun s13 wx => ((s13 = .bool true ∧ ¬ c.seen l a b s) ∨ (s13 = .bool false ∧ c.seen l a b s)) ∧ Hid (Keep [] w1 wx))
  case first =>
    obtain ⟨o, hO⟩ : ∃ o, c.oldest l = o := ⟨_, rfl⟩
    rw [hO] at hways
    have HTH2 := HTH.out
    rw [hO] at HTH2
    have HTH3 := Lib.hid HTH2
    clear hO HTH2
    rcases hways with ⟨(h1 | ⟨h1, h2⟩ | ⟨h1, h2, h3⟩ | ⟨h1, h2, h3, h4⟩ | ⟨h1, h2, h3, h4, h5, q1⟩), hns⟩ | ⟨⟨h1, h2, h3, h4, h5, q1⟩, hns⟩
    all_goals
      refine wp_region_his [] [3] (fun _ => 0) (by kernel_rfl) (by kernel_rfl) ?_
      intro w2 hk2 hh
      clear hh
      have y0 := fun w' (h : Keep [] w2 w') => cell_of_one ((hk2.trans h).blk (by simp) HB.out.1)
      have x0 := fun w' (h : Keep [] w2 w') => cell_of_row w' _ 0 _ _ _ ((hk2.trans h).blk (by simp) HB.out.2.1)
      have x1 := fun w' (h : Keep [] w2 w') => cell_of_row w' _ 1 _ _ _ ((hk2.trans h).blk (by simp) HB.out.2.1)
      have x2 := fun w' (h : Keep [] w2 w') => cell_of_row w' _ 2 _ _ _ ((hk2.trans h).blk (by simp) HB.out.2.1)
      have k16 := fun w' (h : Keep [] w2 w') => (H.out.row.keep (HA.out.trans (hk2.trans h)) (by simp)).k16
      rw [HXX.out] at k16
      simp at x0 x1 x2
      have hrow := H.out.row.keep (HA.out.trans hk2) (by simp)
      have HK := Lib.hid (And.intro hk2 hrow)
      have HNS := Lib.hid hns
      clear hk2 hrow hns
      (repeat (first | (refine his_q rfl rfl (fun K hK => ?_); apply Exists.intro; refine ⟨fun w' hC => ?_, ?_⟩; ((try simp [Sg.upd] at hC); go_simp <;> rfl); go_simp; refine hK _ _ ?_; clear hK K) | (refine his_s rfl (fun K hK => ?_); go_simp; refine hK _ _ ?_; clear hK K)))
      (refine his_l rfl rfl (fun K hK => ?_); go_simp)
      refine (HTH3.out _ HK.out.2).mono ?_
      rintro e w3 ⟨rfl, hk3⟩
      refine hK _ _ hk3 ?_
      have HK3 := Lib.hid (HK.out.1.trans hk3)
      clear hK K hk3
      (repeat (first | (refine his_q rfl rfl (fun K hK => ?_); apply Exists.intro; refine ⟨fun w' hC => ?_, ?_⟩; ((try simp [Sg.upd] at hC); go_simp <;> rfl); go_simp; refine hK _ _ ?_; clear hK K) | (refine his_s rfl (fun K hK => ?_); go_simp; refine hK _ _ ?_; clear hK K)))
      refine his_nil ?_
      clear y0 x0 x1 x2 k16
      go_wp2_with fail
      go_meet
      case rel => first | exact ⟨.inl ⟨rfl, HNS.out⟩, HK3.out⟩ | exact ⟨.inr ⟨rfl, HNS.out⟩, HK3.out⟩
  case rest =>
  rename World => wx
  obtain ⟨hor, HK⟩ := hcut
  clear hways HTH
  have c2 := cell_of_one (HK.out.blk (by simp) HB.out.2.2.1)
  have c3 := cell_of_one (HK.out.blk (by simp) HB.out.2.2.2)
  have f2 := free_of_one (HK.out.blk (by simp) HB.out.2.2.1)
  have f3 := free_of_one (HK.out.blk (by simp) HB.out.2.2.2)
  have HRET := Lib.hid (And.intro (HK.out.blk (by simp) HB.out.2.2.1) (HK.out.blk (by simp) HB.out.2.2.2))
  rcases hor with ⟨rfl, hns⟩ | ⟨rfl, hsn⟩
  · have hread : c.read l m a b s = ([], 13) := if_neg hns
    have HREAD := Lib.hid hread
    clear hread hns
    go_wp2_with fail
    refine leavesM_nil (results_read rfl _ _ rfl rfl (cell_of_one ((heap_setCell_other _ _ _ _ (by simp)).trans (one_setCell HRET.out.1))) (cell_of_one (one_setCell ((heap_setCell_other _ _ _ _ (by simp)).trans HRET.out.2)))) ⟨_, by rw [HREAD.out]; rfl, by rw [HREAD.out]; exact World.ownsRow_nil _ _ _ _, ((HA.out.trans HK.out).setCell (.inr (show w.heap.size ≤ w.heap.size + 1 + 1 by omega)) _).setCell (.inr (show w.heap.size ≤ w.heap.size + 1 + 1 + 1 by omega)) _⟩
  · obtain ⟨aa, rfl⟩ : ∃ aa : Nat, a = (aa : Int) := ⟨a.toNat, by have := hsn.1.1; omega⟩
    obtain ⟨bb, rfl⟩ : ∃ bb : Nat, b = (bb : Int) := ⟨b.toNat, by have := hsn.2.1; omega⟩
    obtain ⟨ss, rfl⟩ : ∃ ss : Nat, s = (ss : Int) := ⟨s.toNat, by have := hsn.2.2.1; omega⟩
    have hread : c.read l m aa bb ss = c.rd l m aa (pcs c.rm ss bb ss) [] := if_pos hsn
    have hbd : bb ≤ X ∧ ss ≤ X ∧ aa ≤ l.last := by
      obtain ⟨h1, h2, h3, h4, h5⟩ := hsn
      rw [HXX.out] at h4 h5
      omega
    have HREAD := Lib.hid hread
    have HBD := Lib.hid hbd
    have hA := (Keep.refl [] wx).alloc (.cells #[.slice none 0 0] 42)
    have y0 := hA.cell (by simp) (cell_of_one (HK.out.blk (by simp) HB.out.1))
    have x0 := hA.cell (by simp) (cell_of_row wx _ 0 _ _ _ (HK.out.blk (by simp) HB.out.2.1))
    have x1 := hA.cell (by simp) (cell_of_row wx _ 1 _ _ _ (HK.out.blk (by simp) HB.out.2.1))
    have x2 := hA.cell (by simp) (cell_of_row wx _ 2 _ _ _ (HK.out.blk (by simp) HB.out.2.1))
    clear hread hbd hsn
    have hOB := heap_alloc_new wx (.cells #[.slice none 0 0] 42)
    obtain ⟨wa, hwa⟩ : ∃ wa, wx.alloc (.cells #[.slice none 0 0] 42) = wa := ⟨_, rfl⟩
    have hsa : wa.heap.size = wx.heap.size + 1 := by rw [← hwa]; simp
    rw [hwa] at hA hOB y0 x0 x1 x2
    simp at x0 x1 x2
    go_wp2_with fail
    clear y0 x0 x1 x2 c2 c3 f2 f3 hwa
    refine (pieces_any gl aa bb ss _).mono ?_
    rintro e w3 ⟨rfl, hk3, hbl, hbx, hs3⟩
    have hk := HK.out.trans (hA.trans hk3)
    have hob := hk3.blk (by simp) hOB
    have hd := H.out.keep (HA.out.trans hk) (by simp)
    have HD := Lib.hid hd
    have HW := Lib.hid (And.intro hob (And.intro hbl hbx))
    have HS3 := Lib.hid (And.intro hsa (And.intro hs3 (And.intro HK.out.size HS1.out)))
    have HK3 := Lib.hid hk
    clear hk3 hbl hbx hob hk hA hOB hs3 hsa hd
    go_wp2_with fail
    have hT0 : ∀ b ∈ [wa.heap.size + 1], b < w3.heap.size := by have := HS3.out.2.1; simp; omega
    go_goals
    refine wp_range5 (n := 3) (gf := 147) (lb := #[.pointer (some ⟨wa.heap.size + 1, 0, none⟩), .pointer (some ⟨wa.heap.size, 0, none⟩)]) rfl (enters_of Try.func147 (by kernel_rfl) rfl)
      (T0 := [wa.heap.size + 1]) hT0 (pieces1_iter (wa.heap.size + 1) wa.heap.size gl c.rm aa bb ss (by omega) (by omega) (by have := HBD.out; omega) (by have := HBD.out; omega) (by omega) (by have := H.out.lt _ H.out.gl; have := HA.out.size; have := HS3.out; omega) (by have := HBD.out; omega))
      (fun T x args W W' _ h => h) (fun T x args W h => by cases h; rfl)
      (RrInv c l m aa w3 wx.heap.size wa.heap.size) (RrEnd c l m aa w (pcs c.rm ss bb ss))
      ?hRd ?hSt ?hI ?hIx ?hG ?h0
      (fun args B0 => { tmps := #[.pointer (some ⟨gl, 0, none⟩), .agg #[.int .i64 (aa : Int), .int .i64 (bb : Int), .int .i64 (ss : Int)], .pointer (some ⟨w.heap.size, 0, none⟩), .pointer (some ⟨w.heap.size + 1, 0, none⟩), .pointer (some ⟨w.heap.size + 1 + 1, 0, none⟩), .pointer (some ⟨w.heap.size + 1 + 1 + 1, 0, none⟩), .pointer (some ⟨wx.heap.size, 0, none⟩), .pointer (some ⟨B0, 0, none⟩), undef, undef, .bool false, .pointer (some ⟨gl, 0, none⟩), .bool false, .bool false,
        u14, u15, u16, u17, u18, u19, u20, u21, u22, u23, u24, u25, u26, u27, u28, u29, u30, u31, u32, u33, u34, u35, u36, u37, u38, u39, u40, u41, u42, u43, u44, u45, u46, u47, u48, u49, u50, u51, .pointer (some ⟨gl, 0, none⟩), .agg #[.int .i64 (aa : Int), .int .i64 (bb : Int), .int .i64 (ss : Int)], .func (.func 147) #[] #[.pointer (some ⟨wa.heap.size + 1, 0, none⟩), .pointer (some ⟨wa.heap.size, 0, none⟩)], args.getD 0 undef,
        undef, undef, undef, undef, undef, undef, undef, undef, undef, undef, undef, undef, undef, undef, undef, undef, undef, undef, undef, undef, undef, undef, undef, undef, undef, undef, undef, undef, undef, undef, undef, undef, undef, undef, undef], defers := [] })
      (fun x args B0 W => W.heap[B0]? = some (.cells #[.int .i64 (aa : Int), .int .i64 (x.at_ : Int), .int .i64 (x.n : Int), .int .i64 ((x.at_ / c.rm : Nat) : Int), .int .i64 ((x.at_ % c.rm : Nat) : Int)] 212 (0, 0))) (fun x args B0 W W' hB k h => k.blk (by simp; omega) h)
      ?hassign ?hbody ?hdone ?hstop
    case hRd =>
      rintro T pre W ⟨hk, hT, -⟩ hlt
      have hBl : wa.heap.size ∉ wx.heap.size :: T := fun hm => by
        rcases List.mem_cons.1 hm with e | hm
        · have := HS3.out.1; omega
        · have := hT _ hm; omega
      have hgl : gl ∉ wx.heap.size :: T := fun hm => by
        have h1 := H.out.lt _ H.out.gl
        have h2 := HA.out.size
        have h3 := HS3.out
        rcases List.mem_cons.1 hm with e | hm
        · omega
        · have := hT _ hm; omega
      exact ⟨hk.blk hBl HW.out.2.1, (HD.out.row.keep hk hgl).k17⟩
    case hSt =>
      intro W k'
      exact k'.blk (by simp) HW.out.2.2
    case hI =>
      rintro T pre W W' k' ⟨hk, hT, out, v, h1, h2, h3, h4, h5⟩
      have hOT : wx.heap.size ∉ T := fun hm => by have := hT _ hm; have := HS3.out.1; omega
      exact ⟨hk.trans (k'.mono (fun b hb => List.mem_cons_of_mem _ hb)), hT, out, v, k'.blk hOT h1, h2.keep k' (fun b hb hm => h3 b hb hm), h3, h4, h5⟩
    case hIx =>
      rintro cd T pre W W' k' ⟨rfl, hk, hT, code, h1, h2, h3⟩
      have ne : ∀ b, b < w.heap.size + 4 → b ∉ T := fun b hb hm => by have := hT b hm; omega
      exact ⟨rfl, hk.trans' k' (fun b hb => .inr (by have := hT b hb; omega)), hT, code, h1, k'.blk (ne _ (by omega)) h2, k'.blk (ne _ (by omega)) h3⟩
    case hG =>
      rintro T pre W b hb ⟨hk, hT, out, v, h1, h2, h3, h4, h5⟩
      have hs := hk.size
      refine ⟨hk.mono (fun b' hb' => by simp at hb' ⊢; rcases hb' with e | e <;> simp [e]), fun b' hb' => ?_, out, v, h1, h2, fun b' hb' hm => ?_, h4, h5⟩
      · rcases List.mem_cons.1 hb' with rfl | hm
        · have := HS3.out; omega
        · exact hT _ hm
      · rcases List.mem_cons.1 hm with rfl | hm
        · have := (rowLt h2 hb').1; omega
        · exact h3 _ hb' hm
    case h0 =>
      intro W k'
      refine ⟨k'.mono (by simp), ?_, [], .slice none 0 0, k'.blk (by simp) HW.out.1, World.ownsRow_nil _ _ _ _, fun b hb => by simp [Value.ownBlock] at hb, by simp, fun t => by simp⟩
      intro b hb
      have := HS3.out
      simp at hb
      omega
    case hassign =>
      rintro T x args W K e hlt hK
      change args = #[.agg #[.int .i64 (aa : Int), .int .i64 (x.at_ : Int), .int .i64 (x.n : Int), .int .i64 ((x.at_ / c.rm : Nat) : Int), .int .i64 ((x.at_ % c.rm : Nat) : Int)]] at e
      subst e
      obtain ⟨sc, hsc⟩ : ∃ sc, x.at_ / c.rm = sc := ⟨_, rfl⟩
      obtain ⟨fr, hfr⟩ : ∃ fr, x.at_ % c.rm = fr := ⟨_, rfl⟩
      rw [hsc, hfr] at hK ⊢
      clear hsc hfr
      gi_wp2
      exact hK _ ((Keep.refl [] W).alloc _) (heap_alloc_new W _)
    case hbody =>
      rintro T pre x args B0 W hpre ⟨hk, hT, out, v, h1, h2, h3, h4, h5⟩ e hB hB0 hTs hlT hDT ⟨r, hL⟩ hD
      change args = #[.agg #[.int .i64 (aa : Int), .int .i64 (x.at_ : Int), .int .i64 (x.n : Int), .int .i64 ((x.at_ / c.rm : Nat) : Int), .int .i64 ((x.at_ % c.rm : Nat) : Int)]] at e
      subst e
      obtain ⟨sc, hsc⟩ : ∃ sc, x.at_ / c.rm = sc := ⟨_, rfl⟩
      obtain ⟨fr, hfr⟩ : ∃ fr, x.at_ % c.rm = fr := ⟨_, rfl⟩
      rw [hsc, hfr] at hB
      obtain ⟨L, cd, hld⟩ : ∃ L cd, c.ld l m aa sc true = (L, cd) := ⟨_, _, rfl⟩
      have hxm : x ∈ pcs c.rm ss bb ss := hpre.subset (show x ∈ pre ++ [x] by simp)
      obtain ⟨⟨hxn1, hxn⟩, hxa⟩ := pcs_mem _ (by omega) _ _ _ x hxm
      have hsc2 : sc ≤ x.at_ := by rw [← hsc]; exact Nat.div_le_self _ _
      have hfr2 : fr < c.rm := by rw [← hfr]; exact Nat.mod_lt _ (by omega)
      have hpl : pre.length + 1 ≤ 15776 := by
        have h1 := hpre.length_le
        have h2 := pcs_len c.rm ss bb ss
        have := HBD.out
        simp at h1
        omega
      have hstep : ∀ t, c.rd l m aa (pre ++ x :: t) [] = if cd ≠ 0 then ([], cd) else if L.length < fr + x.n then ([], 13) else c.rd l m aa t (out ++ (L.drop fr).take x.n) := fun t => by
        rw [h5, Lc.rd, hsc, hfr, hld]
      have hge : ∀ b ∈ wx.heap.size :: (T ++ [w3.heap.size + 1]), w1.heap.size ≤ b := fun b hb => by
        have h6 := HS3.out
        rcases List.mem_cons.1 hb with e | hm
        · omega
        · have := hT _ hm; omega
      have hlow : ∀ b, b < w1.heap.size → b ∉ wx.heap.size :: (T ++ [w3.heap.size + 1]) := fun b hb hm => by have := hge b hm; omega
      have hd := HD.out.keep hk (fun b hb => by
        have h6 := hge b hb
        have h7 := HS1.out
        exact ⟨fun hm => by have := H.out.dv.lt b hm; omega, fun hm => by have := H.out.lt b hm; omega⟩)
      have hs1 := HS1.out
      have q0 := hk.blk (hlow _ (by omega)) (HK3.out.blk (by simp) HB.out.1)
      have q2 := hk.blk (hlow _ (by omega)) (HK3.out.blk (by simp) HB.out.2.2.1)
      have q3 := hk.blk (hlow _ (by omega)) (HK3.out.blk (by simp) HB.out.2.2.2)
      have hload := loadL_any W D E gl g c l m ⟨pv, hd⟩ hacts HF.out.at_ (by rw [HF.out.pend]; exact Nat.le_of_lt (Nat.mod_lt _ (by omega))) (by rw [HF.out.pend]; rcases Nat.eq_zero_or_pos l.at_ with e | e; (left; rw [e]; simp); (right; exact e)) aa sc (by have := HBD.out; omega) (by have := HBD.out; omega) true
      rw [hld] at hload
      have y0 := cell_of_one q0
      have p0 := cell_of_row W _ 0 _ _ _ hB
      have p3 := cell_of_row W _ 3 _ _ _ hB
      simp at p0 p3
      have HLO := Lib.hid hload
      have HI := Lib.hid (And.intro hk (And.intro hT (And.intro h1 (And.intro h2 (And.intro h3 h4)))))
      have HST := Lib.hid hstep
      have HQ := Lib.hid (And.intro q2 q3)
      have HT := Lib.hid (And.intro hTs (And.intro hlT (And.intro hDT (And.intro hL hD))))
      have HPRE := Lib.hid hpre
      have HBB := Lib.hid hB
      have HGE := Lib.hid (And.intro hge hlow)
      clear hk hT h1 h2 h3 h4 h5 hTs hlT hDT hL hD hpre hB q0 q2 q3 hload hstep hd hge hlow hsc hfr hld hxm
      gi_wp2_with fail
      refine ⟨trivial, CallsIn.inRound _ (callsIn_wide.2 (HLO.out.mono ?_))⟩
      rintro e w4 ⟨v4, rfl, hb4, hk4⟩
      obtain ⟨a4, c4, rfl, hc41, hc42, hc43⟩ := hb4.form
      clear y0 p0 p3
      have q2 := hk4.blk (by simp) HQ.out.1
      have q3 := hk4.blk (by simp) HQ.out.2
      have qo := hk4.blk (by simp) HI.out.2.2.1
      have qp := hk4.blk (by simp) HBB.out
      have c2 := cell_of_one q2
      have c3 := cell_of_one q3
      have f2 := free_of_one q2
      have f3 := free_of_one q3
      have p2 := cell_of_row w4 _ 2 _ _ _ qp
      have p4 := cell_of_row w4 _ 4 _ _ _ qp
      simp at p2 p4
      have H4 := Lib.hid (And.intro hk4 (And.intro hb4 (And.intro q2 (And.intro q3 (And.intro qo qp)))))
      clear hk4 hb4 q2 q3 qo qp
      have q7 : IntKind.i64.wrap ((fr : Int) + (x.n : Int)) = ((fr + x.n : Nat) : Int) := by rw [i64_wrap (by omega) (by omega)]; push_cast; rfl
      have HEND : ∀ (code : Nat), (∀ t, c.rd l m aa (pre ++ x :: t) [] = ([], code)) → ∀ a', roundEnd2 w3.heap.size T (RrInv c l m aa w3 wx.heap.size wa.heap.size (T ++ [w3.heap.size + 1])) (fun c_1 => RrEnd c l m aa w (pcs c.rm ss bb ss) c_1 (T ++ [w3.heap.size + 1])) (pre ++ [x]) W Exit.ret a' ((w4.setCell ⟨w.heap.size + 1 + 1, 0, none⟩ (.slice none 0 0)).setCell ⟨w.heap.size + 1 + 1 + 1, 0, none⟩ (.int .i64 (code : Int))) := by
        intro code hc a'
        have hs1 := HS1.out
        have h6 := HS3.out
        have hlL := (Array.getElem?_eq_some_iff.1 HT.out.2.2.2.1).1
        have same : ∀ b, b < W.heap.size → w1.heap.size ≤ b → ((w4.setCell ⟨w.heap.size + 1 + 1, 0, none⟩ (.slice none 0 0)).setCell ⟨w.heap.size + 1 + 1 + 1, 0, none⟩ (.int .i64 (code : Int))).heap[b]? = W.heap[b]? := fun b hb hb2 =>
          (heap_setCell_other _ _ _ _ (by simp; omega)).trans ((heap_setCell_other _ _ _ _ (by simp; omega)).trans (H4.out.1.block b hb (by simp)))
        have hT9 : ∀ b ∈ T ++ [w3.heap.size + 1], w.heap.size + 4 ≤ b := fun b hb => by have := HGE.out.1 b (List.mem_cons_of_mem _ hb); omega
        refine ⟨same _ (by omega) (by omega), same _ (by omega) (by omega), fun b hb => same b (HT.out.1 b (List.mem_append_left _ hb)) (by have := hT9 b (List.mem_append_left _ hb); omega), rfl, ?_, hT9, code, ?_, ?_, ?_⟩
        · have hk9 := ((HA.out.trans HK3.out).trans' HI.out.1 (fun b hb => .inr (by have := HGE.out.1 b hb; omega))).trans H4.out.1
          exact (hk9.setCell (.inr (show w.heap.size ≤ w.heap.size + 1 + 1 by omega)) _).setCell (.inr (show w.heap.size ≤ w.heap.size + 1 + 1 + 1 by omega)) _
        · obtain ⟨t, ht⟩ := HPRE.out
          rw [← ht, List.append_assoc]
          exact hc t
        · exact (heap_setCell_other _ _ _ _ (by simp)).trans (one_setCell H4.out.2.2.1)
        · exact one_setCell ((heap_setCell_other _ _ _ _ (by simp)).trans H4.out.2.2.2.1)
      have HEND := Lib.hid HEND
      by_cases hcd : cd = 0
      · by_cases hlt : L.length < fr + x.n
        · gi_wp2_with fail
          exact HEND.out 13 (fun t => by rw [HST.out t, if_neg (by simpa using hcd), if_pos hlt]) _
        · have hLb := H4.out.2.1
          have hao : ∃ b o, a4 = some ⟨b, o, none⟩ := by
            obtain ⟨b, o, e, -⟩ := hLb.spot (by omega)
            exact ⟨b, o, e⟩
          obtain ⟨ab, ao, rfl⟩ := hao
          obtain ⟨va, vc, rfl⟩ := ownsRow_form HI.out.2.2.2.1
          have HAB := Lib.hid hLb
          clear hLb
          gi_wp2_with fail
          refine wpIn_region_his (Value.slice va out.length vc).ownBlock.toList [11, 12] (fun _ => 0) (by kernel_rfl) ?hQ (by kernel_rfl) (by kernel_rfl) ?_
          case hQ =>
            rintro ⟨a', w', h'⟩
            exact h'
          intro w5 hk5 hh
          clear hh
          have hs1 := HS1.out
          have h6 := HS3.out
          have hoS : ∀ b ∈ (Value.slice va out.length vc).ownBlock.toList, w3.heap.size + 2 ≤ b ∧ b ∉ T ++ [w3.heap.size + 1] ∧ b ≠ B0 ∧ b < W.heap.size := fun b hb => by
            rw [Option.mem_toList] at hb
            have h7 := rowLt HI.out.2.2.2.1 hb
            refine ⟨h7.2.1, HI.out.2.2.2.2.1 b hb, fun e => ?_, h7.1⟩
            subst e
            exact HI.out.2.2.2.1.ne_row HBB.out (by decide) hb
          have hOS : wx.heap.size ∉ (Value.slice va out.length vc).ownBlock.toList := fun hm => by have := (hoS _ hm).1; omega
          have hBS : B0 ∉ (Value.slice va out.length vc).ownBlock.toList := fun hm => (hoS _ hm).2.2.1 rfl
          have x6 := fun w' (h : Keep (Value.slice va out.length vc).ownBlock.toList w5 w') => cell_of_one (h.blk hOS (hk5.blk (by simp) H4.out.2.2.2.2.1))
          have p2 := fun w' (h : Keep (Value.slice va out.length vc).ownBlock.toList w5 w') => cell_of_row w' _ 2 _ _ _ (h.blk hBS (hk5.blk (by simp) H4.out.2.2.2.2.2))
          have p4 := fun w' (h : Keep (Value.slice va out.length vc).ownBlock.toList w5 w') => cell_of_row w' _ 4 _ _ _ (h.blk hBS (hk5.blk (by simp) H4.out.2.2.2.2.2))
          simp at p2 p4
          have hsub := (HAB.out.keep hk5 (by simp)).sub (f := fr) (t := fr + x.n) (by omega) (by omega) (by omega)
          rw [Nat.add_sub_cancel_left] at hsub
          have ho5 := HI.out.2.2.2.1.keep (H4.out.1.trans hk5) (by simp)
          have h46 : w3.heap.size + 2 ≤ w5.heap.size := by
            have h8 := (Array.getElem?_eq_some_iff.1 HT.out.2.2.2.1).1
            have := (H4.out.1.trans hk5).size
            omega
          obtain ⟨v6, w6, hrun, ho6, hk6, hloc⟩ := run_append_bytes_at (P := Try.prog) (ty := 42) (w3.heap.size + 2) Try.underlying42 (by kernel_rfl) ho5 hsub (by
            have h8 := HI.out.2.2.2.2.2
            have h9 : pre.length * c.rm ≤ 15776 * 493 := Nat.mul_le_mul (by omega) o2
            rw [List.length_take, List.length_drop]
            omega) h46
          obtain ⟨out2, hout2⟩ : ∃ out2, out ++ (L.drop fr).take x.n = out2 := ⟨_, rfl⟩
          rw [hout2] at ho6
          have HOUT := Lib.hid hout2
          obtain ⟨a6, c6, rfl⟩ := ownsRow_form ho6
          have hR := Lib.hid hrun
          have x6f := free_of_one (hk6.blk hOS (hk5.blk (by simp) H4.out.2.2.2.2.1))
          have H6 := Lib.hid (And.intro ho6 (And.intro hk6 (And.intro hloc (And.intro hk5 hoS))))
          have HOB := Lib.hid hOS
          clear hrun ho6 hloc hk5 hoS hsub ho5 h46 hOS hBS hout2
          have u1 : (fr : Int) + (x.n : Int) ≤ (c4 : Int) := by omega
          have u2 : fr + x.n ≤ c4 := by omega
          have u3 : ¬ c4 - fr = 0 := by omega
          have u4 : ¬ c4 = fr := by omega
          have u5 : ((fr + x.n : Nat) : Int) ≤ (c4 : Int) := by omega
          have u6 : (fr : Int) ≤ ((fr + x.n : Nat) : Int) := by omega
          have u7 : ¬ c4 ≤ fr := by omega
          have u8 : (0 : Int) ≤ (fr : Int) + (x.n : Int) := by omega
          have u9 : ((fr : Int) + (x.n : Int)).toNat = fr + x.n := by omega
          have u10 : fr + x.n - fr = x.n := by omega
          have u11 : fr ≤ fr + x.n := by omega
          (repeat (first | (refine his_q rfl rfl (fun K hK => ?_); apply Exists.intro; refine ⟨fun w' hC => ?_, ?_⟩; ((try simp [Sg.upd] at hC); go_simp <;> rfl); go_simp; refine hK _ _ ?_; clear hK K) | (refine his_s rfl (fun K hK => ?_); go_simp; refine hK _ _ ?_; clear hK K)))
          refine his_l rfl rfl (fun K' hK' => ?_)
          refine loudly_append_run (.tmp 78) (.tmp 88) 42 rfl rfl rfl hR.out ?_
          refine hK' _ _ hk6 ?_
          clear hK' K'
          (repeat (first | (refine his_q rfl rfl (fun K hK => ?_); apply Exists.intro; refine ⟨fun w' hC => ?_, ?_⟩; ((try simp [Sg.upd] at hC); go_simp <;> rfl); go_simp; refine hK _ _ ?_; clear hK K) | (refine his_s rfl (fun K hK => ?_); go_simp; refine hK _ _ ?_; clear hK K)))
          (refine his_last rfl (by kernel_rfl) rfl (fun K hK => ?_); go_simp)
          refine hK _ _ ?_
          clear hK K x6 p2 p4 x6f
          refine his_nil ?_
          have hs1 := HS1.out
          have h6 := HS3.out
          have hlL := (Array.getElem?_eq_some_iff.1 HT.out.2.2.2.1).1
          obtain ⟨ho6, hk6', hloc, hk5, hoS⟩ := H6.out
          have hW5 : Keep [] W w5 := H4.out.1.trans hk5
          have hOB9 := hk6'.blk HOB.out (hk5.blk (by simp) H4.out.2.2.2.2.1)
          have same : ∀ (u : Value) (b : Nat), b < W.heap.size → b ∉ (Value.slice va out.length vc).ownBlock.toList → b ≠ wx.heap.size → (w6.setCell ⟨wx.heap.size, 0, none⟩ u).heap[b]? = W.heap[b]? := fun u b hb hb2 hb3 =>
            (heap_setCell_other _ _ _ _ (fun e => hb3 e)).trans ((hk6'.block b (Nat.lt_of_lt_of_le hb hW5.size) hb2).trans (hW5.block b hb (by simp)))
          have hge2 : ∀ b ∈ T ++ [w3.heap.size + 1], wa.heap.size < b := fun b hb => by rcases List.mem_append.1 hb with hb | hb; exact HI.out.2.1 b (List.mem_append_left _ hb); rw [List.mem_singleton.1 hb]; omega
          refine ⟨same _ (w3.heap.size + 1) (by omega) (fun hm => by have := (hoS _ hm).1; omega) (by omega), same _ w3.heap.size (by omega) (fun hm => by have := (hoS _ hm).1; omega) (by omega), fun b hb => same _ b (HT.out.1 b (List.mem_append_left _ hb)) (fun hm => (hoS b hm).2.1 (List.mem_append_left _ hb)) (by have := hge2 b (List.mem_append_left _ hb); omega), ?_⟩
          have hkA : Keep (wx.heap.size :: (T ++ [w3.heap.size + 1])) w3 w6 := keep_bump (HI.out.1.trans (hW5.mono (by simp))) hk6' (fun b hb => .inr (by have := (hoS b hb).1; omega))
          refine ⟨hkA.setCell (.inl (by simp)) _, HI.out.2.1, _, _, one_setCell hOB9, ho6.keep ((Keep.refl [wx.heap.size] _).setCell (p := ⟨wx.heap.size, 0, none⟩) (.inl (by simp)) _) (fun b hb hm => ?_), fun b hb hm => ?_, ?_, fun t => ?_⟩
          · have := (rowLt ho6 hb).2.1
            rw [List.mem_singleton.1 hm] at this
            omega
          · rcases hloc with e | e
            · rw [e] at hb
              exact HI.out.2.2.2.2.1 b hb hm
            · rw [e] at hb
              cases hb
              have h9 := HT.out.1 w5.heap.size hm
              have := hW5.size
              omega
          · have h9 := HI.out.2.2.2.2.2
            rw [← HOUT.out]
            simp only [List.length_append, List.length_cons, List.length_nil, List.length_take, List.length_drop, Nat.add_mul]
            omega
          · have h9 := HST.out t
            rw [if_neg (by simpa using hcd), if_neg hlt] at h9
            rw [List.append_assoc, ← HOUT.out]
            exact h9
      · gi_wp2_with fail
        exact HEND.out cd (fun t => by rw [HST.out t, if_pos hcd]) _
    case hdone =>
      rintro T W ⟨hk, hT, out, v, h1, h2, h3, h4, h5⟩ hTs hDT hD
      obtain ⟨va, vc, rfl⟩ := ownsRow_form h2
      have hs1 := HS1.out
      have h6 := HS3.out
      have hge : ∀ b ∈ wx.heap.size :: (T ++ [w3.heap.size + 1]), w1.heap.size ≤ b := fun b hb => by
        rcases List.mem_cons.1 hb with e | hm
        · omega
        · have := hT _ hm; omega
      have hlow : ∀ b, b < w1.heap.size → b ∉ wx.heap.size :: (T ++ [w3.heap.size + 1]) := fun b hb hm => by have := hge b hm; omega
      have q2 := hk.blk (hlow _ (by omega)) (HK3.out.blk (by simp) HB.out.2.2.1)
      have q3 := hk.blk (hlow _ (by omega)) (HK3.out.blk (by simp) HB.out.2.2.2)
      have hkf := (HA.out.trans HK3.out).trans' hk (fun b hb => .inr (by have := hge b hb; omega))
      have hrd := h5 []
      rw [List.append_nil, Lc.rd] at hrd
      have o6 := cell_of_one h1
      have c2 := cell_of_one q2
      have c3 := cell_of_one q3
      have f2 := free_of_one q2
      have f3 := free_of_one q3
      have HQ9 := Lib.hid (And.intro q2 (And.intro q3 (And.intro hkf (And.intro hrd (And.intro h2 hD)))))
      have HSZ := Lib.hid (show w.heap.size + 6 ≤ w3.heap.size by omega)
      clear hk hT h1 h2 h3 h4 h5 hge hlow q2 q3 hkf hrd hTs hDT hD hs1 h6
      go_wp2
      have hs3 := HSZ.out
      have hown := HQ9.out.2.2.2.2.1.keep (S := [w.heap.size + 1 + 1, w.heap.size + 1 + 1 + 1, w3.heap.size]) ((((Keep.refl _ W).setCell (p := ⟨w.heap.size + 1 + 1, 0, none⟩) (.inl (by simp)) (.slice va out.length vc)).setCell (p := ⟨w.heap.size + 1 + 1 + 1, 0, none⟩) (.inl (by simp)) (.int .i64 0)).putObj (l := w3.heap.size) (.inl (by simp)) (.deferred none)) (fun b hb hm => by
        have := (rowLt HQ9.out.2.2.2.2.1 hb).2.1
        simp at hm
        omega)
      refine leavesM_one ((heap_setCell_other _ _ _ _ (by simp; omega)).trans ((heap_setCell_other _ _ _ _ (by simp; omega)).trans HQ9.out.2.2.2.2.2))
        (results_read rfl _ _ rfl rfl (cell_of_one ((World.putObj_heap_other (by omega)).trans ((heap_setCell_other _ _ _ _ (by simp)).trans (one_setCell HQ9.out.1)))) (cell_of_one ((World.putObj_heap_other (by omega)).trans (one_setCell ((heap_setCell_other _ _ _ _ (by simp)).trans HQ9.out.2.1)))))
        ⟨_, by rw [HREAD.out, HQ9.out.2.2.2.1]; rfl, by rw [HREAD.out, HQ9.out.2.2.2.1]; exact hown.base (by omega), ((HQ9.out.2.2.1.setCell (.inr (show w.heap.size ≤ w.heap.size + 1 + 1 by omega)) _).setCell (.inr (show w.heap.size ≤ w.heap.size + 1 + 1 + 1 by omega)) _).putObj (.inr (by omega)) _⟩
    case hstop =>
      rintro cd T pre W hpre ⟨rfl, hk, hT, code, h1, h2, h3⟩ hDT hD
      have hs3 : w.heap.size + 4 ≤ w3.heap.size := by have := HS3.out; omega
      have HRR := Lib.hid h1
      have HEE := Lib.hid (And.intro hk (And.intro h2 h3))
      have HS9 := Lib.hid hs3
      clear hk h1 h2 h3 hs3
      go_wp2
      have hs3 := HS9.out
      refine leavesM_one hD (results_read rfl _ _ rfl rfl (cell_of_one ((World.putObj_heap_other (by omega)).trans HEE.out.2.1)) (cell_of_one ((World.putObj_heap_other (by omega)).trans HEE.out.2.2))) ⟨_, by rw [HREAD.out, HRR.out], by rw [HREAD.out, HRR.out]; exact World.ownsRow_nil _ _ _ _, HEE.out.1.putObj (.inr (by omega)) _⟩
end Go.Proofs.Ytjkjiabfhhnngaa
