import Derived.Test.YtjkjiabfhhnngaaLeafFoul
import Derived.Test.YtjkjiabfhhnngaaFlashPast
import Derived.Test.YtjkjiabfhhnngaaParK
/-! The walk of leaf's Foul. -/
namespace Go.Proofs.Ytjkjiabfhhnngaa
open Go.RowKit Go.Shelf Sg
attribute [local go_sem] Oper.semAt_some
set_option linter.unusedSimpArgs false
set_option linter.unusedVariables false

def ienc (n : Nat) : List Value := [.int .i64 (n : Int)]
theorem ilies : Lies ienc 1 := ⟨fun _ => rfl, fun x u hu => by simp [ienc] at hu; rcases hu with rfl; rfl⟩
abbrev IRow := RowE ienc 1 3
/-- the sectors that no write gave -/
def fouls (m : Dev) (xs : List (Nat × List UInt8)) : List Nat := (xs.filter (fun x => decide (x.2 ∉ m.pasts (x.1 : Int)))).map (·.1)
theorem fouls_snoc (m : Dev) (xs : List (Nat × List UInt8)) (x : Nat × List UInt8) : fouls m (xs ++ [x]) = fouls m xs ++ (if x.2 ∈ m.pasts (x.1 : Int) then [] else [x.1]) := by
  unfold fouls
  rw [List.filter_append, List.map_append]
  by_cases h : x.2 ∈ m.pasts (x.1 : Int) <;> simp [h]
theorem leaves_any (p : Option Addr) (w : World) : Calls Try.prog 102 #[.pointer p] w fun e w' => e = .returned (.func (.func 139) #[] #[.pointer (some ⟨w.heap.size, 0, none⟩)]) ∧ w.alloc (.cells #[.pointer p] 24) = w' := by
  go_enter Try.func102, Try.ntmps102
  go_wp2
  go_ret
  exact ⟨rfl, rfl⟩

theorem ownb_ge {w : World} {base : Nat} {t : TypeId} {v : Value} {l : List UInt8} (h : OwnB w base t v l) : ∀ b, v.ownBlock = some b → base ≤ b := by
  intro b hb
  rcases h.2 with ⟨rfl, -⟩ | ⟨g', c', cur, rfl, h1, -⟩
  · simp [Value.ownBlock] at hb
  · simp [Value.ownBlock] at hb
    omega
theorem pastO_at {w : World} {base : Nat} {T : List Nat} {a : Option Addr} {n c : Nat} {ls : List (List UInt8)} (h : PastO w base T (.slice a n c) ls) {j : Nat} (hj : j < ls.length) :
    ∃ g u, a = some ⟨g, 0, none⟩ ∧ w.cell? ⟨g, j, none⟩ = some u ∧ OwnB w base 5 u ls[j] := by
  obtain ⟨vs, h1, h2, -, h4⟩ := h
  have hj2 : j < vs.length := by omega
  rcases h1.2 with ⟨e, h0⟩ | ⟨g, cap, cur, e, -⟩
  · omega
  · injection e with e1 e2 e3
    subst e1
    refine ⟨g, vs[j], rfl, ?_, (h4 j vs[j] ls[j] (List.getElem?_eq_getElem hj2) (List.getElem?_eq_getElem hj)).1⟩
    have := World.ownsRow.cells (g := g) h1 rfl j vs[j] (List.getElem?_eq_getElem hj2)
    rw [Addr.add_lit, Nat.zero_add] at this
    exact this
theorem pastO_small {w : World} {base : Nat} {T : List Nat} {v : Value} {ls : List (List UInt8)} (h : PastO w base T v ls) : ls.length ≤ maxLen := by
  obtain ⟨vs, h1, h2, -, h4⟩ := h
  rcases h1.2 with ⟨e, h0⟩ | ⟨g, cap, cur, e, -, -, hc, hm, -⟩
  · rw [← h2, h0]; exact Nat.zero_le _
  · rw [← h2]; exact Nat.le_trans hc hm
theorem pasts_ok {m : Dev} (hw : m.Wf) (a : Int) : (m.pasts a).length ≤ m.acts + 1 ∧ ∀ l ∈ m.pasts a, l.length = m.sz := by
  unfold Dev.pasts
  split
  next h =>
    have hk : a.toNat < m.past.length := by rw [hw.pl]; omega
    have he : m.past.getD a.toNat [] = m.past[a.toNat] := by simp [List.getD, hk]
    rw [he]
    obtain ⟨p1, p2⟩ := hw.ps a.toNat hk
    refine ⟨by simp; omega, fun l hl => ?_⟩
    rcases List.mem_append.1 hl with hl | hl
    · exact p2 l (List.mem_reverse.1 hl)
    · rw [List.mem_singleton.1 hl]; simp
  next => exact ⟨by simp, fun l hl => by simp at hl⟩
theorem lvs_mem (m : Dev) : ∀ f a x, x ∈ lvs m f a → (m.read (x.1 : Int)).2 = 0 ∧ x.2 = (m.read (x.1 : Int)).1 ∧ LeafOk x.2 := by
  intro f
  induction f with
  | zero => intro a x h; simp [lvs] at h
  | succ f ih =>
    intro a x h
    unfold lvs at h
    split at h
    · simp at h
    next h1 =>
      split at h
      next h2 =>
        rcases List.mem_cons.1 h with rfl | h
        · exact ⟨by simpa using h1, rfl, h2⟩
        · exact ih _ _ h
      next => exact ih _ _ h
theorem lvs_len (m : Dev) : ∀ f a, (lvs m f a).length ≤ f := by
  intro f
  induction f with
  | zero => intro a; simp [lvs]
  | succ f ih =>
    intro a
    unfold lvs
    split
    · simp
    · split
      · have := ih (a + 1); simp; omega
      · have := ih (a + 1); omega
theorem int_info : (Try.prog.info? 3).map (fun i => (i.zero, i.size, i.bytes)) = some (some (.int .i64 0), 1, 8) := by kernel_rfl
def FInv (m : Dev) (w3 : World) (T : Nat) (pre : List (Nat × List UInt8)) (W : World) : Prop :=
  Keep [T + 1] w3 W ∧ ∃ v, W.heap[T + 1]? = some (.cells #[v] 35 (0, 0)) ∧ IRow W (T + 5) v (fouls m pre)

set_option maxHeartbeats 400000 in
theorem foul_any (w : World) (D : List Nat) (g : Nat) (m : Dev) (h : DV w D g m) (hacts : m.acts ≤ 1000000000) :
    Calls Try.prog 42 #[.pointer (some ⟨g, 0, none⟩)] w fun e w' => ∃ v, e = .returned v ∧ IRow w' w.heap.size v (fouls m (lvs m m.n 0)) ∧ Keep [] w w' := by
  have hmn := h.1.n2
  obtain ⟨T, hT⟩ : ∃ T, w.heap.size = T := ⟨_, rfl⟩
  have HH := Lib.hid h
  refine calls_of_marks Try.func42 rfl ?_
  simp only [Try.ntmps42, List.size_toArray, List.length_cons, List.length_nil, Nat.reduceAdd, Nat.reduceSub, Array.replicate_succ, Array.replicate_zero, List.push_toArray, List.append_toArray, List.nil_append, List.cons_append]
  go_wp2_with fail
  refine wp_scope_straight ?_
  go_wp2_with fail
  refine wp_label ?_
  go_wp2_with fail
  refine (leaves_any _ _).mono ?_
  rintro e w3 ⟨rfl, hw3⟩
  have hk3 : Keep [] w w3 := by rw [← hw3]; exact (((Keep.refl [] w).alloc _).alloc _).alloc _
  have hs3 : w3.heap.size = T + 3 := by rw [← hw3, ← hT]; simp
  have hb1 : w3.heap[T + 1]? = some (.cells #[.slice none 0 0] 35 (0, 0)) := by
    rw [← hw3]
    refine ((Keep.refl [] _).alloc _).blk (by simp) ?_
    have h := heap_alloc_new (w.alloc (.cells #[.pointer (some ⟨g, 0, none⟩)] 24)) (.cells #[.slice none 0 0] 35)
    rw [World.size_alloc, hT] at h
    exact h
  have hb0 : w3.heap[T]? = some (.cells #[.pointer (some ⟨g, 0, none⟩)] 24 (0, 0)) := by
    rw [← hw3, ← hT]
    exact (((Keep.refl [] _).alloc _).alloc _).blk (by simp) (heap_alloc_new _ _)
  have hb2 : w3.heap[T + 2]? = some (.cells #[.pointer (some ⟨g, 0, none⟩)] 24 (0, 0)) := by
    rw [← hw3]
    have h := heap_alloc_new ((w.alloc (.cells #[.pointer (some ⟨g, 0, none⟩)] 24)).alloc (.cells #[.slice none 0 0] 35)) (.cells #[.pointer (some ⟨g, 0, none⟩)] 24)
    rw [World.size_alloc, World.size_alloc, hT] at h
    exact h
  clear hw3
  have hd3 := h.keep hk3 (by simp)
  have hDlt : ∀ b ∈ D, b < T := fun b hb => by have := h.lt b hb; omega
  go_wp2_with fail
  refine wp_range2 (n := 3) (gf := 139) (lb := #[.pointer (some ⟨T + 2, 0, none⟩)]) rfl (enters_of Try.func139 (by kernel_rfl) rfl)
    (T := []) (by simp) (leaves1_iter (T + 2) (T + 5) g D m hacts hmn)
    (fun x args W W' k h => ?hEnc) (fun x args W h => by obtain ⟨_, rfl, -⟩ := h; rfl)
    (FInv m w3 T) (fun _ _ _ => False)
    ?hRd (fun _ _ => trivial) ?hI (fun _ _ _ _ _ h => h) ?h0
    (fun args => { tmps := #[.pointer (some ⟨g, 0, none⟩), .pointer (some ⟨T, 0, none⟩), .slice none 0 0, .pointer (some ⟨T + 1, 0, none⟩), args.getD 0 undef, args.getD 1 undef, undef, undef, .pointer (some ⟨g, 0, none⟩), .func (.func 139) #[] #[.pointer (some ⟨T + 2, 0, none⟩)], args.getD 0 undef, args.getD 1 undef, undef, undef, undef, undef, undef, undef, undef, undef, undef, undef, undef, undef, undef, undef, undef, undef, undef], defers := [] })
    ?hassign ?hbody ?hdone ?hstop
  case hEnc =>
    obtain ⟨pv, rfl, h1⟩ := h
    rw [hs3] at k
    refine ⟨pv, rfl, h1.keep k (fun b hb hm => ?_)⟩
    have := ownb_ge h1 b hb
    simp at hm
    omega
  case hRd =>
    rintro pre W ⟨hk, v, h1, h2⟩ hlt
    refine ⟨hd3.keep hk (fun b hb hm => ?_), hk.blk (by simp) hb2, by omega⟩
    have := hDlt _ hm
    simp at hb
    omega
  case hI =>
    rintro pre W W' k ⟨hk, v, h1, h2⟩
    rw [hs3] at k
    refine ⟨keep_bump hk k (fun b hb => .inr (by simp at hb; omega)), v, k.blk (by simp) h1, h2.keep k (fun b hb hm => ?_)⟩
    have := (h2.lt b hb).1
    simp at hm
    omega
  case h0 =>
    intro W k
    exact ⟨k.mono (by simp), .slice none 0 0, k.blk (by simp) hb1, RowE.nil⟩
  case hassign =>
    rintro x args W K ⟨pv, rfl, h1⟩ hK
    gi_wp2
    exact hK
  case hbody =>
    rintro pre x args W hpre ⟨hk, v, h1, h2⟩ ⟨pv, rfl, hpb⟩ ⟨r, hL⟩ hD
    obtain ⟨xa, xb⟩ := x
    have hdW := hd3.keep hk (fun b hb hm => by have := hDlt _ hm; simp at hb; omega)
    have CP := Lib.hid (past_any W D g m hdW hacts (xa : Int))
    have gT := cell_of_one (hk.blk (by simp) hb0)
    obtain ⟨xv, xc, rfl⟩ : ∃ xv xc, pv = .slice xv xb.length xc := by
      rcases hpb.2 with ⟨rfl, h0⟩ | ⟨g', c', cur, rfl, -⟩
      · exact ⟨none, 0, by have h0' : xb.length = 0 := h0; rw [h0']⟩
      · exact ⟨_, _, rfl⟩
    have HB := Lib.hid (And.intro hk (And.intro h1 (And.intro h2 (And.intro hL (And.intro hD hpb)))))
    have HP := Lib.hid hpre
    have HD3 := Lib.hid (And.intro hd3 (And.intro hb0 (And.intro hb1 (And.intro hb2 hk3))))
    clear hk h1 h2 hL hD hpb hpre hd3 hb0 hb1 hb2 hk3 hdW
    gi_wp2_with fail
    refine ⟨trivial, CallsIn.inRound _ (callsIn_wide.2 (CP.out.mono ?_))⟩
    clear CP gT
    rintro e w4 ⟨v4, rfl, ho4, k4⟩
    obtain ⟨a4, c4, rfl⟩ := ho4.form
    have H4 := Lib.hid (And.intro ho4 k4)
    clear ho4 k4
    obtain ⟨ls, hls⟩ : ∃ ls, m.pasts (xa : Int) = ls := ⟨_, rfl⟩
    have hpo := pasts_ok HH.out.1 (xa : Int)
    have hxm := lvs_mem m _ _ (xa, xb) (HP.out.subset (by simp))
    have hxl : xb.length = m.sz := by
      have h := read_len HH.out.1 (a := (xa : Int)) hxm.1
      rw [← hxm.2.1] at h
      exact h
    have hsz := HH.out.1.s2
    rw [hls] at H4 hpo ⊢
    obtain ⟨M, hM⟩ : ∃ M, ls.length = M := ⟨_, rfl⟩
    rw [hM] at hpo ⊢
    have HM := Lib.hid hM
    have HLS := Lib.hid hls
    have HPO := Lib.hid hpo.2
    have hMb := hpo.1
    have HXL := Lib.hid hxl
    clear hls hpo hxm hxl hM
    gi_wp2_with fail
    gi_loopw [16] (fun i wr => ∃ j : Nat, j ≤ M ∧ i = .int .i64 (j : Int) ∧ Hid (Keep [] w4 wr) ∧ Hid (∀ k l, k < j → ls[k]? = some l → l ≠ xb)) (fun i _ => M - (intOf i).toNat)
    case atStart => exact ⟨0, by omega, rfl, Keep.refl _ _, fun k l hk => by omega⟩
    case round =>
      obtain ⟨j, hj, rfl, HK, HN⟩ := hrel
      rename World => wr
      by_cases hjM : j = M
      case pos =>
        subst hjM
        have hkw := (H4.out.2.trans HK.out)
        have h1r := hkw.blk (by simp) HB.out.2.1
        have h2r := HB.out.2.2.1.keep hkw (by simp)
        obtain ⟨va, vc, rfl⟩ := h2r.form
        have hA := (Keep.refl [] wr).alloc (.cells #[.int .i64 (xa : Int)] 3)
        have hfl : (fouls m pre).length ≤ 1000000 := by
          have h1 : (fouls m pre).length ≤ pre.length := by unfold fouls; rw [List.length_map]; exact List.length_filter_le _ _
          have h2 := HP.out.length_le
          have h3 := lvs_len m m.n 0
          simp at h2
          omega
        have hbz : T + 5 ≤ wr.heap.size := by
          have h1 := (Array.getElem?_eq_some_iff.1 HB.out.2.2.2.1).1
          have h2 := hkw.size
          omega
        obtain ⟨v', w', hrun, ho', hk', hloc⟩ := run_append_one (P := Try.prog) (ty := 35) ilies Try.underlying35 int_info rfl (by decide) (by decide) (T + 5) (h2r.keep hA (by simp)) wr.heap.size xa (heap_alloc_new _ _) hfl (Nat.le_trans hbz hA.size)
        obtain ⟨va', vc', rfl⟩ := ho'.form
        have gT := cell_of_one (hA.blk (by simp) h1r)
        have gT0 := cell_of_one h1r
        have hlow : ∀ b, b < T + 5 → b ∉ (Value.slice va (fouls m pre).length vc).ownBlock.toList := fun b hb hm => by
          have := (h2r.lt b (by simpa using hm)).1
          omega
        have z1 := hk'.blk (hlow _ (by omega)) (hA.blk (by simp) h1r)
        have gT2 := cell_of_one z1
        have fT2 := free_of_one z1
        have HZ := Lib.hid (And.intro z1 (And.intro ho' (And.intro hA (And.intro hk' hkw))))
        have HLOW := Lib.hid (And.intro hlow h2r)
        clear hkw h1r h2r hA hfl hbz ho' hk' hloc hlow z1
        gi_wp2_with (gi_at_builtin; refine wpListIn_append_run rfl (.tmp 24) (.tmp 26) 35 rfl (v := .slice va (fouls m pre).length vc) (src := .slice (some ⟨wr.heap.size, 0, none⟩) 1 1) (v' := .slice va' (fouls m pre ++ [xa]).length vc') (w' := w') rfl rfl hrun ?_)
        obtain ⟨z1, ho', hA, hk', hkw⟩ := HZ.out
        have hlow := HLOW.out.1
        have h2r := HLOW.out.2
        rw [List.length_append, List.length_singleton] at ho'
        have kS : Keep [T + 1] w' (w'.setCell ⟨T + 1, 0, none⟩ (.slice va' ((fouls m pre).length + 1) vc')) := (Keep.refl [T + 1] w').setCell (.inl (by simp)) _
        have hno : xb ∉ m.pasts (xa : Int) := by
          rw [HLS.out]
          intro hm
          obtain ⟨k, hk, hkx⟩ := List.getElem_of_mem hm
          exact HN.out k xb (by rw [← HM.out]; exact hk) (by rw [List.getElem?_eq_getElem hk, hkx]) rfl
        have hs3' := hs3
        refine ⟨(kS.blk (by simp; omega) (hk'.blk (hlow _ (by omega)) (hA.blk (by simp) (hkw.blk (by simp) HB.out.2.2.2.1)))).trans HB.out.2.2.2.1.symm, (kS.blk (by simp; omega) (hk'.blk (hlow _ (by omega)) (hA.blk (by simp) (hkw.blk (by simp) HB.out.2.2.2.2.1)))).trans HB.out.2.2.2.2.1.symm, by simp, ?_, _, one_setCell z1, ?_⟩
        · exact keep_bump (keep_bump ((HB.out.1.trans (hkw.mono (by simp))).trans (hA.mono (by simp))) hk' (fun b hb => .inr (by have := (h2r.lt b (by simpa using hb)).1; omega))) kS (fun b hb => .inl hb)
        · rw [fouls_snoc, if_neg hno]
          refine RowE.keep (l := fouls m pre ++ [xa]) ?_ kS (fun b hb hm => ?_)
          · have h := ho'
            exact h
          · have := (ho'.lt b hb).1
            simp at hm
            omega
      case neg =>
        have hlt : (j : Int) < (M : Int) := by omega
        obtain ⟨gb, u, rfl, hcell, hob⟩ := pastO_at (H4.out.1.keep HK.out (by simp)) (j := j) (by rw [HM.out]; omega)
        obtain ⟨l, hl⟩ : ∃ l, ls[j]'(by rw [HM.out]; omega) = l := ⟨_, rfl⟩
        rw [hl] at hob
        have hll : l.length = m.sz := HPO.out l (by rw [← hl]; exact List.getElem_mem _)
        have hlj : ls[j]? = some l := by rw [List.getElem?_eq_getElem (by rw [HM.out]; omega), hl]
        have hbl := hob.bytes (by omega)
        have hbx := ((HB.out.2.2.2.2.2.keep (H4.out.2.trans HK.out) (by simp)).bytes (by have := HXL.out; omega) : Bytes wr (.slice xv xb.length xc) xb)
        obtain ⟨ua, uc, rfl⟩ : ∃ ua uc, u = .slice ua l.length uc := by
          obtain ⟨a, c, rfl, -⟩ := hbl.form
          exact ⟨_, _, rfl⟩
        have CE := Lib.hid (equal_any _ _ l xb wr hbl hbx)
        have HLJ := Lib.hid hlj
        clear hbl hbx hl hll hlj hob
        gi_wp2_with fail
        refine ⟨trivial, CallsIn.inRound _ (callsIn_wide.2 (CE.out.mono ?_))⟩
        clear CE hcell
        rintro e w5 ⟨rfl, rfl⟩
        by_cases heq : l = xb
        case pos =>
          rw [decide_eq_true heq]
          have HE := Lib.hid heq
          clear heq
          gi_wp2_with fail
          have hkw := H4.out.2.trans HK.out
          refine ⟨(hkw.blk (by simp) HB.out.2.2.2.1).trans HB.out.2.2.2.1.symm, (hkw.blk (by simp) HB.out.2.2.2.2.1).trans HB.out.2.2.2.2.1.symm, by simp, HB.out.1.trans (hkw.mono (by simp)), v, hkw.blk (by simp) HB.out.2.1, ?_⟩
          rw [fouls_snoc, if_pos (by rw [HLS.out, ← HE.out]; exact List.mem_of_getElem? HLJ.out), List.append_nil]
          exact HB.out.2.2.1.keep hkw (by simp)
        case neg =>
          rw [decide_eq_false heq]
          have HE := Lib.hid heq
          clear heq
          gi_wp2
          case roundEnd =>
            refine ⟨⟨j + 1, by omega, by push_cast; rfl, HK, Lib.hid (fun k l' hk hkl => ?_)⟩, ?_⟩
            · by_cases hkj : k = j
              · subst hkj
                rw [HLJ.out] at hkl
                injection hkl with hkl
                rw [← hkl]
                exact HE.out
              · exact HN.out k l' (by omega) hkl
            · simp only [intOf]
              omega
  case hdone =>
    rintro W ⟨hk, v, h1, h2⟩ hD
    obtain ⟨va, vc, rfl⟩ := h2.form
    have gT := cell_of_one h1
    go_wp2
    simp only [Exit.noGoto]
    have kp : Keep [T + 3] W (W.putObj (T + 3) (.deferred none)) := (Keep.refl [T + 3] W).putObj (.inl (by simp)) _
    rw [hs3] at hD ⊢
    refine leavesM_one hD (results_tmp rfl _ _ _) ⟨_, rfl, (h2.keep kp (fun b hb hm => ?_)).lower (by omega), (hk3.trans' hk (fun b hb => .inr (by simp at hb; omega))).trans' kp (fun b hb => .inr (by simp at hb; omega))⟩
    have := (h2.lt b hb).1
    simp at hm
    omega
  case hstop =>
    rintro c pre W _ h
    exact h.elim
end Go.Proofs.Ytjkjiabfhhnngaa
