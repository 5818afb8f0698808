import Derived.Test.YtjkjiabfhhnngaaTold24
import Derived.Test.YtjkjiabfhhnngaaSegK
/-! The document's wheel: Drop, Put, Go. -/
namespace Sg
open Go Go.RowKit
theorem results3_rowW {P : Program} {fn : Func} {p u s : Tmp} {ty : TypeId} (h : fn.results = #[.cell p ty, .tmp u, .tmp s]) (tmps : Array Value) (w : World) (g : Nat) (t : TypeId) (cs : Array Value) (fr : Nat × Nat) (d : TypeDesc)
    (hp : tmps.getD p undef = .pointer (some ⟨g, 0, none⟩)) (hg : w.heap[g]? = some (.cells cs t fr))
    (hu : P.underlying ty = some d) (hd : (match d with | .struct _ | .array _ _ => true | _ => false) = true) (hi : (P.info? ty).map (·.size) = some cs.size) :
    (results fn tmps).run P w = .ok (.tuple #[.agg cs, tmps.getD u undef, tmps.getD s undef]) w := by
  have hp' : tmps[p]?.getD undef = .pointer (some ⟨g, 0, none⟩) := by simpa using hp
  simp [results, h, hp', asAddr, run_loadVar_row w g t ty cs fr d hg hu hd hi, Result.andThen]
end Sg

namespace Go.Proofs.Ytjkjiabfhhnngaa
open Go.RowKit Go.Shelf Sg
set_option linter.unusedSimpArgs false
set_option linter.unusedVariables false

theorem rdue_infoF : (Try.prog.info? 145).map (fun i => (i.zero, i.size, i.bytes)) = some (some (.agg #[.int .i64 0, .int .i64 0]), 2, 16) := by kernel_rfl
theorem rdueE_nil {w : World} {g base : Nat} (h : w.heap[g]? = some (.cells #[] 145 (0, 0))) (hb : base ≤ g) : RowE dueE 2 145 w base (.slice (some ⟨g, 0, none⟩) 0 0) [] :=
  ⟨rfl, .inr ⟨g, 0, #[], rfl, hb, h, Nat.le_refl _, by decide, rfl, rfl⟩⟩
/-- a document's wheel -/
def RefW (w : World) (base : Nat) (sl : Value) (m : Wm) : Prop := RowE dueE 2 145 w base sl m.ths

set_option maxRecDepth 100000 in
set_option maxHeartbeats 1000000 in
set_option maxHeartbeats 8000000 in
theorem refDrop_any (w : World) (base : Nat) (sl : Value) (m : Wm) (h : RefW w base sl m) (hb : base ≤ w.heap.size) (hl : m.ths.length ≤ 1000) (hnd : (m.ths.map (·.1)).Nodup) (n : Int) :
    Calls Try.prog 69 #[.agg #[.int .i64 (m.time : Int), sl], .int .i64 n] w fun e w' => ∃ sl', e = .returned (.tuple #[.agg #[.int .i64 (m.time : Int), sl'], .int .i64 ((wasD m n).1 : Int), .bool (wasD m n).2]) ∧ RefW w' base sl' (m.drop n) ∧ Keep [] w w' := by
  obtain ⟨tm, l⟩ := m
  unfold RefW Wm.drop at *
  simp only at h hl hnd ⊢
  obtain ⟨a0, c0, rfl⟩ := h.form
  obtain ⟨w1, hw1⟩ : ∃ w1, w.alloc (.cells #[.int .i64 (tm : Int), .slice a0 l.length c0] 133) = w1 := ⟨_, rfl⟩
  obtain ⟨w2, hw2⟩ : ∃ w2, w1.alloc (.cells #[.int .i64 0, .slice none 0 0] 133) = w2 := ⟨_, rfl⟩
  have hk1 : Keep [] w w1 := by rw [← hw1]; exact (Keep.refl [] w).alloc _
  have hk2 : Keep [] w1 w2 := by rw [← hw2]; exact (Keep.refl [] w1).alloc _
  have hs1 : w1.heap.size = w.heap.size + 1 := by rw [← hw1]; simp
  have e1 : w2.heap[w.heap.size]? = some (.cells #[.int .i64 (tm : Int), .slice a0 l.length c0] 133 (0, 0)) := hk2.blk (by simp) (by rw [← hw1]; exact heap_alloc_new w _)
  have e2 : w2.heap[w.heap.size + 1]? = some (.cells #[.int .i64 0, .slice none 0 0] 133 (0, 0)) := by rw [← hs1, ← hw2]; exact heap_alloc_new w1 _
  have z0 := cell_of_row w2 _ 0 _ _ _ e1
  have z1 := cell_of_row w2 _ 1 _ _ _ e1
  have y0 := cell_of_row w2 _ 0 _ _ _ e2
  have y1 := cell_of_row w2 _ 1 _ _ _ e2
  have f0 := frozen_of_row w2 (w.heap.size + 1) 0 _ _ e2
  have f1 := frozen_of_row w2 (w.heap.size + 1) 1 _ _ e2
  simp at z0 z1 y0 y1
  have hww : (w.alloc (.cells #[.int .i64 (tm : Int), .slice a0 l.length c0] 133)).alloc (.cells #[.int .i64 0, .slice none 0 0] 133) = w2 := by rw [hw1, hw2]
  have hs2 : w2.heap.size = w.heap.size + 2 := by rw [← hw2]; simp [hs1]
  have HR := Lib.hid (And.intro (h.keep (hk1.trans hk2) (by simp)) (And.intro e1 (And.intro e2 (And.intro (hk1.trans hk2) (And.intro hnd (And.intro hs2 hb))))))
  have h0 := Lib.hid (show ∀ b, (Value.slice a0 l.length c0).ownBlock = some b → b < w.heap.size from fun b hb => (h.lt b hb).2.1)
  clear h hk1 hk2 hs1 e1 e2 hw1 hw2 hs2 hb hnd
  go_enter Try.func69, Try.ntmps69
  go_wp2
  go_loopw [7] (fun vi wr => ∃ (i : Nat), i ≤ l.length ∧ vi = .int .i64 (i : Int) ∧ wr = w2 ∧ Hid (∀ p ∈ l.take i, p.1 ≠ n)) (fun vi _ => l.length - (intOf vi).toNat)
  case atStart => exact ⟨0, by omega, rfl, by first | rfl | exact hww, Lib.hid (by simp)⟩
  case round =>
    clear hww
    obtain ⟨i, hi, rfl, rfl, HN⟩ := hrel
    by_cases hil : i < l.length
    · obtain ⟨g, rfl, -, q⟩ := RowE.cells dueLies HR.out.1 hil
      obtain ⟨n1, hn1⟩ : ∃ n1, l[i].1 = n1 := ⟨_, rfl⟩
      obtain ⟨t1, ht1⟩ : ∃ t1, l[i].2 = t1 := ⟨_, rfl⟩
      have x0 := q 0 (.int .i64 n1) (by rw [← hn1]; rfl)
      have x1 := q 1 (.int .i64 (t1 : Int)) (by rw [← ht1]; rfl)
      rw [Nat.add_zero] at x0
      clear q
      by_cases hne : n1 = n
      · subst hne
        have hmem : l[i] ∈ l := List.getElem_mem hil
        have hsp : l = l.take i ++ l[i] :: l.drop (i + 1) := by rw [← List.drop_eq_getElem_cons hil, List.take_append_drop]
        have hd : dropD n1 l = l.take i ++ l.drop (i + 1) := by
          have hnd := HR.out.2.2.2.2.1
          have h2 : ∀ p ∈ l.drop (i + 1), p.1 ≠ n1 := fun p hp e => by
            rw [hsp, List.map_append, List.map_cons, List.nodup_append] at hnd
            have := (List.nodup_cons.1 hnd.2.1).1
            exact this (List.mem_map.2 ⟨p, hp, by rw [e, hn1]⟩)
          have e1 : dropD n1 (l.take i ++ l[i] :: l.drop (i + 1)) = l.take i ++ l.drop (i + 1) := by
            unfold dropD
            rw [List.filter_append, List.filter_cons, if_neg (by simp [hn1])]
            congr 1
            · rw [List.filter_eq_self]
              intro p hp
              simpa using HN.out p hp
            · rw [List.filter_eq_self]
              intro p hp
              simpa using h2 p hp
          rw [← hsp] at e1
          exact e1
        have hwd : wasD { time := tm, ths := l } n1 = (t1, true) := by
          unfold wasD
          have : l.find? (fun p => p.1 == n1) = some l[i] := by
            have e1 : (l.take i ++ l[i] :: l.drop (i + 1)).find? (fun p => p.1 == n1) = some l[i] := by
              rw [List.find?_append, List.find?_eq_none.2 (fun p hp => by simpa using HN.out p hp), Option.none_or, List.find?_cons_of_pos (by simp [hn1])]
            rw [← hsp] at e1
            exact e1
          simp only [this, ht1]
        have HD := Lib.hid (And.intro hd hwd)
        have hgw := HR.out.1.lt g rfl
        have hpre := HR.out.1.pre dueLies (i := i) (by omega)
        have hsuf := HR.out.1.suf_cut dueLies (i := i + 1) (by omega) HR.out.1.cap.1
        obtain ⟨hcap, hcap2⟩ := HR.out.1.cap
        have hic : i ≤ c0 := by omega
        have hic1 : (0 : Int) ≤ (i : Int) + 1 := by omega
        have hic2 : (i : Int) + 1 ≤ (l.length : Int) := by omega
        have HPS := Lib.hid (And.intro hpre (And.intro hsuf hgw))
        clear hmem hsp hd hwd hn1 ht1 hpre hsuf hgw HN
        have hi1 : IntKind.i64.wrap ((i : Int) + 1) = (i : Int) + 1 := i64_wrap (by omega) (by omega)
        go_upto_region 6 with fail
        refine wp_region_hisG (Since wr) (Since.tr _) (Since.rf _) [0, 5, 11, 13] (fun _ => 0) (by kernel_rfl) (by kernel_rfl) ?_
        intro wx hkx hhx
        have p1 : ∀ w', Since wr wx w' → w'.cell? ⟨w.heap.size, 1, none⟩ = some (.slice (some ⟨g, 0, none⟩) l.length c0) := fun w' h' => (h' hkx).cell (by simp) z1
        clear z0 z1 x0 x1 y0 y1 f0 f1 hhx
        (refine his_l rfl rfl (fun K hK => ?_); go_simp)
        refine hK _ _ (fun h => h.alloc _) ?_
        clear hK K
        have hA := (Keep.refl [] wx).alloc (.cells #[] 145)
        have hb5 := heap_alloc_new wx (.cells #[] 145)
        obtain ⟨w5, hw5⟩ : ∃ w5, wx.alloc (.cells #[] 145) = w5 := ⟨_, rfl⟩
        try rw [hw5]
        rw [hw5] at hA hb5
        (repeat (first | (refine his_q rfl rfl (fun K hK => ?_); apply Exists.intro; refine ⟨fun w' hC => ?_, ?_⟩; ((try simp [Sg.upd] at hC); go_simp <;> rfl); go_simp; refine hK _ _ ?_; clear hK K) | (refine his_s rfl (fun K hK => ?_); go_simp; refine hK _ _ ?_; clear hK K)))
        have hsx := hkx.size
        have hs5 := hA.size
        have hswr : wr.heap.size = w.heap.size + 2 := HR.out.2.2.2.2.2.1
        have hbw := HR.out.2.2.2.2.2.2
        obtain ⟨v6, w6, hrun6, hO6, hk6, hloc6⟩ := run_append_seg (P := Try.prog) (ty := 131) dueLies Try.underlying131 rdue_infoF rfl (by decide) (by decide) wx.heap.size (rdueE_nil (base := wx.heap.size) hb5 (Nat.le_refl _)) ((HPS.out.1.keep hkx).keep hA) (by simp; omega) hs5
        have hk56 : Keep [] wr w6 := (hkx.trans hA).trans' hk6 (fun b hb => .inr (by simp [Value.ownBlock] at hb; omega))
        refine his_l rfl rfl (fun K hK => ?_)
        refine loudly_append_run (.tmp 30) (.tmp 34) 131 rfl rfl rfl hrun6 ?_
        refine hK _ _ (fun _ => hk56) ?_
        clear hK K hrun6
        go_simp
        (repeat (first | (refine his_q rfl rfl (fun K hK => ?_); apply Exists.intro; refine ⟨fun w' hC => ?_, ?_⟩; ((try simp [Sg.upd] at hC); go_simp <;> rfl); go_simp; refine hK _ _ ?_; clear hK K) | (refine his_s rfl (fun K hK => ?_); go_simp; refine hK _ _ ?_; clear hK K)))
        have hs6 := hk56.size
        obtain ⟨v7, w7, hrun7, hO7, hk7, hloc7⟩ := run_append_seg (P := Try.prog) (ty := 131) dueLies Try.underlying131 rdue_infoF rfl (by decide) (by decide) wx.heap.size hO6 (HPS.out.2.1.keep hk56) (by simp; omega) (by have := hk6.size; omega)
        have hk57 : Keep [] wr w7 := hk56.trans' hk7 (fun b hb => .inr (by rw [Option.mem_toList] at hb; have := (hO6.lt b hb).1; omega))
        refine his_l rfl rfl (fun K hK => ?_)
        refine loudly_append_run (.tmp 35) (.tmp 40) 131 rfl rfl rfl hrun7 ?_
        refine hK _ _ (fun _ => hk57) ?_
        clear hK K hrun7
        go_simp
        (repeat (first | (refine his_q rfl rfl (fun K hK => ?_); apply Exists.intro; refine ⟨fun w' hC => ?_, ?_⟩; ((try simp [Sg.upd] at hC); go_simp <;> rfl); go_simp; refine hK _ _ ?_; clear hK K) | (refine his_s rfl (fun K hK => ?_); go_simp; refine hK _ _ ?_; clear hK K)))
        have e1 := hk57.blk (by simp) HR.out.2.1
        have e2 := hk57.blk (by simp) HR.out.2.2.1
        have z1 := cell_of_row w7 _ 1 _ _ _ e1
        have f1 := frozen_of_row w7 w.heap.size 1 _ _ e1
        simp at z1
        obtain ⟨a7, c7, ev7⟩ := hO7.form
        obtain ⟨n7, hn7⟩ : ∃ n7, (l.take i ++ l.drop (i + 1)).length = n7 := ⟨_, rfl⟩
        have ev7' : v7 = .slice a7 n7 c7 := ev7.trans (by rw [← hn7]; rfl)
        clear ev7 hn7
        subst ev7'
        (refine his_last rfl (by kernel_rfl) rfl (fun K hK => ?_); go_simp)
        refine hK _ _ ?_
        clear hK K
        refine his_nil ?_
        try simp only [Act.put]
        have g1 := heap_setCell_same w7 w.heap.size 1 _ _ (.slice a7 n7 c7) e1
        have g2 := (heap_setCell_other w7 ⟨w.heap.size, 1, none⟩ (w.heap.size + 1) (.slice a7 n7 c7) (by simp)).trans e2
        obtain ⟨w8, hw8⟩ : ∃ w8, w7.setCell ⟨w.heap.size, 1, none⟩ (.slice a7 n7 c7) = w8 := ⟨_, rfl⟩
        rw [hw8] at g1 g2 ⊢
        have a0' := cell_of_row w8 _ 0 _ _ _ g1
        have a1' := cell_of_row w8 _ 1 _ _ _ g1
        have y0 := cell_of_row w8 _ 0 _ _ _ g2
        have y1 := cell_of_row w8 _ 1 _ _ _ g2
        have f20 := frozen_of_row w8 (w.heap.size + 1) 0 _ _ g2
        have f21 := frozen_of_row w8 (w.heap.size + 1) 1 _ _ g2
        simp at a0' a1' y0 y1
        have hk78 : Keep [w.heap.size] w7 w8 := by rw [← hw8]; exact (Keep.refl _ _).setCell (.inl (by simp)) _
        have g3 := heap_setCell_same _ (w.heap.size + 1) 1 _ _ (.slice a7 n7 c7) (heap_setCell_same _ (w.heap.size + 1) 0 _ _ (.int .i64 (tm : Int)) g2)
        have hkf : Keep [] w w7 := HR.out.2.2.2.1.trans hk57
        have HF := Lib.hid (And.intro g3 (And.intro hO7 (And.intro hk78 (And.intro hkf (show w.heap.size + 2 ≤ wx.heap.size by omega)))))
        clear g1 g2 g3 hO7 hk78 hkf hw8 z1 f1 e1 e2 hk57 hk56 hk6 hk7 hloc6 hloc7 hO6 hb5 hA hw5 p1 hkx
        go_wp2
        all_goals (
          refine bodyPost_ret (results3_rowW rfl _ _ (w.heap.size + 1) 133 _ _ _ rfl HF.out.1 Try.underlying133 rfl (by kernel_rfl)) rfl ?_
          refine ⟨.slice a7 n7 c7, ?_, ?_, ?_⟩
          · rw [HD.out.2]
            rfl
          · rw [HD.out.1]
            refine (((HF.out.2.1.lower (by omega)).keep HF.out.2.2.1 (fun b hb => ?_)).keep (((Keep.refl [w.heap.size + 1] _).setCell (.inl (by simp)) _).setCell (.inl (by simp)) _) (fun b hb => ?_))
            · have h1 := (HF.out.2.1.lt b hb).1
              have h2 := HF.out.2.2.2.2
              simp
              omega
            · have h1 := (HF.out.2.1.lt b hb).1
              have h2 := HF.out.2.2.2.2
              simp
              omega
          · exact ((HF.out.2.2.2.1.trans' HF.out.2.2.1 (fun b hb => .inr (by simp at hb; omega))).setCell (.inr (by simp)) _).setCell (.inr (by simp)) _)
      · have HH := Lib.hid (show ∀ p ∈ l.take (i + 1), p.1 ≠ n from fun p hp => by
          rw [List.take_succ_eq_append_getElem hil, List.mem_append, List.mem_singleton] at hp
          rcases hp with hp | rfl
          · exact HN.out p hp
          · rw [hn1]
            exact hne)
        clear HN
        go_wp2
        go_roundw
        case rel => exact ⟨i + 1, by omega, by go_num, by first | rfl | trivial, HH⟩
        case measure => simp [intOf]; omega
    · have hna : ∀ p ∈ l, p.1 ≠ n := fun p hp => HN.out p (by rw [List.take_of_length_le (by omega)]; exact hp)
      have hd : dropD n l = l := by
        unfold dropD
        rw [List.filter_eq_self]
        intro p hp
        simpa using hna p hp
      have hwd : wasD { time := tm, ths := l } n = (0, false) := by
        unfold wasD
        have : l.find? (fun p => p.1 == n) = none := by
          rw [List.find?_eq_none]
          intro p hp
          simpa using hna p hp
        simp only [this]
      have g1 := heap_setCell_same _ (w.heap.size + 1) 1 _ _ (.slice a0 l.length c0) (heap_setCell_same _ (w.heap.size + 1) 0 _ _ (.int .i64 (tm : Int)) HR.out.2.2.1)
      have HG := Lib.hid (And.intro g1 (And.intro hd hwd))
      clear g1 hna hd hwd HN
      go_wp2
      refine bodyPost_ret (results3_rowW rfl _ _ (w.heap.size + 1) 133 _ _ _ rfl HG.out.1 Try.underlying133 rfl (by kernel_rfl)) rfl ?_
      refine ⟨.slice a0 l.length c0, ?_, ?_, ?_⟩
      · rw [HG.out.2.2]
        rfl
      · rw [HG.out.2.1]
        exact HR.out.1.keep (((Keep.refl [w.heap.size + 1] _).setCell (.inl (by simp)) _).setCell (.inl (by simp)) _) (fun b hb => by
          have := (h0.out b hb)
          simp
          omega)
      · exact (HR.out.2.2.2.1.setCell (.inr (by simp)) _).setCell (.inr (by simp)) _
end Go.Proofs.Ytjkjiabfhhnngaa
