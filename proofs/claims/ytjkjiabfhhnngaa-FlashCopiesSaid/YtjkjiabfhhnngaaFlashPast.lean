import Derived.Outline
import Derived.Test.YtjkjiabfhhnngaaFlash10
import Derived.Test.YtjkjiabfhhnngaaRange5
import Derived.Stop.RegionWithIn
import Derived.Test.YtjkjiabfhhnngaaFlashA
/-! The walk of flash's given and Past. -/
namespace Go.Proofs.Ytjkjiabfhhnngaa
open Go.RowKit Go.Shelf Sg
attribute [local go_sem] Oper.semAt_some
set_option linter.unusedSimpArgs false
set_option linter.unusedVariables false

def GEnc (base : Nat) (T : List Nat) (x : List UInt8) (args : Array Value) (W : World) : Prop := ∃ v, args = #[v] ∧ OwnB W base 5 v x ∧ ∀ b, v.ownBlock = some b → b ∉ T

theorem given_any (g : Nat) (a : Int) (w : World) : Calls Try.prog 95 #[.pointer (some ⟨g, 0, none⟩), .int .i64 a] w fun e w' => e = .returned (.func (.func 128) #[] #[.pointer (some ⟨w.heap.size, 0, none⟩), .pointer (some ⟨w.heap.size + 1, 0, none⟩)]) ∧
    Keep [] w w' ∧ w'.heap[w.heap.size]? = some (.cells #[.pointer (some ⟨g, 0, none⟩)] 24 (0, 0)) ∧ w'.heap[w.heap.size + 1]? = some (.cells #[.int .i64 a] 3 (0, 0)) ∧ w'.heap.size = w.heap.size + 2 := by
  have h1 := heap_alloc_new w (.cells #[.pointer (some ⟨g, 0, none⟩)] 24)
  have h2 := heap_alloc_new (w.alloc (.cells #[.pointer (some ⟨g, 0, none⟩)] 24)) (.cells #[.int .i64 a] 3)
  have k2 := (Keep.refl [] (w.alloc (.cells #[.pointer (some ⟨g, 0, none⟩)] 24))).alloc (.cells #[.int .i64 a] 3)
  rw [World.size_alloc] at h2
  have k1 := ((Keep.refl [] w).alloc (.cells #[.pointer (some ⟨g, 0, none⟩)] 24)).trans k2
  have H := Lib.hid (And.intro k1 (And.intro (k2.blk (by simp) h1) h2))
  clear h1 h2 k1 k2
  go_enter Try.func95, Try.ntmps95
  go_wp2
  go_ret
  exact ⟨rfl, H.out.1, H.out.2.1, H.out.2.2, by simp⟩

theorem ownB_floor {w : World} {base : Nat} {e : TypeId} {v : Value} {l : List UInt8} (h : OwnB w base e v l) {b : Nat} (hb : v.ownBlock = some b) : base ≤ b := by
  rcases h.2 with ⟨rfl, -⟩ | ⟨g, cap, cur, rfl, h1, h2, -⟩
  · simp [Value.ownBlock] at hb
  · simp [Value.ownBlock] at hb
    subst hb
    exact h1
theorem DevAt.pastR {W : World} {D : List Nat} {g : Nat} {m : Dev} {fm pm : Nat} {lv : Value} {fv pv : Nat → Option Value} (h : DevAt W D g m fm pm lv fv pv) (a : Nat) (ha : a < m.past.length) : PastR W D ((pv a).getD (.slice none 0 0)) m.past[a] := by
  have hp := h.pasts a ha
  cases hq : pv a with
  | none =>
    rw [hq] at hp
    have e : m.past[a] = [] := hp
    rw [e]
    exact ⟨[], World.ownsRow_nil _ _ _ _, fun b hb => by simp [Value.ownBlock] at hb, rfl, fun i v l h => by simp at h⟩
  | some v =>
    rw [hq] at hp
    exact hp

set_option maxRecDepth 100000 in
set_option maxHeartbeats 1000000 in
set_option maxHeartbeats 4000000 in
theorem given1_iter (B1 B2 g base : Nat) (D : List Nat) (m : Dev) (hw : m.Wf) (fm pm : Nat) (lv : Value) (fv pv : Nat → Option Value) (k : Int) (hacts : m.acts ≤ 1000000000) :
    Iter5 Try.prog 128 #[.pointer (some ⟨B1, 0, none⟩), .pointer (some ⟨B2, 0, none⟩)] (GEnc base) (m.pasts k)
      (fun W => DevAt W D g m fm pm lv fv pv ∧ W.heap[B1]? = some (.cells #[.pointer (some ⟨g, 0, none⟩)] 24 (0, 0)) ∧ W.heap[B2]? = some (.cells #[.int .i64 k] 3 (0, 0)) ∧ base ≤ W.heap.size) (fun _ => True) [] := by
  intro n l J Jx hRd hJ hJx hG hY W h0 _ _
  obtain ⟨h, b1, b2, hbase⟩ := hRd _ _ _ h0
  obtain ⟨w1, hw1⟩ : ∃ w1, W.alloc (.cells #[.func (.yield l) #[] #[]] 242) = w1 := ⟨_, rfl⟩
  have hA : Keep [] W w1 := by rw [← hw1]; exact (Keep.refl [] W).alloc _
  have hX : w1.heap[W.heap.size]? = some (.cells #[.func (.yield l) #[] #[]] 242 (0, 0)) := by rw [← hw1]; exact heap_alloc_new W _
  have hJ1 := hJ _ _ _ _ (hA.mono (by simp)) (hG _ _ _ W.heap.size (Nat.le_refl _) h0)
  have ht := there_any w1 g m fm pm lv (h.rowD.keep hA (by simp)) k
  have x1 := cell_of_one (hA.blk (by simp) b1)
  have x2 := cell_of_one (hA.blk (by simp) b2)
  have H := Lib.hid h
  have HB := Lib.hid (And.intro b1 b2)
  have HA := Lib.hid hA
  have HX := Lib.hid hX
  have HJ1 := Lib.hid hJ1
  clear h b1 b2 hA hX hJ1 h0
  refine callsIn_wide.2 (calls_of_marks Try.func128 rfl ?_)
  simp only [Try.ntmps128, List.size_toArray, List.length_cons, List.length_nil, Nat.reduceAdd, Nat.reduceSub, Array.replicate_succ, Array.replicate_zero, List.push_toArray, List.append_toArray, List.nil_append, List.cons_append]
  by_cases hr : 0 ≤ k ∧ k < (m.n : Int)
  · rw [decide_eq_true hr] at ht
    go_wp2_with fail
    refine ht.mono ?_
    rintro e w4 ⟨rfl, rfl⟩
    clear ht hw1
    obtain ⟨a, rfl⟩ : ∃ a : Nat, k = (a : Int) := ⟨k.toNat, by omega⟩
    have han : a < m.n := by omega
    have hap : a < m.past.length := by rw [hw.pl]; exact han
    have hn2 := hw.n2
    have hPR : PastR w1 D ((pv a).getD (.slice none 0 0)) m.past[a] := (H.out.pastR a hap).keep HA.out (by simp)
    obtain ⟨pa, pc, hpv⟩ := hPR.form
    rw [hpv] at hPR
    have hplen := (hw.ps a hap).1
    go_wp2_with fail
    refine wp_region_his [] [6] (fun _ => 0) (by kernel_rfl) (by kernel_rfl) ?_
    intro w2 hk2 hh
    clear hh x1 x2
    have x1 := fun w' (h : Keep [] w2 w') => cell_of_one ((HA.out.trans (hk2.trans h)).blk (by simp) HB.out.1)
    have x2 := fun w' (h : Keep [] w2 w') => cell_of_one ((HA.out.trans (hk2.trans h)).blk (by simp) HB.out.2)
    have c4 := fun w' (h : Keep [] w2 w') => (H.out.rowD.keep (HA.out.trans (hk2.trans h)) (by simp)).c4
    have hl := fun w' (h : Keep [] w2 w') => (H.out.past.keep (HA.out.trans (hk2.trans h)) (by simp)).look Try.underlying3 Try.underlying170 (zeroRows w') a (by omega)
    rw [hpv] at hl
    (repeat (first | (refine his_q rfl rfl (fun K hK => ?_); apply Exists.intro; refine ⟨fun w' hC => ?_, ?_⟩; ((try simp [Sg.upd] at hC); go_simp <;> rfl); go_simp; refine hK _ _ ?_; clear hK K) | (refine his_s rfl (fun K hK => ?_); go_simp; refine hK _ _ ?_; clear hK K)))
    (refine his_l rfl rfl (fun K hK => ?_); go_simp)
    refine (backP_any _ _ _ _).mono ?_
    rintro e w3 ⟨rfl, hw3⟩
    have hk3 : Keep [] w2 w3 := by rw [← hw3]; exact (Keep.refl [] w2).alloc _
    have hX3 : w3.heap[w2.heap.size]? = some (.cells #[.slice pa m.past[a].length pc] 56 (0, 0)) := by rw [← hw3]; exact heap_alloc_new _ _
    have hs3 : w3.heap.size = w2.heap.size + 1 := by rw [← hw3]; simp
    refine hK _ _ hk3 ?_
    clear hK K hw3 x1 x2 c4 hl
    refine his_nil ?_
    have hJ3 := hJ _ _ _ _ (hk3.mono (by simp)) (hG _ _ _ w2.heap.size (Nat.le_refl _) (hJ _ _ _ _ (hk2.mono (by simp)) HJ1.out))
    have HJ3 := Lib.hid hJ3
    have HK13 := Lib.hid (hk2.trans hk3)
    have HX3 := Lib.hid hX3
    have HS3 := Lib.hid hs3
    have HPV := Lib.hid hpv
    clear hk2 hk3 hX3 hs3 hPR hpv hJ3
    go_wp2_with fail
    have hpst : m.pasts (a : Int) = m.past[a].reverse ++ [List.replicate m.sz 0] := by
      unfold Dev.pasts
      rw [if_pos hr, Int.toNat_natCast, List.getD_eq_getElem?_getD, List.getElem?_eq_getElem hap, Option.getD_some]
    have HPS := Lib.hid hpst
    clear hpst
    have hWs : W.heap.size < w3.heap.size := by have := HK13.out.size; have := (Array.getElem?_eq_some_iff.1 HX.out).1; omega
    have hWs2 : w2.heap.size < w3.heap.size := by have := HS3.out; omega
    refine wp_range5 (n := 3) (gf := 156) (lb := #[.pointer (some ⟨w2.heap.size, 0, none⟩)]) rfl (enters_of Try.func156 (by kernel_rfl) rfl)
      (T0 := []) (by simp) (backP_iter w2.heap.size D (.slice pa m.past[a].length pc) m.past[a] (by omega) (fun p hp => by have := (hw.ps a hap).2 p hp; have := hw.s2; omega)).five
      ?hEnc (fun T x args W h => by obtain ⟨_, _, rfl, -⟩ := h; rfl)
      (fun T pre W' => J (T ++ [w3.heap.size, w2.heap.size, W.heap.size]) pre W' ∧ W'.heap[W.heap.size]? = some (.cells #[.func (.yield l) #[] #[]] 242 (0, 0)) ∧ W'.heap[w2.heap.size]? = some (.cells #[.slice pa m.past[a].length pc] 56 (0, 0)) ∧ W.heap.size ∉ T ∧ w2.heap.size ∉ T)
      (fun c T pre W' => c = .ret ∧ Jx (T ++ [w3.heap.size, w2.heap.size, W.heap.size]) pre W')
      ?hRd (fun _ _ => trivial) ?hI ?hIx ?hG ?h0
      (fun args B0 => { tmps := #[.func (.yield l) #[] #[], .pointer (some ⟨B1, 0, none⟩), .pointer (some ⟨B2, 0, none⟩), .pointer (some ⟨W.heap.size, 0, none⟩), undef, args.getD 1 undef, .pointer (some ⟨g, 0, none⟩), .bool false, .bool false,
        .pointer (some ⟨g, 0, none⟩), .int .i64 (a : Int), .bool true, .bool false, .bool false, .pointer (some ⟨g, 0, none⟩), .pointer (some ⟨g, 0, none⟩), .pointer (some ⟨g, 4, none⟩), .map (some pm), .int .i64 (a : Int), .slice pa m.past[a].length pc,
        .func (.func 156) #[] #[.pointer (some ⟨w2.heap.size, 0, none⟩)], args.getD 0 undef, args.getD 1 undef, undef, undef, undef, undef, undef, undef, undef, undef, undef, undef, undef, undef], defers := [] })
      (fun x args B0 W => True) (fun _ _ _ _ _ _ _ _ => trivial)
      ?hassign ?hbody ?hdone ?hstop
    case hEnc =>
      rintro T x args W' W'' k' ⟨i, v, rfl, h1, h2⟩
      refine ⟨i, v, rfl, h1.keep k' (fun b hb hm => ?_), h2⟩
      have h3 := H.out.lt _ (h2 b hb)
      simp at hm
      omega
    case hRd =>
      rintro T pre W' ⟨h1, h2, h3, -⟩ hlt
      have hd := (hRd _ _ _ h1).1.pastR a hap
      rw [HPV.out] at hd
      exact ⟨cell_of_one h3, hd⟩
    case hI =>
      rintro T pre W' W'' k' ⟨h1, h2, h3, h4, h5⟩
      exact ⟨hJ _ _ _ _ (k'.mono (fun b hb => List.mem_append_left _ hb)) h1, k'.blk h4 h2, k'.blk h5 h3, h4, h5⟩
    case hIx =>
      rintro c T pre W' W'' k' ⟨rfl, h1⟩
      exact ⟨rfl, hJx _ _ _ _ (k'.mono (fun b hb => List.mem_append_left _ hb)) h1⟩
    case hG =>
      rintro T pre W' b hb ⟨h1, h2, h3, h4, h5⟩
      have q2 := (Array.getElem?_eq_some_iff.1 h2).1
      have q3 := (Array.getElem?_eq_some_iff.1 h3).1
      refine ⟨hG _ _ _ _ hb h1, h2, h3, fun hm => ?_, fun hm => ?_⟩
      · rcases List.mem_cons.1 hm with e | hm
        · omega
        · exact h4 hm
      · rcases List.mem_cons.1 hm with e | hm
        · omega
        · exact h5 hm
    case h0 =>
      intro W' k'
      refine ⟨hJ _ _ _ _ (k'.mono (by simp)) (hG _ _ _ (w3.heap.size + 1) (by omega) (hG _ _ _ w3.heap.size (Nat.le_refl _) HJ3.out)), (HK13.out.trans k').blk (by simp) HX.out, k'.blk (by simp) HX3.out, ?_, ?_⟩
      · simp; omega
      · simp; omega
    case hassign =>
      rintro T x args W' K ⟨i, v, rfl, h1, h2⟩ hlt hK
      have hK2 := hK W' (Keep.refl _ _) trivial
      clear hK
      gi_wp2
      exact hK2
    case hbody =>
      rintro T pre x args B0 W' hpre ⟨hj, hy3, hp3, hn1', hn2'⟩ ⟨i, v, rfl, h1, h2⟩ _ hB0 hTs hlT hDT ⟨r, hL⟩ hD
      have hx2 : x.length = m.sz := by
        have := hpre.subset (show x ∈ pre ++ [x] by simp)
        exact (hw.ps a hap).2 x (by simpa using this)
      have s2 := hw.s2
      have hbv := h1.bytes (by omega)
      have y3 := cell_of_one hy3
      have hbs := (hRd _ _ _ hj).2.2.2
      have hpx : pre ++ [x] <+: m.pasts (a : Int) := by rw [HPS.out]; exact hpre.trans (List.prefix_append _ _)
      have hall : ∀ b ∈ (T ++ [w3.heap.size + 1]) ++ [w3.heap.size, w2.heap.size, W.heap.size], b < W'.heap.size := by
        intro b hb
        rcases List.mem_append.1 hb with hb | hb
        · exact hTs b hb
        · have h6 := (Array.getElem?_eq_some_iff.1 hL).1
          simp at hb
          omega
      obtain ⟨TT, hTT⟩ : ∃ TT, (T ++ [w3.heap.size + 1]) ++ [w3.heap.size, w2.heap.size, W.heap.size] = TT := ⟨_, rfl⟩
      rw [hTT] at hj hall
      have HTT := Lib.hid hTT
      have HALL := Lib.hid hall
      have HJ := Lib.hid hj
      have HY3 := Lib.hid hy3
      have HP3 := Lib.hid hp3
      have HLD := Lib.hid (And.intro hL hD)
      have HPX := Lib.hid hpx
      have HBS := Lib.hid hbs
      have hn1 : W.heap.size ∉ T := fun hm => hn1' (List.mem_append_left _ hm)
      have hn2a : w2.heap.size ∉ T := fun hm => hn2' (List.mem_append_left _ hm)
      have HNN := Lib.hid (And.intro hn1 hn2a)
      have hbvD : Bytes W'.drew v x := hbv.keep ((Keep.refl [] W').drew) (by simp)
      have hkD : Keep [] W' W'.drew := (Keep.refl [] W').drew
      have HBD := Lib.hid (And.intro hbvD hkD)
      clear hj hy3 hp3 hL hD hbv hpx h1 h2 hbs hall hTT hbvD hkD hTs hlT hDT hn1 hn2' hn1' hn2a
      gi_wp2_with fail
      gi_region_with (first
        | (refine ⟨trivial, CallsIn.inRound _ (callsIn_wide.2 ((clone_any _ x _ HBD.out.1).mono ?_))⟩
           rintro e w5 ⟨v5, rfl, ho5, hk5⟩
           have hk05 := HBD.out.2.trans hk5
           have hJ5 := hJ _ _ _ _ (hk05.mono (by simp)) HJ.out
           obtain ⟨fn, tmps, assign, body, hy, hR⟩ := hY TT _ x #[v5] w5 HPX.out hJ5 ⟨v5, rfl, ho5.base (by have := HBS.out; have := HBD.out.2.size; omega), fun b hb hm => by
             have q1 := HALL.out b hm
             have q2 := ownB_floor ho5 hb
             have q3 := HBD.out.2.size
             omega⟩ (fun b hb => Nat.lt_of_lt_of_le (HALL.out b hb) hk05.size)
           have HK5 := Lib.hid hk05
           have y5 := cell_of_one (hk05.blk (by simp) HY3.out)
           clear hk5 hk05 hJ5 ho5)
        | (refine RoundIn.within (hR.mono ?_)
           rintro e W3 ⟨hsame, hor⟩
           obtain ⟨b, rfl, hb⟩ : ∃ b, e = .returned (.bool b) ∧ ((b = true ∧ J TT (pre ++ [x]) W3) ∨ (b = false ∧ Jx TT (pre ++ [x]) W3)) := by
             rcases hor with ⟨rfl, h⟩ | ⟨rfl, h⟩
             · exact ⟨true, rfl, .inl ⟨rfl, h⟩⟩
             · exact ⟨false, rfl, .inr ⟨rfl, h⟩⟩
           clear hor))
      all_goals
        have e1 := hsame (w3.heap.size + 1) (by rw [← HTT.out]; simp)
        have e2 := hsame w3.heap.size (by rw [← HTT.out]; simp)
        have e3 := hsame w2.heap.size (by rw [← HTT.out]; simp)
        have e4 := hsame W.heap.size (by rw [← HTT.out]; simp)
        have e5 : ∀ b ∈ T, W3.heap[b]? = w5.heap[b]? := fun b hm => hsame b (by rw [← HTT.out]; simp [hm])
        have back : ∀ b, b < W'.heap.size → w5.heap[b]? = W'.heap[b]? := fun b hb => HK5.out.block b hb (by simp)
        have HE := Lib.hid (And.intro (e1.trans (back _ (HALL.out _ (by rw [← HTT.out]; simp)))) (And.intro (e2.trans (back _ (HALL.out _ (by rw [← HTT.out]; simp)))) (And.intro (e3.trans (back _ (HALL.out _ (by rw [← HTT.out]; simp)))) (And.intro (e4.trans (back _ (HALL.out _ (by rw [← HTT.out]; simp)))) (fun b hm => (e5 b hm).trans (back _ (HALL.out _ (by rw [← HTT.out]; simp [hm]))))))))
        clear e1 e2 e3 e4 e5 back hsame hy hR y5
        rcases hb with ⟨rfl, hb⟩ | ⟨rfl, hb⟩
        · have HJ9 := Lib.hid hb
          clear hb
          gi_wp2
          refine ⟨HE.out.1, HE.out.2.1, HE.out.2.2.2.2, by rw [HTT.out]; exact HJ9.out, HE.out.2.2.2.1.trans HY3.out, HE.out.2.2.1.trans HP3.out, ?_, ?_⟩
          · intro hm
            rcases List.mem_append.1 hm with hm | hm
            · exact HNN.out.1 hm
            · simp at hm; omega
          · intro hm
            rcases List.mem_append.1 hm with hm | hm
            · exact HNN.out.2 hm
            · simp at hm; omega
        · have HJ9 := Lib.hid hb
          clear hb
          gi_wp2
          exact ⟨HE.out.1, HE.out.2.1, HE.out.2.2.2.2, rfl, by rw [HTT.out]; exact HJ9.out⟩
    case hdone =>
      rintro T W' ⟨hj, hy3, hp3, hn1, hn2'⟩ hTs hDT hD
      obtain ⟨TT, hTT⟩ : ∃ TT, (T ++ [w3.heap.size + 1]) ++ [w3.heap.size, w2.heap.size, W.heap.size] = TT := ⟨_, rfl⟩
      have hall : ∀ b ∈ TT, b < W'.heap.size := by
        intro b hb
        rw [← hTT] at hb
        rcases List.mem_append.1 hb with hb | hb
        · exact hTs b hb
        · have h6 := (Array.getElem?_eq_some_iff.1 hD).1
          simp at hb
          omega
      have HALL := Lib.hid hall
      rw [hTT] at hj
      obtain ⟨hd, hb1, hb2, hbs⟩ := hRd _ _ _ hj
      have y3 := cell_of_one hy3
      have x1 := cell_of_one hb1
      have c1 := hd.rowD.c1
      have hpx : m.past[a].reverse ++ [List.replicate m.sz 0] <+: m.pasts (a : Int) := by rw [HPS.out]; exact List.prefix_refl _
      have s2 := hw.s2
      have HTT := Lib.hid hTT
      have HJ := Lib.hid hj
      have HD := Lib.hid hD
      have HPX := Lib.hid hpx
      have HBS := Lib.hid hbs
      have HY3 := Lib.hid hy3
      clear hj hy3 hp3 hD hpx hbs hTT hDT hn1 hn2' hd hb1 hb2 hall hTs
      go_wp2_with fail
      refine (wpIn_wide (n := 3)).1 ?_
      obtain ⟨w5, hmk, ho5, hk5⟩ := run_make_bytes (P := Try.prog) (w := W'.drew) 42 5 Try.underlying42 (by kernel_rfl) .i64 .i64 m.sz (by omega) W'.heap.size (Nat.le_refl _)
      rw [show W'.drew.heap.size = W'.heap.size from rfl] at hmk ho5
      have hk05 : Keep [] W' w5 := (Keep.refl [] W').drew.trans hk5
      have hallt : ∀ b ∈ TT, b < W'.heap.size := fun b hb => HALL.out b hb
      obtain ⟨fn, tmps, assign, body, hy, hR⟩ := hY TT _ (List.replicate m.sz 0) #[.slice (some ⟨W'.heap.size, 0, none⟩) m.sz m.sz] w5 HPX.out (hJ _ _ _ _ (hk05.mono (by simp)) HJ.out) ⟨_, rfl, ho5.base HBS.out, fun b hb hm => by
        have q1 := hallt b hm
        have q2 := ownB_floor ho5 hb
        omega⟩ (fun b hb => Nat.lt_of_lt_of_le (hallt b hb) hk05.size)
      have y5 := cell_of_one (hk05.blk (by simp) HY3.out)
      have HK5 := Lib.hid hk05
      clear ho5 hk5 hk05 hallt
      (first
        | gi_region_with
            (refine RoundIn.deep (hR.mono ?_)
             rintro e W3 ⟨hsame, hor⟩
             obtain ⟨b, rfl, hb⟩ : ∃ b, e = .returned (.bool b) ∧ ((b = true ∧ J TT (m.past[a].reverse ++ [List.replicate m.sz 0]) W3) ∨ (b = false ∧ Jx TT (m.past[a].reverse ++ [List.replicate m.sz 0]) W3)) := by
               rcases hor with ⟨rfl, h⟩ | ⟨rfl, h⟩
               · exact ⟨true, rfl, .inl ⟨rfl, h⟩⟩
               · exact ⟨false, rfl, .inr ⟨rfl, h⟩⟩
             clear hor)
        | fail)
      all_goals
        have e2 := (hsame w3.heap.size (by rw [← HTT.out]; simp)).trans (HK5.out.blk (by simp) HD.out)
        have HE2 := Lib.hid e2
        have HS9 : Hid (∀ b ∈ TT, b < W3.heap.size) := Lib.hid (fun b hm => by
          have h1 := Nat.lt_of_lt_of_le (HALL.out b hm) HK5.out.size
          have h2 := hsame b hm
          rw [Array.getElem?_eq_getElem h1] at h2
          exact (Array.getElem?_eq_some_iff.1 h2).1)
        have HB9 := Lib.hid hb
        clear hsame hy hR y5 e2 hb hmk
        go_wp2
        refine leavesM_one HE2.out (results_none rfl _ _ _) ⟨⟨_, rfl⟩, ?_⟩
        rcases HB9.out with ⟨-, hb⟩ | ⟨-, hb⟩
        · exact .inl ⟨TT, by rw [HPS.out]; exact hJ _ _ W3 _ ((Keep.refl _ _).putObj (.inl (by rw [← HTT.out]; simp)) _) hb, fun b hb => by have := HS9.out b hb; simpa using this⟩
        · exact .inr ⟨TT, _, HPX.out, hJx _ _ W3 _ ((Keep.refl _ _).putObj (.inl (by rw [← HTT.out]; simp)) _) hb⟩
    case hstop =>
      rintro c T pre W' hpre ⟨rfl, h1⟩ hDT hD
      go_wp2
      refine leavesM_one hD (results_none rfl _ _ _) ⟨⟨_, rfl⟩, .inr ⟨(T ++ [w3.heap.size + 1]) ++ [w3.heap.size, w2.heap.size, W.heap.size], pre, ?_, ?_⟩⟩
      · rw [HPS.out]
        exact hpre.trans (List.prefix_append _ _)
      · exact hJx _ _ W' _ ((Keep.refl _ _).putObj (.inl (by simp)) _) h1
  · rw [decide_eq_false hr] at ht
    have hp : m.pasts k = [] := if_neg hr
    have HP := Lib.hid hp
    clear hp hr
    go_wp2_with fail
    refine ht.mono ?_
    rintro e w4 ⟨rfl, rfl⟩
    clear ht hw1
    go_wp2
    refine leavesM_nil (results_none rfl _ _ _) ⟨⟨_, rfl⟩, .inl ⟨_, (by rw [HP.out]; exact HJ1.out), fun b hb => ?_⟩⟩
    rw [List.mem_singleton.1 hb]
    exact (Array.getElem?_eq_some_iff.1 HX.out).1
end Go.Proofs.Ytjkjiabfhhnngaa

/-! The walk of flash's Past. -/
namespace Go.Proofs.Ytjkjiabfhhnngaa
open Go.RowKit Go.Shelf Sg
attribute [local go_sem] Oper.semAt_some
set_option linter.unusedSimpArgs false
set_option linter.unusedVariables false

theorem run_append_rowAt {w : World} (base : Nat) {ty : TypeId} {v : Value} {n : Nat} {xs : List Value} (hown : w.ownsRow base 42 1 v n xs) (g : Nat) (u : Value) {fr : Nat × Nat}
    (hg : w.heap[g]? = some (.cells #[u] 42 fr)) (hu : u.oneCell' = true) (hn : n ≤ 1000000000) (hb : base ≤ w.heap.size) :
    ∃ v' w', (Builtin.append_ #[56, 56] ty #[v, .slice (some ⟨g, 0, none⟩) 1 1]).run Try.prog w = .ok v' w' ∧ w'.ownsRow base 42 1 v' (n + 1) (xs ++ [u]) ∧ Keep v.ownBlock.toList w w' ∧ (v'.ownBlock = v.ownBlock ∨ v'.ownBlock = some w.heap.size) := by
  obtain ⟨i, hi1, hz, hs1, hb1⟩ := info_parts (show (Try.prog.info? 42).map (fun i => (i.zero, i.size, i.bytes)) = some (some (.slice none 0 0), 1, 24) by kernel_rfl)
  obtain ⟨v', w', hrun, hown', hgr, -, hloc⟩ := run_append_own_at (P := Try.prog) w base 56 ty 42 i _ 1 24 Try.underlying56 hi1 hz hs1 hb1 rfl (by decide) v n xs hown ⟨g, 0, none⟩ 1 1 [u] (by rfl)
    (fun j x hx => by
      rw [Addr.add_lit, Nat.zero_add, cell_of_row _ _ _ _ _ _ hg]
      match j, hx with
      | 0, hx => exact hx
      | j + 1, hx => simp at hx)
    (by
      intro x hx
      simp at hx
      subst hx
      exact hu) (by simp [maxLen]; omega) (by omega) hb
  exact ⟨v', w', hrun, hown', Keep.grown hgr, hloc⟩

/-- pieces of bytes of the call's own, none in T -/
def PastO (w : World) (base : Nat) (T : List Nat) (v : Value) (ls : List (List UInt8)) : Prop :=
  ∃ vs, w.ownsRow base 42 1 v vs.length vs ∧ vs.length = ls.length ∧ (∀ b, v.ownBlock = some b → b ∉ T) ∧ ∀ (i : Nat) u l, vs[i]? = some u → ls[i]? = some l → OwnB w base 5 u l ∧ ∀ b, u.ownBlock = some b → b ∉ T
theorem PastO.keep {w w' : World} {base : Nat} {T S : List Nat} {v : Value} {ls : List (List UInt8)} (h : PastO w base T v ls) (k : Keep S w w') (hS : ∀ b ∈ S, b ∈ T ∨ b < base) : PastO w' base T v ls := by
  obtain ⟨vs, h1, h2, h3, h4⟩ := h
  have ne : ∀ b, base ≤ b → b ∉ T → b ∉ S := fun b hb hT hm => (hS b hm).elim hT (fun h => by omega)
  refine ⟨vs, ?_, h2, h3, fun i u l hu hl => ⟨(h4 i u l hu hl).1.keep k (fun b hb => ne b (ownB_floor (h4 i u l hu hl).1 hb) ((h4 i u l hu hl).2 b hb)), (h4 i u l hu hl).2⟩⟩
  refine ⟨h1.1, ?_⟩
  rcases h1.2 with hn | ⟨g, cap, cur, rfl, hb, hg, rest⟩
  · exact .inl hn
  · exact .inr ⟨g, cap, cur, rfl, hb, k.blk (ne g hb (h3 g rfl)) hg, rest⟩
theorem row_lt {w : World} {base : Nat} {e : TypeId} {sz n : Nat} {v : Value} {xs : List Value} (h : w.ownsRow base e sz v n xs) {b : Nat} (hb : v.ownBlock = some b) : b < w.heap.size ∧ base ≤ b ∧ ∃ cs, w.heap[b]? = some (.cells cs e (0, 0)) := by
  rcases h.2 with ⟨rfl, -⟩ | ⟨g, cap, cur, rfl, h1, hg, -⟩
  · simp [Value.ownBlock] at hb
  · simp only [Value.ownBlock, Option.some.injEq] at hb
    subst hb
    exact ⟨(Array.getElem?_eq_some_iff.1 hg).1, h1, _, hg⟩
theorem PastO.grow {w : World} {base : Nat} {T : List Nat} {v : Value} {ls : List (List UInt8)} (h : PastO w base T v ls) {b : Nat} (hb : w.heap.size ≤ b) : PastO w base (b :: T) v ls := by
  obtain ⟨vs, h1, h2, h3, h4⟩ := h
  refine ⟨vs, h1, h2, fun b' hb' hm => ?_, fun i u l hu hl => ⟨(h4 i u l hu hl).1, fun b' hb' hm => ?_⟩⟩
  · have := (row_lt h1 hb').1
    rcases List.mem_cons.1 hm with rfl | hm
    · omega
    · exact h3 _ hb' hm
  · have := (row_lt (h4 i u l hu hl).1 hb').1
    rcases List.mem_cons.1 hm with rfl | hm
    · omega
    · exact (h4 i u l hu hl).2 _ hb' hm
theorem PastO.less {w : World} {base : Nat} {T T' : List Nat} {v : Value} {ls : List (List UInt8)} (h : PastO w base T v ls) (hT : ∀ b ∈ T', b ∈ T) : PastO w base T' v ls := by
  obtain ⟨vs, h1, h2, h3, h4⟩ := h
  exact ⟨vs, h1, h2, fun b hb hm => h3 b hb (hT b hm), fun i u l hu hl => ⟨(h4 i u l hu hl).1, fun b hb hm => (h4 i u l hu hl).2 b hb (hT b hm)⟩⟩
theorem rowForm' {w : World} {base : Nat} {e : TypeId} {sz n : Nat} {v : Value} {xs : List Value} (h : w.ownsRow base e sz v n xs) : ∃ a c, v = .slice a n c := by
  rcases h.2 with ⟨rfl, h0⟩ | ⟨g', cap, cur, rfl, -⟩
  · exact ⟨_, _, by rw [h0]⟩
  · exact ⟨_, _, rfl⟩
theorem OwnB.keepRow {w w' : World} {base : Nat} {e : TypeId} {sz n : Nat} {v : Value} {xs : List Value} (h : w.ownsRow base e sz v n xs) (k : Keep [] w w') : w'.ownsRow base e sz v n xs := by
  refine ⟨h.1, ?_⟩
  rcases h.2 with hn | ⟨g, cap, cur, rfl, hb', hg, rest⟩
  · exact .inl hn
  · exact .inr ⟨g, cap, cur, rfl, hb', k.blk (by simp) hg, rest⟩
theorem rowBase {w : World} {base base' : Nat} {e : TypeId} {sz n : Nat} {v : Value} {xs : List Value} (h : w.ownsRow base e sz v n xs) (hb : base' ≤ base) : w.ownsRow base' e sz v n xs := by
  refine ⟨h.1, ?_⟩
  rcases h.2 with hn | ⟨g, cap, cur, rfl, hb', rest⟩
  · exact .inl hn
  · exact .inr ⟨g, cap, cur, rfl, Nat.le_trans hb hb', rest⟩
theorem PastO.base {w : World} {base base' : Nat} {T : List Nat} {v : Value} {ls : List (List UInt8)} (h : PastO w base T v ls) (hb : base' ≤ base) : PastO w base' T v ls := by
  obtain ⟨vs, h1, h2, h3, h4⟩ := h
  exact ⟨vs, rowBase h1 hb, h2, h3, fun i u l hu hl => ⟨(h4 i u l hu hl).1.base hb, (h4 i u l hu hl).2⟩⟩
theorem PastO.form {w : World} {base : Nat} {T : List Nat} {v : Value} {ls : List (List UInt8)} (h : PastO w base T v ls) : ∃ a c, v = .slice a ls.length c := by
  obtain ⟨vs, h1, h2, -⟩ := h
  rcases h1.2 with ⟨rfl, h0⟩ | ⟨g', cap, cur, rfl, -⟩
  · exact ⟨_, _, by rw [← h2, h0]⟩
  · exact ⟨_, _, by rw [← h2]⟩

def PaInv (w : World) (g : Nat) (a : Int) (T : List Nat) (pre : List (List UInt8)) (W : World) : Prop :=
  Keep [] w W ∧ (∀ b ∈ T, w.heap.size + 3 ≤ b) ∧ W.heap[w.heap.size + 1]? = some (.cells #[.pointer (some ⟨g, 0, none⟩)] 24 (0, 0)) ∧ W.heap[w.heap.size + 2]? = some (.cells #[.int .i64 a] 3 (0, 0)) ∧
    w.heap.size + 3 ≤ W.heap.size ∧ ∃ v, W.heap[w.heap.size]? = some (.cells #[v] 56 (0, 0)) ∧ PastO W (w.heap.size + 5) T v pre

set_option maxRecDepth 100000 in
set_option maxHeartbeats 1000000 in
set_option maxHeartbeats 4000000 in
theorem past_any (w : World) (D : List Nat) (g : Nat) (m : Dev) (h : DV w D g m) (hacts : m.acts ≤ 1000000000) (a : Int) :
    Calls Try.prog 35 #[.pointer (some ⟨g, 0, none⟩), .int .i64 a] w fun e w' => ∃ v, e = .returned v ∧ PastO w' w.heap.size [] v (m.pasts a) ∧ Keep [] w w' := by
  obtain ⟨hw, fm, pm, lv, fv, pv, h⟩ := h
  obtain ⟨w1, hw1⟩ : ∃ w1, w.alloc (.cells #[.slice none 0 0] 56) = w1 := ⟨_, rfl⟩
  have hA : Keep [] w w1 := by rw [← hw1]; exact (Keep.refl [] w).alloc _
  have hX : w1.heap[w.heap.size]? = some (.cells #[.slice none 0 0] 56 (0, 0)) := by rw [← hw1]; exact heap_alloc_new w _
  have hs1 : w1.heap.size = w.heap.size + 1 := by rw [← hw1]; simp
  have H := Lib.hid h
  have HX := Lib.hid hX
  have HA := Lib.hid hA
  have HS1 := Lib.hid hs1
  have hlen : (m.pasts a).length ≤ 1000000001 := by
    unfold Dev.pasts
    split
    · by_cases hp : a.toNat < m.past.length
      · have := (hw.ps _ hp).1
        rw [List.getD_eq_getElem?_getD, List.getElem?_eq_getElem hp, Option.getD_some]
        simp
        omega
      · rw [List.getD_eq_getElem?_getD, List.getElem?_eq_none (by omega)]
        simp
    · simp
  clear h hX hA hs1
  refine calls_of_marks Try.func35 rfl ?_
  simp only [Try.ntmps35, List.size_toArray, List.length_cons, List.length_nil, Nat.reduceAdd, Nat.reduceSub, Array.replicate_succ, Array.replicate_zero, List.push_toArray, List.append_toArray, List.nil_append, List.cons_append]
  go_wp2_with fail
  refine (given_any _ _ _).mono ?_
  rintro e w3 ⟨rfl, hk3, hb1, hb2, hs3⟩
  rw [HS1.out] at hb1 hb2 hs3
  have HK3 := Lib.hid (HA.out.trans hk3)
  have HB := Lib.hid (And.intro (hk3.blk (by simp) HX.out) (And.intro hb1 hb2))
  have HS3 := Lib.hid hs3
  clear hk3 hb1 hb2 hs3 hw1
  go_wp2_with fail
  have hb1 : w1.heap.size = w.heap.size + 1 := HS1.out
  have h33 : w3.heap.size = w.heap.size + 3 := by have := HS3.out; omega
  have HH33 := Lib.hid h33
  have HB1 := Lib.hid hb1
  clear hb1 h33
  refine wp_range5 (n := 3) (gf := 128) (lb := #[.pointer (some ⟨w1.heap.size, 0, none⟩), .pointer (some ⟨w1.heap.size + 1, 0, none⟩)]) rfl (enters_of Try.func128 (by kernel_rfl) rfl)
    (T0 := []) (by simp) (given1_iter w1.heap.size (w1.heap.size + 1) g (w.heap.size + 5) D m hw fm pm lv fv pv a hacts)
    ?hEnc (fun T x args W h => by obtain ⟨_, rfl, -⟩ := h; rfl)
    (PaInv w g a) (fun _ _ _ _ => False)
    ?hRd (fun _ _ => trivial) ?hI (fun _ _ _ _ _ _ h => h) ?hG ?h0
    (fun args B0 => { tmps := #[.pointer (some ⟨g, 0, none⟩), .int .i64 a, undef, undef, .slice none 0 0, .pointer (some ⟨w.heap.size, 0, none⟩), args.getD 0 undef, .pointer (some ⟨g, 0, none⟩), .int .i64 a,
      .func (.func 128) #[] #[.pointer (some ⟨w1.heap.size, 0, none⟩), .pointer (some ⟨w1.heap.size + 1, 0, none⟩)], args.getD 0 undef, undef, undef, undef, undef, undef], defers := [] })
    (fun x args B0 W => True) (fun _ _ _ _ _ _ _ _ => trivial)
    ?hassign ?hbody ?hdone ?hstop
  case hEnc =>
    rintro T x args W W' k' ⟨v, rfl, h1, h2⟩
    refine ⟨v, rfl, h1.keep k' (fun b hb hm => ?_), h2⟩
    have h3 := (row_lt h1 hb).2.1
    have h4 := HH33.out
    simp at hm
    omega
  case hRd =>
    rintro T pre W ⟨hk, hT, h1, h2, hs, -⟩ hlt
    refine ⟨H.out.keep0 hk, by rw [HB1.out]; exact h1, by rw [HB1.out]; exact h2, by have := HH33.out; omega⟩
  case hI =>
    rintro T pre W W' k' ⟨hk, hT, h1, h2, hs, v, h3, hp⟩
    have ne : ∀ b, b < w.heap.size + 3 → b ∉ T := fun b hb hm => by have := hT b hm; omega
    exact ⟨hk.trans' k' (fun b hb => .inr (by have := hT b hb; omega)), hT, k'.blk (ne _ (by omega)) h1, k'.blk (ne _ (by omega)) h2, Nat.le_trans hs k'.size, v, k'.blk (ne _ (by omega)) h3, hp.keep k' (fun b hb => .inl hb)⟩
  case hG =>
    rintro T pre W b hb ⟨hk, hT, h1, h2, hs, v, h3, hp⟩
    refine ⟨hk, fun b' hb' => ?_, h1, h2, hs, v, h3, hp.grow hb⟩
    rcases List.mem_cons.1 hb' with rfl | hm
    · omega
    · exact hT _ hm
  case h0 =>
    intro W k'
    refine ⟨HK3.out.trans k', ?_, k'.blk (by simp) HB.out.2.1, k'.blk (by simp) HB.out.2.2, by have := k'.size; have := HH33.out; omega, _, k'.blk (by simp) HB.out.1, [], World.ownsRow_nil _ _ _ _, rfl, fun b hb => by simp [Value.ownBlock] at hb, fun i u l hu => by simp at hu⟩
    intro b hb
    simp at hb
    have := HH33.out
    omega
  case hassign =>
    rintro T x args W K ⟨v, rfl, h1, h2⟩ hlt hK
    have hK2 := hK W (Keep.refl _ _) trivial
    clear hK
    gi_wp2
    exact hK2
  case hbody =>
    rintro T pre x args B0 W hpre ⟨hk, hT, h1, h2, hs, v, h3, hp⟩ ⟨u, rfl, hu, huT⟩ _ hB0 hTs hlT hDT ⟨r, hL⟩ hD
    obtain ⟨va, vc, rfl⟩ := hp.form
    obtain ⟨ua, uc, rfl⟩ := ownsRow_form hu
    obtain ⟨vs, p1, p2, p3, p4⟩ := hp
    have hpl : pre.length + 1 ≤ (m.pasts a).length := by have := hpre.length_le; simpa using this
    have hWs : w.heap.size + 5 ≤ W.heap.size := by have := (Array.getElem?_eq_some_iff.1 hL).1; have := HH33.out; omega
    have hA := (Keep.refl [] W).alloc (.cells #[.slice ua x.length uc] 42)
    rw [p2] at p1
    have p1' : (W.alloc (.cells #[.slice ua x.length uc] 42)).ownsRow (w.heap.size + 5) 42 1 (.slice va pre.length vc) pre.length vs := OwnB.keepRow p1 hA
    obtain ⟨v', w', hrun, hO', hk', hloc⟩ := run_append_rowAt (ty := 56) (w.heap.size + 5) p1' W.heap.size (.slice ua x.length uc) (heap_alloc_new _ _) rfl (by omega) (by have := hA.size; omega)
    obtain ⟨va', vc', rfl⟩ := rowForm' hO'
    have gT := cell_of_one h3
    have fT := free_of_one h3
    have hrb : ∀ b, (Value.slice va pre.length vc).ownBlock = some b → b < W.heap.size ∧ w.heap.size + 5 ≤ b ∧ b ∉ T ++ [w3.heap.size + 1] ∧ ∃ cs, W.heap[b]? = some (.cells cs 42 (0, 0)) := fun b hb => ⟨(row_lt p1 hb).1, (row_lt p1 hb).2.1, p3 b hb, (row_lt p1 hb).2.2⟩
    have hnot : ∀ b, b ∈ T ++ [w3.heap.size + 1] ∨ b < w.heap.size + 5 → b ∉ (Value.slice va pre.length vc).ownBlock.toList := by
      intro b hb hm
      rw [Option.mem_toList] at hm
      obtain ⟨q1, q2, q3, -⟩ := hrb b hm
      rcases hb with hb | hb
      · exact q3 hb
      · omega
    have hkk := (hA.mono (T := (Value.slice va pre.length vc).ownBlock.toList) (by simp)).trans hk'
    have hkeep : Keep [] w w' := hk.trans' hkk (by
      intro b hm
      rw [Option.mem_toList] at hm
      exact .inr (by have := (hrb b hm).2.1; omega))
    have hnew : PastO w' (w.heap.size + 5) (T ++ [w3.heap.size + 1]) (.slice va' (pre.length + 1) vc') (pre ++ [x]) := by
      refine ⟨vs ++ [.slice ua x.length uc], by simpa [p2] using hO', by simp [p2], fun b hb hm => ?_, fun i u' l' hi1 hi2 => ?_⟩
      · rcases hloc with e | e
        · rw [e] at hb
          exact (hrb b hb).2.2.1 hm
        · rw [e] at hb
          cases hb
          have := hTs _ hm
          simp at this
          omega
      · by_cases hlt : i < vs.length
        · rw [List.getElem?_append_left hlt] at hi1
          rw [List.getElem?_append_left (by omega)] at hi2
          refine ⟨(p4 i u' l' hi1 hi2).1.keep hkk (fun b hb hm => ?_), (p4 i u' l' hi1 hi2).2⟩
          rw [Option.mem_toList] at hm
          obtain ⟨cs, hc⟩ := (hrb b hm).2.2.2
          exact (p4 i u' l' hi1 hi2).1.ne_row hc (by decide) hb
        · rw [List.getElem?_append_right (by omega)] at hi1
          rw [List.getElem?_append_right (by omega), ← p2] at hi2
          obtain ⟨hi0, -⟩ := List.getElem?_eq_some_iff.1 hi1
          simp at hi0
          rw [hi0] at hi1 hi2
          simp at hi1 hi2
          subst hi1
          subst hi2
          refine ⟨hu.keep hkk (fun b hb hm => ?_), fun b hb hm => ?_⟩
          · rw [Option.mem_toList] at hm
            obtain ⟨cs, hc⟩ := (hrb b hm).2.2.2
            exact hu.ne_row hc (by decide) hb
          · rcases List.mem_append.1 hm with hm | hm
            · exact huT b hb hm
            · have h9 := (row_lt hu hb).2.1
              have h8 := HH33.out
              simp at hm
              omega
    have same : ∀ b, b < W.heap.size → (b ∈ T ++ [w3.heap.size + 1] ∨ b < w.heap.size + 5) → w'.heap[b]? = W.heap[b]? := fun b hb h => hkk.block b hb (hnot b h)
    have hZ : w'.heap[w.heap.size]? = some (.cells #[.slice va pre.length vc] 56 (0, 0)) := (same _ (by omega) (.inr (by omega))).trans h3
    have h1' := (same _ (by omega) (.inr (by omega))).trans h1
    have h2' := (same _ (by omega) (.inr (by omega))).trans h2
    have hLl := (Array.getElem?_eq_some_iff.1 hL).1
    have hsL := same (w3.heap.size + 1) hLl (.inl (by simp))
    have hsD := same w3.heap.size (by omega) (.inr (by have := HH33.out; omega))
    have hsT : ∀ b ∈ T, w'.heap[b]? = W.heap[b]? := fun b hb => same b (hTs b (List.mem_append_left _ hb)) (.inl (List.mem_append_left _ hb))
    have hws := hkk.size
    have gT2 := cell_of_one hZ
    have fT2 := free_of_one hZ
    have HH := Lib.hid (And.intro hkeep (And.intro hnew (And.intro hZ (And.intro h1' (And.intro h2' (And.intro hsL (And.intro hsD (And.intro hsT (And.intro hT (Nat.le_trans hs hws))))))))))
    have HT := Lib.hid (And.intro hTs (And.intro hlT hDT))
    clear hkeep hnew hZ h1' h2' hsL hsD hsT hT hws same hkk hnot hrb hk' hO' p1 p1' p2 p3 p4 hloc hu huT hA h1 h2 h3 hL hLl hD hk hTs hlT hDT hs
    gi_wp2_with (gi_at_builtin; refine wpListIn_append_run rfl (.tmp 11) (.tmp 13) 56 rfl (v := .slice va pre.length vc) (src := .slice (some ⟨W.heap.size, 0, none⟩) 1 1) (v' := .slice va' (pre.length + 1) vc') (w' := w') rfl rfl hrun ?_)
    have ne : ∀ b, b ∈ T → b ≠ w.heap.size := fun b hb e => by have := HH.out.2.2.2.2.2.2.2.2.1 b (List.mem_append_left _ hb); omega
    refine ⟨(heap_setCell_other _ _ _ _ (by have := HH33.out; simp; omega)).trans HH.out.2.2.2.2.2.1, (heap_setCell_other _ _ _ _ (by have := HH33.out; simp; omega)).trans HH.out.2.2.2.2.2.2.1, fun b hb => (heap_setCell_other _ _ _ _ (by simpa using ne b hb)).trans (HH.out.2.2.2.2.2.2.2.1 b hb), ?_⟩
    refine ⟨HH.out.1.setCell (.inr (Nat.le_refl _)) _, HH.out.2.2.2.2.2.2.2.2.1, (heap_setCell_other _ _ _ _ (by simp)).trans HH.out.2.2.2.1, (heap_setCell_other _ _ _ _ (by simp)).trans HH.out.2.2.2.2.1, by have := HH.out.2.2.2.2.2.2.2.2.2; simpa using this, _, one_setCell HH.out.2.2.1, HH.out.2.1.keep ((Keep.refl [w.heap.size] _).setCell (.inl (by simp)) _) (fun b hb => .inr (by simp at hb; omega))⟩
  case hdone =>
    rintro T W ⟨hk, hT, h1, h2, hs, v, h3, hp⟩ hTs hDT hD
    obtain ⟨va, vc, rfl⟩ := hp.form
    have gT := cell_of_one h3
    have hkk := hk.putObj (l := w3.heap.size) (.inr (by have := HH33.out; omega)) (.deferred none)
    have hpp : PastO (W.putObj w3.heap.size (.deferred none)) w.heap.size [] (.slice va (m.pasts a).length vc) (m.pasts a) := ((hp.keep ((Keep.refl [w3.heap.size] _).putObj (.inl (by simp)) _) (fun b hb => .inr (by have := HH33.out; simp at hb; omega))).base (by omega)).less (by simp)
    have HF := Lib.hid (And.intro hpp (And.intro hkk hD))
    clear hpp hkk hD h1 h2 h3 hp hk
    go_wp2
    exact leavesM_one HF.out.2.2 (results_tmp rfl _ _ _) ⟨.slice va (m.pasts a).length vc, rfl, HF.out.1, HF.out.2.1⟩
  case hstop =>
    rintro c T pre W _ h
    exact h.elim
end Go.Proofs.Ytjkjiabfhhnngaa
