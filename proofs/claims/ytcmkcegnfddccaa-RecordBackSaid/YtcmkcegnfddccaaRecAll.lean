import Derived.Outline
import Derived.Test.YtcmkcegnfddccaaRecIter
import Derived.Test.YtcmkcegnfddccaaApp
/-! The walk of record.All. -/
namespace Go.Proofs.Ytcmkcegnfddccaa
open Go.RowKit Go.Shelf Sg
attribute [local go_sem] Oper.semAt_some
set_option linter.unusedSimpArgs false

def rvals (r : Value × Value × Int) : List Value := [r.1, r.2.1, .int .i64 r.2.2]
/-- records of the call's own, one behind the other -/
def OwnR (w : World) (base : Nat) (e : TypeId) (v : Value) (rs : List (Value × Value × Int)) : Prop := w.ownsRow base e 3 v rs.length (rs.flatMap rvals)
theorem OwnR.nil (w : World) (base : Nat) (e : TypeId) : OwnR w base e (.slice none 0 0) [] := World.ownsRow_nil w base e 3
theorem OwnR.keep {w w' : World} {S : List Nat} {base : Nat} {e : TypeId} {v : Value} {l : List (Value × Value × Int)} (h : OwnR w base e v l) (k : Keep S w w') (hs : ∀ b, v.ownBlock = some b → b ∉ S) : OwnR w' base e v l := by
  refine ⟨h.1, ?_⟩
  rcases h.2 with hn | ⟨g, cap, cur, rfl, hb, hg, rest⟩
  · exact .inl hn
  · exact .inr ⟨g, cap, cur, rfl, hb, k.blk (hs g rfl) hg, rest⟩
theorem run_append_rec {w : World} (base : Nat) {ty : TypeId} {v : Value} {rs : List (Value × Value × Int)} (hown : OwnR w base 30 v rs) (g : Nat) (r : Value × Value × Int) {fr : Nat × Nat}
    (hg : w.heap[g]? = some (.cells #[r.1, r.2.1, .int .i64 r.2.2] 30 fr)) (h1 : r.1.oneCell' = true) (h2 : r.2.1.oneCell' = true) (hn : rs.length ≤ 1000000) (hbase : base ≤ w.heap.size) :
    ∃ v' w', (Builtin.append_ #[35, 35] ty #[v, .slice (some ⟨g, 0, none⟩) 1 1]).run Try.prog w = .ok v' w' ∧ OwnR w' base 30 v' (rs ++ [r]) ∧ Keep v.ownBlock.toList w w' := by
  obtain ⟨i, hi1, hz, hs1, hb1⟩ := info_parts (show (Try.prog.info? 30).map (fun i => (i.zero, i.size, i.bytes)) = some (some (.agg #[.slice none 0 0, .slice none 0 0, .int .i64 0]), 3, 56) by kernel_rfl)
  obtain ⟨v', w', hrun, hown', hgr, -⟩ := run_append_own (P := Try.prog) w base 35 ty 30 i _ 3 56 Try.underlying35 hi1 hz hs1 hb1 rfl (by decide) v rs.length (rs.flatMap rvals) hown ⟨g, 0, none⟩ 1 1 (rvals r) (by rfl)
    (fun j u hu => by
      rw [Addr.add_lit, Nat.zero_add, cell_of_row _ _ _ _ _ _ hg]
      rcases r with ⟨a, b, c⟩
      match j, hu with
      | 0, hu => exact hu
      | 1, hu => exact hu
      | 2, hu => exact hu
      | j + 3, hu => simp [rvals] at hu)
    (by
      intro u hu
      simp [rvals] at hu
      rcases hu with rfl | rfl | rfl
      · exact h1
      · exact h2
      · rfl) (by simp [maxLen]; omega) (by omega) hbase
  refine ⟨v', w', hrun, ?_, Keep.grown hgr⟩
  show World.ownsRow _ _ _ _ _ _ _
  rw [List.length_append, List.flatMap_append]
  simpa using hown'

/-- records in memory: each its key's and its value's bytes, from 'base' on -/
def RecM (W : World) (base : Nat) (rs : List (Value × Value × Int)) (l : List Rc) : Prop :=
  rs.length = l.length ∧ ∀ (i : Nat) r x, rs[i]? = some r → l[i]? = some x → OwnB W base 5 r.1 x.k ∧ OwnB W base 5 r.2.1 x.v ∧ r.2.2 = (x.en : Int) ∧ x.k.length ≤ 1000000 ∧ x.v.length ≤ 1000000
theorem RecM.keep {w w' : World} {S : List Nat} {base : Nat} {rs : List (Value × Value × Int)} {l : List Rc} (h : RecM w base rs l) (k : Keep S w w') (hS : ∀ b ∈ S, b < base ∨ ∃ o, w.heap[b]? = some o ∧ ∀ cs fr, o ≠ .cells cs 5 fr) : RecM w' base rs l := by
  have go : ∀ {v : Value} {x : List UInt8}, OwnB w base 5 v x → OwnB w' base 5 v x := fun {v x} hv => hv.keep k fun b hb hm => by
    rcases hv.2 with ⟨rfl, -⟩ | ⟨g, cap, cur, rfl, hg1, hg, -⟩
    · simp [Value.ownBlock] at hb
    · simp only [Value.ownBlock, Option.some.injEq] at hb
      subst hb
      rcases hS _ hm with h1 | ⟨o, ho, hne⟩
      · omega
      · rw [hg] at ho
        cases ho
        exact hne _ _ rfl
  exact ⟨h.1, fun i r x h1 h2 => ⟨go (h.2 i r x h1 h2).1, go (h.2 i r x h1 h2).2.1, (h.2 i r x h1 h2).2.2⟩⟩
theorem RecM.snoc {w : World} {base : Nat} {rs : List (Value × Value × Int)} {l : List Rc} (h : RecM w base rs l) {k v : Value} {x : Rc} (hk : OwnB w base 5 k x.k) (hv : OwnB w base 5 v x.v) (h1 : x.k.length ≤ 1000000) (h2 : x.v.length ≤ 1000000) :
    RecM w base (rs ++ [(k, v, (x.en : Int))]) (l ++ [x]) := by
  refine ⟨by simp [h.1], fun i r y e1 e2 => ?_⟩
  by_cases hlt : i < rs.length
  · rw [List.getElem?_append_left hlt] at e1
    rw [List.getElem?_append_left (by rw [← h.1]; exact hlt)] at e2
    exact h.2 i r y e1 e2
  · rw [List.getElem?_append_right (by omega)] at e1
    rw [List.getElem?_append_right (by rw [← h.1]; omega), ← h.1] at e2
    obtain ⟨hi0, -⟩ := List.getElem?_eq_some_iff.1 e1
    simp at hi0
    rw [hi0] at e1 e2
    simp at e1 e2
    rw [← e1, ← e2]
    exact ⟨hk, hv, rfl, h1, h2⟩
theorem recsOf_len : ∀ (n : Nat) (l : List UInt8), l.length ≤ n → (recsOf l).length ≤ l.length
  | _, [], _ => by rw [recsOf]; simp
  | 0, x :: l, h => by simp at h
  | n + 1, x :: l, h => by
    rw [recsOf]
    simp only [List.length_cons] at h
    split
    · have := recsOf_len n l (by omega); simp; omega
    · split
      · have := recsOf_len n ((x :: l).drop (13 + qk (x :: l) + qv (x :: l))) (by rw [List.length_drop]; simp; omega)
        rw [List.length_drop] at this
        simp only [List.length_cons] at this ⊢
        omega
      · simp

theorem records_any (ao : Option Addr) (n c : Nat) (w : World) : Calls Try.prog 86 #[.slice ao n c] w fun e w' => e = .returned (.func (.func 117) #[] #[.pointer (some ⟨w.heap.size, 0, none⟩)]) ∧ w.alloc (.cells #[.slice ao n c] 23) = w' := by
  go_enter Try.func86, Try.ntmps86
  go_wp2
  go_ret
  exact ⟨rfl, rfl⟩

theorem own_baseR {w : World} {base : Nat} {e : TypeId} {v : Value} {l : List (Value × Value × Int)} (h : OwnR w base e v l) {b : Nat} (hb : v.ownBlock = some b) : base ≤ b ∧ ∃ cs, w.heap[b]? = some (.cells cs e (0, 0)) := by
  rcases h.2 with ⟨rfl, -⟩ | ⟨g, cap, cur, rfl, h1, h2, -⟩
  · simp [Value.ownBlock] at hb
  · simp [Value.ownBlock] at hb
    subst hb
    exact ⟨h1, _, h2⟩
theorem OwnR.base {w : World} {base base' : Nat} {e : TypeId} {v : Value} {l : List (Value × Value × Int)} (h : OwnR w base e v l) (hb : base' ≤ base) : OwnR w base' e v l := by
  refine ⟨h.1, ?_⟩
  rcases h.2 with hn | ⟨g, cap, cur, rfl, hb', rest⟩
  · exact .inl hn
  · exact .inr ⟨g, cap, cur, rfl, Nat.le_trans hb hb', rest⟩
theorem RecM.base {w : World} {base base' : Nat} {rs : List (Value × Value × Int)} {l : List Rc} (h : RecM w base rs l) (hb : base' ≤ base) : RecM w base' rs l :=
  ⟨h.1, fun i r x h1 h2 => ⟨(h.2 i r x h1 h2).1.base hb, (h.2 i r x h1 h2).2.1.base hb, (h.2 i r x h1 h2).2.2⟩⟩
/-- what the loop of All keeps -/
def AllInv (w : World) (T : Nat) (pre : List Rc) (W : World) : Prop :=
  Keep [] w W ∧ ∃ v rs, W.heap[T]? = some (.cells #[v] 35 (0, 0)) ∧ OwnR W (T + 4) 30 v rs ∧ RecM W (T + 4) rs pre

set_option maxRecDepth 100000 in
set_option maxHeartbeats 1000000 in
theorem all09_any (x : Value) (l : List UInt8) (w : World) (hx : Bytes w x l) (hl : l.length ≤ 1000000) :
    Calls Try.prog 18 #[x] w fun e w' => ∃ v rs, e = .returned v ∧ OwnR w' w.heap.size 30 v rs ∧ RecM w' w.heap.size rs (recsOf l) ∧ Keep [] w w' := by
  obtain ⟨ao, cap, rfl, hlc, hm, hcap⟩ := hx.form
  obtain ⟨T, hT⟩ : ∃ T, w.heap.size = T := ⟨_, rfl⟩
  refine calls_of_marks Try.func18 rfl ?_
  simp only [Try.ntmps18, List.size_toArray, List.length_cons, List.length_nil, Nat.reduceAdd, Nat.reduceSub, Array.replicate_succ, Array.replicate_zero, List.push_toArray, List.append_toArray, List.nil_append, List.cons_append]
  go_wp2_with fail
  refine (records_any _ _ _ _).mono ?_
  rintro e w3 ⟨rfl, hw3⟩
  have hk3 : Keep [] w w3 := by rw [← hw3]; exact ((Keep.refl [] w).alloc _).alloc _
  have hb3 : w3.heap[T]? = some (.cells #[.slice none 0 0] 35 (0, 0)) := by rw [← hw3, ← hT]; exact heap_alloc2_old _ _ _
  have hd3 : w3.heap[T + 1]? = some (.cells #[.slice ao l.length cap] 23 (0, 0)) := by rw [← hw3, ← hT]; exact heap_alloc2_new _ _ _
  have hs3 : w3.heap.size = T + 2 := by rw [← hw3, ← hT]; simp
  clear hw3
  go_wp2_with fail
  have hbx : ∀ W, Keep [] w W → Bytes W (.slice ao l.length cap) l := fun W k => hx.keep k (by simp)
  have hxB : l ≠ [] → (Value.slice ao l.length cap).ownBlock ≠ some (T + 1) := fun h hb => by have := hx.lt h _ hb; omega
  refine wp_range3 (n := 3) (gf := 117) (lb := #[.pointer (some ⟨T + 1, 0, none⟩)]) rfl (enters_of Try.func117 (by kernel_rfl) rfl)
    (T := [T + 1]) (by intro b hb; rw [List.mem_singleton] at hb; omega) (records1_iter (T + 1) (T + 4) (.slice ao l.length cap) l hl)
    (fun x args W W' k h => ?hEnc) (fun x args W h => by obtain ⟨_, _, rfl, -⟩ := h; rfl)
    (AllInv w T) (fun _ _ _ => False)
    ?hRd ?hSt ?hI (fun _ _ _ _ _ h => h) ?h0
    (fun args B0 => { tmps := #[.slice ao l.length cap, undef, .slice none 0 0, .pointer (some ⟨T, 0, none⟩), .pointer (some ⟨B0, 0, none⟩), .slice ao l.length cap, .func (.func 117) #[] #[.pointer (some ⟨T + 1, 0, none⟩)], args.getD 0 undef, undef, undef, undef, undef, undef], defers := [] })
    (fun x args B0 W => ∃ ka kc va vc, args = #[.agg #[.slice ka x.k.length kc, .slice va x.v.length vc, .int .i64 (x.en : Int)]] ∧ W.heap[B0]? = some (.cells #[.slice ka x.k.length kc, .slice va x.v.length vc, .int .i64 (x.en : Int)] 30 (0, 0))) ?hAs
    ?hassign ?hbody ?hdone ?hstop
  case hEnc =>
    obtain ⟨k1, v1, rfl, h1, h2, h3, h4⟩ := h
    rw [hs3] at k
    refine ⟨k1, v1, rfl, h1.keep k ?_, h2.keep k ?_, h3, h4⟩
    · intro b hb hm
      have := own_base h1 hb
      simp at hm
      omega
    · intro b hb hm
      have := own_base h2 hb
      simp at hm
      omega
  case hAs =>
    rintro x args B0 W W' hB k ⟨ka, kc, va, vc, rfl, hx⟩
    exact ⟨ka, kc, va, vc, rfl, k.blk (by simp; omega) hx⟩
  case hRd =>
    rintro pre W ⟨hk, -⟩ hlt
    exact ⟨hbx W hk, by omega, by omega, hxB⟩
  case hSt =>
    rintro W k
    exact k.blk (by simp) hd3
  case hI =>
    rintro pre W W' k ⟨hk, v, rs, hb, hO, hR⟩
    rw [hs3] at k
    refine ⟨hk.ext k (by simp; omega), v, rs, k.blk (by simp; omega) hb, hO.keep k ?_, hR.keep k ?_⟩
    · intro b hb hm
      have := own_baseR hO hb
      simp at hm
      omega
    · intro b hm
      simp at hm
      omega
  case h0 =>
    intro W k
    exact ⟨hk3.trans k, _, [], k.blk (by simp) hb3, OwnR.nil _ _ _, rfl, by simp⟩
  case hassign =>
    rintro x args W K ⟨k1, v1, rfl, h1, h2, h3, h4⟩ hlt hK
    obtain ⟨ka, kc, rfl, -⟩ := (h1.bytes (Nat.le_trans h3 (by decide))).form
    obtain ⟨va, vc, rfl, -⟩ := (h2.bytes (Nat.le_trans h4 (by decide))).form
    have hA := (Keep.refl [] W).alloc (.cells #[.slice ka x.k.length kc, .slice va x.v.length vc, .int .i64 (x.en : Int)] 30)
    have hn := heap_alloc_new W (.cells #[.slice ka x.k.length kc, .slice va x.v.length vc, .int .i64 (x.en : Int)] 30)
    have hK2 := hK _ hA ⟨ka, kc, va, vc, rfl, hn⟩
    clear hK
    gi_wp2
    exact hK2
  case hbody =>
    rintro pre x args B0 W hpre ⟨hk, v, rs, hb, hO, hR⟩ ⟨k1, v1, rfl, h1, h2, h3, h4⟩ ⟨ka, kc, va, vc, hargs, hx0⟩ hB0 ⟨r, hL⟩ hD
    simp only [Array.mk.injEq, List.cons.injEq, Value.agg.injEq, and_true] at hargs
    obtain ⟨rfl, rfl⟩ := hargs
    rw [hs3] at hL hD hB0
    obtain ⟨vna, vnn, vnc, rfl⟩ : ∃ a n c, v = .slice a n c := by
      rcases hO.2 with ⟨rfl, -⟩ | ⟨g', c, cur, rfl, -⟩
      · exact ⟨_, _, _, rfl⟩
      · exact ⟨_, _, _, rfl⟩
    have hlen : pre.length + 1 ≤ (recsOf l).length := by have := hpre.length_le; simpa using this
    have hlen2 := recsOf_len _ l (Nat.le_refl _)
    have hrl := hR.1
    have hWs : T + 4 ≤ W.heap.size := by have := (Array.getElem?_eq_some_iff.1 hL).1; omega
    have g0 := cell_of_row W _ 0 _ _ _ hx0
    have g1 := cell_of_row W _ 1 _ _ _ hx0
    have g2 := cell_of_row W _ 2 _ _ _ hx0
    have gT := cell_of_one hb
    have fT := free_of_one hb
    simp at g0 g1 g2
    have hA := (Keep.refl [] W).alloc (.cells #[.slice ka x.k.length kc, .slice va x.v.length vc, .int .i64 (x.en : Int)] 30)
    obtain ⟨v', w', hrun, hO', hk'⟩ := run_append_rec (w := W.alloc (.cells #[.slice ka x.k.length kc, .slice va x.v.length vc, .int .i64 (x.en : Int)] 30)) (T + 4) (ty := 35) (hO.keep hA (by simp)) W.heap.size (.slice ka x.k.length kc, .slice va x.v.length vc, (x.en : Int)) (heap_alloc_new _ _) rfl rfl (by omega) (by have := hA.size; omega)
    obtain ⟨va', vn', vc', rfl⟩ : ∃ a n c, v' = .slice a n c := by
      rcases hO'.2 with ⟨rfl, -⟩ | ⟨g', c, cur, rfl, -⟩
      · exact ⟨_, _, _, rfl⟩
      · exact ⟨_, _, _, rfl⟩
    have hno : ∀ b, (Value.slice vna vnn vnc).ownBlock = some b → T + 4 ≤ b ∧ ∃ cs, W.heap[b]? = some (.cells cs 30 (0, 0)) := fun b hb => own_baseR hO hb
    have hnot : ∀ b, b < T + 4 → b ∉ (Value.slice vna vnn vnc).ownBlock.toList := by
      intro b hb hm
      rw [Option.mem_toList] at hm
      have := (hno b hm).1
      omega
    have hR1 := (hR.keep hA (by simp)).keep hk' (by
      intro b hm
      rw [Option.mem_toList] at hm
      obtain ⟨h1, cs, h2⟩ := hno b hm
      exact .inr ⟨_, hA.blk (by simp) h2, fun cs fr e => by cases e⟩)
    have hR2 := hR1.snoc ((h1.keep hA (by simp)).keep hk' (by
      intro b hb hm
      rw [Option.mem_toList] at hm
      obtain ⟨h1', cs, h2⟩ := hno b hm
      exact h1.ne_row h2 (by decide) hb)) ((h2.keep hA (by simp)).keep hk' (by
      intro b hb hm
      rw [Option.mem_toList] at hm
      obtain ⟨h1', cs, h2'⟩ := hno b hm
      exact h2.ne_row h2' (by decide) hb)) h3 h4
    have hb2 := hk'.blk (hnot T (by omega)) (hA.blk (by simp) hb)
    have hL2 := hk'.block (T + 2 + 1) (by have := hA.size; omega) (hnot _ (by omega))
    have hD2 := hk'.block (T + 2) (by have := hA.size; omega) (hnot _ (by omega))
    have hX2 := hk'.block (T + 1) (by have := hA.size; omega) (hnot _ (by omega))
    have hL3 := hA.block (T + 2 + 1) (by omega) (by simp)
    have hD3 := hA.block (T + 2) (by omega) (by simp)
    have hX3 := hA.block (T + 1) (by omega) (by simp)
    have gT2 := cell_of_one hb2
    have fT2 := free_of_one hb2
    have hkk : Keep [] w (w'.setCell ⟨T, 0, none⟩ (.slice va' vn' vc')) := by
      refine (hk.ext ((hA.mono (by simp)).trans hk') ?_).setCell (.inr (show w.heap.size ≤ T by omega)) _
      intro b hm
      rw [Option.mem_toList] at hm
      have := (hno b hm).1
      omega
    have HB := Lib.hid hb2
    have HR := Lib.hid hR2
    have HO := Lib.hid hO'
    have HK := Lib.hid hkk
    have HL := Lib.hid (hL2.trans hL3)
    have HD := Lib.hid (hD2.trans hD3)
    have HX := Lib.hid (hX2.trans hX3)
    have HHS := Lib.hid hs3
    clear hkk hL2 hL3 hD2 hD3 hX2 hX3 hR1 hR2 hO hR hnot hno hO' hk' hA hb hb2 hx0 hL hD h1 h2 hs3 hb3 hd3 hbx hxB hk hk3
    gi_wp2_with (gi_at_builtin; refine wpListIn_append_run rfl (.tmp 8) (.tmp 10) 35 rfl (v := .slice vna vnn vnc) (src := .slice (some ⟨W.heap.size, 0, none⟩) 1 1) (v' := .slice va' vn' vc') (w' := w') rfl rfl hrun ?_)
    have hs3 := HHS.out
    refine ⟨?_, ?_, ?_, HK.out, _, _, one_setCell HB.out, HO.out.keep ((Keep.refl [T] _).setCell (.inl (by simp)) _) ?_, HR.out.keep ((Keep.refl [T] _).setCell (.inl (by simp)) _) ?_⟩
    · rw [hs3]; exact (heap_setCell_other _ _ _ _ (by simp; omega)).trans HL.out
    · rw [hs3]; exact (heap_setCell_other _ _ _ _ (by simp)).trans HD.out
    · intro b hb
      rw [List.mem_singleton] at hb
      subst hb
      exact (heap_setCell_other _ _ _ _ (by simp)).trans HX.out
    · intro b hb hm
      have := (own_baseR HO.out hb).1
      simp at hm
      omega
    · intro b hm
      simp at hm
      omega
  case hdone =>
    rintro W ⟨hk, v, rs, hb, hO, hR⟩ hD
    obtain ⟨vna, vnn, vnc, rfl⟩ : ∃ a n c, v = .slice a n c := by
      rcases hO.2 with ⟨rfl, -⟩ | ⟨g', c, cur, rfl, -⟩
      · exact ⟨_, _, _, rfl⟩
      · exact ⟨_, _, _, rfl⟩
    have gT := cell_of_one hb
    go_wp2
    refine leavesM_one hD (results_tmp rfl _ _ _) ⟨_, rs, rfl, (hO.keep ((Keep.refl [T + 2] _).putObj (.inl (by simp [hs3])) _) ?_).base (by omega), (hR.keep ((Keep.refl [T + 2] _).putObj (.inl (by simp [hs3])) _) ?_).base (by omega), hk.putObj (.inr (by omega)) _⟩
    · intro b hb hm
      have := (own_baseR hO hb).1
      simp at hm
      omega
    · intro b hm
      simp at hm
      omega
  case hstop =>
    rintro c pre W _ h
    exact h.elim
end Go.Proofs.Ytcmkcegnfddccaa
