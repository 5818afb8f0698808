import Derived.Test.YtcmkcegnfddccaaRecS
import Derived.Test.YtcmkcegnfddccaaRecsOpen
import Derived.Test.YtcmkcegnfddccaaAppZ
import Derived.Outline
/-! The walk of the law RecordBack. -/
namespace Go.Proofs.Ytcmkcegnfddccaa
open Go.RowKit Sg
set_option linter.unusedSimpArgs false
set_option linter.unusedVariables false

/-- bytes that are read as these records, whatever stands behind them -/
def Chain (bs : List UInt8) (ins : List Rc) : Prop := ∀ rest, recsOf (bs ++ rest) = ins ++ recsOf rest
theorem Chain.nil : Chain [] [] := fun _ => rfl
theorem recsOf_zeros : ∀ (n : Nat) (l : List UInt8), recsOf (List.replicate n 0 ++ l) = recsOf l
  | 0, _ => rfl
  | n + 1, l => by
    rw [List.replicate_succ, List.cons_append, recsOf_zero _ (by simp) rfl]
    exact recsOf_zeros n l
theorem Chain.zeros {bs : List UInt8} {ins : List Rc} (h : Chain bs ins) (n : Nat) : Chain (bs ++ List.replicate n 0) ins := fun rest => by
  rw [List.append_assoc, h, recsOf_zeros]
theorem Chain.more {bs : List UInt8} {ins : List Rc} (h : Chain bs ins) (k v : List UInt8) (e : Nat) (hr : rcode k.length v.length e = 0) : Chain (bs ++ rpack k v e) (ins ++ [⟨k, v, e⟩]) := fun rest => by
  have z := rcode_zero hr
  have hb := rpack_back k v rest e (by omega) (by omega) (by omega)
  have hok : (rdAll (rpack k v e ++ rest)).ok := by
    rw [hb]
    exact ⟨rfl, rfl, rfl, (by show e ≤ _; omega), hr⟩
  have hro := (rec_ok_iff _).1 hok
  obtain ⟨f1, f2, f3, f4, f5, -, -⟩ := rec_ok_fields _ hro
  rw [hb] at f1 f2 f3 f4 f5
  simp only at f1 f2 f3 f4 f5
  have hl := rpack_len k v e
  rw [List.append_assoc, h, recsOf_rec _ (by rw [List.length_append]; omega) (by
    rw [List.getElem_append_left (by omega)]
    have : (rpack k v e)[0]? = some 165 := by simp [rpack_eq, le]
    have h2 := (List.getElem?_eq_some_iff.1 this).2
    rw [h2]
    decide) hro, ← f1, ← f2, ← f3, ← f4, ← f5, ← hl, List.drop_left' rfl]
  simp
theorem recsOf_001 : recsOf [0, 0, 1] = [] := by
  rw [recsOf_zero _ (by simp) rfl, recsOf_zero _ (by simp) rfl, recsOf_bad _ (by simp) (by decide)]
  intro h
  have := h.1
  simp at this
  omega
/-- where the loop over the records is -/
structure Bk (j : Nat) (bs : List UInt8) (ins : List Rc) : Prop where
  chain : Chain bs ins
  len : bs.length ≤ j * 250
  num : ins.length ≤ j
theorem ownsRow_blk {w : World} {base : Nat} {e : TypeId} {sz n : Nat} {v : Value} {xs : List Value} (h : w.ownsRow base e sz v n xs) {b : Nat} (hb : v.ownBlock = some b) : ∃ cs, w.heap[b]? = some (.cells cs e (0, 0)) := by
  rcases h.2 with ⟨rfl, -⟩ | ⟨g, cap, cur, rfl, -, hg, -⟩
  · simp [Value.ownBlock] at hb
  · simp only [Value.ownBlock, Option.some.injEq] at hb
    subst hb
    exact ⟨_, hg⟩
theorem ownsRow_form' {w : World} {base : Nat} {e : TypeId} {sz n : Nat} {v : Value} {xs : List Value} (h : w.ownsRow base e sz v n xs) : ∃ a c, v = .slice a n c := by
  rcases h.2 with ⟨rfl, h0⟩ | ⟨g', cap, cur, rfl, -⟩
  · exact ⟨_, _, by rw [h0]⟩
  · exact ⟨_, _, rfl⟩
theorem ownsRow_from {w : World} {base : Nat} {e : TypeId} {sz n : Nat} {v : Value} {xs : List Value} (h : w.ownsRow base e sz v n xs) {b : Nat} (hb : v.ownBlock = some b) : base ≤ b := by
  rcases h.2 with ⟨rfl, h0⟩ | ⟨g, cap, cur, rfl, h1, -⟩
  · simp [Value.ownBlock] at hb
  · simp only [Value.ownBlock, Option.some.injEq] at hb
    omega
theorem ownsRow_apart {w : World} {B1 B2 : Nat} {e1 e2 : TypeId} {s1 s2 n1 n2 : Nat} {v1 v2 : Value} {x1 x2 : List Value} (h1 : w.ownsRow B1 e1 s1 v1 n1 x1) (h2 : w.ownsRow B2 e2 s2 v2 n2 x2) (he : e1 ≠ e2) : ∀ b, v2.ownBlock = some b → b ∉ v1.ownBlock.toList := by
  intro b hb hm
  rw [Option.mem_toList] at hm
  obtain ⟨c1, g1⟩ := ownsRow_blk h1 hm
  obtain ⟨c2, g2⟩ := ownsRow_blk h2 hb
  rw [g1] at g2
  cases g2
  exact he rfl

set_option maxRecDepth 100000 in
set_option maxHeartbeats 1000000 in
set_option maxHeartbeats 8000000 in
theorem recordBackWalk (W : World) (v0 : Value) (l0 : List SRec) (b0 : SRecs W v0 l0) (a1 : Int) (w1 : (Lit.int .u8 a1).wf = true) (v2 : Value) (l2 : List UInt8) (b2 : Bytes W v2 l2) :
    Calls Try.prog 3 #[v0, .int .u8 a1, v2] W fun e W' => e = .returned (.bool true) ∧ Below W.heap.size W W' := by
  obtain ⟨n, rfl, hn⟩ := u8_nat w1
  obtain ⟨a0, c0, rfl, hlc0, hm0, -⟩ := b0.form
  obtain ⟨a2, c2, rfl, hlc2, hm2, -⟩ := b2.form
  by_cases h1 : 10 < l0.length
  · have h1' : (10 : Int) < (l0.length : Int) := by omega
    go_enter Try.func3, Try.ntmps3
    go_wp2
    go_ret
    exact ⟨rfl, (Keep.refl [] W).below (Nat.le_refl _) (by simp)⟩
  have h1' : ¬ (10 : Int) < (l0.length : Int) := by omega
  by_cases h2 : 200 < l2.length
  · have h2' : (200 : Int) < (l2.length : Int) := by omega
    go_enter Try.func3, Try.ntmps3
    go_wp2
    go_ret
    exact ⟨rfl, (Keep.refl [] W).below (Nat.le_refl _) (by simp)⟩
  have h2' : ¬ (200 : Int) < (l2.length : Int) := by omega
  obtain ⟨z, hz⟩ : ∃ z, n % 5 = z := ⟨_, rfl⟩
  have hz5 : z < 5 := by omega
  have hmod : ((n : Int).tmod 5) = (z : Int) := by rw [Int.tmod_eq_emod_of_nonneg (by omega)]; omega
  clear hz
  have HS := Lib.hid (And.intro b0 b2)
  have HL := Lib.hid (And.intro hlc2 hm2)
  clear b0 b2 hlc2 hm2
  go_enter Try.func3, Try.ntmps3
  go_wp2
  go_loopw [7, 8, 9] (fun b inn i wr => ∃ (j : Nat) (bs : List UInt8) (ins : List Rc), j ≤ l0.length ∧ i = .int .i64 j ∧ Hid (OwnB wr W.heap.size 5 b bs) ∧ Hid (OwnS wr W.heap.size inn ins) ∧ Hid (Bk j bs ins) ∧ Hid (Keep [] W wr)) (fun _ _ i _ => l0.length - (intOf i).toNat)
  case atStart => exact ⟨0, [], [], by omega, rfl, OwnB.nil _ _ _, ⟨by simp [scells], .inl ⟨rfl, rfl⟩⟩, ⟨Chain.nil, by simp, by simp⟩, Keep.refl _ _⟩
  case round =>
    obtain ⟨j, bs, ins, hj, rfl, HB, HI, HK, HW⟩ := hrel
    obtain ⟨ia, ic, rfl⟩ := HI.out.form
    have hj10 : j ≤ 10 := by omega
    by_cases hlt : j < l0.length
    · obtain ⟨b, o, rfl, hG⟩ := HS.out.1.spot hlt
      obtain ⟨q, hq⟩ : ∃ q, l0[j] = q := ⟨_, rfl⟩
      have hen : -9223372036854775808 ≤ q.en ∧ q.en ≤ 9223372036854775807 := by
        obtain ⟨_, _, _, _, _, _, hok, _⟩ := HS.out.1
        rw [← hq]
        exact hok _ (List.getElem_mem hlt)
      rw [hq] at hG
      clear hq
      obtain ⟨kl, vl, e⟩ := q
      simp only at hG hen
      obtain ⟨ks, hks⟩ : ∃ ks : ByteArray, ks = ⟨kl.toArray⟩ := ⟨_, rfl⟩
      obtain ⟨vs, hvs⟩ : ∃ vs : ByteArray, vs = ⟨vl.toArray⟩ := ⟨_, rfl⟩
      have lk : kl.length = ks.size := by rw [hks]; rfl
      have lv : vl.length = vs.size := by rw [hvs]; rfl
      have dk : ks.data.toList = kl := by rw [hks]
      have dv : vs.data.toList = vl := by rw [hvs]
      rw [← hks, ← hvs] at hG
      obtain ⟨g0, g1, g2⟩ := hG wr HW.out
      have HKS := Lib.hid (And.intro (And.intro hks lk) (And.intro hvs lv))
      have HG := Lib.hid hG
      clear hks hvs hG
      by_cases hk1 : 100 < ks.size
      · clear lk lv dk dv
        go_wp2
        go_ret
        exact ⟨rfl, HW.out.below (Nat.le_refl _) (by simp)⟩
      by_cases hv1 : 100 < vs.size
      · clear lk lv dk dv
        go_wp2
        go_ret
        exact ⟨rfl, HW.out.below (Nat.le_refl _) (by simp)⟩
      have hO := of09_any ks vs e (by omega) (by omega)
      have hP := fun k v w => rpack_any k v kl vl e w
      rw [dk, dv] at hO
      by_cases hrc : rcode kl.length vl.length e = 0
      · rw [hrc, if_pos rfl] at hP
        have zr := rcode_zero hrc
        obtain ⟨en, rfl⟩ : ∃ en : Nat, e = (en : Int) := ⟨e.toNat, by omega⟩
        rw [show ((en : Int)).toNat = en by omega] at hP
        have hback := rpack_back kl vl l2 en (by omega) (by omega) (by omega)
        have hLn := rpack_len kl vl en
        have hch := (HK.out.chain.zeros z).more kl vl en hrc
        generalize rpack kl vl en = L at hP hback hLn hch
        have hok : (rdAll (L ++ l2)).ok := by
          rw [hback]
          exact ⟨rfl, rfl, rfl, (by show en ≤ _; omega), hrc⟩
        have hN2 : L.length ≤ 177 := by omega
        have hNi : (13 + (kl.length : Int) + (vl.length : Int)) = (L.length : Int) := by omega
        have HN := Lib.hid (And.intro hok (And.intro hback hch))
        have HNi := Lib.hid hNi
        have HKV := Lib.hid (And.intro lk (And.intro lv (And.intro dk dv)))
        have hzr : (en : Int) ≤ 281474976710656 := by omega
        have hk64 : kl.length ≤ 100 ∧ vl.length ≤ 100 := by omega
        clear hok hback hch hLn hNi hrc zr lk lv dk dv
        go_wp2_with fail
        refine (hO _).mono ?_
        rintro x w2 ⟨k, v, rfl, hbk, hbv, hk2⟩
        go_wp2_with fail
        refine (hP _ _ _ hbk hbv).mono ?_
        rintro x w3 ⟨p5, rfl, ho5, hk3⟩
        have hkw3 := (HW.out.trans hk2).trans hk3
        have hB3 := HB.out.keep (hk2.trans hk3) (by simp)
        have hI3 := HI.out.keep (hk2.trans hk3) (by simp)
        obtain ⟨pa, pc, rfl⟩ := ownsRow_form' ho5
        have hb5 := ho5.bytes (by omega)
        have ho := OwnB.empty w3 w3.heap.size 5 (Nat.le_refl _)
        have hA3 := (Keep.refl [] w3).alloc (.cells #[] 5)
        have hA3s := hA3.size
        have hb5' := hb5.keep hA3 (by simp)
        have hfar : ∀ b, (Value.slice pa L.length pc).ownBlock = some b → b ∉ u7.ownBlock.toList := fun b hb hm => by
          rw [Option.mem_toList] at hm
          have h1 := ownsRow_from ho5 hb
          obtain ⟨c, h2⟩ := ownsRow_blk HB.out hm
          have h3 := (Array.getElem?_eq_some_iff.1 h2).1
          have h4 := hk2.size
          omega
        have HH3 := Lib.hid (And.intro hkw3 (And.intro hB3 (And.intro hI3 (And.intro hb5 (And.intro hbk hfar)))))
        clear hO hP hbk hbv hk2 hk3 ho5 g0 g1 g2 hkw3 hB3 hI3 hb5
        go_wp2_with (refine wpList_append_bytes rfl (.tmp 59) (.tmp 60) 23 5 rfl w3.heap.size Try.underlying23 (by kernel_rfl) (v := .slice (some ⟨w3.heap.size, 0, none⟩) 0 0) (src := .slice pa L.length pc) rfl rfl ho hb5' (by simp; omega) hA3s ?_)
        intro v4 w4 ho4 hk4
        have hA4 : Keep [] w3 w4 := hA3.trans' hk4 (by intro k hk; simp [Value.ownBlock] at hk; subst hk; exact .inr (Nat.le_refl _))
        have b24 := HS.out.2.keep (HH3.out.1.trans hA4) (by simp)
        have hA4s := hA4.size
        have HA4 := Lib.hid hA4
        clear hk4 hA3 ho hb5' hA3s hA4
        obtain ⟨va4, vc4, hv4⟩ := ownsRow_form' ho4
        subst hv4
        go_wp2_with (refine wpList_append_bytes rfl (.tmp 61) (.tmp 62) 23 5 rfl w3.heap.size Try.underlying23 (by kernel_rfl) (v := .slice va4 L.length vc4) (src := .slice a2 l2.length c2) rfl rfl ho4 b24 (by omega) hA4s ?_)
        intro v6 w6 ho6 hk6
        have hA6 : Keep [] w3 w6 := HA4.out.trans' hk6 (by
          intro k hk
          rw [Option.mem_toList] at hk
          exact .inr (ownsRow_from ho4 hk))
        have hb6 := ho6.bytes (by rw [List.length_append]; omega)
        have hA6s := hA6.size
        have HA6 := Lib.hid hA6
        clear hk6 ho4 b24 hA4s HA4 ho6 hA6
        have hU := unpack_any _ (L ++ l2) w6 hb6 (by rw [List.length_append]; omega)
        clear hb6
        go_wp2_with fail
        refine hU.mono ?_
        rintro x w7 ⟨hk7, hor⟩
        clear hU
        obtain ⟨k7, v7, rfl, ok7, ov7⟩ : ∃ k v, x = .returned (.tuple #[.agg #[k, v, .int .i64 (en : Int)], .int .i64 (L.length : Int), .int .i64 0]) ∧ OwnB w7 w6.heap.size 5 k kl ∧ OwnB w7 w6.heap.size 5 v vl := by
          rcases hor with ⟨-, k, v, rfl, h1, h2⟩ | ⟨h, -⟩
          · rw [HN.out.2.1] at h1 h2 ⊢
            exact ⟨k, v, by rw [← HNi.out], h1, h2⟩
          · exact absurd HN.out.1 h
        clear hor
        have hkw7 := (HH3.out.1.trans HA6.out).trans hk7
        obtain ⟨ka7, kc7, rfl⟩ := ownsRow_form' ok7
        obtain ⟨va7, vc7, rfl⟩ := ownsRow_form' ov7
        have hbk7 := ok7.bytes (by omega)
        have hbv7 := ov7.bytes (by omega)
        have HH7 := Lib.hid (And.intro hkw7 (And.intro (HA6.out.trans hk7) (And.intro hbk7 hbv7)))
        clear hkw7 hk7 ok7 ov7 hbk7 hbv7 hA6s
        have hX := heap_alloc_new w7 (.cells #[.slice ka7 kl.length kc7, .slice va7 vl.length vc7, .int .i64 (en : Int)] 30)
        have hA8 := (Keep.refl [] w7).alloc (.cells #[.slice ka7 kl.length kc7, .slice va7 vl.length vc7, .int .i64 (en : Int)] 30)
        have hT := fun w' (h : Keep [] w7 w') => told09_any _ _ kl vl (en : Int) w' (HH7.out.2.2.1.keep h (by simp)) (HH7.out.2.2.2.keep h (by simp))
        rw [← HKS.out.1.1, ← HKS.out.2.1] at hT
        have HT := Lib.hid hT
        have HX := Lib.hid hX
        have HA8 := Lib.hid hA8
        clear hT hX hA8
        go_wp2_with fail
        refine wp_region_his [] [14] (fun _ => 0) (by kernel_rfl) (by kernel_rfl) ?_
        intro w9 hk9 hh
        clear hh
        have HK9 := Lib.hid (And.intro (HA8.out.trans hk9) hk9)
        have dX := fun w' (h : Keep [] w9 w') => (HK9.out.2.trans h).blk (by simp) HX.out
        have x0 := fun w' (h : Keep [] w9 w') => cell_of_row w' _ 0 _ _ _ (dX w' h)
        have x1 := fun w' (h : Keep [] w9 w') => cell_of_row w' _ 1 _ _ _ (dX w' h)
        have x2 := fun w' (h : Keep [] w9 w') => cell_of_row w' _ 2 _ _ _ (dX w' h)
        simp at x0 x1 x2
        have d0 := fun w' (h : Keep [] w9 w') => (HG.out w' (HH7.out.1.trans (HK9.out.1.trans h))).1
        have d1 := fun w' (h : Keep [] w9 w') => (HG.out w' (HH7.out.1.trans (HK9.out.1.trans h))).2.1
        have d2 := fun w' (h : Keep [] w9 w') => (HG.out w' (HH7.out.1.trans (HK9.out.1.trans h))).2.2
        clear dX hk9
        (repeat (first | (refine his_q rfl rfl (fun K hK => ?_); apply Exists.intro; refine ⟨fun w' hC => ?_, ?_⟩; ((try simp [Sg.upd] at hC); go_simp <;> rfl); go_simp; refine hK _ _ ?_; clear hK K) | (refine his_s rfl (fun K hK => ?_); go_simp; refine hK _ _ ?_; clear hK K)))
        (refine his_l rfl rfl (fun K hK => ?_); go_simp)
        refine (HT.out _ HK9.out.1).mono ?_
        rintro x w10 ⟨rfl, hk10⟩
        refine hK _ _ hk10 ?_
        clear hK K
        (repeat (first | (refine his_q rfl rfl (fun K hK => ?_); apply Exists.intro; refine ⟨fun w' hC => ?_, ?_⟩; ((try simp [Sg.upd] at hC); go_simp <;> rfl); go_simp; refine hK _ _ ?_; clear hK K) | (refine his_s rfl (fun K hK => ?_); go_simp; refine hK _ _ ?_; clear hK K)))
        refine his_nil ?_
        clear x0 x1 x2 d0 d1 d2
        have hk310 := (HH7.out.2.1.trans HK9.out.1).trans hk10
        have hkw10 := HH7.out.1.trans (HK9.out.1.trans hk10)
        have hB10 := HH3.out.2.1.keep hk310 (by simp)
        have hI10 := HH3.out.2.2.1.keep hk310 (by simp)
        have hL10 := HH3.out.2.2.2.1.keep hk310 (by simp)
        have hkws := hkw10.size
        have hbl := HK.out.len
        obtain ⟨b12, w12, hrun12, ho12, hk12⟩ := run_append_zeros (P := Try.prog) (ty := 23) (kq := .i64) W.heap.size Try.underlying23 Try.underlying3 (by kernel_rfl) hB10 z (by omega) hkws
        have hap := ownsRow_apart hB10 hI10 (by decide)
        have hI12 := hI10.keep hk12 hap
        have hC12 : Keep [] W w12 := hkw10.trans' hk12 (by
          intro k hk
          rw [Option.mem_toList] at hk
          exact .inr (ownsRow_from hB10 hk))
        have hL12 := hL10.keep hk12 HH3.out.2.2.2.2.2
        have H12 := Lib.hid (And.intro ho12 (And.intro hI12 (And.intro hC12 hL12)))
        clear hB10 hI10 hL10 hkws hk12 hap hI12 hC12 hL12 ho12 hkw10 hk310 hk10
        have hkws12 := H12.out.2.2.1.size
        have hz12 : (bs ++ List.replicate z 0).length + L.length ≤ 140737488355328 := by rw [List.length_append, List.length_replicate]; omega
        have ho12 := H12.out.1
        have hL12 := H12.out.2.2.2
        go_wp2_with (first
          | (at_builtin
             refine Lib.wpList_append_run _ rfl (.tmp 85) (.tmp 88) 23 3 rfl _ _ rfl rfl _ _ hrun12 ?_)
          | (at_builtin
             refine wpList_append_bytes rfl (.tmp 90) (.tmp 91) 23 5 rfl W.heap.size Try.underlying23 (by kernel_rfl) (v := b12) (src := .slice pa L.length pc) rfl rfl ho12 hL12 hz12 hkws12 ?_
             intro b13 w13 ho13 hk13
             have hap := ownsRow_apart ho12 H12.out.2.1 (by decide)
             have hI13 := H12.out.2.1.keep hk13 hap
             have hC13 : Keep [] W w13 := H12.out.2.2.1.trans' hk13 (by
               intro k hk
               rw [Option.mem_toList] at hk
               exact .inr (ownsRow_from ho12 hk))
             obtain ⟨g0, g1, g2⟩ := HG.out w13 hC13
             have hC14 := hC13.alloc (.cells #[.string ks, .string vs, .int .i64 (en : Int)] 25)
             have hA14 := (Keep.refl [] w13).alloc (.cells #[.string ks, .string vs, .int .i64 (en : Int)] 25)
             have hY := heap_alloc_new w13 (.cells #[.string ks, .string vs, .int .i64 (en : Int)] 25)
             have hI14 := hI13.keep hA14 (by simp)
             have ho14 := ho13.keep hA14 (by simp)
             have hin := HK.out.num
             obtain ⟨in15, w15, hrun15, hI15, hk15⟩ := run_append_srec (ty := 22) W.heap.size hI14 w13.heap.size ⟨kl, vl, en⟩ (by rw [← HKS.out.1.1, ← HKS.out.2.1]; exact hY) (by omega) hC14.size
             have hap2 := ownsRow_apart hI14 ho14 (by decide)
             have ho15 := ho14.keep hk15 hap2
             have hC15 : Keep [] W w15 := hC14.trans' hk15 (by
               intro k hk
               rw [Option.mem_toList] at hk
               exact .inr (ownsRow_from hI14 hk))
             obtain ⟨ia15, ic15, rfl⟩ := hI15.form
             have H15 := Lib.hid (And.intro ho15 (And.intro hI15 hC15))
             clear hap hI13 hC13 hk13 hC14 hA14 hY hI14 ho14 hin hap2 ho15 hC15 hk15 hI15 ho13 ho12 hL12 hz12 hkws12)
          | (at_builtin
             refine wpList_append_run rfl (.tmp 93) (.tmp 98) 22 rfl rfl rfl hrun15 ?_))
        go_roundw
        case rel => exact ⟨j + 1, bs ++ List.replicate z 0 ++ L, ins ++ [⟨kl, vl, en⟩], by omega, by go_num, H15.out.1, (by have h := H15.out.2.1; simp only [List.length_append, List.length_cons, List.length_nil] at h; exact h), ⟨HN.out.2.2, by have := HK.out.len; simp; omega, by have := HK.out.num; simp; omega⟩, H15.out.2.2⟩
        case measure => simp [intOf]; omega
      · obtain ⟨rc, hrc2⟩ : ∃ rc, rcode kl.length vl.length e = rc := ⟨_, rfl⟩
        rw [hrc2] at hrc hP
        rw [if_neg hrc] at hP
        have hz : (rc != 0) = true := by simpa using hrc
        clear hrc hrc2 lk lv dk dv
        go_wp2_with fail
        refine (hO _).mono ?_
        rintro x w2 ⟨k, v, rfl, hbk, hbv, hk2⟩
        go_wp2_with fail
        refine (hP _ _ _ hbk hbv).mono ?_
        rintro x w3 ⟨v5, rfl, ho5, hk3⟩
        have hkw3 := (HW.out.trans hk2).trans hk3
        have HH := Lib.hid (And.intro hkw3 (And.intro (HB.out.keep (hk2.trans hk3) (by simp)) (HI.out.keep (hk2.trans hk3) (by simp))))
        obtain ⟨ao, cap, rfl⟩ := ownsRow_form' ho5
        clear hO hP hbk hbv hk2 hk3 ho5 hkw3 g0 g1 g2
        go_wp2
        go_roundw
        case rel => exact ⟨j + 1, bs, ins, by omega, by go_num, HH.out.2.1, HH.out.2.2, ⟨HK.out.chain, by have := HK.out.len; omega, by have := HK.out.num; omega⟩, HH.out.1⟩
        case measure => simp [intOf]; omega
    · have hbl := HK.out.len
      have hnm := HK.out.num
      have hA3 := HW.out.alloc (.cells #[.int .u8 0, .int .u8 0, .int .u8 1] 5)
      have hA := (Keep.refl [] wr).alloc (.cells #[.int .u8 0, .int .u8 0, .int .u8 1] 5)
      have hX := heap_alloc_new wr (.cells #[.int .u8 0, .int .u8 0, .int .u8 1] 5)
      have hs3 : Bytes (wr.alloc (.cells #[.int .u8 0, .int .u8 0, .int .u8 1] 5)) (.slice (some ⟨wr.heap.size, 0, none⟩) 3 3) [0, 0, 1] := Bytes.row (l := [0, 0, 1]) hX (by
        intro i h
        match i, h with
        | 0, _ => rfl
        | 1, _ => rfl
        | 2, _ => rfl) (by simp) (by simp)
      have hB3 := HB.out.keep hA (by simp)
      have hI3 := HI.out.keep hA (by simp)
      have hA3s := hA3.size
      have hl3 : bs.length + [0, 0, (1 : UInt8)].length ≤ 140737488355328 := by simp; omega
      have H3 := Lib.hid (And.intro hA3 (And.intro hB3 hI3))
      have hbl2 : bs.length ≤ 2500 := by omega
      have hnm2 : ins.length ≤ 10 := by omega
      clear hA hX hI3 hbl hnm hA3
      go_wp2_with (refine wpList_append_bytes rfl (.tmp 100) (.tmp 101) 23 5 rfl W.heap.size Try.underlying23 (by kernel_rfl) (v := u7) (src := .slice (some ⟨wr.heap.size, 0, none⟩) 3 3) rfl rfl hB3 hs3 hl3 hA3s ?_)
      intro b4 w4 ho4 hk4
      have hap := ownsRow_apart hB3 H3.out.2.2 (by decide)
      have hI4 := H3.out.2.2.keep hk4 hap
      have hC4 : Keep [] W w4 := H3.out.1.trans' hk4 (by
        intro k hk
        rw [Option.mem_toList] at hk
        exact .inr (ownsRow_from hB3 hk))
      have hb4 := ho4.bytes (by rw [List.length_append]; exact hl3)
      have hall := all09_any b4 _ w4 hb4 (by simp; omega)
      rw [HK.out.chain, recsOf_001, List.append_nil] at hall
      have HI4 := Lib.hid (And.intro hC4 hI4)
      clear hap hI4 hC4 hb4 ho4 hk4 hs3 hB3 hA3s hl3
      go_wp2_with fail
      refine hall.mono ?_
      rintro e w12 ⟨lv, rs, rfl, hLO, hLM, hk12⟩
      clear hall
      have hC12 := HI4.out.1.trans hk12
      have hSO := HI4.out.2.keep hk12 (by simp)
      have hrl := hLM.1
      obtain ⟨la, lc, rfl⟩ := hLO.form
      rw [hrl] at hLO
      have HLO := Lib.hid hLO
      have HLM := Lib.hid hLM
      have HSO := Lib.hid hSO
      have HC := Lib.hid hC12
      clear hLO hLM hSO hk12 hC12
      rw [hrl]
      go_wp2
      go_loopw [16] (fun i wr => ∃ k : Nat, k ≤ ins.length ∧ i = .int .i64 k ∧ Keep [] w12 wr) (fun i _ => ins.length - (intOf i).toNat)
      case atStart => exact ⟨0, by omega, rfl, Keep.refl _ _⟩
      case round =>
        obtain ⟨k, hk, rfl, hkw⟩ := hrel
        by_cases hlt2 : k < ins.length
        · have hkr : k < rs.length := by omega
          have hm := HLM.out.2 k rs[k] ins[k] (List.getElem?_eq_getElem hkr) (List.getElem?_eq_getElem hlt2)
          obtain ⟨g, cap1, e1, a0, a1, a2⟩ := OwnR.at HLO.out k rs[k] (List.getElem?_eq_getElem hkr)
          obtain ⟨g2, cap2, e2, b0', b1, b2⟩ := OwnS.at HSO.out k ins[k] (List.getElem?_eq_getElem hlt2)
          obtain rfl : la = some ⟨g, 0, none⟩ := by injection e1
          obtain rfl : ia = some ⟨g2, 0, none⟩ := by injection e2
          clear e1 e2
          generalize rs[k] = r at hm a0 a1 a2
          obtain ⟨k1, v1, n1⟩ := r
          obtain ⟨hm1, hm2, hm3, hm4, hm5⟩ := hm
          simp only at hm1 hm2 hm3 a0 a1 a2
          subst hm3
          generalize ins[k] = x at hm1 hm2 hm4 hm5 a0 a1 a2 b0' b1 b2
          have hB1 := hm1.bytes (Nat.le_trans hm4 (by decide))
          have hB2 := hm2.bytes (Nat.le_trans hm5 (by decide))
          obtain ⟨k1a, k1c, rfl, -⟩ := hB1.form
          obtain ⟨v1a, v1c, rfl, -⟩ := hB2.form
          have hT := fun w' (h : Keep [] w12 w') => told09_any _ _ x.k x.v (x.en : Int) w' (hB1.keep h (by simp)) (hB2.keep h (by simp))
          have HT := Lib.hid hT
          have A0 := Lib.hid a0
          have A1 := Lib.hid a1
          have A2 := Lib.hid a2
          have B0 := Lib.hid b0'
          have B1 := Lib.hid b1
          have B2 := Lib.hid b2
          clear hT hB1 hB2 hm1 hm2 a0 a1 a2 b0' b1 b2
          go_wp2_with fail
          refine wp_region_his [] [8] (fun _ => 0) (by kernel_rfl) (by kernel_rfl) ?_
          intro w13 hk13 hh
          clear hh
          have hkw13 := hkw.trans hk13
          have da0 := fun w' (h : Keep [] w13 w') => (hkw13.trans h).cell (by simp) A0.out
          have da1 := fun w' (h : Keep [] w13 w') => (hkw13.trans h).cell (by simp) A1.out
          have da2 := fun w' (h : Keep [] w13 w') => (hkw13.trans h).cell (by simp) A2.out
          have db0 := fun w' (h : Keep [] w13 w') => (hkw13.trans h).cell (by simp) B0.out
          have db1 := fun w' (h : Keep [] w13 w') => (hkw13.trans h).cell (by simp) B1.out
          have db2 := fun w' (h : Keep [] w13 w') => (hkw13.trans h).cell (by simp) B2.out
          clear hk13
          (repeat (first | (refine his_q rfl rfl (fun K hK => ?_); apply Exists.intro; refine ⟨fun w' hC => ?_, ?_⟩; ((try simp [Sg.upd] at hC); go_simp <;> rfl); go_simp; refine hK _ _ ?_; clear hK K) | (refine his_s rfl (fun K hK => ?_); go_simp; refine hK _ _ ?_; clear hK K)))
          (refine his_l rfl rfl (fun K hK => ?_); go_simp)
          refine (HT.out _ hkw13).mono ?_
          rintro x w14 ⟨rfl, hk14⟩
          refine hK _ _ hk14 ?_
          clear hK K
          (repeat (first | (refine his_q rfl rfl (fun K hK => ?_); apply Exists.intro; refine ⟨fun w' hC => ?_, ?_⟩; ((try simp [Sg.upd] at hC); go_simp <;> rfl); go_simp; refine hK _ _ ?_; clear hK K) | (refine his_s rfl (fun K hK => ?_); go_simp; refine hK _ _ ?_; clear hK K)))
          refine his_nil ?_
          clear da0 da1 da2 db0 db1 db2
          go_wp2
          go_roundw
          case rel => exact ⟨k + 1, by omega, by go_num, hkw13.trans hk14⟩
          case measure => simp [intOf]; omega
        · go_wp2_with fail
          refine (awake09_any _).mono ?_
          rintro e w13 ⟨rfl, hk13⟩
          go_wp2
          go_ret
          exact ⟨rfl, (HC.out.trans (hkw.trans hk13)).below (Nat.le_refl _) (by simp)⟩
end Go.Proofs.Ytcmkcegnfddccaa
