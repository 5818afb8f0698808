import Derived.Test.YtjkjiabfhhnngaaRef04f
import Derived.Test.YtjkjiabfhhnngaaFlash14
import Derived.Test.YtjkjiabfhhnngaaFlashPast
/-! The chapter's light, past and more, for FlashPlays; the two devices side by side. -/
namespace Go.Proofs.Ytjkjiabfhhnngaa
open Go.RowKit Sg
set_option linter.unusedSimpArgs false
set_option linter.unusedVariables false

def i4enc (x : Int) : List Value := [.int .i64 x]
theorem i4lies : Lies i4enc 1 := ⟨fun _ => rfl, fun x u hu => by simp [i4enc] at hu; rcases hu with rfl; rfl⟩
theorem i4_info : (Try.prog.info? 3).map (fun i => (i.zero, i.size, i.bytes)) = some (some (.int .i64 0), 1, 8) := by kernel_rfl
section
variable {P : Program} {α : Type} {enc : α → List Value} {k bytes : Nat} {t ts ty : TypeId} {w : World} {v : Value} {l m : List α} {z : Value}
/-- append of a slice that may stand anywhere -/
theorem run_append_src (L : Lies enc k) (hts : P.underlying ts = some (.slice t)) (hi : (P.info? t).map (fun i => (i.zero, i.size, i.bytes)) = some (some z, k, bytes)) (hz : z.cells.size = k) (hk : 0 < k) (hby : bytes ≤ 400)
    (base : Nat) (hown : RowE enc k t w base v l) (a : Addr) (cap : Nat) (hsrc : ∀ j u, (m.flatMap enc)[j]? = some u → w.cell? (a.add j) = some u) (hn : l.length + m.length ≤ 1000000) (hbase : base ≤ w.heap.size) :
    ∃ v' w', (Builtin.append_ #[ts, ts] ty #[v, .slice (some a) m.length cap]).run P w = .ok v' w' ∧ RowE enc k t w' base v' (l ++ m) ∧ Keep v.ownBlock.toList w w' ∧ (v'.ownBlock = v.ownBlock ∨ v'.ownBlock = some w.heap.size) := by
  obtain ⟨i, hi1, hz1, hs1, hb1⟩ := info_parts hi
  obtain ⟨v', w', hrun, hown', hgr, -, hloc⟩ := run_append_own_at (P := P) (w := w) base ts ty t i z k bytes hts hi1 hz1 hs1 hb1 hz hk v l.length (l.flatMap enc) hown a m.length cap (m.flatMap enc) (flatK_len L m)
    hsrc (flatK_one L m) (by simp [maxLen]; omega) (by have : (l.length + m.length) * bytes ≤ 1000000 * 400 := Nat.mul_le_mul hn hby; omega) hbase
  refine ⟨v', w', hrun, ?_, Keep.grown hgr, hloc⟩
  show World.ownsRow _ _ _ _ _ _ _
  rw [List.length_append, List.flatMap_append]
  exact hown'
end
theorem i4_flat (m : List Int) : m.flatMap i4enc = m.map (.int .i64) := by
  induction m with
  | nil => rfl
  | cons x m ih => rw [List.flatMap_cons, ih]; rfl
/-- append([]int{}, x...) -/
theorem run_append_ints (w : World) {src : Value} {l : List Int} (h : Ints w src l) (hl : l.length ≤ 1000) :
    ∃ v' w', (Builtin.append_ #[35, 35] 35 #[.slice (some ⟨w.heap.size, 0, none⟩) 0 0, src]).run Try.prog (w.alloc (.cells #[] 3)) = .ok v' w' ∧ Ints w' v' l ∧ Keep [] w w' ∧ ∀ b, v'.ownBlock = some b → w.heap.size ≤ b := by
  have kA := (Keep.refl [] w).alloc (.cells #[] 3)
  have lit : RowE i4enc 1 3 (w.alloc (.cells #[] 3)) w.heap.size (.slice (some ⟨w.heap.size, 0, none⟩) 0 0) [] := row_lit (enc := i4enc) (k := 1) (t := 3) w [] (by simp) rfl
  have hrange := h.range
  have hfin : ∀ (v' : Value) (w' : World), RowE i4enc 1 3 w' w.heap.size v' l → Keep (Value.slice (some ⟨w.heap.size, 0, none⟩) 0 0).ownBlock.toList (w.alloc (.cells #[] 3)) w' → Ints w' v' l ∧ Keep [] w w' ∧ ∀ b, v'.ownBlock = some b → w.heap.size ≤ b := by
    intro v' w' hr hk
    refine ⟨?_, kA.trans' hk (fun b hb => .inr (by simp [Value.ownBlock] at hb; omega)), fun b hb => (hr.lt b hb).1⟩
    have hr0 := hr
    rcases hr.2 with ⟨rfl, h0⟩ | ⟨g, cap, cur, rfl, hb, hg, hn, hm, hs, ht⟩
    · have : l = [] := List.eq_nil_of_length_eq_zero h0
      subst this
      exact Ints.nil _
    · refine ⟨some ⟨g, 0, none⟩, cap, rfl, hn, ⟨by simpa [maxLen] using hm, by omega⟩, by simp, hrange, fun ad e i hi => ?_⟩
      cases e
      rw [Addr.add_lit, Nat.zero_add]
      obtain ⟨g', e', -, hc⟩ := RowE.cells i4lies hr0 hi
      cases e'
      have := hc 0 _ rfl
      simpa using this
  have h0 := h.keep kA (by simp)
  obtain ⟨ao, cap, rfl, h1, h2, h3, h5, h4⟩ := h0
  cases ao with
  | none =>
    obtain rfl := h3 rfl
    obtain ⟨i, hi1, hz1, hs1, hb1⟩ := info_parts i4_info
    refine ⟨.slice (some ⟨w.heap.size, 0, none⟩) 0 0, _, ?_, hfin _ _ lit (Keep.refl _ _)⟩
    simp [Builtin.append_, run_underlying Try.underlying35, Go.sizeOf, typeInfo, hi1, Builtin.lenOf, Builtin.firstCells, storeCells]
  | some a =>
    obtain ⟨v', w', hrun, ho, hk, -⟩ := run_append_src (P := Try.prog) (ty := 35) i4lies Try.underlying35 i4_info rfl (by decide) (by decide) w.heap.size lit a cap (m := l) (fun j u hu => by
      rw [i4_flat, List.getElem?_map] at hu
      rcases hj : l[j]? with _ | x
      · rw [hj] at hu; cases hu
      · rw [hj] at hu
        cases hu
        obtain ⟨hj2, rfl⟩ := List.getElem?_eq_some_iff.1 hj
        exact h4 a rfl j hj2) (by simp; omega) kA.size
    exact ⟨v', w', hrun, hfin v' w' ho hk⟩

set_option maxRecDepth 100000 in
set_option maxHeartbeats 1000000 in
theorem light2_any (w : World) (v : Value) (l : List FAct) (h : Acts w v l) : Calls Try.prog 12 #[v] w fun e w' => ∃ x : Bool, e = .returned (.bool x) ∧ w = w' ∧ (x = true → l.length ≤ 40 ∧ ∀ q ∈ l, q.fates.length ≤ 60) := by
  obtain ⟨ao, cap, rfl, hlc, hm, hcap⟩ := h.form
  by_cases h1 : 40 < l.length
  · have h1' : (40 : Int) < (l.length : Int) := by omega
    go_enter Try.func12, Try.ntmps12
    go_wp2
    go_ret
    exact ⟨false, rfl, rfl, by simp⟩
  have h1' : ¬ (40 : Int) < (l.length : Int) := by omega
  have H := Lib.hid h
  clear h
  go_enter Try.func12, Try.ntmps12
  go_wp2
  go_loopw [3] (fun i wr => ∃ k : Nat, k ≤ l.length ∧ i = .int .i64 k ∧ wr = w ∧ Hid (∀ q ∈ l.take k, q.fates.length ≤ 60)) (fun i _ => l.length - (intOf i).toNat)
  case atStart => exact ⟨0, by omega, rfl, rfl, Lib.hid (by simp)⟩
  case round =>
    obtain ⟨k, hk, rfl, rfl, HF⟩ := hrel
    by_cases hlt : k < l.length
    · obtain ⟨b, o, rfl, -, -⟩ := H.out.spot (by omega)
      obtain ⟨-, -, -, -, c4, hok⟩ := H.out.act (Keep.refl [] _) hlt
      obtain ⟨a, hA⟩ : ∃ a, l[k] = a := ⟨_, rfl⟩
      rw [hA] at c4 hok
      obtain ⟨fa, fc, hfv, hfl, hfm, -⟩ := hok.fates.form
      rw [hfv] at c4
      by_cases hf : 60 < a.fates.length
      · have hf' : (60 : Int) < (a.fates.length : Int) := by omega
        clear hA hok hfv
        go_wp2
        go_ret
        exact ⟨false, rfl, rfl, by simp⟩
      · have hf' : ¬ (60 : Int) < (a.fates.length : Int) := by omega
        have HF2 : Hid (∀ q ∈ l.take (k + 1), q.fates.length ≤ 60) := Lib.hid (fun q hq => by
          rw [List.take_succ_eq_append_getElem hlt] at hq
          rcases List.mem_append.1 hq with h | h
          · exact HF.out q h
          · rw [List.mem_singleton.1 h, hA]; omega)
        clear hA hok hfv
        go_wp2
        go_roundw
        case rel => exact ⟨k + 1, by omega, by go_num, trivial, HF2⟩
        case measure => simp [intOf]; omega
    · have e : l.take k = l := List.take_of_length_le (by omega)
      rw [e] at HF
      clear e
      go_wp2
      go_ret
      exact ⟨true, rfl, rfl, fun _ => ⟨by omega, HF.out⟩⟩

set_option maxRecDepth 100000 in
set_option maxHeartbeats 1000000 in
theorem right4_any (s z : Int) (w : World) : Calls Try.prog 14 #[.int .i64 s, .int .i64 z] w fun e w' => e = .returned (.bool (decide (1 ≤ s ∧ s ≤ 16384 ∧ 96 ≤ z ∧ z ≤ 512))) ∧ w = w' := by
  by_cases h1 : 1 ≤ s
  case neg =>
    rw [decide_eq_false (fun h => h1 h.1)]
    go_enter Try.func14, Try.ntmps14
    go_wp2
    go_ret
    exact ⟨rfl, rfl⟩
  by_cases h2 : s ≤ 16384
  case neg =>
    rw [decide_eq_false (fun h => h2 h.2.1)]
    go_enter Try.func14, Try.ntmps14
    go_wp2
    go_ret
    exact ⟨rfl, rfl⟩
  by_cases h3 : 96 ≤ z
  case neg =>
    rw [decide_eq_false (fun h => h3 h.2.2.1)]
    go_enter Try.func14, Try.ntmps14
    go_wp2
    go_ret
    exact ⟨rfl, rfl⟩
  by_cases h4 : z ≤ 512
  · rw [decide_eq_true ⟨h1, h2, h3, h4⟩]
    go_enter Try.func14, Try.ntmps14
    go_wp2
    go_ret
    exact ⟨rfl, rfl⟩
  · rw [decide_eq_false (fun h => h4 h.2.2.2)]
    go_enter Try.func14, Try.ntmps14
    go_wp2
    go_ret
    exact ⟨rfl, rfl⟩

set_option maxRecDepth 100000 in
set_option maxHeartbeats 1000000 in
theorem newNil_any (s z : Int) (h : ¬ (1 ≤ s ∧ s ≤ 16384 ∧ 96 ≤ z ∧ z ≤ 512)) (w : World) : Calls Try.prog 13 #[.int .i64 s, .int .i64 z] w fun e w' => e = .returned (.pointer none) ∧ w = w' := by
  by_cases h1 : s < 1
  case pos =>
    clear h
    go_enter Try.func13, Try.ntmps13
    go_wp2
    go_ret
    exact ⟨rfl, rfl⟩
  by_cases h2 : 16384 < s
  case pos =>
    clear h
    go_enter Try.func13, Try.ntmps13
    go_wp2
    go_ret
    exact ⟨rfl, rfl⟩
  by_cases h3 : z < 96
  case pos =>
    clear h
    go_enter Try.func13, Try.ntmps13
    go_wp2
    go_ret
    exact ⟨rfl, rfl⟩
  have h4 : 512 < z := by omega
  clear h
  go_enter Try.func13, Try.ntmps13
  go_wp2
  go_ret
  exact ⟨rfl, rfl⟩
set_option maxRecDepth 100000 in
set_option maxHeartbeats 1000000 in
theorem sectorsNil_any (w : World) : Calls Try.prog 15 #[.pointer none] w fun e w' => e = .returned (.int .i64 0) ∧ w = w' := by
  go_enter Try.func15, Try.ntmps15
  go_wp2
  go_ret
  exact ⟨rfl, rfl⟩
set_option maxRecDepth 100000 in
set_option maxHeartbeats 1000000 in
theorem sizeNil_any (w : World) : Calls Try.prog 16 #[.pointer none] w fun e w' => e = .returned (.int .i64 0) ∧ w = w' := by
  go_enter Try.func16, Try.ntmps16
  go_wp2
  go_ret
  exact ⟨rfl, rfl⟩

set_option maxRecDepth 100000 in
set_option maxHeartbeats 1000000 in
theorem pastLaw_any (w : World) (base : Nat) (v u : Value) (ls : List (List UInt8)) (hv : PastO w base [] v ls) (hu : SRow4 w 0 u ls) (hlen : ls.length ≤ 1000000) (hl : ∀ l ∈ ls, l.length ≤ 1000000) :
    Calls Try.prog 34 #[v, u] w fun e w' => e = .returned (.bool true) ∧ Keep [] w w' := by
  obtain ⟨va, vc, rfl⟩ := hv.form
  obtain ⟨ua, uc, rfl⟩ := hu.form
  obtain ⟨N, hN⟩ : ∃ N, ls.length = N := ⟨_, rfl⟩
  have HV := Lib.hid (And.intro hv (And.intro hu hl))
  rw [hN] at HV hlen ⊢
  have HN := Lib.hid hN
  clear hv hu hl hN
  go_enter Try.func34, Try.ntmps34
  go_wp2
  go_loopw [5] (fun i wr => ∃ k : Nat, k ≤ N ∧ i = .int .i64 k ∧ Hid (Keep [] w wr)) (fun i _ => N - (intOf i).toNat)
  case atStart => exact ⟨0, by omega, rfl, Lib.hid (Keep.refl _ _)⟩
  case round =>
    obtain ⟨k, hk, rfl, HK⟩ := hrel
    rename World => wr
    by_cases hlt : k < N
    · have hki : (k : Int) < (N : Int) := by omega
      have hkl : k < ls.length := by rw [HN.out]; exact hlt
      obtain ⟨vs, h1, h2, h3, h4⟩ := HV.out.1.keep HK.out (by simp)
      have hkv : k < vs.length := by omega
      obtain ⟨gv, rfl, hcv⟩ : ∃ g, va = some ⟨g, 0, none⟩ ∧ wr.cell? ⟨g, k, none⟩ = some vs[k] := by
        have h5 := h1
        rcases h1.2 with ⟨-, h0⟩ | ⟨g, cap, cur, e, -⟩
        · omega
        · cases e
          have := World.ownsRow.cells (g := g) h5 rfl k vs[k] (List.getElem?_eq_getElem hkv)
          rw [Addr.add_lit, Nat.zero_add] at this
          exact ⟨g, rfl, this⟩
      obtain ⟨gu, rfl, -, hcu⟩ := RowE.cells s4lies (HV.out.2.1.keep HK.out (by simp)) (i := k) hkl
      have hcu0 := hcu 0 _ rfl
      simp only [Nat.mul_one, Nat.add_zero] at hcu0
      have hb := (h4 k vs[k] ls[k] (List.getElem?_eq_getElem hkv) (List.getElem?_eq_getElem hkl)).1.bytes (by have := HV.out.2.2 ls[k] (List.getElem_mem hkl); omega)
      obtain ⟨x, hx⟩ : ∃ x, vs[k] = x := ⟨_, rfl⟩
      obtain ⟨l0, hl0⟩ : ∃ l0, ls[k] = l0 := ⟨_, rfl⟩
      rw [hl0] at hb hcu0
      obtain ⟨S, hS⟩ : ∃ S : ByteArray, ⟨l0.toArray⟩ = S := ⟨_, rfl⟩
      rw [hx] at hcv hb
      rw [hS] at hcu0
      have HQ := Lib.hid (And.intro hb hS)
      clear h1 h2 h3 h4 hkv hcu hb hx hS hl0 hkl
      go_upto_region 6 with fail
      refine wp_region_his [] [] (fun _ => 0) (by kernel_rfl) (by kernel_rfl) ?_
      intro w8 hk8 hh
      clear hh
      have y0 : ∀ w', Keep [] w8 w' → w'.cell? ⟨gv, k, none⟩ = some x := fun w' h' => (hk8.trans h').cell (by simp) hcv
      have y1 : ∀ w', Keep [] w8 w' → w'.cell? ⟨gu, k, none⟩ = some (.string S) := fun w' h' => (hk8.trans h').cell (by simp) hcu0
      have q : ∀ w', Keep [] w8 w' → Sem.run Try.prog (convert 42 9 x) w' = .ok (.string S) w' := fun w' h' => by
        have := run_str (P := Try.prog) 42 9 5 Try.underlying42 Try.underlying5 Try.underlying9 (HQ.out.1.keep (hk8.trans h') (by simp))
        rw [HQ.out.2] at this
        exact this
      (repeat (first | (refine his_q rfl rfl (fun K hK => ?_); apply Exists.intro; refine ⟨fun w' hC => ?_, ?_⟩; ((try simp [Sg.upd] at hC); go_simp <;> rfl); go_simp; refine hK _ _ ?_; clear hK K) | (refine his_s rfl (fun K hK => ?_); go_simp; refine hK _ _ ?_; clear hK K)))
      refine his_nil ?_
      have HK8 := Lib.hid (HK.out.trans hk8)
      clear y0 y1 q hk8 hcv hcu0
      go_wp2
      go_roundw
      case rel => exact ⟨k + 1, by omega, by go_num, HK8⟩
      case measure => simp [intOf]; omega
    · have hki : ¬ (k : Int) < (N : Int) := by omega
      go_wp2
      go_ret
      exact ⟨rfl, HK.out⟩
end Go.Proofs.Ytjkjiabfhhnngaa
