import Derived.Test.YtcmkcegnfddccaaFlash14
import Derived.Outline
/-! The walk of the law FlashFast. -/
namespace Go.Proofs.Ytcmkcegnfddccaa
open Go.RowKit Sg
set_option linter.unusedSimpArgs false
set_option linter.unusedVariables false

theorem ownB_from {w : World} {base : Nat} {e : TypeId} {v : Value} {l : List UInt8} (h : OwnB w base e v l) {b : Nat} (hb : v.ownBlock = some b) : base ≤ b := by
  rcases h.2 with ⟨rfl, h0⟩ | ⟨g, cap, cur, rfl, h1, -⟩
  · simp [Value.ownBlock] at hb
  · simp only [Value.ownBlock, Option.some.injEq] at hb
    omega
/-- a device behind so many acts -/
structure Fs (a : Nat) (m : Dev) : Prop where
  n : m.n = 6
  sz : m.sz = 96
  acts : m.acts ≤ a
/-- a device in which a sector has l, and nothing loose -/
structure Ff (k : Nat) (l : List UInt8) (a : Nat) (m : Dev) : Prop where
  fs : Fs a m
  fast : m.fast.getD k [] = l
  loose : ∀ p ∈ m.loose, p.1 ≠ k
theorem Fs.did {a : Nat} {m m' : Dev} {at_ : Int} (h : Fs a m) (d : Did at_ m m') : Fs (a + 1) m' := ⟨d.n.trans h.n, d.sz.trans h.sz, Nat.le_trans d.acts (by have := h.acts; omega)⟩
theorem Ff.did {k : Nat} {l : List UInt8} {a : Nat} {m m' : Dev} {at_ : Int} (h : Ff k l a m) (d : Did at_ m m') (hk : at_ ≠ (k : Int)) : Ff k l (a + 1) m' :=
  ⟨h.fs.did d, (d.keep k hk h.loose).1.trans h.fast, (d.keep k hk h.loose).2⟩
theorem Ff.more {k : Nat} {l : List UInt8} {a : Nat} {m : Dev} (h : Ff k l a m) : Ff k l (a + 1) m := ⟨⟨h.fs.n, h.fs.sz, by have := h.fs.acts; omega⟩, h.fast, h.loose⟩
theorem Ff.crash {k : Nat} {l : List UInt8} {a : Nat} {m : Dev} (h : Ff k l a m) (hk : k < 6) (fates : List Int) : (m.crash fates).read (k : Int) = (l, 0) := by
  have e : (m.crash fates).ready (k : Int) = 0 := by
    show (if (false : Bool) = true then 4 else if 0 ≤ (k : Int) ∧ (k : Int) < (m.n : Int) then 0 else 2) = 0
    rw [if_neg (by simp), if_pos ⟨by omega, by rw [h.fs.n]; omega⟩]
  unfold Dev.read
  rw [e]
  show ((torn m.sz fates m.fast 0 m.loose).getD k [], 0) = _
  rw [torn_other _ _ _ _ _ _ h.loose, h.fast]
theorem Fs.sync {a : Nat} {m : Dev} (h : Fs a m) (k : Nat) (hk : k < 6) : (m.sync.2 = 4 ∧ m.sync.1.down = true) ∨ (m.sync.2 = 0 ∧ m.sync.1.read (k : Int) = (m.sync.1.fast.getD k [], 0) ∧ Ff k (m.sync.1.fast.getD k []) (a + 1) m.sync.1) := by
  unfold Dev.sync
  by_cases h1 : m.down = true
  · rw [if_pos h1]
    exact .inl ⟨rfl, h1⟩
  rw [if_neg h1]
  by_cases h2 : m.act.down = true
  · rw [if_pos h2]
    exact .inl ⟨rfl, h2⟩
  rw [if_neg h2]
  refine .inr ⟨rfl, ?_, ⟨⟨h.n, h.sz, by show m.acts + 1 ≤ _; have := h.acts; omega⟩, rfl, by simp [Dev.synced]⟩⟩
  have e : m.synced.ready (k : Int) = 0 := by
    show (if m.act.down = true then 4 else if 0 ≤ (k : Int) ∧ (k : Int) < (m.n : Int) then 0 else 2) = 0
    rw [if_neg h2, if_pos ⟨by omega, by rw [h.n]; omega⟩]
  show m.synced.read (k : Int) = _
  unfold Dev.read
  rw [e]
  rfl

set_option maxRecDepth 100000 in
set_option maxHeartbeats 1000000 in
set_option maxHeartbeats 8000000 in
theorem flashFastWalk (W : World) (va vs fv : Value) (la ls : List FAct) (n : UInt8) (fl : List Int) (ha : Acts W va la) (hs : Acts W vs ls) (hf : Ints W fv fl) :
    Calls Try.prog 4 #[.agg #[va, vs, .int .u8 (n.toNat : Int), fv]] W fun e W' => e = .returned (.bool true) ∧ Below W.heap.size W W' := by
  obtain ⟨aa, ac, rfl, -⟩ := ha.form
  obtain ⟨sa, sc, rfl, -⟩ := hs.form
  obtain ⟨fa, fc, rfl, hfl⟩ := hf.form
  obtain ⟨w1, hw1⟩ : ∃ w1, W.alloc (.cells #[.slice aa la.length ac, .slice sa ls.length sc, .int .u8 (n.toNat : Int), .slice fa fl.length fc] 42) = w1 := ⟨_, rfl⟩
  have hA : Keep [] W w1 := by rw [← hw1]; exact (Keep.refl [] W).alloc _
  have hB : w1.heap[W.heap.size]? = some (.cells #[.slice aa la.length ac, .slice sa ls.length sc, .int .u8 (n.toNat : Int), .slice fa fl.length fc] 42 (0, 0)) := by rw [← hw1]; exact heap_alloc_new W _
  have g0 := fun w' (h' : Keep [] w1 w') => cell_of_row w' _ 0 _ _ _ (h'.blk (by simp) hB)
  have g1 := fun w' (h' : Keep [] w1 w') => cell_of_row w' _ 1 _ _ _ (h'.blk (by simp) hB)
  have g2 := fun w' (h' : Keep [] w1 w') => cell_of_row w' _ 2 _ _ _ (h'.blk (by simp) hB)
  have g3 := fun w' (h' : Keep [] w1 w') => cell_of_row w' _ 3 _ _ _ (h'.blk (by simp) hB)
  simp at g0 g1 g2 g3
  have G := Lib.hid (And.intro g0 (And.intro g1 (And.intro g2 g3)))
  have HS := Lib.hid (And.intro ha (And.intro hs hf))
  clear g0 g1 g2 g3 ha hs hf hB
  have c0 := G.out.1 w1 (Keep.refl _ _)
  have c1 := G.out.2.1 w1 (Keep.refl _ _)
  have c3 := G.out.2.2.2 w1 (Keep.refl _ _)
  have l1 := light_any w1 _ la (HS.out.1.keep hA)
  have l2 := light_any w1 _ ls (HS.out.2.1.keep hA)
  have cN : Calls Try.prog 21 #[.int .i64 6, .int .i64 96] w1 _ := newDev_any 6 96 (by decide) w1
  have HA := Lib.hid hA
  clear hA
  go_enter Try.func4, Try.ntmps4
  go_wp2_with fail
  refine l1.mono ?_
  rintro e w2 ⟨x, rfl, rfl, hx⟩
  clear l1
  cases x with
  | false =>
    clear hx l2
    go_wp2
    go_ret
    exact ⟨rfl, HA.out.below (Nat.le_refl _) (by simp)⟩
  | true =>
  have hla := hx rfl
  clear hx
  go_wp2_with fail
  refine l2.mono ?_
  rintro e w2 ⟨x, rfl, rfl, hx⟩
  clear l2
  cases x with
  | false =>
    clear hx
    go_wp2
    go_ret
    exact ⟨rfl, HA.out.below (Nat.le_refl _) (by simp)⟩
  | true =>
  have hls := hx rfl
  clear hx
  by_cases hbig : 60 < fl.length
  · have hb' : (60 : Int) < (fl.length : Int) := by omega
    go_wp2
    go_ret
    exact ⟨rfl, HA.out.below (Nat.le_refl _) (by simp)⟩
  have hb' : ¬ (60 : Int) < (fl.length : Int) := by omega
  go_wp2_with fail
  refine cN.mono ?_
  rintro e w2 ⟨g, D, rfl, hD, hk2, hf⟩
  clear cN c0 c1 c3
  have HL := Lib.hid (And.intro hla (And.intro hls hfl))
  clear hla hls hb' hbig hfl hw1
  have HW1 := Lib.hid (HA.out.size)
  go_wp2
  go_loopw [4] (fun i wr => ∃ (j : Nat) (m : Dev) (D' : List Nat), j ≤ la.length ∧ i = .int .i64 j ∧ Hid (DV wr D' g m) ∧ Hid (Fs j m) ∧ Hid (∀ b ∈ D', w1.heap.size ≤ b) ∧ Hid (Keep [] w1 wr)) (fun i _ => la.length - (intOf i).toNat)
  case atStart => exact ⟨0, _, D, by omega, rfl, hD, ⟨rfl, rfl, Nat.zero_le _⟩, hf, hk2⟩
  case round =>
    clear hD hk2 hf
    obtain ⟨j, m, D', hj, rfl, HD, HF, HO, HW⟩ := hrel
    have hacts : m.acts ≤ 1000000000 := by have := HF.out.acts; have := HL.out.1; omega
    have c0 := G.out.1 wr HW.out
    have hj40 : j ≤ 40 := by have := HL.out.1; omega
    by_cases hlt : j < la.length
    · obtain ⟨b, o, rfl, -, -⟩ := HS.out.1.spot (by omega)
      obtain ⟨a0, a1, a2, a3, a4, hok⟩ := HS.out.1.act (HA.out.trans HW.out) hlt
      obtain ⟨q, hq⟩ : ∃ q, la[j] = q := ⟨_, rfl⟩
      rw [hq] at a0 a1 a2 a3 a4 hok
      have hdid := did_any wr D' g m HD.out hacts q.kind q.at_ q.len q.b q.fv q.fates (hok.fates.keep (HA.out.trans HW.out) (by simp)) (fun hn b hb hm => by have := HO.out b hm; have := hok.fates.lt hn b hb; have := HW1.out; omega) hok.len hok.at2
      clear hok hq
      go_wp2_with fail
      refine hdid.mono ?_
      rintro e w4 ⟨rfl, D4, m4, hD4, hd4, hG4, hK4⟩
      clear hdid
      obtain ⟨hkw4, hf4⟩ := dev_step HW.out HO.out hG4 hK4
      have HH := Lib.hid (And.intro hD4 (And.intro (HF.out.did hd4) (And.intro hf4 hkw4)))
      clear hD4 hd4 hG4 hK4 hkw4 hf4 c0 a0 a1 a2 a3 a4
      go_wp2
      go_roundw
      case rel => exact ⟨j + 1, m4, D4, by omega, by go_num, HH.out.1, HH.out.2.1, HH.out.2.2.1, HH.out.2.2.2⟩
      case measure => simp [intOf]; omega
    · have c2 := G.out.2.2.1 wr HW.out
      obtain ⟨k, hk⟩ : ∃ k, n.toNat % 6 = k := ⟨_, rfl⟩
      have hk6 : k < 6 := by omega
      have hmod : ((n.toNat : Int).tmod 6) = (k : Int) := by rw [Int.tmod_eq_emod_of_nonneg (by omega)]; omega
      have hn8 := n.toNat_lt
      have hsync := sync_any wr D' g m HD.out hacts
      have hor := HF.out.sync k hk6
      clear hk
      generalize m.sync.2 = code at *
      generalize m.sync.1 = m4 at *
      rcases hor with ⟨rfl, hdn⟩ | ⟨rfl, hrd, hff⟩
      · have hdc := fun w D h => down_any w D g m4 h
        rw [hdn] at hdc
        go_wp2_with fail
        refine hsync.mono ?_
        rintro e w4 ⟨rfl, D4, hD4, hG4, hK4⟩
        clear hsync
        obtain ⟨hkw4, hf4⟩ := dev_step HW.out HO.out hG4 hK4
        have hdc4 := hdc w4 D4 hD4
        clear hdc hD4 hG4 hK4 hf4 c0 c2
        go_wp2_with fail
        refine hdc4.mono ?_
        rintro e w5 ⟨rfl, rfl⟩
        clear hdc4
        go_wp2_with fail
        refine (awake04_any _).mono ?_
        rintro e w5 ⟨rfl, hk5⟩
        go_wp2
        go_ret
        exact ⟨rfl, ((HA.out.trans hkw4).trans hk5).below (Nat.le_refl _) (by simp)⟩
      · go_wp2_with fail
        refine hsync.mono ?_
        rintro e w4 ⟨rfl, D4, hD4, hG4, hK4⟩
        clear hsync
        obtain ⟨hkw4, hf4⟩ := dev_step HW.out HO.out hG4 hK4
        have h40 := HL.out.1
        have hrc := read_any w4 D4 g m4 hD4 (by have := hff.fs.acts; omega) (k : Int)
        rw [hrd] at hrc
        have hll : (m4.fast.getD k []).length = 96 := by
          have hw4 := hD4.1
          have hkf : k < m4.fast.length := by rw [hw4.fl, hff.fs.n]; exact hk6
          rw [List.getD_eq_getElem?_getD, List.getElem?_eq_getElem hkf, Option.getD_some, hw4.fs k hkf, hff.fs.sz]
        clear hrd
        obtain ⟨L, hL⟩ : ∃ L, m4.fast.getD k [] = L := ⟨_, rfl⟩
        rw [hL] at hll hrc hff
        clear hL hG4 hK4 c0 c2 h40
        go_wp2_with fail
        refine hrc.mono ?_
        rintro e w5 ⟨v5, rfl, ho5, hk5⟩
        clear hrc
        have hD5 := hD4.keep hk5 (by simp)
        have hkw5 := hkw4.trans hk5
        have hnd : ∀ b, v5.ownBlock = some b → b ∉ D4 := fun b hb hm => by
          have h1 := hD4.lt b hm
          have h2 := ownB_from ho5 hb
          omega
        obtain ⟨va5, vc5, rfl⟩ := ownsRow_form ho5
        have HB5 := Lib.hid (And.intro hkw5 (And.intro (ho5.bytes (by omega)) (And.intro hD5 (And.intro hff (And.intro hf4 hnd)))))
        have HLL := Lib.hid hll
        clear hD4 hD5 hkw4 hkw5 ho5 hk5 hll hff hf4 hnd
        go_wp2
        go_loopw [8] (fun i wr => ∃ (j2 : Nat) (m : Dev) (D' : List Nat), j2 ≤ ls.length ∧ i = .int .i64 j2 ∧ Hid (DV wr D' g m) ∧ Hid (Ff k L (la.length + 1 + j2) m) ∧ Hid (Grew w5 D4 D') ∧ Hid (Keep D4 w5 wr)) (fun i _ => ls.length - (intOf i).toNat)
        case atStart =>
          refine ⟨0, m4, D4, by omega, rfl, HB5.out.2.2.1, ?_, Grew.refl _ _, Keep.refl _ _⟩
          have := HB5.out.2.2.2.1
          rw [show j = la.length by omega] at this
          exact this
        case round =>
          clear HW HD HF HO hacts
          obtain ⟨j2, m2, D2, hj2, rfl, HD2, HF2, HG2, HW2⟩ := hrel
          have hj41 : j2 ≤ 40 := by have := HL.out.2.1; omega
          have hacts2 : m2.acts ≤ 1000000000 := by have := HF2.out.fs.acts; have := HL.out.1; omega
          have hkw2 : Keep [] w1 wr := HB5.out.1.trans' HW2.out (fun b hb => .inr (HB5.out.2.2.2.2.1 b hb))
          have hf2 : ∀ b ∈ D2, w1.heap.size ≤ b := fun b hb => (HG2.out.2 b hb).elim (HB5.out.2.2.2.2.1 b) (fun h => Nat.le_trans HB5.out.1.size h)
          have HKW2 := Lib.hid (And.intro hkw2 hf2)
          clear hkw2 hf2
          have c1 := G.out.2.1 wr HKW2.out.1
          by_cases hlt2 : j2 < ls.length
          · obtain ⟨b, o, rfl, -, -⟩ := HS.out.2.1.spot (by omega)
            obtain ⟨a0, a1, a2, a3, a4, hok⟩ := HS.out.2.1.act (HA.out.trans HKW2.out.1) hlt2
            obtain ⟨q, hq⟩ : ∃ q, ls[j2] = q := ⟨_, rfl⟩
            rw [hq] at a0 a1 a2 a3 a4 hok
            have hdid := did_any wr D2 g m2 HD2.out hacts2 q.kind q.at_ q.len q.b q.fv q.fates (hok.fates.keep (HA.out.trans HKW2.out.1) (by simp)) (fun hn b hb hm => by have := HKW2.out.2 b hm; have := hok.fates.lt hn b hb; have := HW1.out; omega) hok.len hok.at2
            clear hok hq
            by_cases hat : q.at_ = (k : Int)
            · have t1 : (q.at_ == (k : Int)) = true := by simpa using hat
              have t2 : (q.at_ != (k : Int)) = false := by simpa using hat
              clear hat
              go_wp2
              go_roundw
              case rel => exact ⟨j2 + 1, m2, D2, by omega, by go_num, HD2.out, HF2.out.more, HG2.out, HW2.out⟩
              case measure => simp [intOf]; omega
            · have t1 : (q.at_ == (k : Int)) = false := by simpa using hat
              have t2 : (q.at_ != (k : Int)) = true := by simpa using hat
              have HAT := Lib.hid hat
              clear hat
              go_wp2_with fail
              refine hdid.mono ?_
              rintro e w4 ⟨rfl, D4', m4', hD4, hd4, hG4, hK4⟩
              clear hdid
              have HH := Lib.hid (And.intro hD4 (And.intro (HF2.out.did hd4 HAT.out) (And.intro (HG2.out.trans hG4 HW2.out.size) (keep_bump HW2.out hK4 HG2.out.2))))
              clear hD4 hd4 hG4 hK4 c1 a0 a1 a2 a3 a4
              go_wp2
              go_roundw
              case rel => exact ⟨j2 + 1, m4', D4', by omega, by go_num, HH.out.1, HH.out.2.1, HH.out.2.2.1, HH.out.2.2.2⟩
              case measure => simp [intOf]; omega
          · have c3 := G.out.2.2.2 wr HKW2.out.1
            have hcr := crash_any wr D2 g m2 HD2.out hacts2 _ fl (HS.out.2.2.keep (HA.out.trans HKW2.out.1) (by simp)) (fun hn b hb hm => by have := HKW2.out.2 b hm; have := HS.out.2.2.lt hn b hb; have := HW1.out; omega)
            have hrd := HF2.out.crash hk6 fl
            have hac : (m2.crash fl).acts ≤ 1000000000 := hacts2
            go_wp2_with fail
            refine hcr.mono ?_
            rintro e w6 ⟨rfl, D6, hD6, hG6, hK6⟩
            clear hcr
            have hrc := read_any w6 D6 g _ hD6 hac (k : Int)
            rw [hrd] at hrc
            have hB6 := HB5.out.2.1.keep (keep_bump HW2.out hK6 HG2.out.2) HB5.out.2.2.2.2.2
            have hkw6 : Keep [] w1 w6 := HKW2.out.1.trans' hK6 (fun b hb => .inr (HKW2.out.2 b hb))
            clear hrd hac hG6 hK6 hacts2 c1 c3
            generalize m2.crash fl = m6 at *
            go_wp2_with fail
            refine hrc.mono ?_
            rintro e w7 ⟨v7, rfl, ho7, hk7⟩
            clear hrc
            have hB7 := hB6.keep hk7 (by simp)
            have hb7 := ho7.bytes (by have := HLL.out; omega)
            have hkw7 := hkw6.trans hk7
            obtain ⟨va7, vc7, rfl⟩ := ownsRow_form ho7
            have HK7 := Lib.hid hkw7
            clear ho7 hk7 hB6 hkw6 hD6 hkw7
            have q5 := run_str (P := Try.prog) 23 9 5 Try.underlying23 Try.underlying5 Try.underlying9 hB7
            have q7 := run_str (P := Try.prog) 23 9 5 Try.underlying23 Try.underlying5 Try.underlying9 hb7
            clear hB7 hb7
            generalize (⟨L.toArray⟩ : ByteArray) = SL at *
            go_wp2_with fail
            refine (awake04_any _).mono ?_
            rintro e w8 ⟨rfl, hk8⟩
            clear q5 q7
            go_wp2
            go_ret
            exact ⟨rfl, ((HA.out.trans HK7.out).trans hk8).below (Nat.le_refl _) (by simp)⟩
end Go.Proofs.Ytcmkcegnfddccaa
