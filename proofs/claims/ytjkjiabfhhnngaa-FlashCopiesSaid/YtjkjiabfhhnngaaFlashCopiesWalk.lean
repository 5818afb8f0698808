import Derived.Test.YtjkjiabfhhnngaaFlashCopy2
import Derived.Test.YtjkjiabfhhnngaaFlash14
import Derived.Test.YtjkjiabfhhnngaaFlashPast
import Derived.Outline
/-! The walk of the law FlashCopies. -/
namespace Go.Proofs.Ytjkjiabfhhnngaa
open Go.RowKit Sg
set_option linter.unusedSimpArgs false
set_option linter.unusedVariables false

theorem ownB_fr {w : World} {base : Nat} {e : TypeId} {v : Value} {l : List UInt8} (h : OwnB w base e v l) {b : Nat} (hb : v.ownBlock = some b) : base ≤ b := cpFrom h hb
/-- a device behind so many acts -/
structure Fc (a : Nat) (m : Dev) : Prop where
  n : m.n = 6
  sz : m.sz = 96
  acts : m.acts ≤ a
theorem Fc.did {a : Nat} {m m' : Dev} {at_ : Int} (h : Fc a m) (d : Did at_ m m') : Fc (a + 1) m' := ⟨d.n.trans h.n, d.sz.trans h.sz, Nat.le_trans d.acts (by have := h.acts; omega)⟩
theorem Fc.crashPut {a : Nat} {m : Dev} (h : Fc a m) (l : List UInt8) (hl : l.length = 96) : (m.crash []).put 0 l = ((m.crash []).write 0 l, 0) := by
  have e : (m.crash []).ready 0 = 0 := by
    show (if (false : Bool) = true then 4 else if (0 : Int) ≤ 0 ∧ (0 : Int) < (m.n : Int) then 0 else 2) = 0
    rw [if_neg (by simp), if_pos ⟨by omega, by rw [h.n]; omega⟩]
  have e2 : ¬ l.length ≠ (m.crash []).sz := by
    have : (m.crash []).sz = m.sz := rfl
    rw [this, h.sz, hl]
    simp
  unfold Dev.put
  rw [e, if_neg (by simp), if_neg e2]
  rfl
theorem Fc.crashRead {a : Nat} {m : Dev} (h : Fc a m) (l : List UInt8) : ((m.crash []).write 0 l).read 0 = (l, 0) := by
  have e : ((m.crash []).write 0 l).ready 0 = 0 := by
    show (if (if 0 < (0 : Nat) then decide ((0 : Nat) = 1) else false) = true then 4 else if (0 : Int) ≤ 0 ∧ (0 : Int) < (m.n : Int) then 0 else 2) = 0
    rw [if_neg (by simp), if_pos ⟨by omega, by rw [h.n]; omega⟩]
  unfold Dev.read
  rw [e]
  simp [Dev.get, Dev.write, lastOf, Dev.crash]
theorem Fc.crashPast {a : Nat} {m : Dev} (h : Fc a m) (hw : m.Wf) (l : List UInt8) : ∃ r, ((m.crash []).write 0 l).pasts 0 = l :: r := by
  have hp : 0 < m.past.length := by rw [hw.pl, h.n]; omega
  have hn : (0 : Int) < (((m.crash []).write 0 l).n : Int) := by
    show (0 : Int) < (m.n : Int)
    rw [h.n]
    decide
  unfold Dev.pasts
  rw [if_pos ⟨by omega, hn⟩]
  simp only [Dev.write, Dev.crash, Dev.act]
  rw [List.getD_eq_getElem?_getD, List.getElem?_modify]
  simp [List.getElem?_eq_getElem hp]

set_option maxRecDepth 100000 in
set_option maxHeartbeats 1000000 in
set_option maxHeartbeats 8000000 in
theorem flashCopiesWalk (W : World) (va vm : Value) (la lm : List FAct) (ha : Acts W va la) (hm : Acts W vm lm) :
    Calls Try.prog 4 #[va, vm] W fun e W' => e = .returned (.bool true) ∧ Below W.heap.size W W' := by
  obtain ⟨aa, ac, rfl, -⟩ := ha.form
  obtain ⟨ma, mc, rfl, -⟩ := hm.form
  have HS := Lib.hid (And.intro ha hm)
  clear ha hm
  have l1 := light_any W _ la HS.out.1
  have l2 := light_any W _ lm HS.out.2
  have cN : Calls Try.prog 13 #[.int .i64 6, .int .i64 96] W _ := newDev_any 6 96 (by decide) W
  go_enter Try.func4, Try.ntmps4
  go_wp2_with fail
  refine l1.mono ?_
  rintro e w2 ⟨x, rfl, rfl, hx⟩
  clear l1
  cases x with
  | false =>
    clear hx l2
    go_wp2
    go_ret
    exact ⟨rfl, Below.refl _ _⟩
  | true =>
  have hla := hx rfl
  clear hx
  go_wp2_with fail
  refine l2.mono ?_
  rintro e w2 ⟨x, rfl, rfl, hx⟩
  clear l2
  cases x with
  | false =>
    clear hx
    go_wp2
    go_ret
    exact ⟨rfl, Below.refl _ _⟩
  | true =>
  have hlm := hx rfl
  clear hx
  go_wp2_with fail
  refine cN.mono ?_
  rintro e w2 ⟨g, D, rfl, hD, hk2, hf⟩
  clear cN
  have HL := Lib.hid (And.intro hla hlm)
  clear hla hlm
  go_wp2
  go_loopw [6] (fun i wr => ∃ (j : Nat) (m : Dev) (D' : List Nat), j ≤ la.length ∧ i = .int .i64 j ∧ Hid (DV wr D' g m) ∧ Hid (Fc j m) ∧ Hid (∀ b ∈ D', W.heap.size ≤ b) ∧ Hid (Keep [] W wr)) (fun i _ => la.length - (intOf i).toNat)
  case atStart => exact ⟨0, _, D, by omega, rfl, hD, ⟨rfl, rfl, Nat.zero_le _⟩, hf, hk2⟩
  case round =>
    clear hD hk2 hf
    obtain ⟨j, m, D', hj, rfl, HD, HF, HO, HW⟩ := hrel
    have hacts : m.acts ≤ 40 := by have := HF.out.acts; have := HL.out.1; omega
    have hj40 : j ≤ 40 := by have := HL.out.1; omega
    by_cases hlt : j < la.length
    · obtain ⟨b, o, rfl, -, -⟩ := HS.out.1.spot (by omega)
      obtain ⟨a0, a1, a2, a3, a4, hok⟩ := HS.out.1.act HW.out hlt
      obtain ⟨q, hq⟩ : ∃ q, la[j] = q := ⟨_, rfl⟩
      rw [hq] at a0 a1 a2 a3 a4 hok
      have hdid := did_any wr D' g m HD.out (by omega) q.kind q.at_ q.len q.b q.fv q.fates (hok.fates.keep HW.out (by simp)) (fun hn b hb hm => by have := HO.out b hm; have := hok.fates.lt hn b hb; omega) hok.len hok.at2
      clear hok hq
      go_wp2_with fail
      refine hdid.mono ?_
      rintro e w4 ⟨rfl, D4, m4, hD4, hd4, hG4, hK4⟩
      clear hdid
      obtain ⟨hkw4, hf4⟩ := dev_step HW.out HO.out hG4 hK4
      have HH := Lib.hid (And.intro hD4 (And.intro (HF.out.did hd4) (And.intro hf4 hkw4)))
      clear hD4 hd4 hG4 hK4 hkw4 hf4 a0 a1 a2 a3 a4
      go_wp2
      go_roundw
      case rel => exact ⟨j + 1, m4, D4, by omega, by go_num, HH.out.1, HH.out.2.1, HH.out.2.2.1, HH.out.2.2.2⟩
      case measure => simp [intOf]; omega
    · have hcp := copy_any wr D' g m HD.out (by omega)
      go_wp2_with fail
      refine hcp.mono ?_
      rintro e w4 ⟨gc, Dc, rfl, hDc, hsc, hk4⟩
      clear hcp
      have hd4 := HD.out.keep hk4 (by simp)
      have hcp := copy_any w4 D' g m hd4 (by omega)
      go_wp2_with fail
      refine hcp.mono ?_
      rintro e w5 ⟨ge, De, rfl, hDe, hse, hk5⟩
      clear hcp
      have HD5 := Lib.hid (hd4.keep hk5 (by simp))
      have HC5 := Lib.hid (hDc.keep hk5 (by simp))
      have HE5 := Lib.hid hDe
      have HK5 := Lib.hid (HW.out.trans (hk4.trans hk5))
      have HLT := Lib.hid (And.intro HD.out.lt hDc.lt)
      -- of the copy's blocks those that are also the others' are bytes
      have u8k : ∀ {a b : World} {x : Nat}, Keep [] a b → isU8 a x = true → isU8 b x = true := fun {a b x} k h => by
        obtain ⟨cs, fr, h1⟩ := isU8_inv h
        exact isU8_of (k.blk (by simp) h1)
      have HSD := Lib.hid (show ∀ b ∈ Dc, b ∈ D' → isU8 w5 b = true from fun b hb hb' => by
        rcases hsc b hb with h | h
        · exact u8k (hk4.trans hk5) h.2
        · have := HD.out.lt b hb'
          omega)
      have HSE := Lib.hid (show ∀ b ∈ Dc, b ∈ De → isU8 w5 b = true from fun b hb hb' => by
        rcases hse b hb' with h | h
        · exact u8k hk5 h.2
        · have := hDc.lt b hb
          omega)
      have HFD := Lib.hid (show ∀ b ∈ Dc, W.heap.size ≤ b from fun b hb => by
        rcases hsc b hb with h | h
        · exact HO.out b h.1
        · have := HW.out.size
          omega)
      clear hd4 hDc hDe hsc hse hk4 hk5 u8k HD HW
      go_wp2
      go_loopw [9] (fun i wr => ∃ (j2 : Nat) (mq : Dev) (Dq : List Nat), j2 ≤ lm.length ∧ i = .int .i64 j2 ∧ Hid (DV wr Dq gc mq) ∧ Hid (Fc (40 + j2) mq) ∧ Hid (Grew w5 Dc Dq) ∧ Hid (KeepU Dc w5 wr)) (fun i _ => lm.length - (intOf i).toNat)
      case atStart => exact ⟨0, m, Dc, by omega, rfl, HC5, ⟨HF.out.n, HF.out.sz, by omega⟩, Grew.refl _ _, KeepU.refl _ _⟩
      case round =>
        clear HC5
        obtain ⟨j2, mq, Dq, hj2, rfl, HD2, HF2, HG2, HW2⟩ := hrel
        have hj41 : j2 ≤ 40 := by have := HL.out.2; omega
        have hacts2 : mq.acts ≤ 1000000000 := by have := HF2.out.acts; omega
        have HKW := Lib.hid (HK5.out.trans' HW2.out.toKeep (fun b hb => .inr (HFD.out b hb)))
        by_cases hlt2 : j2 < lm.length
        · obtain ⟨b, o, rfl, -, -⟩ := HS.out.2.spot (by omega)
          obtain ⟨a0, a1, a2, a3, a4, hok⟩ := HS.out.2.act HKW.out hlt2
          obtain ⟨q, hq⟩ : ∃ q, lm[j2] = q := ⟨_, rfl⟩
          rw [hq] at a0 a1 a2 a3 a4 hok
          have hdid := didB_any wr Dq gc mq HD2.out hacts2 q.kind q.at_ q.len q.b q.fv q.fates (hok.fates.keep HKW.out (by simp)) (fun hn b hb hm => by
            have h1 := hok.fates.lt hn b hb
            rcases HG2.out.2 b hm with h | h
            · have := HFD.out b h
              omega
            · have := HK5.out.size
              omega) hok.len hok.at2
          clear hok hq
          go_wp2_with fail
          refine hdid.mono ?_
          rintro e w6 ⟨rfl, D6, m6, hD6, hd6, hG6, hK6⟩
          clear hdid
          have HH := Lib.hid (And.intro hD6 (And.intro (HF2.out.did hd6) (And.intro (HG2.out.trans hG6 HW2.out.size) (HW2.out.more hK6 HG2.out))))
          clear hD6 hd6 hG6 hK6 a0 a1 a2 a3 a4
          go_wp2
          go_roundw
          case rel => exact ⟨j2 + 1, m6, D6, by omega, by go_num, HH.out.1, HH.out.2.1, HH.out.2.2.1, HH.out.2.2.2⟩
          case measure => simp [intOf]; omega
        · have HD7 := Lib.hid (HD5.out.apart HW2.out HSD.out)
          have HE7 := Lib.hid (HE5.out.apart HW2.out HSE.out)
          have HWF := Lib.hid (HD5.out.1)
          clear HD5 HE5 HSD HSE HW2 HG2 HD2 HF2 HFD HK5
          have h40 := HL.out.1
          go_wp2
          go_loopw [10] (fun i wr => ∃ (k : Nat), k ≤ 6 ∧ i = .int .i64 k ∧ Hid (DV wr D' g m) ∧ Hid (DV wr De ge m) ∧ Hid (Keep [] W wr)) (fun i _ => 6 - (intOf i).toNat)
          case atStart => exact ⟨0, by omega, rfl, HD7, HE7, HKW⟩
          case round =>
            clear HD7 HE7 HKW
            obtain ⟨k, hk, rfl, HD, HE, HW⟩ := hrel
            by_cases hlt3 : k < 6
            · have hr1 := read_any wr D' g m HD.out (by omega) (k : Int)
              obtain ⟨L, code, hL⟩ : ∃ L code, m.read (k : Int) = (L, code) := ⟨_, _, rfl⟩
              have hLl : L.length ≤ 96 := by
                have h1 := HF.out.sz
                have hw := HD.out.1
                have h2 : L = (m.read (k : Int)).1 := by rw [hL]
                rw [h2]
                unfold Dev.read
                split
                · simp
                · rw [Dev.get_length hw (by have := HF.out.n; omega), h1]
                  omega
              rw [hL] at hr1
              go_wp2_with fail
              refine hr1.mono ?_
              rintro e w8 ⟨v8, rfl, ho8, hk8⟩
              clear hr1
              have hr2 := read_any w8 De ge m (HE.out.keep hk8 (by simp)) (by omega) (k : Int)
              rw [hL] at hr2
              obtain ⟨a8, c8, rfl⟩ := ownsRow_form ho8
              go_wp2_with fail
              refine hr2.mono ?_
              rintro e w9 ⟨v9, rfl, ho9, hk9⟩
              clear hr2
              obtain ⟨a9, c9, rfl⟩ := ownsRow_form ho9
              have hb8 := (ho8.bytes (by omega)).keep hk9 (by simp)
              have hb9 := ho9.bytes (by omega)
              have HB := Lib.hid (And.intro hb8 hb9)
              have HD9 := Lib.hid (HD.out.keep (hk8.trans hk9) (by simp))
              have HE9 := Lib.hid (HE.out.keep (hk8.trans hk9) (by simp))
              have HK9 := Lib.hid (HW.out.trans (hk8.trans hk9))
              clear ho8 ho9 hk8 hk9 hb8 hb9 hL HD HE HW
              have q8 := run_str (P := Try.prog) 42 9 5 Try.underlying42 Try.underlying5 Try.underlying9 HB.out.1
              have q9 := run_str (P := Try.prog) 42 9 5 Try.underlying42 Try.underlying5 Try.underlying9 HB.out.2
              generalize (⟨L.toArray⟩ : ByteArray) = SL at *
              have hp1 := past_any w9 D' g m HD9.out (by omega) (k : Int)
              go_wp2_with fail
              refine hp1.mono ?_
              clear hp1 q8 q9
              rintro e w10 ⟨v10, rfl, ho10, hk10⟩
              have hp2 := past_any w10 De ge m (HE9.out.keep hk10 (by simp)) (by omega) (k : Int)
              obtain ⟨a10, c10, rfl⟩ := ho10.form
              clear ho10
              go_wp2_with fail
              refine hp2.mono ?_
              clear hp2
              rintro e w11 ⟨v11, rfl, ho11, hk11⟩
              obtain ⟨a11, c11, rfl⟩ := ho11.form
              clear ho11
              have HH := Lib.hid (And.intro (HD9.out.keep (hk10.trans hk11) (by simp)) (And.intro (HE9.out.keep (hk10.trans hk11) (by simp)) (HK9.out.trans (hk10.trans hk11))))
              clear HD9 HE9 HK9 hk10 hk11
              go_wp2
              go_roundw
              case rel => exact ⟨k + 1, by omega, by go_num, HH.out.1, HH.out.2.1, HH.out.2.2⟩
              case measure => simp [intOf]; omega
            · have hcr := crash_any wr D' g m HD.out (by omega) _ [] (Ints.nil wr) (fun h => absurd rfl h)
              have HF' := HF
              go_wp2_with fail
              refine hcr.mono ?_
              clear hcr
              rintro e w8 ⟨rfl, D8, hD8, hG8, hK8⟩
              obtain ⟨hkw8, hf8⟩ := dev_step HW.out HO.out hG8 hK8
              clear hG8 hK8 HE HD HW
              have hfu := full_any 7 96 (by decide) w8
              go_wp2_with fail
              refine hfu.mono ?_
              clear hfu
              rintro e w9 ⟨v9, rfl, ho9, hk9⟩
              obtain ⟨L7, hL7⟩ : ∃ L7, List.replicate 96 (7 : UInt8) = L7 := ⟨_, rfl⟩
              have hl7 : L7.length = 96 := by rw [← hL7]; rfl
              have hD9 := hD8.keep hk9 (by simp)
              have hwr := write_any w9 D8 g (m.crash []) hD9 (show m.acts ≤ _ by omega) 0 v9 L7 (by rw [← hL7]; exact ho9.bytes (by decide))
              rw [HF.out.crashPut L7 hl7] at hwr
              have hrd := HF.out.crashRead L7
              obtain ⟨pr, hpr⟩ := HF.out.crashPast (m := m) HWF.out L7
              have hmw := hD9.lt
              generalize hm1 : (m.crash []).write 0 L7 = m1 at hwr hrd hpr
              have hm1a : m1.acts ≤ 100 := by rw [← hm1]; show m.acts + 1 ≤ 100; omega
              clear hm1
              rw [hL7] at ho9
              obtain ⟨gx, cx, rfl, hgx, hgx2⟩ : ∃ gx cx, v9 = .slice (some ⟨gx, 0, none⟩) 96 cx ∧ w8.heap.size ≤ gx ∧ gx < w9.heap.size := by
                have h1 := fun b hb => ownB_fr ho9 (b := b) hb
                have h2 := fun b hb => ownsRow_lt ho9 (b := b) hb
                rcases ho9.2 with ⟨-, h0⟩ | ⟨g', cp, cur, rfl, hb, -⟩
                · omega
                · exact ⟨g', cp, by rw [hl7], hb, h2 _ rfl⟩
              have hlt8 : ∀ b ∈ D8, b < w8.heap.size := hD8.lt
              go_wp2_with fail
              refine hwr.mono ?_
              clear hwr
              rintro e w10 ⟨rfl, D10, hD10, hG10, hK10⟩
              have hx10 : gx ∉ D10 := fun h => by
                rcases hG10.2 _ h with h | h
                · have := hlt8 _ h
                  omega
                · omega
              have ho10 := ho9.keep hK10 (fun b hb h => by
                simp [Value.ownBlock] at hb
                subst hb
                have := hlt8 _ h
                omega)
              obtain ⟨yv, y0⟩ : ∃ yv, w10.cell? ⟨gx, 0, none⟩ = some yv := ⟨_, ho10.cell (j := 0) (by omega)⟩
              have z0 := ho10.free 0
              obtain ⟨w11, hw11⟩ : ∃ w11, w10.setCell ⟨gx, 0, none⟩ (.int .u8 9) = w11 := ⟨_, rfl⟩
              have hk11 : Keep [gx] w10 w11 := by rw [← hw11]; exact (Keep.refl _ _).setCell (.inl (by simp)) _
              have hD11 := hD10.keep hk11 (fun b hb => by rw [List.mem_singleton] at hb; rw [hb]; exact hx10)
              have hkw11 : Keep [] W w11 := ((hkw8.trans hk9).trans' hK10 (fun b hb => .inr (hf8 b hb))).trans' hk11 (fun b hb => .inr (by
                rw [List.mem_singleton] at hb
                have := hkw8.size
                omega))
              have HD11 := Lib.hid hD11
              have HK11 := Lib.hid hkw11
              have HLL := Lib.hid (And.intro hl7 (And.intro hL7 hm1a))
              have hrc := read_any w11 D10 g m1 HD11.out (by omega) 0
              rw [hrd] at hrc
              clear hD8 hD9 hD10 hD11 hkw8 hf8 ho9 hk9 hmw hgx hgx2 hlt8 hG10 hK10 hx10 ho10 hk11 hkw11 hl7 hL7 hm1a
              go_wp2_with fail
              refine hrc.mono ?_
              clear hrc
              rintro e w12 ⟨v12, rfl, ho12, hk12⟩
              obtain ⟨gy, cy, rfl, hgy, hgy2⟩ : ∃ gy cy, v12 = .slice (some ⟨gy, 0, none⟩) 96 cy ∧ w11.heap.size ≤ gy ∧ gy < w12.heap.size := by
                have h2 := fun b hb => ownsRow_lt ho12 (b := b) hb
                have := HLL.out.1
                rcases ho12.2 with ⟨-, h0⟩ | ⟨g', cp, cur, rfl, hb, -⟩
                · omega
                · exact ⟨g', cp, by rw [HLL.out.1], hb, h2 _ rfl⟩
              obtain ⟨yv, y1⟩ : ∃ yv, w12.cell? ⟨gy, 1, none⟩ = some yv := ⟨_, ho12.cell (j := 1) (by have := HLL.out.1; omega)⟩
              have z1 := ho12.free 1
              obtain ⟨w13, hw13⟩ : ∃ w13, w12.setCell ⟨gy, 1, none⟩ (.int .u8 9) = w13 := ⟨_, rfl⟩
              have hk13 : Keep [gy] w12 w13 := by rw [← hw13]; exact (Keep.refl _ _).setCell (.inl (by simp)) _
              have hk113 : Keep [] w11 w13 := hk12.trans' hk13 (fun b hb => .inr (by rw [List.mem_singleton] at hb; omega))
              have HD13 := Lib.hid (HD11.out.keep hk113 (by simp))
              have HK13 := Lib.hid (HK11.out.trans hk113)
              clear hk113 hk13 ho12 hk12 hgy hgy2
              have hpc := past_any w13 D10 g m1 HD13.out (by have := HLL.out.2.2; omega) 0
              rw [hpr] at hpc
              go_wp2_with fail
              refine hpc.mono ?_
              clear hpc
              rintro e w14 ⟨v14, rfl, ho14, hk14⟩
              obtain ⟨vs, hrow, hvl, -, hvs⟩ := ho14
              have hvl' : vs.length = pr.length + 1 := by rw [hvl]; simp
              have hrow' := hrow
              obtain ⟨gp, cp, cur, rfl, -, hgp, hcs⟩ : ∃ gp cp cur, v14 = .slice (some ⟨gp, 0, none⟩) vs.length cp ∧ w13.heap.size ≤ gp ∧ w14.heap[gp]? = some (.cells cur 42 (0, 0)) ∧ w14.cell? ⟨gp, 0, none⟩ = some vs[0] := by
                rcases hrow'.2 with ⟨-, h0⟩ | ⟨g', cp, cur, e1, hb, hg, -⟩
                · omega
                · refine ⟨g', cp, cur, e1, hb, hg, ?_⟩
                  have := World.ownsRow.cells (g := g') hrow (by rw [e1]; rfl) 0 vs[0] (List.getElem?_eq_getElem (by omega))
                  simpa [Addr.add] using this
              obtain ⟨u0, hu0⟩ : ∃ u0, vs[0] = u0 := ⟨_, rfl⟩
              have hou := (hvs 0 u0 L7 (by rw [List.getElem?_eq_getElem (by omega), hu0]) rfl).1
              rw [hu0] at hcs
              obtain ⟨gu, cu, rfl, hgu⟩ : ∃ gu cu, u0 = .slice (some ⟨gu, 0, none⟩) 96 cu ∧ w13.heap.size ≤ gu := by
                have := HLL.out.1
                rcases hou.2 with ⟨-, h0⟩ | ⟨g', cp, cur, rfl, hb, -⟩
                · omega
                · exact ⟨g', cp, by rw [HLL.out.1], hb⟩
              obtain ⟨yv, y2⟩ : ∃ yv, w14.cell? ⟨gu, 2, none⟩ = some yv := ⟨_, hou.cell (j := 2) (by have := HLL.out.1; omega)⟩
              have z2 := hou.free 2
              obtain ⟨w15, hw15⟩ : ∃ w15, w14.setCell ⟨gu, 2, none⟩ (.int .u8 9) = w15 := ⟨_, rfl⟩
              have hk15 : Keep [gu] w14 w15 := by rw [← hw15]; exact (Keep.refl _ _).setCell (.inl (by simp)) _
              have hk135 : Keep [] w13 w15 := hk14.trans' hk15 (fun b hb => .inr (by rw [List.mem_singleton] at hb; omega))
              have HD15 := Lib.hid (HD13.out.keep hk135 (by simp))
              have HK15 := Lib.hid (HK13.out.trans hk135)
              have hv0 : (0 : Int) < (vs.length : Int) := by omega
              clear hk135 hk15 hk14 hou hvs hrow hrow' hgu hu0 hgp
              have hrc := read_any w15 D10 g m1 HD15.out (by have := HLL.out.2.2; omega) 0
              rw [hrd] at hrc
              go_wp2_with fail
              refine hrc.mono ?_
              clear hrc y2 z2 hw15 hcs
              rintro e w16 ⟨v16, rfl, ho16, hk16⟩
              have hD16 := HD15.out.keep hk16 (by simp)
              have hkw16 := HK15.out.trans hk16
              have hb16 := ho16.bytes (by have := HLL.out.1; omega)
              obtain ⟨a16, c16, rfl⟩ := ownsRow_form ho16
              clear ho16 hk16
              go_upto_region 31 with fail
              refine wp_region_his [] [2, 7, 11, 16] (fun j => if j = 3 then 3 else if j = 9 then 9 else if j = 10 then 10 else if j = 12 then 12 else 0) (by kernel_rfl) (by kernel_rfl) ?_
              intro w17 hk17 hh
              clear hh
              have q16 := fun w' (h' : Keep [] w17 w') => run_str (P := Try.prog) 42 9 5 Try.underlying42 Try.underlying5 Try.underlying9 (hb16.keep (hk17.trans h') (by simp))
              obtain ⟨SL, hSL⟩ : ∃ SL : ByteArray, (⟨L7.toArray⟩ : ByteArray) = SL := ⟨_, rfl⟩
              rw [hSL] at q16
              clear hb16
              (repeat (first | (refine his_q rfl rfl (fun K hK => ?_); apply Exists.intro; refine ⟨fun w' hC => ?_, ?_⟩; ((try simp [Sg.upd] at hC); go_simp <;> rfl); go_simp; refine hK _ _ ?_; clear hK K) | (refine his_s rfl (fun K hK => ?_); go_simp; refine hK _ _ ?_; clear hK K)))
              (refine his_l rfl rfl (fun K hK => ?_); go_simp)
              have hfu : Calls Try.prog 38 #[.int .u8 7, .int .i64 96] w17 _ := full_any 7 96 (by decide) w17
              refine hfu.mono ?_
              clear hfu
              rintro x w18 ⟨v18, rfl, ho18, hk18⟩
              refine hK _ _ hk18 ?_
              clear hK K
              rw [HLL.out.2.1] at ho18
              have hb18 := ho18.bytes (by have := HLL.out.1; omega)
              have q18 := fun w' (h' : Keep [] w18 w') => run_str (P := Try.prog) 42 9 5 Try.underlying42 Try.underlying5 Try.underlying9 (hb18.keep h' (by simp))
              obtain ⟨a18, c18, rfl⟩ := ownsRow_form ho18
              rw [hSL] at q18
              clear ho18 hb18
              (repeat (first | (refine his_q rfl rfl (fun K hK => ?_); apply Exists.intro; refine ⟨fun w' hC => ?_, ?_⟩; ((try simp [Sg.upd] at hC); go_simp <;> rfl); go_simp; refine hK _ _ ?_; clear hK K) | (refine his_s rfl (fun K hK => ?_); go_simp; refine hK _ _ ?_; clear hK K)))
              (refine his_l rfl rfl (fun K hK => ?_); go_simp)
              have hpc := past_any w18 D10 g m1 (hD16.keep (hk17.trans hk18) (by simp)) (by have := HLL.out.2.2; omega) 0
              rw [hpr] at hpc
              refine hpc.mono ?_
              clear hpc
              rintro x w19 ⟨v19, rfl, ho19, hk19⟩
              refine hK _ _ hk19 ?_
              clear hK K
              obtain ⟨vs2, hrow2, hvl2, -, hvs2⟩ := ho19
              have hvl2' : vs2.length = pr.length + 1 := by rw [hvl2]; simp
              have hrow3 := hrow2
              obtain ⟨gq, cq, rfl, hcq⟩ : ∃ gq cq, v19 = .slice (some ⟨gq, 0, none⟩) vs2.length cq ∧ ∀ w', Keep [] w19 w' → w'.cell? ⟨gq, 0, none⟩ = some vs2[0] := by
                rcases hrow3.2 with ⟨-, h0⟩ | ⟨g', cp, cur, e1, hb, hg, -⟩
                · omega
                · refine ⟨g', cp, e1, fun w' h' => h'.cell (by simp) ?_⟩
                  have := World.ownsRow.cells (g := g') hrow2 (by rw [e1]; rfl) 0 vs2[0] (List.getElem?_eq_getElem (by omega))
                  simpa [Addr.add] using this
              obtain ⟨u2, hu2⟩ : ∃ u2, vs2[0] = u2 := ⟨_, rfl⟩
              have hou2 := (hvs2 0 u2 L7 (by rw [List.getElem?_eq_getElem (by omega), hu2]) rfl).1
              rw [hu2] at hcq
              have hb19 := hou2.bytes (by have := HLL.out.1; omega)
              have q19 := fun w' (h' : Keep [] w19 w') => run_str (P := Try.prog) 42 9 5 Try.underlying42 Try.underlying5 Try.underlying9 (hb19.keep h' (by simp))
              obtain ⟨a19, c19, rfl⟩ := ownsRow_form hou2
              rw [hSL] at q19
              have hv2 : (0 : Int) < (vs2.length : Int) := by omega
              clear hou2 hb19 hu2 hrow2 hrow3 hvs2
              (repeat (first | (refine his_q rfl rfl (fun K hK => ?_); apply Exists.intro; refine ⟨fun w' hC => ?_, ?_⟩; ((try simp [Sg.upd] at hC); go_simp <;> rfl); go_simp; refine hK _ _ ?_; clear hK K) | (refine his_s rfl (fun K hK => ?_); go_simp; refine hK _ _ ?_; clear hK K)))
              (refine his_l rfl rfl (fun K hK => ?_); go_simp)
              have hfu : Calls Try.prog 38 #[.int .u8 7, .int .i64 96] w19 _ := full_any 7 96 (by decide) w19
              refine hfu.mono ?_
              clear hfu
              rintro x w20 ⟨v20, rfl, ho20, hk20⟩
              refine hK _ _ hk20 ?_
              clear hK K
              rw [HLL.out.2.1] at ho20
              have hb20 := ho20.bytes (by have := HLL.out.1; omega)
              have q20 := fun w' (h' : Keep [] w20 w') => run_str (P := Try.prog) 42 9 5 Try.underlying42 Try.underlying5 Try.underlying9 (hb20.keep h' (by simp))
              obtain ⟨a20, c20, rfl⟩ := ownsRow_form ho20
              rw [hSL] at q20
              clear ho20 hb20
              (repeat (first | (refine his_q rfl rfl (fun K hK => ?_); apply Exists.intro; refine ⟨fun w' hC => ?_, ?_⟩; ((try simp [Sg.upd] at hC); go_simp <;> rfl); go_simp; refine hK _ _ ?_; clear hK K) | (refine his_s rfl (fun K hK => ?_); go_simp; refine hK _ _ ?_; clear hK K)))
              (refine his_l rfl rfl (fun K hK => ?_); go_simp)
              refine (awake04_any w20).mono ?_
              rintro x w21 ⟨rfl, hk21⟩
              refine hK _ _ hk21 ?_
              clear hK K
              (repeat (first | (refine his_q rfl rfl (fun K hK => ?_); apply Exists.intro; refine ⟨fun w' hC => ?_, ?_⟩; ((try simp [Sg.upd] at hC); go_simp <;> rfl); go_simp; refine hK _ _ ?_; clear hK K) | (refine his_s rfl (fun K hK => ?_); go_simp; refine hK _ _ ?_; clear hK K)))
              refine his_nil ?_
              have hkz := ((hkw16.trans hk17).trans ((hk18.trans hk19).trans hk20)).trans hk21
              clear q16 q18 q19 q20 hcq hk17 hk18 hk19 hk20 hk21 hD16 hkw16
              go_wp2
              go_ret
              exact ⟨rfl, hkz.below (Nat.le_refl _) (by simp)⟩
end Go.Proofs.Ytjkjiabfhhnngaa
