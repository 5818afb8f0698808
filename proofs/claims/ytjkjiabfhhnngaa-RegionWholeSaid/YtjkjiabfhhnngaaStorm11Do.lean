import Derived.Test.YtjkjiabfhhnngaaStorm11Law
import Derived.Test.YtjkjiabfhhnngaaPlay11
import Derived.Test.YtjkjiabfhhnngaaParK
/-! A region's log on a device that may go down: its steps, in plain Lean and in memory. -/
namespace Go.Proofs.Ytjkjiabfhhnngaa
open Go.RowKit Sg
set_option linter.unusedSimpArgs false
set_option linter.unusedVariables false

/-- what was appended stands in what was fast -/
def GS (Fs : Nat → List (List UInt8)) (k : Kp) : Prop := k.a + k.bs.length ≤ (Fs k.q).flatten.length ∧ ((Fs k.q).flatten.drop k.a).take k.bs.length = k.bs
/-- a log and its device, that is up -/
structure Rp (c : Lc) (l : Lg) (m : Dev) (F : Nat → List (List UInt8)) (s0 : Nat) (Fs : Nat → List (List UInt8)) (ks : List Kp) (sure : Nat) : Prop where
  inv : RgInv c l m.calm F
  sr : Sr c l.last m.calm F s0 Fs
  good : ∀ k ∈ ks, GoodK l F k
  gs : ∀ k ∈ ks.take sure, GS Fs k
  sl : sure ≤ ks.length
/-- .. whatever has become of it; rl, the greatest region -/
def Rq (c : Lc) (rl : Nat) (m : Dev) (s0 : Nat) (ks : List Kp) (sure : Nat) : Prop :=
  ∃ (l : Lg) (μ : Dev) (F Fs : Nat → List (List UInt8)), RgCore c l.last μ F ∧ Sr c l.last μ F s0 Fs ∧ Pre m μ ∧ l.last = rl ∧ (∀ k ∈ ks, GoodK l F k) ∧ ∀ k ∈ ks.take sure, GS Fs k
section
variable {c : Lc} {l : Lg} {m : Dev} {F Fs : Nat → List (List UInt8)} {s0 sure : Nat} {ks : List Kp}
theorem Rp.post (h : Rp c l m F s0 Fs ks sure) : Rq c l.last m s0 ks sure := ⟨l, m.calm, F, Fs, h.inv.core, h.sr, Pre.calm m, rfl, h.good, h.gs⟩
theorem Rp.flush (h : Rp c l m F s0 Fs ks sure) (hd : m.down = false) :
    (∃ l' m' F' z, c.flush l m = (l', m', 0) ∧ Rp c l' m' F' s0 Fs ks sure ∧ m'.down = false ∧ l'.last = l.last ∧ l'.pend = [] ∧ l'.at_ = l.at_ + z ∧ z < c.rm ∧ l'.at_ % c.rm = 0 ∧ m'.acts ≤ m.acts + 1) ∨
    (∃ l' m', c.flush l m = (l', m', 4) ∧ m'.down = true ∧ m'.acts ≤ m.acts + 1 ∧ Rq c l.last m' s0 ks sure) := by
  obtain ⟨l', m', F', z, e1, ⟨i1, is⟩, i2, i3, i4, i5, i6, i7, i8, i9, i10⟩ := flush_law2 h.inv h.sr
  have hg : ∀ k ∈ ks, GoodK l' F' k := fun k hk => (h.good k hk).flush (c := c) (m := m.calm) (m' := m') ⟨i2, i3, i4, i5, i6, i7, i8, i9, i10⟩
  have ho := flush_out (c := c) l hd
  rw [e1] at ho
  obtain ⟨L, hL⟩ : ∃ L, c.flush l m = L := ⟨_, rfl⟩
  rw [hL] at ho ⊢
  obtain ⟨L1, L2, L3⟩ := L
  rcases ho with ⟨o1, o2, o3, o4⟩ | ⟨o1, o2, o3⟩
  · simp only at o1 o2 o3 o4
    subst o1 o3
    refine .inl ⟨_, L2, F', z, rfl, ⟨by rw [o2]; exact i1, by rw [o2]; exact is, hg, h.gs, h.sl⟩, o4, i2, i3, i4, i5, i6, ?_⟩
    have : L2.calm.acts = L2.acts := rfl
    rw [o2] at this
    rw [← this]
    exact i8
  · simp only at o1 o2 o3
    subst o1
    exact .inr ⟨L1, L2, rfl, o2, Nat.le_trans o3.acts i8, l', m', F', Fs, i1.core, is, o3, i2, hg, h.gs⟩
theorem Rp.sync (h : Rp c l m F s0 Fs ks sure) (hd : m.down = false) (hp : l.pend = []) :
    (m.sync = (m.synced, 0) ∧ m.synced.down = false ∧ Rp c l m.synced F l.last F ks ks.length) ∨ (m.sync.2 = 4 ∧ Rq c l.last m.sync.1 s0 ks sure) := by
  unfold Dev.sync
  rw [if_neg (by rw [hd]; simp)]
  by_cases h2 : m.act.down = true
  · rw [if_pos h2]
    have e : m.act.calm = m.calm.act := by simp [Dev.calm, Dev.act]
    have hc : RgCore c l.last m.act.calm F := { ok := h.inv.core.ok.of rfl rfl, wf := by rw [e]; exact h.inv.core.wf.act, up := rfl, un := rfl, lastb := h.inv.core.lastb, fl := h.inv.core.fl, fb := h.inv.core.fb, beyond := h.inv.core.beyond, zero := h.inv.core.zero, there := h.inv.core.there, other := h.inv.core.other }
    exact .inr ⟨rfl, l, m.act.calm, F, Fs, hc, ⟨h.sr.ps, h.sr.lo, h.sr.fa, h.sr.pre, h.sr.fb, h.sr.sl⟩, Pre.calm _, rfl, h.good, h.gs⟩
  · rw [if_neg h2]
    refine .inl ⟨rfl, by show m.act.down = false; simpa using h2, ?_⟩
    have e : m.synced.calm = m.calm.synced := by simp [Dev.calm, Dev.synced, Dev.act]
    refine ⟨by rw [e]; exact { core := h.inv.core.sync, pos := h.inv.pos, atl := h.inv.atl }, by rw [e]; exact h.sr.sync h.inv.core.wf h.inv.core, h.good, fun k hk => ?_, Nat.le_refl _⟩
    rw [List.take_length] at hk
    have hg := h.good k hk
    have ec : cont F l k.q = (F k.q).flatten := by unfold cont; rw [hp]; simp
    have h1 := hg.len
    have h3 := hg.at_
    rw [ec] at h1 h3
    exact ⟨h1, h3⟩
theorem Rp.append (h : Rp c l m F s0 Fs ks sure) (hd : m.down = false) (hl : l.last < 4398046511104) (b : List UInt8) (hb0 : 1 ≤ b.length) (hb : b.length ≤ c.S * c.rm) (hb2 : b.length ≤ 1000) :
    ∃ q a : Nat, ((c.S * c.rm < l.at_ + b.length ∧ q = l.last + 1 ∧ a = 0) ∨ (l.at_ + b.length ≤ c.S * c.rm ∧ q = l.last ∧ a = l.at_)) ∧
      ((∃ l' m' F', c.append l m b = (l', m', (q, a, b.length), 0) ∧ Rp c l' m' F' s0 Fs (ks ++ [⟨q, a, b⟩]) sure ∧ m'.down = false ∧ l'.last = q ∧ l'.at_ = a + b.length ∧ m'.acts ≤ m.acts + 1 + b.length) ∨
       (∃ l' m' loc, c.append l m b = (l', m', loc, 4) ∧ m'.down = true ∧ m'.acts ≤ m.acts + 1 + b.length ∧ Rq c q m' s0 ks sure)) := by
  obtain ⟨l', m', F', a, e1, ⟨i1, is⟩, i2, i3, i4, i5, i6, i7, i8, i9, i10⟩ := append_law2 h.inv h.sr hl b hb0 hb
  have st : AppStep c l m.calm F b l' m' F' a := ⟨i2, i3, i4, i5, i6, i7, i8, i9, i10⟩
  have hg : ∀ k ∈ ks, GoodK l' F' k := fun k hk => (h.good k hk).app st
  have hg2 := GoodK.new st hb0 hb2
  have ho := append_out (c := c) l b hd
  rw [e1] at ho
  refine ⟨l'.last, a, by omega, ?_⟩
  obtain ⟨L, hL⟩ : ∃ L, c.append l m b = L := ⟨_, rfl⟩
  rw [hL] at ho ⊢
  obtain ⟨L1, L2, L3, L4⟩ := L
  rcases ho with ⟨o1, o2, o3, o4⟩ | ⟨o1, o2, o3⟩
  · simp only at o1 o2 o3 o4
    injection o3 with o3 o5
    subst o1 o3 o5
    refine .inl ⟨_, L2, F', rfl, ⟨by rw [o2]; exact i1, by rw [o2]; exact is, fun k hk => ?_, fun k hk => ?_, ?_⟩, o4, rfl, i3, ?_⟩
    · rcases List.mem_append.1 hk with hk | hk
      · exact hg k hk
      · rw [List.mem_singleton.1 hk]; exact hg2
    · rw [List.take_append_of_le_length h.sl] at hk
      exact h.gs k hk
    · rw [List.length_append]; have := h.sl; omega
    · have : L2.calm.acts = L2.acts := rfl
      rw [o2] at this
      rw [← this]
      exact i4
  · simp only at o1 o2 o3
    subst o1
    exact .inr ⟨L1, L2, L3, rfl, o2, Nat.le_trans o3.acts i4, l', m', F', Fs, i1.core, is, o3, rfl, hg, h.gs⟩
end

/-- a kept one that is read behind a crash: as it was appended, or it is stale; for sure, if it was fast and may still stand -/
theorem read_crash {c : Lc} {rl : Nat} {m : Dev} {s0 sure : Nat} {ks : List Kp} (h : Rq c rl m s0 ks sure) {fates : List Int} (hcl : Clean (m.crash fates)) (hs0 : s0 ≤ rl) :
    ∃ L : Nat, c.scan (m.crash fates) (c.R * c.S) 0 s0 = (L, 0) ∧ s0 ≤ L ∧ L ≤ rl ∧ ∀ (n i : Nat) (hi : i < ks.length), (c.read ⟨L, n, []⟩ (m.crash fates) (ks[i].q : Int) (ks[i].a : Int) (ks[i].bs.length : Int) = ([], 13) ∧ (i < sure → L < ks[i].q + c.R → rl < ks[i].q + c.R → False)) ∨
      c.read ⟨L, n, []⟩ (m.crash fates) (ks[i].q : Int) (ks[i].a : Int) (ks[i].bs.length : Int) = (ks[i].bs, 0) := by
  obtain ⟨l, μ, F, Fs, hc, hs, hp, rfl, hg, hgs⟩ := h
  obtain ⟨L, e1, e2, e3⟩ := scan_crash (fates := fates) hc hs hp hcl (c.R * c.S) 0 s0 (by omega) hs0
  refine ⟨L, e1, e2, e3, fun n i hi => ?_⟩
  have hm1 := hc.ok.m1
  obtain ⟨k, hk⟩ : ∃ k, ks[i] = k := ⟨_, rfl⟩
  have hkm : k ∈ ks := by rw [← hk]; exact List.getElem_mem hi
  rw [hk]
  have hgk := hg k hkm
  have hld : ∀ q j, c.ld ⟨L, n, []⟩ (m.crash fates) q j true = c.got (m.crash fates) q j := fun q j => by
    unfold Lc.ld
    rw [if_neg]
    rintro ⟨-, -, h3, -⟩
    simp at h3
  by_cases hseen : c.seen ⟨L, n, []⟩ (k.q : Int) (k.a : Int) (k.bs.length : Int)
  · have hse := hseen
    obtain ⟨⟨s1, s2⟩, s3, s4, s5, s6⟩ := hse
    have hrd : c.read ⟨L, n, []⟩ (m.crash fates) (k.q : Int) (k.a : Int) (k.bs.length : Int) = c.rd ⟨L, n, []⟩ (m.crash fates) k.q (pcs c.rm k.bs.length k.a k.bs.length) [] := by
      unfold Lc.read
      rw [if_pos hseen]
      simp only [Int.toNat_natCast]
    rw [hrd]
    have hor := rd_or (c := c) (lo := ⟨L, n, []⟩) (mo := m.crash fates) (q := k.q) (X := F k.q) (by omega) (hc.fb k.q) (fun j hj => by rw [hld]; exact got_crash hc hs hp hcl hj) k.bs.length k.a k.bs.length [] (Nat.le_refl _) (by omega)
    rcases hor with h1 | ⟨h1, h2⟩
    · refine .inl ⟨h1, fun hsu hL hR => ?_⟩
      have hkt : k ∈ ks.take sure := by
        rw [← hk]
        exact List.mem_take_iff_getElem.2 ⟨i, by omega, rfl⟩
      obtain ⟨g1, g2⟩ := hgs k hkt
      have hfb : ∀ b ∈ Fs k.q, b.length = c.rm := fun b hb => hc.fb k.q b ((hs.pre k.q).subset hb)
      have h3 := rd_sure (c := c) (lo := ⟨L, n, []⟩) (mo := m.crash fates) (q := k.q) (X := Fs k.q) (by omega) hfb (fun j hj => by rw [hld]; exact got_sure hc hs hp hj hR) k.bs.length k.a k.bs.length [] (Nat.le_refl _) g1
      rw [h1] at h3
      have := congrArg Prod.snd h3
      simp at this
    · refine .inr ?_
      have hb1 := hgk.b1
      have hlen : k.a + k.bs.length ≤ (F k.q).flatten.length := by omega
      have hat := hgk.at_
      unfold cont at hat
      rw [List.drop_append_of_le_length (by omega), List.take_append_of_le_length (by rw [List.length_drop]; omega)] at hat
      rw [h2, hat]
      rfl
  · refine .inl ⟨by unfold Lc.read; rw [if_neg hseen], fun hsu hL hR => ?_⟩
    apply hseen
    have hkt : k ∈ ks.take sure := by
      rw [← hk]
      exact List.mem_take_iff_getElem.2 ⟨i, by omega, rfl⟩
    obtain ⟨g1, g2⟩ := hgs k hkt
    have hb1 := hgk.b1
    have hq0 : k.q ≤ s0 := by
      rcases Nat.lt_or_ge s0 k.q with h | h
      · have g3 := g1
        rw [hs.fb k.q h] at g3
        simp only [List.flatten_nil, List.length_nil] at g3
        omega
      · exact h
    have hfl : (Fs k.q).flatten.length ≤ c.S * c.rm := by
      rw [flat_len (fun b hb => hc.fb k.q b ((hs.pre k.q).subset hb))]
      exact Nat.mul_le_mul_right _ (Nat.le_trans (hs.pre k.q).length_le (hc.fl k.q))
    have hq1 := hgk.q1
    refine ⟨⟨?_, ?_⟩, by omega, by omega, by omega, by omega⟩
    · unfold Lc.oldest
      simp only
      omega
    · simp only
      omega

/-- the law's state, in memory: B, the document's log; pv, what was kept -/
structure S11 (W w : World) (c : Lc) (B g gl : Nat) (l : Lg) (m : Dev) (rl ra : Nat) (kv : Value) (rs : List Kp) (pv : Value) (ps : List Kp) : Prop where
  k : Keep [] W w
  mem : ∃ D E, RV w D E gl g c l m ∧ ∀ b, (b ∈ E ∨ b ∈ D) → W.heap.size ≤ b ∧ b ≠ B ∧ kv.ownBlock ≠ some b ∧ pv.ownBlock ≠ some b
  row : w.heap[B]? = some (.cells (Rf.cells ⟨3, 77, 154, rl, ra⟩ kv) 96 (0, 0))
  own : KRow w 0 kv rs
  kept : KRow w W.heap.size pv ps
  ap : ∀ b, kv.ownBlock = some b → pv.ownBlock ≠ some b
  low : W.heap.size ≤ B
section
variable {W w w' : World} {c : Lc} {B g gl : Nat} {l l' : Lg} {m m' : Dev} {rl ra rl' ra' : Nat} {kv kv' pv pv' : Value} {rs rs' ps : List Kp}
theorem S11.keep (h : S11 W w c B g gl l m rl ra kv rs pv ps) (k : Keep [] w w') : S11 W w' c B g gl l m rl ra kv rs pv ps := by
  obtain ⟨D, E, h1, h2⟩ := h.mem
  exact ⟨h.k.trans k, ⟨D, E, h1.keep k (by simp), h2⟩, k.blk (by simp) h.row, h.own.keep k (by simp), h.kept.keep k (by simp), h.ap, h.low⟩
theorem S11.step (h : S11 W w c B g gl l m rl ra kv rs pv ps) {D E : List Nat} (r2 : ∀ b, (b ∈ E ∨ b ∈ D) → W.heap.size ≤ b ∧ b ≠ B ∧ kv.ownBlock ≠ some b ∧ pv.ownBlock ≠ some b) (hs : LgStep w D E gl g c l' m' w') : S11 W w' c B g gl l' m' rl ra kv rs pv ps := by
  obtain ⟨D', E', s1, s2, s3, s4⟩ := hs
  have hnn : ∀ b, b ∈ E ++ D → W.heap.size ≤ b ∧ b ≠ B ∧ kv.ownBlock ≠ some b ∧ pv.ownBlock ≠ some b := fun b hb => r2 b (List.mem_append.1 hb)
  have hBlt := (Array.getElem?_eq_some_iff.1 h.row).1
  refine ⟨h.k.trans' s4 (fun b hb => .inr (hnn b hb).1), ⟨D', E', s1, fun b hb => ?_⟩, s4.blk (fun hm => (hnn B hm).2.1 rfl) h.row, h.own.keep s4 (fun b hb hm => (hnn b hm).2.2.1 hb), h.kept.keep s4 (fun b hb hm => (hnn b hm).2.2.2 hb), h.ap, h.low⟩
  have hor : (b ∈ E ∨ b ∈ D) ∨ w.heap.size ≤ b := by
    rcases hb with hb | hb
    · exact (s3.2 b hb).elim (fun h => .inl (.inl h)) .inr
    · exact (s2.2 b hb).elim (fun h => .inl (.inr h)) .inr
  rcases hor with h1 | h1
  · exact r2 b h1
  · exact ⟨Nat.le_trans h.k.size h1, by omega, fun hm => by have := (h.own.lt b hm).2; omega, fun hm => by have := (h.kept.lt b hm).2; omega⟩
/-- the document's log is stored anew -/
theorem S11.put (h : S11 W w c B g gl l m rl ra kv rs pv ps) (hkv : KRow w 0 kv' rs') {D E : List Nat} (h1 : RV w D E gl g c l m) (h2 : ∀ b, (b ∈ E ∨ b ∈ D) → W.heap.size ≤ b ∧ b ≠ B ∧ kv'.ownBlock ≠ some b ∧ pv.ownBlock ≠ some b) (hap : ∀ b, kv'.ownBlock = some b → pv.ownBlock ≠ some b) :
    S11 W (w.setRow B (Rf.cells ⟨3, 77, 154, rl', ra'⟩ kv')) c B g gl l m rl' ra' kv' rs' pv ps := by
  have k : Keep [B] w (w.setRow B (Rf.cells ⟨3, 77, 154, rl', ra'⟩ kv')) := (Keep.refl _ w).setRow (.inl (by simp)) _
  refine ⟨h.k.trans' k (fun b hb => .inr (by rw [List.mem_singleton.1 hb]; exact h.low)), ⟨D, E, h1.keep k (fun b hb => by rw [List.mem_singleton.1 hb]; exact ⟨fun hm => (h2 B (.inr hm)).2.1 rfl, fun hm => (h2 B (.inl hm)).2.1 rfl⟩), h2⟩, setRow_heap _ _ _ _ _ _ h.row, hkv.keep k (fun b hb hm => ?_), h.kept.keep k (fun b hb hm => ?_), hap, h.low⟩
  · rw [List.mem_singleton.1 hm] at hb
    exact hkv.ne h.row hb
  · rw [List.mem_singleton.1 hm] at hb
    exact h.kept.ne h.row hb
/-- .. with the kept ones it had -/
theorem S11.same (h : S11 W w c B g gl l m rl ra kv rs pv ps) : S11 W (w.setRow B (Rf.cells ⟨3, 77, 154, rl', ra'⟩ kv)) c B g gl l m rl' ra' kv rs pv ps := by
  obtain ⟨D, E, h1, h2⟩ := h.mem
  exact h.put h.own h1 h2 h.ap
/-- .. with a row of its own -/
theorem S11.fresh (h : S11 W w c B g gl l m rl ra kv rs pv ps) (k : Keep [] w w') (hkv : KRow w' w.heap.size kv' rs') : S11 W (w'.setRow B (Rf.cells ⟨3, 77, 154, rl', ra'⟩ kv')) c B g gl l m rl' ra' kv' rs' pv ps := by
  have h' := h.keep k
  obtain ⟨D, E, h1, h2⟩ := h.mem
  refine h'.put (hkv.base (Nat.zero_le _)) (h1.keep k (by simp)) (fun b hb => ⟨(h2 b hb).1, (h2 b hb).2.1, fun hm => ?_, (h2 b hb).2.2.2⟩) (fun b hb hm => ?_)
  · have e1 := rv_lt h1 b hb
    have e2 := (hkv.lt b hm).1
    omega
  · have e1 := (hkv.lt b hb).1
    have e2 := (h.kept.lt b hm).2
    omega
/-- one more is kept -/
theorem S11.app (h : S11 W w c B g gl l m rl ra kv rs pv ps) {x : Kp} (ho : KRow w' W.heap.size pv' (ps ++ [x])) (k : Keep pv.ownBlock.toList w w') (hloc : pv'.ownBlock = pv.ownBlock ∨ pv'.ownBlock = some w.heap.size) : S11 W w' c B g gl l m rl ra kv rs pv' (ps ++ [x]) := by
  obtain ⟨D, E, h1, h2⟩ := h.mem
  have hBlt := (Array.getElem?_eq_some_iff.1 h.row).1
  refine ⟨h.k.trans' k (fun b hb => .inr (h.kept.lt b (by simpa using hb)).1), ⟨D, E, h1.keep k (fun b hb => ⟨fun hm => (h2 b (.inr hm)).2.2.2 (by simpa using hb), fun hm => (h2 b (.inl hm)).2.2.2 (by simpa using hb)⟩), fun b hb => ⟨(h2 b hb).1, (h2 b hb).2.1, (h2 b hb).2.2.1, fun hm => ?_⟩⟩, k.blk (fun hm => h.kept.ne h.row (by simpa using hm)) h.row, h.own.keep k (fun b hb hm => h.ap b hb (by simpa using hm)), ho, fun b hb hm => ?_, h.low⟩
  · rcases hloc with e | e
    · exact (h2 b hb).2.2.2 (e ▸ hm)
    · rw [e] at hm
      injection hm with hm
      have := rv_lt h1 b hb
      omega
  · rcases hloc with e | e
    · exact h.ap b hb (e ▸ hm)
    · rw [e] at hm
      injection hm with hm
      have := (h.own.lt b hb).2
      omega
/-- a call upon the device -/
theorem RV.dev {D D' E : List Nat} (h : RV w D E gl g c l m) (hd : DV w' D' g m') (hg : Grew w D D') (k : Keep D w w') (hn : m'.n = m.n) (hz : m'.sz = m.sz) : RV w' D' E gl g c l m' := by
  obtain ⟨pv, h⟩ := h
  refine ⟨pv, { dv := hd, row := h.row.keep k (h.apart gl h.gl), own := h.own.keep k (fun b hb => h.apart b (h.inE b hb)), inE := h.inE, gl := h.gl, apart := fun b hb hm => ?_, lt := fun b hb => Nat.lt_of_lt_of_le (h.lt b hb) k.size, ok := h.ok.of hn hz }⟩
  rcases hg.2 b hm with h1 | h1
  · exact h.apart b hb h1
  · have := h.lt b hb; omega
theorem S11.dev (h : S11 W w c B g gl l m rl ra kv rs pv ps) {D D' E : List Nat} (r1 : RV w D E gl g c l m) (r2 : ∀ b, (b ∈ E ∨ b ∈ D) → W.heap.size ≤ b ∧ b ≠ B ∧ kv.ownBlock ≠ some b ∧ pv.ownBlock ≠ some b) (hd : DV w' D' g m') (hg : Grew w D D') (k : Keep D w w') (hn : m'.n = m.n) (hz : m'.sz = m.sz) : S11 W w' c B g gl l m' rl ra kv rs pv ps :=
  h.step r2 ⟨D', E, r1.dev hd hg k hn hz, hg, Grew.refl _ _, k.mono (fun b hb => List.mem_append_right _ hb)⟩
theorem flush11 (h : S11 W w c B g gl l m rl ra kv rs pv ps) {F Fs : Nat → List (List UInt8)} {s0 sure : Nat} {ks : List Kp} (hr : Rp c l m F s0 Fs ks sure) (hd : m.down = false) (ha : m.acts ≤ 1000000000) :
    (∃ l' m' F' z, Rp c l' m' F' s0 Fs ks sure ∧ m'.down = false ∧ l'.last = l.last ∧ l'.pend = [] ∧ l'.at_ = l.at_ + z ∧ z < c.rm ∧ l'.at_ % c.rm = 0 ∧ m'.acts ≤ m.acts + 1 ∧ (m'.n = m.n ∧ m'.sz = m.sz) ∧
      Calls Try.prog 51 #[.pointer (some ⟨gl, 0, none⟩)] w fun e w' => e = .returned (.int .i64 0) ∧ S11 W w' c B g gl l' m' rl ra kv rs pv ps) ∨
    (∃ l' m', m'.down = true ∧ m'.acts ≤ m.acts + 1 ∧ Rq c l.last m' s0 ks sure ∧ (m'.n = m.n ∧ m'.sz = m.sz) ∧
      Calls Try.prog 51 #[.pointer (some ⟨gl, 0, none⟩)] w fun e w' => e = .returned (.int .i64 4) ∧ S11 W w' c B g gl l' m' rl ra kv rs pv ps) := by
  obtain ⟨D, E, r1, r2⟩ := h.mem
  have hc := flushL_any w D E gl g c l m r1 hr.inv.fit ha
  have hn := c.flush_facts l m
  rcases hr.flush hd with ⟨l', m', F', z, e, h1, h2, h3, h4, h5, h6, h7, h8⟩ | ⟨l', m', e, h1, h2, h3⟩
  · rw [e] at hn
    refine .inl ⟨l', m', F', z, h1, h2, h3, h4, h5, h6, h7, h8, ⟨hn.2.2.1, hn.2.2.2.1⟩, hc.mono ?_⟩
    rintro x w' ⟨rfl, hs⟩
    rw [e] at hs ⊢
    exact ⟨rfl, h.step r2 hs⟩
  · rw [e] at hn
    refine .inr ⟨l', m', h1, h2, h3, ⟨hn.2.2.1, hn.2.2.2.1⟩, hc.mono ?_⟩
    rintro x w' ⟨rfl, hs⟩
    rw [e] at hs ⊢
    exact ⟨rfl, h.step r2 hs⟩
theorem sync11 (h : S11 W w c B g gl l m rl ra kv rs pv ps) (ha : m.acts ≤ 1000000000) (hn : m.sync.1.n = m.n) (hz : m.sync.1.sz = m.sz) :
    Calls Try.prog 19 #[.pointer (some ⟨g, 0, none⟩)] w fun e w' => e = .returned (.int .i64 (m.sync.2 : Int)) ∧ S11 W w' c B g gl l m.sync.1 rl ra kv rs pv ps := by
  obtain ⟨D, E, r1, r2⟩ := h.mem
  obtain ⟨pv', r1'⟩ := id r1
  refine (sync_any w D g m r1'.dv ha).mono ?_
  rintro x w' ⟨rfl, D', h1, h2, h3⟩
  exact ⟨rfl, h.dev r1 r2 h1 h2 h3 hn hz⟩
theorem last11 (h : S11 W w c B g gl l m rl ra kv rs pv ps) : Calls Try.prog 52 #[.pointer (some ⟨gl, 0, none⟩)] w fun e w' => e = .returned (.int .i64 (l.last : Int)) ∧ w = w' := by
  obtain ⟨D, E, ⟨pv', r1⟩, r2⟩ := h.mem
  exact last_any w gl g c l pv' r1.row
theorem append11 (h : S11 W w c B g gl l m rl ra kv rs pv ps) (k : Keep [] w w') {F Fs : Nat → List (List UInt8)} {s0 sure : Nat} {ks : List Kp} (hr : Rp c l m F s0 Fs ks sure) (hd : m.down = false) (hl : l.last < 4398046511104) (ha : m.acts ≤ 500000000) (v : Value) (b : List UInt8) (hv : Bytes w' v b) (hv2 : ∀ x, v.ownBlock = some x → w.heap.size ≤ x) (hb0 : 1 ≤ b.length) (hb : b.length ≤ c.S * c.rm) (hb2 : b.length ≤ 1000) :
    ∃ q a : Nat, ((c.S * c.rm < l.at_ + b.length ∧ q = l.last + 1 ∧ a = 0) ∨ (l.at_ + b.length ≤ c.S * c.rm ∧ q = l.last ∧ a = l.at_)) ∧
      ((∃ l' m' F', Rp c l' m' F' s0 Fs (ks ++ [⟨q, a, b⟩]) sure ∧ m'.down = false ∧ l'.last = q ∧ l'.at_ = a + b.length ∧ m'.acts ≤ m.acts + 1 + b.length ∧ (m'.n = m.n ∧ m'.sz = m.sz) ∧
        Calls Try.prog 55 #[.pointer (some ⟨gl, 0, none⟩), v] w' fun e w2 => e = .returned (.tuple #[.agg #[.int .i64 (q : Int), .int .i64 (a : Int), .int .i64 (b.length : Int)], .int .i64 0]) ∧ S11 W w2 c B g gl l' m' rl ra kv rs pv ps ∧ Bytes w2 v b) ∨
       (∃ l' m' x y z, m'.down = true ∧ m'.acts ≤ m.acts + 1 + b.length ∧ Rq c q m' s0 ks sure ∧ (m'.n = m.n ∧ m'.sz = m.sz) ∧
        Calls Try.prog 55 #[.pointer (some ⟨gl, 0, none⟩), v] w' fun e w2 => e = .returned (.tuple #[.agg #[.int .i64 x, .int .i64 y, .int .i64 z], .int .i64 4]) ∧ S11 W w2 c B g gl l' m' rl ra kv rs pv ps ∧ Bytes w2 v b)) := by
  obtain ⟨D, E, r1, r2⟩ := h.mem
  have hno : ∀ x, v.ownBlock = some x → x ∉ E ++ D := fun x hx hm => by
    have := rv_lt r1 x (List.mem_append.1 hm)
    have := hv2 x hx
    omega
  have hc := appendL_any w' D E gl g c l m (r1.keep k (by simp)) hr.inv.fit hl ha v b hv (fun _ => hno)
  have h' := h.keep k
  have hn := c.append_n l m b
  obtain ⟨q, a, hw, hor⟩ := hr.append hd hl b hb0 hb hb2
  refine ⟨q, a, hw, ?_⟩
  rcases hor with ⟨l', m', F', e, h1, h2, h3, h4, h5⟩ | ⟨l', m', loc, e, h1, h2, h3⟩
  · rw [e] at hn
    refine .inl ⟨l', m', F', h1, h2, h3, h4, h5, hn, hc.mono ?_⟩
    rintro x w2 ⟨rfl, hs⟩
    rw [e] at hs ⊢
    exact ⟨rfl, h'.step r2 hs, hv.keep hs.choose_spec.choose_spec.2.2.2 hno⟩
  · rw [e] at hn
    refine .inr ⟨l', m', loc.1, loc.2.1, loc.2.2, h1, h2, h3, hn, hc.mono ?_⟩
    rintro x w2 ⟨rfl, hs⟩
    rw [e] at hs ⊢
    exact ⟨rfl, h'.step r2 hs, hv.keep hs.choose_spec.choose_spec.2.2.2 hno⟩
theorem append11_no (h : S11 W w c B g gl l m rl ra kv rs pv ps) (k : Keep [] w w') {F Fs : Nat → List (List UInt8)} {s0 sure : Nat} {ks : List Kp} (hr : Rp c l m F s0 Fs ks sure) (hl : l.last < 4398046511104) (ha : m.acts ≤ 500000000) (v : Value) (b : List UInt8) (hv : Bytes w' v b) (hv2 : ∀ x, v.ownBlock = some x → w.heap.size ≤ x) (hb : b.length = 0 ∨ c.S * c.rm < b.length) :
    Calls Try.prog 55 #[.pointer (some ⟨gl, 0, none⟩), v] w' fun e w2 => e = .returned (.tuple #[.agg #[.int .i64 0, .int .i64 0, .int .i64 0], .int .i64 (if b.length = 0 then 1 else 9)]) ∧ S11 W w2 c B g gl l m rl ra kv rs pv ps ∧ Bytes w2 v b := by
  obtain ⟨D, E, r1, r2⟩ := h.mem
  have hno : ∀ x, v.ownBlock = some x → x ∉ E ++ D := fun x hx hm => by
    have := rv_lt r1 x (List.mem_append.1 hm)
    have := hv2 x hx
    omega
  refine (appendL_any w' D E gl g c l m (r1.keep k (by simp)) hr.inv.fit hl ha v b hv (fun _ => hno)).mono ?_
  rintro x w2 ⟨rfl, hs⟩
  have e : c.append l m b = (l, m, (0, 0, 0), if b.length = 0 then 1 else 9) := by
    unfold Lc.append
    by_cases h0 : b.length = 0
    · rw [if_pos h0, if_pos h0]
    · rw [if_neg h0, if_pos (by omega), if_neg h0]
  rw [e] at hs ⊢
  exact ⟨rfl, (h.keep k).step r2 hs, hv.keep hs.choose_spec.choose_spec.2.2.2 hno⟩
end
theorem sync11_same (m : Dev) : m.sync.1.n = m.n ∧ m.sync.1.sz = m.sz ∧ m.sync.1.acts ≤ m.acts + 1 := by
  unfold Dev.sync
  split
  · exact ⟨rfl, rfl, Nat.le_succ _⟩
  · split <;> exact ⟨rfl, rfl, Nat.le_refl _⟩
theorem klies : Lies kenc 4 := ⟨kenc_len, kenc_one⟩
/-- at the start -/
theorem Rp.init {p : Pl} {n : Int} (hok : (lcOf p).Ok (Dev.new 60 96)) : Rp (lcOf p) (lg0 p) ((Dev.new 60 96).arm n) (fun _ => []) 0 (fun _ => []) [] 0 := by
  have e : ((Dev.new 60 96).arm n).calm = Dev.new 60 96 := rfl
  refine ⟨by rw [e]; exact new_inv hok (Dev.new_wf 60 96 (by decide)), ?_, fun k hk => by simp at hk, fun k hk => by simp at hk, Nat.le_refl _⟩
  rw [e]
  refine ⟨fun k y hy => ?_, fun w hw => by simp [Dev.new] at hw, fun q i hi => by simp at hi, fun q => List.prefix_refl _, fun q _ => rfl, Nat.zero_le _⟩
  have e2 : (Dev.new 60 96).past.getD k [] = [] := by
    show (List.replicate 60 ([] : List (List UInt8))).getD k [] = []
    rw [List.getD_eq_getElem?_getD, List.getElem?_replicate]
    split <;> rfl
  rw [e2] at hy
  simp at hy
end Go.Proofs.Ytjkjiabfhhnngaa
