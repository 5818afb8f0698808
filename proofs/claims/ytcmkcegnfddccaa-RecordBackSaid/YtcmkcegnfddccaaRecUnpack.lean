import Derived.Test.YtcmkcegnfddccaaRecRef
import Derived.Test.YtcmkcegnfddccaaReader
import Derived.Test.YtcmkcegnfddccaaLex
/-! The walk of record's Unpack. -/
namespace Go.Proofs.Ytcmkcegnfddccaa
open Go.RowKit Sg

/-- what reading goes through -/
structure Rd where
  (b kn vn en z : Nat)
  (k v : List UInt8)
  (bad : Bool)
def rdAll (l : List UInt8) : Rd :=
  let r1 := rdN (l, false) 1
  let r2 := rdN r1.2 1
  let r3 := rdN r2.2 2
  let r4 := rdN r3.2 8
  let r5 := rdR r4.2 r2.1
  let r6 := rdR r5.2 r3.1
  let r7 := rdN r6.2 1
  ⟨r1.1, r2.1, r3.1, r4.1, r7.1, r5.1, r6.1, r7.2.2⟩
def Rd.ok (r : Rd) : Prop := r.b = 165 ∧ r.z = 90 ∧ r.bad = false ∧ r.en ≤ 281474976710656 ∧ rcode r.k.length r.v.length r.en = 0
instance (r : Rd) : Decidable r.ok := by unfold Rd.ok; infer_instance

theorem loudly_store_row {P : Program} {o : Oper} {a : Act} {w : World} {K : Act → World → Prop} (ty : TypeId) (x y : Operand) (ho : o.op = .store ty x y)
    (g : Nat) (cells : Array Value) (hx : a.eval x = .pointer (some ⟨g, 0, none⟩)) (hy : a.eval y = .agg cells)
    (t : TypeId) (old : Array Value) (hg : w.heap[g]? = some (.cells old t (0, 0))) (hi : (P.info? ty).map (·.size) = some cells.size)
    (hold : old.size = cells.size) (h1 : cells.all (·.oneCell') = true)
    (h : K (a.put o.dst undef) (w.setRow g cells)) : loudly P o a w K := by
  unfold loudly execOp
  simp only [ho, hx, hy, Instr.storeAt, Instr.sureAddr, Sem.run_bind, Sem.run_pure, Result.andThen_ok, run_storeVar_row w g t ty old cells hg hi hold h1]
  exact h
theorem rdN_good {s : List UInt8 × Bool} {k : Nat} (h : (rdN s k).2.2 = false) : s.2 = false ∧ k ≤ s.1.length := by
  unfold rdN at h
  split at h
  · exact ⟨h, by assumption⟩
  · cases h
theorem rdR_good {s : List UInt8 × Bool} {n : Nat} (h : (rdR s n).2.2 = false) : s.2 = false ∧ (rdR s n).1.length = n := by
  unfold rdR at h ⊢
  split at h
  · rename_i hn
    rw [if_pos hn]
    exact ⟨h, by simp; omega⟩
  · cases h
theorem results3_row {P : Program} {fn : Func} {p u s : Tmp} {ty : TypeId} (h : fn.results = #[.cell p ty, .tmp u, .tmp s]) (tmps : Array Value) (w : World) (g : Nat) (t : TypeId) (cs : Array Value) (fr : Nat × Nat) (d : TypeDesc)
    (hp : tmps.getD p undef = .pointer (some ⟨g, 0, none⟩)) (hg : w.heap[g]? = some (.cells cs t fr))
    (hu : P.underlying ty = some d) (hd : (match d with | .struct _ | .array _ _ => true | _ => false) = true) (hi : (P.info? ty).map (·.size) = some cs.size) :
    (results fn tmps).run P w = .ok (.tuple #[.agg cs, tmps.getD u undef, tmps.getD s undef]) w := by
  have hp' : tmps[p]?.getD undef = .pointer (some ⟨g, 0, none⟩) := by simpa using hp
  simp [results, h, hp', asAddr, run_loadVar_row w g t ty cs fr d hg hu hd hi, Result.andThen]
theorem bytes_keep {S : List Nat} {w w' : World} {v : Value} {l : List UInt8} (h : Bytes w v l) (k : Keep S w w') (hv : l ≠ [] → ∀ b, v.ownBlock = some b → b ∉ S) : Bytes w' v l := by
  by_cases hl : l = []
  · subst hl
    obtain ⟨ao, cap, rfl, h1, h2, h3, h4⟩ := h
    exact ⟨ao, cap, rfl, h1, h2, h3, fun ad e i hi => by simp at hi⟩
  · exact h.keep k (hv hl)
theorem reader_nu (v : Value) (b : Bool) (hv : ∀ n : Int, v ≠ .int .u8 n) : ∀ (i : Nat) (x : Value), (#[v, Value.bool b] : Array Value)[i]? = some x → ∀ n : Int, x ≠ Value.int .u8 n := by
  intro i x hx n e
  subst e
  match i, hx with
  | 0, h => simp at h; exact hv _ h
  | 1, h => simp at h
  | i + 2, h => simp at h
theorem rdR_len (s : List UInt8 × Bool) (n : Nat) : (rdR s n).1.length ≤ n := by
  unfold rdR
  split
  · simp; omega
  · simp
theorem RS.base {W0 W w : World} {g : Nat} {xs : List UInt8} {bad : Bool} (h : RS W w g xs bad) (k : Keep [] W0 W) : RS W0 w g xs bad :=
  ⟨k.trans h.1, Nat.le_trans k.size h.2.1, h.2.2⟩
theorem RS.setRow {W w : World} {g b : Nat} {xs : List UInt8} {bad : Bool} {old : Array Value} {t : TypeId} {fr : Nat × Nat} (h : RS W w g xs bad) (hb : w.heap[b]? = some (.cells old t fr)) (hne : g ≠ b) (hW : W.heap.size ≤ b)
    (hold : ∀ (i : Nat) (x : Value), old[i]? = some x → ∀ n : Int, x ≠ Value.int .u8 n) (cs : Array Value) : RS W (w.setRow b cs) g xs bad := by
  obtain ⟨h1, h2, v, h3, h4, h5⟩ := h
  refine ⟨h1.setRow (.inr hW) _, h2, v, ?_, bytes_setRow h4 (fun hl => h4.ne_row hl hb hold) cs, h5⟩
  have hk : Keep [b] w (w.setRow b cs) := (Keep.refl _ _).setRow (.inl (by simp)) cs
  exact hk.blk (by simp [hne]) h3

theorem ownB_setRow {w : World} {base : Nat} {v : Value} {e : TypeId} {l : List UInt8} (h : OwnB w base e v l) {g : Nat} (hp : v.ownBlock ≠ some g) (cs : Array Value) : OwnB (w.setRow g cs) base e v l :=
  h.keep (S := [g]) ((Keep.refl _ _).setRow (.inl (by simp)) cs) (by intro b hb hm; simp at hm; subst hm; exact hp hb)
theorem own_base {w : World} {base : Nat} {e : TypeId} {v : Value} {l : List UInt8} (h : OwnB w base e v l) {b : Nat} (hb : v.ownBlock = some b) : base ≤ b := by
  rcases h.2 with ⟨rfl, -⟩ | ⟨g, cap, cur, rfl, h1, -⟩
  · simp [Value.ownBlock] at hb
  · simp [Value.ownBlock] at hb
    subst hb
    exact h1

set_option maxRecDepth 100000 in
set_option maxHeartbeats 1000000 in
set_option maxHeartbeats 8000000 in
theorem unpack_any (x : Value) (l : List UInt8) (w : World) (hx : Bytes w x l) (hl : l.length ≤ 1000000) :
    Calls Try.prog 16 #[x] w fun e w' => Keep [] w w' ∧
      (((rdAll l).ok ∧ ∃ k v, e = .returned (.tuple #[.agg #[k, v, .int .i64 ((rdAll l).en : Int)], .int .i64 (13 + (rdAll l).kn + (rdAll l).vn : Int), .int .i64 0]) ∧ OwnB w' w.heap.size 5 k (rdAll l).k ∧ OwnB w' w.heap.size 5 v (rdAll l).v) ∨
       (¬ (rdAll l).ok ∧ e = .returned (.tuple #[.agg #[.slice none 0 0, .slice none 0 0, .int .i64 0], .int .i64 0, .int .i64 5]))) := by
  obtain ⟨r1, h1⟩ : ∃ r, rdN (l, false) 1 = r := ⟨_, rfl⟩
  obtain ⟨r2, h2⟩ : ∃ r, rdN r1.2 1 = r := ⟨_, rfl⟩
  obtain ⟨r3, h3⟩ : ∃ r, rdN r2.2 2 = r := ⟨_, rfl⟩
  obtain ⟨r4, h4⟩ : ∃ r, rdN r3.2 8 = r := ⟨_, rfl⟩
  obtain ⟨r5, h5⟩ : ∃ r, rdR r4.2 r2.1 = r := ⟨_, rfl⟩
  obtain ⟨r6, h6⟩ : ∃ r, rdR r5.2 r3.1 = r := ⟨_, rfl⟩
  obtain ⟨r7, h7⟩ : ∃ r, rdN r6.2 1 = r := ⟨_, rfl⟩
  have hall : rdAll l = ⟨r1.1, r2.1, r3.1, r4.1, r7.1, r5.1, r6.1, r7.2.2⟩ := by
    unfold rdAll
    simp only [h1, h2, h3, h4, h5, h6, h7]
  rw [hall]
  have b1 := rdN_lt (l, false) 1
  have b2 := rdN_lt r1.2 1
  have b3 := rdN_lt r2.2 2
  have b4 := rdN_lt r3.2 8
  have b7 := rdN_lt r6.2 1
  rw [h1] at b1
  rw [h2] at b2
  rw [h3] at b3
  rw [h4] at b4
  rw [h7] at b7
  simp only [Nat.reducePow] at b1 b2 b3 b4 b7
  have q2 : RowKit.wrap64 (r2.1 : Int) = (r2.1 : Int) := by unfold RowKit.wrap64; omega
  have q3 : RowKit.wrap64 (r3.1 : Int) = (r3.1 : Int) := by unfold RowKit.wrap64; omega
  have q2' : IntKind.i64.wrap (r2.1 : Int) = (r2.1 : Int) := i64_wrap_nat (by omega)
  have q3' : IntKind.i64.wrap (r3.1 : Int) = (r3.1 : Int) := i64_wrap_nat (by omega)
  obtain ⟨E, hE⟩ : ∃ E, IntKind.i64.wrap (r4.1 : Int) = E := ⟨_, rfl⟩
  obtain ⟨E2, hE2⟩ : ∃ E, RowKit.wrap64 (r4.1 : Int) = E := ⟨_, rfl⟩
  have hEE : r4.1 ≤ 281474976710656 → E = (r4.1 : Int) := fun h => by rw [← hE]; exact i64_wrap_nat (by omega)
  have HALL := Lib.hid hall
  have hEE2 : r4.1 ≤ 281474976710656 → E2 = (r4.1 : Int) := fun h => by rw [← hE2]; unfold RowKit.wrap64; omega
  have HEE := Lib.hid hEE
  have HEE2 := Lib.hid hEE2
  have l5 := rdR_len r4.2 r2.1
  have l6 := rdR_len r5.2 r3.1
  rw [h5] at l5
  rw [h6] at l6
  clear hall hEE hEE2
  have hK0 := (Keep.refl [] w).alloc (.cells #[.slice none 0 0, .slice none 0 0, .int .i64 0] 30)
  have hA := heap_alloc_new w (.cells #[.slice none 0 0, .slice none 0 0, .int .i64 0] 30)
  go_enter Try.func16, Try.ntmps16
  go_wp2_with fail
  refine (newReader_any x l _ (hx.keep hK0 (by simp)) hl).mono ?_
  rintro e w1 ⟨g, rfl, s1⟩
  go_wp2_with fail
  have c := readNumber_any _ w1 g (l, false) s1 1 (by omega)
  rw [h1] at c
  refine c.mono ?_
  clear c s1
  rintro e w2 ⟨rfl, s2, -⟩
  go_wp2_with fail
  have c := readNumber_any _ w2 g r1.2 s2 1 (by omega)
  rw [h2] at c
  refine c.mono ?_
  clear c s2
  rintro e w3 ⟨rfl, s3, -⟩
  go_wp2_with fail
  have c := readNumber_any _ w3 g r2.2 s3 2 (by omega)
  rw [h3] at c
  refine c.mono ?_
  clear c s3
  rintro e w4 ⟨rfl, s4, -⟩
  go_wp2_with fail
  have c := readNumber_any _ w4 g r3.2 s4 8 (by omega)
  rw [h4] at c
  refine c.mono ?_
  clear c s4
  rintro e w5 ⟨rfl, s5, -⟩
  go_wp2_with fail
  have z5 : w.heap.size ≤ w5.heap.size := by have := s5.1.size; simp at this; omega
  have Z5 := Lib.hid z5
  clear z5
  have c := readRaw_any _ w5 g r4.2 s5 r2.1
  rw [h5] at c
  refine c.mono ?_
  clear c s5
  rintro e w6 ⟨k, rfl, ok, s6, -⟩
  go_wp2_with fail
  have z6 : w.heap.size ≤ w6.heap.size := by have := s6.1.size; simp at this; omega
  have ok := ok.base Z5.out
  have Z6 := Lib.hid z6
  clear z6
  have c := readRaw_any _ w6 g r5.2 s6 r3.1
  rw [h6] at c
  refine c.mono ?_
  clear c
  rintro e w7 ⟨v, rfl, ov, s7, kg7⟩
  have bv := ov.base Z6.out
  clear ov
  obtain ⟨rv6, hrow6, -⟩ := s6.2.2
  have bk := ok.keep kg7 (by intro b hb hm; simp at hm; subst hm; exact ok.ne_row hrow6 (by decide) hb)
  have hlk : r5.1.length ≤ 1000000 := by omega
  have hlv : r6.1.length ≤ 1000000 := by omega
  obtain ⟨ka, kc, rfl, -⟩ := (bk.bytes (Nat.le_trans hlk (by decide))).form
  obtain ⟨va, vc, rfl, -⟩ := (bv.bytes (Nat.le_trans hlv (by decide))).form
  have hA7 := s7.1.blk (by simp) hA
  have hgn : g ≠ w.heap.size := by have := s7.2.1; simp at this; omega
  have nu := no_u8 (0, none, 0) (0, none, 0) 0
  have s8 := fun cs => (s7.base ((Keep.refl [] w).alloc _)).setRow hA7 hgn (Nat.le_refl _) nu cs
  have bk8 := fun cs => ownB_setRow bk (bk.ne_row hA7 (by decide)) cs
  have bv8 := fun cs => ownB_setRow bv (bv.ne_row hA7 (by decide)) cs
  have hA8 := fun cs => setRow_heap w7 _ _ cs _ _ hA7
  have S8 := Lib.hid s8
  have BK := Lib.hid bk8
  have BV := Lib.hid bv8
  have A8 := Lib.hid hA8
  clear s6 s7 kg7 ok bk bv hrow6 hA s8 bk8 bv8 hA8 hK0 hx
  go_upto_region 6 with (refine wpList_store_row rfl 30 (.tmp 2) _ rfl w.heap.size _ rfl rfl 30 _ hA7 (by kernel_rfl) (by rfl) (by kernel_rfl) ?_)
  have s8 := S8.out #[.slice ka r5.1.length kc, .slice va r6.1.length vc, .int .i64 E]
  have bk8 := BK.out #[.slice ka r5.1.length kc, .slice va r6.1.length vc, .int .i64 E]
  have bv8 := BV.out #[.slice ka r5.1.length kc, .slice va r6.1.length vc, .int .i64 E]
  have a8 := A8.out #[.slice ka r5.1.length kc, .slice va r6.1.length vc, .int .i64 E]
  clear S8 BK BV A8 hA7
  generalize w7.setRow w.heap.size #[.slice ka r5.1.length kc, .slice va r6.1.length vc, .int .i64 E] = w8 at s8 bk8 bv8 a8 ⊢
  by_cases c1 : r1.1 = 165
  · have d1 : ((r1.1 : Int) != 165) = false := by rw [c1]; rfl
    obtain ⟨rv8, hrow8, hrb8, -⟩ := s8.2.2
    obtain ⟨ra, rcp, hrv, -⟩ := hrb8.form
    have nr := reader_nu rv8 r6.2.2 (by rw [hrv]; intro n h; cases h)
    go_wp2_with fail
    have c := readNumber_any _ w8 g r6.2 s8 1 (by omega)
    rw [h7] at c
    refine c.mono ?_
    clear c
    rintro e w9 ⟨rfl, s9, kg9⟩
    have a9 := kg9.blk (by simp; exact fun h => hgn h.symm) a8
    have bk9 := bk8.keep kg9 (by intro b hb hm; simp at hm; subst hm; exact bk8.ne_row hrow8 (by decide) hb)
    have bv9 := bv8.keep kg9 (by intro b hb hm; simp at hm; subst hm; exact bv8.ne_row hrow8 (by decide) hb)
    clear s8 bk8 bv8 a8 kg9 hrow8 hrb8 hrv nr
    by_cases c2 : r7.1 = 90
    · have d2 : ((r7.1 : Int) != 90) = false := by rw [c2]; rfl
      go_wp2_with fail
      refine (bad_any _ w9 g r7.2.1 r7.2.2 s9).mono ?_
      rintro e w10 ⟨rfl, rfl⟩
      cases c3 : r7.2.2 with
      | true =>
        go_wp2_with (refine wpList_store_row rfl 30 (.tmp 2) _ rfl w.heap.size _ rfl rfl 30 _ a9 (by kernel_rfl) (by rfl) (by kernel_rfl) ?_)
        refine bodyPost_ret (results3_row rfl _ _ w.heap.size 30 #[.slice none 0 0, .slice none 0 0, .int .i64 0] _ _ rfl (setRow_heap _ _ _ _ _ _ a9) Try.underlying30 rfl (by kernel_rfl)) rfl ⟨(s9.1).setRow (.inr (Nat.le_refl _)) _, .inr ⟨fun h => ?_, rfl⟩⟩
        have h3 : r7.2.2 = false := h.2.2.1
        rw [c3] at h3
        cases h3
      | false =>
        by_cases c4 : r4.1 ≤ 281474976710656
        · have d4 : ¬ (281474976710656 : Int) < (r4.1 : Int) := by omega
          have hEr := HEE.out c4
          subst hEr
          have g0 := cell_of_row w9 _ 0 _ _ _ a9
          have g1 := cell_of_row w9 _ 1 _ _ _ a9
          have g2 := cell_of_row w9 _ 2 _ _ _ a9
          simp at g0 g1 g2
          go_wp2_with fail
          have c := right_any _ _ r5.1 r6.1 (r4.1 : Int) w9 (bk9.bytes (Nat.le_trans hlk (by decide))) (bv9.bytes (Nat.le_trans hlv (by decide)))
          obtain ⟨rc, hrc⟩ : ∃ rc, rcode r5.1.length r6.1.length (r4.1 : Int) = rc := ⟨_, rfl⟩
          rw [hrc] at c
          refine c.mono ?_
          clear c g0 g1 g2
          rintro e w11 ⟨rfl, k11⟩
          have a11 := k11.blk (by simp) a9
          have bk11 := bk9.keep k11 (by simp)
          have bv11 := bv9.keep k11 (by simp)
          have K11 := s9.1.trans k11
          by_cases c5 : rc = 0
          · subst c5
            have hsz := size_any (r2.1 : Int) (r3.1 : Int)
            have z7 := rdN_good (s := r6.2) (k := 1) (by rw [h7]; exact c3)
            have z6 := rdR_good (s := r5.2) (n := r3.1) (by rw [h6]; exact z7.1)
            have z5 := rdR_good (s := r4.2) (n := r2.1) (by rw [h5]; exact z6.1)
            rw [h6] at z6
            rw [h5] at z5
            have zz := rcode_zero hrc
            have hz : 1 ≤ (r2.1 : Int) ∧ (r2.1 : Int) ≤ 64 ∧ 0 ≤ (r3.1 : Int) ∧ (r3.1 : Int) ≤ 4096 := by
              have := z6.2
              have := z5.2
              omega
            rw [if_pos hz] at hsz
            clear z5 z6 z7 zz hz
            go_wp2_with fail
            have hC0 : Keep [w.heap.size] w11 w11.drew ∧ w11.drew.heap[w.heap.size]? = some (.cells #[.slice ka r5.1.length kc, .slice va r6.1.length vc, .int .i64 (r4.1 : Int)] 30 (0, 0)) := ⟨(Keep.refl _ w11).drew, a11⟩
            have gk0 : ∀ w', (Keep [w.heap.size] w11 w' ∧ w'.heap[w.heap.size]? = some (.cells #[.slice ka r5.1.length kc, .slice va r6.1.length vc, .int .i64 (r4.1 : Int)] 30 (0, 0))) → w'.cell? ⟨w.heap.size, 0, none⟩ = some (.slice ka r5.1.length kc) := fun w' h => by rw [cell_of_row w' _ 0 _ _ _ h.2]; rfl
            have gk1 : ∀ w', (Keep [w.heap.size] w11 w' ∧ w'.heap[w.heap.size]? = some (.cells #[.slice ka r5.1.length kc, .slice va r6.1.length vc, .int .i64 (r4.1 : Int)] 30 (0, 0))) → w'.cell? ⟨w.heap.size, 1, none⟩ = some (.slice va r6.1.length vc) := fun w' h => by rw [cell_of_row w' _ 1 _ _ _ h.2]; rfl
            have gk2 : ∀ w', (Keep [w.heap.size] w11 w' ∧ w'.heap[w.heap.size]? = some (.cells #[.slice ka r5.1.length kc, .slice va r6.1.length vc, .int .i64 (r4.1 : Int)] 30 (0, 0))) → w'.cell? ⟨w.heap.size, 2, none⟩ = some (.int .i64 (r4.1 : Int)) := fun w' h => by rw [cell_of_row w' _ 2 _ _ _ h.2]; rfl
            refine wp_region_lex (fun w' => Keep [w.heap.size] w11 w' ∧ w'.heap[w.heap.size]? = some (.cells #[.slice ka r5.1.length kc, .slice va r6.1.length vc, .int .i64 (r4.1 : Int)] 30 (0, 0))) [3, 4] (by kernel_rfl) (by kernel_rfl) hC0 ?_
            generalize w11.drew = w12 at hC0 ⊢
            (repeat (first | (refine lex_q rfl rfl (fun K hK => ?_); apply Exists.intro; refine ⟨fun w' hC => ?_, ?_⟩; (go_simp <;> rfl); go_simp; refine hK _ _ ?_; clear hK K) | (refine lex_s rfl (fun K hK => ?_); go_simp; refine hK _ _ ?_; clear hK K)))
            (refine lex_l rfl rfl (fun K hK => ?_); go_simp)
            refine (hsz _).mono ?_
            rintro e w13 ⟨rfl, rfl⟩
            refine hK _ _ hC0 ?_
            clear hK K
            (repeat (first | (refine lex_q rfl rfl (fun K hK => ?_); apply Exists.intro; refine ⟨fun w' hC => ?_, ?_⟩; (go_simp <;> rfl); go_simp; refine hK _ _ ?_; clear hK K) | (refine lex_s rfl (fun K hK => ?_); go_simp; refine hK _ _ ?_; clear hK K)))
            refine lex_l rfl rfl (fun K hK => ?_)
            refine loudly_store_row 30 (.tmp 2) (.tmp 52) rfl w.heap.size #[.slice ka r5.1.length kc, .slice va r6.1.length vc, .int .i64 (r4.1 : Int)] rfl rfl 30 _ hC0.2 (by kernel_rfl) (by rfl) (by kernel_rfl) ?_
            have hC1 : Keep [w.heap.size] w11 (w12.setRow w.heap.size #[.slice ka r5.1.length kc, .slice va r6.1.length vc, .int .i64 (r4.1 : Int)]) ∧ (w12.setRow w.heap.size #[.slice ka r5.1.length kc, .slice va r6.1.length vc, .int .i64 (r4.1 : Int)]).heap[w.heap.size]? = some (.cells #[.slice ka r5.1.length kc, .slice va r6.1.length vc, .int .i64 (r4.1 : Int)] 30 (0, 0)) := ⟨hC0.1.setRow (.inl (by simp)) _, setRow_heap _ _ _ _ _ _ hC0.2⟩
            refine hK _ _ hC1 ?_
            clear hK K
            (repeat (first | (refine lex_q rfl rfl (fun K hK => ?_); apply Exists.intro; refine ⟨fun w' hC => ?_, ?_⟩; (go_simp <;> rfl); go_simp; refine hK _ _ ?_; clear hK K) | (refine lex_s rfl (fun K hK => ?_); go_simp; refine hK _ _ ?_; clear hK K)))
            refine lex_nil ?_
            go_wp2
            refine bodyPost_ret (results3_row rfl _ _ w.heap.size 30 _ _ _ rfl hC1.2 Try.underlying30 rfl (by kernel_rfl)) rfl ⟨K11.trans' hC1.1 (by intro k hk; rw [List.mem_singleton] at hk; subst hk; exact .inr (Nat.le_refl _)), .inl ⟨⟨c1, c2, c3, c4, hrc⟩, _, _, rfl, ?_, ?_⟩⟩
            · exact bk11.keep hC1.1 (by intro b hb hm; simp at hm; subst hm; exact bk11.ne_row a11 (by decide) hb)
            · exact bv11.keep hC1.1 (by intro b hb hm; simp at hm; subst hm; exact bv11.ne_row a11 (by decide) hb)
          · have d5 : (rc != 0) = true := by simpa using c5
            go_wp2_with (refine wpList_store_row rfl 30 (.tmp 2) _ rfl w.heap.size _ rfl rfl 30 _ a11 (by kernel_rfl) (by rfl) (by kernel_rfl) ?_)
            refine bodyPost_ret (results3_row rfl _ _ w.heap.size 30 #[.slice none 0 0, .slice none 0 0, .int .i64 0] _ _ rfl (setRow_heap _ _ _ _ _ _ a11) Try.underlying30 rfl (by kernel_rfl)) rfl ⟨K11.setRow (.inr (Nat.le_refl _)) _, .inr ⟨fun h => ?_, rfl⟩⟩
            exact c5 (hrc.symm.trans h.2.2.2.2)
        · have d4 : (281474976710656 : Int) < (r4.1 : Int) := by omega
          go_wp2_with (refine wpList_store_row rfl 30 (.tmp 2) _ rfl w.heap.size _ rfl rfl 30 _ a9 (by kernel_rfl) (by rfl) (by kernel_rfl) ?_)
          refine bodyPost_ret (results3_row rfl _ _ w.heap.size 30 #[.slice none 0 0, .slice none 0 0, .int .i64 0] _ _ rfl (setRow_heap _ _ _ _ _ _ a9) Try.underlying30 rfl (by kernel_rfl)) rfl ⟨(s9.1).setRow (.inr (Nat.le_refl _)) _, .inr ⟨fun h => ?_, rfl⟩⟩
          exact c4 h.2.2.2.1
    · have d2 : ((r7.1 : Int) != 90) = true := by simp; omega
      go_wp2_with (refine wpList_store_row rfl 30 (.tmp 2) _ rfl w.heap.size _ rfl rfl 30 _ a9 (by kernel_rfl) (by rfl) (by kernel_rfl) ?_)
      refine bodyPost_ret (results3_row rfl _ _ w.heap.size 30 #[.slice none 0 0, .slice none 0 0, .int .i64 0] _ _ rfl (setRow_heap _ _ _ _ _ _ a9) Try.underlying30 rfl (by kernel_rfl)) rfl ⟨(s9.1).setRow (.inr (Nat.le_refl _)) _, .inr ⟨fun h => ?_, rfl⟩⟩
      exact c2 h.2.1
  · have d1 : ((r1.1 : Int) != 165) = true := by simp; omega
    go_wp2_with (refine wpList_store_row rfl 30 (.tmp 2) _ rfl w.heap.size _ rfl rfl 30 _ a8 (by kernel_rfl) (by rfl) (by kernel_rfl) ?_)
    refine bodyPost_ret (results3_row rfl _ _ w.heap.size 30 #[.slice none 0 0, .slice none 0 0, .int .i64 0] _ _ rfl (setRow_heap _ _ _ _ _ _ a8) Try.underlying30 rfl (by kernel_rfl)) rfl ⟨(s8.1).setRow (.inr (Nat.le_refl _)) _, .inr ⟨fun h => ?_, rfl⟩⟩
    exact c1 h.1
end Go.Proofs.Ytcmkcegnfddccaa
