import Derived.Test.YtcmkcegnfddccaaRecord
/-! The document's record: its bytes; a record of strings as one of bytes. -/
namespace Go.Proofs.Ytcmkcegnfddccaa
open Go.RowKit Sg

theorem run_of_string {P : Program} (w : World) (src dst e : TypeId) (s : ByteArray) (hs : P.underlying src = some .string) (hd : P.underlying dst = some (.slice e)) (he : P.underlying e = some (.int .u8)) (hn : s.size ≤ 140737488355328) :
    ∃ v' w', Sem.run P (convert src dst (.string s)) w = .ok v' w' ∧ Bytes w' v' s.data.toList ∧ Keep [] w w' := by
  refine ⟨_, _, run_bytes_of_string w src dst e s hs hd he, ?_, ((Keep.refl [] w).drew).alloc _⟩
  have h1 := grownCap_ge w s.size 0 e
  have h2 := grownCap_le_maxLen w s.size 0 e (show s.size ≤ 9223372036854775807 by omega)
  generalize grownCap w s.size 0 e = c at h1 h2 ⊢
  have hl : s.data.toList.length = s.size := by rw [Array.length_toList]; rfl
  have hb := Bytes.row (w := w.drew.alloc (.cells (bytesRow s c) e ((bytesRow s c).size, (bytesRow s c).size + 1))) (g := w.heap.size) (l := s.data.toList) (cap := c) (World.alloc_heap_new w.drew _) (by
    intro i hi
    have hi' : i < s.data.size := by simpa using hi
    unfold bytesRow
    rw [Array.getElem?_append_left (by simpa using hi')]
    simp [u8v]
    exact ⟨s.data[i], Array.getElem?_eq_getElem hi', rfl⟩) (by omega) ⟨h2, by omega⟩
  rw [hl] at hb
  exact hb

theorem wpList_of_string {P : Program} {ops : Array Oper} {Q : Exit → Act → World → Prop} {w : World} {rest : List Oper} {o : Oper} {a : Act} (hg : o.guard = none) (x : Operand) (src dst e : TypeId) (hop : o.op = Op.convert src dst x)
    (hs : P.underlying src = some .string) (hd : P.underlying dst = some (.slice e)) (he : P.underlying e = some (.int .u8)) {s : ByteArray} (hx : a.eval x = .string s) (hn : s.size ≤ 140737488355328)
    (hK : ∀ v' w', Bytes w' v' s.data.toList → Keep [] w w' → wpList P ops Q rest (a.put o.dst v') w') : wpList P ops Q (o :: rest) a w := by
  obtain ⟨v', w', hrun, h1, h2⟩ := run_of_string (P := P) w src dst e s hs hd he hn
  refine wpList_plain hg fun K hK' => ?_
  unfold Oper.wp
  have e1 : (execOp a.eval o).run P w = .ok (.value v') w' := by
    simp [execOp, hop, hx, hrun, Result.andThen]
  rw [e1]
  exact hK' _ _ (hK v' w' h1 h2)

set_option maxRecDepth 100000 in
set_option maxHeartbeats 1000000 in
theorem refNumber_any (n k : Nat) (hn : n < 18446744073709551616) (hk : k = 1 ∨ k = 2 ∨ k = 4 ∨ k = 8) (w : World) : Calls Try.prog 100 #[.int .u64 n, .int .i64 k] w fun e w' => ∃ v', e = .returned v' ∧ OwnB w' w.heap.size 5 v' (le n k) ∧ Keep [] w w' := by
  rcases hk with rfl | rfl | rfl | rfl
  · change Calls _ _ #[.int .u64 (n : Int), .int .i64 1] _ _
    go_enter Try.func100, Try.ntmps100
    go_wp2
    go_loopw [0, 5, 6] (fun x o i wr => ∃ j m : Nat, j ≤ 1 ∧ m < 18446744073709551616 ∧ x = .int .u64 m ∧ i = .int .i64 j ∧ Hid (m = n / 256 ^ j) ∧ Hid (OwnB wr w.heap.size 5 o (le n j)) ∧ Keep [] w wr) (fun _ _ i _ => 1 - (intOf i).toNat)
    case atStart => exact ⟨0, n, by omega, hn, rfl, rfl, by simp [Hid], OwnB.nil _ _ _, Keep.refl _ _⟩
    case round =>
      obtain ⟨j, m, hj, hm, rfl, rfl, hmm, hO, hkeep⟩ := hrel
      by_cases hlt : j < 1
      · obtain ⟨m', hm'⟩ : ∃ m', m / 256 = m' := ⟨_, rfl⟩
        have hsucc : Hid (m' = n / 256 ^ (j + 1)) := by show _ = _; rw [← hm', hmm.out, Nat.pow_succ, Nat.div_div_eq_div_mul]
        obtain ⟨x, hx⟩ : ∃ x : UInt8, x = UInt8.ofNat (m % 256) := ⟨_, rfl⟩
        have hx2 : ((x.toNat : Nat) : Int) = (m : Int) % 256 := by rw [hx, UInt8.toNat_ofNat']; omega
        have hx3 : (m : Int).tmod 256 = (x.toNat : Int) := by rw [Int.tmod_eq_emod_of_nonneg (by omega), hx2]
        have hx4 := x.toNat_lt
        have hconv : IntKind.u8.wrap (x.toNat : Int) = (x.toNat : Int) := by rw [u8_wrap]; omega
        have hdv : (m : Int).tdiv 256 = (m' : Int) := by rw [Int.tdiv_eq_ediv_of_nonneg (by omega), ← hm']; rfl
        have HX : Hid (le n j ++ [x] = le n (j + 1)) := by show _ = _; rw [le, hx, hmm.out]
        clear hx hx2
        have hlt' : (j : Int) < 1 := by omega
        have hs1 := (hO.out.keep ((Keep.refl [] wr).alloc (.cells #[.int .u8 (x.toNat : Int)] 5)) (by simp))
        have hb1 := bytes_one wr x _ rfl (0, 0)
        have hk1 := hkeep.alloc (.cells #[.int .u8 (x.toNat : Int)] 5)
        go_wp2_with (refine wpList_append_bytes rfl (.tmp 26) (.tmp 30) 23 5 rfl w.heap.size Try.underlying23 (by kernel_rfl) (v := u5) (src := .slice (some ⟨wr.heap.size, 0, none⟩) 1 1) rfl rfl hs1 hb1 (by rw [le_len]; simp; omega) hk1.size ?_)
        intro v4 w4 ho4 hk4
        have hK4 : Keep [] w w4 := hk1.trans' hk4 (by
          intro k hk
          rcases hs1.2 with ⟨h, -⟩ | ⟨g', c, cur, h, hg', -⟩
          · rw [h] at hk; simp [Value.ownBlock] at hk
          · rw [h] at hk; simp [Value.ownBlock] at hk; subst hk; exact .inr hg')
        clear hs1 hb1 hk4
        go_wp2
        go_roundw
        case rel => exact ⟨j + 1, m', by omega, by omega, by rw [← hm'], by go_num, hsucc, by rw [← HX.out]; exact ho4, hK4⟩
        case measure => simp [intOf]; omega
      · obtain rfl : j = 1 := by omega
        go_wp2
        go_ret
        exact ⟨_, rfl, hO.out, hkeep⟩
  · change Calls _ _ #[.int .u64 (n : Int), .int .i64 2] _ _
    go_enter Try.func100, Try.ntmps100
    go_wp2
    go_loopw [0, 5, 6] (fun x o i wr => ∃ j m : Nat, j ≤ 2 ∧ m < 18446744073709551616 ∧ x = .int .u64 m ∧ i = .int .i64 j ∧ Hid (m = n / 256 ^ j) ∧ Hid (OwnB wr w.heap.size 5 o (le n j)) ∧ Keep [] w wr) (fun _ _ i _ => 2 - (intOf i).toNat)
    case atStart => exact ⟨0, n, by omega, hn, rfl, rfl, by simp [Hid], OwnB.nil _ _ _, Keep.refl _ _⟩
    case round =>
      obtain ⟨j, m, hj, hm, rfl, rfl, hmm, hO, hkeep⟩ := hrel
      by_cases hlt : j < 2
      · obtain ⟨m', hm'⟩ : ∃ m', m / 256 = m' := ⟨_, rfl⟩
        have hsucc : Hid (m' = n / 256 ^ (j + 1)) := by show _ = _; rw [← hm', hmm.out, Nat.pow_succ, Nat.div_div_eq_div_mul]
        obtain ⟨x, hx⟩ : ∃ x : UInt8, x = UInt8.ofNat (m % 256) := ⟨_, rfl⟩
        have hx2 : ((x.toNat : Nat) : Int) = (m : Int) % 256 := by rw [hx, UInt8.toNat_ofNat']; omega
        have hx3 : (m : Int).tmod 256 = (x.toNat : Int) := by rw [Int.tmod_eq_emod_of_nonneg (by omega), hx2]
        have hx4 := x.toNat_lt
        have hconv : IntKind.u8.wrap (x.toNat : Int) = (x.toNat : Int) := by rw [u8_wrap]; omega
        have hdv : (m : Int).tdiv 256 = (m' : Int) := by rw [Int.tdiv_eq_ediv_of_nonneg (by omega), ← hm']; rfl
        have HX : Hid (le n j ++ [x] = le n (j + 1)) := by show _ = _; rw [le, hx, hmm.out]
        clear hx hx2
        have hlt' : (j : Int) < 2 := by omega
        have hs1 := (hO.out.keep ((Keep.refl [] wr).alloc (.cells #[.int .u8 (x.toNat : Int)] 5)) (by simp))
        have hb1 := bytes_one wr x _ rfl (0, 0)
        have hk1 := hkeep.alloc (.cells #[.int .u8 (x.toNat : Int)] 5)
        go_wp2_with (refine wpList_append_bytes rfl (.tmp 26) (.tmp 30) 23 5 rfl w.heap.size Try.underlying23 (by kernel_rfl) (v := u5) (src := .slice (some ⟨wr.heap.size, 0, none⟩) 1 1) rfl rfl hs1 hb1 (by rw [le_len]; simp; omega) hk1.size ?_)
        intro v4 w4 ho4 hk4
        have hK4 : Keep [] w w4 := hk1.trans' hk4 (by
          intro k hk
          rcases hs1.2 with ⟨h, -⟩ | ⟨g', c, cur, h, hg', -⟩
          · rw [h] at hk; simp [Value.ownBlock] at hk
          · rw [h] at hk; simp [Value.ownBlock] at hk; subst hk; exact .inr hg')
        clear hs1 hb1 hk4
        go_wp2
        go_roundw
        case rel => exact ⟨j + 1, m', by omega, by omega, by rw [← hm'], by go_num, hsucc, by rw [← HX.out]; exact ho4, hK4⟩
        case measure => simp [intOf]; omega
      · obtain rfl : j = 2 := by omega
        go_wp2
        go_ret
        exact ⟨_, rfl, hO.out, hkeep⟩
  · change Calls _ _ #[.int .u64 (n : Int), .int .i64 4] _ _
    go_enter Try.func100, Try.ntmps100
    go_wp2
    go_loopw [0, 5, 6] (fun x o i wr => ∃ j m : Nat, j ≤ 4 ∧ m < 18446744073709551616 ∧ x = .int .u64 m ∧ i = .int .i64 j ∧ Hid (m = n / 256 ^ j) ∧ Hid (OwnB wr w.heap.size 5 o (le n j)) ∧ Keep [] w wr) (fun _ _ i _ => 4 - (intOf i).toNat)
    case atStart => exact ⟨0, n, by omega, hn, rfl, rfl, by simp [Hid], OwnB.nil _ _ _, Keep.refl _ _⟩
    case round =>
      obtain ⟨j, m, hj, hm, rfl, rfl, hmm, hO, hkeep⟩ := hrel
      by_cases hlt : j < 4
      · obtain ⟨m', hm'⟩ : ∃ m', m / 256 = m' := ⟨_, rfl⟩
        have hsucc : Hid (m' = n / 256 ^ (j + 1)) := by show _ = _; rw [← hm', hmm.out, Nat.pow_succ, Nat.div_div_eq_div_mul]
        obtain ⟨x, hx⟩ : ∃ x : UInt8, x = UInt8.ofNat (m % 256) := ⟨_, rfl⟩
        have hx2 : ((x.toNat : Nat) : Int) = (m : Int) % 256 := by rw [hx, UInt8.toNat_ofNat']; omega
        have hx3 : (m : Int).tmod 256 = (x.toNat : Int) := by rw [Int.tmod_eq_emod_of_nonneg (by omega), hx2]
        have hx4 := x.toNat_lt
        have hconv : IntKind.u8.wrap (x.toNat : Int) = (x.toNat : Int) := by rw [u8_wrap]; omega
        have hdv : (m : Int).tdiv 256 = (m' : Int) := by rw [Int.tdiv_eq_ediv_of_nonneg (by omega), ← hm']; rfl
        have HX : Hid (le n j ++ [x] = le n (j + 1)) := by show _ = _; rw [le, hx, hmm.out]
        clear hx hx2
        have hlt' : (j : Int) < 4 := by omega
        have hs1 := (hO.out.keep ((Keep.refl [] wr).alloc (.cells #[.int .u8 (x.toNat : Int)] 5)) (by simp))
        have hb1 := bytes_one wr x _ rfl (0, 0)
        have hk1 := hkeep.alloc (.cells #[.int .u8 (x.toNat : Int)] 5)
        go_wp2_with (refine wpList_append_bytes rfl (.tmp 26) (.tmp 30) 23 5 rfl w.heap.size Try.underlying23 (by kernel_rfl) (v := u5) (src := .slice (some ⟨wr.heap.size, 0, none⟩) 1 1) rfl rfl hs1 hb1 (by rw [le_len]; simp; omega) hk1.size ?_)
        intro v4 w4 ho4 hk4
        have hK4 : Keep [] w w4 := hk1.trans' hk4 (by
          intro k hk
          rcases hs1.2 with ⟨h, -⟩ | ⟨g', c, cur, h, hg', -⟩
          · rw [h] at hk; simp [Value.ownBlock] at hk
          · rw [h] at hk; simp [Value.ownBlock] at hk; subst hk; exact .inr hg')
        clear hs1 hb1 hk4
        go_wp2
        go_roundw
        case rel => exact ⟨j + 1, m', by omega, by omega, by rw [← hm'], by go_num, hsucc, by rw [← HX.out]; exact ho4, hK4⟩
        case measure => simp [intOf]; omega
      · obtain rfl : j = 4 := by omega
        go_wp2
        go_ret
        exact ⟨_, rfl, hO.out, hkeep⟩
  · change Calls _ _ #[.int .u64 (n : Int), .int .i64 8] _ _
    go_enter Try.func100, Try.ntmps100
    go_wp2
    go_loopw [0, 5, 6] (fun x o i wr => ∃ j m : Nat, j ≤ 8 ∧ m < 18446744073709551616 ∧ x = .int .u64 m ∧ i = .int .i64 j ∧ Hid (m = n / 256 ^ j) ∧ Hid (OwnB wr w.heap.size 5 o (le n j)) ∧ Keep [] w wr) (fun _ _ i _ => 8 - (intOf i).toNat)
    case atStart => exact ⟨0, n, by omega, hn, rfl, rfl, by simp [Hid], OwnB.nil _ _ _, Keep.refl _ _⟩
    case round =>
      obtain ⟨j, m, hj, hm, rfl, rfl, hmm, hO, hkeep⟩ := hrel
      by_cases hlt : j < 8
      · obtain ⟨m', hm'⟩ : ∃ m', m / 256 = m' := ⟨_, rfl⟩
        have hsucc : Hid (m' = n / 256 ^ (j + 1)) := by show _ = _; rw [← hm', hmm.out, Nat.pow_succ, Nat.div_div_eq_div_mul]
        obtain ⟨x, hx⟩ : ∃ x : UInt8, x = UInt8.ofNat (m % 256) := ⟨_, rfl⟩
        have hx2 : ((x.toNat : Nat) : Int) = (m : Int) % 256 := by rw [hx, UInt8.toNat_ofNat']; omega
        have hx3 : (m : Int).tmod 256 = (x.toNat : Int) := by rw [Int.tmod_eq_emod_of_nonneg (by omega), hx2]
        have hx4 := x.toNat_lt
        have hconv : IntKind.u8.wrap (x.toNat : Int) = (x.toNat : Int) := by rw [u8_wrap]; omega
        have hdv : (m : Int).tdiv 256 = (m' : Int) := by rw [Int.tdiv_eq_ediv_of_nonneg (by omega), ← hm']; rfl
        have HX : Hid (le n j ++ [x] = le n (j + 1)) := by show _ = _; rw [le, hx, hmm.out]
        clear hx hx2
        have hlt' : (j : Int) < 8 := by omega
        have hs1 := (hO.out.keep ((Keep.refl [] wr).alloc (.cells #[.int .u8 (x.toNat : Int)] 5)) (by simp))
        have hb1 := bytes_one wr x _ rfl (0, 0)
        have hk1 := hkeep.alloc (.cells #[.int .u8 (x.toNat : Int)] 5)
        go_wp2_with (refine wpList_append_bytes rfl (.tmp 26) (.tmp 30) 23 5 rfl w.heap.size Try.underlying23 (by kernel_rfl) (v := u5) (src := .slice (some ⟨wr.heap.size, 0, none⟩) 1 1) rfl rfl hs1 hb1 (by rw [le_len]; simp; omega) hk1.size ?_)
        intro v4 w4 ho4 hk4
        have hK4 : Keep [] w w4 := hk1.trans' hk4 (by
          intro k hk
          rcases hs1.2 with ⟨h, -⟩ | ⟨g', c, cur, h, hg', -⟩
          · rw [h] at hk; simp [Value.ownBlock] at hk
          · rw [h] at hk; simp [Value.ownBlock] at hk; subst hk; exact .inr hg')
        clear hs1 hb1 hk4
        go_wp2
        go_roundw
        case rel => exact ⟨j + 1, m', by omega, by omega, by rw [← hm'], by go_num, hsucc, by rw [← HX.out]; exact ho4, hK4⟩
        case measure => simp [intOf]; omega
      · obtain rfl : j = 8 := by omega
        go_wp2
        go_ret
        exact ⟨_, rfl, hO.out, hkeep⟩

theorem bytes_setRow {w : World} {v : Value} {l : List UInt8} (h : Bytes w v l) {g : Nat} (hp : l ≠ [] → v.ownBlock ≠ some g) (cs : Array Value) : Bytes (w.setRow g cs) v l := by
  by_cases hl : l = []
  · subst hl
    obtain ⟨ao, cap, rfl, h1, h2, h3, h4⟩ := h
    exact ⟨ao, cap, rfl, h1, h2, h3, fun ad e i hi => by simp at hi⟩
  · refine h.keep (S := [g]) ((Keep.refl _ _).setRow (.inl (by simp)) cs) ?_
    intro b hb hm
    simp at hm
    subst hm
    exact hp hl hb
theorem no_u8 (a b : Nat × Option Addr × Nat) (e : Int) : ∀ (i : Nat) (x : Value), (#[Value.slice a.2.1 a.1 a.2.2, Value.slice b.2.1 b.1 b.2.2, Value.int .i64 e] : Array Value)[i]? = some x → ∀ n : Int, x ≠ Value.int .u8 n := by
  intro i x hx n e
  subst e
  match i, hx with
  | 0, h => simp at h
  | 1, h => simp at h
  | 2, h => simp at h
  | i + 3, h => simp at h

set_option maxRecDepth 100000 in
set_option maxHeartbeats 1000000 in
theorem of09_any (ks vs : ByteArray) (e : Int) (hk : ks.size ≤ 140737488355328) (hv : vs.size ≤ 140737488355328) (w : World) :
    Calls Try.prog 15 #[.agg #[.string ks, .string vs, .int .i64 e]] w fun x w' => ∃ k v, x = .returned (.agg #[k, v, .int .i64 e]) ∧ Bytes w' k ks.data.toList ∧ Bytes w' v vs.data.toList ∧ Keep [] w w' := by
  go_enter Try.func15, Try.ntmps15
  go_wp2_with (refine wpList_of_string rfl (.tmp 4) 9 23 5 rfl Try.underlying9 Try.underlying23 Try.underlying5 rfl hk ?_)
  intro v1 w1 hb1 hk1
  have hA := hk1.blk (by simp) (heap_alloc2_old w _ _)
  have hB := hk1.blk (by simp) (heap_alloc2_new w _ _)
  have c1 := cell_of_row w1 _ 1 _ _ _ hA
  simp at c1
  go_wp2_with (refine wpList_of_string rfl (.tmp 7) 9 23 5 rfl Try.underlying9 Try.underlying23 Try.underlying5 rfl hv ?_)
  intro v2 w2 hb2 hk2
  have hA2 := hk2.blk (by simp) hA
  have hB2 := hk2.blk (by simp) hB
  have c2 := cell_of_row w2 _ 2 _ _ _ hA2
  simp at c2
  have hK := (((Keep.refl [] w).alloc _).alloc _).trans (hk1.trans hk2)
  have hf1 := hb1.form
  have hf2 := hb2.form
  obtain ⟨ao1, cap1, hv1, -⟩ := hf1
  obtain ⟨ao2, cap2, hv2, -⟩ := hf2
  subst hv1 hv2
  rw [show ks.data.toList.length = ks.size by rw [Array.length_toList]; rfl] at hb1
  rw [show vs.data.toList.length = vs.size by rw [Array.length_toList]; rfl] at hb2
  clear hA hB hA2 c1
  go_wp2_with (refine wpList_store_row rfl 30 (.tmp 2) _ rfl (w.heap.size + 1) _ rfl rfl 30 _ hB2 (by kernel_rfl) (by rfl) (by kernel_rfl) ?_)
  have hb := hb1.keep hk2 (by simp)
  refine bodyPost_ret (results_cell_row rfl _ _ (w.heap.size + 1) 30 _ _ _ rfl (setRow_heap _ _ _ _ _ _ hB2) Try.underlying30 rfl (by kernel_rfl)) rfl ⟨_, _, rfl, ?_, ?_, hK.setRow (.inr (by omega)) _⟩
  · exact (bytes_setRow hb (fun h => hb.ne_row h hB2 (no_u8 (0, none, 0) (0, none, 0) 0)) _)
  · exact (bytes_setRow hb2 (fun h => hb2.ne_row h hB2 (no_u8 (0, none, 0) (0, none, 0) 0)) _)

end Go.Proofs.Ytcmkcegnfddccaa
