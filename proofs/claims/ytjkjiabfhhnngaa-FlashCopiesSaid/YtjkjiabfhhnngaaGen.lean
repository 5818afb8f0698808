import Derived.Test.YtjkjiabfhhnngaaReader
import Derived.Test.YtjkjiabfhhnngaaRefOf
import Derived.Test.YtjkjiabfhhnngaaLex
import Derived.Lib.SlBytesConst
import Derived.Laws.IdiomStrings
/-! General words: strings and bytes, readers and writers, numbers. -/
namespace Go.Proofs.Ytjkjiabfhhnngaa
open Go.RowKit Sg
set_option linter.unusedSimpArgs false

theorem bytes_one (w : World) (b : UInt8) (c : Int) (hc : c = (b.toNat : Int)) (fr : Nat × Nat) : Bytes (w.alloc (.cells #[.int .u8 c] 5 fr)) (.slice (some ⟨w.heap.size, 0, none⟩) 1 1) [b] := by
  subst hc
  exact Bytes.row (l := [b]) (cap := 1) (World.alloc_heap_new w _) (by intro i hi; have : i < 1 := hi; match i, this with | 0, _ => rfl) (by simp) ⟨by decide, by simp⟩

theorem run_of_string {P : Program} (w : World) (src dst e : TypeId) (s : ByteArray) (hs : P.underlying src = some .string) (hd : P.underlying dst = some (.slice e)) (he : P.underlying e = some (.int .u8)) (hn : s.size ≤ 140737488355328) :
    ∃ v' w', Sem.run P (convert src dst (.string s)) w = .ok v' w' ∧ Bytes w' v' s.data.toList ∧ Keep [] w w' := by
  refine ⟨_, _, run_bytes_of_string w src dst e s hs hd he, ?_, ((Keep.refl [] w).drew).alloc _⟩
  have h1 := grownCap_ge w s.size 0 e
  have h2 := grownCap_le_maxLen w s.size 0 e (show s.size ≤ 9223372036854775807 by omega)
  generalize grownCap w s.size 0 e = c at h1 h2 ⊢
  have hl : s.data.toList.length = s.size := by rw [Array.length_toList]; rfl
  have hb := Bytes.row (w := w.drew.alloc (.cells (bytesRow s c) e ((bytesRow s c).size, (bytesRow s c).size + 1))) (g := w.heap.size) (l := s.data.toList) (cap := c) (World.alloc_heap_new w.drew _) (by
    intro i hi
    have hi' : i < s.data.size := by simpa using hi
    unfold bytesRow
    rw [Array.getElem?_append_left (by simpa using hi')]
    simp [u8v]
    exact ⟨s.data[i], Array.getElem?_eq_getElem hi', rfl⟩) (by omega) ⟨h2, by omega⟩
  rw [hl] at hb
  exact hb
theorem wpList_of_string {P : Program} {ops : Array Oper} {Q : Exit → Act → World → Prop} {w : World} {rest : List Oper} {o : Oper} {a : Act} (hg : o.guard = none) (x : Operand) (src dst e : TypeId) (hop : o.op = Op.convert src dst x)
    (hs : P.underlying src = some .string) (hd : P.underlying dst = some (.slice e)) (he : P.underlying e = some (.int .u8)) {s : ByteArray} (hx : a.eval x = .string s) (hn : s.size ≤ 140737488355328)
    (hK : ∀ v' w', Bytes w' v' s.data.toList → Keep [] w w' → wpList P ops Q rest (a.put o.dst v') w') : wpList P ops Q (o :: rest) a w := by
  obtain ⟨v', w', hrun, h1, h2⟩ := run_of_string (P := P) w src dst e s hs hd he hn
  refine wpList_plain hg fun K hK' => ?_
  unfold Oper.wp
  have e1 : (execOp a.eval o).run P w = .ok (.value v') w' := by
    simp [execOp, hop, hx, hrun, Result.andThen]
  rw [e1]
  exact hK' _ _ (hK v' w' h1 h2)
set_option maxRecDepth 100000 in
set_option maxHeartbeats 1000000 in
theorem refNumber_any (n k : Nat) (hn : n < 18446744073709551616) (hk : k = 1 ∨ k = 2 ∨ k = 4 ∨ k = 8) (w : World) : Calls Try.prog 99 #[.int .u64 n, .int .i64 k] w fun e w' => ∃ v', e = .returned v' ∧ OwnB w' w.heap.size 5 v' (le n k) ∧ Keep [] w w' := by
  rcases hk with rfl | rfl | rfl | rfl
  · change Calls _ _ #[.int .u64 (n : Int), .int .i64 1] _ _
    go_enter Try.func99, Try.ntmps99
    go_wp2
    go_loopw [0, 5, 6] (fun x o i wr => ∃ j m : Nat, j ≤ 1 ∧ m < 18446744073709551616 ∧ x = .int .u64 m ∧ i = .int .i64 j ∧ Hid (m = n / 256 ^ j) ∧ Hid (OwnB wr w.heap.size 5 o (le n j)) ∧ Keep [] w wr) (fun _ _ i _ => 1 - (intOf i).toNat)
    case atStart => exact ⟨0, n, by omega, hn, rfl, rfl, by simp [Hid], OwnB.nil _ _ _, Keep.refl _ _⟩
    case round =>
      obtain ⟨j, m, hj, hm, rfl, rfl, hmm, hO, hkeep⟩ := hrel
      by_cases hlt : j < 1
      · obtain ⟨m', hm'⟩ : ∃ m', m / 256 = m' := ⟨_, rfl⟩
        have hsucc : Hid (m' = n / 256 ^ (j + 1)) := by show _ = _; rw [← hm', hmm.out, Nat.pow_succ, Nat.div_div_eq_div_mul]
        obtain ⟨x, hx⟩ : ∃ x : UInt8, x = UInt8.ofNat (m % 256) := ⟨_, rfl⟩
        have hx2 : ((x.toNat : Nat) : Int) = (m : Int) % 256 := by rw [hx, UInt8.toNat_ofNat']; omega
        have hx3 : (m : Int).tmod 256 = (x.toNat : Int) := by rw [Int.tmod_eq_emod_of_nonneg (by omega), hx2]
        have hx4 := x.toNat_lt
        have hconv : IntKind.u8.wrap (x.toNat : Int) = (x.toNat : Int) := by rw [u8_wrap]; omega
        have hdv : (m : Int).tdiv 256 = (m' : Int) := by rw [Int.tdiv_eq_ediv_of_nonneg (by omega), ← hm']; rfl
        have HX : Hid (le n j ++ [x] = le n (j + 1)) := by show _ = _; rw [le, hx, hmm.out]
        clear hx hx2
        have hlt' : (j : Int) < 1 := by omega
        have hs1 := (hO.out.keep ((Keep.refl [] wr).alloc (.cells #[.int .u8 (x.toNat : Int)] 5)) (by simp))
        have hb1 := bytes_one wr x _ rfl (0, 0)
        have hk1 := hkeep.alloc (.cells #[.int .u8 (x.toNat : Int)] 5)
        go_wp2_with (refine wpList_append_bytes rfl (.tmp 26) (.tmp 30) 42 5 rfl w.heap.size Try.underlying42 (by kernel_rfl) (v := u5) (src := .slice (some ⟨wr.heap.size, 0, none⟩) 1 1) rfl rfl hs1 hb1 (by rw [le_len]; simp; omega) hk1.size ?_)
        intro v4 w4 ho4 hk4
        have hK4 : Keep [] w w4 := hk1.trans' hk4 (by
          intro k hk
          rcases hs1.2 with ⟨h, -⟩ | ⟨g', c, cur, h, hg', -⟩
          · rw [h] at hk; simp [Value.ownBlock] at hk
          · rw [h] at hk; simp [Value.ownBlock] at hk; subst hk; exact .inr hg')
        clear hs1 hb1 hk4
        go_wp2
        go_roundw
        case rel => exact ⟨j + 1, m', by omega, by omega, by rw [← hm'], by go_num, hsucc, by rw [← HX.out]; exact ho4, hK4⟩
        case measure => simp [intOf]; omega
      · obtain rfl : j = 1 := by omega
        go_wp2
        go_ret
        exact ⟨_, rfl, hO.out, hkeep⟩
  · change Calls _ _ #[.int .u64 (n : Int), .int .i64 2] _ _
    go_enter Try.func99, Try.ntmps99
    go_wp2
    go_loopw [0, 5, 6] (fun x o i wr => ∃ j m : Nat, j ≤ 2 ∧ m < 18446744073709551616 ∧ x = .int .u64 m ∧ i = .int .i64 j ∧ Hid (m = n / 256 ^ j) ∧ Hid (OwnB wr w.heap.size 5 o (le n j)) ∧ Keep [] w wr) (fun _ _ i _ => 2 - (intOf i).toNat)
    case atStart => exact ⟨0, n, by omega, hn, rfl, rfl, by simp [Hid], OwnB.nil _ _ _, Keep.refl _ _⟩
    case round =>
      obtain ⟨j, m, hj, hm, rfl, rfl, hmm, hO, hkeep⟩ := hrel
      by_cases hlt : j < 2
      · obtain ⟨m', hm'⟩ : ∃ m', m / 256 = m' := ⟨_, rfl⟩
        have hsucc : Hid (m' = n / 256 ^ (j + 1)) := by show _ = _; rw [← hm', hmm.out, Nat.pow_succ, Nat.div_div_eq_div_mul]
        obtain ⟨x, hx⟩ : ∃ x : UInt8, x = UInt8.ofNat (m % 256) := ⟨_, rfl⟩
        have hx2 : ((x.toNat : Nat) : Int) = (m : Int) % 256 := by rw [hx, UInt8.toNat_ofNat']; omega
        have hx3 : (m : Int).tmod 256 = (x.toNat : Int) := by rw [Int.tmod_eq_emod_of_nonneg (by omega), hx2]
        have hx4 := x.toNat_lt
        have hconv : IntKind.u8.wrap (x.toNat : Int) = (x.toNat : Int) := by rw [u8_wrap]; omega
        have hdv : (m : Int).tdiv 256 = (m' : Int) := by rw [Int.tdiv_eq_ediv_of_nonneg (by omega), ← hm']; rfl
        have HX : Hid (le n j ++ [x] = le n (j + 1)) := by show _ = _; rw [le, hx, hmm.out]
        clear hx hx2
        have hlt' : (j : Int) < 2 := by omega
        have hs1 := (hO.out.keep ((Keep.refl [] wr).alloc (.cells #[.int .u8 (x.toNat : Int)] 5)) (by simp))
        have hb1 := bytes_one wr x _ rfl (0, 0)
        have hk1 := hkeep.alloc (.cells #[.int .u8 (x.toNat : Int)] 5)
        go_wp2_with (refine wpList_append_bytes rfl (.tmp 26) (.tmp 30) 42 5 rfl w.heap.size Try.underlying42 (by kernel_rfl) (v := u5) (src := .slice (some ⟨wr.heap.size, 0, none⟩) 1 1) rfl rfl hs1 hb1 (by rw [le_len]; simp; omega) hk1.size ?_)
        intro v4 w4 ho4 hk4
        have hK4 : Keep [] w w4 := hk1.trans' hk4 (by
          intro k hk
          rcases hs1.2 with ⟨h, -⟩ | ⟨g', c, cur, h, hg', -⟩
          · rw [h] at hk; simp [Value.ownBlock] at hk
          · rw [h] at hk; simp [Value.ownBlock] at hk; subst hk; exact .inr hg')
        clear hs1 hb1 hk4
        go_wp2
        go_roundw
        case rel => exact ⟨j + 1, m', by omega, by omega, by rw [← hm'], by go_num, hsucc, by rw [← HX.out]; exact ho4, hK4⟩
        case measure => simp [intOf]; omega
      · obtain rfl : j = 2 := by omega
        go_wp2
        go_ret
        exact ⟨_, rfl, hO.out, hkeep⟩
  · change Calls _ _ #[.int .u64 (n : Int), .int .i64 4] _ _
    go_enter Try.func99, Try.ntmps99
    go_wp2
    go_loopw [0, 5, 6] (fun x o i wr => ∃ j m : Nat, j ≤ 4 ∧ m < 18446744073709551616 ∧ x = .int .u64 m ∧ i = .int .i64 j ∧ Hid (m = n / 256 ^ j) ∧ Hid (OwnB wr w.heap.size 5 o (le n j)) ∧ Keep [] w wr) (fun _ _ i _ => 4 - (intOf i).toNat)
    case atStart => exact ⟨0, n, by omega, hn, rfl, rfl, by simp [Hid], OwnB.nil _ _ _, Keep.refl _ _⟩
    case round =>
      obtain ⟨j, m, hj, hm, rfl, rfl, hmm, hO, hkeep⟩ := hrel
      by_cases hlt : j < 4
      · obtain ⟨m', hm'⟩ : ∃ m', m / 256 = m' := ⟨_, rfl⟩
        have hsucc : Hid (m' = n / 256 ^ (j + 1)) := by show _ = _; rw [← hm', hmm.out, Nat.pow_succ, Nat.div_div_eq_div_mul]
        obtain ⟨x, hx⟩ : ∃ x : UInt8, x = UInt8.ofNat (m % 256) := ⟨_, rfl⟩
        have hx2 : ((x.toNat : Nat) : Int) = (m : Int) % 256 := by rw [hx, UInt8.toNat_ofNat']; omega
        have hx3 : (m : Int).tmod 256 = (x.toNat : Int) := by rw [Int.tmod_eq_emod_of_nonneg (by omega), hx2]
        have hx4 := x.toNat_lt
        have hconv : IntKind.u8.wrap (x.toNat : Int) = (x.toNat : Int) := by rw [u8_wrap]; omega
        have hdv : (m : Int).tdiv 256 = (m' : Int) := by rw [Int.tdiv_eq_ediv_of_nonneg (by omega), ← hm']; rfl
        have HX : Hid (le n j ++ [x] = le n (j + 1)) := by show _ = _; rw [le, hx, hmm.out]
        clear hx hx2
        have hlt' : (j : Int) < 4 := by omega
        have hs1 := (hO.out.keep ((Keep.refl [] wr).alloc (.cells #[.int .u8 (x.toNat : Int)] 5)) (by simp))
        have hb1 := bytes_one wr x _ rfl (0, 0)
        have hk1 := hkeep.alloc (.cells #[.int .u8 (x.toNat : Int)] 5)
        go_wp2_with (refine wpList_append_bytes rfl (.tmp 26) (.tmp 30) 42 5 rfl w.heap.size Try.underlying42 (by kernel_rfl) (v := u5) (src := .slice (some ⟨wr.heap.size, 0, none⟩) 1 1) rfl rfl hs1 hb1 (by rw [le_len]; simp; omega) hk1.size ?_)
        intro v4 w4 ho4 hk4
        have hK4 : Keep [] w w4 := hk1.trans' hk4 (by
          intro k hk
          rcases hs1.2 with ⟨h, -⟩ | ⟨g', c, cur, h, hg', -⟩
          · rw [h] at hk; simp [Value.ownBlock] at hk
          · rw [h] at hk; simp [Value.ownBlock] at hk; subst hk; exact .inr hg')
        clear hs1 hb1 hk4
        go_wp2
        go_roundw
        case rel => exact ⟨j + 1, m', by omega, by omega, by rw [← hm'], by go_num, hsucc, by rw [← HX.out]; exact ho4, hK4⟩
        case measure => simp [intOf]; omega
      · obtain rfl : j = 4 := by omega
        go_wp2
        go_ret
        exact ⟨_, rfl, hO.out, hkeep⟩
  · change Calls _ _ #[.int .u64 (n : Int), .int .i64 8] _ _
    go_enter Try.func99, Try.ntmps99
    go_wp2
    go_loopw [0, 5, 6] (fun x o i wr => ∃ j m : Nat, j ≤ 8 ∧ m < 18446744073709551616 ∧ x = .int .u64 m ∧ i = .int .i64 j ∧ Hid (m = n / 256 ^ j) ∧ Hid (OwnB wr w.heap.size 5 o (le n j)) ∧ Keep [] w wr) (fun _ _ i _ => 8 - (intOf i).toNat)
    case atStart => exact ⟨0, n, by omega, hn, rfl, rfl, by simp [Hid], OwnB.nil _ _ _, Keep.refl _ _⟩
    case round =>
      obtain ⟨j, m, hj, hm, rfl, rfl, hmm, hO, hkeep⟩ := hrel
      by_cases hlt : j < 8
      · obtain ⟨m', hm'⟩ : ∃ m', m / 256 = m' := ⟨_, rfl⟩
        have hsucc : Hid (m' = n / 256 ^ (j + 1)) := by show _ = _; rw [← hm', hmm.out, Nat.pow_succ, Nat.div_div_eq_div_mul]
        obtain ⟨x, hx⟩ : ∃ x : UInt8, x = UInt8.ofNat (m % 256) := ⟨_, rfl⟩
        have hx2 : ((x.toNat : Nat) : Int) = (m : Int) % 256 := by rw [hx, UInt8.toNat_ofNat']; omega
        have hx3 : (m : Int).tmod 256 = (x.toNat : Int) := by rw [Int.tmod_eq_emod_of_nonneg (by omega), hx2]
        have hx4 := x.toNat_lt
        have hconv : IntKind.u8.wrap (x.toNat : Int) = (x.toNat : Int) := by rw [u8_wrap]; omega
        have hdv : (m : Int).tdiv 256 = (m' : Int) := by rw [Int.tdiv_eq_ediv_of_nonneg (by omega), ← hm']; rfl
        have HX : Hid (le n j ++ [x] = le n (j + 1)) := by show _ = _; rw [le, hx, hmm.out]
        clear hx hx2
        have hlt' : (j : Int) < 8 := by omega
        have hs1 := (hO.out.keep ((Keep.refl [] wr).alloc (.cells #[.int .u8 (x.toNat : Int)] 5)) (by simp))
        have hb1 := bytes_one wr x _ rfl (0, 0)
        have hk1 := hkeep.alloc (.cells #[.int .u8 (x.toNat : Int)] 5)
        go_wp2_with (refine wpList_append_bytes rfl (.tmp 26) (.tmp 30) 42 5 rfl w.heap.size Try.underlying42 (by kernel_rfl) (v := u5) (src := .slice (some ⟨wr.heap.size, 0, none⟩) 1 1) rfl rfl hs1 hb1 (by rw [le_len]; simp; omega) hk1.size ?_)
        intro v4 w4 ho4 hk4
        have hK4 : Keep [] w w4 := hk1.trans' hk4 (by
          intro k hk
          rcases hs1.2 with ⟨h, -⟩ | ⟨g', c, cur, h, hg', -⟩
          · rw [h] at hk; simp [Value.ownBlock] at hk
          · rw [h] at hk; simp [Value.ownBlock] at hk; subst hk; exact .inr hg')
        clear hs1 hb1 hk4
        go_wp2
        go_roundw
        case rel => exact ⟨j + 1, m', by omega, by omega, by rw [← hm'], by go_num, hsucc, by rw [← HX.out]; exact ho4, hK4⟩
        case measure => simp [intOf]; omega
      · obtain rfl : j = 8 := by omega
        go_wp2
        go_ret
        exact ⟨_, rfl, hO.out, hkeep⟩
theorem bytes_setRow {w : World} {v : Value} {l : List UInt8} (h : Bytes w v l) {g : Nat} (hp : l ≠ [] → v.ownBlock ≠ some g) (cs : Array Value) : Bytes (w.setRow g cs) v l := by
  by_cases hl : l = []
  · subst hl
    obtain ⟨ao, cap, rfl, h1, h2, h3, h4⟩ := h
    exact ⟨ao, cap, rfl, h1, h2, h3, fun ad e i hi => by simp at hi⟩
  · refine h.keep (S := [g]) ((Keep.refl _ _).setRow (.inl (by simp)) cs) ?_
    intro b hb hm
    simp at hm
    subst hm
    exact hp hl hb
/-- string(b) -/
theorem run_str {P : Program} {w : World} {v : Value} {l : List UInt8} (src dst e : TypeId) (hs : P.underlying src = some (.slice e)) (he : P.underlying e = some (.int .u8)) (hd : P.underlying dst = some .string) (h : Bytes w v l) :
    Sem.run P (convert src dst v) w = .ok (.string ⟨l.toArray⟩) w := by
  obtain ⟨ao, cap, rfl, h1, h2, h3, h4⟩ := h
  cases ao with
  | none =>
    obtain rfl := h3 rfl
    rw [List.length_nil, run_convert_bytes_string w src dst e none 0 cap hs he hd]
    simp [Conv.bytesToString]
    rfl
  | some ad => exact run_convert_bytes_back w src dst e ad cap l hs he hd (h4 ad rfl)
theorem own_grow {w w1 w2 : World} {e : TypeId} {v : Value} {xs : List UInt8} (ho : OwnB w1 w.heap.size e v xs) (hK : Keep [] w w1) (hk : Keep v.ownBlock.toList w1 w2) : Keep [] w w2 :=
  hK.trans' hk (by
    intro k hk
    rcases ho.2 with ⟨h, -⟩ | ⟨g', c, cur, h, hg', -⟩
    · rw [h] at hk; simp [Value.ownBlock] at hk
    · rw [h] at hk; simp [Value.ownBlock] at hk; subst hk; exact .inr hg')
theorem loudly_store_row {P : Program} {o : Oper} {a : Act} {w : World} {K : Act → World → Prop} (ty : TypeId) (x y : Operand) (ho : o.op = .store ty x y)
    (g : Nat) (cells : Array Value) (hx : a.eval x = .pointer (some ⟨g, 0, none⟩)) (hy : a.eval y = .agg cells)
    (t : TypeId) (old : Array Value) (hg : w.heap[g]? = some (.cells old t (0, 0))) (hi : (P.info? ty).map (·.size) = some cells.size)
    (hold : old.size = cells.size) (h1 : cells.all (·.oneCell') = true)
    (h : K (a.put o.dst undef) (w.setRow g cells)) : loudly P o a w K := by
  unfold loudly execOp
  simp only [ho, hx, hy, Instr.storeAt, Instr.sureAddr, Sem.run_bind, Sem.run_pure, Result.andThen_ok, run_storeVar_row w g t ty old cells hg hi hold h1]
  exact h
theorem rdN_good {s : List UInt8 × Bool} {k : Nat} (h : (rdN s k).2.2 = false) : s.2 = false ∧ k ≤ s.1.length := by
  unfold rdN at h
  split at h
  · exact ⟨h, by assumption⟩
  · cases h
theorem rdR_good {s : List UInt8 × Bool} {n : Nat} (h : (rdR s n).2.2 = false) : s.2 = false ∧ (rdR s n).1.length = n := by
  unfold rdR at h ⊢
  split at h
  · rename_i hn
    rw [if_pos hn]
    exact ⟨h, by simp; omega⟩
  · cases h
theorem results3_row {P : Program} {fn : Func} {p u s : Tmp} {ty : TypeId} (h : fn.results = #[.cell p ty, .tmp u, .tmp s]) (tmps : Array Value) (w : World) (g : Nat) (t : TypeId) (cs : Array Value) (fr : Nat × Nat) (d : TypeDesc)
    (hp : tmps.getD p undef = .pointer (some ⟨g, 0, none⟩)) (hg : w.heap[g]? = some (.cells cs t fr))
    (hu : P.underlying ty = some d) (hd : (match d with | .struct _ | .array _ _ => true | _ => false) = true) (hi : (P.info? ty).map (·.size) = some cs.size) :
    (results fn tmps).run P w = .ok (.tuple #[.agg cs, tmps.getD u undef, tmps.getD s undef]) w := by
  have hp' : tmps[p]?.getD undef = .pointer (some ⟨g, 0, none⟩) := by simpa using hp
  simp [results, h, hp', asAddr, run_loadVar_row w g t ty cs fr d hg hu hd hi, Result.andThen]
theorem bytes_keep {S : List Nat} {w w' : World} {v : Value} {l : List UInt8} (h : Bytes w v l) (k : Keep S w w') (hv : l ≠ [] → ∀ b, v.ownBlock = some b → b ∉ S) : Bytes w' v l := by
  by_cases hl : l = []
  · subst hl
    obtain ⟨ao, cap, rfl, h1, h2, h3, h4⟩ := h
    exact ⟨ao, cap, rfl, h1, h2, h3, fun ad e i hi => by simp at hi⟩
  · exact h.keep k (hv hl)
theorem reader_nu (v : Value) (b : Bool) (hv : ∀ n : Int, v ≠ .int .u8 n) : ∀ (i : Nat) (x : Value), (#[v, Value.bool b] : Array Value)[i]? = some x → ∀ n : Int, x ≠ Value.int .u8 n := by
  intro i x hx n e
  subst e
  match i, hx with
  | 0, h => simp at h; exact hv _ h
  | 1, h => simp at h
  | i + 2, h => simp at h
theorem rdR_len (s : List UInt8 × Bool) (n : Nat) : (rdR s n).1.length ≤ n := by
  unfold rdR
  split
  · simp; omega
  · simp
theorem RS.base {W0 W w : World} {g : Nat} {xs : List UInt8} {bad : Bool} (h : RS W w g xs bad) (k : Keep [] W0 W) : RS W0 w g xs bad :=
  ⟨k.trans h.1, Nat.le_trans k.size h.2.1, h.2.2⟩
theorem RS.setRow {W w : World} {g b : Nat} {xs : List UInt8} {bad : Bool} {old : Array Value} {t : TypeId} {fr : Nat × Nat} (h : RS W w g xs bad) (hb : w.heap[b]? = some (.cells old t fr)) (hne : g ≠ b) (hW : W.heap.size ≤ b)
    (hold : ∀ (i : Nat) (x : Value), old[i]? = some x → ∀ n : Int, x ≠ Value.int .u8 n) (cs : Array Value) : RS W (w.setRow b cs) g xs bad := by
  obtain ⟨h1, h2, v, h3, h4, h5⟩ := h
  refine ⟨h1.setRow (.inr hW) _, h2, v, ?_, bytes_setRow h4 (fun hl => h4.ne_row hl hb hold) cs, h5⟩
  have hk : Keep [b] w (w.setRow b cs) := (Keep.refl _ _).setRow (.inl (by simp)) cs
  exact hk.blk (by simp [hne]) h3
theorem rdN_eq {s : List UInt8 × Bool} {k : Nat} (h : k ≤ s.1.length) : rdN s k = (leOf (s.1.take k), s.1.drop k, s.2) := if_pos h
theorem rdR_eq {s : List UInt8 × Bool} {n : Nat} (h : n ≤ s.1.length) : rdR s n = (s.1.take n, s.1.drop n, s.2) := if_pos h
theorem rdR_good2 {s : List UInt8 × Bool} {n : Nat} (h : (rdR s n).2.2 = false) : s.2 = false ∧ n ≤ s.1.length := by
  unfold rdR at h
  split at h
  · exact ⟨h, by assumption⟩
  · cases h
theorem leOf_le (n : Nat) : ∀ k, leOf (le n k) = n % 256 ^ k
  | 0 => by simp [le, leOf, Nat.mod_one]
  | k + 1 => by
    rw [le, leOf_snoc, leOf_le n k, le_len, UInt8.toNat_ofNat']
    have h1 : n % 256 ^ (k + 1) = n % 256 ^ k + 256 ^ k * (n / 256 ^ k % 256) := by rw [Nat.pow_succ, Nat.mod_mul]
    rw [h1, Nat.mul_comm (256 ^ k)]
    simp
theorem cut_take (l : List UInt8) (c i n : Nat) (h : i + n ≤ c) : ((l.take c).drop i).take n = (l.drop i).take n := by
  rw [List.drop_take, List.take_take, Nat.min_eq_left (by omega)]
theorem small_wrap {n : Nat} (h : n < 65536) : RowKit.wrap64 (n : Int) = (n : Int) ∧ IntKind.i64.wrap (n : Int) = (n : Int) := ⟨by unfold RowKit.wrap64; omega, i64_wrap_nat (by omega)⟩
theorem take_lt (l : List UInt8) (k : Nat) : leOf (l.take k) < 256 ^ k := by
  have h := leOf_lt (l.take k)
  have h2 : (l.take k).length ≤ k := List.length_take_le _ _
  have : (256 : Nat) ^ (l.take k).length ≤ 256 ^ k := Nat.pow_le_pow_right (by omega) h2
  omega
/-- uint64(n) -/
def un (n : Int) : Nat := (n % 18446744073709551616).toNat
theorem un_lt (n : Int) : un n < 18446744073709551616 := by unfold un; omega
theorem un_wrap (n : Int) : IntKind.u64.wrap n = (un n : Int) := by rw [u64_wrap]; unfold un; omega
theorem un_small {n : Int} (h0 : 0 ≤ n) (h1 : n < 65536) : un n % 65536 = n.toNat ∧ un n % 4294967296 = n.toNat ∧ ((n.toNat : Nat) : Int) = n := by
  unfold un
  omega
end Go.Proofs.Ytjkjiabfhhnngaa
