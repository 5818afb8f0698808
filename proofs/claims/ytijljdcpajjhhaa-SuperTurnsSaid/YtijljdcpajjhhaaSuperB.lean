import Derived.Test.YtijljdcpajjhhaaSuperH
/-! What a save leaves: the plain law. -/
namespace Go.Proofs.Ytijljdcpajjhhaa
open Go.RowKit Sg
set_option linter.unusedSimpArgs false
set_option linter.unusedVariables false

/-! ### the device, as long as it is up -/
theorem lastOf_snoc (l : List (Nat × List UInt8)) (k : Nat) (b : List UInt8) (j : Nat) : lastOf (l ++ [(k, b)]) j = if k = j then some b else lastOf l j := by
  unfold lastOf
  rw [List.reverse_append]
  simp only [List.reverse_cons, List.reverse_nil, List.nil_append, List.cons_append, List.find?_cons]
  by_cases h : k = j
  · subst h; simp
  · have h2 : (k == j) = false := beq_false_of_ne h
    rw [h2, if_neg h]
theorem Dev.get_write (m : Dev) (k j : Nat) (b : List UInt8) : (m.write k b).get j = if k = j then b else m.get j := by
  unfold Dev.get
  show (lastOf (m.loose ++ [(k, b)]) j).getD (m.fast.getD j []) = _
  rw [lastOf_snoc]
  split <;> rfl
theorem read_up {m : Dev} (hd : m.down = false) {n : Nat} (hn : n < m.n) : m.read (n : Int) = (m.get n, 0) := by
  have hr : m.ready (n : Int) = 0 := by unfold Dev.ready; rw [if_neg (by rw [hd]; simp), if_pos ⟨by omega, by omega⟩]
  unfold Dev.read
  rw [if_neg (by rw [hr]; simp)]
  simp
theorem lcode_fine {size k p s n : Nat} (h1 : 96 ≤ size ∧ size ≤ 512) (h2 : 1 ≤ k ∧ k ≤ 4) (h3 : p ≤ 2147483647) (h4 : n + 19 ≤ size) : lcode size k p s n = 0 := by
  unfold lcode
  rw [if_neg (by omega), if_neg (by omega), if_neg (by omega)]
theorem lput_up {m : Dev} (hw : m.Wf) (hd : m.down = false) (ha : m.armed = 0) {n k p s : Nat} (hn : n < m.n) (hk : 1 ≤ k ∧ k ≤ 4) (hp : p ≤ 2147483647) {b : List UInt8} (hb : b.length + 19 ≤ m.sz) :
    lput m (n : Int) (k : Int) (p : Int) (s : Int) b = (m.write n (lbuild m.sz k p s b), 0) := by
  have hc : lcode m.sz k p s b.length = 0 := lcode_fine ⟨hw.s1, hw.s2⟩ hk hp hb
  have hr : m.ready (n : Int) = 0 := by unfold Dev.ready; rw [if_neg (by rw [hd]; simp), if_pos ⟨by omega, by omega⟩]
  unfold lput
  rw [if_neg (by rw [hc]; simp)]
  simp only [Int.toNat_natCast]
  unfold Dev.put
  rw [if_neg (by rw [hr]; simp), if_neg (by rw [lbuild_len _ _ _ _ _ hw.s1 hb]; simp)]
  simp [Dev.act, hd, ha]
theorem zeros_no (n : Nat) : ¬ LeafOk (List.replicate n 0) := by
  rintro ⟨h1, -, -, h, -⟩
  have hk : lk (List.replicate n 0) = 0 := by
    unfold lk
    simp only [List.length_replicate] at h1
    rw [List.take_replicate, show min 1 n = 1 by omega]
    rfl
  rw [hk] at h
  have := (lcode_zero h).2.1
  omega
theorem Dev.write_same (m : Dev) (k : Nat) (b : List UInt8) (hd : m.down = false) (ha : m.armed = 0) : (m.write k b).down = false ∧ (m.write k b).armed = 0 ∧ (m.write k b).n = m.n ∧ (m.write k b).sz = m.sz ∧ (m.write k b).acts = m.acts + 1 := by
  simp [Dev.write, Dev.act, hd, ha]


theorem save_law {m : Dev} (hw : m.Wf) (hd : m.down = false) (ha : m.armed = 0) (hn2 : 2 ≤ m.n) (h : Hd) (hc : h.code = 0) (hs : h.p.seed < 18446744073709551616) (hI : h.In) (h1 : h.p.sec = m.n) (h2 : h.p.size = m.sz) :
    ∃ (t : Nat) (b : List UInt8), h.gen % 2 = (t : Int) ∧ t < 2 ∧ b.length = m.sz ∧ hsave m h = (m.write t b, 0) ∧ (∀ m' : Dev, m'.down = false → m'.n = m.n → m'.sz = m.sz → m'.get t = b → hdAt m' t = some h) := by
  have hg1 : 1 ≤ h.gen := (Hd.code_zero hc).2.1
  have hg2 : h.gen ≤ 9223372036854775807 := hI.2.1.2
  obtain ⟨G, hG⟩ : ∃ G : Nat, h.gen = (G : Int) := ⟨h.gen.toNat, by omega⟩
  have hgt : h.gen % 2 = ((G % 2 : Nat) : Int) := by omega
  have hpl := h.pack_len
  have hs1 := hw.s1
  have hlc : lcode m.sz 1 (G % 2 : Nat) (G : Nat) h.pack.length = 0 := lcode_fine (k := 1) (p := G % 2) (s := G) ⟨hw.s1, hw.s2⟩ (by omega) (by omega) (by omega)
  have hput := lput_up hw hd ha (n := G % 2) (k := 1) (p := G % 2) (s := G) (by omega) (by omega) (by omega) (b := h.pack) (by omega)
  obtain ⟨b1, b2, b3, b4, b5, b6, b7⟩ := leaf_back m.sz 1 (G % 2) G h.pack hlc (by omega)
  refine ⟨G % 2, lbuild m.sz 1 (G % 2) G h.pack, hgt, by omega, b7, ?_, ?_⟩
  · unfold hsave
    rw [if_neg (by rw [hc]; simp), if_pos ⟨h1, h2⟩, hgt, hG]
    exact hput
  · intro m' d1 e1 e2 e3
    have hrd : m'.read ((G % 2 : Nat) : Int) = (lbuild m.sz 1 (G % 2) G h.pack, 0) := by rw [read_up d1 (by omega), e3]
    have hof : of63 (G : Int) h.pack = h := by rw [← hG]; exact of63_pack h hc hs hI
    have e : (m'.read ((G % 2 : Nat) : Int)).1 = lbuild m.sz 1 (G % 2) G h.pack := by rw [hrd]
    have hcond : lgot m' ((G % 2 : Nat) : Int) 1 ((G % 2 : Nat) : Int) ∧ ls (m'.read ((G % 2 : Nat) : Int)).1 % 2 = G % 2 ∧ Un63 (ls (m'.read ((G % 2 : Nat) : Int)).1) (ll (m'.read ((G % 2 : Nat) : Int)).1) ∧ (of63 (ls (m'.read ((G % 2 : Nat) : Int)).1) (ll (m'.read ((G % 2 : Nat) : Int)).1)).p.sec = m'.n ∧ (of63 (ls (m'.read ((G % 2 : Nat) : Int)).1) (ll (m'.read ((G % 2 : Nat) : Int)).1)).p.size = m'.sz := by
      unfold lgot Un63
      rw [e, b4, b5, hof, b1, b3]
      exact ⟨⟨by rw [hrd], b6, rfl, rfl⟩, rfl, ⟨hpl, hc⟩, by rw [e1]; exact h1, by rw [e2]; exact h2⟩
    unfold hdAt
    rw [if_pos hcond, e, b4, b5, hof]
theorem hdAt_same {m m' : Dev} {t : Nat} (hd : m.down = false) (hd' : m'.down = false) (hn : m'.n = m.n) (hs : m'.sz = m.sz) (ht : t < m.n) (h : m'.get t = m.get t) : hdAt m' t = hdAt m t := by
  have h1 := read_up hd ht
  have h2 := read_up hd' (n := t) (by omega)
  unfold hdAt lgot
  simp only [h1, h2, h, hn, hs]
end Go.Proofs.Ytijljdcpajjhhaa

/-! The walks of the chapter's of, small, of super's Load. -/
namespace Go.Proofs.Ytijljdcpajjhhaa
open Go.RowKit Go.Shelf Sg Go.Sort Go.Proofs
attribute [local go_sem] Oper.semAt_some
set_option linter.unusedSimpArgs false
set_option linter.unusedVariables false

set_option maxRecDepth 100000 in
set_option maxHeartbeats 1000000 in
theorem planOf10_any (p : Pl) (w : World) : Calls Try.prog 110 #[p.v] w fun e w' => e = .returned p.v ∧ Keep [] w w' := by
  obtain ⟨sec, size, reg, rs, lg, dep, mem, seed⟩ := p
  simp only [Pl.v]
  go_enter Try.func110, Try.ntmps110
  go_wp2
  exact bodyPost_ret (results_cell_row rfl _ _ (w.heap.size + 1) 60 _ _ _ rfl (heap_alloc2_new _ _ _) Try.underlying60 rfl (by kernel_rfl)) rfl ⟨rfl, ((Keep.refl [] w).alloc _).alloc _⟩

theorem small10_any (w : World) : Calls Try.prog 67 #[] w fun e w' => e = .returned (.agg #[.int .i64 60, .int .i64 96, .int .i64 3, .int .i64 2, .int .i64 4, .int .i64 2, .int .i64 8, .int .u64 0]) ∧ Keep [] w w' := by
  go_enter Try.func67, Try.ntmps67
  go_wp2
  exact bodyPost_ret (results_cell_row rfl _ _ w.heap.size 116 _ _ _ rfl (heap_alloc_new _ _) Try.underlying116 rfl (by kernel_rfl)) rfl ⟨rfl, (Keep.refl [] w).alloc _⟩

set_option maxRecDepth 100000 in
set_option maxHeartbeats 1000000 in
set_option maxHeartbeats 4000000 in
theorem of10_any (h : Hd) (w : World) : Calls Try.prog 62 #[h.v] w fun e w' => e = .returned h.v ∧ Keep [] w w' := by
  obtain ⟨⟨sec, size, reg, rs, lg, dep, mem, seed⟩, gen, page, stamp, hdep, log, hreg, time⟩ := h
  have hP := fun w => planOf10_any ⟨sec, size, reg, rs, lg, dep, mem, seed⟩ w
  simp only [Hd.v, Hd.cells, Pl.v] at *
  have hA := heap_alloc2_old w (.cells #[.int .i64 sec, .int .i64 size, .int .i64 reg, .int .i64 rs, .int .i64 lg, .int .i64 dep, .int .i64 mem, .int .u64 (seed : Int), .int .i64 gen, .int .i64 page, .int .i64 stamp, .int .i64 hdep, .int .i64 log, .int .i64 hreg, .int .i64 time] 118) (.cells #[.int .i64 0, .int .i64 0, .int .i64 0, .int .i64 0, .int .i64 0, .int .i64 0, .int .i64 0, .int .u64 0, .int .i64 0, .int .i64 0, .int .i64 0, .int .i64 0, .int .i64 0, .int .i64 0, .int .i64 0] 123)
  have hB := heap_alloc2_new w (.cells #[.int .i64 sec, .int .i64 size, .int .i64 reg, .int .i64 rs, .int .i64 lg, .int .i64 dep, .int .i64 mem, .int .u64 (seed : Int), .int .i64 gen, .int .i64 page, .int .i64 stamp, .int .i64 hdep, .int .i64 log, .int .i64 hreg, .int .i64 time] 118) (.cells #[.int .i64 0, .int .i64 0, .int .i64 0, .int .i64 0, .int .i64 0, .int .i64 0, .int .i64 0, .int .u64 0, .int .i64 0, .int .i64 0, .int .i64 0, .int .i64 0, .int .i64 0, .int .i64 0, .int .i64 0] 123)
  have hK := ((Keep.refl [] w).alloc (.cells #[.int .i64 sec, .int .i64 size, .int .i64 reg, .int .i64 rs, .int .i64 lg, .int .i64 dep, .int .i64 mem, .int .u64 (seed : Int), .int .i64 gen, .int .i64 page, .int .i64 stamp, .int .i64 hdep, .int .i64 log, .int .i64 hreg, .int .i64 time] 118)).alloc (.cells #[.int .i64 0, .int .i64 0, .int .i64 0, .int .i64 0, .int .i64 0, .int .i64 0, .int .i64 0, .int .u64 0, .int .i64 0, .int .i64 0, .int .i64 0, .int .i64 0, .int .i64 0, .int .i64 0, .int .i64 0] 123)
  have HP := Lib.hid hP
  have HA := Lib.hid hA
  have HB := Lib.hid hB
  have HK := Lib.hid hK
  clear hP hA hB hK
  go_enter Try.func62, Try.ntmps62
  go_wp2_with fail
  refine wp_region_his [w.heap.size + 1] [2, 19] (fun _ => 0) (by kernel_rfl) (by kernel_rfl) ?_
  intro w1 hk1 hh1
  clear hh1
  have hA1 := hk1.blk (by simp) HA.out
  have hB1 := hk1.blk (by simp) HB.out
  have HK1 := Lib.hid (HK.out.trans hk1)
  have q0 := fun w' (h' : Keep [w.heap.size + 1] w1 w') => cell_of_row w' _ 0 _ _ _ (h'.blk (by simp) hA1)
  have q1 := fun w' (h' : Keep [w.heap.size + 1] w1 w') => cell_of_row w' _ 1 _ _ _ (h'.blk (by simp) hA1)
  have q2 := fun w' (h' : Keep [w.heap.size + 1] w1 w') => cell_of_row w' _ 2 _ _ _ (h'.blk (by simp) hA1)
  have q3 := fun w' (h' : Keep [w.heap.size + 1] w1 w') => cell_of_row w' _ 3 _ _ _ (h'.blk (by simp) hA1)
  have q4 := fun w' (h' : Keep [w.heap.size + 1] w1 w') => cell_of_row w' _ 4 _ _ _ (h'.blk (by simp) hA1)
  have q5 := fun w' (h' : Keep [w.heap.size + 1] w1 w') => cell_of_row w' _ 5 _ _ _ (h'.blk (by simp) hA1)
  have q6 := fun w' (h' : Keep [w.heap.size + 1] w1 w') => cell_of_row w' _ 6 _ _ _ (h'.blk (by simp) hA1)
  have q7 := fun w' (h' : Keep [w.heap.size + 1] w1 w') => cell_of_row w' _ 7 _ _ _ (h'.blk (by simp) hA1)
  have q8 := fun w' (h' : Keep [w.heap.size + 1] w1 w') => cell_of_row w' _ 8 _ _ _ (h'.blk (by simp) hA1)
  have q9 := fun w' (h' : Keep [w.heap.size + 1] w1 w') => cell_of_row w' _ 9 _ _ _ (h'.blk (by simp) hA1)
  have q10 := fun w' (h' : Keep [w.heap.size + 1] w1 w') => cell_of_row w' _ 10 _ _ _ (h'.blk (by simp) hA1)
  have q11 := fun w' (h' : Keep [w.heap.size + 1] w1 w') => cell_of_row w' _ 11 _ _ _ (h'.blk (by simp) hA1)
  have q12 := fun w' (h' : Keep [w.heap.size + 1] w1 w') => cell_of_row w' _ 12 _ _ _ (h'.blk (by simp) hA1)
  have q13 := fun w' (h' : Keep [w.heap.size + 1] w1 w') => cell_of_row w' _ 13 _ _ _ (h'.blk (by simp) hA1)
  have q14 := fun w' (h' : Keep [w.heap.size + 1] w1 w') => cell_of_row w' _ 14 _ _ _ (h'.blk (by simp) hA1)
  simp at q0 q1 q2 q3 q4 q5 q6 q7 q8 q9 q10 q11 q12 q13 q14
  have HB1 := Lib.hid hB1
  clear hA1 hB1 hk1
  (repeat (first | (refine his_q rfl rfl (fun K hK => ?_); apply Exists.intro; refine ⟨fun w' hC => ?_, ?_⟩; ((try simp [Sg.upd] at hC); go_simp <;> rfl); go_simp; refine hK _ _ ?_; clear hK K) | (refine his_s rfl (fun K hK => ?_); go_simp; refine hK _ _ ?_; clear hK K)))
  (refine his_l rfl rfl (fun K hK => ?_); go_simp)
  refine (HP.out _).mono ?_
  rintro x w3 ⟨rfl, k3⟩
  refine hK _ _ (k3.mono (by simp)) ?_
  clear hK K
  have hB3 := k3.blk (by simp) HB1.out
  have HB3 := Lib.hid hB3
  have HK3 := Lib.hid (HK1.out.trans k3)
  clear hB3 k3
  (repeat (first | (refine his_q rfl rfl (fun K hK => ?_); apply Exists.intro; refine ⟨fun w' hC => ?_, ?_⟩; ((try simp [Sg.upd] at hC); go_simp <;> rfl); go_simp; refine hK _ _ ?_; clear hK K) | (refine his_s rfl (fun K hK => ?_); go_simp; refine hK _ _ ?_; clear hK K)))
  clear q0 q1 q2 q3 q4 q5 q6 q7 q8 q9 q10 q11 q12 q13 q14
  refine his_l rfl rfl (fun K hK => ?_)
  refine loudly_store_row 123 (.tmp 2) (.tmp 21) rfl (w.heap.size + 1) #[.int .i64 sec, .int .i64 size, .int .i64 reg, .int .i64 rs, .int .i64 lg, .int .i64 dep, .int .i64 mem, .int .u64 (seed : Int), .int .i64 gen, .int .i64 page, .int .i64 stamp, .int .i64 hdep, .int .i64 log, .int .i64 hreg, .int .i64 time] rfl rfl 123 _ HB3.out (by kernel_rfl) (by rfl) (by kernel_rfl) ?_
  refine hK _ _ ((Keep.refl _ _).setRow (.inl (by simp)) _) ?_
  clear hK K
  refine his_nil ?_
  go_wp2
  exact bodyPost_ret (results_cell_row rfl _ _ (w.heap.size + 1) 123 _ _ _ rfl (setRow_heap _ _ _ _ _ _ HB3.out) Try.underlying123 rfl (by kernel_rfl)) rfl ⟨rfl, HK3.out.setRow (.inr (by omega)) _⟩

theorem HRow.cells {w : World} {v : Value} {l : List Hd} (h : HRow w v l) {i : Nat} {x : Hd} (hi : l[i]? = some x) : ∃ blk cap, v = .slice (some ⟨blk, 0, none⟩) l.length cap ∧ ∀ j y, x.cells[j]? = some y → w.cell? ⟨blk, i * 15 + j, none⟩ = some y := by
  have hlt : i < l.length := (List.getElem?_eq_some_iff.1 hi).1
  rcases h with ⟨rfl, -⟩ | ⟨blk, cap, rfl, h1, h2⟩
  · simp at hi
  · refine ⟨blk, cap, rfl, fun j y hj => ?_⟩
    have hj15 : j < 15 := (Array.getElem?_eq_some_iff.1 hj).1
    have := (h2.cell (i := i) (c := j) (by simpa using hlt) hj15).1
    rw [Nat.zero_add] at this
    rw [this]
    have e : l.toArray[i]! = x := by
      simp only [List.getElem!_toArray]
      rw [List.getElem!_eq_getElem?_getD, hi]
      rfl
    rw [e]
    have e2 : (henc x)[j]? = some y := by rw [← hj]; exact Array.getElem?_toList
    rw [List.getElem!_eq_getElem?_getD, e2]
    rfl
/-- what Load tells -/
def hload (m : Dev) : Hd × Int := if m.down = true then (hd0, 4) else match insSorted (hdRow m) with
  | [] => (hd0, 15)
  | x :: _ => (x, 0)
set_option maxRecDepth 100000 in
set_option maxHeartbeats 1000000 in
set_option maxHeartbeats 4000000 in
theorem load_any (w : World) (D : List Nat) (g : Nat) (m : Dev) (hd : DV w D g m) (hacts : m.acts ≤ 1000000000) :
    Calls Try.prog 69 #[.pointer (some ⟨g, 0, none⟩)] w fun e w' => e = .returned (.tuple #[(hload m).1.v, .int .i64 (hload m).2]) ∧ Keep [] w w' := by
  have hK := (Keep.refl [] w).alloc (.cells #[.int .i64 0, .int .i64 0, .int .i64 0, .int .i64 0, .int .i64 0, .int .i64 0, .int .i64 0, .int .u64 0, .int .i64 0, .int .i64 0, .int .i64 0, .int .i64 0, .int .i64 0, .int .i64 0, .int .i64 0] 123)
  have hA := heap_alloc_new w (.cells #[.int .i64 0, .int .i64 0, .int .i64 0, .int .i64 0, .int .i64 0, .int .i64 0, .int .i64 0, .int .u64 0, .int .i64 0, .int .i64 0, .int .i64 0, .int .i64 0, .int .i64 0, .int .i64 0, .int .i64 0] 123)
  have hd1 := hd.keep hK (by simp)
  have hDn := down_any _ D g m hd1
  have hH := heads_any _ D g m hd1 hacts
  have hl1 : m.down = true → hload m = (hd0, 4) := fun e => by unfold hload; rw [if_pos e]
  have hl2 : m.down = false → insSorted (hdRow m) = [] → hload m = (hd0, 15) := fun e f => by unfold hload; rw [if_neg (by simp [e]), f]
  have hl3 : m.down = false → ∀ x r, insSorted (hdRow m) = x :: r → hload m = (x, 0) := fun e x r f => by unfold hload; rw [if_neg (by simp [e]), f]
  generalize hload m = LD at *
  generalize insSorted (hdRow m) = l at *
  obtain ⟨dn, hdn⟩ : ∃ dn, m.down = dn := ⟨_, rfl⟩
  rw [hdn] at hDn hl1 hl2 hl3
  have HL1 := Lib.hid hl1
  have HL2 := Lib.hid hl2
  have HL3 := Lib.hid hl3
  have HH := Lib.hid hH
  have HDN := Lib.hid hDn
  have HA := Lib.hid hA
  have HK := Lib.hid hK
  clear hl1 hl2 hl3 hH hDn hA hK hd1 hdn
  cases dn with
  | true =>
    have hl := HL1.out rfl
    subst hl
    simp only [hd0, Hd.v, Hd.cells]
    go_enter Try.func69, Try.ntmps69
    go_wp2_with fail
    refine HDN.out.mono ?_
    rintro e w2 ⟨rfl, rfl⟩
    go_wp2_with (refine wpList_store_row rfl 123 (.tmp 2) (.tmp 12) rfl w.heap.size #[.int .i64 0, .int .i64 0, .int .i64 0, .int .i64 0, .int .i64 0, .int .i64 0, .int .i64 0, .int .u64 0, .int .i64 0, .int .i64 0, .int .i64 0, .int .i64 0, .int .i64 0, .int .i64 0, .int .i64 0] rfl rfl 123 _ HA.out (by kernel_rfl) (by rfl) (by kernel_rfl) ?_)
    exact bodyPost_ret (results_cell_tmp_row rfl _ _ w.heap.size 123 _ _ _ rfl (setRow_heap _ _ _ _ _ _ HA.out) Try.underlying123 rfl (by kernel_rfl)) rfl ⟨rfl, HK.out.setRow (.inr (Nat.le_refl _)) _⟩
  | false =>
    rcases hlc : l with _ | ⟨x, r⟩
    · have hl := HL2.out rfl hlc
      subst hl
      simp only [hd0, Hd.v, Hd.cells]
      go_enter Try.func69, Try.ntmps69
      go_wp2_with fail
      refine HDN.out.mono ?_
      rintro e w2 ⟨rfl, rfl⟩
      go_wp2_with fail
      refine HH.out.mono ?_
      rintro e w3 ⟨v, rfl, hr, -, k3⟩
      have hA3 := k3.blk (by simp) HA.out
      have HA3 := Lib.hid hA3
      have HK3 := Lib.hid (HK.out.trans k3)
      obtain ⟨va, vc, rfl⟩ : ∃ a c, v = .slice a 0 c := by
        rw [hlc] at hr
        rcases hr with ⟨-, rfl⟩ | ⟨blk, cap, rfl, -⟩
        · exact ⟨_, _, rfl⟩
        · exact ⟨_, _, rfl⟩
      clear hA3 k3 hr hlc
      go_wp2_with (refine wpList_store_row rfl 123 (.tmp 2) (.tmp 18) rfl w.heap.size #[.int .i64 0, .int .i64 0, .int .i64 0, .int .i64 0, .int .i64 0, .int .i64 0, .int .i64 0, .int .u64 0, .int .i64 0, .int .i64 0, .int .i64 0, .int .i64 0, .int .i64 0, .int .i64 0, .int .i64 0] rfl rfl 123 _ HA3.out (by kernel_rfl) (by rfl) (by kernel_rfl) ?_)
      exact bodyPost_ret (results_cell_tmp_row rfl _ _ w.heap.size 123 _ _ _ rfl (setRow_heap _ _ _ _ _ _ HA3.out) Try.underlying123 rfl (by kernel_rfl)) rfl ⟨rfl, HK3.out.setRow (.inr (Nat.le_refl _)) _⟩
    · have hl := HL3.out rfl x r hlc
      subst hl
      obtain ⟨⟨sec, size, reg, rs, lg, dep, mem, seed⟩, gen, page, stamp, hdep, log, hreg, time⟩ := x
      simp only [hd0, Hd.v, Hd.cells]
      obtain ⟨n, hn⟩ : ∃ n, l.length = n := ⟨_, rfl⟩
      have hn1 : 1 ≤ n := by rw [← hn, hlc]; simp
      have hl0 : l[0]? = some ⟨⟨sec, size, reg, rs, lg, dep, mem, seed⟩, gen, page, stamp, hdep, log, hreg, time⟩ := by rw [hlc]; rfl
      have HL0 := Lib.hid hl0
      have HN := Lib.hid hn
      clear hl0 hlc hn
      go_enter Try.func69, Try.ntmps69
      go_wp2_with fail
      refine HDN.out.mono ?_
      rintro e w2 ⟨rfl, rfl⟩
      go_wp2_with fail
      refine HH.out.mono ?_
      rintro e w3 ⟨v, rfl, hr, -, k3⟩
      have hA3 := k3.blk (by simp) HA.out
      have HA3 := Lib.hid hA3
      have HK3 := Lib.hid (HK.out.trans k3)
      obtain ⟨blk, cap, rfl, hc⟩ := hr.cells HL0.out
      rw [HN.out] at *
      have hz : ((n : Int) == 0) = false := by simp; omega
      have hz2 : (0 : Int) < (n : Int) := by omega
      have hz3 : ¬ n = 0 := by omega
      have c0 := hc 0 _ rfl
      have c1 := hc 1 _ rfl
      have c2 := hc 2 _ rfl
      have c3 := hc 3 _ rfl
      have c4 := hc 4 _ rfl
      have c5 := hc 5 _ rfl
      have c6 := hc 6 _ rfl
      have c7 := hc 7 _ rfl
      have c8 := hc 8 _ rfl
      have c9 := hc 9 _ rfl
      have c10 := hc 10 _ rfl
      have c11 := hc 11 _ rfl
      have c12 := hc 12 _ rfl
      have c13 := hc 13 _ rfl
      have c14 := hc 14 _ rfl
      simp only [Nat.zero_mul, Nat.zero_add] at c0 c1 c2 c3 c4 c5 c6 c7 c8 c9 c10 c11 c12 c13 c14
      clear hA3 k3 hr hc
      go_wp2_with (refine wpList_store_row rfl 123 (.tmp 2) (.tmp 21) rfl w.heap.size #[.int .i64 sec, .int .i64 size, .int .i64 reg, .int .i64 rs, .int .i64 lg, .int .i64 dep, .int .i64 mem, .int .u64 (seed : Int), .int .i64 gen, .int .i64 page, .int .i64 stamp, .int .i64 hdep, .int .i64 log, .int .i64 hreg, .int .i64 time] rfl rfl 123 _ HA3.out (by kernel_rfl) (by rfl) (by kernel_rfl) ?_)
      exact bodyPost_ret (results_cell_tmp_row rfl _ _ w.heap.size 123 _ _ _ rfl (setRow_heap _ _ _ _ _ _ HA3.out) Try.underlying123 rfl (by kernel_rfl)) rfl ⟨rfl, HK3.out.setRow (.inr (Nat.le_refl _)) _⟩
end Go.Proofs.Ytijljdcpajjhhaa

/-! Two saves; the chapter's awake. -/
namespace Go.Proofs.Ytijljdcpajjhhaa
open Go.RowKit Go.Shelf Sg Go.Sort Go.Proofs
attribute [local go_sem] Oper.semAt_some
set_option linter.unusedSimpArgs false
set_option linter.unusedVariables false

/-- a device of 60 sectors that is up -/
structure Up (m : Dev) : Prop where
  wf : m.Wf
  dn : m.down = false
  ar : m.armed = 0
  n : m.n = 60
  sz : m.sz = 96
/-- a head that may be saved there -/
structure Fine (h : Hd) : Prop where
  code : h.code = 0
  seed : h.p.seed < 18446744073709551616
  inn : h.In
  sec : h.p.sec = 60
  size : h.p.size = 96
theorem up_new : Up (Dev.new 60 96) := ⟨Dev.new_wf 60 96 (by decide), rfl, rfl, rfl, rfl⟩
theorem save_up {m : Dev} (hu : Up m) {h : Hd} (hf : Fine h) : ∃ (t : Nat) (m' : Dev), h.gen % 2 = (t : Int) ∧ t < 2 ∧ hsave m h = (m', 0) ∧ Up m' ∧ m'.acts = m.acts + 1 ∧ hdAt m' t = some h ∧ ∀ s, s < 2 → s ≠ t → hdAt m' s = hdAt m s := by
  obtain ⟨t, b, h1, h2, h3, h4, h5⟩ := save_law hu.wf hu.dn hu.ar (by rw [hu.n]; decide) h hf.code hf.seed hf.inn (by rw [hf.sec, hu.n]; rfl) (by rw [hf.size, hu.sz]; rfl)
  obtain ⟨e1, e2, e3, e4, e5⟩ := Dev.write_same m t b hu.dn hu.ar
  have hget := Dev.get_write m t
  refine ⟨t, m.write t b, h1, h2, h4, ⟨hu.wf.write (by rw [hu.n]; omega) h3, e1, e2, by rw [e3, hu.n], by rw [e4, hu.sz]⟩, e5, h5 _ e1 e3 e4 (by rw [hget, if_pos rfl]), fun s hs hne => hdAt_same hu.dn e1 e3 e4 (by rw [hu.n]; omega) (by rw [hget, if_neg (by omega)])⟩
theorem hdRow_two {m : Dev} {x y : Hd} (h0 : hdAt m 0 = some y) (h1 : hdAt m 1 = some x) : hdRow m = [y, x] := by
  unfold hdRow
  rw [h0, h1]
  rfl
theorem hload_up {m : Dev} (hd : m.down = false) {x : Hd} {r : List Hd} (h : insSorted (hdRow m) = x :: r) : hload m = (x, 0) := by
  unfold hload
  rw [if_neg (by rw [hd]; simp), h]

def pl10 : Pl := ⟨60, 96, 3, 2, 4, 2, 8, 0⟩
theorem pl10_fits : pl10.Fits := by decide +kernel
def hd1a : Hd := ⟨pl10, 1, 0, 0, 0, 1, 0, 0⟩
def hd2a : Hd := ⟨pl10, 2, 0, 0, 0, 1, 0, 0⟩
theorem fine_small (gen page stamp dep log reg time : Int) (ho : Hd.Ok ⟨pl10, gen, page, stamp, dep, log, reg, time⟩) (hi : Hd.In ⟨pl10, gen, page, stamp, dep, log, reg, time⟩) : Fine ⟨pl10, gen, page, stamp, dep, log, reg, time⟩ :=
  ⟨Hd.code_ok pl10_fits ho, by show (0 : Nat) < _; decide, hi, rfl, rfl⟩
theorem pl10_in : pl10.In := by unfold Pl.In pl10; decide
theorem fine1 : Fine hd1a := fine_small _ _ _ _ _ _ _ (by unfold Hd.Ok; decide) (by unfold Hd.In; exact ⟨pl10_in, by decide⟩)
theorem fine2 : Fine hd2a := fine_small _ _ _ _ _ _ _ (by unfold Hd.Ok; decide) (by unfold Hd.In; exact ⟨pl10_in, by decide⟩)

set_option maxRecDepth 100000 in
set_option maxHeartbeats 1000000 in
set_option maxHeartbeats 4000000 in
theorem awake10_any (w : World) : Calls Try.prog 66 #[] w fun e w' => e = .returned (.bool true) ∧ Keep [] w w' := by
  obtain ⟨t1, m1, a1, a2, a3, a4, a5, a6, a7⟩ := save_up up_new fine1
  obtain ⟨t2, m2, b1, b2, b3, b4, b5, b6, b7⟩ := save_up a4 fine2
  obtain rfl : t1 = 1 := by have h : hd1a.gen % 2 = (1 : Int) := rfl; omega
  obtain rfl : t2 = 0 := by have h : hd2a.gen % 2 = (0 : Int) := rfl; omega
  have hrow : hdRow m2 = [hd2a, hd1a] := hdRow_two b6 (by rw [b7 1 (by decide) (by decide)]; exact a6)
  have hins : insSorted (hdRow m2) = [hd2a, hd1a] := by rw [hrow]; rfl
  have hld := hload_up b4.dn hins
  have c0 : (Dev.new 60 96).acts ≤ 1000000000 := by show (0 : Nat) ≤ _; decide
  have c1 : m1.acts ≤ 1000000000 := by rw [a5]; show 0 + 1 ≤ _; decide
  have c2 : m2.acts ≤ 1000000000 := by rw [b5, a5]; show 0 + 1 + 1 ≤ _; decide
  have cN : Calls Try.prog 15 #[.int .i64 60, .int .i64 96] w _ := newDev_any 60 96 (by decide) w
  have cO := fun w => of10_any hd1a w
  have cS1 := fun w D g hd => hsave_any w D g (Dev.new 60 96) hd c0 hd1a fine1.seed (by decide)
  have cS2 := fun w D g hd => hsave_any w D g m1 hd c1 hd2a fine2.seed (by decide)
  have cL := fun w D g hd => load_any w D g m2 hd c2
  have cH := fun w D g hd => heads_any w D g m2 hd c2
  rw [hins] at cH
  rw [hld] at cL
  rw [a3] at cS1
  rw [b3] at cS2
  have e1 : hd1a.v = .agg #[.int .i64 60, .int .i64 96, .int .i64 3, .int .i64 2, .int .i64 4, .int .i64 2, .int .i64 8, .int .u64 0, .int .i64 1, .int .i64 0, .int .i64 0, .int .i64 0, .int .i64 1, .int .i64 0, .int .i64 0] := rfl
  have e2 : hd2a.v = .agg #[.int .i64 60, .int .i64 96, .int .i64 3, .int .i64 2, .int .i64 4, .int .i64 2, .int .i64 8, .int .u64 0, .int .i64 2, .int .i64 0, .int .i64 0, .int .i64 0, .int .i64 1, .int .i64 0, .int .i64 0] := rfl
  rw [e1] at cO cS1
  rw [e2] at cS2 cL
  have CO := Lib.hid cO
  have CS1 := Lib.hid cS1
  have CS2 := Lib.hid cS2
  have CL := Lib.hid cL
  have CH := Lib.hid cH
  clear a1 a2 a3 a4 a5 a6 a7 b1 b2 b3 b4 b5 b6 b7 hrow hins hld c0 c1 c2 cO cS1 cS2 cL cH e1 e2
  go_enter Try.func66, Try.ntmps66
  go_wp2_with fail
  refine cN.mono ?_
  rintro e w1 ⟨g, D, rfl, hD, hk1, hf⟩
  clear cN
  go_wp2_with fail
  refine (small10_any _).mono ?_
  rintro e w2 ⟨rfl, k2⟩
  have hD2 := hD.keep k2 (by simp)
  have hk2 := hk1.trans k2
  clear hD hk1 k2
  go_wp2_with fail
  refine (CO.out _).mono ?_
  rintro e w3 ⟨rfl, k3⟩
  have hD3 := hD2.keep k3 (by simp)
  have hk3 := hk2.trans k3
  have hA := (Keep.refl [] w3).alloc (.cells #[.int .i64 60, .int .i64 96, .int .i64 3, .int .i64 2, .int .i64 4, .int .i64 2, .int .i64 8, .int .u64 0, .int .i64 1, .int .i64 0, .int .i64 0, .int .i64 0, .int .i64 1, .int .i64 0, .int .i64 0] 123)
  have hb := heap_alloc_new w3 (.cells #[.int .i64 60, .int .i64 96, .int .i64 3, .int .i64 2, .int .i64 4, .int .i64 2, .int .i64 8, .int .u64 0, .int .i64 1, .int .i64 0, .int .i64 0, .int .i64 0, .int .i64 1, .int .i64 0, .int .i64 0] 123)
  have hD4 := hD3.keep hA (by simp)
  have hk4 := hk3.trans hA
  have hne := fun b hb => Nat.ne_of_lt (hD3.lt b hb)
  have hs4 : (w3.alloc (.cells #[.int .i64 60, .int .i64 96, .int .i64 3, .int .i64 2, .int .i64 4, .int .i64 2, .int .i64 8, .int .u64 0, .int .i64 1, .int .i64 0, .int .i64 0, .int .i64 0, .int .i64 1, .int .i64 0, .int .i64 0] 123)).heap.size = w3.heap.size + 1 := World.size_alloc _ _
  obtain ⟨BB, hBB⟩ : ∃ BB, w3.heap.size = BB := ⟨_, rfl⟩
  rw [hBB] at hb hne hs4
  have HS4 := Lib.hid hs4
  have HD4 := Lib.hid hD4
  have HK4 := Lib.hid hk4
  have HNE := Lib.hid hne
  have HF := Lib.hid hf
  have hBw : w.heap.size ≤ BB := by rw [← hBB]; exact hk3.size
  have p0 := cell_of_row _ _ 0 _ _ _ hb
  have p1 := cell_of_row _ _ 1 _ _ _ hb
  have p2 := cell_of_row _ _ 2 _ _ _ hb
  have p3 := cell_of_row _ _ 3 _ _ _ hb
  have p4 := cell_of_row _ _ 4 _ _ _ hb
  have p5 := cell_of_row _ _ 5 _ _ _ hb
  have p6 := cell_of_row _ _ 6 _ _ _ hb
  have p7 := cell_of_row _ _ 7 _ _ _ hb
  have p8 := cell_of_row _ _ 8 _ _ _ hb
  have p9 := cell_of_row _ _ 9 _ _ _ hb
  have p10 := cell_of_row _ _ 10 _ _ _ hb
  have p11 := cell_of_row _ _ 11 _ _ _ hb
  have p12 := cell_of_row _ _ 12 _ _ _ hb
  have p13 := cell_of_row _ _ 13 _ _ _ hb
  have p14 := cell_of_row _ _ 14 _ _ _ hb
  simp at p0 p1 p2 p3 p4 p5 p6 p7 p8 p9 p10 p11 p12 p13 p14
  clear hD2 hk2 k3 hD3 hk3 hA hs4 hD4 hk4 hne hf
  go_wp2_with fail
  try rw [hBB]
  clear hBB
  refine (CS1.out _ D g HD4.out).mono ?_
  rintro e w5 ⟨rfl, D5, hD5, hG5, hK5⟩
  obtain ⟨hk5, hf5⟩ := dev_step HK4.out HF.out hG5 hK5
  have hb5 := hK5.blk (fun h => HNE.out _ h rfl) hb
  have hne5 : ∀ b ∈ D5, b ≠ BB := fun b h => by
    rcases hG5.2 b h with h1 | h1
    · exact HNE.out b h1
    · have := HS4.out; omega
  have f8 := frozen_of_row w5 _ 8 _ _ hb5
  have hc8 := cell_of_row w5 _ 8 _ _ _ hb5
  simp at hc8
  have hb6 := heap_setCell_same w5 BB 8 _ _ (.int .i64 2) hb5
  simp at hb6
  have hK6 : Keep [BB] w5 (w5.setCell ⟨BB, 8, none⟩ (.int .i64 2)) := (Keep.refl [BB] w5).setCell (.inl (by simp)) _
  have hD6 := hD5.keep hK6 (fun b h h2 => hne5 b h2 (by simpa using h))
  have hk6 : Keep [] w (w5.setCell ⟨BB, 8, none⟩ (.int .i64 2)) := hk5.setCell (.inr hBw) _
  have HB6 := Lib.hid hb6
  have HD6 := Lib.hid hD6
  have HK6 := Lib.hid hk6
  have HNE5 := Lib.hid hne5
  have HF5 := Lib.hid hf5
  have hs6 : BB < w5.heap.size := (Array.getElem?_eq_some_iff.1 hb5).1
  clear p0 p1 p2 p3 p4 p5 p6 p7 p8 p9 p10 p11 p12 p13 p14 hb hG5 hK5 hk5 hb5 hne5 hb6 hK6 hD6 hk6 hD5 hf5
  go_wp2_with (refine wpList_load_row rfl 123 (.tmp 2) rfl BB rfl 123 _ _ _ HB6.out Try.underlying123 rfl (by kernel_rfl) ?_)
  refine (CS2.out _ D5 g HD6.out).mono ?_
  rintro e w7 ⟨rfl, D7, hD7, hG7, hK7⟩
  obtain ⟨hk7, hf7⟩ := dev_step HK6.out HF5.out hG7 hK7
  have HD7 := Lib.hid hD7
  have HK7 := Lib.hid hk7
  clear hG7 hK7 hk7 hf7 hD7 f8 hc8
  go_wp2_with fail
  refine (CL.out _ D7 g HD7.out).mono ?_
  rintro e w8 ⟨rfl, k8⟩
  have hA := (Keep.refl [] w8).alloc (.cells #[.int .i64 60, .int .i64 96, .int .i64 3, .int .i64 2, .int .i64 4, .int .i64 2, .int .i64 8, .int .u64 0, .int .i64 2, .int .i64 0, .int .i64 0, .int .i64 0, .int .i64 1, .int .i64 0, .int .i64 0] 123)
  have hb := heap_alloc_new w8 (.cells #[.int .i64 60, .int .i64 96, .int .i64 3, .int .i64 2, .int .i64 4, .int .i64 2, .int .i64 8, .int .u64 0, .int .i64 2, .int .i64 0, .int .i64 0, .int .i64 0, .int .i64 1, .int .i64 0, .int .i64 0] 123)
  have HD9 := Lib.hid ((HD7.out.keep k8 (by simp)).keep hA (by simp))
  have HK9 := Lib.hid ((HK7.out.trans k8).trans hA)
  have HB9 := Lib.hid hb
  clear hA hb k8
  go_wp2_with fail
  refine (CH.out _ D7 g HD9.out).mono ?_
  rintro e w9 ⟨v, rfl, hr, -, k9⟩
  have hb9 := k9.blk (by simp) HB9.out
  have l8 := cell_of_row _ _ 8 _ _ _ hb9
  simp at l8
  obtain ⟨blk, cap, rfl, hc⟩ := hr.cells (i := 1) (x := hd1a) rfl
  have r8 := hc 8 (.int .i64 1) rfl
  simp only [Nat.one_mul, Nat.reduceAdd, Nat.reduceMul] at r8
  have HK10 := Lib.hid (HK9.out.trans k9)
  clear hr hc k9 hb9
  simp only [List.length_cons, List.length_nil, Nat.zero_add, Nat.reduceAdd]
  go_wp2
  go_ret
  exact ⟨rfl, HK10.out⟩
end Go.Proofs.Ytijljdcpajjhhaa
