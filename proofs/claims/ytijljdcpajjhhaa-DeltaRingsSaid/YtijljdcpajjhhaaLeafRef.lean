import Derived.Test.YtijljdcpajjhhaaLeafBuild
/-! The walks of the document's Build of a leaf, of the laws' of and told, of bytes.Equal. -/
namespace Go.Proofs.Ytijljdcpajjhhaa
open Go.RowKit Go.Shelf Sg
set_option linter.unusedSimpArgs false

def sliceLen : Value → Nat
  | .slice _ n _ => n
  | _ => 0

set_option maxRecDepth 100000 in
set_option maxHeartbeats 1000000 in
theorem equal_any (x y : Value) (a b : List UInt8) (w : World) (hx : Bytes w x a) (hy : Bytes w y b) : Calls Try.prog 82 #[x, y] w fun e w' => e = .returned (.bool (decide (a = b))) ∧ w = w' := by
  have q1 := run_str (P := Try.prog) 30 9 5 Try.underlying30 Try.underlying5 Try.underlying9 hx
  have q2 := run_str (P := Try.prog) 30 9 5 Try.underlying30 Try.underlying5 Try.underlying9 hy
  obtain ⟨ax, cx, rfl, -⟩ := hx.form
  obtain ⟨ay, cy, rfl, -⟩ := hy.form
  have hd : decide (a = b) = (a == b) := by by_cases h : a = b <;> simp [h]
  rw [hd]
  clear hx hy hd
  go_enter Try.func82, Try.ntmps82
  go_wp2
  go_ret
  exact ⟨rfl, rfl⟩

theorem nu4 (a b c : Int) (v : Value) (hv : ∀ n : Int, v ≠ .int .u8 n) : ∀ (i : Nat) (x : Value), (#[Value.int .i64 a, Value.int .i64 b, Value.int .i64 c, v] : Array Value)[i]? = some x → ∀ n : Int, x ≠ Value.int .u8 n := by
  intro i x hx n e
  subst e
  match i, hx with
  | 0, h => simp at h
  | 1, h => simp at h
  | 2, h => simp at h
  | 3, h => simp at h; exact hv _ h
  | i + 4, h => simp at h

set_option maxRecDepth 100000 in
set_option maxHeartbeats 1000000 in
theorem of05_any (k p s : Int) (ls : ByteArray) (hl : ls.size ≤ 140737488355328) (w : World) :
    Calls Try.prog 19 #[.agg #[.int .i64 k, .int .i64 p, .int .i64 s, .string ls]] w fun x w' => ∃ v, x = .returned (.agg #[.int .i64 k, .int .i64 p, .int .i64 s, v]) ∧ Bytes w' v ls.data.toList ∧ Keep [] w w' := by
  go_enter Try.func19, Try.ntmps19
  go_wp2_with (refine wpList_of_string rfl (.tmp 10) 9 30 5 rfl Try.underlying9 Try.underlying30 Try.underlying5 rfl hl ?_)
  intro v1 w1 hb1 hk1
  have hB := hk1.blk (by simp) (heap_alloc2_new w _ _)
  have hK := (((Keep.refl [] w).alloc _).alloc _).trans hk1
  obtain ⟨ao1, cap1, hv1, -⟩ := hb1.form
  subst hv1
  rw [show ls.data.toList.length = ls.size by rw [Array.length_toList]; rfl] at hb1
  go_wp2_with (refine wpList_store_row rfl 39 (.tmp 2) _ rfl (w.heap.size + 1) _ rfl rfl 39 _ hB (by kernel_rfl) (by rfl) (by kernel_rfl) ?_)
  refine bodyPost_ret (results_cell_row rfl _ _ (w.heap.size + 1) 39 _ _ _ rfl (setRow_heap _ _ _ _ _ _ hB) Try.underlying39 rfl (by kernel_rfl)) rfl ⟨_, rfl, ?_, hK.setRow (.inr (by omega)) _⟩
  exact (bytes_setRow hb1 (fun h => hb1.ne_row h hB (nu4 0 0 0 _ (by intro n h; cases h))) _)

set_option maxRecDepth 100000 in
set_option maxHeartbeats 1000000 in
theorem told05_any (k p s : Int) (v : Value) (l : List UInt8) (w : World) (hv : Bytes w v l) :
    Calls Try.prog 25 #[.agg #[.int .i64 k, .int .i64 p, .int .i64 s, v], .agg #[.int .i64 k, .int .i64 p, .int .i64 s, .string ⟨l.toArray⟩]] w fun x w' => x = .returned (.bool true) ∧ Keep [] w w' := by
  obtain ⟨va, vc, rfl, -⟩ := hv.form
  have q : ∀ w', Keep [] w w' → Sem.run Try.prog (convert 30 9 (.slice va l.length vc)) w' = .ok (.string ⟨l.toArray⟩) w' := fun w' h => run_str (P := Try.prog) 30 9 5 Try.underlying30 Try.underlying5 Try.underlying9 (hv.keep h (by simp))
  have hK := ((Keep.refl [] w).alloc (.cells #[.int .i64 k, .int .i64 p, .int .i64 s, .slice va l.length vc] 39)).alloc (.cells #[.int .i64 k, .int .i64 p, .int .i64 s, .string ⟨l.toArray⟩] 29)
  have q2 := q _ hK
  clear q hv
  go_enter Try.func25, Try.ntmps25
  go_wp2
  go_ret
  exact ⟨rfl, hK⟩

set_option maxRecDepth 100000 in
set_option maxHeartbeats 1000000 in
set_option maxHeartbeats 4000000 in
theorem refBuild_any (size k p s : Int) (hs : s ≤ 9223372036854775807) (hs1 : -9223372036854775808 ≤ size ∧ size ≤ 9223372036854775807) (ls : ByteArray) (hls : ls.size ≤ 100000) (w : World) :
    Calls Try.prog 17 #[.int .i64 size, .agg #[.int .i64 k, .int .i64 p, .int .i64 s, .string ls]] w fun x w' => ∃ v', x = .returned (.tuple #[v', .int .i64 (lcode size k p s ls.size)]) ∧
      OwnB w' w.heap.size 5 v' (if lcode size k p s ls.size = 0 then lbuild size.toNat k.toNat p.toNat s.toNat ls.data.toList else []) ∧ Keep [] w w' := by
  have hK := (Keep.refl [] w).alloc (.cells #[.int .i64 k, .int .i64 p, .int .i64 s, .string ls] 29)
  have lk : ls.data.toList.length = ls.size := by rw [Array.length_toList]; rfl
  by_cases h0 : size < 96
  · rw [show lcode size k p s ls.size = 3 by rw [lcode, if_pos (by omega)]]
    go_enter Try.func17, Try.ntmps17
    go_wp2
    refine bodyPost_ret (results_tmp2 rfl _ _ _) rfl ?_
    exact ⟨_, rfl, OwnB.nil _ _ _, hK⟩
  by_cases h1 : 512 < size
  · rw [show lcode size k p s ls.size = 3 by rw [lcode, if_pos (by omega)]]
    go_enter Try.func17, Try.ntmps17
    go_wp2
    refine bodyPost_ret (results_tmp2 rfl _ _ _) rfl ?_
    exact ⟨_, rfl, OwnB.nil _ _ _, hK⟩
  by_cases h2 : k < 1
  · rw [show lcode size k p s ls.size = 1 by rw [lcode, if_neg (by omega), if_pos (by omega)]]
    go_enter Try.func17, Try.ntmps17
    go_wp2
    refine bodyPost_ret (results_tmp2 rfl _ _ _) rfl ?_
    exact ⟨_, rfl, OwnB.nil _ _ _, hK⟩
  by_cases h3 : 4 < k
  · rw [show lcode size k p s ls.size = 1 by rw [lcode, if_neg (by omega), if_pos (by omega)]]
    go_enter Try.func17, Try.ntmps17
    go_wp2
    refine bodyPost_ret (results_tmp2 rfl _ _ _) rfl ?_
    exact ⟨_, rfl, OwnB.nil _ _ _, hK⟩
  by_cases h4 : p < 0
  · rw [show lcode size k p s ls.size = 1 by rw [lcode, if_neg (by omega), if_pos (by omega)]]
    go_enter Try.func17, Try.ntmps17
    go_wp2
    refine bodyPost_ret (results_tmp2 rfl _ _ _) rfl ?_
    exact ⟨_, rfl, OwnB.nil _ _ _, hK⟩
  by_cases h5 : 2147483647 < p
  · rw [show lcode size k p s ls.size = 1 by rw [lcode, if_neg (by omega), if_pos (by omega)]]
    go_enter Try.func17, Try.ntmps17
    go_wp2
    refine bodyPost_ret (results_tmp2 rfl _ _ _) rfl ?_
    exact ⟨_, rfl, OwnB.nil _ _ _, hK⟩
  by_cases h6 : s < 0
  · rw [show lcode size k p s ls.size = 1 by rw [lcode, if_neg (by omega), if_pos (by omega)]]
    go_enter Try.func17, Try.ntmps17
    go_wp2
    refine bodyPost_ret (results_tmp2 rfl _ _ _) rfl ?_
    exact ⟨_, rfl, OwnB.nil _ _ _, hK⟩
  by_cases h7 : size - 19 < (ls.size : Int)
  · rw [show lcode size k p s ls.size = 9 by rw [lcode, if_neg (by omega), if_neg (by omega), if_pos (by omega)]]
    go_enter Try.func17, Try.ntmps17
    go_wp2
    refine bodyPost_ret (results_tmp2 rfl _ _ _) rfl ?_
    exact ⟨_, rfl, OwnB.nil _ _ _, hK⟩
  rw [show lcode size k p s ls.size = 0 by rw [lcode, if_neg (by omega), if_neg (by omega), if_neg (by omega)], if_pos rfl]
  obtain ⟨sz, rfl⟩ : ∃ n : Nat, size = (n : Int) := ⟨size.toNat, by omega⟩
  obtain ⟨kn, rfl⟩ : ∃ n : Nat, k = (n : Int) := ⟨k.toNat, by omega⟩
  obtain ⟨pn, rfl⟩ : ∃ n : Nat, p = (n : Int) := ⟨p.toNat, by omega⟩
  obtain ⟨sn, rfl⟩ : ∃ n : Nat, s = (n : Int) := ⟨s.toNat, by omega⟩
  simp only [Int.toNat_natCast]
  have q1 : IntKind.u64.wrap (kn : Int) = (kn : Int) := by rw [u64_wrap]; omega
  have q2 : IntKind.u64.wrap (ls.size : Int) = (ls.size : Int) := by rw [u64_wrap]; omega
  have q3 : IntKind.u64.wrap (pn : Int) = (pn : Int) := by rw [u64_wrap]; omega
  have q4 : IntKind.u64.wrap (sn : Int) = (sn : Int) := by rw [u64_wrap]; omega
  have hA1 := heap_alloc_new w (.cells #[.int .i64 (kn : Int), .int .i64 (pn : Int), .int .i64 (sn : Int), .string ls] 29)
  have hBl := lbody_len sz kn pn sn ls.data.toList (by omega) (by omega)
  obtain ⟨m, hm⟩ : ∃ m, sz - 19 - ls.size = m := ⟨_, rfl⟩
  have hB : lbody sz kn pn sn ls.data.toList = (le kn 1 ++ (le ls.size 2 ++ (le pn 4 ++ (le sn 8 ++ ls.data.toList)))) ++ List.replicate m 0 := by rw [← hm, lbody, lk, List.nil_append]; simp only [List.append_assoc]
  have hX : (le kn 1 ++ (le ls.size 2 ++ (le pn 4 ++ (le sn 8 ++ ls.data.toList)))).length = 15 + ls.size := by simp only [List.length_append, le_len, lk]; omega
  have hfin : lbuild sz kn pn sn ls.data.toList = lbody sz kn pn sn ls.data.toList ++ le (Crc.sum (nats (lbody sz kn pn sn ls.data.toList))) 4 := rfl
  generalize lbody sz kn pn sn ls.data.toList = B at hB hBl hfin
  have HB := Lib.hid hB
  have HFIN := Lib.hid hfin
  have HX := Lib.hid hX
  have HM := Lib.hid hm
  clear hB hfin hX hm
  go_enter Try.func17, Try.ntmps17
  go_wp2_with fail
  refine (refNumber_any kn 1 (by omega) (by omega) _).mono ?_
  rintro x w1 ⟨v1, rfl, on1, k1⟩
  have hA2 := k1.blk (by simp) hA1
  have hK2 := hK.trans k1
  have ho2 := on1.base (base' := w.heap.size) (by simp)
  clear hA1 hK k1 on1
  have g3 := cell_of_row w1 _ 3 _ _ _ hA2
  simp at g3
  go_wp2_with fail
  refine (refNumber_any ls.size 2 (by omega) (by omega) _).mono ?_
  rintro x w3 ⟨v3, rfl, on3, k3⟩
  have hA3 := k3.blk (by simp) hA2
  have hK3 := hK2.trans k3
  have ho3 := ho2.keep k3 (by simp)
  clear hA2 hK2 ho2 k3 g3
  go_wp2_with (refine wpList_append_bytes rfl (.tmp 47) (.tmp 52) 30 5 rfl w.heap.size Try.underlying30 (by kernel_rfl) rfl rfl ho3 (on3.bytes (by rw [le_len]; omega)) (by simp only [List.length_append, List.length_nil, le_len]; omega) hK3.size ?_)
  intro v4 w4 ho4 k4
  have hA4 := k4.blk (fun h => (ho3.ne_row hA3 (by decide)) (by simpa using h)) hA3
  have hK4 := own_grow ho3 hK3 k4
  clear hA3 hK3 ho3 on3 k4
  have g1 := cell_of_row w4 _ 1 _ _ _ hA4
  simp at g1
  go_wp2_with fail
  refine (refNumber_any pn 4 (by omega) (by omega) _).mono ?_
  rintro x w5 ⟨v5, rfl, on5, k5⟩
  have hA5 := k5.blk (by simp) hA4
  have hK5 := hK4.trans k5
  have ho5 := ho4.keep k5 (by simp)
  clear hA4 hK4 ho4 k5 g1
  go_wp2_with (refine wpList_append_bytes rfl (.tmp 54) (.tmp 58) 30 5 rfl w.heap.size Try.underlying30 (by kernel_rfl) rfl rfl ho5 (on5.bytes (by rw [le_len]; omega)) (by simp only [List.length_append, List.length_nil, le_len]; omega) hK5.size ?_)
  intro v6 w6 ho6 k6
  have hA6 := k6.blk (fun h => (ho5.ne_row hA5 (by decide)) (by simpa using h)) hA5
  have hK6 := own_grow ho5 hK5 k6
  clear hA5 hK5 ho5 on5 k6
  have g2 := cell_of_row w6 _ 2 _ _ _ hA6
  simp at g2
  go_wp2_with fail
  refine (refNumber_any sn 8 (by omega) (by omega) _).mono ?_
  rintro x w7 ⟨v7, rfl, on7, k7⟩
  have hA7 := k7.blk (by simp) hA6
  have hK7 := hK6.trans k7
  have ho7 := ho6.keep k7 (by simp)
  clear hA6 hK6 ho6 k7 g2
  go_wp2_with (refine wpList_append_bytes rfl (.tmp 60) (.tmp 64) 30 5 rfl w.heap.size Try.underlying30 (by kernel_rfl) rfl rfl ho7 (on7.bytes (by rw [le_len]; omega)) (by simp only [List.length_append, List.length_nil, le_len]; omega) hK7.size ?_)
  intro v8 w8 ho8 k8
  have hA8 := k8.blk (fun h => (ho7.ne_row hA7 (by decide)) (by simpa using h)) hA7
  have hK8 := own_grow ho7 hK7 k8
  clear hA7 hK7 ho7 on7 k8
  have g3 := cell_of_row w8 _ 3 _ _ _ hA8
  simp at g3
  go_wp2_with (refine wpList_of_string rfl (.tmp 68) 9 30 5 rfl Try.underlying9 Try.underlying30 Try.underlying5 rfl (show ls.size ≤ 140737488355328 by omega) ?_)
  intro v9 w9 hb9 k9
  have hK9 := hK8.trans k9
  have ho9 := ho8.keep k9 (by simp)
  clear hA8 hK8 ho8 k9 g3
  go_wp2_with (refine wpList_append_bytes rfl (.tmp 66) (.tmp 69) 30 5 rfl w.heap.size Try.underlying30 (by kernel_rfl) rfl rfl ho9 hb9 (by simp only [List.length_append, List.length_nil, le_len, lk]; omega) hK9.size ?_)
  intro v10 w10 ho10 k10
  have hK10 := own_grow ho9 hK9 k10
  clear hK9 ho9 hb9 k10
  go_wp2_with fail
  have hx10 := HX.out
  have hB' := HB.out
  obtain ⟨X, hX'⟩ : ∃ X, (le kn 1 ++ (le ls.size 2 ++ (le pn 4 ++ (le sn 8 ++ ls.data.toList)))) = X := ⟨_, rfl⟩
  rw [hX'] at ho10 hx10 hB'
  clear HB hX'
  have HB := Lib.hid hB'
  clear hB'
  go_loopw [6] (fun v wr => ∃ j : Nat, j ≤ m ∧ OwnB wr w.heap.size 5 v (X ++ List.replicate j 0) ∧ Keep [] w wr) (fun v _ => sz - sliceLen v)
  case atStart => exact ⟨0, by omega, by simpa using ho10, hK10⟩
  case round =>
    obtain ⟨j, hj, hoj, hKj⟩ := hrel
    have hlen : (X ++ List.replicate j (0 : UInt8)).length = 15 + ls.size + j := by rw [List.length_append, List.length_replicate, hx10]
    have hm' := HM.out
    have hfm := (hoj.bytes (by rw [hlen]; omega)).form
    rw [hlen] at hfm
    obtain ⟨ao, cap, rfl, hcp, hmm, -⟩ := hfm
    by_cases hlt : j < m
    · have t1 : ((15 + ls.size + j : Nat) : Int) < (sz : Int) - 4 := by omega
      have hb1 := bytes_one wr 0 0 rfl (0, 0)
      have ho' := hoj.keep ((Keep.refl [] wr).alloc (.cells #[.int .u8 0] 5)) (by simp)
      have hK' := hKj.alloc (.cells #[.int .u8 0] 5)
      go_wp2_with (refine wpList_append_bytes rfl (.tmp 76) (.tmp 77) 30 5 rfl w.heap.size Try.underlying30 (by kernel_rfl) rfl rfl ho' hb1 (by rw [hlen]; simp; omega) hK'.size ?_)
      intro v12 w12 ho12 k12
      have hK12 := own_grow ho' hK' k12
      have hb12 := (ho12.bytes (by simp only [List.length_append, List.length_replicate, hx10, List.length_cons, List.length_nil]; omega)).form
      obtain ⟨ao2, cap2, rfl, -⟩ := hb12
      clear ho' hb1 hK' k12
      go_wp2_with fail
      go_roundw
      case rel => exact ⟨j + 1, by omega, by rw [List.replicate_succ']; simpa only [List.append_assoc] using ho12, hK12⟩
      case measure => simp [sliceLen]; omega
    · obtain rfl : j = m := by omega
      have t1 : ¬ ((15 + ls.size + j : Nat) : Int) < (sz : Int) - 4 := by omega
      rw [← HB.out] at hoj
      have hS := refSum_any _ B wr (hoj.bytes (by rw [hBl]; omega))
      have hS32 := sum_lt B
      generalize Crc.sum (nats B) = S at hS hS32 HFIN
      have q8 : IntKind.u64.wrap (S : Int) = (S : Int) := by rw [u64_wrap]; omega
      clear hm'
      go_wp2_with fail
      refine hS.mono ?_
      rintro x w14 ⟨rfl, rfl⟩
      go_wp2_with fail
      refine (refNumber_any S 4 (by omega) (by omega) _).mono ?_
      rintro x w15 ⟨v15, rfl, on15, k15⟩
      have ho15 := hoj.keep k15 (by simp)
      have hK15 := hKj.trans k15
      clear hoj hKj k15
      go_wp2_with (refine wpList_append_bytes rfl (.tmp 81) (.tmp 84) 30 5 rfl w.heap.size Try.underlying30 (by kernel_rfl) rfl rfl ho15 (on15.bytes (by rw [le_len]; omega)) (by rw [le_len]; omega) hK15.size ?_)
      intro v16 w16 ho16 k16
      have hK16 := own_grow ho15 hK15 k16
      rw [← HFIN.out] at ho16
      go_wp2_with fail
      refine bodyPost_ret (results_tmp2 rfl _ _ _) rfl ?_
      exact ⟨_, rfl, ho16, hK16⟩
end Go.Proofs.Ytijljdcpajjhhaa

