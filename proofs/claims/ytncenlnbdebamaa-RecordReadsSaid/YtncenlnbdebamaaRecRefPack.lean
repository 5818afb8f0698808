import Derived.Test.YtncenlnbdebamaaRecRef
/-! The document's Pack of a record. -/
namespace Go.Proofs.Ytncenlnbdebamaa
open Go.RowKit Sg
set_option linter.unusedSimpArgs false

theorem own_grow {w w1 w2 : World} {e : TypeId} {v : Value} {xs : List UInt8} (ho : OwnB w1 w.heap.size e v xs) (hK : Keep [] w w1) (hk : Keep v.ownBlock.toList w1 w2) : Keep [] w w2 :=
  hK.trans' hk (by
    intro k hk
    rcases ho.2 with ⟨h, -⟩ | ⟨g', c, cur, h, hg', -⟩
    · rw [h] at hk; simp [Value.ownBlock] at hk
    · rw [h] at hk; simp [Value.ownBlock] at hk; subst hk; exact .inr hg')
theorem own_two (w : World) (base : Nat) (hb : base ≤ w.heap.size) (a b : UInt8) (x y : Int) (hx : x = (a.toNat : Int)) (hy : y = (b.toNat : Int)) : OwnB (w.alloc (.cells #[.int .u8 x, .int .u8 y] 5)) base 5 (.slice (some ⟨w.heap.size, 0, none⟩) 2 2) [a, b] := by
  subst hx hy
  exact ⟨rfl, .inr ⟨w.heap.size, 2, _, rfl, hb, World.alloc_heap_new _ _, Nat.le_refl _, by decide, rfl, rfl⟩⟩
theorem rpack_ref (k v : List UInt8) (e : Nat) (x : UInt8) (hx : x = UInt8.ofNat (k.length % 256)) : ((((([165, x] ++ le v.length 2) ++ le e 8) ++ k) ++ v) ++ [90]) = rpack k v e := by
  have h1 : le 165 1 = [165] := by decide
  have h2 : le k.length 1 = [x] := by rw [hx]; simp [le]
  have h3 : le 90 1 = [90] := by decide
  unfold rpack
  rw [h1, h2, h3]
  rfl

set_option maxRecDepth 100000 in
set_option maxHeartbeats 1000000 in
set_option maxHeartbeats 4000000 in
theorem ref09Pack_any (ks vs : ByteArray) (e : Int) (hks : ks.size ≤ 100000) (hvs : vs.size ≤ 100000) (w : World) :
    Calls Try.prog 18 #[.agg #[.string ks, .string vs, .int .i64 e]] w fun x w' => ∃ v', x = .returned (.tuple #[v', .int .i64 (rcode ks.size vs.size e)]) ∧ OwnB w' w.heap.size 5 v' (if rcode ks.size vs.size e = 0 then rpack ks.data.toList vs.data.toList e.toNat else []) ∧ Keep [] w w' := by
  have hK := (Keep.refl [] w).alloc (.cells #[.string ks, .string vs, .int .i64 e] 35)
  have lk : ks.data.toList.length = ks.size := by rw [Array.length_toList]; rfl
  have lv : vs.data.toList.length = vs.size := by rw [Array.length_toList]; rfl
  by_cases h1 : ks.size < 1
  · rw [show rcode ks.size vs.size e = 10 by rw [rcode, if_pos (by omega)]]
    go_enter Try.func18, Try.ntmps18
    go_wp2
    refine bodyPost_ret (results_tmp2 rfl _ _ _) rfl ?_
    exact ⟨_, rfl, OwnB.nil _ _ _, hK⟩
  by_cases h2 : 64 < ks.size
  · rw [show rcode ks.size vs.size e = 10 by rw [rcode, if_pos (by omega)]]
    go_enter Try.func18, Try.ntmps18
    go_wp2
    refine bodyPost_ret (results_tmp2 rfl _ _ _) rfl ?_
    exact ⟨_, rfl, OwnB.nil _ _ _, hK⟩
  by_cases h3 : 4096 < vs.size
  · rw [show rcode ks.size vs.size e = 11 by rw [rcode, if_neg (by omega), if_pos h3]]
    go_enter Try.func18, Try.ntmps18
    go_wp2
    refine bodyPost_ret (results_tmp2 rfl _ _ _) rfl ?_
    exact ⟨_, rfl, OwnB.nil _ _ _, hK⟩
  by_cases h4 : e < 0
  · rw [show rcode ks.size vs.size e = 2 by rw [rcode, if_neg (by omega), if_neg h3, if_pos (by omega)]]
    go_enter Try.func18, Try.ntmps18
    go_wp2
    refine bodyPost_ret (results_tmp2 rfl _ _ _) rfl ?_
    exact ⟨_, rfl, OwnB.nil _ _ _, hK⟩
  by_cases h5 : 281474976710656 < e
  · rw [show rcode ks.size vs.size e = 2 by rw [rcode, if_neg (by omega), if_neg h3, if_pos (by omega)]]
    go_enter Try.func18, Try.ntmps18
    go_wp2
    refine bodyPost_ret (results_tmp2 rfl _ _ _) rfl ?_
    exact ⟨_, rfl, OwnB.nil _ _ _, hK⟩
  · rw [show rcode ks.size vs.size e = 0 by rw [rcode, if_neg (by omega), if_neg h3, if_neg (by omega)], if_pos rfl]
    obtain ⟨en, hen⟩ : ∃ en : Nat, e = (en : Int) := ⟨e.toNat, by omega⟩
    subst hen
    obtain ⟨x, hx⟩ : ∃ x : UInt8, x = UInt8.ofNat (ks.size % 256) := ⟨_, rfl⟩
    have hx2 : IntKind.u8.wrap (ks.size : Int) = (x.toNat : Int) := by rw [u8_wrap, hx, UInt8.toNat_ofNat']; omega
    have q3 : IntKind.u64.wrap (en : Int) = (en : Int) := by rw [u64_wrap]; omega
    have q5 : IntKind.u64.wrap (vs.size : Int) = (vs.size : Int) := by rw [u64_wrap]; omega
    have HR := Lib.hid (rpack_ref ks.data.toList vs.data.toList en x (by rw [lk]; exact hx))
    clear hx
    have ho1 := own_two (w.alloc (.cells #[.string ks, .string vs, .int .i64 (en : Int)] 35)) w.heap.size (by simp) 165 x 165 (x.toNat : Int) rfl rfl
    rw [show (w.alloc (.cells #[.string ks, .string vs, .int .i64 (en : Int)] 35)).heap.size = w.heap.size + 1 by simp] at ho1
    have hK1 := hK.alloc (.cells #[.int .u8 165, .int .u8 (x.toNat : Int)] 5)
    have hA1 := heap_alloc2_old w (.cells #[.string ks, .string vs, .int .i64 (en : Int)] 35) (.cells #[.int .u8 165, .int .u8 (x.toNat : Int)] 5)
    go_enter Try.func18, Try.ntmps18
    go_wp2_with fail
    refine (refNumber_any vs.size 2 (by omega) (by omega) _).mono ?_
    rintro y w2 ⟨v2, rfl, hn2, hk2⟩
    have hK2 := hK1.trans hk2
    have hA2 := hk2.blk (by simp) hA1
    have ho2 := ho1.keep hk2 (by simp)
    clear ho1 hA1 hK1 hk2 hK
    go_wp2_with (refine wpList_append_bytes rfl (.tmp 32) (.tmp 37) 36 5 rfl w.heap.size Try.underlying36 (by kernel_rfl) rfl rfl ho2 (hn2.bytes (by rw [le_len]; omega)) (by simp [le_len]) hK2.size ?_)
    intro v3 w3 ho3 hk3
    have hK3 := own_grow ho2 hK2 hk3
    have hA3 := hk3.blk (fun h => (ho2.ne_row hA2 (by decide)) (by simpa using h)) hA2
    have c2 := cell_of_row w3 _ 2 _ _ _ hA3
    simp at c2
    clear ho2 hn2 hA2 hK2 hk3
    go_wp2_with fail
    refine (refNumber_any en 8 (by omega) (by omega) _).mono ?_
    rintro y w4 ⟨v4, rfl, hn4, hk4⟩
    have hK4 := hK3.trans hk4
    have hA4 := hk4.blk (by simp) hA3
    have ho4 := ho3.keep hk4 (by simp)
    clear ho3 hA3 hK3 hk4 c2
    go_wp2_with (refine wpList_append_bytes rfl (.tmp 39) (.tmp 43) 36 5 rfl w.heap.size Try.underlying36 (by kernel_rfl) rfl rfl ho4 (hn4.bytes (by rw [le_len]; omega)) (by simp only [List.length_append, List.length_cons, List.length_nil, le_len, lk, lv]; omega) hK4.size ?_)
    intro v5 w5 ho5 hk5
    have hK5 := own_grow ho4 hK4 hk5
    have hA5 := hk5.blk (fun h => (ho4.ne_row hA4 (by decide)) (by simpa using h)) hA4
    have c0 := cell_of_row w5 _ 0 _ _ _ hA5
    simp at c0
    clear ho4 hn4 hA4 hK4 hk5
    go_wp2_with (refine wpList_of_string rfl (.tmp 47) 9 36 5 rfl Try.underlying9 Try.underlying36 Try.underlying5 rfl (show ks.size ≤ 140737488355328 by omega) ?_)
    intro v6 w6 hb6 hk6
    have hK6 := hK5.trans hk6
    have hA6 := hk6.blk (by simp) hA5
    have ho6 := ho5.keep hk6 (by simp)
    clear ho5 hA5 hK5 hk6 c0
    go_wp2_with (refine wpList_append_bytes rfl (.tmp 45) (.tmp 48) 36 5 rfl w.heap.size Try.underlying36 (by kernel_rfl) rfl rfl ho6 hb6 (by simp only [List.length_append, List.length_cons, List.length_nil, le_len, lk, lv]; omega) hK6.size ?_)
    intro v7 w7 ho7 hk7
    have hK7 := own_grow ho6 hK6 hk7
    have hA7 := hk7.blk (fun h => (ho6.ne_row hA6 (by decide)) (by simpa using h)) hA6
    have c1 := cell_of_row w7 _ 1 _ _ _ hA7
    simp at c1
    clear ho6 hb6 hA6 hK6 hk7
    go_wp2_with (refine wpList_of_string rfl (.tmp 52) 9 36 5 rfl Try.underlying9 Try.underlying36 Try.underlying5 rfl (show vs.size ≤ 140737488355328 by omega) ?_)
    intro v8 w8 hb8 hk8
    have hK8 := hK7.trans hk8
    have ho8 := ho7.keep hk8 (by simp)
    clear ho7 hA7 hK7 hk8 c1
    go_wp2_with (refine wpList_append_bytes rfl (.tmp 50) (.tmp 53) 36 5 rfl w.heap.size Try.underlying36 (by kernel_rfl) rfl rfl ho8 hb8 (by simp only [List.length_append, List.length_cons, List.length_nil, le_len, lk, lv]; omega) hK8.size ?_)
    intro v9 w9 ho9 hk9
    have hK9 := own_grow ho8 hK8 hk9
    clear ho8 hb8 hK8 hk9
    have ho10 := ho9.keep ((Keep.refl [] w9).alloc (.cells #[.int .u8 90] 5)) (by simp)
    have hb10 := bytes_one w9 90 90 rfl (0, 0)
    have hK10 := hK9.alloc (.cells #[.int .u8 90] 5)
    clear ho9 hK9
    go_wp2_with (refine wpList_append_bytes rfl (.tmp 55) (.tmp 56) 36 5 rfl w.heap.size Try.underlying36 (by kernel_rfl) rfl rfl ho10 hb10 (by simp only [List.length_append, List.length_cons, List.length_nil, le_len, lk, lv]; omega) hK10.size ?_)
    intro v11 w11 ho11 hk11
    have hK11 := own_grow ho10 hK10 hk11
    clear ho10 hb10 hK10 hk11
    go_wp2_with fail
    refine bodyPost_ret (results_tmp2 rfl _ _ _) rfl ?_
    refine ⟨_, rfl, ?_, hK11⟩
    rw [show ((en : Int)).toNat = en by simp, ← HR.out, lv]
    show OwnB w11 w.heap.size 5 v11 _
    simpa using ho11
end Go.Proofs.Ytncenlnbdebamaa
