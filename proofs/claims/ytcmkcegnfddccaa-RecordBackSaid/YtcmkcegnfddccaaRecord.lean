import Derived.Test.YtcmkcegnfddccaaWire
import Derived.Lib.SlBytesConst
import Derived.Laws.IdiomStrings
/-! The walks of record's Pack, Size, Ended. -/
namespace Go.Proofs.Ytcmkcegnfddccaa
open Go.RowKit Sg

/-- why a record may not be -/
def rcode (k v : Nat) (e : Int) : Int := if k < 1 ∨ 64 < k then 10 else if 4096 < v then 11 else if e < 0 ∨ 281474976710656 < e then 2 else 0
theorem rcode_zero {k v : Nat} {e : Int} (h : rcode k v e = 0) : 1 ≤ k ∧ k ≤ 64 ∧ v ≤ 4096 ∧ 0 ≤ e ∧ e ≤ 281474976710656 := by
  unfold rcode at h
  split at h
  · omega
  · split at h
    · omega
    · split at h <;> omega
/-- a record's bytes -/
def rpack (k v : List UInt8) (e : Nat) : List UInt8 := (((((([] ++ le 165 1) ++ le k.length 1) ++ le v.length 2) ++ le e 8) ++ k) ++ v) ++ le 90 1
theorem rpack_len (k v : List UInt8) (e : Nat) : (rpack k v e).length = 13 + k.length + v.length := by simp [rpack, le_len]; omega

set_option maxRecDepth 100000 in
set_option maxHeartbeats 1000000 in
theorem right_any (k v : Value) (kl vl : List UInt8) (e : Int) (w : World) (hk : Bytes w k kl) (hv : Bytes w v vl) :
    Calls Try.prog 76 #[.agg #[k, v, .int .i64 e]] w fun x w' => x = .returned (.int .i64 (rcode kl.length vl.length e)) ∧ Keep [] w w' := by
  obtain ⟨ka, kc, rfl, -, hkm, -⟩ := hk.form
  obtain ⟨va, vc, rfl, -, hvm, -⟩ := hv.form
  have hK := (Keep.refl [] w).alloc (.cells #[.slice ka kl.length kc, .slice va vl.length vc, .int .i64 e] 30)
  obtain ⟨n, hn⟩ : ∃ n, kl.length = n := ⟨_, rfl⟩
  obtain ⟨m, hm⟩ : ∃ m, vl.length = m := ⟨_, rfl⟩
  rw [hn] at hkm hK ⊢
  rw [hm] at hvm hK ⊢
  clear hn hm hk hv
  by_cases h1 : n < 1
  · rw [show rcode n m e = 10 by simp [rcode]; omega]
    go_enter Try.func76, Try.ntmps76
    go_wp2
    go_ret
    exact ⟨rfl, hK⟩
  by_cases h2 : 64 < n
  · rw [show rcode n m e = 10 by simp [rcode]; omega]
    go_enter Try.func76, Try.ntmps76
    go_wp2
    go_ret
    exact ⟨rfl, hK⟩
  by_cases h3 : 4096 < m
  · rw [show rcode n m e = 11 by rw [rcode, if_neg (by omega), if_pos h3]]
    go_enter Try.func76, Try.ntmps76
    go_wp2
    go_ret
    exact ⟨rfl, hK⟩
  by_cases h4 : e < 0
  · rw [show rcode n m e = 2 by rw [rcode, if_neg (by omega), if_neg h3, if_pos (by omega)]]
    go_enter Try.func76, Try.ntmps76
    go_wp2
    go_ret
    exact ⟨rfl, hK⟩
  by_cases h5 : 281474976710656 < e
  · rw [show rcode n m e = 2 by rw [rcode, if_neg (by omega), if_neg h3, if_pos (by omega)]]
    go_enter Try.func76, Try.ntmps76
    go_wp2
    go_ret
    exact ⟨rfl, hK⟩
  · rw [show rcode n m e = 0 by rw [rcode, if_neg (by omega), if_neg h3, if_neg (by omega)]]
    go_enter Try.func76, Try.ntmps76
    go_wp2
    go_ret
    exact ⟨rfl, hK⟩

set_option maxRecDepth 100000 in
set_option maxHeartbeats 1000000 in
theorem ended_any (a b : Int) (w : World) : Calls Try.prog 87 #[.int .i64 a, .int .i64 b] w fun x w' => x = .returned (.bool (decide (a ≠ 0 ∧ a ≤ b))) ∧ w = w' := by
  by_cases h : a = 0
  · subst h
    go_enter Try.func87, Try.ntmps87
    go_wp2
    go_ret
    exact ⟨rfl, rfl⟩
  · have h' : (a != 0) = true := by simpa using h
    have e1 : decide (a ≠ 0 ∧ a ≤ b) = decide (a ≤ b) := decide_eq_decide.2 ⟨fun x => x.2, fun x => ⟨h, x⟩⟩
    rw [e1]
    go_enter Try.func87, Try.ntmps87
    go_wp2
    go_ret
    exact ⟨rfl, rfl⟩

set_option maxRecDepth 100000 in
set_option maxHeartbeats 1000000 in
theorem size_any (k v : Int) (w : World) : Calls Try.prog 78 #[.int .i64 k, .int .i64 v] w fun x w' => x = .returned (.int .i64 (if 1 ≤ k ∧ k ≤ 64 ∧ 0 ≤ v ∧ v ≤ 4096 then 13 + k + v else 0)) ∧ w = w' := by
  by_cases h1 : k < 1
  · rw [if_neg (by omega)]
    go_enter Try.func78, Try.ntmps78
    go_wp2
    go_ret
    exact ⟨rfl, rfl⟩
  by_cases h2 : 64 < k
  · rw [if_neg (by omega)]
    go_enter Try.func78, Try.ntmps78
    go_wp2
    go_ret
    exact ⟨rfl, rfl⟩
  by_cases h3 : v < 0
  · rw [if_neg (by omega)]
    go_enter Try.func78, Try.ntmps78
    go_wp2
    go_ret
    exact ⟨rfl, rfl⟩
  by_cases h4 : 4096 < v
  · rw [if_neg (by omega)]
    go_enter Try.func78, Try.ntmps78
    go_wp2
    go_ret
    exact ⟨rfl, rfl⟩
  · rw [if_pos (by omega)]
    go_enter Try.func78, Try.ntmps78
    go_wp2
    go_ret
    exact ⟨rfl, rfl⟩

set_option maxRecDepth 100000 in
set_option maxHeartbeats 1000000 in
theorem rpack_any (k v : Value) (kl vl : List UInt8) (e : Int) (w : World) (hk : Bytes w k kl) (hv : Bytes w v vl) :
    Calls Try.prog 14 #[.agg #[k, v, .int .i64 e]] w fun x w' => ∃ v', x = .returned (.tuple #[v', .int .i64 (rcode kl.length vl.length e)]) ∧ OwnB w' w.heap.size 5 v' (if rcode kl.length vl.length e = 0 then rpack kl vl e.toNat else []) ∧ Keep [] w w' := by
  obtain ⟨ka, kc, rfl, -, hkm, -⟩ := hk.form
  obtain ⟨va, vc, rfl, -, hvm, -⟩ := hv.form
  have hK := (Keep.refl [] w).alloc (.cells #[.slice ka kl.length kc, .slice va vl.length vc, .int .i64 e] 30)
  have hr := right_any _ _ kl vl e _ (hk.keep hK (by simp)) (hv.keep hK (by simp))
  obtain ⟨rc, hrc⟩ : ∃ rc, rcode kl.length vl.length e = rc := ⟨_, rfl⟩
  rw [hrc] at hr ⊢
  have HRC := Lib.hid hrc
  clear hrc
  by_cases hz : rc = 0
  · subst hz
    obtain ⟨a1, a2, a3, a4, a5⟩ := rcode_zero HRC.out
    obtain ⟨en, hen⟩ : ∃ en : Nat, e = (en : Int) := ⟨e.toNat, by omega⟩
    subst hen
    have hsz := size_any (kl.length : Int) (vl.length : Int)
    rw [if_pos (by omega)] at hsz
    have esz : (13 : Int) + (kl.length : Int) + (vl.length : Int) = ((13 + kl.length + vl.length : Nat) : Int) := by omega
    rw [esz] at hsz
    rw [if_pos rfl]
    obtain ⟨lim, hlim⟩ : ∃ lim, 13 + kl.length + vl.length = lim := ⟨_, rfl⟩
    rw [hlim] at hsz
    have q1 : (kl.length : Int) % 18446744073709551616 = (kl.length : Int) := by omega
    have q2 : (vl.length : Int) % 18446744073709551616 = (vl.length : Int) := by omega
    have q3 : IntKind.u64.wrap (en : Int) = (en : Int) := by rw [u64_wrap]; omega
    have q4 : IntKind.u64.wrap (kl.length : Int) = (kl.length : Int) := by rw [u64_wrap]; omega
    have q5 : IntKind.u64.wrap (vl.length : Int) = (vl.length : Int) := by rw [u64_wrap]; omega
    go_enter Try.func14, Try.ntmps14
    go_wp2_with fail
    refine hr.mono ?_
    rintro x w2 ⟨rfl, hk2⟩
    have hb2 := hk2.blk (by simp) (heap_alloc_new w _)
    have hK2 := hK.trans hk2
    have c0 := cell_of_row w2 _ 0 _ _ _ hb2
    have c1 := cell_of_row w2 _ 1 _ _ _ hb2
    have c2 := cell_of_row w2 _ 2 _ _ _ hb2
    simp at c0 c1 c2
    clear hk2 hb2 hr hK
    go_wp2_with fail
    refine (hsz _).mono ?_
    rintro x w3 ⟨rfl, rfl⟩
    go_wp2_with fail
    refine (newWriter_any lim (by omega) _).mono ?_
    rintro x w4 ⟨g, rfl, hw4⟩
    go_wp2_with fail
    refine (putNumber_any _ g lim _ 165 1 (by omega) (by omega) _ hw4 (by simp; omega)).mono ?_
    rintro x w5 ⟨rfl, hw5⟩
    have d0 := hw5.1.cell (by simp) c0
    go_wp2_with fail
    refine (putNumber_any _ g lim _ kl.length 1 (by omega) (by omega) _ hw5 (by simp [le_len]; omega)).mono ?_
    rintro x w6 ⟨rfl, hw6⟩
    have d1 := hw6.1.cell (by simp) c1
    clear hw4 hw5 d0
    go_wp2_with fail
    refine (putNumber_any _ g lim _ vl.length 2 (by omega) (by omega) _ hw6 (by simp [le_len]; omega)).mono ?_
    rintro x w7 ⟨rfl, hw7⟩
    have d2 := hw7.1.cell (by simp) c2
    clear hw6 d1
    go_wp2_with fail
    refine (putNumber_any _ g lim _ en 8 (by omega) (by omega) _ hw7 (by simp [le_len]; omega)).mono ?_
    rintro x w8 ⟨rfl, hw8⟩
    have d0 := hw8.1.cell (by simp) c0
    clear hw7 d2
    go_wp2_with fail
    refine (raw_any _ g lim _ _ kl _ hw8 (hk.keep (hK2.trans hw8.1) (by simp)) (by simp [le_len]; omega)).mono ?_
    rintro x w9 ⟨rfl, hw9⟩
    have d1 := hw9.1.cell (by simp) c1
    clear hw8 d0
    go_wp2_with fail
    refine (raw_any _ g lim _ _ vl _ hw9 (hv.keep (hK2.trans hw9.1) (by simp)) (by simp [le_len]; omega)).mono ?_
    rintro x w10 ⟨rfl, hw10⟩
    clear hw9 d1
    go_wp2_with fail
    refine (putNumber_any _ g lim _ 90 1 (by omega) (by omega) _ hw10 (by simp [le_len]; omega)).mono ?_
    rintro x w11 ⟨rfl, hw11⟩
    clear hw10
    go_wp2_with fail
    refine (wbytes_any _ g lim _ _ hw11).mono ?_
    rintro x w12 ⟨v', rfl, ho, hk12, hk12'⟩
    go_wp2_with fail
    refine bodyPost_ret (results_tmp2 rfl _ _ _) rfl ?_
    exact ⟨v', rfl, ho.base (hK2.trans hw11.1).size, hK2.trans hk12⟩
  · rw [if_neg hz]
    have hz' : (rc != 0) = true := by simpa using hz
    go_enter Try.func14, Try.ntmps14
    go_wp2_with fail
    refine hr.mono ?_
    rintro x w2 ⟨rfl, hk2⟩
    go_wp2_with fail
    refine bodyPost_ret (results_tmp2 rfl _ _ _) rfl ?_
    exact ⟨_, rfl, OwnB.nil _ _ _, hK.trans hk2⟩

theorem rp_kv : rpack [107] [118] 0 = [165, 1, 1, 0, 0, 0, 0, 0, 0, 0, 0, 0, 107, 118, 90] := by decide +kernel

theorem bytes_one (w : World) (b : UInt8) (c : Int) (hc : c = (b.toNat : Int)) (fr : Nat × Nat) : Bytes (w.alloc (.cells #[.int .u8 c] 5 fr)) (.slice (some ⟨w.heap.size, 0, none⟩) 1 1) [b] := by
  subst hc
  exact Bytes.row (l := [b]) (cap := 1) (World.alloc_heap_new w _) (by intro i hi; have : i < 1 := hi; match i, this with | 0, _ => rfl) (by simp) ⟨by decide, by simp⟩

/-- string(b) -/
theorem run_str {P : Program} {w : World} {v : Value} {l : List UInt8} (src dst e : TypeId) (hs : P.underlying src = some (.slice e)) (he : P.underlying e = some (.int .u8)) (hd : P.underlying dst = some .string) (h : Bytes w v l) :
    Sem.run P (convert src dst v) w = .ok (.string ⟨l.toArray⟩) w := by
  obtain ⟨ao, cap, rfl, h1, h2, h3, h4⟩ := h
  cases ao with
  | none =>
    obtain rfl := h3 rfl
    rw [List.length_nil, run_convert_bytes_string w src dst e none 0 cap hs he hd]
    simp [Conv.bytesToString]
    rfl
  | some ad => exact run_convert_bytes_back w src dst e ad cap l hs he hd (h4 ad rfl)

set_option maxRecDepth 100000 in
set_option maxHeartbeats 1000000 in
theorem awake09_any (w : World) : Calls Try.prog 19 #[] w fun e w' => e = .returned (.bool true) ∧ Keep [] w w' := by
  have kc := fun (w : World) (C : Array Value) (n c : Nat) => Lib.run_convert_bytes_const (P := Try.prog) w 23 5 C n c Try.underlying23 Try.underlying5
  have hsz : (w.alloc (.cells #[.int .u8 107] 5 (1, 2))).heap.size = w.heap.size + 1 := by simp
  have kc2 := kc (w.alloc (.cells #[.int .u8 107] 5 (1, 2))) #[.int .u8 118] 1 1
  rw [hsz] at kc2
  have he1 := ended_any 5 5
  have he2 := ended_any 0 9
  have hs := size_any 1 1
  rw [show decide ((5 : Int) ≠ 0 ∧ (5 : Int) ≤ 5) = true from rfl] at he1
  rw [show decide ((0 : Int) ≠ 0 ∧ (0 : Int) ≤ 9) = false from rfl] at he2
  rw [if_pos (by decide)] at hs
  go_enter Try.func19, Try.ntmps19
  go_wp2_with fail
  have hb2 := bytes_one (w.alloc (.cells #[.int .u8 107] 5 (1, 2))) 118 118 rfl (1, 2)
  rw [hsz] at hb2
  have hp := rpack_any _ _ [(107 : UInt8)] [(118 : UInt8)] 0 _ ((bytes_one w 107 107 rfl (1, 2)).keep ((Keep.refl [] _).alloc (.cells #[.int .u8 118] 5 (1, 2))) (by simp)) hb2
  rw [if_pos (by rfl), show (0 : Int).toNat = 0 from rfl, rp_kv, show rcode [(107 : UInt8)].length [(118 : UInt8)].length 0 = 0 from rfl] at hp
  have hK0 := ((Keep.refl [] w).alloc (.cells #[.int .u8 107] 5 (1, 2))).alloc (.cells #[.int .u8 118] 5 (1, 2))
  refine hp.mono ?_
  clear kc kc2 hp
  rintro x w2 ⟨v', rfl, ho, hk⟩
  have hq := run_str (P := Try.prog) 23 9 5 Try.underlying23 Try.underlying5 Try.underlying9 (ho.bytes (by decide))
  have hk2 := hK0.trans hk
  clear ho hk hK0
  go_wp2_with fail
  refine (he1 _).mono ?_
  rintro x w3 ⟨rfl, rfl⟩
  go_wp2_with fail
  refine (he2 _).mono ?_
  rintro x w3 ⟨rfl, rfl⟩
  go_wp2_with fail
  refine (hs _).mono ?_
  rintro x w3 ⟨rfl, rfl⟩
  go_wp2_with fail
  go_ret
  exact ⟨rfl, hk2⟩
end Go.Proofs.Ytcmkcegnfddccaa
