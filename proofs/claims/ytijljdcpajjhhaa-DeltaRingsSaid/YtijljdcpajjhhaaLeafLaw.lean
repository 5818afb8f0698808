import Derived.Test.YtijljdcpajjhhaaLeafRefRead
/-! What is built is read; the walk of the laws' awake. -/
namespace Go.Proofs.Ytijljdcpajjhhaa
open Go.RowKit Go.Shelf Sg
set_option linter.unusedSimpArgs false

theorem lbuild_flat (size k p s : Nat) (l : List UInt8) : lbuild size k p s l = le k 1 ++ (le l.length 2 ++ (le p 4 ++ (le s 8 ++ (l ++ (List.replicate (size - 19 - l.length) 0 ++ le (Crc.sum (nats (lbody size k p s l))) 4))))) := by
  simp [lbuild, lbody]
theorem leaf_back (size k p s : Nat) (l : List UInt8) (h : lcode size k p s l.length = 0) (hs : s ≤ 9223372036854775807) :
    lk (lbuild size k p s l) = k ∧ ln (lbuild size k p s l) = l.length ∧ lp (lbuild size k p s l) = p ∧ ls (lbuild size k p s l) = s ∧ ll (lbuild size k p s l) = l ∧ LeafOk (lbuild size k p s l) ∧ (lbuild size k p s l).length = size := by
  obtain ⟨⟨b1, b2⟩, ⟨b3, b4⟩, ⟨b5, b6⟩, b7, b8⟩ := lcode_zero h
  have hlen := lbuild_len size k p s l (by omega) (by omega)
  have hf := lbuild_flat size k p s l
  obtain ⟨L, hL⟩ : ∃ L, lbuild size k p s l = L := ⟨_, rfl⟩
  rw [hL] at hlen hf ⊢
  have t1 : L.take 1 = le k 1 := by rw [hf, List.take_left' (le_len _ _)]
  have d1 : L.drop 1 = le l.length 2 ++ (le p 4 ++ (le s 8 ++ (l ++ (List.replicate (size - 19 - l.length) 0 ++ le (Crc.sum (nats (lbody size k p s l))) 4)))) := by rw [hf, List.drop_left' (le_len _ _)]
  have d3 : L.drop 3 = le p 4 ++ (le s 8 ++ (l ++ (List.replicate (size - 19 - l.length) 0 ++ le (Crc.sum (nats (lbody size k p s l))) 4))) := by rw [show 3 = 1 + 2 from rfl, ← List.drop_drop, d1, List.drop_left' (le_len _ _)]
  have d7 : L.drop 7 = le s 8 ++ (l ++ (List.replicate (size - 19 - l.length) 0 ++ le (Crc.sum (nats (lbody size k p s l))) 4)) := by rw [show 7 = 3 + 4 from rfl, ← List.drop_drop, d3, List.drop_left' (le_len _ _)]
  have d15 : L.drop 15 = l ++ (List.replicate (size - 19 - l.length) 0 ++ le (Crc.sum (nats (lbody size k p s l))) 4) := by rw [show 15 = 7 + 8 from rfl, ← List.drop_drop, d7, List.drop_left' (le_len _ _)]
  have e1 : lk L = k := by rw [lk, t1, leOf_le]; exact Nat.mod_eq_of_lt (by omega)
  have e2 : ln L = l.length := by rw [ln, d1, List.take_left' (le_len _ _), leOf_le]; exact Nat.mod_eq_of_lt (by omega)
  have e3 : lp L = p := by rw [lp, d3, List.take_left' (le_len _ _), leOf_le]; exact Nat.mod_eq_of_lt (by omega)
  have e4 : ls L = s := by rw [ls, d7, List.take_left' (le_len _ _), leOf_le]; exact Nat.mod_eq_of_lt (by omega)
  have e5 : ll L = l := by rw [ll, e2, d15, List.take_left' rfl]
  refine ⟨e1, e2, e3, e4, e5, ⟨⟨by omega, by omega⟩, by omega, by omega, ?_, ?_⟩, hlen⟩
  · rw [hlen, e1, e2, e3, e4]; exact h
  · rw [hlen, e1, e3, e4, e5]; exact hL

theorem lb96 : (lbuild 96 2 5 7 [104, 105])[0]? = some 2 ∧ (lbuild 96 2 5 7 [104, 105])[1]? = some 2 ∧ (lbuild 96 2 5 7 [104, 105])[3]? = some 5 ∧ (lbuild 96 2 5 7 [104, 105])[7]? = some 7 ∧ (lbuild 96 2 5 7 [104, 105])[15]? = some 104 := by
  rw [lbuild_flat]
  refine ⟨rfl, rfl, rfl, rfl, rfl⟩

theorem bytes_two (w : World) (a b : UInt8) (c d : Int) (hc : c = (a.toNat : Int)) (hd : d = (b.toNat : Int)) (fr : Nat × Nat) : Bytes (w.alloc (.cells #[.int .u8 c, .int .u8 d] 5 fr)) (.slice (some ⟨w.heap.size, 0, none⟩) 2 2) [a, b] := by
  subst hc hd
  exact Bytes.row (l := [a, b]) (cap := 2) (World.alloc_heap_new w _) (by intro i hi; have : i < 2 := hi; match i, this with | 0, _ => rfl | 1, _ => rfl) (by simp) ⟨by decide, by simp⟩
theorem cell_at {w : World} {b o : Nat} {l : List UInt8} (hc : ∀ i (h : i < l.length), w.cell? ⟨b, o + i, none⟩ = some (.int .u8 (l[i].toNat : Int))) (i : Nat) (x : UInt8) (h : l[i]? = some x) : w.cell? ⟨b, o + i, none⟩ = some (.int .u8 (x.toNat : Int)) := by
  obtain ⟨hi, hx⟩ := List.getElem?_eq_some_iff.1 h
  rw [hc i hi, hx]

set_option maxRecDepth 100000 in
set_option maxHeartbeats 1000000 in
set_option maxHeartbeats 4000000 in
theorem awake05_any (w : World) : Calls Try.prog 27 #[] w fun e w' => e = .returned (.bool true) ∧ Keep [] w w' := by
  have kc := fun (w : World) (C : Array Value) (n c : Nat) => Lib.run_convert_bytes_const (P := Try.prog) w 30 5 C n c Try.underlying30 Try.underlying5
  have hR := room_any 96
  rw [if_pos (by omega), show (96 : Int) - 19 = 77 from rfl] at hR
  obtain ⟨f0, f1, f3, f7, f15⟩ := lb96
  obtain ⟨e1, e2, e3, e4, e5, hok, hlen⟩ := leaf_back 96 2 5 7 [104, 105] (by rfl) (by decide)
  have hB := lbuild_any 96 2 5 7 (by decide) _ _ _ (bytes_two w 104 105 104 105 rfl rfl (2, 3))
  rw [if_pos (by rfl), show lcode 96 2 5 7 [(104 : UInt8), 105].length = 0 from rfl] at hB
  simp only [show (96 : Int).toNat = 96 from rfl, show (2 : Int).toNat = 2 from rfl, show (5 : Int).toNat = 5 from rfl, show (7 : Int).toNat = 7 from rfl] at hB
  generalize lbuild 96 2 5 7 [104, 105] = L at hB f0 f1 f3 f7 f15 e1 e2 e3 e4 e5 hok hlen
  have hK0 := (Keep.refl [] w).alloc (.cells #[.int .u8 104, .int .u8 105] 5 (2, 3))
  have HOK := Lib.hid hok
  have H5 := Lib.hid e5
  have H1 := Lib.hid e1
  have H3 := Lib.hid e3
  have H4 := Lib.hid e4
  have HL := Lib.hid hlen
  have F0 := Lib.hid f0
  have F1 := Lib.hid f1
  have F3 := Lib.hid f3
  have F7 := Lib.hid f7
  have F15 := Lib.hid f15
  clear hok e1 e2 e3 e4 e5 hlen f0 f1 f3 f7 f15
  go_enter Try.func27, Try.ntmps27
  go_wp2_with fail
  refine hB.mono ?_
  rintro e w1 ⟨v1, rfl, o1, k1⟩
  have hK1 := hK0.trans k1
  clear hB kc k1 hK0
  have b1 := o1.bytes (by rw [HL.out]; decide)
  have hRd := leafRead_in v1 L w1 b1 (by rw [HL.out]; decide)
  go_wp2_with fail
  refine hRd.mono ?_
  rintro e w2 ⟨k2, hor⟩
  obtain ⟨v2, rfl, b2⟩ : ∃ v, e = .returned (.tuple #[.agg #[.int .i64 2, .int .i64 5, .int .i64 7, v], .int .i64 0]) ∧ Bytes w2 v [104, 105] := by
    rcases hor with ⟨-, v, h1, h2⟩ | ⟨h, -⟩
    · rw [H1.out, H3.out, H4.out] at h1
      rw [H5.out] at h2
      exact ⟨v, h1, h2⟩
    · exact absurd HOK.out h
  have hK2 := hK1.trans k2
  have b1' := b1.keep k2 (by simp)
  obtain ⟨ao, cap, rfl, -⟩ := b2.form
  have hk3 := (Keep.refl [] w2).alloc (.cells #[.int .i64 2, .int .i64 5, .int .i64 7, .slice ao [(104 : UInt8), 105].length cap] 39)
  have b1'' := b1'.keep hk3 (by simp)
  have q := run_str (P := Try.prog) 30 9 5 Try.underlying30 Try.underlying5 Try.underlying9 (b2.keep hk3 (by simp))
  obtain ⟨ab, cb, rfl, hcb, -⟩ := b1''.form
  obtain ⟨bb, ob, rfl, -, hc⟩ := b1''.spot (by rw [HL.out]; decide)
  have c0 := cell_at hc 0 2 F0.out
  have c1 := cell_at hc 1 2 F1.out
  have c3 := cell_at hc 3 5 F3.out
  have c7 := cell_at hc 7 7 F7.out
  have c15 := cell_at hc 15 104 F15.out
  rw [HL.out] at hcb
  have hL96 := HL.out
  rw [hL96]
  clear hRd hor b1 b1' b1'' b2 o1 k2 hK1 hc hk3 hL96
  simp at c0 c1 c3 c7 c15 q
  go_wp2_with fail
  refine (hR _).mono ?_
  rintro e w3 ⟨rfl, rfl⟩
  go_wp2_with fail
  go_ret
  exact ⟨rfl, hK2.alloc _⟩
end Go.Proofs.Ytijljdcpajjhhaa
