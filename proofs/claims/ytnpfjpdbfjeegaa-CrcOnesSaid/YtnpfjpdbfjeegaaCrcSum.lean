import Derived.Test.YtnpfjpdbfjeegaaCrcMore
import Derived.Lib.SlBytesConst
/-! The walks of crc.Add, Sum, Pieces, and of the laws' awake. -/
namespace Go.Proofs.Ytnpfjpdbfjeegaa
open Go.RowKit Go.Shelf Sg

theorem Pieces_one (w : World) (ao : Option Addr) (cap : Nat) (l : List UInt8) (h : Bytes w (.slice ao l.length cap) l) (W : World) (k : Keep [] w W) (g : Nat)
    (hg : W.heap[g]? = some (.cells #[.slice ao l.length cap] 22 (0, 0))) : Pieces W (.slice (some ⟨g, 0, none⟩) 1 1) [(.slice ao l.length cap, l)] := by
  refine ⟨some ⟨g, 0, none⟩, 1, rfl, by simp, ⟨by decide, by simp⟩, by simp, ?_⟩
  intro ad e i hi
  cases e
  obtain rfl : i = 0 := by simpa using hi
  refine ⟨?_, h.keep k (by simp)⟩
  rw [Addr.add_zero']
  exact cell_of_one hg

set_option maxRecDepth 100000 in
set_option maxHeartbeats 400000 in
theorem add_any (s : Nat) (hs : s < 4294967296) (v : Value) (l : List UInt8) (w : World) (hv : Bytes w v l) :
    Calls Try.prog 14 #[.int .u32 s, v] w fun e w' => e = .returned (.int .u32 (neg32 (Crc.run (neg32 s) (nats l)) : Int)) ∧ Keep [] w w' := by
  obtain ⟨ao, cap, rfl, -, hm, -⟩ := hv.form
  go_enter Try.func14, Try.ntmps14
  go_wp2_with fail
  refine (more_any s hs _ _ _ (Pieces_one w ao cap l hv _ ((Keep.refl [] w).alloc _) w.heap.size (heap_alloc_new _ _))).mono ?_
  rintro e w' ⟨rfl, hk⟩
  go_wp2_with fail
  go_ret
  refine ⟨?_, ((Keep.refl [] w).alloc _).trans hk⟩
  have e : flat [(Value.slice ao l.length cap, l)] = l := by simp [flat]
  rw [e]
  rfl

theorem neg_zero : (neg32 0) = 4294967295 := rfl

set_option maxRecDepth 100000 in
set_option maxHeartbeats 400000 in
theorem sum_any (v : Value) (l : List UInt8) (w : World) (hv : Bytes w v l) :
    Calls Try.prog 10 #[v] w fun e w' => e = .returned (.int .u32 (Crc.sum (nats l) : Int)) ∧ Keep [] w w' := by
  obtain ⟨ao, cap, rfl, -, hm, -⟩ := hv.form
  go_enter Try.func10, Try.ntmps10
  go_wp2_with fail
  refine (add_any 0 (by decide) _ l _ hv).mono ?_
  rintro e w' ⟨rfl, hk⟩
  go_wp2_with fail
  go_ret
  exact ⟨rfl, hk⟩

set_option maxRecDepth 100000 in
set_option maxHeartbeats 400000 in
theorem pieces_any (v : Value) (ps : List (Value × List UInt8)) (w : World) (hv : Pieces w v ps) :
    Calls Try.prog 15 #[v] w fun e w' => e = .returned (.int .u32 (Crc.sum (nats (flat ps)) : Int)) ∧ Keep [] w w' := by
  obtain ⟨ao, cap, rfl, -⟩ := id hv
  go_enter Try.func15, Try.ntmps15
  go_wp2_with fail
  refine (more_any 0 (by decide) _ ps _ hv).mono ?_
  rintro e w' ⟨rfl, hk⟩
  go_wp2_with fail
  go_ret
  exact ⟨rfl, hk⟩

def nine : List UInt8 := [49, 50, 51, 52, 53, 54, 55, 56, 57]
theorem sum_nine : Crc.sum (nats nine) = 3808858755 := by decide +kernel

set_option maxRecDepth 100000 in
set_option maxHeartbeats 400000 in
theorem awake_any (w : World) : Calls Try.prog 13 #[] w fun e w' => e = .returned (.bool true) ∧ Keep [] w w' := by
  have kc := fun (w : World) (C : Array Value) (n c : Nat) => Lib.run_convert_bytes_const (P := Try.prog) w 22 5 C n c Try.underlying22 Try.underlying5
  go_enter Try.func13, Try.ntmps13
  go_wp2_with fail
  have hn0 := sum_nine
  have hz0 : Crc.sum (nats []) = 0 := by decide +kernel
  refine (sum_any _ nine _ (Bytes.row (l := nine) (cap := 9) (World.alloc_heap_new w _) (by intro i hi; have : i < 9 := hi; match i, this with | 0, _ => rfl | 1, _ => rfl | 2, _ => rfl | 3, _ => rfl | 4, _ => rfl | 5, _ => rfl | 6, _ => rfl | 7, _ => rfl | 8, _ => rfl) (by decide) ⟨by decide, by decide⟩)).mono ?_
  rintro e w1 ⟨rfl, hk⟩
  have hk1 := ((Keep.refl [] w).alloc _).trans hk
  clear hk kc
  go_wp2_with fail
  refine (sum_any _ [] _ (Bytes.nil _)).mono ?_
  rintro e w2 ⟨rfl, hk2⟩
  go_wp2_with fail
  go_ret
  exact ⟨rfl, hk1.trans hk2⟩
end Go.Proofs.Ytnpfjpdbfjeegaa
