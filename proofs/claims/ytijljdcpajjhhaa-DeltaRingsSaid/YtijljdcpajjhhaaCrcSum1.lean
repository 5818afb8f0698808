import Derived.Test.YtijljdcpajjhhaaCrcMore
import Derived.Lib.SlBytesConst
/-! The walks of crc.Add, Sum. -/
namespace Go.Proofs.Ytijljdcpajjhhaa
open Go.RowKit Go.Shelf Sg

theorem Pieces_one (w : World) (ao : Option Addr) (cap : Nat) (l : List UInt8) (h : Bytes w (.slice ao l.length cap) l) (W : World) (k : Keep [] w W) (g : Nat)
    (hg : W.heap[g]? = some (.cells #[.slice ao l.length cap] 30 (0, 0))) : Pieces W (.slice (some ⟨g, 0, none⟩) 1 1) [(.slice ao l.length cap, l)] := by
  refine ⟨some ⟨g, 0, none⟩, 1, rfl, by simp, ⟨by decide, by simp⟩, by simp, ?_⟩
  intro ad e i hi
  cases e
  obtain rfl : i = 0 := by simpa using hi
  refine ⟨?_, h.keep k (by simp)⟩
  rw [Addr.add_zero']
  exact cell_of_one hg

set_option maxRecDepth 100000 in
set_option maxHeartbeats 400000 in
theorem add_any (s : Nat) (hs : s < 4294967296) (v : Value) (l : List UInt8) (w : World) (hv : Bytes w v l) :
    Calls Try.prog 148 #[.int .u32 s, v] w fun e w' => e = .returned (.int .u32 (neg32 (Crc.run (neg32 s) (nats l)) : Int)) ∧ Keep [] w w' := by
  obtain ⟨ao, cap, rfl, -, hm, -⟩ := hv.form
  go_enter Try.func148, Try.ntmps148
  go_wp2_with fail
  refine (more_any s hs _ _ _ (Pieces_one w ao cap l hv _ ((Keep.refl [] w).alloc _) w.heap.size (heap_alloc_new _ _))).mono ?_
  rintro e w' ⟨rfl, hk⟩
  go_wp2_with fail
  go_ret
  refine ⟨?_, ((Keep.refl [] w).alloc _).trans hk⟩
  have e : flat [(Value.slice ao l.length cap, l)] = l := by simp [flat]
  rw [e]
  rfl

theorem neg_zero : (neg32 0) = 4294967295 := rfl

set_option maxRecDepth 100000 in
set_option maxHeartbeats 400000 in
theorem sum_any (v : Value) (l : List UInt8) (w : World) (hv : Bytes w v l) :
    Calls Try.prog 127 #[v] w fun e w' => e = .returned (.int .u32 (Crc.sum (nats l) : Int)) ∧ Keep [] w w' := by
  obtain ⟨ao, cap, rfl, -, hm, -⟩ := hv.form
  go_enter Try.func127, Try.ntmps127
  go_wp2_with fail
  refine (add_any 0 (by decide) _ l _ hv).mono ?_
  rintro e w' ⟨rfl, hk⟩
  go_wp2_with fail
  go_ret
  exact ⟨rfl, hk⟩

end Go.Proofs.Ytijljdcpajjhhaa
