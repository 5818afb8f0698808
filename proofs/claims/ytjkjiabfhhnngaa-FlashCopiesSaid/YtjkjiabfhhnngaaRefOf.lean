import Derived.Test.YtjkjiabfhhnngaaReader
/-! The walk of the document's Of. -/
namespace Sg
open Go Go.RowKit
theorem Bytes.sub {w : World} {b o n cap : Nat} {l : List UInt8} (h : Bytes w (.slice (some ⟨b, o, none⟩) n cap) l) {f t : Nat} (h1 : f < cap) (h2 : f ≤ t) (h3 : t ≤ l.length) : Bytes w (.slice (some ⟨b, o + f, none⟩) (t - f) (cap - f)) ((l.drop f).take (t - f)) := by
  have hd := h.drop (k := f) (by omega)
  rw [if_neg (by omega)] at hd
  have e : (some (⟨b, o, none⟩ : Addr)).map (·.add f) = some ⟨b, o + f, none⟩ := by simp [Addr.add_lit]
  rw [e] at hd
  exact hd.take (by rw [List.length_drop]; omega)
end Sg
namespace Go.Proofs.Ytjkjiabfhhnngaa
open Go.RowKit Sg

set_option maxRecDepth 100000 in
set_option maxHeartbeats 1000000 in
theorem refOf_any (x : Value) (l : List UInt8) (w : World) (hx : Bytes w x l) (hl : l.length ≤ 8) : Calls Try.prog 105 #[x] w fun e w' => e = .returned (.int .u64 (leOf l : Int)) ∧ w = w' := by
  obtain ⟨ao, cap, rfl, hlc, hm, hcap⟩ := hx.form
  go_enter Try.func105, Try.ntmps105
  go_wp2
  go_loop [3, 4] (fun x i => ∃ (m : Nat) (i0 : Int), -1 ≤ i0 ∧ i0 < l.length ∧ i = .int .i64 i0 ∧ x = .int .u64 m ∧ Hid (m = leOf (l.drop (i0 + 1).toNat))) (fun _ i => (intOf i + 1).toNat)
  case atStart => exact ⟨0, (l.length : Int) - 1, by omega, by omega, rfl, rfl, by simp [Hid, leOf]⟩
  case round =>
    obtain ⟨m, i0, h1, h2, rfl, rfl, hmm⟩ := hrel
    by_cases h0 : 0 ≤ i0
    · obtain ⟨k, rfl⟩ : ∃ k : Nat, i0 = (k : Int) := ⟨i0.toNat, by omega⟩
      have hk : k < l.length := by omega
      obtain ⟨b, o, rfl, -, hc⟩ := hx.spot (by omega)
      have hck := hc k hk
      have hlt := leOf_lt (l.drop k)
      have hn : leOf (l.drop k) = 256 * m + l[k].toNat := by
        rw [List.drop_eq_getElem_cons hk, leOf, hmm.out]
        have : ((k : Int) + 1).toNat = k + 1 := by omega
        rw [this]; omega
      have h64 : leOf (l.drop k) < 18446744073709551616 := by
        refine Nat.lt_of_lt_of_le hlt ?_
        have : (256 : Nat) ^ (l.drop k).length ≤ 256 ^ 8 := Nat.pow_le_pow_right (by omega) (by rw [List.length_drop]; omega)
        simpa using this
      obtain ⟨m', hm'⟩ : ∃ m', leOf (l.drop k) = m' := ⟨_, rfl⟩
      rw [hm'] at hn h64
      have q1 : IntKind.u64.wrap (256 * (m : Int)) = 256 * (m : Int) := by rw [u64_wrap]; omega
      have q2 : IntKind.u64.wrap (256 * (m : Int) + (l[k].toNat : Int)) = (m' : Int) := by rw [u64_wrap]; omega
      have q3 : IntKind.u64.wrap (l[k].toNat : Int) = (l[k].toNat : Int) := by rw [u64_wrap]; have := l[k].toNat_lt; omega
      have HM := Lib.hid hm'
      clear hm' hlt h64 hn hc
      go_wp2
      go_round
      case rel => exact ⟨m', (k : Int) - 1, by omega, by omega, rfl, by first | rfl | (rw [q2]), by show _ = _; rw [show ((k : Int) - 1 + 1).toNat = k by omega, HM.out]⟩
      case measure => simp [intOf]
    · obtain rfl : i0 = -1 := by omega
      go_wp2
      go_ret
      refine ⟨?_, rfl⟩
      have := hmm.out
      simp at this
      subst this
      rfl
end Go.Proofs.Ytjkjiabfhhnngaa
