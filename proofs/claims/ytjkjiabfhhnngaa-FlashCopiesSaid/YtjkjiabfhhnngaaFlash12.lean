import Derived.Test.YtjkjiabfhhnngaaFlash11
/-! The chapter's bytes and did. -/
namespace Go.Proofs.Ytjkjiabfhhnngaa
open Go.RowKit Sg
set_option linter.unusedSimpArgs false
set_option linter.unusedVariables false


theorem u8_succ (b : UInt8) : IntKind.u8.wrap ((b.toNat : Int) + 1) = ((b + 1).toNat : Int) := by
  rw [u8_wrap, UInt8.toNat_add]
  have := b.toNat_lt
  simp
set_option maxRecDepth 100000 in
set_option maxHeartbeats 1000000 in
set_option maxHeartbeats 2000000 in
theorem bytes_any (kd at_ ln : Int) (b : UInt8) (fv : Value) (size : Nat) (hs : size ≤ 512) (w : World) (hf : ∃ a n c, fv = .slice a n c) :
    Calls Try.prog 28 #[.agg #[.int .i64 kd, .int .i64 at_, .int .i64 ln, .int .u8 (b.toNat : Int), fv], .int .i64 (size : Int)] w fun e w' => ∃ v l, e = .returned v ∧ OwnB w' w.heap.size 5 v l ∧ l.length ≤ 600 ∧ Keep [] w w' := by
  obtain ⟨fa, fn, fc, rfl⟩ := hf
  have hu := u8_succ b
  have hA := (Keep.refl [] w).alloc (.cells #[.int .i64 kd, .int .i64 at_, .int .i64 ln, .int .u8 (b.toNat : Int), .slice fa fn fc] 37)
  have hB := heap_alloc_new w (.cells #[.int .i64 kd, .int .i64 at_, .int .i64 ln, .int .u8 (b.toNat : Int), .slice fa fn fc] 37)
  have h3 := fun w' (h : Keep [] (w.alloc (.cells #[.int .i64 kd, .int .i64 at_, .int .i64 ln, .int .u8 (b.toNat : Int), .slice fa fn fc] 37)) w') => cell_of_row w' _ 3 _ _ _ (h.blk (by simp) hB)
  simp at h3
  have H3 := Lib.hid h3
  have HA := Lib.hid hA
  clear h3 hA hB
  by_cases hn0 : ln < 0
  · skip
    have hfull := full_any b size (by omega) (w.alloc (.cells #[.int .i64 kd, .int .i64 at_, .int .i64 ln, .int .u8 (b.toNat : Int), .slice fa fn fc] 37))
    go_enter Try.func28, Try.ntmps28
    go_wp2_with fail
    refine hfull.mono ?_
    rintro e w2 ⟨v2, rfl, ho2, hk2⟩
    obtain ⟨va, vc, rfl⟩ := ownsRow_form ho2
    rw [List.length_replicate] at ho2
    have hbase := ho2.base (base' := w.heap.size) (by simp)
    have hkk := HA.out.trans hk2
    have c3 := H3.out _ hk2
    clear hfull
    by_cases h1 : 1 < size
    · obtain ⟨g2, rfl, hgw⟩ : ∃ g, va = some ⟨g, 0, none⟩ ∧ w.heap.size ≤ g := by
        rcases hbase.2 with ⟨-, h0⟩ | ⟨g', cp, cur, e, hb, -⟩
        · simp at h0; omega
        · injection e with e1 _ _
          exact ⟨_, e1, hb⟩
      have hjl : size - 1 < (List.replicate size b).length := by simp; omega
      have hfree := ho2.free (size - 1)
      have hcell := ho2.cell hjl
      rw [List.getElem_replicate] at hcell
      have hset := hbase.setCell hjl (b + 1)
      have HS := Lib.hid (And.intro hset (hkk.setCell (p := ⟨g2, size - 1, none⟩) (.inr hgw) (u8v (b + 1))))
      have q0 : (1 : Int) < (size : Int) := by omega
      have q1 : ((size : Int) - 1).toNat = size - 1 := by omega
      have q2 : (0 : Int) ≤ (size : Int) - 1 := by omega
      have q3 : (size : Int) - 1 < (size : Int) := by omega
      have q4 : IntKind.i64.wrap ((size : Int) - 1) = (size : Int) - 1 := i64_wrap (by omega) (by omega)
      clear hset ho2 hbase hk2 hjl
      go_wp2
      go_ret
      exact ⟨_, _, rfl, HS.out.1, by simp; omega, HS.out.2⟩
    · have q0 : ¬ (1 : Int) < (size : Int) := by omega
      have HS := Lib.hid (And.intro hbase hkk)
      clear ho2 hbase
      go_wp2
      go_ret
      exact ⟨_, _, rfl, HS.out.1, by simp; omega, HS.out.2⟩
  by_cases hn1 : 600 < ln
  · skip
    have hfull := full_any b size (by omega) (w.alloc (.cells #[.int .i64 kd, .int .i64 at_, .int .i64 ln, .int .u8 (b.toNat : Int), .slice fa fn fc] 37))
    go_enter Try.func28, Try.ntmps28
    go_wp2_with fail
    refine hfull.mono ?_
    rintro e w2 ⟨v2, rfl, ho2, hk2⟩
    obtain ⟨va, vc, rfl⟩ := ownsRow_form ho2
    rw [List.length_replicate] at ho2
    have hbase := ho2.base (base' := w.heap.size) (by simp)
    have hkk := HA.out.trans hk2
    have c3 := H3.out _ hk2
    clear hfull
    by_cases h1 : 1 < size
    · obtain ⟨g2, rfl, hgw⟩ : ∃ g, va = some ⟨g, 0, none⟩ ∧ w.heap.size ≤ g := by
        rcases hbase.2 with ⟨-, h0⟩ | ⟨g', cp, cur, e, hb, -⟩
        · simp at h0; omega
        · injection e with e1 _ _
          exact ⟨_, e1, hb⟩
      have hjl : size - 1 < (List.replicate size b).length := by simp; omega
      have hfree := ho2.free (size - 1)
      have hcell := ho2.cell hjl
      rw [List.getElem_replicate] at hcell
      have hset := hbase.setCell hjl (b + 1)
      have HS := Lib.hid (And.intro hset (hkk.setCell (p := ⟨g2, size - 1, none⟩) (.inr hgw) (u8v (b + 1))))
      have q0 : (1 : Int) < (size : Int) := by omega
      have q1 : ((size : Int) - 1).toNat = size - 1 := by omega
      have q2 : (0 : Int) ≤ (size : Int) - 1 := by omega
      have q3 : (size : Int) - 1 < (size : Int) := by omega
      have q4 : IntKind.i64.wrap ((size : Int) - 1) = (size : Int) - 1 := i64_wrap (by omega) (by omega)
      clear hset ho2 hbase hk2 hjl
      go_wp2
      go_ret
      exact ⟨_, _, rfl, HS.out.1, by simp; omega, HS.out.2⟩
    · have q0 : ¬ (1 : Int) < (size : Int) := by omega
      have HS := Lib.hid (And.intro hbase hkk)
      clear ho2 hbase
      go_wp2
      go_ret
      exact ⟨_, _, rfl, HS.out.1, by simp; omega, HS.out.2⟩
  obtain ⟨n, rfl⟩ : ∃ n : Nat, ln = (n : Int) := ⟨ln.toNat, by omega⟩
  have hn2 : n ≤ 600 := by omega
  have hfull := full_any b n (by omega) (w.alloc (.cells #[.int .i64 kd, .int .i64 at_, .int .i64 (n : Int), .int .u8 (b.toNat : Int), .slice fa fn fc] 37))
  go_enter Try.func28, Try.ntmps28
  go_wp2_with fail
  refine hfull.mono ?_
  rintro e w2 ⟨v2, rfl, ho2, hk2⟩
  obtain ⟨va, vc, rfl⟩ := ownsRow_form ho2
  rw [List.length_replicate] at ho2
  have hbase := ho2.base (base' := w.heap.size) (by simp)
  have hkk := HA.out.trans hk2
  have c3 := H3.out _ hk2
  clear hfull
  by_cases h1 : 1 < n
  · obtain ⟨g2, rfl, hgw⟩ : ∃ g, va = some ⟨g, 0, none⟩ ∧ w.heap.size ≤ g := by
      rcases hbase.2 with ⟨-, h0⟩ | ⟨g', cp, cur, e, hb, -⟩
      · simp at h0; omega
      · injection e with e1 _ _
        exact ⟨_, e1, hb⟩
    have hjl : n - 1 < (List.replicate n b).length := by simp; omega
    have hfree := ho2.free (n - 1)
    have hcell := ho2.cell hjl
    rw [List.getElem_replicate] at hcell
    have hset := hbase.setCell hjl (b + 1)
    have HS := Lib.hid (And.intro hset (hkk.setCell (p := ⟨g2, n - 1, none⟩) (.inr hgw) (u8v (b + 1))))
    have q0 : (1 : Int) < (n : Int) := by omega
    have q1 : ((n : Int) - 1).toNat = n - 1 := by omega
    have q2 : (0 : Int) ≤ (n : Int) - 1 := by omega
    have q3 : (n : Int) - 1 < (n : Int) := by omega
    have q4 : IntKind.i64.wrap ((n : Int) - 1) = (n : Int) - 1 := i64_wrap (by omega) (by omega)
    clear hset ho2 hbase hk2 hjl
    go_wp2
    go_ret
    exact ⟨_, _, rfl, HS.out.1, by simp; omega, HS.out.2⟩
  · have q0 : ¬ (1 : Int) < (n : Int) := by omega
    have HS := Lib.hid (And.intro hbase hkk)
    clear ho2 hbase
    go_wp2
    go_ret
    exact ⟨_, _, rfl, HS.out.1, by simp; omega, HS.out.2⟩
end Go.Proofs.Ytjkjiabfhhnngaa
