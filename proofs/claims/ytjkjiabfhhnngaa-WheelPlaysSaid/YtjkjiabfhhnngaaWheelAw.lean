import Derived.Test.YtjkjiabfhhnngaaWheel8
/-! The chapter's awake. -/
namespace Go.Proofs.Ytjkjiabfhhnngaa
open Go.RowKit Go.Shelf Sg
set_option linter.unusedSimpArgs false
set_option linter.unusedVariables false

theorem RowE.lens {α : Type} {enc : α → List Value} {k : Nat} {t : TypeId} {w : World} {base : Nat} {v : Value} {l : List α} (h : RowE enc k t w base v l) {n : Nat} (hn : l.length = n) : ∃ a c, v = .slice a n c := by
  obtain ⟨a, c, e⟩ := h.form
  exact ⟨a, c, by rw [e, hn]⟩

set_option maxRecDepth 100000 in
set_option maxHeartbeats 1000000 in
set_option maxHeartbeats 4000000 in
theorem awake24_any (w : World) : Calls Try.prog 68 #[] w fun e w' => e = .returned (.bool true) ∧ Keep [] w w' := by
  have cN := newWheel_any w
  go_enter Try.func68, Try.ntmps68
  go_wp2_with fail
  refine cN.mono ?_
  clear cN
  rintro e w1 ⟨g, D, rfl, hv1, hD, hk1⟩
  have hp1 : Calls Try.prog 64 #[.pointer (some ⟨g, 0, none⟩), .int .i64 1, .int .i64 5] w1 _ := put_any w1 D g Wm.new hv1 1 5 (by decide) (by decide)
  rw [show Wm.new.put 1 5 = ({ time := 0, ths := [(1, 5)] }, 0) from rfl] at hp1
  go_wp2_with fail
  refine hp1.mono ?_
  clear hp1
  rintro e w2 ⟨rfl, hv2, hk2⟩
  have hp2 : Calls Try.prog 64 #[.pointer (some ⟨g, 0, none⟩), .int .i64 2, .int .i64 3] w2 _ := put_any w2 D g _ hv2 2 3 (by decide) (by decide)
  rw [show Wm.put { time := 0, ths := [(1, 5)] } 2 3 = ({ time := 0, ths := [(2, 3), (1, 5)] }, 0) from rfl] at hp2
  go_wp2_with fail
  refine hp2.mono ?_
  clear hp2
  rintro e w3 ⟨rfl, hv3, hk3⟩
  have hg1 : Calls Try.prog 65 #[.pointer (some ⟨g, 0, none⟩), .int .i64 4] w3 _ := go_any w3 D g _ hv3 4 (by decide)
  rw [show Wm.go { time := 0, ths := [(2, 3), (1, 5)] } 4 = ({ time := 4, ths := [(1, 5)] }, [(2, 3)], 0) from rfl] at hg1
  go_wp2_with fail
  refine hg1.mono ?_
  clear hg1
  rintro e w4 ⟨v4, rfl, hr4, hv4, hk4⟩
  have hg2 : Calls Try.prog 65 #[.pointer (some ⟨g, 0, none⟩), .int .i64 1] w4 _ := go_any w4 D g _ hv4 1 (by decide)
  rw [show Wm.go { time := 4, ths := [(1, 5)] } 1 = ({ time := 5, ths := [] }, [(1, 5)], 0) from rfl] at hg2
  obtain ⟨a4, c4, rfl⟩ := RowE.lens hr4 (n := 1) rfl
  go_wp2_with fail
  refine hg2.mono ?_
  clear hg2
  rintro e w5 ⟨v5, rfl, hr5, hv5, hk5⟩
  obtain ⟨a5, c5, rfl⟩ := RowE.lens hr5 (n := 1) rfl
  have hlt1 : ∀ b ∈ D, b < w1.heap.size := hv1.lt
  have s2 := hk2.size
  have s3 := hk3.size
  have hr45 := hr4.keep hk5 (fun b hb hm => by
    have h1 := (hr4.lt b hb).1
    have h2 := hlt1 b hm
    omega)
  obtain ⟨g4, rfl, -, q4⟩ := RowE.cells dueLies hr45 (i := 0) (by decide)
  obtain ⟨g5, rfl, -, q5⟩ := RowE.cells dueLies hr5 (i := 0) (by decide)
  have x0 : w5.cell? ⟨g4, 0, none⟩ = some (.int .i64 2) := by simpa using q4 0 (.int .i64 2) rfl
  have x1 : w5.cell? ⟨g4, 1, none⟩ = some (.int .i64 3) := by simpa using q4 1 (.int .i64 3) rfl
  have y0 : w5.cell? ⟨g5, 0, none⟩ = some (.int .i64 1) := by simpa using q5 0 (.int .i64 1) rfl
  have ht := time_any w5 D g _ hv5
  have hkk : Keep [] w w5 := hk1.trans' (((hk2.trans hk3).trans hk4).trans hk5) (fun b hb => .inr (hD b hb))
  have HK := Lib.hid hkk
  clear q4 q5 hr45 hr4 hr5 hkk hk1 hk2 hk3 hk4 hk5 hv1 hv2 hv3 hv4 hlt1 s2 s3 hD
  go_wp2_with fail
  refine ht.mono ?_
  clear ht
  rintro e w6 ⟨rfl, rfl⟩
  clear x0 x1 y0
  go_wp2
  go_ret
  exact ⟨rfl, HK.out⟩
end Go.Proofs.Ytjkjiabfhhnngaa
