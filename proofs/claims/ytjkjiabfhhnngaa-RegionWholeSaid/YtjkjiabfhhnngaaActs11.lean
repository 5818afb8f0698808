import Derived.Test.YtjkjiabfhhnngaaRegLaw
import Derived.Test.YtjkjiabfhhnngaaOpenF
/-! The walk of the chapter's own words on regions: awake. -/
namespace Go.Proofs.Ytjkjiabfhhnngaa
open Go.RowKit Sg
set_option linter.unusedSimpArgs false
set_option linter.unusedVariables false

theorem len_rep (n : Nat) : ((List.replicate n (0 : UInt8)).length : Int) = (n : Int) := by simp
theorem new_acts (n sz : Nat) : (Dev.new n sz).acts = 0 := rfl
theorem lg0_last (p : Pl) : (lg0 p).last = 0 := rfl
theorem lg0_at (p : Pl) : (lg0 p).at_ = (lcOf p).S * (lcOf p).rm := rfl

set_option maxRecDepth 100000 in
set_option maxHeartbeats 1000000 in
set_option maxHeartbeats 4000000 in
theorem awake11_any (w : World) : Calls Try.prog 58 #[] w fun e w' => e = .returned (.bool true) ∧ Keep [] w w' := by
  have cN : Calls Try.prog 13 #[.int .i64 60, .int .i64 96] w _ := newDev_any 60 96 (by decide) w
  have q1 : (lcOf smallP).R = 3 := rfl
  have q2 : (lcOf smallP).S * (lcOf smallP).rm = 154 := rfl
  have q3 : (lg0 smallP).at_ = 154 := rfl
  have q4 : (lg0 smallP).last = 0 := rfl
  have cF := fun w2 (k : Keep [] w w2) D g h hD => format_ok (W := w) (X := []) w2 k (D := D) (g := g) (n := 60) (sz := 96) h hD (by simp) smallP small_on
  generalize lcOf smallP = c at *
  generalize lg0 smallP = l0 at *
  have HF := Lib.hid cF
  clear cF
  go_enter Try.func58, Try.ntmps58
  go_wp2_with fail
  refine cN.mono ?_
  rintro e w1 ⟨g, D, rfl, hD, hk1, hf⟩
  clear cN
  go_wp2_with fail
  refine (small_any w1).mono ?_
  rintro e w2 ⟨rfl, hk2⟩
  have hFF := HF.out w2 (hk1.trans hk2) D g (hD.keep hk2 (by simp)) (fun b hb => ⟨hf b hb, by simp⟩)
  clear HF hD hf hk1 hk2
  go_wp2_with fail
  refine hFF.mono ?_
  clear hFF
  rintro e w3 ⟨gl, rfl, h3, -⟩
  go_wp2_with (refine wpList_make_bytes rfl (.const (.int .i64 100)) (.const (.int .i64 100)) 42 5 rfl 0 Try.underlying42 (by kernel_rfl) .i64 .i64 (n := 100) rfl rfl (by omega) (Nat.zero_le _) ?_)
  intro y1 oy1 ky1 sy1
  have g1 := h3.add ky1 (x := w3.heap.size) (by simp) (by simpa using sy1)
  obtain ⟨B1, lB1, ob1⟩ : ∃ B : List UInt8, B.length = 100 ∧ OwnB y1 0 5 _ B := ⟨List.replicate 100 0, by simp, oy1⟩
  clear oy1 h3
  have ac0 : (Dev.new 60 96).acts = 0 := rfl
  generalize Dev.new 60 96 = m0 at *
  generalize (fun _ => ([] : List (List UInt8))) = F0 at *
  have cA := append_ok y1 g1 (by omega) (by omega) _ _ (ob1.bytes (by omega)) (fun x hx => by cases hx; simp) (by omega) (by omega)
  clear ob1
  go_wp2_with fail
  refine cA.mono ?_
  clear cA
  rintro e w15 ⟨l1, m1, F1, a1, rfl, st1, h15, k15⟩
  have e1 : l1.last = 1 ∧ a1 = 0 ∧ l1.at_ = 100 ∧ m1.acts ≤ 101 ∧ l1.last = l0.last + 1 := by have h1 := st1.way; have h2 := st1.at_; have h3 := st1.acts; omega
  obtain ⟨e1, ea1, et1, ac1, en1⟩ := e1
  have ln1 : (cont F1 l1 1).length = 100 := by have := st1.len; rw [e1, ea1] at this; omega
  rw [show (l1.last : Int) = 1 by omega, show (a1 : Int) = 0 by omega, show (B1.length : Int) = 100 by omega]
  clear g1 k15 st1
  have A1 := heap_alloc_new w15 (.cells #[.int .i64 1, .int .i64 0, .int .i64 100] 103)
  have h16 := h15.add ((Keep.refl [] w15).alloc (.cells #[.int .i64 1, .int .i64 0, .int .i64 100] 103)) (Nat.le_refl _) (by simp)
  clear h15
  go_wp2_with (refine wpList_make_bytes rfl (.const (.int .i64 60)) (.const (.int .i64 60)) 42 5 rfl 0 Try.underlying42 (by kernel_rfl) .i64 .i64 (n := 60) rfl rfl (by omega) (Nat.zero_le _) ?_)
  intro y2 oy2 ky2 sy2
  have g2 := h16.add ky2 (x := w15.heap.size + 1) (by simp) (by simpa using sy2)
  obtain ⟨B2, lB2, ob2⟩ : ∃ B : List UInt8, B.length = 60 ∧ OwnB y2 0 5 _ B := ⟨List.replicate 60 0, by simp, oy2⟩
  clear oy2 h16
  have A1y := ky2.blk (by simp) A1
  clear A1 ky2
  have cA := append_ok y2 g2 (by omega) (by omega) _ _ (ob2.bytes (by omega)) (fun x hx => by cases hx; simp) (by omega) (by omega)
  clear ob2
  go_wp2_with fail
  refine cA.mono ?_
  clear cA
  rintro e w25 ⟨l2, m2, F2, a2, rfl, st2, h25, k25⟩
  have e2 : l2.last = 2 ∧ a2 = 0 ∧ l2.at_ = 60 ∧ m2.acts ≤ 162 ∧ l2.last = l1.last + 1 := by have h1 := st2.way; have h2 := st2.at_; have h3 := st2.acts; omega
  obtain ⟨e2, ea2, et2, ac2, en2⟩ := e2
  have ln2 : (cont F2 l2 2).length = 60 := by have := st2.len; rw [e2, ea2] at this; omega
  rw [show (l2.last : Int) = 2 by omega, show (a2 : Int) = 0 by omega, show (B2.length : Int) = 60 by omega]
  have ln21 : 100 ≤ (cont F2 l2 1).length := by have h1 := (st2.grow 1 (by omega)).length_le; omega
  have A1x := k25.blk (by simp) A1y
  clear g2 k25 st2 A1y
  have A2 := heap_alloc_new w25 (.cells #[.int .i64 2, .int .i64 0, .int .i64 60] 103)
  have h26 := h25.add ((Keep.refl [] w25).alloc (.cells #[.int .i64 2, .int .i64 0, .int .i64 60] 103)) (Nat.le_refl _) (by simp)
  clear h25
  have A1z := ((Keep.refl [] w25).alloc (.cells #[.int .i64 2, .int .i64 0, .int .i64 60] 103)).blk (by simp) A1x
  clear A1x
  go_wp2_with (refine wpList_make_bytes rfl (.const (.int .i64 150)) (.const (.int .i64 150)) 42 5 rfl 0 Try.underlying42 (by kernel_rfl) .i64 .i64 (n := 150) rfl rfl (by omega) (Nat.zero_le _) ?_)
  intro y3 oy3 ky3 sy3
  have g3 := h26.add ky3 (x := w25.heap.size + 1) (by simp) (by simpa using sy3)
  obtain ⟨B3, lB3, ob3⟩ : ∃ B : List UInt8, B.length = 150 ∧ OwnB y3 0 5 _ B := ⟨List.replicate 150 0, by simp, oy3⟩
  clear oy3 h26
  have A1y := ky3.blk (by simp) A1z
  have A2y := ky3.blk (by simp) A2
  clear A1z A2 ky3
  have cA := append_ok y3 g3 (by omega) (by omega) _ _ (ob3.bytes (by omega)) (fun x hx => by cases hx; simp) (by omega) (by omega)
  clear ob3
  go_wp2_with fail
  refine cA.mono ?_
  clear cA
  rintro e w35 ⟨l3, m3, F3, a3, rfl, st3, h35, k35⟩
  have e3 : l3.last = 3 ∧ a3 = 0 ∧ l3.at_ = 150 ∧ m3.acts ≤ 313 ∧ l3.last = l2.last + 1 := by have h1 := st3.way; have h2 := st3.at_; have h3 := st3.acts; omega
  obtain ⟨e3, ea3, et3, ac3, en3⟩ := e3
  have ln3 : (cont F3 l3 3).length = 150 := by have := st3.len; rw [e3, ea3] at this; omega
  rw [show (l3.last : Int) = 3 by omega, show (a3 : Int) = 0 by omega, show (B3.length : Int) = 150 by omega]
  have ln31 : 100 ≤ (cont F3 l3 1).length := by have h1 := (st3.grow 1 (by omega)).length_le; omega
  have ln32 : 60 ≤ (cont F3 l3 2).length := by have h1 := (st3.grow 2 (by omega)).length_le; omega
  have A1x := k35.blk (by simp) A1y
  have A2x := k35.blk (by simp) A2y
  clear g3 k35 st3 A1y A2y
  have c10 := cell_of_row _ _ 0 _ _ _ A1x
  have c11 := cell_of_row _ _ 1 _ _ _ A1x
  have c12 := cell_of_row _ _ 2 _ _ _ A1x
  simp at c10 c11 c12
  have cR := read_ok w35 h35 (by omega) 1 0 100
  have eR : c.read l3 m3 1 0 100 = (((cont F3 l3 1).drop 0).take 100, 0) := read_law h35.inv (q := 1) (at_ := 0) (size := 100) (by unfold Lc.oldest; omega) (by omega) (by omega)
  rw [eR] at cR
  clear eR
  go_wp2_with fail
  refine cR.mono ?_
  clear cR
  rintro e w4 ⟨v4, rfl, -, k4⟩
  have h4 := h35.keep k4
  have A1 := k4.blk (by simp) A1x
  have A2 := k4.blk (by simp) A2x
  clear A1x A2x c10 c11 c12 k4 h35
  go_wp2_with (refine wpList_make_bytes rfl (.const (.int .i64 150)) (.const (.int .i64 150)) 42 5 rfl 0 Try.underlying42 (by kernel_rfl) .i64 .i64 (n := 150) rfl rfl (by omega) (Nat.zero_le _) ?_)
  intro y4 oy4 ky4 sy4
  have g4 := h4.add ky4 (x := w4.heap.size) (by simp) (by simpa using sy4)
  obtain ⟨B4, lB4, ob4⟩ : ∃ B : List UInt8, B.length = 150 ∧ OwnB y4 0 5 _ B := ⟨List.replicate 150 0, by simp, oy4⟩
  clear oy4 h4
  have A1y := ky4.blk (by simp) A1
  have A2y := ky4.blk (by simp) A2
  clear A1 A2 ky4
  have cA := append_ok y4 g4 (by omega) (by omega) _ _ (ob4.bytes (by omega)) (fun x hx => by cases hx; simp) (by omega) (by omega)
  clear ob4
  go_wp2_with fail
  refine cA.mono ?_
  clear cA
  rintro e w45 ⟨l4, m4, F4, a4, rfl, st4, h45, k45⟩
  have e4 : l4.last = 4 ∧ a4 = 0 ∧ l4.at_ = 150 ∧ m4.acts ≤ 464 ∧ l4.last = l3.last + 1 := by have h1 := st4.way; have h2 := st4.at_; have h3 := st4.acts; omega
  obtain ⟨e4, ea4, et4, ac4, en4⟩ := e4
  have ln4 : (cont F4 l4 4).length = 150 := by have := st4.len; rw [e4, ea4] at this; omega
  rw [show (l4.last : Int) = 4 by omega, show (a4 : Int) = 0 by omega, show (B4.length : Int) = 150 by omega]
  have ln42 : 60 ≤ (cont F4 l4 2).length := by have h1 := (st4.grow 2 (by omega)).length_le; omega
  have A1x := k45.blk (by simp) A1y
  have A2x := k45.blk (by simp) A2y
  clear g4 k45 st4 A1y A2y
  have c10 := cell_of_row _ _ 0 _ _ _ A1x
  have c11 := cell_of_row _ _ 1 _ _ _ A1x
  have c12 := cell_of_row _ _ 2 _ _ _ A1x
  simp at c10 c11 c12
  have cR := read_ok w45 h45 (by omega) 1 0 100
  have eR : c.read l4 m4 1 0 100 = ([], 13) := read_gone l4 m4 (fun h => by have := h.1; unfold Lc.oldest at this; omega)
  rw [eR] at cR
  clear eR
  go_wp2_with fail
  refine cR.mono ?_
  clear cR
  rintro e w5 ⟨v5, rfl, -, k5⟩
  have h5 := h45.keep k5
  have A1 := k5.blk (by simp) A1x
  have A2 := k5.blk (by simp) A2x
  clear A1x A2x c10 c11 c12 k5 h45
  have c20 := cell_of_row _ _ 0 _ _ _ A2
  have c21 := cell_of_row _ _ 1 _ _ _ A2
  have c22 := cell_of_row _ _ 2 _ _ _ A2
  simp at c20 c21 c22
  have cR := read_ok w5 h5 (by omega) 2 0 60
  have eR : c.read l4 m4 2 0 60 = (((cont F4 l4 2).drop 0).take 60, 0) := read_law h5.inv (q := 2) (at_ := 0) (size := 60) (by unfold Lc.oldest; omega) (by omega) (by omega)
  obtain ⟨x6, lx6, ex6⟩ : ∃ x : List UInt8, x.length = 60 ∧ ((cont F4 l4 2).drop 0).take 60 = x := ⟨_, by rw [List.length_take, List.drop_zero]; omega, rfl⟩
  rw [eR, ex6] at cR
  clear eR
  go_wp2_with fail
  refine cR.mono ?_
  clear cR c20 c21 c22
  rintro e w6 ⟨v6, rfl, o6, k6⟩
  have h6 := h5.keep k6
  have A1x := k6.blk (by simp) A1
  have A2x := k6.blk (by simp) A2
  obtain ⟨va6, vc6, rfl⟩ := ownsRow_form o6
  clear A1 A2 k6 h5 o6
  rw [lx6]
  have c10 := cell_of_row _ _ 0 _ _ _ A1x
  have c11 := cell_of_row _ _ 1 _ _ _ A1x
  have c12 := cell_of_row _ _ 2 _ _ _ A1x
  have c20 := cell_of_row _ _ 0 _ _ _ A2x
  have c21 := cell_of_row _ _ 1 _ _ _ A2x
  have c22 := cell_of_row _ _ 2 _ _ _ A2x
  simp at c10 c11 c12 c20 c21 c22
  have cO := oldest_ok w6 h6
  rw [show c.oldest l4 = 2 by unfold Lc.oldest; omega] at cO
  have HK := Lib.hid h6.k
  clear h6
  go_wp2_with fail
  refine cO.mono ?_
  clear cO
  rintro e w7 ⟨rfl, k7⟩
  clear c10 c11 c12 c20 c21 c22
  go_wp2
  go_ret
  exact ⟨rfl, HK.out.trans k7⟩
end Go.Proofs.Ytjkjiabfhhnngaa

/-! Acts upon a region that came in; the walks of the laws' light and bytes. -/
namespace Go.Proofs.Ytjkjiabfhhnngaa
open Go.ChangeShapes Go.WideShapes Go.ChangeAt Go.Deep Go.RowKit Sg
set_option linter.unusedSimpArgs false
set_option linter.unusedVariables false

/-- an act, as it came in -/
structure RAct where
  kind : Int
  size : Int
  n : Int
  b : UInt8
def RAct.cells (a : RAct) : List Value := [.int .i64 a.kind, .int .i64 a.size, .int .i64 a.n, .int .u8 (a.b.toNat : Int)]
structure RAct.Ok (a : RAct) : Prop where
  k1 : -9223372036854775808 ≤ a.kind
  k2 : a.kind ≤ 9223372036854775807
  s1 : -9223372036854775808 ≤ a.size
  s2 : a.size ≤ 9223372036854775807
  n1 : -9223372036854775808 ≤ a.n
  n2 : a.n ≤ 9223372036854775807
def RActs (w : World) (v : Value) (l : List RAct) : Prop :=
  ∃ ao cap, v = .slice ao l.length cap ∧ l.length ≤ cap ∧ (cap ≤ 9223372036854775807 ∧ l.length ≤ 140737488355328) ∧ (ao = none → l = []) ∧ (∀ x ∈ l, x.Ok) ∧
    ∀ ad, ao = some ad → ∀ i (h : i < l.length) j v, l[i].cells[j]? = some v → w.cell? ((ad.add (i * 4)).add j) = some v
theorem RActs.form {w : World} {v : Value} {l : List RAct} (h : RActs w v l) : ∃ ao cap, v = .slice ao l.length cap ∧ l.length ≤ cap ∧ l.length ≤ 140737488355328 ∧ cap ≤ 9223372036854775807 := by
  obtain ⟨ao, cap, rfl, h1, h2, _⟩ := h
  exact ⟨ao, cap, rfl, h1, h2.2, h2.1⟩
theorem RActs.each {w : World} {v : Value} {l : List RAct} (h : RActs w v l) {i : Nat} (hi : i < l.length) : l[i].Ok := by
  obtain ⟨ao, cap, rfl, h1, h2, h3, h4, h5⟩ := h
  exact h4 _ (List.getElem_mem hi)
theorem RActs.spot {w : World} {ao : Option Addr} {n cap : Nat} {l : List RAct} (h : RActs w (.slice ao n cap) l) {i : Nat} (hi : i < l.length) :
    ∃ b o, ao = some ⟨b, o, none⟩ ∧ ∀ w', Keep [] w w' → w'.cell? ⟨b, o + i * 4, none⟩ = some (.int .i64 l[i].kind) ∧ w'.cell? ⟨b, o + i * 4 + 1, none⟩ = some (.int .i64 l[i].size) ∧ w'.cell? ⟨b, o + i * 4 + 2, none⟩ = some (.int .i64 l[i].n) ∧ w'.cell? ⟨b, o + i * 4 + 3, none⟩ = some (.int .u8 (l[i].b.toNat : Int)) := by
  obtain ⟨ao', cap', e, h1, h2, h3, h5, h4⟩ := h
  cases e
  cases ao with
  | none => rw [h3 rfl] at hi; simp at hi
  | some ad =>
    have h0 := h4 ad rfl 0 (by omega) 0 _ rfl
    rw [Nat.zero_mul, show (ad.add 0).add 0 = ad by simp [Addr.add]] at h0
    have hs : ad.spot = none := by
      cases hsp : ad.spot with
      | none => rfl
      | some x =>
        unfold World.cell? at h0
        split at h0
        · simp [hsp] at h0
        · cases h0
    obtain ⟨b, o, sp⟩ := ad
    simp only at hs
    subst hs
    refine ⟨b, o, rfl, fun w' hk => ?_⟩
    have g := fun j v hv => hk.cell (by simp) (h4 _ rfl i hi j v hv)
    simp only [Addr.add_lit] at g
    exact ⟨g 0 _ rfl, g 1 _ rfl, g 2 _ rfl, g 3 _ rfl⟩

section
variable {H : Type} {enc : TypeId × Value → H} {w : World}
set_option maxRecDepth 100000 in
theorem ract_trod {fuel : Nat} {cs : List Value} {x : DataW H × List MemPlace} (h : DataW.trod enc Try.prog w 0 (fun _ => true) true fuel 99 cs = some x) (hw : ∀ y ∈ x.1.weights Try.prog 99, y ≤ reachBytes) :
    ∃ a : RAct, a.Ok ∧ ∀ (j : Nat) (v : Value), a.cells[j]? = some v → cs[j]? = some v := by
  obtain ⟨m0, z0, h0, -⟩ := field_trod Try.underlying99 h hw 0 _ rfl
  obtain ⟨m1, z1, h1, -⟩ := field_trod Try.underlying99 h hw 1 _ rfl
  obtain ⟨m2, z2, h2, -⟩ := field_trod Try.underlying99 h hw 2 _ rfl
  obtain ⟨m3, z3, h3, -⟩ := field_trod Try.underlying99 h hw 3 _ rfl
  obtain ⟨n0, e0, -, i0⟩ := DataW.trod_int Try.underlying3 h0
  obtain ⟨n1, e1, -, i1⟩ := DataW.trod_int Try.underlying3 h1
  obtain ⟨n2, e2, -, i2⟩ := DataW.trod_int Try.underlying3 h2
  obtain ⟨n3, e3, -, i3⟩ := DataW.trod_int Try.underlying5 h3
  obtain ⟨k3, rfl, hk3⟩ := u8_nat i3
  have c0 : cs[0]? = _ := drop_one e0
  have c1 : cs[1]? = _ := drop_one e1
  have c2 : cs[2]? = _ := drop_one e2
  have c3 : cs[3]? = _ := drop_one e3
  refine ⟨⟨n0, n1, n2, UInt8.ofNat k3⟩, ⟨(i64_in i0).1, (i64_in i0).2, (i64_in i1).1, (i64_in i1).2, (i64_in i2).1, (i64_in i2).2⟩, fun j v hv => ?_⟩
  have e8 : ((UInt8.ofNat k3).toNat : Int) = (k3 : Int) := by rw [UInt8.toNat_ofNat']; omega
  match j, hv with
  | 0, hv => exact c0.trans hv
  | 1, hv => exact c1.trans hv
  | 2, hv => exact c2.trans hv
  | 3, hv => rw [← e8] at c3; exact c3.trans hv

set_option maxRecDepth 100000 in
theorem racts_trod {fuel : Nat} {cs : List Value} {x : DataW H × List MemPlace} (h : DataW.trod enc Try.prog w 0 (fun _ => true) true fuel 83 cs = some x) (hw : ∀ y ∈ x.1.weights Try.prog 83, y ≤ reachBytes) :
    ∃ (v : Value) (l : List RAct), cs = [v] ∧ RActs w v l := by
  rcases open_slice Try.underlying83 h with ⟨rfl, _⟩ | ⟨a, n, c, m, n', D, Pl, rfl, _, hl, hm, hm0, hx, hel⟩
  · exact ⟨_, [], rfl, none, 0, rfl, by simp, ⟨by decide, by decide⟩, fun _ => rfl, by simp, fun _ h => by cases h⟩
  · simp at hm0
    subst hm0
    subst hx
    have hsz := hw _ (by simp only [DataW.weights, Try.underlying83]; exact List.mem_cons_self)
    rw [show Try.prog.bytesOf 99 = 32 by kernel_rfl] at hsz
    simp [reachBytes] at hsz
    simp [maxLen] at hm
    have each : ∀ i, i < n → ∃ p : RAct, p.Ok ∧ ∀ (j : Nat) (v : Value), p.cells[j]? = some v → w.cell? ((a.add (i * 4)).add j) = some v := by
      intro i hi
      obtain ⟨cs', h1, h2⟩ := hel i (by omega)
      rw [show Try.prog.cellsOf 99 = 4 by kernel_rfl] at h1
      obtain ⟨p, hp, hc⟩ := ract_trod h2 (fun y hy => hw y (by
        simp only [DataW.weights, Try.underlying83]
        exact List.mem_cons_of_mem _ (List.mem_append_left _ (weights_all_mem (List.mem_map.2 ⟨i, List.mem_range.2 hi, rfl⟩) y hy))))
      obtain ⟨-, hcl, hcc⟩ := World.cells?_some h1
      refine ⟨p, hp, fun j v hv => ?_⟩
      have hj : j < 4 := (List.getElem?_eq_some_iff.1 hv).1
      exact (hcc j hj).trans (hc j v hv)
    refine ⟨_, (List.range n).attach.map fun i => Classical.choose (each i.1 (List.mem_range.1 i.2)), rfl, some a, m, by simp, by simp; omega, ⟨by omega, by simp; omega⟩, by simp, ?_, ?_⟩
    · intro x hx
      obtain ⟨i, -, rfl⟩ := List.mem_map.1 hx
      exact (Classical.choose_spec (each i.1 (List.mem_range.1 i.2))).1
    · intro ad e i hi j v hv
      cases e
      have hi' : i < n := by simpa using hi
      simp only [List.getElem_map, List.getElem_attach, List.getElem_range] at hv
      exact (Classical.choose_spec (each i hi')).2 j v hv
theorem racts_of {v : Value} {d : DataW H} {ps : List MemPlace} (hv : ∃ a n c, v = .slice a n c) (h : DataW.Trod enc Try.prog w 0 (fun _ => true) true 83 v d ps) (hw : ∀ y ∈ d.weights Try.prog 83, y ≤ reachBytes) : ∃ l : List RAct, RActs w v l := by
  obtain ⟨a0, n, c, rfl⟩ := hv
  obtain ⟨fuel, hf⟩ := h
  obtain ⟨v', l, e, h⟩ := racts_trod hf hw
  simp [Value.cells] at e
  subst e
  exact ⟨l, h⟩
end

/-! ### light, bytes -/
def Light11 (l : List RAct) : Prop := l.length ≤ 60 ∧ ∀ i (h : i < l.length), l[i].size ≤ 400
set_option maxRecDepth 100000 in
set_option maxHeartbeats 1000000 in
set_option maxHeartbeats 4000000 in
theorem light11_any (w : World) (v : Value) (l : List RAct) (hv : RActs w v l) : Calls Try.prog 47 #[v] w fun e w' => ((Light11 l ∧ e = .returned (.bool true)) ∨ (¬ Light11 l ∧ e = .returned (.bool false))) ∧ Keep [] w w' := by
  obtain ⟨va, vc, rfl, h1, h2, h3⟩ := hv.form
  by_cases h60 : 60 < l.length
  · have hno : ¬ Light11 l := fun h => by have := h.1; omega
    have HNO := Lib.hid hno
    clear hno
    have q1 : (60 : Int) < (l.length : Int) := by omega
    go_enter Try.func47, Try.ntmps47
    go_wp2
    exact bodyPost_ret (results_tmp rfl _ _ _) rfl ⟨.inr ⟨HNO.out, rfl⟩, Keep.refl _ _⟩
  · have q1 : ¬ (60 : Int) < (l.length : Int) := by omega
    have HV := Lib.hid hv
    have H60 : Hid (l.length ≤ 60) := Lib.hid (by omega)
    go_enter Try.func47, Try.ntmps47
    go_wp2
    go_loopw [3] (fun i wr => ∃ k : Nat, k ≤ l.length ∧ i = .int .i64 (k : Int) ∧ Hid (∀ j (h : j < l.length), j < k → l[j].size ≤ 400) ∧ Keep [] w wr) (fun i _ => l.length - (intOf i).toNat)
    case atStart => exact ⟨0, by omega, rfl, fun j _ hj => by omega, Keep.refl _ _⟩
    case round =>
      obtain ⟨k, hk, rfl, hA, hkeep⟩ := hrel
      by_cases hlt : k < l.length
      · obtain ⟨b, o, rfl, hc⟩ := HV.out.spot hlt
        obtain ⟨-, c1, -, -⟩ := hc wr hkeep
        obtain ⟨q, hq⟩ : ∃ q, l[k].size = q := ⟨_, rfl⟩
        rw [hq] at c1
        have HQ := Lib.hid hq
        have hlt' : (k : Int) < (l.length : Int) := by omega
        clear hq hc
        by_cases h4 : (400 : Int) < q
        · have hno : ¬ Light11 l := fun h => by have := h.2 k hlt; rw [HQ.out] at this; omega
          have HNO := Lib.hid hno
          clear hno
          go_wp2
          exact bodyPost_ret (results_tmp rfl _ _ _) rfl ⟨.inr ⟨HNO.out, rfl⟩, hkeep⟩
        · have HA : Hid (∀ j (h : j < l.length), j < k + 1 → l[j].size ≤ 400) := fun j hj hj2 => by
            by_cases e : j = k
            · subst e; rw [HQ.out]; omega
            · exact hA.out j hj (by omega)
          go_wp2
          go_roundw
          case rel => exact ⟨k + 1, by omega, by go_num, HA, hkeep⟩
          case measure => simp [intOf]; omega
      · have hlt' : ¬ (k : Int) < (l.length : Int) := by omega
        have e : Light11 l := ⟨H60.out, fun i hi => hA.out i hi (by omega)⟩
        have HE := Lib.hid e
        clear e
        go_wp2
        exact bodyPost_ret (results_tmp rfl _ _ _) rfl ⟨.inl ⟨HE.out, rfl⟩, hkeep⟩

/-- an act's bytes -/
def RAct.bs (a : RAct) : List UInt8 := (List.range a.size.toNat).map (fun i => a.b + UInt8.ofNat i)
theorem RAct.bs_len (a : RAct) : a.bs.length = a.size.toNat := by simp [RAct.bs]
theorem take_set {l : List UInt8} {k n : Nat} (hn : l.length = n) (hk : k < n) (x : UInt8) (hx : l[k]? = some x) : (l.take k ++ List.replicate (n - k) (0 : UInt8)).set k x = l.take (k + 1) ++ List.replicate (n - (k + 1)) 0 := by
  have hl : (l.take k).length = k := by simp; omega
  rw [List.set_append_right _ _ (by omega), hl, Nat.sub_self, show n - k = (n - (k + 1)) + 1 by omega, List.replicate_succ, List.set_cons_zero, List.take_add_one, hx, List.append_assoc]
  rfl
set_option maxRecDepth 100000 in
set_option maxHeartbeats 1000000 in
set_option maxHeartbeats 4000000 in
theorem bytes11_any (w : World) (a : RAct) (hs : a.size ≤ 1000000) : Calls Try.prog 54 #[.agg #[.int .i64 a.kind, .int .i64 a.size, .int .i64 a.n, .int .u8 (a.b.toNat : Int)]] w fun e w' => ∃ v, e = .returned v ∧ OwnB w' w.heap.size 5 v a.bs ∧ Keep [] w w' := by
  obtain ⟨kind, size, an, ab⟩ := a
  simp only at hs
  obtain ⟨l, hl⟩ : ∃ l, RAct.bs ⟨kind, size, an, ab⟩ = l := ⟨_, rfl⟩
  obtain ⟨n, hn⟩ : ∃ n, size.toNat = n := ⟨_, rfl⟩
  have hll : l.length = n := by rw [← hl, RAct.bs_len, hn]
  have hget : ∀ k, k < n → l[k]? = some (ab + UInt8.ofNat k) := fun k hk => by rw [← hl, RAct.bs, List.getElem?_map, List.getElem?_range (by rw [hn]; exact hk)]; rfl
  have hA := (Keep.refl [] w).alloc (.cells #[.int .i64 kind, .int .i64 size, .int .i64 an, .int .u8 (ab.toNat : Int)] 99)
  have hB : ∃ CS : Array Value, CS[3]? = some (.int .u8 (ab.toNat : Int)) ∧ (w.alloc (.cells #[.int .i64 kind, .int .i64 size, .int .i64 an, .int .u8 (ab.toNat : Int)] 99)).heap[w.heap.size]? = some (.cells CS 99 (0, 0)) := ⟨_, rfl, heap_alloc_new w _⟩
  obtain ⟨CS, hcs, hB⟩ := hB
  rw [hl]
  have HG := Lib.hid (And.intro hll hget)
  have hn6 : n ≤ 1000000 := by omega
  have hab : ab.toNat < 256 := ab.toNat_lt
  obtain ⟨bn, hbn⟩ : ∃ bn, ab.toNat = bn := ⟨_, rfl⟩
  rw [hbn] at hab hA hB hcs ⊢
  have HCS := Lib.hid hcs
  have HBN := Lib.hid hbn
  have HH := Lib.hid (And.intro hA hB)
  clear hl hll hget hA hB hbn hcs
  rcases (by omega : (size < 0 ∧ n = 0) ∨ (¬ size < 0 ∧ size = (n : Int))) with ⟨hm, hn0⟩ | ⟨hm, hn0⟩
  case' inr => subst hn0; have hn0 := (rfl : n = n)
  all_goals
    have HN0 := Lib.hid hn0
    clear hn0
    go_enter Try.func54, Try.ntmps54
    go_wp2_with (refine wpList_make_bytes rfl (.tmp 7) (.tmp 7) 42 5 rfl w.heap.size Try.underlying42 (by kernel_rfl) .i64 .i64 (n := n) (by first | rfl | (rw [HN0.out]; rfl)) (by first | rfl | (rw [HN0.out]; rfl)) (by omega) (by simp) ?_)
    intro w2 ho2 hk2 _
    have hc3 := HH.out.1.trans hk2
    have hb2 := hk2.blk (by simp) HH.out.2
    have HS := Lib.hid (And.intro hc3 hb2)
    clear hc3 hb2 hk2
    go_wp2
    go_loopw [4] (fun i wr => ∃ k : Nat, k ≤ n ∧ i = .int .i64 k ∧ Hid (OwnB wr w.heap.size 5 (.slice (some ⟨w.heap.size + 1, 0, none⟩) n n) (l.take k ++ List.replicate (n - k) 0)) ∧ Hid (Keep [] w wr) ∧ Hid (wr.heap[w.heap.size]? = some (.cells CS 99 (0, 0)))) (fun i _ => n - (intOf i).toNat)
    case atStart => exact ⟨0, by omega, rfl, by simpa [Hid] using ho2, HS.out.1, HS.out.2⟩
    case round =>
      obtain ⟨k, hk, rfl, hO, hkeep, hbx⟩ := hrel
      by_cases hlt : k < n
      · first
        | (exfalso; have h0 := HN0.out; omega)
        | (
            have hlen : k < (l.take k ++ List.replicate (n - k) (0 : UInt8)).length := by have := HG.out.1; simp; omega
            have hcell := hO.out.cell hlen
            have hfree := hO.out.free k
            have c3 := cell_of_row wr _ 3 _ _ _ hbx.out
            rw [HCS.out] at c3
            obtain ⟨x, hx⟩ : ∃ x : UInt8, ab + UInt8.ofNat k = x := ⟨_, rfl⟩
            have hnew := Lib.hid (hO.out.setCell hlen x)
            have hset := Lib.hid (take_set HG.out.1 hlt x (by rw [HG.out.2 k hlt, hx]))
            obtain ⟨r, hr⟩ : ∃ r, k % 256 = r := ⟨_, rfl⟩
            have q1 : IntKind.u8.wrap (k : Int) = (r : Int) := by rw [u8_wrap, ← hr]; rfl
            have q2 : IntKind.u8.wrap ((bn : Int) + (r : Int)) = (x.toNat : Int) := by
              rw [u8_wrap, ← hx, UInt8.toNat_add, HBN.out, UInt8.toNat_ofNat', ← hr]
              omega
            have hbk := Lib.hid (hbx.out)
            have hne : ¬ w.heap.size + 1 = w.heap.size := by omega
            clear ho2 hr hx
            go_wp2
            go_roundw
            case rel => exact ⟨k + 1, by omega, by go_num, by have := hnew.out; rw [hset.out] at this; exact this, hkeep.out.setCell (.inr (show w.heap.size ≤ w.heap.size + 1 by omega)) _, (heap_setCell_other _ _ _ _ (by simp)).trans hbk.out⟩
            case measure => simp [intOf]; omega)
      · have e1 : n - k = 0 := by omega
        have e2 : k = n := by omega
        go_wp2
        go_ret
        exact ⟨_, rfl, by have := hO.out; rw [e1, e2, show l.take n = l by rw [← HG.out.1, List.take_length]] at this; simpa using this, hkeep.out⟩
/-- bytes of the call's own -/
theorem LogAt.addV {W w w' : World} {X : List Nat} {gl g : Nat} {c : Lc} {l : Lg} {m : Dev} {F : Nat → List (List UInt8)} (h : LogAt W X w gl g c l m F) (k : Keep [] w w') {t : TypeId} {v : Value} {b : List UInt8} (ho : OwnB w' w.heap.size t v b) : LogAt W (v.ownBlock.toList ++ X) w' gl g c l m F := by
  cases hv : v.ownBlock with
  | none => exact h.keep k
  | some x =>
    have := rowLt ho hv
    exact h.add k this.2.1 this.1
/-- a kind, round -/
theorem kind7 (k : Int) : ∃ t r : Int, k.tmod 7 = t ∧ IntKind.i64.wrap t = t ∧ IntKind.i64.wrap (t + 7) = t + 7 ∧ (t + 7).tmod 7 = r ∧ IntKind.i64.wrap r = r ∧ 0 ≤ r ∧ r ≤ 6 := by
  have h1 : -7 < k.tmod 7 := by
    have := Int.lt_tmod_of_pos k (b := 7) (by decide)
    simpa using this
  have h2 : k.tmod 7 < 7 := Int.tmod_lt_of_pos k (by decide)
  have h3 : (k.tmod 7 + 7).tmod 7 = (k.tmod 7 + 7) % 7 := Int.tmod_eq_emod_of_nonneg (by omega)
  refine ⟨_, _, rfl, i64_wrap (by omega) (by omega), i64_wrap (by omega) (by omega), rfl, i64_wrap (by omega) (by omega), by omega, by omega⟩
end Go.Proofs.Ytjkjiabfhhnngaa
