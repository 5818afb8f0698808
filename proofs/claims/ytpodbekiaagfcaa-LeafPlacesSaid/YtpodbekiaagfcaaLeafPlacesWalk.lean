import Derived.Test.YtpodbekiaagfcaaLeafPut
import Derived.Test.YtpodbekiaagfcaaFields
import Derived.Test.YtpodbekiaagfcaaLeafOpen
/-! The walk of the law LeafPlaces. -/
namespace Go.Proofs.Ytpodbekiaagfcaa
open Go.ChangeShapes Go.WideShapes Go.RowKit Go.Shelf Sg
set_option linter.unusedSimpArgs false
set_option linter.unusedVariables false

set_option maxRecDepth 100000 in
theorem leaf_of_sized {H : Type} {enc : TypeId × Value → H} {w : World} {v : Value} {d : DataW H} {ps : List MemPlace} {r : Reach} {b : Nat} (hv : Value.okWide Try.prog w r b 71 v) (h : DataW.Trod enc Try.prog w 0 (fun _ => true) true 71 v d ps) (hw : ∀ y ∈ d.weights Try.prog 71, y ≤ reachBytes) :
    ∃ (k p s : Int) (l : ByteArray), v = .agg #[.int .i64 k, .int .i64 p, .int .i64 s, .string l] ∧ s ≤ 9223372036854775807 ∧ l.size ≤ 140737488355328 := by
  obtain ⟨k, p, s, l, rfl, hs⟩ := leaf_of hv h
  refine ⟨k, p, s, l, rfl, hs, ?_⟩
  obtain ⟨fuel, hd⟩ := h
  obtain ⟨n, z, hz, hzw⟩ := field_trod Try.underlying71 hd hw 3 _ rfl
  obtain ⟨s3, e3, hz2, -⟩ := DataW.trod_string Try.underlying9 hz
  have e4 : ((Value.agg #[.int .i64 k, .int .i64 p, .int .i64 s, .string l]).cells.toList.drop 3).take 1 = [.string s3] := e3
  simp [Value.cells] at e4
  subst e4
  have := hzw l.data.toList.length (by rw [hz2]; simp [DataW.weights])
  simp [reachBytes] at this
  have e5 : l.size = l.data.size := rfl
  omega

theorem put_new (L : List UInt8) (h : L.length = 96) : (Dev.new 1 96).put 0 L = ((Dev.new 1 96).write 0 L, 0) := by
  unfold Dev.put
  have h1 : (Dev.new 1 96).ready 0 = 0 := by kernel_rfl
  rw [if_neg (by rw [h1]; simp), if_neg (by rw [h]; simp [Dev.new])]
  rfl
theorem read_new0 (L : List UInt8) : ((Dev.new 1 96).write 0 L).read 0 = (L, 0) := by
  unfold Dev.read
  have h1 : ((Dev.new 1 96).write 0 L).ready 0 = 0 := by rfl
  rw [if_neg (by rw [h1]; simp)]
  rfl
theorem read_new1 (L : List UInt8) : ((Dev.new 1 96).write 0 L).read 1 = ([], 2) := by
  unfold Dev.read
  have h1 : ((Dev.new 1 96).write 0 L).ready 1 = 2 := by rfl
  rw [if_pos (by rw [h1]; simp), h1]

set_option maxRecDepth 100000 in
set_option maxHeartbeats 1000000 in
set_option maxHeartbeats 4000000 in
theorem leafPlacesWalk (W : World) (k p s : Int) (lb : ByteArray) (f : s ≤ 9223372036854775807) (z : lb.size ≤ 140737488355328) (kd : Int) (wk : (Lit.int .i64 kd).wf = true) (pl : Int) (wp : (Lit.int .i64 pl).wf = true) :
    Calls Try.prog 9 #[.agg #[.int .i64 k, .int .i64 p, .int .i64 s, .string lb], .int .i64 kd, .int .i64 pl] W fun e W' => e = .returned (.bool true) ∧ Below W.heap.size W W' := by
  have lk' : lb.data.toList.length = lb.size := by rw [Array.length_toList]; rfl
  obtain ⟨wB, hwB⟩ : ∃ wB, W.alloc (.cells #[.int .i64 k, .int .i64 p, .int .i64 s, .string lb] 71) = wB := ⟨_, rfl⟩
  have hkB : Keep [] W wB := by rw [← hwB]; exact (Keep.refl [] W).alloc _
  have hbB : wB.heap[W.heap.size]? = some (.cells #[.int .i64 k, .int .i64 p, .int .i64 s, .string lb] 71 (0, 0)) := by rw [← hwB]; exact heap_alloc_new _ _
  have cN : Calls Try.prog 12 #[.int .i64 1, .int .i64 96] wB _ := newDev_any 1 96 (by decide) wB
  have hO := of05_any k p s lb z
  have HBB := Lib.hid hbB
  have HKB := Lib.hid hkB
  have HO := Lib.hid hO
  clear hbB hkB hO
  go_enter Try.func9, Try.ntmps9
  go_wp2_with fail
  refine cN.mono ?_
  rintro e w1 ⟨g, D, rfl, hD, hk1, hf⟩
  clear cN hwB
  have b1 := hk1.blk (by simp) HBB.out
  have x0 := cell_of_row _ _ 0 _ _ _ b1
  have x1 := cell_of_row _ _ 1 _ _ _ b1
  have x2 := cell_of_row _ _ 2 _ _ _ b1
  have x3 := cell_of_row _ _ 3 _ _ _ b1
  simp at x0 x1 x2 x3
  clear b1
  go_wp2_with fail
  refine (HO.out _).mono ?_
  rintro e w2 ⟨v2, rfl, bv2, hk2⟩
  have hD2 := hD.keep hk2 (by simp)
  have hk02 := hk1.trans hk2
  clear x0 x1 x2 x3 hD hk1 hk2
  go_wp2_with fail
  refine (leafPut_any w2 D g (Dev.new 1 96) hD2 (by decide) 0 k p s f v2 lb.data.toList bv2).mono ?_
  rintro e w3 ⟨rfl, D3, hD3, hG3, hK3⟩
  obtain ⟨hk3, hf3⟩ := dev_step hk02 hf hG3 hK3
  clear hD2 hk02 hf hG3 hK3 bv2
  by_cases hz : lcode 96 k p s lb.data.toList.length = 0
  · obtain ⟨z1, z2, z3, z4, z5⟩ := lcode_zero hz
    obtain ⟨kn, rfl⟩ : ∃ n : Nat, k = (n : Int) := ⟨k.toNat, by omega⟩
    obtain ⟨pn, rfl⟩ : ∃ n : Nat, p = (n : Int) := ⟨p.toNat, by omega⟩
    obtain ⟨sn, rfl⟩ : ∃ n : Nat, s = (n : Int) := ⟨s.toNat, by omega⟩
    obtain ⟨e1, e2, e3, e4, e5, hok, hlen⟩ := leaf_back 96 kn pn sn lb.data.toList hz (by omega)
    have ep : lput (Dev.new 1 96) 0 kn pn sn lb.data.toList = ((Dev.new 1 96).write 0 (lbuild 96 kn pn sn lb.data.toList), 0) := by
      unfold lput
      have hz' : lcode ((Dev.new 1 96).sz : Int) kn pn sn lb.data.toList.length = 0 := hz
      rw [if_neg (by rw [hz']; simp)]
      simp only [Int.toNat_natCast]
      rw [show (Dev.new 1 96).sz = 96 from rfl, put_new _ hlen]
      rfl
    rw [ep] at hD3
    rw [ep]
    generalize lbuild 96 kn pn sn lb.data.toList = L at *
    have r0 := read_new0 L
    have r1 := read_new1 L
    have ha : ((Dev.new 1 96).write 0 L).acts ≤ 1000000000 := by show 1 ≤ 1000000000; decide
    generalize (Dev.new 1 96).write 0 L = m at *
    have g1 : ∀ a b : Int, lgot m 0 a b ↔ ((kn : Int) = a ∧ (pn : Int) = b) := by
      intro a b
      unfold lgot
      rw [r0, e1, e3]
      simp [hok]
    have g2 : ∀ a b : Int, ¬ lgot m 1 a b := by
      intro a b h
      have := h.1
      rw [r1] at this
      cases this
    have b3 := hk3.blk (by simp) HBB.out
    have hG1 := leafGet_any w3 D3 g m hD3 ha 0 kd pl
    have HR0 := Lib.hid r0
    have HR1 := Lib.hid r1
    have HG1 := Lib.hid g1
    have HG2 := Lib.hid g2
    have HE := Lib.hid (And.intro e4 e5)
    clear r0 r1 g1 g2 e1 e2 e3 e4 e5 hok hlen ep hz z1 z2 z3 z4 z5
    go_wp2_with fail
    refine hG1.mono ?_
    rintro e w4 ⟨hk4, hor⟩
    clear hG1
    have hD4 := hD3.keep hk4 (by simp)
    have hk04 := hk3.trans hk4
    clear hD3 hk3 hk4 b3
    by_cases hown : (kn : Int) = kd ∧ (pn : Int) = pl
    · obtain ⟨v4, rfl, bv4⟩ : ∃ v, e = .returned (.tuple #[.agg #[.int .i64 kd, .int .i64 pl, .int .i64 (ls L : Int), v], .int .i64 0]) ∧ Bytes w4 v (ll L) := by
        rcases hor with ⟨-, v, h1, h2⟩ | ⟨h, -⟩
        · rw [HR0.out] at h1 h2
          exact ⟨v, h1, h2⟩
        · exact absurd ((HG1.out _ _).2 hown) h
      obtain ⟨rfl, rfl⟩ := hown
      obtain ⟨va4, vc4, rfl, -⟩ := bv4.form
      have hA := (Keep.refl [] w4).alloc (.cells #[.int .i64 (kn : Int), .int .i64 (pn : Int), .int .i64 (ls L : Int), .slice va4 (ll L).length vc4] 74)
      have hn4 := heap_alloc_new w4 (.cells #[.int .i64 (kn : Int), .int .i64 (pn : Int), .int .i64 (ls L : Int), .slice va4 (ll L).length vc4] 74)
      have hk5 := hk04.trans hA
      have b5 := hk5.blk (by simp) HBB.out
      have x0 := cell_of_row _ _ 0 _ _ _ b5
      have x1 := cell_of_row _ _ 1 _ _ _ b5
      simp at x0 x1
      have hG2' := leafGet_any _ D3 g m (hD4.keep hA (by simp)) ha 0 (kn : Int) (pn : Int)
      have hD5 := hD4.keep hA (by simp)
      clear hD4 hk04 hor bv4 b5 hA
      go_wp2_with fail
      refine hG2'.mono ?_
      rintro e w6 ⟨hk6, hor⟩
      clear hG2'
      obtain ⟨v6, rfl, bv6⟩ : ∃ v, e = .returned (.tuple #[.agg #[.int .i64 (kn : Int), .int .i64 (pn : Int), .int .i64 (sn : Int), v], .int .i64 0]) ∧ Bytes w6 v lb.data.toList := by
        rcases hor with ⟨-, v, h1, h2⟩ | ⟨h, -⟩
        · rw [HR0.out] at h1 h2
          simp only [HE.out.1, HE.out.2] at h1 h2
          exact ⟨v, h1, h2⟩
        · exact absurd ((HG1.out _ _).2 ⟨rfl, rfl⟩) h
      obtain ⟨va6, vc6, rfl, -⟩ := bv6.form
      have hD6 := hD5.keep hk6 (by simp)
      have hk06 := hk5.trans hk6
      have hn6 := hk6.blk (by simp) hn4
      have hA := (Keep.refl [] w6).alloc (.cells #[.int .i64 (kn : Int), .int .i64 (pn : Int), .int .i64 (sn : Int), .slice va6 lb.data.toList.length vc6] 74)
      have hnn := heap_alloc_new w6 (.cells #[.int .i64 (kn : Int), .int .i64 (pn : Int), .int .i64 (sn : Int), .slice va6 lb.data.toList.length vc6] 74)
      have hk07 := hk06.trans hA
      have b7 := hk07.blk (by simp) HBB.out
      have x0 := cell_of_row _ _ 0 _ _ _ b7
      have x1 := cell_of_row _ _ 1 _ _ _ b7
      simp at x0 x1
      have hG3 := leafGet_any _ D3 g m (hD6.keep hA (by simp)) ha 1 (kn : Int) (pn : Int)
      have hn7 := hA.blk (by simp) hn6
      have bv7 := bv6.keep hA (by simp)
      clear hD5 hD6 hk5 hk6 hk06 hor bv6 b7 hA hn4 hn6
      go_wp2_with fail
      refine hG3.mono ?_
      rintro e w8 ⟨hk8, hor⟩
      clear hG3
      obtain rfl : e = .returned (.tuple #[leaf0, .int .i64 2]) := by
        rcases hor with ⟨h, -⟩ | ⟨-, h⟩
        · exact absurd h (HG2.out _ _)
        · rw [HR1.out] at h
          exact h
      simp only [leaf0]
      have hA := (Keep.refl [] w8).alloc (.cells #[.int .i64 0, .int .i64 0, .int .i64 0, .slice none 0 0] 74)
      have hk09 := (hk07.trans hk8).trans hA
      have b9 := hk09.blk (by simp) HBB.out
      have y0 := cell_of_row _ _ 0 _ _ _ b9
      have y1 := cell_of_row _ _ 1 _ _ _ b9
      have y2 := cell_of_row _ _ 2 _ _ _ b9
      have y3 := cell_of_row _ _ 3 _ _ _ b9
      have n9 := hA.blk (by simp) (hk8.blk (by simp) hn7)
      have nn9 := hA.blk (by simp) (hk8.blk (by simp) hnn)
      have u3 := cell_of_row _ _ 3 _ _ _ n9
      have t0 := cell_of_row _ _ 0 _ _ _ nn9
      have t1 := cell_of_row _ _ 1 _ _ _ nn9
      have t2 := cell_of_row _ _ 2 _ _ _ nn9
      have t3 := cell_of_row _ _ 3 _ _ _ nn9
      simp at y0 y1 y2 y3 u3 t0 t1 t2 t3
      have hT := told05_any (kn : Int) (pn : Int) (sn : Int) _ lb.data.toList _ ((bv7.keep hk8 (by simp)).keep hA (by simp))
      have hse : (⟨lb.data.toList.toArray⟩ : ByteArray) = lb := by simp
      rw [hse] at hT
      clear hor x0 x1 hn7 hnn bv7 hk07 hk8 hA b9 n9 nn9 hse
      go_wp2_with fail
      refine hT.mono ?_
      rintro e w10 ⟨rfl, hk10⟩
      clear hT y0 y1 y2 y3 u3 t0 t1 t2 t3
      go_wp2_with fail
      refine (awake05_any _).mono ?_
      rintro e w11 ⟨rfl, hk11⟩
      go_wp2
      go_ret
      exact ⟨rfl, (HKB.out.trans (hk09.trans (hk10.trans hk11))).below (Nat.le_refl _) (by simp)⟩
    · by_cases hkd : kd = (kn : Int)
      · have hpl : ¬ pl = (pn : Int) := fun h => hown ⟨hkd.symm, h.symm⟩
        have hplb : (pl == (pn : Int)) = false := by simpa using hpl
        obtain rfl : e = .returned (.tuple #[leaf0, .int .i64 5]) := by
          rcases hor with ⟨h, -⟩ | ⟨-, h⟩
          · exact absurd ((HG1.out _ _).1 h) hown
          · rw [HR0.out] at h
            exact h
        simp only [leaf0]
        have hA := (Keep.refl [] w4).alloc (.cells #[.int .i64 0, .int .i64 0, .int .i64 0, .slice none 0 0] 74)
        have hn4 := heap_alloc_new w4 (.cells #[.int .i64 0, .int .i64 0, .int .i64 0, .slice none 0 0] 74)
        have hk5 := hk04.trans hA
        have b5 := hk5.blk (by simp) HBB.out
        have x0 := cell_of_row _ _ 0 _ _ _ b5
        have x1 := cell_of_row _ _ 1 _ _ _ b5
        simp at x0 x1
        have hG2' := leafGet_any _ D3 g m (hD4.keep hA (by simp)) ha 0 (kn : Int) (pn : Int)
        have hD5 := hD4.keep hA (by simp)
        clear hD4 hk04 hor b5 hA
        go_wp2_with fail
        refine hG2'.mono ?_
        rintro e w6 ⟨hk6, hor⟩
        clear hG2'
        obtain ⟨v6, rfl, bv6⟩ : ∃ v, e = .returned (.tuple #[.agg #[.int .i64 (kn : Int), .int .i64 (pn : Int), .int .i64 (sn : Int), v], .int .i64 0]) ∧ Bytes w6 v lb.data.toList := by
          rcases hor with ⟨-, v, h1, h2⟩ | ⟨h, -⟩
          · rw [HR0.out] at h1 h2
            simp only [HE.out.1, HE.out.2] at h1 h2
            exact ⟨v, h1, h2⟩
          · exact absurd ((HG1.out _ _).2 ⟨rfl, rfl⟩) h
        obtain ⟨va6, vc6, rfl, -⟩ := bv6.form
        have hD6 := hD5.keep hk6 (by simp)
        have hk06 := hk5.trans hk6
        have hn6 := hk6.blk (by simp) hn4
        have hA := (Keep.refl [] w6).alloc (.cells #[.int .i64 (kn : Int), .int .i64 (pn : Int), .int .i64 (sn : Int), .slice va6 lb.data.toList.length vc6] 74)
        have hnn := heap_alloc_new w6 (.cells #[.int .i64 (kn : Int), .int .i64 (pn : Int), .int .i64 (sn : Int), .slice va6 lb.data.toList.length vc6] 74)
        have hk07 := hk06.trans hA
        have b7 := hk07.blk (by simp) HBB.out
        have x0 := cell_of_row _ _ 0 _ _ _ b7
        have x1 := cell_of_row _ _ 1 _ _ _ b7
        simp at x0 x1
        have hG3 := leafGet_any _ D3 g m (hD6.keep hA (by simp)) ha 1 (kn : Int) (pn : Int)
        have hn7 := hA.blk (by simp) hn6
        have bv7 := bv6.keep hA (by simp)
        clear hD5 hD6 hk5 hk6 hk06 hor bv6 b7 hA hn4 hn6
        go_wp2_with fail
        refine hG3.mono ?_
        rintro e w8 ⟨hk8, hor⟩
        clear hG3
        obtain rfl : e = .returned (.tuple #[leaf0, .int .i64 2]) := by
          rcases hor with ⟨h, -⟩ | ⟨-, h⟩
          · exact absurd h (HG2.out _ _)
          · rw [HR1.out] at h
            exact h
        simp only [leaf0]
        have hA := (Keep.refl [] w8).alloc (.cells #[.int .i64 0, .int .i64 0, .int .i64 0, .slice none 0 0] 74)
        have hk09 := (hk07.trans hk8).trans hA
        have b9 := hk09.blk (by simp) HBB.out
        have y0 := cell_of_row _ _ 0 _ _ _ b9
        have y1 := cell_of_row _ _ 1 _ _ _ b9
        have y2 := cell_of_row _ _ 2 _ _ _ b9
        have y3 := cell_of_row _ _ 3 _ _ _ b9
        have n9 := hA.blk (by simp) (hk8.blk (by simp) hn7)
        have nn9 := hA.blk (by simp) (hk8.blk (by simp) hnn)
        have u3 := cell_of_row _ _ 3 _ _ _ n9
        have t0 := cell_of_row _ _ 0 _ _ _ nn9
        have t1 := cell_of_row _ _ 1 _ _ _ nn9
        have t2 := cell_of_row _ _ 2 _ _ _ nn9
        have t3 := cell_of_row _ _ 3 _ _ _ nn9
        simp at y0 y1 y2 y3 u3 t0 t1 t2 t3
        have hT := told05_any (kn : Int) (pn : Int) (sn : Int) _ lb.data.toList _ ((bv7.keep hk8 (by simp)).keep hA (by simp))
        have hse : (⟨lb.data.toList.toArray⟩ : ByteArray) = lb := by simp
        rw [hse] at hT
        clear hor x0 x1 hn7 hnn bv7 hk07 hk8 hA b9 n9 nn9 hse
        go_wp2_with fail
        refine hT.mono ?_
        rintro e w10 ⟨rfl, hk10⟩
        clear hT y0 y1 y2 y3 u3 t0 t1 t2 t3
        go_wp2_with fail
        refine (awake05_any _).mono ?_
        rintro e w11 ⟨rfl, hk11⟩
        go_wp2
        go_ret
        exact ⟨rfl, (HKB.out.trans (hk09.trans (hk10.trans hk11))).below (Nat.le_refl _) (by simp)⟩
      · have hkdb : (kd == (kn : Int)) = false := by simpa using hkd
        obtain rfl : e = .returned (.tuple #[leaf0, .int .i64 5]) := by
          rcases hor with ⟨h, -⟩ | ⟨-, h⟩
          · exact absurd ((HG1.out _ _).1 h) hown
          · rw [HR0.out] at h
            exact h
        simp only [leaf0]
        have hA := (Keep.refl [] w4).alloc (.cells #[.int .i64 0, .int .i64 0, .int .i64 0, .slice none 0 0] 74)
        have hn4 := heap_alloc_new w4 (.cells #[.int .i64 0, .int .i64 0, .int .i64 0, .slice none 0 0] 74)
        have hk5 := hk04.trans hA
        have b5 := hk5.blk (by simp) HBB.out
        have x0 := cell_of_row _ _ 0 _ _ _ b5
        have x1 := cell_of_row _ _ 1 _ _ _ b5
        simp at x0 x1
        have hG2' := leafGet_any _ D3 g m (hD4.keep hA (by simp)) ha 0 (kn : Int) (pn : Int)
        have hD5 := hD4.keep hA (by simp)
        clear hD4 hk04 hor b5 hA
        go_wp2_with fail
        refine hG2'.mono ?_
        rintro e w6 ⟨hk6, hor⟩
        clear hG2'
        obtain ⟨v6, rfl, bv6⟩ : ∃ v, e = .returned (.tuple #[.agg #[.int .i64 (kn : Int), .int .i64 (pn : Int), .int .i64 (sn : Int), v], .int .i64 0]) ∧ Bytes w6 v lb.data.toList := by
          rcases hor with ⟨-, v, h1, h2⟩ | ⟨h, -⟩
          · rw [HR0.out] at h1 h2
            simp only [HE.out.1, HE.out.2] at h1 h2
            exact ⟨v, h1, h2⟩
          · exact absurd ((HG1.out _ _).2 ⟨rfl, rfl⟩) h
        obtain ⟨va6, vc6, rfl, -⟩ := bv6.form
        have hD6 := hD5.keep hk6 (by simp)
        have hk06 := hk5.trans hk6
        have hn6 := hk6.blk (by simp) hn4
        have hA := (Keep.refl [] w6).alloc (.cells #[.int .i64 (kn : Int), .int .i64 (pn : Int), .int .i64 (sn : Int), .slice va6 lb.data.toList.length vc6] 74)
        have hnn := heap_alloc_new w6 (.cells #[.int .i64 (kn : Int), .int .i64 (pn : Int), .int .i64 (sn : Int), .slice va6 lb.data.toList.length vc6] 74)
        have hk07 := hk06.trans hA
        have b7 := hk07.blk (by simp) HBB.out
        have x0 := cell_of_row _ _ 0 _ _ _ b7
        have x1 := cell_of_row _ _ 1 _ _ _ b7
        simp at x0 x1
        have hG3 := leafGet_any _ D3 g m (hD6.keep hA (by simp)) ha 1 (kn : Int) (pn : Int)
        have hn7 := hA.blk (by simp) hn6
        have bv7 := bv6.keep hA (by simp)
        clear hD5 hD6 hk5 hk6 hk06 hor bv6 b7 hA hn4 hn6
        go_wp2_with fail
        refine hG3.mono ?_
        rintro e w8 ⟨hk8, hor⟩
        clear hG3
        obtain rfl : e = .returned (.tuple #[leaf0, .int .i64 2]) := by
          rcases hor with ⟨h, -⟩ | ⟨-, h⟩
          · exact absurd h (HG2.out _ _)
          · rw [HR1.out] at h
            exact h
        simp only [leaf0]
        have hA := (Keep.refl [] w8).alloc (.cells #[.int .i64 0, .int .i64 0, .int .i64 0, .slice none 0 0] 74)
        have hk09 := (hk07.trans hk8).trans hA
        have b9 := hk09.blk (by simp) HBB.out
        have y0 := cell_of_row _ _ 0 _ _ _ b9
        have y1 := cell_of_row _ _ 1 _ _ _ b9
        have y2 := cell_of_row _ _ 2 _ _ _ b9
        have y3 := cell_of_row _ _ 3 _ _ _ b9
        have n9 := hA.blk (by simp) (hk8.blk (by simp) hn7)
        have nn9 := hA.blk (by simp) (hk8.blk (by simp) hnn)
        have u3 := cell_of_row _ _ 3 _ _ _ n9
        have t0 := cell_of_row _ _ 0 _ _ _ nn9
        have t1 := cell_of_row _ _ 1 _ _ _ nn9
        have t2 := cell_of_row _ _ 2 _ _ _ nn9
        have t3 := cell_of_row _ _ 3 _ _ _ nn9
        simp at y0 y1 y2 y3 u3 t0 t1 t2 t3
        have hT := told05_any (kn : Int) (pn : Int) (sn : Int) _ lb.data.toList _ ((bv7.keep hk8 (by simp)).keep hA (by simp))
        have hse : (⟨lb.data.toList.toArray⟩ : ByteArray) = lb := by simp
        rw [hse] at hT
        clear hor x0 x1 hn7 hnn bv7 hk07 hk8 hA b9 n9 nn9 hse
        go_wp2_with fail
        refine hT.mono ?_
        rintro e w10 ⟨rfl, hk10⟩
        clear hT y0 y1 y2 y3 u3 t0 t1 t2 t3
        go_wp2_with fail
        refine (awake05_any _).mono ?_
        rintro e w11 ⟨rfl, hk11⟩
        go_wp2
        go_ret
        exact ⟨rfl, (HKB.out.trans (hk09.trans (hk10.trans hk11))).below (Nat.le_refl _) (by simp)⟩
  · have ep : lput (Dev.new 1 96) 0 k p s lb.data.toList = (Dev.new 1 96, lcode 96 k p s lb.data.toList.length) := by
      unfold lput
      have hz' : ¬ lcode ((Dev.new 1 96).sz : Int) k p s lb.data.toList.length = 0 := hz
      rw [if_pos hz']
      rfl
    rw [ep]
    generalize lcode 96 k p s lb.data.toList.length = rc at *
    have d1 : (rc != 0) = true := by simpa using hz
    have d2 : (rc == 0) = false := by simpa using hz
    clear ep
    go_wp2_with fail
    refine (awake05_any _).mono ?_
    rintro e w11 ⟨rfl, hk11⟩
    go_wp2
    go_ret
    exact ⟨rfl, (HKB.out.trans (hk3.trans hk11)).below (Nat.le_refl _) (by simp)⟩
end Go.Proofs.Ytpodbekiaagfcaa
