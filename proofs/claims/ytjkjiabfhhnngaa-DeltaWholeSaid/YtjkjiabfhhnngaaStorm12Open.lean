import Derived.Test.YtjkjiabfhhnngaaActs
import Derived.Test.YtjkjiabfhhnngaaDlKit
/-! A storm upon a log that came in, opened. -/
namespace Go.Proofs.Ytjkjiabfhhnngaa
open Go.ChangeShapes Go.WideShapes Go.ChangeAt Go.Deep Go.RowKit Sg
set_option linter.unusedSimpArgs false
set_option linter.unusedVariables false

/-- an act upon a log, as it came in -/
structure DAct where
  kind : Int
  x : Ch
  tm : Int
def DAct.cells (a : DAct) : List Value := [.int .i64 a.kind, .bool a.x.drop, .int .u64 (a.x.hash : Int), .int .i64 a.x.r, .int .i64 a.x.a, .int .i64 a.x.s, .int .i64 a.tm]
structure DAct.Ok (a : DAct) : Prop where
  h : a.x.hash < 18446744073709551616
def DActs (w : World) (v : Value) (l : List DAct) : Prop :=
  ∃ ao cap, v = .slice ao l.length cap ∧ l.length ≤ cap ∧ (cap ≤ 9223372036854775807 ∧ l.length ≤ 140737488355328) ∧ (ao = none → l = []) ∧ (∀ x ∈ l, x.Ok) ∧
    ∀ ad, ao = some ad → ∀ i (h : i < l.length) j v, l[i].cells[j]? = some v → w.cell? ((ad.add (i * 7)).add j) = some v
theorem DActs.nil (w : World) : DActs w (.slice none 0 0) [] := ⟨none, 0, rfl, by simp, ⟨by decide, by decide⟩, fun _ => rfl, by simp, fun _ h => by cases h⟩
theorem DActs.form {w : World} {v : Value} {l : List DAct} (h : DActs w v l) : ∃ ao cap, v = .slice ao l.length cap ∧ l.length ≤ cap ∧ l.length ≤ 140737488355328 ∧ cap ≤ 9223372036854775807 := by
  obtain ⟨ao, cap, rfl, h1, h2, _⟩ := h
  exact ⟨ao, cap, rfl, h1, h2.2, h2.1⟩
theorem DActs.each {w : World} {v : Value} {l : List DAct} (h : DActs w v l) {i : Nat} (hi : i < l.length) : l[i].Ok := by
  obtain ⟨ao, cap, rfl, h1, h2, h3, h4, h5⟩ := h
  exact h4 _ (List.getElem_mem hi)
theorem DActs.spot {w : World} {ao : Option Addr} {n cap : Nat} {l : List DAct} (h : DActs w (.slice ao n cap) l) {i : Nat} (hi : i < l.length) :
    ∃ b o, ao = some ⟨b, o, none⟩ ∧ b < w.heap.size ∧ ∀ w', Keep [] w w' → ∀ j v, l[i].cells[j]? = some v → w'.cell? ⟨b, o + i * 7 + j, none⟩ = some v := by
  obtain ⟨ao', cap', e, h1, h2, h3, h5, h4⟩ := h
  cases e
  cases ao with
  | none => rw [h3 rfl] at hi; simp at hi
  | some ad =>
    have h0 := h4 ad rfl 0 (by omega) 0 _ rfl
    rw [Nat.zero_mul, show (ad.add 0).add 0 = ad by simp [Addr.add]] at h0
    have hs : ad.spot = none := by
      cases hsp : ad.spot with
      | none => rfl
      | some x =>
        unfold World.cell? at h0
        split at h0
        · simp [hsp] at h0
        · cases h0
    obtain ⟨b, o, sp⟩ := ad
    simp only at hs
    subst hs
    refine ⟨b, o, rfl, World.block_lt_of_cell? w _ h0, fun w' hk j v hv => ?_⟩
    have g := hk.cell (by simp) (h4 _ rfl i hi j v hv)
    simp only [Addr.add_lit] at g
    exact g

section
variable {H : Type} {enc : TypeId × Value → H} {w : World}
set_option maxRecDepth 100000 in
theorem dact_trod {fuel : Nat} {cs : List Value} {x : DataW H × List MemPlace} (h : DataW.trod enc Try.prog w 0 (fun _ => true) true fuel 158 cs = some x) (hw : ∀ y ∈ x.1.weights Try.prog 158, y ≤ reachBytes) :
    ∃ a : DAct, a.Ok ∧ ∀ (j : Nat) (v : Value), a.cells[j]? = some v → cs[j]? = some v := by
  obtain ⟨m0, z0, h0, -⟩ := field_trod Try.underlying158 h hw 0 _ rfl
  obtain ⟨m1, z1, h1, w1⟩ := field_trod Try.underlying158 h hw 1 _ rfl
  obtain ⟨m2, z2, h2, -⟩ := field_trod Try.underlying158 h hw 2 _ rfl
  obtain ⟨m3, z3, h3, -⟩ := field_trod Try.underlying156 h1 w1 0 _ rfl
  obtain ⟨m4, z4, h4, -⟩ := field_trod Try.underlying156 h1 w1 1 _ rfl
  obtain ⟨m5, z5, h5, -⟩ := field_trod Try.underlying156 h1 w1 2 _ rfl
  obtain ⟨m6, z6, h6, -⟩ := field_trod Try.underlying156 h1 w1 3 _ rfl
  obtain ⟨m7, z7, h7, -⟩ := field_trod Try.underlying156 h1 w1 4 _ rfl
  obtain ⟨n0, e0, -, i0⟩ := DataW.trod_int Try.underlying3 h0
  obtain ⟨n2, e2, -, i2⟩ := DataW.trod_int Try.underlying3 h2
  obtain ⟨n3, e3, -⟩ := DataW.trod_bool Try.underlying4 h3
  obtain ⟨n4, e4, -, i4⟩ := DataW.trod_int Try.underlying90 h4
  obtain ⟨n5, e5, -, i5⟩ := DataW.trod_int Try.underlying3 h5
  obtain ⟨n6, e6, -, i6⟩ := DataW.trod_int Try.underlying3 h6
  obtain ⟨n7, e7, -, i7⟩ := DataW.trod_int Try.underlying3 h7
  obtain ⟨k4, rfl, hk4⟩ := u64_nat i4
  have c0 : cs[0]? = _ := drop_one e0
  have c6 : cs[6]? = _ := drop_one e2
  have c1 : ((cs.drop 1).take 5)[0]? = _ := drop_one e3
  have c2 : ((cs.drop 1).take 5)[1]? = _ := drop_one e4
  have c3 : ((cs.drop 1).take 5)[2]? = _ := drop_one e5
  have c4 : ((cs.drop 1).take 5)[3]? = _ := drop_one e6
  have c5 : ((cs.drop 1).take 5)[4]? = _ := drop_one e7
  rw [List.getElem?_take, if_pos (by omega), List.getElem?_drop] at c1 c2 c3 c4 c5
  refine ⟨⟨n0, ⟨n3, k4, n5, n6, n7⟩, n2⟩, ⟨hk4⟩, fun j v hv => ?_⟩
  match j, hv with
  | 0, hv => exact c0.trans hv
  | 1, hv => exact c1.trans hv
  | 2, hv => exact c2.trans hv
  | 3, hv => exact c3.trans hv
  | 4, hv => exact c4.trans hv
  | 5, hv => exact c5.trans hv
  | 6, hv => exact c6.trans hv

set_option maxRecDepth 100000 in
theorem dacts_trod {fuel : Nat} {cs : List Value} {x : DataW H × List MemPlace} (h : DataW.trod enc Try.prog w 0 (fun _ => true) true fuel 148 cs = some x) (hw : ∀ y ∈ x.1.weights Try.prog 148, y ≤ reachBytes) :
    ∃ (v : Value) (l : List DAct), cs = [v] ∧ DActs w v l := by
  rcases open_slice Try.underlying148 h with ⟨rfl, _⟩ | ⟨a, n, c, m, n', D, Pl, rfl, _, hl, hm, hm0, hx, hel⟩
  · exact ⟨_, [], rfl, DActs.nil w⟩
  · simp at hm0
    subst hm0
    subst hx
    have hsz := hw _ (by simp only [DataW.weights, Try.underlying148]; exact List.mem_cons_self)
    rw [show Try.prog.bytesOf 158 = 56 by kernel_rfl] at hsz
    simp [reachBytes] at hsz
    simp [maxLen] at hm
    have each : ∀ i, i < n → ∃ p : DAct, p.Ok ∧ ∀ (j : Nat) (v : Value), p.cells[j]? = some v → w.cell? ((a.add (i * 7)).add j) = some v := by
      intro i hi
      obtain ⟨cs', h1, h2⟩ := hel i (by omega)
      rw [show Try.prog.cellsOf 158 = 7 by kernel_rfl] at h1
      obtain ⟨p, hp, hc⟩ := dact_trod h2 (fun y hy => hw y (by
        simp only [DataW.weights, Try.underlying148]
        exact List.mem_cons_of_mem _ (List.mem_append_left _ (weights_all_mem (List.mem_map.2 ⟨i, List.mem_range.2 hi, rfl⟩) y hy))))
      obtain ⟨-, hcl, hcc⟩ := World.cells?_some h1
      refine ⟨p, hp, fun j v hv => ?_⟩
      have hj : j < 7 := (List.getElem?_eq_some_iff.1 hv).1
      exact (hcc j hj).trans (hc j v hv)
    refine ⟨_, (List.range n).attach.map fun i => Classical.choose (each i.1 (List.mem_range.1 i.2)), rfl, some a, m, by simp, by simp; omega, ⟨by omega, by simp; omega⟩, by simp, ?_, ?_⟩
    · intro x hx
      obtain ⟨i, -, rfl⟩ := List.mem_map.1 hx
      exact (Classical.choose_spec (each i.1 (List.mem_range.1 i.2))).1
    · intro ad e i hi j v hv
      cases e
      have hi' : i < n := by simpa using hi
      simp only [List.getElem_map, List.getElem_attach, List.getElem_range] at hv
      exact (Classical.choose_spec (each i hi')).2 j v hv

set_option maxRecDepth 100000 in
theorem storm12_of {v : Value} {d : DataW H} {ps : List MemPlace} {r : Reach} {b : Nat} (hv : Value.okWide Try.prog w r b 150 v) (h : DataW.Trod enc Try.prog w 0 (fun _ => true) true 150 v d ps) (hw : ∀ y ∈ d.weights Try.prog 150, y ≤ reachBytes) :
    ∃ (pv fv : Value) (pl : List DAct) (fl : List Int) (dn : Int), v = .agg #[pv, .int .i64 dn, fv] ∧ DActs w pv pl ∧ Ints w fv fl ∧ dn ≤ 9223372036854775807 := by
  obtain ⟨cs, rfl, hsz⟩ := okWide_struct Try.underlying150 hv
  have hsz' : cs.size = 3 := hsz.trans (by kernel_rfl)
  obtain ⟨fuel, hd⟩ := h
  obtain ⟨m0, z0, h0, w0⟩ := field_trod Try.underlying150 hd hw 0 _ rfl
  obtain ⟨m1, z1, h1, w1⟩ := field_trod Try.underlying150 hd hw 1 _ rfl
  obtain ⟨m2, z2, h2, w2⟩ := field_trod Try.underlying150 hd hw 2 _ rfl
  obtain ⟨pv, pl, e0, hp⟩ := dacts_trod h0 w0
  obtain ⟨n1, e1, -, i1⟩ := DataW.trod_int Try.underlying3 h1
  obtain ⟨fv, fl, e2, hf⟩ := ints_trod h2 w2
  have g0 : cs.toList[0]? = _ := drop_one e0
  have g1 : cs.toList[1]? = _ := drop_one e1
  have g2 : cs.toList[2]? = _ := drop_one e2
  refine ⟨pv, fv, pl, fl, n1, ?_, hp, hf, (i64_in i1).2⟩
  congr 1
  apply Array.ext_getElem?
  intro i
  rw [Array.getElem?_toList] at g0 g1 g2
  by_cases hi : i < 3
  · rcases (by omega : i = 0 ∨ i = 1 ∨ i = 2) with rfl | rfl | rfl
    · exact g0
    · exact g1
    · exact g2
  · rw [Array.getElem?_eq_none (by omega), Array.getElem?_eq_none (by simp; omega)]
end
end Go.Proofs.Ytjkjiabfhhnngaa
