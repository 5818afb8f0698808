import Derived.Test.YtjkjiabfhhnngaaActs
/-! Puts that came in, opened. -/
namespace Go.Proofs.Ytjkjiabfhhnngaa
open Go.ChangeShapes Go.WideShapes Go.ChangeAt Go.Deep Go.RowKit Sg
set_option linter.unusedSimpArgs false
set_option linter.unusedVariables false

/-- a put, as it came in -/
structure KPut where
  at_ : Int
  k : Int
  p : Int
  s : Int
  lb : ByteArray
  raw : Bool
  bv : Value
  b : List UInt8
def KPut.cells (a : KPut) : List Value := [.int .i64 a.at_, .int .i64 a.k, .int .i64 a.p, .int .i64 a.s, .string a.lb, .bool a.raw, a.bv]
structure KPut.Ok (w : World) (a : KPut) : Prop where
  s : a.s ≤ 9223372036854775807
  lb : a.lb.size ≤ 140737488355328
  b : Bytes w a.bv a.b
def KPuts (w : World) (v : Value) (l : List KPut) : Prop :=
  ∃ ao cap, v = .slice ao l.length cap ∧ l.length ≤ cap ∧ (cap ≤ 9223372036854775807 ∧ l.length ≤ 140737488355328) ∧ (ao = none → l = []) ∧ (∀ x ∈ l, x.Ok w) ∧
    ∀ ad, ao = some ad → ∀ i (h : i < l.length) j v, l[i].cells[j]? = some v → w.cell? ((ad.add (i * 7)).add j) = some v
theorem KPuts.nil (w : World) : KPuts w (.slice none 0 0) [] := ⟨none, 0, rfl, by simp, ⟨by decide, by decide⟩, fun _ => rfl, by simp, fun _ h => by cases h⟩
theorem KPuts.form {w : World} {v : Value} {l : List KPut} (h : KPuts w v l) : ∃ ao cap, v = .slice ao l.length cap ∧ l.length ≤ cap ∧ l.length ≤ 140737488355328 ∧ cap ≤ 9223372036854775807 := by
  obtain ⟨ao, cap, rfl, h1, h2, _⟩ := h
  exact ⟨ao, cap, rfl, h1, h2.2, h2.1⟩
theorem KPuts.each {w : World} {v : Value} {l : List KPut} (h : KPuts w v l) {i : Nat} (hi : i < l.length) : l[i].Ok w := by
  obtain ⟨ao, cap, rfl, h1, h2, h3, h4, h5⟩ := h
  exact h4 _ (List.getElem_mem hi)
theorem KPuts.spot {w : World} {ao : Option Addr} {n cap : Nat} {l : List KPut} (h : KPuts w (.slice ao n cap) l) {i : Nat} (hi : i < l.length) :
    ∃ b o, ao = some ⟨b, o, none⟩ ∧ b < w.heap.size ∧ ∀ w', Keep [] w w' → ∀ j v, l[i].cells[j]? = some v → w'.cell? ⟨b, o + i * 7 + j, none⟩ = some v := by
  obtain ⟨ao', cap', e, h1, h2, h3, h5, h4⟩ := h
  cases e
  cases ao with
  | none => rw [h3 rfl] at hi; simp at hi
  | some ad =>
    have h0 := h4 ad rfl 0 (by omega) 0 _ rfl
    rw [Nat.zero_mul, show (ad.add 0).add 0 = ad by simp [Addr.add]] at h0
    have hs : ad.spot = none := by
      cases hsp : ad.spot with
      | none => rfl
      | some x =>
        unfold World.cell? at h0
        split at h0
        · simp [hsp] at h0
        · cases h0
    obtain ⟨b, o, sp⟩ := ad
    simp only at hs
    subst hs
    refine ⟨b, o, rfl, World.block_lt_of_cell? w _ h0, fun w' hk j v hv => ?_⟩
    have g := hk.cell (by simp) (h4 _ rfl i hi j v hv)
    simp only [Addr.add_lit] at g
    exact g

section
variable {H : Type} {enc : TypeId × Value → H} {w : World}
theorem bytes_trod {P : Program} {t e : TypeId} (ht : P.underlying t = some (.slice e)) (he : P.underlying e = some (.int .u8)) (hc : P.cellsOf e = 1) (hb : P.bytesOf e = 1)
    {fuel : Nat} {cs : List Value} {x : DataW H × List MemPlace} (h : DataW.trod enc P w 0 (fun _ => true) true fuel t cs = some x) (hw : ∀ y ∈ x.1.weights P t, y ≤ reachBytes) : ∃ (v : Value) (l : List UInt8), cs = [v] ∧ Bytes w v l := by
  rcases open_ints ht he hc h with ⟨hcs, _⟩ | ⟨a, n, c, zs, hcs, _, hl, hm, hz, hx, hcell, hwz⟩
  · exact ⟨_, [], hcs, Bytes.nil w⟩
  · simp at hz
    have hd : x.1 = .slice (lits .u8 (zs.take n)) (lits .u8 (zs.drop n)) := by
      have := congrArg Prod.fst hx; simpa using this
    rw [hd] at hw
    have hsz := hw _ (by simp only [DataW.weights, ht]; exact List.mem_cons_self)
    rw [hb] at hsz
    simp [lits, reachBytes] at hsz
    have hlen : ((zs.take n).map fun z => UInt8.ofNat z.toNat).length = n := by simp; omega
    refine ⟨_, (zs.take n).map fun z => UInt8.ofNat z.toNat, hcs, some a, c, by rw [hlen], by omega, by omega, by simp, ?_⟩
    intro ad e i hi
    cases e
    have hi' : i < n := by omega
    rw [hcell i (by omega)]
    have hzi : i < zs.length := by omega
    have hwf := hwz zs[i] (List.getElem_mem hzi)
    have h1 : (IntKind.u8.min : Int) = 0 := rfl
    have h2 : (IntKind.u8.max : Int) = 255 := rfl
    simp only [Lit.wf, Bool.and_eq_true, decide_eq_true_eq, h1, h2] at hwf
    have e1 : zs.getD i 0 = zs[i] := by simp [List.getD, hzi]
    rw [e1]
    simp only [List.getElem_map, List.getElem_take]
    have e2 : ((UInt8.ofNat zs[i].toNat).toNat : Int) = zs[i] := by
      rw [UInt8.toNat_ofNat']
      omega
    rw [e2]

set_option maxRecDepth 100000 in
theorem kput_trod {fuel : Nat} {cs : List Value} {x : DataW H × List MemPlace} (h : DataW.trod enc Try.prog w 0 (fun _ => true) true fuel 69 cs = some x) (hw : ∀ y ∈ x.1.weights Try.prog 69, y ≤ reachBytes) :
    ∃ a : KPut, a.Ok w ∧ ∀ (j : Nat) (v : Value), a.cells[j]? = some v → cs[j]? = some v := by
  obtain ⟨m0, z0, h0, -⟩ := field_trod Try.underlying69 h hw 0 _ rfl
  obtain ⟨m1, z1, h1, w1⟩ := field_trod Try.underlying69 h hw 1 _ rfl
  obtain ⟨m2, z2, h2, -⟩ := field_trod Try.underlying69 h hw 2 _ rfl
  obtain ⟨m3, z3, h3, w3⟩ := field_trod Try.underlying69 h hw 3 _ rfl
  obtain ⟨m4, z4, h4, -⟩ := field_trod Try.underlying67 h1 w1 0 _ rfl
  obtain ⟨m5, z5, h5, -⟩ := field_trod Try.underlying67 h1 w1 1 _ rfl
  obtain ⟨m6, z6, h6, -⟩ := field_trod Try.underlying67 h1 w1 2 _ rfl
  obtain ⟨m7, z7, h7, w7⟩ := field_trod Try.underlying67 h1 w1 3 _ rfl
  obtain ⟨n0, e0, -, i0⟩ := DataW.trod_int Try.underlying3 h0
  obtain ⟨n2, e2, -⟩ := DataW.trod_bool Try.underlying4 h2
  obtain ⟨bv, bl, e3, hb⟩ := bytes_trod Try.underlying42 Try.underlying5 (by kernel_rfl) (by kernel_rfl) h3 w3
  obtain ⟨n4, e4, -, i4⟩ := DataW.trod_int Try.underlying3 h4
  obtain ⟨n5, e5, -, i5⟩ := DataW.trod_int Try.underlying3 h5
  obtain ⟨n6, e6, -, i6⟩ := DataW.trod_int Try.underlying3 h6
  obtain ⟨s7, e7, hz7, -⟩ := DataW.trod_string Try.underlying9 h7
  have c0 : cs[0]? = _ := drop_one e0
  have c2 : cs[5]? = _ := drop_one e2
  have c3 : cs[6]? = _ := drop_one e3
  have c4 : ((cs.drop 1).take 4)[0]? = _ := drop_one e4
  have c5 : ((cs.drop 1).take 4)[1]? = _ := drop_one e5
  have c6 : ((cs.drop 1).take 4)[2]? = _ := drop_one e6
  have c7 : ((cs.drop 1).take 4)[3]? = _ := drop_one e7
  rw [List.getElem?_take, if_pos (by omega), List.getElem?_drop] at c4 c5 c6 c7
  have hs7 : s7.size ≤ 140737488355328 := by
    have := w7 s7.data.toList.length (by rw [hz7]; simp [DataW.weights])
    simp [reachBytes] at this
    have e5 : s7.size = s7.data.size := rfl
    omega
  refine ⟨⟨n0, n4, n5, n6, s7, n2, bv, bl⟩, ⟨(i64_in i6).2, hs7, hb⟩, fun j v hv => ?_⟩
  match j, hv with
  | 0, hv => exact c0.trans hv
  | 1, hv => exact c4.trans hv
  | 2, hv => exact c5.trans hv
  | 3, hv => exact c6.trans hv
  | 4, hv => exact c7.trans hv
  | 5, hv => exact c2.trans hv
  | 6, hv => exact c3.trans hv

set_option maxRecDepth 100000 in
theorem kputs_trod {fuel : Nat} {cs : List Value} {x : DataW H × List MemPlace} (h : DataW.trod enc Try.prog w 0 (fun _ => true) true fuel 63 cs = some x) (hw : ∀ y ∈ x.1.weights Try.prog 63, y ≤ reachBytes) :
    ∃ (v : Value) (l : List KPut), cs = [v] ∧ KPuts w v l := by
  rcases open_slice Try.underlying63 h with ⟨rfl, _⟩ | ⟨a, n, c, m, n', D, Pl, rfl, _, hl, hm, hm0, hx, hel⟩
  · exact ⟨_, [], rfl, KPuts.nil w⟩
  · simp at hm0
    subst hm0
    subst hx
    have hsz := hw _ (by simp only [DataW.weights, Try.underlying63]; exact List.mem_cons_self)
    rw [show Try.prog.bytesOf 69 = 80 by kernel_rfl] at hsz
    simp [reachBytes] at hsz
    simp [maxLen] at hm
    have each : ∀ i, i < n → ∃ p : KPut, p.Ok w ∧ ∀ (j : Nat) (v : Value), p.cells[j]? = some v → w.cell? ((a.add (i * 7)).add j) = some v := by
      intro i hi
      obtain ⟨cs', h1, h2⟩ := hel i (by omega)
      rw [show Try.prog.cellsOf 69 = 7 by kernel_rfl] at h1
      obtain ⟨p, hp, hc⟩ := kput_trod h2 (fun y hy => hw y (by
        simp only [DataW.weights, Try.underlying63]
        exact List.mem_cons_of_mem _ (List.mem_append_left _ (weights_all_mem (List.mem_map.2 ⟨i, List.mem_range.2 hi, rfl⟩) y hy))))
      obtain ⟨-, hcl, hcc⟩ := World.cells?_some h1
      refine ⟨p, hp, fun j v hv => ?_⟩
      have hj : j < 7 := (List.getElem?_eq_some_iff.1 hv).1
      exact (hcc j hj).trans (hc j v hv)
    refine ⟨_, (List.range n).attach.map fun i => Classical.choose (each i.1 (List.mem_range.1 i.2)), rfl, some a, m, by simp, by simp; omega, ⟨by omega, by simp; omega⟩, by simp, ?_, ?_⟩
    · intro x hx
      obtain ⟨i, -, rfl⟩ := List.mem_map.1 hx
      exact (Classical.choose_spec (each i.1 (List.mem_range.1 i.2))).1
    · intro ad e i hi j v hv
      cases e
      have hi' : i < n := by simpa using hi
      simp only [List.getElem_map, List.getElem_attach, List.getElem_range] at hv
      exact (Classical.choose_spec (each i hi')).2 j v hv

set_option maxRecDepth 100000 in
theorem kept_of {v : Value} {d : DataW H} {ps : List MemPlace} {r : Reach} {b : Nat} (hv : Value.okWide Try.prog w r b 65 v) (h : DataW.Trod enc Try.prog w 0 (fun _ => true) true 65 v d ps) (hw : ∀ y ∈ d.weights Try.prog 65, y ≤ reachBytes) :
    ∃ (pv fv : Value) (pl : List KPut) (fl : List Int) (kd pc : Int), v = .agg #[pv, fv, .int .i64 kd, .int .i64 pc] ∧ KPuts w pv pl ∧ Ints w fv fl := by
  obtain ⟨cs, rfl, hsz⟩ := okWide_struct Try.underlying65 hv
  have hsz' : cs.size = 4 := hsz.trans (by kernel_rfl)
  obtain ⟨fuel, hd⟩ := h
  obtain ⟨m0, z0, h0, w0⟩ := field_trod Try.underlying65 hd hw 0 _ rfl
  obtain ⟨m1, z1, h1, w1⟩ := field_trod Try.underlying65 hd hw 1 _ rfl
  obtain ⟨m2, z2, h2, w2⟩ := field_trod Try.underlying65 hd hw 2 _ rfl
  obtain ⟨m3, z3, h3, w3⟩ := field_trod Try.underlying65 hd hw 3 _ rfl
  obtain ⟨pv, pl, e0, hp⟩ := kputs_trod h0 w0
  obtain ⟨fv, fl, e1, hf⟩ := ints_trod h1 w1
  obtain ⟨n2, e2, -, i2⟩ := DataW.trod_int Try.underlying3 h2
  obtain ⟨n3, e3, -, i3⟩ := DataW.trod_int Try.underlying3 h3
  have g0 : cs.toList[0]? = _ := drop_one e0
  have g1 : cs.toList[1]? = _ := drop_one e1
  have g2 : cs.toList[2]? = _ := drop_one e2
  have g3 : cs.toList[3]? = _ := drop_one e3
  refine ⟨pv, fv, pl, fl, n2, n3, ?_, hp, hf⟩
  congr 1
  apply Array.ext_getElem?
  intro i
  rw [Array.getElem?_toList] at g0 g1 g2 g3
  by_cases hi : i < 4
  · rcases (by omega : i = 0 ∨ i = 1 ∨ i = 2 ∨ i = 3) with rfl | rfl | rfl | rfl
    · exact g0
    · exact g1
    · exact g2
    · exact g3
  · rw [Array.getElem?_eq_none (by omega), Array.getElem?_eq_none (by simp; omega)]
end
end Go.Proofs.Ytjkjiabfhhnngaa
