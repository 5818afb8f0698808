import Derived.ProofKit
import Derived.OpenShut
import Derived.SizedLaws
import Derived.Deep.Slices
import Derived.Carry
import Derived.Test.YtjkjiabfhhnngaaBase
import Derived.WideShapes
import Derived.ChangeArms
/-! What came in, read as plain data: bytes, slices of bytes. -/
namespace Sg
open Go Go.RowKit Go.ChangeShapes Go.WideShapes Go.ChangeAt Go.Deep

section
variable {H : Type} {enc : TypeId × Value → H} {P : Program} {w : World}

theorem weights_at {ts : List TypeId} {ds : List (DataW H)} (h : (DataW.weightsEach P ts ds).all (· ≤ reachBytes) = true) {j : Nat} {t : TypeId} {d : DataW H} (ht : ts[j]? = some t) (hd : ds[j]? = some d) :
    ∀ x ∈ d.weights P t, x ≤ reachBytes := by
  intro x hx
  have := List.all_eq_true.1 h _ (DataW.weights_mem_each ht hd x hx)
  simpa using this

theorem bytes_of {t e : TypeId} {v : Value} {d : DataW H} {ps : List MemPlace} (ht : P.underlying t = some (.slice e)) (he : P.underlying e = some (.int .u8)) (hc : P.cellsOf e = 1) (hb : P.bytesOf e = 1)
    (hv : ∃ a n c, v = .slice a n c) (h : DataW.Trod enc P w 0 (fun _ => true) true t v d ps) (hw : ∀ x ∈ d.weights P t, x ≤ reachBytes) : ∃ l : List UInt8, Bytes w v l := by
  obtain ⟨a0, n, c, rfl⟩ := hv
  obtain ⟨fuel, hf⟩ := h
  rcases open_ints ht he hc hf with ⟨hcs, _⟩ | ⟨a, len, cap, zs, hcs, _, hl, hm, hz, hx, hcell, hwz⟩
  · simp [Value.cells] at hcs
    obtain ⟨rfl, rfl, rfl⟩ := hcs
    exact ⟨[], Bytes.nil w⟩
  · simp [Value.cells] at hcs
    obtain ⟨rfl, rfl, rfl⟩ := hcs
    simp at hz
    have hd : d = .slice (lits .u8 (zs.take n)) (lits .u8 (zs.drop n)) := by
      have := congrArg Prod.fst hx; simpa using this
    subst hd
    have hsz := hw _ (by simp only [DataW.weights, ht]; exact List.mem_cons_self)
    rw [hb] at hsz
    simp [lits, reachBytes] at hsz
    have hlen : ((zs.take n).map fun z => UInt8.ofNat z.toNat).length = n := by simp; omega
    refine ⟨(zs.take n).map fun z => UInt8.ofNat z.toNat, some a, c, by rw [hlen], by omega, by omega, by simp, ?_⟩
    intro ad e i hi
    cases e
    have hi' : i < n := by omega
    rw [hcell i (by omega)]
    have hzi : i < zs.length := by omega
    have hwf := hwz zs[i] (List.getElem_mem hzi)
    have h1 : (IntKind.u8.min : Int) = 0 := rfl
    have h2 : (IntKind.u8.max : Int) = 255 := rfl
    simp only [Lit.wf, Bool.and_eq_true, decide_eq_true_eq, h1, h2] at hwf
    have e1 : zs.getD i 0 = zs[i] := by simp [List.getD, hzi]
    rw [e1]
    simp only [List.getElem_map, List.getElem_take]
    have e2 : ((UInt8.ofNat zs[i].toNat).toNat : Int) = zs[i] := by
      rw [UInt8.toNat_ofNat']
      omega
    rw [e2]

theorem cells_one {base : Nat} {a : Addr} {cs : List Value} (h : w.cells? base a 1 = some cs) : ∃ v, cs = [v] ∧ w.cell? a = some v := by
  unfold World.cells? at h
  split at h
  · simp [List.range_succ, Addr.add] at h
    cases hc : w.cell? a with
    | none => simp [hc] at h
    | some v => simp [hc] at h; exact ⟨v, h.symm, rfl⟩
  · cases h

theorem weights_all_mem {e : TypeId} : ∀ {l : List (DataW H)} {d : DataW H}, d ∈ l → ∀ x ∈ d.weights P e, x ∈ DataW.weightsAll P e l
  | d' :: r, d, hd, x, hx => by
    rw [DataW.weightsAll]
    rcases List.mem_cons.1 hd with rfl | hd
    · exact List.mem_append_left _ hx
    · exact List.mem_append_right _ (weights_all_mem hd x hx)

/-- a slice that reads as one: its value -/
theorem slice_value {t e : TypeId} {fuel : Nat} {v : Value} {x : DataW H × List MemPlace} (ht : P.underlying t = some (.slice e)) (h : DataW.trod enc P w 0 (fun _ => true) true fuel t [v] = some x) : ∃ a n c, v = .slice a n c := by
  rcases open_slice ht h with ⟨hcs, _⟩ | ⟨a, len, cap, m, n, D, Pl, hcs, _⟩
  · simp at hcs; exact ⟨_, _, _, hcs⟩
  · simp at hcs; exact ⟨_, _, _, hcs⟩

theorem pieces_of {t s e : TypeId} {v : Value} {d : DataW H} {ps : List MemPlace} (ht : P.underlying t = some (.slice s)) (hs : P.underlying s = some (.slice e)) (he : P.underlying e = some (.int .u8)) (hcs : P.cellsOf s = 1) (hbs : P.bytesOf s = 24) (hc : P.cellsOf e = 1) (hb : P.bytesOf e = 1)
    (hv : ∃ a n c, v = .slice a n c) (h : DataW.Trod enc P w 0 (fun _ => true) true t v d ps) (hw : ∀ x ∈ d.weights P t, x ≤ reachBytes) : ∃ l : List (Value × List UInt8), Pieces w v l := by
  obtain ⟨a0, n, c, rfl⟩ := hv
  obtain ⟨fuel, hf⟩ := h
  rcases open_slice ht hf with ⟨hcs0, _⟩ | ⟨a, len, cap, m, n', D, Pl, hcs0, _, hl, hm, hm0, hx, hel⟩
  · simp [Value.cells] at hcs0
    obtain ⟨rfl, rfl, rfl⟩ := hcs0
    exact ⟨[], Pieces.nil w⟩
  · simp [Value.cells] at hcs0
    obtain ⟨rfl, rfl, rfl⟩ := hcs0
    simp at hm0
    subst hm0
    have hd : d = .slice ((List.range n).map D) ((List.range (m - n)).map fun j => D (n + j)) := by
      have := congrArg Prod.fst hx; simpa using this
    subst hd
    have hsz := hw _ (by simp only [DataW.weights, ht]; exact List.mem_cons_self)
    rw [hbs] at hsz
    simp [reachBytes] at hsz
    have each : ∀ i, i < n → ∃ p : Value × List UInt8, w.cell? (a.add i) = some p.1 ∧ Bytes w p.1 p.2 := by
      intro i hi
      obtain ⟨cs', h1, h2⟩ := hel i (by omega)
      rw [hcs, Nat.mul_one] at h1
      obtain ⟨u, rfl, hu⟩ := cells_one h1
      have hval := slice_value hs h2
      have hcu : u.cells.toList = [u] := by obtain ⟨_, _, _, rfl⟩ := hval; rfl
      obtain ⟨l, hl⟩ := bytes_of (enc := enc) (ps := Pl i) hs he hc hb hval ⟨n', by rw [hcu]; exact h2⟩ (fun x hx' => hw x (by
        simp only [DataW.weights, ht]
        exact List.mem_cons_of_mem _ (List.mem_append_left _ (weights_all_mem (List.mem_map.2 ⟨i, List.mem_range.2 hi, rfl⟩) x hx'))))
      exact ⟨(u, l), hu, hl⟩
    refine ⟨(List.range n).attach.map fun i => Classical.choose (each i.1 (List.mem_range.1 i.2)), some a, m, by simp, by simp; omega, ⟨by omega, by simp; omega⟩, by simp, ?_⟩
    intro ad e i hi
    cases e
    have hi' : i < n := by simpa using hi
    simp only [List.getElem_map, List.getElem_attach, List.getElem_range]
    exact Classical.choose_spec (each i hi')
end
end Sg

/-! A field of a struct that came in, and what it weighs. -/
namespace Sg
open Go Go.RowKit Go.ChangeShapes Go.WideShapes
variable {H : Type} {enc : TypeId × Value → H} {w : World} {P : Program}

theorem drop_one {cs : List Value} {i : Nat} {u : Value} (h : (cs.drop i).take 1 = [u]) : cs[i]? = some u := by
  have h4 := congrArg (fun l => l[0]?) h
  simpa [List.getElem?_drop] using h4

theorem field_trod {t : TypeId} {fs : Array Field} {fuel : Nat} {cs : List Value} {x : DataW H × List MemPlace} (ht : P.underlying t = some (.struct fs)) (h : DataW.trod enc P w 0 (fun _ => true) true fuel t cs = some x) (hw : ∀ y ∈ x.1.weights P t, y ≤ reachBytes)
    (i : Nat) (f : Field) (hf : fs[i]? = some f) : ∃ (n : Nat) (z : DataW H × List MemPlace), DataW.trod enc P w 0 (fun _ => true) true n f.type ((cs.drop f.offset).take (P.cellsOf f.type)) = some z ∧ ∀ y ∈ z.1.weights P f.type, y ≤ reachBytes := by
  obtain ⟨xs, n, -, hx, -, hl, hall⟩ := DataW.trod_struct ht h
  have h1 := hall i f hf
  have hi : i < xs.length := by rw [hl]; exact (Array.getElem?_eq_some_iff.1 hf).1
  rw [List.getElem?_eq_getElem hi] at h1
  refine ⟨n, _, h1, fun y hy => hw y ?_⟩
  rw [hx]
  simp only [DataW.weights, ht]
  refine DataW.weights_mem_each (j := i) (t := f.type) (d := xs[i].1) ?_ ?_ y hy
  · simp [hf]
  · simp [hi]
end Sg
