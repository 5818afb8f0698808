import Derived.Test.YtjkjiabfhhnngaaFlash13
import Derived.Test.YtjkjiabfhhnngaaActs
/-! The chapter's light, and acts that came in, one by one. -/
namespace Go.Proofs.Ytjkjiabfhhnngaa
open Go.RowKit Sg
set_option linter.unusedSimpArgs false
set_option linter.unusedVariables false

theorem Acts.keep {w w' : World} {v : Value} {l : List FAct} (h : Acts w v l) (k : Keep [] w w') : Acts w' v l := by
  obtain ⟨ao, cap, e, h1, h2, h3, h4, h5⟩ := h
  exact ⟨ao, cap, e, h1, h2, h3, fun x hx => ⟨(h4 x hx).at1, (h4 x hx).at2, (h4 x hx).len, (h4 x hx).fates.keep k (by simp)⟩, fun ad e i hi j v hv => k.cell (by simp) (h5 ad e i hi j v hv)⟩
/-- one act's cells, and what it says of itself -/
theorem Acts.act {w w' : World} {b o n cap : Nat} {l : List FAct} (h : Acts w (.slice (some ⟨b, o, none⟩) n cap) l) (k : Keep [] w w') {i : Nat} (hi : i < l.length) :
    w'.cell? ⟨b, o + i * 5, none⟩ = some (.int .i64 l[i].kind) ∧ w'.cell? ⟨b, o + i * 5 + 1, none⟩ = some (.int .i64 l[i].at_) ∧ w'.cell? ⟨b, o + i * 5 + 2, none⟩ = some (.int .i64 l[i].len) ∧
    w'.cell? ⟨b, o + i * 5 + 3, none⟩ = some (.int .u8 (l[i].b.toNat : Int)) ∧ w'.cell? ⟨b, o + i * 5 + 4, none⟩ = some l[i].fv ∧ l[i].Ok w := by
  obtain ⟨b', o', e, -, hc⟩ := h.spot (by omega)
  cases e
  refine ⟨k.cell (by simp) (hc i hi 0 _ rfl), k.cell (by simp) (hc i hi 1 _ rfl), k.cell (by simp) (hc i hi 2 _ rfl), k.cell (by simp) (hc i hi 3 _ rfl), k.cell (by simp) (hc i hi 4 _ rfl), ?_⟩
  obtain ⟨_, _, _, _, _, _, hok, _⟩ := h
  exact hok _ (List.getElem_mem hi)
theorem Ints.lt {w : World} {v : Value} {l : List Int} (h : Ints w v l) (hl : l ≠ []) : ∀ b, v.ownBlock = some b → b < w.heap.size := by
  intro b hb
  obtain ⟨ao, cap, rfl, -⟩ := h.form
  obtain ⟨b', o, rfl, hlt, -⟩ := h.spot (List.length_pos_iff.2 hl)
  simp [Value.ownBlock] at hb
  omega

set_option maxRecDepth 100000 in
set_option maxHeartbeats 1000000 in
theorem light_any (w : World) (v : Value) (l : List FAct) (h : Acts w v l) : Calls Try.prog 12 #[v] w fun e w' => ∃ x : Bool, e = .returned (.bool x) ∧ w = w' ∧ (x = true → l.length ≤ 40) := by
  obtain ⟨ao, cap, rfl, hlc, hm, hcap⟩ := h.form
  by_cases h1 : 40 < l.length
  · have h1' : (40 : Int) < (l.length : Int) := by omega
    go_enter Try.func12, Try.ntmps12
    go_wp2
    go_ret
    exact ⟨false, rfl, rfl, by simp⟩
  have h1' : ¬ (40 : Int) < (l.length : Int) := by omega
  have H := Lib.hid h
  clear h
  go_enter Try.func12, Try.ntmps12
  go_wp2
  go_loopw [3] (fun i wr => ∃ k : Nat, k ≤ l.length ∧ i = .int .i64 k ∧ wr = w) (fun i _ => l.length - (intOf i).toNat)
  case atStart => exact ⟨0, by omega, rfl, rfl⟩
  case round =>
    obtain ⟨k, hk, rfl, rfl⟩ := hrel
    by_cases hlt : k < l.length
    · obtain ⟨b, o, rfl, -, -⟩ := H.out.spot (by omega)
      obtain ⟨-, -, -, -, c4, hok⟩ := H.out.act (Keep.refl [] _) hlt
      obtain ⟨a, hA⟩ : ∃ a, l[k] = a := ⟨_, rfl⟩
      rw [hA] at c4 hok
      obtain ⟨fa, fc, hfv, hfl, hfm, -⟩ := hok.fates.form
      rw [hfv] at c4
      by_cases hf : 60 < a.fates.length
      · have hf' : (60 : Int) < (a.fates.length : Int) := by omega
        clear hA hok hfv
        go_wp2
        go_ret
        exact ⟨false, rfl, rfl, by simp⟩
      · have hf' : ¬ (60 : Int) < (a.fates.length : Int) := by omega
        clear hA hok hfv
        go_wp2
        go_roundw
        case rel => exact ⟨k + 1, by omega, by go_num, trivial⟩
        case measure => simp [intOf]; omega
    · go_wp2
      go_ret
      exact ⟨true, rfl, rfl, fun _ => by omega⟩
end Go.Proofs.Ytjkjiabfhhnngaa
