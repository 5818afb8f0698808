import Derived.Test.YtpodbekiaagfcaaFlash10
import Derived.Test.YtpodbekiaagfcaaCopy
import Derived.Outline
/-! The walk of the law FlashPieces. -/
namespace Go.Proofs.Ytpodbekiaagfcaa
open Go.RowKit Sg
set_option linter.unusedSimpArgs false
set_option linter.unusedVariables false

theorem wpList_copy_run {P : Program} {ops : Array Oper} {Q : Exit → Act → World → Prop} {w : World} {rest : List Oper} {o : Oper} {a : Act} (hg : o.guard = none) (s x : Operand) (t : TypeId) (hop : o.op = Op.call { callee := Callee.builtin Builtin.copy, args := #[s, x], argTypes := #[t, t] })
    {v src v' : Value} {w' : World} (hs : a.eval s = v) (hx : a.eval x = src) (hrun : (Builtin.copy_ #[t, t] o.type #[v, src]).run P w = .ok v' w') (hK : wpList P ops Q rest (a.put o.dst v') w') : wpList P ops Q (o :: rest) a w := by
  refine wpList_plain hg fun _ hK' => loudly_wp ?_
  have e1 : (execOp a.eval o).run P w = .ok (.value v') w' := by
    simp [execOp, hop, resolve, invoke, builtin, hs, hx, hrun, Result.andThen]
  unfold loudly
  rw [e1]
  exact hK' _ _ hK

def zeros512 : List UInt8 := List.replicate 512 0
theorem zeros512_len : zeros512.length = 512 := List.length_replicate
/-- the pieces of a torn write -/
def fp0 : Dev := Dev.new 2 512
theorem fp_1 (x : List UInt8) (h : x.length = 512) : fp0.put 1 x = (fp0.write 1 x, 0) := by
  unfold Dev.put
  have h1 : fp0.ready 1 = 0 := by kernel_rfl
  rw [if_neg (by rw [h1]; simp), if_neg (by rw [h, show fp0.sz = 512 from rfl]; simp)]
  rfl
theorem fp_2 (x : List UInt8) : (fp0.write 1 x).sync = ((fp0.write 1 x).synced, 0) := by
  unfold Dev.sync
  rfl
theorem fp_3 (x y : List UInt8) (h : y.length = 512) : (fp0.write 1 x).synced.put 1 y = ((fp0.write 1 x).synced.write 1 y, 0) := by
  unfold Dev.put
  have h1 : ((fp0.write 1 x).synced).ready 1 = 0 := by rfl
  have h2 : ((fp0.write 1 x).synced).sz = 512 := rfl
  rw [if_neg (by rw [h1]; simp), if_neg (by rw [h, h2]; simp)]
  rfl
theorem fp_4 (x y : List UInt8) (f : Int) : (((fp0.write 1 x).synced.write 1 y).crash [f]).read 1 = (y.take (f % 513).toNat ++ x.drop (f % 513).toNat, 0) := by
  unfold Dev.read
  have h1 : (((fp0.write 1 x).synced.write 1 y).crash [f]).ready 1 = 0 := by rfl
  rw [if_neg (by rw [h1]; simp)]
  rfl
theorem fp_a1 (x : List UInt8) : (fp0.write 1 x).acts ≤ 1000000000 := by show 1 ≤ 1000000000; decide
theorem fp_a2 (x : List UInt8) : ((fp0.write 1 x).synced).acts ≤ 1000000000 := by show 2 ≤ 1000000000; decide
theorem fp_a3 (x y : List UInt8) : ((fp0.write 1 x).synced.write 1 y).acts ≤ 1000000000 := by show 3 ≤ 1000000000; decide
theorem fp_a4 (x y : List UInt8) (f : Int) : (((fp0.write 1 x).synced.write 1 y).crash [f]).acts = 3 := rfl
theorem ints_one (w : World) (a : Int) (ha : -9223372036854775808 ≤ a ∧ a ≤ 9223372036854775807) : Ints (w.alloc (.cells #[.int .i64 a] 3)) (.slice (some ⟨w.heap.size, 0, none⟩) 1 1) [a] := by
  refine ⟨some ⟨w.heap.size, 0, none⟩, 1, rfl, by simp, ⟨by decide, by simp⟩, by simp, by simp [ha], ?_⟩
  intro ad e i hi
  cases e
  rw [Addr.add_lit, Nat.zero_add, cell_of_row _ _ _ _ _ _ (heap_alloc_new _ _)]
  match i, hi with
  | 0, _ => rfl
theorem fate_513 (f : Int) : (if f.tmod 513 < 0 then f.tmod 513 + 513 else f.tmod 513) = f % 513 := by
  have h1 := Int.emod_nonneg f (show (513 : Int) ≠ 0 by decide)
  have h2 := Int.emod_lt_of_pos f (show (0 : Int) < 513 by decide)
  have h3 := Int.tmod_lt_of_pos f (show (0 : Int) < 513 by decide)
  have h4 := Int.lt_tmod_of_pos f (show (0 : Int) < 513 by decide)
  have h5 := Int.mul_tdiv_add_tmod f 513
  have h6 := Int.mul_ediv_add_emod f 513
  split <;> omega

theorem notin_grew {w : World} {D D' : List Nat} (h : Grew w D D') {b : Nat} (hb : b ∉ D) (hs : b < w.heap.size) : b ∉ D' := fun hm => (h.2 b hm).elim hb (fun h' => by omega)
theorem own_out {D : List Nat} {g n c : Nat} (h : g ∉ D) : ∀ b, (Value.slice (some ⟨g, 0, none⟩) n c).ownBlock = some b → b ∉ D := fun b hb => by
  simp [Value.ownBlock] at hb
  rw [← hb]
  exact h

set_option maxRecDepth 100000 in
set_option maxHeartbeats 1000000 in
set_option maxHeartbeats 8000000 in
theorem flashPiecesWalk (W : World) (v0 : Value) (l0 : List UInt8) (b0 : Bytes W v0 l0) (v1 : Value) (l1 : List UInt8) (b1 : Bytes W v1 l1) (a : Int) (wa : (Lit.int .i64 a).wf = true) :
    Calls Try.prog 3 #[v0, v1, .int .i64 a] W fun e W' => e = .returned (.bool true) ∧ Below W.heap.size W W' := by
  obtain ⟨ao0, cap0, rfl, hlc0, hm0, hcap0⟩ := b0.form
  obtain ⟨ao1, cap1, rfl, hlc1, hm1, hcap1⟩ := b1.form
  by_cases h0 : 512 < l0.length
  · have h0' : (512 : Int) < (l0.length : Int) := by omega
    go_enter Try.func3, Try.ntmps3
    go_wp2
    go_ret
    exact ⟨rfl, (Keep.refl [] W).below (Nat.le_refl _) (by simp)⟩
  have h0' : ¬ (512 : Int) < (l0.length : Int) := by omega
  by_cases h1 : 512 < l1.length
  · have h1' : (512 : Int) < (l1.length : Int) := by omega
    go_enter Try.func3, Try.ntmps3
    go_wp2
    go_ret
    exact ⟨rfl, (Keep.refl [] W).below (Nat.le_refl _) (by simp)⟩
  have h1' : ¬ (512 : Int) < (l1.length : Int) := by omega
  have hra := i64_in wa
  have cN : Calls Try.prog 12 #[.int .i64 2, .int .i64 512] W _ := newDev_any 2 512 (by decide) W
  go_enter Try.func3, Try.ntmps3
  go_wp2_with fail
  refine cN.mono ?_
  rintro e w1 ⟨g, D, rfl, hD, hk1, hf⟩
  clear cN
  have hD0 : DV w1 D g fp0 := hD
  clear hD
  go_wp2_with fail
  go_cut [8, 9] from 22 to 23 (fun s8 s9 wx => ∃ g1 g2, s8 = .slice (some ⟨g1, 0, none⟩) 512 512 ∧ s9 = .slice (some ⟨g2, 0, none⟩) 512 512 ∧ OwnB wx w1.heap.size 5 (.slice (some ⟨g1, 0, none⟩) 512 512) zeros512 ∧ OwnB wx w1.heap.size 5 (.slice (some ⟨g2, 0, none⟩) 512 512) zeros512 ∧ w1.heap.size ≤ g1 ∧ w1.heap.size ≤ g2 ∧ g1 ≠ g2 ∧ Keep [] w1 wx)
  case first =>
    have mk : ∀ w, (Instr.makeSlice 22 (.int .i64 512) (.int .i64 512)).run Try.prog w = .ok (.slice (some ⟨w.heap.size, 0, none⟩) 512 512) (w.alloc (.cells (List.replicate 512 (u8v 0)).toArray 5)) := fun w => run_make_cells (P := Try.prog) (w := w) 22 5 Try.underlying22 (by kernel_rfl) .i64 .i64 512 (by omega)
    have m1 : OwnB _ _ _ _ zeros512 := OwnB.made (w := w1) w1.heap.size 5 512 (by omega) (Nat.le_refl _)
    have m2 : OwnB _ _ _ _ zeros512 := OwnB.made (w := w1.alloc (.cells (List.replicate 512 (u8v 0)).toArray 5)) w1.heap.size 5 512 (by omega) (by simp)
    obtain ⟨Z, hZ⟩ : ∃ Z : Array Value, (List.replicate 512 (u8v 0)).toArray = Z := ⟨_, rfl⟩
    rw [hZ] at mk m1 m2
    clear hZ
    have m1' := (m1.keep (((Keep.refl [] _).alloc (.cells Z 5)).drew) (by simp))
    have m2' := (m2.keep ((Keep.refl [] _).drew) (by simp))
    have hkk : Keep [] w1 ((w1.alloc (.cells Z 5)).alloc (.cells Z 5)).drew := (((Keep.refl [] w1).alloc _).alloc _).drew
    rw [show (w1.alloc (.cells Z 5)).heap.size = w1.heap.size + 1 by simp] at m2'
    clear m1 m2
    go_region
    · go_wp2_with fail
      go_meet
      case rel => exact ⟨_, _, rfl, rfl, m1', m2', by omega, by omega, by omega, hkk⟩
    · go_wp2_with fail
      go_meet
      case rel => exact ⟨_, _, rfl, rfl, m2', m1', by omega, by omega, by omega, hkk⟩
  case rest =>
  obtain ⟨g1, g2, rfl, rfl, ho1, ho2, hg1, hg2, hg12, hC⟩ := hcut
  have hxl : (l0 ++ zeros512.drop l0.length).length = 512 := by rw [List.length_append, List.length_drop, zeros512_len]; omega
  have hyl : (l1 ++ zeros512.drop l1.length).length = 512 := by rw [List.length_append, List.length_drop, zeros512_len]; omega
  have hlt := hD0.lt
  have hgD1 : g1 ∉ D := fun h => by have := hlt _ h; omega
  have hgD2 : g2 ∉ D := fun h => by have := hlt _ h; omega
  have hb0 : Bytes wc (.slice ao0 l0.length cap0) l0 := (b0.keep hk1 (by simp)).keep hC (by simp)
  have hk1s := hk1.size
  obtain ⟨w2, hrun1, ho1', hk2⟩ := run_copy_bytes (P := Try.prog) (t := 22) (ty := 3) Try.underlying22 (by kernel_rfl) ho1 hb0 (by rw [zeros512_len]; omega)
  have ho2' := ho2.keep hk2 (fun b hb hm => by simp [Value.ownBlock] at hb hm; omega)
  have hb1 : Bytes w2 (.slice ao1 l1.length cap1) l1 := by
    have h2 : Bytes wc (.slice ao1 l1.length cap1) l1 := (b1.keep hk1 (by simp)).keep hC (by simp)
    by_cases hl : l1 = []
    · subst hl
      obtain ⟨x, y, e, k1, k2, k3, k4⟩ := h2
      exact ⟨x, y, e, k1, k2, k3, fun ad e i hi => by simp at hi⟩
    · exact h2.keep hk2 (fun b hb hm => by
        have := b1.lt hl b hb
        rw [List.mem_singleton] at hm
        omega)
  obtain ⟨w3, hrun2, ho2'', hk3⟩ := run_copy_bytes (P := Try.prog) (t := 22) (ty := 3) Try.underlying22 (by kernel_rfl) ho2' hb1 (by rw [zeros512_len]; omega)
  have ho1'' := ho1'.keep hk3 (fun b hb hm => by simp [Value.ownBlock] at hb hm; omega)
  have hK13 : Keep [g1, g2] w1 w3 := ((hC.mono (by simp)).trans (hk2.mono (by simp))).trans (hk3.mono (by simp))
  have hD3 := hD0.keep hK13 (fun b hb => by simp at hb; rcases hb with rfl | rfl <;> assumption)
  have hK3 : Keep [] W w3 := hk1.trans' hK13 (fun b hb => by simp at hb; rcases hb with rfl | rfl <;> exact .inr (by omega))
  have hox := ho1''.base (Nat.zero_le _)
  have hoy := ho2''.base (Nat.zero_le _)
  generalize (l0 ++ zeros512.drop l0.length) = X at *
  generalize (l1 ++ zeros512.drop l1.length) = Y at *
  have HR1 := Lib.hid hrun1
  have HR2 := Lib.hid hrun2
  have HX := Lib.hid hox
  have HY := Lib.hid hoy
  have HG := Lib.hid (And.intro hgD1 hgD2)
  have HGS := Lib.hid (And.intro hg1 (And.intro hg2 hg12))
  clear hrun1 hrun2 hox hoy ho1 ho2 ho1' ho2' ho1'' ho2'' hk2 hk3 hK13 hb0 hb1 hD0 hC hlt hgD1 hgD2 hg1 hg2 hg12 hk1 hk1s b0 b1
  have hs1 := ownsRow_lt HX.out (b := g1) rfl
  have hs2 := ownsRow_lt HY.out (b := g2) rfl
  have hc4 := write_any w3 D g fp0 hD3 (by decide) 1 _ X (HX.out.bytes (by omega))
  rw [fp_1 X hxl] at hc4
  go_wp2_with (first | (refine wpList_copy_run rfl (.tmp 24) (.tmp 25) 22 rfl (v := .slice (some ⟨g1, 0, none⟩) 512 512) (src := .slice ao0 l0.length cap0) (w' := w2) rfl rfl HR1.out ?_) | (refine wpList_copy_run rfl (.tmp 27) (.tmp 28) 22 rfl (v := .slice (some ⟨g2, 0, none⟩) 512 512) (src := .slice ao1 l1.length cap1) (w' := w3) rfl rfl HR2.out ?_))
  clear HR1 HR2
  refine hc4.mono ?_
  rintro e w4 ⟨rfl, D4, hD4, hG4, hK4⟩
  obtain ⟨hkw4, hf4⟩ := dev_step hK3 hf hG4 hK4
  have hx4 := HX.out.keep hK4 (own_out HG.out.1)
  have hy4 := HY.out.keep hK4 (own_out HG.out.2)
  have n41 := notin_grew hG4 HG.out.1 hs1
  have n42 := notin_grew hG4 HG.out.2 hs2
  have hs1 := ownsRow_lt hx4 (b := g1) rfl
  have hs2 := ownsRow_lt hy4 (b := g2) rfl
  clear hc4 hD3 hK3 hf hG4 hK4 HX HY HG
  have hc5 := sync_any w4 D4 g _ hD4 (fp_a1 X)
  rw [fp_2 X] at hc5
  go_wp2_with fail
  refine hc5.mono ?_
  rintro e w5 ⟨rfl, D5, hD5, hG5, hK5⟩
  obtain ⟨hkw5, hf5⟩ := dev_step hkw4 hf4 hG5 hK5
  have hx5 := hx4.keep hK5 (own_out n41)
  have hy5 := hy4.keep hK5 (own_out n42)
  have n51 := notin_grew hG5 n41 hs1
  have n52 := notin_grew hG5 n42 hs2
  have hs1 := ownsRow_lt hx5 (b := g1) rfl
  have hs2 := ownsRow_lt hy5 (b := g2) rfl
  clear hc5 hD4 hkw4 hf4 hG5 hK5 hx4 hy4 n41 n42
  have hc6 := write_any w5 D5 g _ hD5 (fp_a2 X) 1 _ Y (hy5.bytes (by omega))
  rw [fp_3 X Y hyl] at hc6
  go_wp2_with fail
  refine hc6.mono ?_
  rintro e w6 ⟨rfl, D6, hD6, hG6, hK6⟩
  obtain ⟨hkw6, hf6⟩ := dev_step hkw5 hf5 hG6 hK6
  have hx6 := hx5.keep hK6 (own_out n51)
  have hy6 := hy5.keep hK6 (own_out n52)
  have n61 := notin_grew hG6 n51 hs1
  have n62 := notin_grew hG6 n52 hs2
  have hs1 := ownsRow_lt hx6 (b := g1) rfl
  have hs2 := ownsRow_lt hy6 (b := g2) rfl
  clear hc6 hD5 hkw5 hf5 hG6 hK6 hx5 hy5 n51 n52
  have hA := (Keep.refl [] w6).alloc (.cells #[.int .i64 a] 3)
  have hI := ints_one w6 a hra
  have hlt6 := hD6.lt
  have hc7 := crash_any _ D6 g _ (hD6.keep hA (by simp)) (fp_a3 X Y) _ [a] hI (by intro b hb hm; simp [Value.ownBlock] at hb; have := hlt6 b hm; omega)
  have hx6' := hx6.keep hA (by simp)
  have hy6' := hy6.keep hA (by simp)
  have hkw6' := hkw6.trans hA
  have hs1' : g1 < (w6.alloc (.cells #[.int .i64 a] 3)).heap.size := by simp; omega
  have hs2' : g2 < (w6.alloc (.cells #[.int .i64 a] 3)).heap.size := by simp; omega
  clear hA hI hlt6 hD6 hkw6 hx6 hy6 hs1 hs2
  go_wp2_with fail
  refine hc7.mono ?_
  rintro e w7 ⟨rfl, D7, hD7, hG7, hK7⟩
  obtain ⟨hkw7, hf7⟩ := dev_step hkw6' hf6 hG7 hK7
  have hx7 := hx6'.keep hK7 (own_out n61)
  have hy7 := hy6'.keep hK7 (own_out n62)
  clear hc7 hkw6' hf6 hG7 hK7 hx6' hy6' n61 n62 hs1' hs2'
  have hm7r := fp_4 X Y a
  have hm7a := fp_a4 X Y a
  generalize (((fp0.write 1 X).synced.write 1 Y).crash [a]) = m7 at *
  have h513 := fate_513 a
  obtain ⟨nn, hnn⟩ : ∃ nn : Nat, a % 513 = (nn : Int) := ⟨(a % 513).toNat, by omega⟩
  have hn512 : nn ≤ 512 := by omega
  rw [hnn] at hm7r h513
  rw [Int.toNat_natCast] at hm7r
  have hread := fun w (hD : DV w D7 g m7) => read_any w D7 g m7 hD (by rw [hm7a]; decide) 1
  rw [hm7r] at hread
  have hacts7 := fun w (hD : DV w D7 g m7) => acts_any w D7 g m7 hD
  rw [hm7a] at hacts7
  have hact3 : ∀ w, DV w D7 g m7 → Calls Try.prog 17 #[.pointer (some ⟨g, 0, none⟩)] w fun e w' => e = .returned (.int .i64 3) ∧ w = w' := hacts7
  have hlz : (Y.take nn ++ X.drop nn).length = 512 := by rw [List.length_append, List.length_take, List.length_drop]; omega
  have HREAD := Lib.hid hread
  have HACT := Lib.hid hact3
  clear hm7r hm7a hread hacts7 hact3 hnn
  have hneg : a.tmod 513 < 0 ∨ ¬ a.tmod 513 < 0 := by omega
  rcases hneg with hneg | hneg
  · rw [if_pos hneg] at h513
    have hw1 : RowKit.wrap64 (a.tmod 513 + 513) = (nn : Int) := by rw [h513]; unfold RowKit.wrap64; omega
    go_wp2_with fail
    refine (HREAD.out w7 hD7).mono ?_
    rintro e w8 ⟨v8, rfl, ho8, hk8⟩
    have hbz := ho8.bytes (by rw [hlz]; decide)
    obtain ⟨za, zc, rfl, -⟩ := hbz.form
    rw [hlz] at hbz
    have hD8 := hD7.keep hk8 (by simp)
    have hkw8 := hkw7.trans hk8
    have hby := ((hy7.keep hk8 (by simp)).bytes (by omega)).take (k := nn) (by omega)
    have hbx0 := ((hx7.keep hk8 (by simp)).bytes (by omega)).drop (k := nn) (by omega)
    rw [hxl] at hbx0
    have HD8 := Lib.hid hD8
    clear ho8 hD7 hkw7 hk8 hx7 hy7 hD8 HREAD
    have t1 : (nn : Int) ≤ 512 := by omega
    by_cases hkn : 512 = nn
    · rw [if_pos hkn] at hbx0
      subst hkn
      have hbx : Bytes w8 (.slice (some ⟨g1, 0, none⟩) 0 0) (X.drop 512) := hbx0
      clear hbx0
      go_wp2_with fail
      refine wp_region_his [] [22] (fun _ => 0) (by kernel_rfl) (by kernel_rfl) ?_
      intro w9 hk9 hh
      clear hh
      have hcat : (⟨(Y.take 512 ++ X.drop 512).toArray⟩ : ByteArray) = ⟨(Y.take 512).toArray⟩ ++ ⟨(X.drop 512).toArray⟩ := by
        apply ByteArray.ext
        simp
      have qz : ∀ w', Keep [] w9 w' → Sem.run Try.prog (convert 22 9 (.slice za 512 zc)) w' = .ok (.string ⟨(Y.take 512 ++ X.drop 512).toArray⟩) w' := fun w' h => run_str (P := Try.prog) 22 9 5 Try.underlying22 Try.underlying5 Try.underlying9 (hbz.keep (hk9.trans h) (by simp))
      have qy : ∀ w', Keep [] w9 w' → Sem.run Try.prog (convert 22 9 (.slice (some ⟨g2, 0, none⟩) 512 512)) w' = .ok (.string ⟨(Y.take 512).toArray⟩) w' := fun w' h => run_str (P := Try.prog) 22 9 5 Try.underlying22 Try.underlying5 Try.underlying9 (hby.keep (hk9.trans h) (by simp))
      have qx : ∀ w', Keep [] w9 w' → Sem.run Try.prog (convert 22 9 (.slice (some ⟨g1, 0, none⟩) 0 0)) w' = .ok (.string ⟨(X.drop 512).toArray⟩) w' := fun w' h => run_str (P := Try.prog) 22 9 5 Try.underlying22 Try.underlying5 Try.underlying9 (hbx.keep (hk9.trans h) (by simp))
      rw [hcat] at qz
      have hcz : ¬ (9223372036854775807 < (⟨(Y.take 512).toArray⟩ : ByteArray).size + (⟨(X.drop 512).toArray⟩ : ByteArray).size) := by
        show ¬ (9223372036854775807 < (Y.take 512).toArray.size + (X.drop 512).toArray.size)
        simp
        omega
      generalize (⟨(Y.take 512).toArray⟩ : ByteArray) = SY at *
      generalize (⟨(X.drop 512).toArray⟩ : ByteArray) = SX at *
      clear hbz hby hbx hcat
      (repeat (first | (refine his_q rfl rfl (fun K hK => ?_); apply Exists.intro; refine ⟨fun w' hC => ?_, ?_⟩; ((try simp [Sg.upd] at hC); go_simp <;> rfl); go_simp; refine hK _ _ ?_; clear hK K) | (refine his_s rfl (fun K hK => ?_); go_simp; refine hK _ _ ?_; clear hK K)))
      refine his_c rfl rfl (.int .i64 3) (fun K hK => ?_)
      refine ⟨fun w' hC => Yields.call 17 #[.pointer (some ⟨g, 0, none⟩)] ?_ (by kernel_rfl) ?_, ?_⟩
      · go_simp
      · have hC' : Keep [] w9 w' := hC
        exact HACT.out w' (HD8.out.keep (hk9.trans hC') (by simp))
      go_simp
      refine hK _ _ ?_
      clear hK K
      (repeat (first | (refine his_q rfl rfl (fun K hK => ?_); apply Exists.intro; refine ⟨fun w' hC => ?_, ?_⟩; ((try simp [Sg.upd] at hC); go_simp <;> rfl); go_simp; refine hK _ _ ?_; clear hK K) | (refine his_s rfl (fun K hK => ?_); go_simp; refine hK _ _ ?_; clear hK K)))
      (refine his_l rfl rfl (fun K hK => ?_); go_simp)
      refine (awake04_any _).mono ?_
      rintro x w10 ⟨rfl, hk10⟩
      refine hK _ _ hk10 ?_
      clear hK K
      (repeat (first | (refine his_q rfl rfl (fun K hK => ?_); apply Exists.intro; refine ⟨fun w' hC => ?_, ?_⟩; ((try simp [Sg.upd] at hC); go_simp <;> rfl); go_simp; refine hK _ _ ?_; clear hK K) | (refine his_s rfl (fun K hK => ?_); go_simp; refine hK _ _ ?_; clear hK K)))
      refine his_nil ?_
      go_wp2
      go_ret
      exact ⟨rfl, (hkw8.trans (hk9.trans hk10)).below (Nat.le_refl _) (by simp)⟩
    · rw [if_neg hkn] at hbx0
      have hbx : Bytes w8 (.slice (some ⟨g1, nn, none⟩) (512 - nn) (512 - nn)) (X.drop nn) := by
        have := hbx0
        simp only [Option.map_some, Addr.add_lit, Nat.zero_add] at this
        exact this
      clear hbx0
      go_wp2_with fail
      refine wp_region_his [] [22] (fun _ => 0) (by kernel_rfl) (by kernel_rfl) ?_
      intro w9 hk9 hh
      clear hh
      have hcat : (⟨(Y.take nn ++ X.drop nn).toArray⟩ : ByteArray) = ⟨(Y.take nn).toArray⟩ ++ ⟨(X.drop nn).toArray⟩ := by
        apply ByteArray.ext
        simp
      have qz : ∀ w', Keep [] w9 w' → Sem.run Try.prog (convert 22 9 (.slice za 512 zc)) w' = .ok (.string ⟨(Y.take nn ++ X.drop nn).toArray⟩) w' := fun w' h => run_str (P := Try.prog) 22 9 5 Try.underlying22 Try.underlying5 Try.underlying9 (hbz.keep (hk9.trans h) (by simp))
      have qy : ∀ w', Keep [] w9 w' → Sem.run Try.prog (convert 22 9 (.slice (some ⟨g2, 0, none⟩) nn 512)) w' = .ok (.string ⟨(Y.take nn).toArray⟩) w' := fun w' h => run_str (P := Try.prog) 22 9 5 Try.underlying22 Try.underlying5 Try.underlying9 (hby.keep (hk9.trans h) (by simp))
      have qx : ∀ w', Keep [] w9 w' → Sem.run Try.prog (convert 22 9 (.slice (some ⟨g1, nn, none⟩) (512 - nn) (512 - nn))) w' = .ok (.string ⟨(X.drop nn).toArray⟩) w' := fun w' h => run_str (P := Try.prog) 22 9 5 Try.underlying22 Try.underlying5 Try.underlying9 (hbx.keep (hk9.trans h) (by simp))
      rw [hcat] at qz
      have hcz : ¬ (9223372036854775807 < (⟨(Y.take nn).toArray⟩ : ByteArray).size + (⟨(X.drop nn).toArray⟩ : ByteArray).size) := by
        show ¬ (9223372036854775807 < (Y.take nn).toArray.size + (X.drop nn).toArray.size)
        simp
        omega
      generalize (⟨(Y.take nn).toArray⟩ : ByteArray) = SY at *
      generalize (⟨(X.drop nn).toArray⟩ : ByteArray) = SX at *
      clear hbz hby hbx hcat
      (repeat (first | (refine his_q rfl rfl (fun K hK => ?_); apply Exists.intro; refine ⟨fun w' hC => ?_, ?_⟩; ((try simp [Sg.upd] at hC); go_simp <;> rfl); go_simp; refine hK _ _ ?_; clear hK K) | (refine his_s rfl (fun K hK => ?_); go_simp; refine hK _ _ ?_; clear hK K)))
      refine his_c rfl rfl (.int .i64 3) (fun K hK => ?_)
      refine ⟨fun w' hC => Yields.call 17 #[.pointer (some ⟨g, 0, none⟩)] ?_ (by kernel_rfl) ?_, ?_⟩
      · go_simp
      · have hC' : Keep [] w9 w' := hC
        exact HACT.out w' (HD8.out.keep (hk9.trans hC') (by simp))
      go_simp
      refine hK _ _ ?_
      clear hK K
      (repeat (first | (refine his_q rfl rfl (fun K hK => ?_); apply Exists.intro; refine ⟨fun w' hC => ?_, ?_⟩; ((try simp [Sg.upd] at hC); go_simp <;> rfl); go_simp; refine hK _ _ ?_; clear hK K) | (refine his_s rfl (fun K hK => ?_); go_simp; refine hK _ _ ?_; clear hK K)))
      (refine his_l rfl rfl (fun K hK => ?_); go_simp)
      refine (awake04_any _).mono ?_
      rintro x w10 ⟨rfl, hk10⟩
      refine hK _ _ hk10 ?_
      clear hK K
      (repeat (first | (refine his_q rfl rfl (fun K hK => ?_); apply Exists.intro; refine ⟨fun w' hC => ?_, ?_⟩; ((try simp [Sg.upd] at hC); go_simp <;> rfl); go_simp; refine hK _ _ ?_; clear hK K) | (refine his_s rfl (fun K hK => ?_); go_simp; refine hK _ _ ?_; clear hK K)))
      refine his_nil ?_
      go_wp2
      go_ret
      exact ⟨rfl, (hkw8.trans (hk9.trans hk10)).below (Nat.le_refl _) (by simp)⟩
  · rw [if_neg hneg] at h513
    go_wp2_with fail
    refine (HREAD.out w7 hD7).mono ?_
    rintro e w8 ⟨v8, rfl, ho8, hk8⟩
    have hbz := ho8.bytes (by rw [hlz]; decide)
    obtain ⟨za, zc, rfl, -⟩ := hbz.form
    rw [hlz] at hbz
    have hD8 := hD7.keep hk8 (by simp)
    have hkw8 := hkw7.trans hk8
    have hby := ((hy7.keep hk8 (by simp)).bytes (by omega)).take (k := nn) (by omega)
    have hbx0 := ((hx7.keep hk8 (by simp)).bytes (by omega)).drop (k := nn) (by omega)
    rw [hxl] at hbx0
    have HD8 := Lib.hid hD8
    clear ho8 hD7 hkw7 hk8 hx7 hy7 hD8 HREAD
    have t1 : (nn : Int) ≤ 512 := by omega
    by_cases hkn : 512 = nn
    · rw [if_pos hkn] at hbx0
      subst hkn
      have hbx : Bytes w8 (.slice (some ⟨g1, 0, none⟩) 0 0) (X.drop 512) := hbx0
      clear hbx0
      go_wp2_with fail
      refine wp_region_his [] [22] (fun _ => 0) (by kernel_rfl) (by kernel_rfl) ?_
      intro w9 hk9 hh
      clear hh
      have hcat : (⟨(Y.take 512 ++ X.drop 512).toArray⟩ : ByteArray) = ⟨(Y.take 512).toArray⟩ ++ ⟨(X.drop 512).toArray⟩ := by
        apply ByteArray.ext
        simp
      have qz : ∀ w', Keep [] w9 w' → Sem.run Try.prog (convert 22 9 (.slice za 512 zc)) w' = .ok (.string ⟨(Y.take 512 ++ X.drop 512).toArray⟩) w' := fun w' h => run_str (P := Try.prog) 22 9 5 Try.underlying22 Try.underlying5 Try.underlying9 (hbz.keep (hk9.trans h) (by simp))
      have qy : ∀ w', Keep [] w9 w' → Sem.run Try.prog (convert 22 9 (.slice (some ⟨g2, 0, none⟩) 512 512)) w' = .ok (.string ⟨(Y.take 512).toArray⟩) w' := fun w' h => run_str (P := Try.prog) 22 9 5 Try.underlying22 Try.underlying5 Try.underlying9 (hby.keep (hk9.trans h) (by simp))
      have qx : ∀ w', Keep [] w9 w' → Sem.run Try.prog (convert 22 9 (.slice (some ⟨g1, 0, none⟩) 0 0)) w' = .ok (.string ⟨(X.drop 512).toArray⟩) w' := fun w' h => run_str (P := Try.prog) 22 9 5 Try.underlying22 Try.underlying5 Try.underlying9 (hbx.keep (hk9.trans h) (by simp))
      rw [hcat] at qz
      have hcz : ¬ (9223372036854775807 < (⟨(Y.take 512).toArray⟩ : ByteArray).size + (⟨(X.drop 512).toArray⟩ : ByteArray).size) := by
        show ¬ (9223372036854775807 < (Y.take 512).toArray.size + (X.drop 512).toArray.size)
        simp
        omega
      generalize (⟨(Y.take 512).toArray⟩ : ByteArray) = SY at *
      generalize (⟨(X.drop 512).toArray⟩ : ByteArray) = SX at *
      clear hbz hby hbx hcat
      (repeat (first | (refine his_q rfl rfl (fun K hK => ?_); apply Exists.intro; refine ⟨fun w' hC => ?_, ?_⟩; ((try simp [Sg.upd] at hC); go_simp <;> rfl); go_simp; refine hK _ _ ?_; clear hK K) | (refine his_s rfl (fun K hK => ?_); go_simp; refine hK _ _ ?_; clear hK K)))
      refine his_c rfl rfl (.int .i64 3) (fun K hK => ?_)
      refine ⟨fun w' hC => Yields.call 17 #[.pointer (some ⟨g, 0, none⟩)] ?_ (by kernel_rfl) ?_, ?_⟩
      · go_simp
      · have hC' : Keep [] w9 w' := hC
        exact HACT.out w' (HD8.out.keep (hk9.trans hC') (by simp))
      go_simp
      refine hK _ _ ?_
      clear hK K
      (repeat (first | (refine his_q rfl rfl (fun K hK => ?_); apply Exists.intro; refine ⟨fun w' hC => ?_, ?_⟩; ((try simp [Sg.upd] at hC); go_simp <;> rfl); go_simp; refine hK _ _ ?_; clear hK K) | (refine his_s rfl (fun K hK => ?_); go_simp; refine hK _ _ ?_; clear hK K)))
      (refine his_l rfl rfl (fun K hK => ?_); go_simp)
      refine (awake04_any _).mono ?_
      rintro x w10 ⟨rfl, hk10⟩
      refine hK _ _ hk10 ?_
      clear hK K
      (repeat (first | (refine his_q rfl rfl (fun K hK => ?_); apply Exists.intro; refine ⟨fun w' hC => ?_, ?_⟩; ((try simp [Sg.upd] at hC); go_simp <;> rfl); go_simp; refine hK _ _ ?_; clear hK K) | (refine his_s rfl (fun K hK => ?_); go_simp; refine hK _ _ ?_; clear hK K)))
      refine his_nil ?_
      go_wp2
      go_ret
      exact ⟨rfl, (hkw8.trans (hk9.trans hk10)).below (Nat.le_refl _) (by simp)⟩
    · rw [if_neg hkn] at hbx0
      have hbx : Bytes w8 (.slice (some ⟨g1, nn, none⟩) (512 - nn) (512 - nn)) (X.drop nn) := by
        have := hbx0
        simp only [Option.map_some, Addr.add_lit, Nat.zero_add] at this
        exact this
      clear hbx0
      go_wp2_with fail
      refine wp_region_his [] [22] (fun _ => 0) (by kernel_rfl) (by kernel_rfl) ?_
      intro w9 hk9 hh
      clear hh
      have hcat : (⟨(Y.take nn ++ X.drop nn).toArray⟩ : ByteArray) = ⟨(Y.take nn).toArray⟩ ++ ⟨(X.drop nn).toArray⟩ := by
        apply ByteArray.ext
        simp
      have qz : ∀ w', Keep [] w9 w' → Sem.run Try.prog (convert 22 9 (.slice za 512 zc)) w' = .ok (.string ⟨(Y.take nn ++ X.drop nn).toArray⟩) w' := fun w' h => run_str (P := Try.prog) 22 9 5 Try.underlying22 Try.underlying5 Try.underlying9 (hbz.keep (hk9.trans h) (by simp))
      have qy : ∀ w', Keep [] w9 w' → Sem.run Try.prog (convert 22 9 (.slice (some ⟨g2, 0, none⟩) nn 512)) w' = .ok (.string ⟨(Y.take nn).toArray⟩) w' := fun w' h => run_str (P := Try.prog) 22 9 5 Try.underlying22 Try.underlying5 Try.underlying9 (hby.keep (hk9.trans h) (by simp))
      have qx : ∀ w', Keep [] w9 w' → Sem.run Try.prog (convert 22 9 (.slice (some ⟨g1, nn, none⟩) (512 - nn) (512 - nn))) w' = .ok (.string ⟨(X.drop nn).toArray⟩) w' := fun w' h => run_str (P := Try.prog) 22 9 5 Try.underlying22 Try.underlying5 Try.underlying9 (hbx.keep (hk9.trans h) (by simp))
      rw [hcat] at qz
      have hcz : ¬ (9223372036854775807 < (⟨(Y.take nn).toArray⟩ : ByteArray).size + (⟨(X.drop nn).toArray⟩ : ByteArray).size) := by
        show ¬ (9223372036854775807 < (Y.take nn).toArray.size + (X.drop nn).toArray.size)
        simp
        omega
      generalize (⟨(Y.take nn).toArray⟩ : ByteArray) = SY at *
      generalize (⟨(X.drop nn).toArray⟩ : ByteArray) = SX at *
      clear hbz hby hbx hcat
      (repeat (first | (refine his_q rfl rfl (fun K hK => ?_); apply Exists.intro; refine ⟨fun w' hC => ?_, ?_⟩; ((try simp [Sg.upd] at hC); go_simp <;> rfl); go_simp; refine hK _ _ ?_; clear hK K) | (refine his_s rfl (fun K hK => ?_); go_simp; refine hK _ _ ?_; clear hK K)))
      refine his_c rfl rfl (.int .i64 3) (fun K hK => ?_)
      refine ⟨fun w' hC => Yields.call 17 #[.pointer (some ⟨g, 0, none⟩)] ?_ (by kernel_rfl) ?_, ?_⟩
      · go_simp
      · have hC' : Keep [] w9 w' := hC
        exact HACT.out w' (HD8.out.keep (hk9.trans hC') (by simp))
      go_simp
      refine hK _ _ ?_
      clear hK K
      (repeat (first | (refine his_q rfl rfl (fun K hK => ?_); apply Exists.intro; refine ⟨fun w' hC => ?_, ?_⟩; ((try simp [Sg.upd] at hC); go_simp <;> rfl); go_simp; refine hK _ _ ?_; clear hK K) | (refine his_s rfl (fun K hK => ?_); go_simp; refine hK _ _ ?_; clear hK K)))
      (refine his_l rfl rfl (fun K hK => ?_); go_simp)
      refine (awake04_any _).mono ?_
      rintro x w10 ⟨rfl, hk10⟩
      refine hK _ _ hk10 ?_
      clear hK K
      (repeat (first | (refine his_q rfl rfl (fun K hK => ?_); apply Exists.intro; refine ⟨fun w' hC => ?_, ?_⟩; ((try simp [Sg.upd] at hC); go_simp <;> rfl); go_simp; refine hK _ _ ?_; clear hK K) | (refine his_s rfl (fun K hK => ?_); go_simp; refine hK _ _ ?_; clear hK K)))
      refine his_nil ?_
      go_wp2
      go_ret
      exact ⟨rfl, (hkw8.trans (hk9.trans hk10)).below (Nat.le_refl _) (by simp)⟩
end Go.Proofs.Ytpodbekiaagfcaa
