import Derived.Test.YtjkjiabfhhnngaaReg3
import Derived.Deep.RegionWith
/-! The walk of region's load. -/
namespace Go.Proofs.Ytjkjiabfhhnngaa
open Go.RowKit Sg
set_option linter.unusedSimpArgs false
set_option linter.unusedVariables false

/-- is it what is under way? -/
def Lc.hit (c : Lc) (l : Lg) (q i : Nat) (p : Bool) : Prop := p = true ∧ q = l.last ∧ 0 < l.pend.length ∧ i = (l.at_ - 1) / c.rm
instance (c : Lc) (l : Lg) (q i : Nat) (p : Bool) : Decidable (c.hit l q i p) := by unfold Lc.hit; infer_instance
/-- what a device holds in a region's sector -/
def Lc.got (c : Lc) (m : Dev) (q i : Nat) : List UInt8 × Nat :=
  if lgot m ((c.base + c.sec q i : Nat) : Int) 3 ((c.sec q i : Nat) : Int) then
    (if ls (m.read ((c.base + c.sec q i : Nat) : Int)).1 = q then (ll (m.read ((c.base + c.sec q i : Nat) : Int)).1, 0) else ([], 13))
  else if (m.read ((c.base + c.sec q i : Nat) : Int)).2 = 0 then ([], 13) else ([], (m.read ((c.base + c.sec q i : Nat) : Int)).2)
def Lc.ld (c : Lc) (l : Lg) (m : Dev) (q i : Nat) (p : Bool) : List UInt8 × Nat := if c.hit l q i p then (l.pend, 0) else c.got m q i

theorem read_code (m : Dev) (a : Int) : (m.read a).2 ≠ 5 := by
  unfold Dev.read
  split
  · unfold Dev.ready
    split
    · decide
    · split <;> decide
  · simp

theorem get_form {c : Lc} {m : Dev} {q i n : Nat} {w5 : World} {x : Ending} (hn : c.sec q i = n)
    (hor : (lgot m ((c.base + n : Nat) : Int) 3 (n : Int) ∧ ∃ v, x = .returned (.tuple #[.agg #[.int .i64 3, .int .i64 (n : Int), .int .i64 (ls (m.read ((c.base + n : Nat) : Int)).1 : Int), v], .int .i64 0]) ∧ Bytes w5 v (ll (m.read ((c.base + n : Nat) : Int)).1)) ∨
       (¬ lgot m ((c.base + n : Nat) : Int) 3 (n : Int) ∧ x = .returned (.tuple #[leaf0, .int .i64 (if (m.read ((c.base + n : Nat) : Int)).2 = 0 then 5 else ((m.read ((c.base + n : Nat) : Int)).2 : Int))]))) :
    ∃ (kd pl : Int) (st : Nat) (va5 : Option Addr) (vc5 : Nat) (L5 : List UInt8) (code : Nat), x = .returned (.tuple #[.agg #[.int .i64 kd, .int .i64 pl, .int .i64 (st : Int), .slice va5 L5.length vc5], .int .i64 (code : Int)]) ∧ Bytes w5 (.slice va5 L5.length vc5) L5 ∧
          ((code = 0 ∧ st = q ∧ c.got m q i = (L5, 0)) ∨ (code = 0 ∧ st ≠ q ∧ c.got m q i = ([], 13)) ∨ (code = 5 ∧ c.got m q i = ([], 13)) ∨ (code ≠ 0 ∧ code ≠ 5 ∧ L5 = [] ∧ c.got m q i = ([], code))) := by
  have hgot : c.got m q i = if lgot m ((c.base + n : Nat) : Int) 3 (n : Int) then (if ls (m.read ((c.base + n : Nat) : Int)).1 = q then (ll (m.read ((c.base + n : Nat) : Int)).1, 0) else ([], 13)) else if (m.read ((c.base + n : Nat) : Int)).2 = 0 then ([], 13) else ([], (m.read ((c.base + n : Nat) : Int)).2) := by
    unfold Lc.got
    rw [hn]
  rw [hgot]
  rcases hor with ⟨h1, v, rfl, hb⟩ | ⟨h1, rfl⟩
  · obtain ⟨ao, cap, rfl, -⟩ := hb.form
    rw [if_pos h1]
    refine ⟨_, _, _, ao, cap, _, 0, rfl, hb, ?_⟩
    by_cases hq2 : ls (m.read ((c.base + n : Nat) : Int)).1 = q
    · rw [if_pos hq2]
      exact .inl ⟨rfl, hq2, rfl⟩
    · rw [if_neg hq2]
      exact .inr (.inl ⟨rfl, hq2, rfl⟩)
  · rw [if_neg h1]
    by_cases hc : (m.read ((c.base + n : Nat) : Int)).2 = 0
    · rw [if_pos hc, if_pos hc]
      exact ⟨0, 0, 0, none, 0, [], 5, rfl, Bytes.nil _, .inr (.inr (.inl ⟨rfl, rfl⟩))⟩
    · rw [if_neg hc, if_neg hc]
      refine ⟨0, 0, 0, none, 0, [], (m.read ((c.base + n : Nat) : Int)).2, rfl, Bytes.nil _, .inr (.inr (.inr ⟨hc, ?_, rfl, rfl⟩))⟩
      exact read_code m _

set_option maxRecDepth 100000 in
set_option maxHeartbeats 1000000 in
set_option maxHeartbeats 4000000 in
theorem loadL_any (w : World) (D E : List Nat) (gl g : Nat) (c : Lc) (l : Lg) (m : Dev) (h : RV w D E gl g c l m) (hacts : m.acts ≤ 1000000000) (hat : l.at_ ≤ c.S * c.rm) (hp : l.pend.length ≤ c.rm) (hpa : l.pend.length = 0 ∨ 1 ≤ l.at_) (q i : Nat) (hi : i ≤ 1000000) (hq : q ≤ 9223372036854775807) (p : Bool) :
    Calls Try.prog 113 #[.pointer (some ⟨gl, 0, none⟩), .int .i64 (q : Int), .int .i64 (i : Int), .bool p] w fun e w' => ∃ v, e = .returned (.tuple #[v, .int .i64 ((c.ld l m q i p).2 : Int)]) ∧ Bytes w' v (c.ld l m q i p).1 ∧ Keep [] w w' := by
  obtain ⟨pv, h⟩ := h
  obtain ⟨pa, pc, rfl⟩ := ownsRow_form h.own
  obtain ⟨o1, o2, o3, o4, o5⟩ := ok_rm c m h.ok
  have r1 := h.ok.r1
  have r2 := h.ok.r2
  obtain ⟨j, hj⟩ : ∃ j, (l.at_ - 1) / c.rm = j := ⟨_, rfl⟩
  obtain ⟨P, hP⟩ : ∃ P, l.pend.length = P := ⟨_, rfl⟩
  obtain ⟨n, hn⟩ : ∃ n, c.sec q i = n := ⟨_, rfl⟩
  have hn2 : n ≤ 64 * 32 + 1000000 := by
    rw [← hn]
    unfold Lc.sec
    have h1 : q % c.R * c.S ≤ 64 * 32 := Nat.mul_le_mul (by have := Nat.mod_lt q (show 0 < c.R by omega); omega) o4
    omega
  have hat2 : l.at_ ≤ 15776 := Nat.le_trans hat o5
  have hj2 : j ≤ 15776 := by rw [← hj]; exact Nat.le_trans (Nat.div_le_self _ _) (by omega)
  have hsec := fun w' h' => sector_any w' gl g c l (.slice pa l.pend.length pc) h' r2 (by omega) o4 q i (by omega)
  rw [hn] at hsec
  have hways : (c.hit l q i p ∧ p = true ∧ q = l.last ∧ 0 < P ∧ i = j) ∨ (¬ c.hit l q i p ∧ (p = false ∨ (p = true ∧ q ≠ l.last) ∨ (p = true ∧ q = l.last ∧ P = 0) ∨ (p = true ∧ q = l.last ∧ 0 < P ∧ i ≠ j))) := by
    unfold Lc.hit
    rw [hj, hP]
    by_cases h1 : p = true
    · by_cases h2 : q = l.last
      · by_cases h3 : 0 < P
        · by_cases h4 : i = j
          · exact .inl ⟨⟨h1, h2, h3, h4⟩, h1, h2, h3, h4⟩
          · exact .inr ⟨fun h => h4 h.2.2.2, .inr (.inr (.inr ⟨h1, h2, h3, h4⟩))⟩
        · exact .inr ⟨fun h => h3 h.2.2.1, .inr (.inr (.inl ⟨h1, h2, by omega⟩))⟩
      · exact .inr ⟨fun h => h2 h.2.1, .inr (.inl ⟨h1, h2⟩)⟩
    · exact .inr ⟨fun h => h1 h.1, .inl (by simpa using h1)⟩
  have hpos : 0 < P → IntKind.i64.wrap ((l.at_ : Int) - 1) = ((l.at_ - 1 : Nat) : Int) ∧ 1 ≤ l.at_ := fun hP0 => by
    have : 1 ≤ l.at_ := by rcases hpa with h | h <;> omega
    exact ⟨by rw [i64_wrap (by omega) (by omega)]; omega, this⟩
  have q2 : (((l.at_ - 1 : Nat) : Int)).tdiv (c.rm : Int) = (j : Int) := by rw [Int.tdiv_eq_ediv_of_nonneg (by omega), ← hj]; rfl
  have q3 : IntKind.i64.wrap (j : Int) = (j : Int) := i64_wrap (by omega) (by omega)
  have z1 : ¬ ((c.rm : Int) = 0) := by omega
  have z2 : ((c.rm : Int) == 0) = false := beq_false_of_ne z1
  have z3 : ¬ (c.rm = 0) := by omega
  have H := Lib.hid h
  have HS := Lib.hid hsec
  have HP := Lib.hid hP
  have HN := Lib.hid hn
  have HPOS := Lib.hid hpos
  clear h hsec hP hj hn hpa hpos
  rcases hways with ⟨hhit, rfl, rfl, hP0, rfl⟩ | ⟨hhit, hw⟩
  · have hld : c.ld l m l.last i true = (l.pend, 0) := if_pos hhit
    have HLD := Lib.hid hld
    obtain ⟨q1, -⟩ := HPOS.out hP0
    have hP0i : (0 : Int) < (P : Int) := by omega
    clear hhit hld
    go_enter Try.func113, Try.ntmps113
    go_wp2_with fail
    refine wp_region_his [] [] (fun _ => 0) (by kernel_rfl) (by kernel_rfl) ?_
    intro w2 hk2 hh
    clear hh
    have k17 := fun w' (h : Keep [] w2 w') => (H.out.row.keep (hk2.trans h) (by simp)).k17
    have k18 := fun w' (h : Keep [] w2 w') => (H.out.row.keep (hk2.trans h) (by simp)).k18
    have k19 := fun w' (h : Keep [] w2 w') => (H.out.row.keep (hk2.trans h) (by simp)).k19
    have k20 := fun w' (h : Keep [] w2 w') => (H.out.row.keep (hk2.trans h) (by simp)).k20
    rw [HP.out] at k20
    have HK := Lib.hid hk2
    clear hk2
    (repeat (first | (refine his_q rfl rfl (fun K hK => ?_); apply Exists.intro; refine ⟨fun w' hC => ?_, ?_⟩; ((try simp [Sg.upd] at hC); go_simp <;> rfl); go_simp; refine hK _ _ ?_; clear hK K) | (refine his_s rfl (fun K hK => ?_); go_simp; refine hK _ _ ?_; clear hK K)))
    refine his_nil ?_
    have r20 := k20 w2 (Keep.refl _ _)
    clear k17 k18 k19 k20 q1 q2 q3 z1 z2 z3
    have hcl := clone_any (.slice pa P pc) l.pend w2 (by have := (H.out.own.keep HK.out (by simp)).bytes (by omega); rwa [HP.out] at this)
    go_wp2_with fail
    refine hcl.mono ?_
    rintro e w3 ⟨v3, rfl, ho3, hk3⟩
    have hb3 := ho3.bytes (by omega)
    have HF := Lib.hid (And.intro hb3 (HK.out.trans hk3))
    clear hcl ho3 hk3 hb3
    go_wp2
    go_ret2
    exact ⟨v3, by rw [HLD.out]; rfl, by rw [HLD.out]; exact HF.out.1, HF.out.2⟩
  · have hld : c.ld l m q i p = c.got m q i := if_neg hhit
    have HLD := Lib.hid hld
    have hmn := H.out.dv.1.n2
    have htop := H.out.ok.top
    have hR1 : 1 ≤ c.R * c.S := Nat.mul_pos (by omega) (by omega)
    have hsum : IntKind.i64.wrap ((c.base : Int) + (n : Int)) = ((c.base + n : Nat) : Int) := by rw [i64_wrap (by omega) (by omega)]; push_cast; rfl
    have hget := fun w' h' => leafGet_any w' D g m h' hacts ((c.base + n : Nat) : Int) 3 (n : Int)
    have HGET := Lib.hid hget
    have HSUM := Lib.hid hsum
    clear hhit hld hget hmn htop hR1 hsum
    have hfacts : (p = false) ∨ (p = true ∧ ((q : Int) == (l.last : Int)) = false ∧ decide ((q : Int) = (l.last : Int)) = false) ∨ (p = true ∧ (((q : Int) == (l.last : Int)) = true ∧ decide ((q : Int) = (l.last : Int)) = true) ∧ ¬ (0 < P)) ∨ (p = true ∧ (((q : Int) == (l.last : Int)) = true ∧ decide ((q : Int) = (l.last : Int)) = true) ∧ 0 < P ∧ IntKind.i64.wrap ((l.at_ : Int) - 1) = ((l.at_ - 1 : Nat) : Int) ∧ ((i : Int) == (j : Int)) = false ∧ ¬ (i = j)) := by
      rcases hw with h | ⟨h, h2⟩ | ⟨h, h2, h3⟩ | ⟨h, h2, h3, h4⟩
      · exact .inl h
      · exact .inr (.inl ⟨h, beq_false_of_ne (by omega), decide_eq_false (by omega)⟩)
      · exact .inr (.inr (.inl ⟨h, ⟨beq_iff_eq.2 (by omega), decide_eq_true (by omega)⟩, by omega⟩))
      · exact .inr (.inr (.inr ⟨h, ⟨beq_iff_eq.2 (by omega), decide_eq_true (by omega)⟩, by omega, (HPOS.out h3).1, beq_false_of_ne (by omega), h4⟩))
    clear hw
    go_enter Try.func113, Try.ntmps113
    go_wp2_with fail
    go_cut [43] from 13 to 43 (fun s43 wx => s43 = .bool false ∧ Hid (Keep [] w wx))
    case first =>
      rcases hfacts with rfl | ⟨rfl, h2, h2'⟩ | ⟨rfl, ⟨h2, h2'⟩, h3⟩ | ⟨rfl, ⟨h2, h2'⟩, h3, h4, h5, h5'⟩
      all_goals
        refine wp_region_his [] [] (fun _ => 0) (by kernel_rfl) (by kernel_rfl) ?_
        intro w2 hk2 hh
        clear hh
        have k17 := fun w' (h : Keep [] w2 w') => (H.out.row.keep (hk2.trans h) (by simp)).k17
        have k18 := fun w' (h : Keep [] w2 w') => (H.out.row.keep (hk2.trans h) (by simp)).k18
        have k19 := fun w' (h : Keep [] w2 w') => (H.out.row.keep (hk2.trans h) (by simp)).k19
        have k20 := fun w' (h : Keep [] w2 w') => (H.out.row.keep (hk2.trans h) (by simp)).k20
        rw [HP.out] at k20
        have HK := Lib.hid hk2
        clear hk2
        (repeat (first | (refine his_q rfl rfl (fun K hK => ?_); apply Exists.intro; refine ⟨fun w' hC => ?_, ?_⟩; ((try simp [Sg.upd] at hC); go_simp <;> rfl); go_simp; refine hK _ _ ?_; clear hK K) | (refine his_s rfl (fun K hK => ?_); go_simp; refine hK _ _ ?_; clear hK K)))
        refine his_nil ?_
        clear k17 k18 k19 k20
        go_wp2_with fail
        go_meet
        case rel => exact ⟨rfl, HK.out⟩
    case rest =>
    obtain ⟨rfl, HK⟩ := hcut
    clear hfacts q2 q3 z1 z2 z3
    go_wp2_with fail
    refine (HS.out _ (H.out.row.keep HK.out (by simp))).mono ?_
    rintro e w3 ⟨rfl, hk3⟩
    have HK3 := Lib.hid (HK.out.trans hk3)
    have hsum := HSUM.out
    clear hk3
    have hk0' := (H.out.row.keep HK3.out (by simp)).k0
    have hk10' := (H.out.row.keep HK3.out (by simp)).k10
    have HKK := Lib.hid (And.intro hk0' hk10')
    clear hk0' hk10'
    go_wp2_with fail
    go_cut [11, 12] from 53 to 68 (fun s11 s12 wx => ∃ (blk : Nat) (kd pl : Int) (st : Nat) (va5 : Option Addr) (vc5 : Nat) (L5 : List UInt8) (code : Nat), s11 = .pointer (some ⟨blk, 0, none⟩) ∧ s12 = .int .i64 (code : Int) ∧ Hid (wx.heap[blk]? = some (.cells #[.int .i64 kd, .int .i64 pl, .int .i64 (st : Int), .slice va5 L5.length vc5] 74 (0, 0))) ∧ Hid (Bytes wx (.slice va5 L5.length vc5) L5) ∧
        Hid ((code = 0 ∧ st = q ∧ c.got m q i = (L5, 0)) ∨ (code = 0 ∧ st ≠ q ∧ c.got m q i = ([], 13)) ∨ (code = 5 ∧ c.got m q i = ([], 13)) ∨ (code ≠ 0 ∧ code ≠ 5 ∧ L5 = [] ∧ c.got m q i = ([], code))) ∧ Hid (Keep [] w wx))
    case first =>
      have hd0 := H.out.dv.keep HK3.out (by simp)
      have hd1 : DV w3.drew D g m := hd0.keep ((Keep.refl [] w3).drew) (by simp)
      have hA3 := (Keep.refl [] w3).alloc (.cells #[.int .i64 0, .int .i64 0, .int .i64 0, .slice none 0 0] 74)
      have hd2 : DV (w3.alloc (.cells #[.int .i64 0, .int .i64 0, .int .i64 0, .slice none 0 0] 74)).drew D g m := hd0.keep hA3.drew (by simp)
      have hX3 : (w3.alloc (.cells #[.int .i64 0, .int .i64 0, .int .i64 0, .slice none 0 0] 74)).drew.heap[w3.heap.size]? = some (.cells #[.int .i64 0, .int .i64 0, .int .i64 0, .slice none 0 0] 74) := heap_alloc_new w3 (.cells #[.int .i64 0, .int .i64 0, .int .i64 0, .slice none 0 0] 74)
      have a0 := HKK.out.1
      have a10 := HKK.out.2
      have b0 := hA3.cell (by simp) HKK.out.1
      have b10 := hA3.cell (by simp) HKK.out.2
      have HH := Lib.hid (And.intro hd1 (And.intro hd2 hX3))
      clear hd0 hd1 hd2 hA3 hX3
      go_region_with (first
        | (refine (HGET.out _ (by first | exact HH.out.1 | exact HH.out.2.1)).mono ?_
           rintro x w5 ⟨hk5, hor⟩
           obtain ⟨kd, pl, st, va5, vc5, L5, code, rfl, hb5, hout⟩ := get_form HN.out hor
           have HB5 := Lib.hid hb5
           have HO5 := Lib.hid hout
           have HK5 := Lib.hid hk5
           (first
             | (have hz := hk5.blk (by simp) HH.out.2.2
                have y0 := cell_of_row w5 _ 0 _ _ _ hz
                have y1 := cell_of_row w5 _ 1 _ _ _ hz
                have y2 := cell_of_row w5 _ 2 _ _ _ hz
                have y3 := cell_of_row w5 _ 3 _ _ _ hz
                simp at y0 y1 y2 y3
                have e0 : w5.frozen? ⟨w3.heap.size, 0, none⟩ = false := frozen_of_row _ _ _ _ _ hz
                have e1 : w5.frozen? ⟨w3.heap.size, 1, none⟩ = false := frozen_of_row _ _ _ _ _ hz
                have e2 : w5.frozen? ⟨w3.heap.size, 2, none⟩ = false := frozen_of_row _ _ _ _ _ hz
                have e3 : w5.frozen? ⟨w3.heap.size, 3, none⟩ = false := frozen_of_row _ _ _ _ _ hz
                have HZ := Lib.hid hz
                clear hz)
             | skip)
           clear hor hb5 hout hk5)
        | fail)
      all_goals
        go_wp2_with fail
        go_meet
        case rel => first
          | exact ⟨_, kd, pl, st, va5, vc5, L5, code, rfl, rfl, heap_alloc_new w5 _, HB5.out.keep ((Keep.refl [] w5).alloc _) (by simp), HO5.out, ((HK3.out.trans ((Keep.refl [] w3).drew)).trans HK5.out).alloc _⟩
          | exact ⟨_, kd, pl, st, va5, vc5, L5, code, rfl, rfl, heap_setCell_same _ _ _ _ _ _ (heap_setCell_same _ _ _ _ _ _ (heap_setCell_same _ _ _ _ _ _ (heap_setCell_same _ _ _ _ _ _ HZ.out))), bytes_keep HB5.out (S := [w3.heap.size]) (((((Keep.refl _ _).setCell (.inl (by simp)) _).setCell (.inl (by simp)) _).setCell (.inl (by simp)) _).setCell (.inl (by simp)) _) (fun hne b hb hm => HB5.out.ne_row hne HZ.out (nu_leaf 0 0 0 _ (by intro n h; cases h)) (by rw [List.mem_singleton.1 hm] at hb; exact hb)), HO5.out, (((((HK3.out.alloc _).drew.trans HK5.out).setCell (.inr HK3.out.size) _).setCell (.inr HK3.out.size) _).setCell (.inr HK3.out.size) _).setCell (.inr HK3.out.size) _⟩
    case rest =>
    obtain ⟨blk, kd, pl, st, va5, vc5, L5, code, rfl, rfl, hX6, hB6, hout, hK6⟩ := hcut
    have y2 := cell_of_row _ _ 2 _ _ _ hX6.out
    have y3 := cell_of_row _ _ 3 _ _ _ hX6.out
    simp at y2 y3
    have HF := Lib.hid (And.intro hB6.out hK6.out)
    clear hsum
    replace hout := hout.out
    rcases hout with ⟨rfl, e1, hg⟩ | ⟨rfl, e1, hg⟩ | ⟨rfl, hg⟩ | ⟨e1, e2, e3, hg⟩
    · have HG := Lib.hid (HLD.out.trans hg)
      have t1 : ((st : Int) == (q : Int)) = true := beq_iff_eq.2 (by omega)
      have t2 : ((st : Int) != (q : Int)) = false := by simp; omega
      have t3 : decide ((st : Int) = (q : Int)) = true := decide_eq_true (by omega)
      clear hg e1
      go_wp2
      go_ret2
      exact ⟨_, by rw [HG.out]; rfl, by rw [HG.out]; exact HF.out.1, HF.out.2⟩
    · have HG := Lib.hid (HLD.out.trans hg)
      have t1 : ((st : Int) == (q : Int)) = false := beq_false_of_ne (by omega)
      have t2 : ((st : Int) != (q : Int)) = true := by simp; omega
      clear hg e1
      go_wp2
      go_ret2
      exact ⟨_, by rw [HG.out]; rfl, by rw [HG.out]; exact Bytes.nil _, HF.out.2⟩
    · have HG := Lib.hid (HLD.out.trans hg)
      clear hg
      go_wp2
      go_ret2
      exact ⟨_, by rw [HG.out]; rfl, by rw [HG.out]; exact Bytes.nil _, HF.out.2⟩
    · have HG := Lib.hid (HLD.out.trans hg)
      have t1 : ((code : Int) == 0) = false := beq_false_of_ne (by omega)
      have t2 : ((code : Int) == 5) = false := beq_false_of_ne (by omega)
      have t3 : ¬ ((code : Int) = 0) := by omega
      have t4 : ¬ ((code : Int) = 5) := by omega
      have t5 : ¬ (code = 0) := e1
      have t6 : ¬ (code = 5) := e2
      subst e3
      clear hg e1 e2
      go_wp2
      go_ret2
      exact ⟨_, by rw [HG.out]; rfl, by rw [HG.out]; exact HF.out.1, HF.out.2⟩
end Go.Proofs.Ytjkjiabfhhnngaa
