import Derived.Test.YtijljdcpajjhhaaActs11
import Derived.Test.YtijljdcpajjhhaaRecKit
import Derived.Scope
import Derived.Test.YtijljdcpajjhhaaParK
import Derived.Outline
/-! The walk of region's Records. -/
namespace Go.Proofs.Ytijljdcpajjhhaa
open Go.RowKit Sg
attribute [local go_sem] Oper.semAt_some
set_option linter.unusedSimpArgs false
set_option linter.unusedVariables false

theorem load_ok {W w : World} {X : List Nat} {gl g : Nat} {c : Lc} {l : Lg} {m : Dev} {F : Nat → List (List UInt8)} (h : LogAt W X w gl g c l m F) (hacts : m.acts ≤ 1000000000) (q i : Nat) (hi : i ≤ 1000000) (hq : q ≤ 1000000000) :
    Calls Try.prog 106 #[.pointer (some ⟨gl, 0, none⟩), .int .i64 (q : Int), .int .i64 (i : Int), .bool false] w fun e w' => ∃ v, e = .returned (.tuple #[v, .int .i64 ((c.got m q i).2 : Int)]) ∧ Bytes w' v (c.got m q i).1 ∧ Keep [] w w' := by
  obtain ⟨D, E, r1, -⟩ := h.mem
  have hf := h.inv.fit
  have hp := hf.pend
  have hm := Nat.mod_lt l.at_ (show 0 < c.rm by have := h.inv.rm; omega)
  have hpa : l.pend.length = 0 ∨ 1 ≤ l.at_ := by
    rcases Nat.eq_zero_or_pos l.at_ with e | e
    · rw [e, Nat.zero_mod] at hp; exact .inl hp
    · exact .inr e
  have := loadL_any w D E gl g c l m r1 hacts h.inv.atl (by omega) hpa q i hi (by omega) false
  have e : c.ld l m q i false = c.got m q i := by unfold Lc.ld; rw [if_neg (by unfold Lc.hit; simp)]
  rw [e] at this
  exact this
set_option maxRecDepth 100000 in
set_option maxHeartbeats 1000000 in
set_option maxHeartbeats 4000000 in
theorem records_ok {W w : World} {X : List Nat} {gl g : Nat} {c : Lc} {l : Lg} {m : Dev} {F : Nat → List (List UInt8)} (h : LogAt W X w gl g c l m F) (hacts : m.acts ≤ 1000000000) (q : Nat) (hq : q ≤ 1000000000) :
    Calls Try.prog 60 #[.pointer (some ⟨gl, 0, none⟩), .int .i64 (q : Int)] w fun e w' => Keep [] w w' ∧
      ((¬ (c.oldest l ≤ q ∧ q ≤ l.last) ∧ e = .returned (.tuple #[.slice none 0 0, .int .i64 7])) ∨
       ((c.oldest l ≤ q ∧ q ≤ l.last) ∧ ∃ v rs B, e = .returned (.tuple #[v, .int .i64 0]) ∧ w.heap.size ≤ B ∧ OwnR w' B 111 v rs ∧ RecM w' B rs (recsOf (F q).flatten))) := by
  obtain ⟨pv, hr⟩ := h.row
  have cT := thereL_any w gl g c l pv hr h.inv.core.ok.r2 h.inv.core.lastb (q : Int)
  have hS := h.inv.core.ok.s2
  have hfl := h.inv.core.fl q
  have H := Lib.hid (And.intro h hr)
  clear h hr
  by_cases hth : c.oldest l ≤ q ∧ q ≤ l.last
  case neg =>
    rw [decide_eq_false (by omega)] at cT
    go_enter Try.func60, Try.ntmps60
    go_wp2_with fail
    refine wp_scope_straight ?_
    go_wp2_with fail
    refine cT.mono ?_
    rintro e w1 ⟨rfl, k1⟩
    clear cT
    go_wp2
    simp only [Exit.noGoto]
    refine bodyPost_ret (results_tmp2 rfl _ _ _) rfl ?_
    exact ⟨k1, .inl ⟨hth, rfl⟩⟩
  case pos =>
    rw [decide_eq_true (by omega)] at cT
    have HTH := Lib.hid hth
    have hold : l.last < q + c.R := by have := hth.1; unfold Lc.oldest at this; omega
    clear hth
    go_enter Try.func60, Try.ntmps60
    go_wp2_with fail
    refine wp_scope_straight ?_
    go_wp2_with fail
    refine cT.mono ?_
    rintro e w1 ⟨rfl, k1⟩
    clear cT
    have k4 := (H.out.2.keep k1 (by simp)).k4
    have K1 := Lib.hid k1
    clear k1
    go_wp2
    refine wp_label ?_
    go_wp2
    clear k4
    go_loopw [6, 23] (fun v i wr => ∃ k : Nat, k ≤ (F q).length ∧ i = .int .i64 (k : Int) ∧ Hid (Keep [] w wr ∧ OwnB wr w.heap.size 5 v ((F q).take k).flatten)) (fun _ i _ => c.S - (intOf i).toNat)
    case atStart => exact ⟨0, by omega, rfl, Lib.hid ⟨K1.out, OwnB.nil _ _ _⟩⟩
    case round =>
      obtain ⟨k, hk, rfl, hP⟩ := hrel
      have hlen : ((F q).take k).flatten.length ≤ 32 * 493 := by
        rw [flat_len (rm := c.rm) (fun b hb => H.out.1.inv.core.fb q b (List.mem_of_mem_take hb)), List.length_take]
        exact Nat.mul_le_mul (by omega) H.out.1.inv.core.ok.m2
      obtain ⟨va, vc, rfl⟩ := ownsRow_form hP.out.2
      obtain ⟨N, hN⟩ : ∃ N, ((F q).take k).flatten.length = N := ⟨_, rfl⟩
      rw [hN] at hP ⊢
      have HN := Lib.hid hN
      have hlen : N ≤ 32 * 493 := by omega
      clear hN
      by_cases hkS : k < c.S
      case neg =>
        have hkS' : ¬ (k : Int) < (c.S : Int) := by omega
        have e1 : (F q).take k = F q := List.take_of_length_le (by omega)
        have hB := hP.out.2.bytes (by rw [HN.out]; omega)
        rw [e1] at hB
        have cA := all09_any _ _ _ hB (by rw [← e1, HN.out]; omega)
        clear hB e1
        go_wp2_with fail
        refine cA.mono ?_
        rintro e w5 ⟨v, rs, rfl, o, r, k5⟩
        clear cA
        go_wp2
        simp only [Exit.noGoto]
        refine bodyPost_ret (results_tmp2 rfl _ _ _) rfl ?_
        exact ⟨hP.out.1.trans k5, .inr ⟨HTH.out, v, rs, _, rfl, hP.out.1.size, o, r⟩⟩
      have hkS' : (k : Int) < (c.S : Int) := by omega
      have cL := load_ok (H.out.1.keep hP.out.1) hacts q k (by omega) hq
      by_cases hkF : k < (F q).length
      case neg =>
        rw [H.out.1.inv.core.stale (q := q) (i := k) (by omega) hkS] at cL
        have e1 : (F q).take k = F q := List.take_of_length_le (by omega)
        go_wp2_with fail
        refine cL.mono ?_
        clear cL
        rintro e w5 ⟨v, rfl, -, k5⟩
        have hB := (hP.out.2.bytes (by rw [HN.out]; omega)).keep k5 (by simp)
        rw [e1] at hB
        have cA := all09_any _ _ _ hB (by rw [← e1, HN.out]; omega)
        clear hB e1
        rw [show ((13 : Nat) : Int) = 13 from rfl]
        go_wp2_with fail
        refine cA.mono ?_
        rintro e w6 ⟨v, rs, rfl, o, r, k6⟩
        clear cA
        go_wp2
        simp only [Exit.noGoto]
        refine bodyPost_ret (results_tmp2 rfl _ _ _) rfl ?_
        exact ⟨(hP.out.1.trans k5).trans k6, .inr ⟨HTH.out, v, rs, _, rfl, (hP.out.1.trans k5).size, o, r⟩⟩
      case pos =>
        rw [H.out.1.inv.core.sector hkF hold] at cL
        go_wp2_with fail
        refine cL.mono ?_
        clear cL
        rintro e w5 ⟨v, rfl, b5, k5⟩
        obtain ⟨sa, sc, rfl, -⟩ := b5.form
        have hbl : ((F q)[k]).length ≤ 493 := by rw [H.out.1.inv.core.fb q _ (List.getElem_mem hkF)]; exact H.out.1.inv.core.ok.m2
        obtain ⟨v6, w6, hrun, o6, k6, hloc⟩ := run_append_bytes_at (P := Try.prog) (ty := 30) w.heap.size Try.underlying30 (by kernel_rfl) (hP.out.2.keep k5 (by simp)) b5 (by rw [HN.out]; omega) (hP.out.1.trans k5).size
        have HR := Lib.hid hrun
        have e1 : ((F q).take k).flatten ++ (F q)[k] = ((F q).take (k + 1)).flatten := by rw [← List.take_append_getElem hkF, List.flatten_append]; simp
        rw [e1] at o6
        have K6 := Lib.hid (And.intro (((hP.out.1.trans k5).trans' k6 (fun b hb => by
          rw [Option.mem_toList] at hb
          rcases hP.out.2.2 with ⟨e, -⟩ | ⟨g2, cap2, cur2, e, h1, -⟩
          · rw [e] at hb; simp [Value.ownBlock] at hb
          · rw [e] at hb; simp [Value.ownBlock] at hb; subst hb; exact .inr h1))) o6)
        clear hrun b5 k5 k6 hloc o6 e1 hP
        rw [show ((0 : Nat) : Int) = 0 from rfl]
        go_wp2_with (at_builtin; refine wpList_append_run rfl (.tmp 37) (.tmp 38) 30 rfl (w' := w6) rfl rfl HR.out ?_)
        case roundEnd =>
          refine ⟨⟨k + 1, by omega, by go_num, K6⟩, ?_⟩
          simp [intOf]; omega
end Go.Proofs.Ytijljdcpajjhhaa

/-! Records joined, zeros behind them, in a log's regions. -/
namespace Go.Proofs.Ytijljdcpajjhhaa
open Go.RowKit Sg
set_option linter.unusedSimpArgs false
set_option linter.unusedVariables false

def Chain (bs : List UInt8) (ins : List Rc) : Prop := ∀ rest, recsOf (bs ++ rest) = ins ++ recsOf rest
theorem Chain.nil : Chain [] [] := fun _ => rfl
theorem recsOf_zeros : ∀ (n : Nat) (l : List UInt8), recsOf (List.replicate n 0 ++ l) = recsOf l
  | 0, _ => rfl
  | n + 1, l => by
    rw [List.replicate_succ, List.cons_append, recsOf_zero _ (by simp) rfl]
    exact recsOf_zeros n l
theorem Chain.zeros {bs : List UInt8} {ins : List Rc} (h : Chain bs ins) (n : Nat) : Chain (bs ++ List.replicate n 0) ins := fun rest => by
  rw [List.append_assoc, h, recsOf_zeros]
theorem Chain.more {bs : List UInt8} {ins : List Rc} (h : Chain bs ins) (k v : List UInt8) (e : Nat) (hr : rcode k.length v.length e = 0) : Chain (bs ++ rpack k v e) (ins ++ [⟨k, v, e⟩]) := fun rest => by
  have z := rcode_zero hr
  have hb := rpack_back k v rest e (by omega) (by omega) (by omega)
  have hok : (rdAll (rpack k v e ++ rest)).ok := by
    rw [hb]
    exact ⟨rfl, rfl, rfl, (by show e ≤ _; omega), hr⟩
  have hro := (rec_ok_iff _).1 hok
  obtain ⟨f1, f2, f3, f4, f5, -, -⟩ := rec_ok_fields _ hro
  rw [hb] at f1 f2 f3 f4 f5
  simp only at f1 f2 f3 f4 f5
  have hl := rpack_len k v e
  rw [List.append_assoc, h, recsOf_rec _ (by rw [List.length_append]; omega) (by
    rw [List.getElem_append_left (by omega)]
    have : (rpack k v e)[0]? = some 165 := by simp [rpack_eq, le]
    have h2 := (List.getElem?_eq_some_iff.1 this).2
    rw [h2]
    decide) hro, ← f1, ← f2, ← f3, ← f4, ← f5, ← hl, List.drop_left' rfl]
  simp
/-- the records appended to region q -/
def insAt (ins : List (Rc × Nat)) (q : Nat) : List Rc := (ins.filter (fun p => p.2 == q)).map (·.1)
/-- each region's bytes are its records -/
def Told (F : Nat → List (List UInt8)) (l : Lg) (ins : List (Rc × Nat)) : Prop := (∀ q, Chain (cont F l q) (insAt ins q)) ∧ ∀ p ∈ ins, p.2 ≤ l.last
theorem insAt_snoc (ins : List (Rc × Nat)) (r : Rc) (w q : Nat) : insAt (ins ++ [(r, w)]) q = if w = q then insAt ins q ++ [r] else insAt ins q := by
  unfold insAt
  rw [List.filter_append, List.map_append]
  by_cases e : w = q
  · rw [if_pos e]; simp [e]
  · rw [if_neg e]; simp [e]
theorem cont_beyond {c : Lc} {l : Lg} {m : Dev} {F : Nat → List (List UInt8)} (h : RgInv c l m F) {q : Nat} (hq : l.last < q) : cont F l q = [] := by
  unfold cont
  rw [h.core.beyond q hq, if_neg (by omega)]
  rfl
theorem Told.app {c : Lc} {l l' : Lg} {m m' : Dev} {F F' : Nat → List (List UInt8)} {ins : List (Rc × Nat)} {k v : List UInt8} {e a : Nat} (h : Told F l ins) (hi : RgInv c l m F) (hi' : RgInv c l' m' F') (st : AppStep c l m F (rpack k v e) l' m' F' a) (hr : rcode k.length v.length e = 0) : Told F' l' (ins ++ [(⟨k, v, e⟩, l'.last)]) := by
  have hw := st.way
  refine ⟨fun q => ?_, fun p hp => ?_⟩
  · rw [insAt_snoc]
    by_cases e1 : l'.last = q
    · subst e1
      rw [if_pos rfl]
      rcases hw with ⟨-, e2, -⟩ | ⟨-, e2, -⟩
      · have h0 : Chain [] (insAt ins l'.last) := by
          have := h.1 l'.last
          rwa [cont_beyond hi (by omega)] at this
        rw [(st.new e2).1]
        exact h0.more k v e hr
      · have h0 := h.1 l'.last
        rw [e2] at h0 ⊢
        rw [st.on e2]
        exact h0.more k v e hr
    · rw [if_neg e1]
      rcases Nat.lt_trichotomy q l.last with h1 | h1 | h1
      · rw [st.same q h1]; exact h.1 q
      · subst h1
        have e2 : l'.last = l.last + 1 := by omega
        obtain ⟨z, hz⟩ := (st.new e2).2
        rw [hz]
        exact (h.1 l.last).zeros z
      · rw [cont_beyond hi' (by omega), ← cont_beyond hi h1]; exact h.1 q
  · rcases List.mem_append.1 hp with hp | hp
    · have := h.2 p hp; omega
    · rw [List.mem_singleton.1 hp]; exact Nat.le_refl _
theorem Told.flush {c : Lc} {l l' : Lg} {m m' : Dev} {F F' : Nat → List (List UInt8)} {ins : List (Rc × Nat)} {z : Nat} (h : Told F l ins) (st : FlStep c l m F l' m' F' z) : Told F' l' ins := by
  refine ⟨fun q => ?_, fun p hp => by rw [st.last]; exact h.2 p hp⟩
  by_cases e : q = l.last
  · subst e
    rw [st.cnt]
    exact (h.1 l.last).zeros z
  · have e1 : cont F' l' q = cont F l q := by
      unfold cont
      rw [st.same _ e, if_neg e, if_neg (by rw [st.last]; exact e)]
    rw [e1]
    exact h.1 q
theorem Told.recs {l : Lg} {F : Nat → List (List UInt8)} {ins : List (Rc × Nat)} (h : Told F l ins) (hp : l.pend = []) (q : Nat) : recsOf (F q).flatten = insAt ins q := by
  have := h.1 q []
  rw [recsOf_nil, List.append_nil, List.append_nil] at this
  rw [← this]
  unfold cont
  rw [hp]
  simp
end Go.Proofs.Ytijljdcpajjhhaa

/-! What the law RegionRecords keeps in mind: the records appended, and to which regions. -/
namespace Go.Proofs.Ytijljdcpajjhhaa
open Go.RowKit Go.Shelf Sg
set_option linter.unusedSimpArgs false
set_option linter.unusedVariables false

theorem insAt_step (ins : List (Rc × Nat)) (q i : Nat) (h : i < ins.length) : insAt (ins.take (i + 1)) q = if ins[i].2 = q then insAt (ins.take i) q ++ [ins[i].1] else insAt (ins.take i) q := by
  rw [← List.take_append_getElem h]
  exact insAt_snoc _ ins[i].1 ins[i].2 q
theorem insAt_at (ins : List (Rc × Nat)) (q i : Nat) (h : i < ins.length) (e : ins[i].2 = q) : (insAt ins q)[(insAt (ins.take i) q).length]? = some ins[i].1 := by
  have e1 : insAt ins q = insAt (ins.take (i + 1)) q ++ insAt (ins.drop (i + 1)) q := by
    unfold insAt
    rw [← List.map_append, ← List.filter_append, List.take_append_drop]
  rw [e1, insAt_step ins q i h, if_pos e, List.append_assoc, List.getElem?_append_right (Nat.le_refl _)]
  simp
theorem insAt_len (ins : List (Rc × Nat)) (q : Nat) : (insAt ins q).length ≤ ins.length := by
  unfold insAt
  rw [List.length_map]
  exact List.length_filter_le _ _

def senc (x : Rc) : List Value := [.string ⟨x.k.toArray⟩, .string ⟨x.v.toArray⟩, .int .i64 (x.en : Int)]
def nenc (n : Nat) : List Value := [.int .i64 (n : Int)]
theorem slies : Lies senc 3 := ⟨fun _ => rfl, fun x u hu => by simp [senc] at hu; rcases hu with rfl | rfl | rfl <;> rfl⟩
theorem nlies : Lies nenc 1 := ⟨fun _ => rfl, fun x u hu => by simp [nenc] at hu; subst hu; rfl⟩
theorem srec_info : (Try.prog.info? 108).map (fun i => (i.zero, i.size, i.bytes)) = some (some (.agg #[.string ByteArray.empty, .string ByteArray.empty, .int .i64 0]), 3, 40) := by kernel_rfl
theorem int_info : (Try.prog.info? 3).map (fun i => (i.zero, i.size, i.bytes)) = some (some (.int .i64 0), 1, 8) := by kernel_rfl
abbrev SRow := RowE senc 3 108
abbrev NRow := RowE nenc 1 3

theorem loudly_of_string {P : Program} {o : Oper} {a : Act} {w : World} {K : Act → World → Prop} (x : Operand) (src dst e : TypeId) (hop : o.op = Op.convert src dst x)
    (hs : P.underlying src = some .string) (hd : P.underlying dst = some (.slice e)) (he : P.underlying e = some (.int .u8)) {s : ByteArray} (hx : a.eval x = .string s) (hn : s.size ≤ 140737488355328)
    (hK : ∀ v' w', Bytes w' v' s.data.toList → Keep [] w w' → K (a.put o.dst v') w') : loudly P o a w K := by
  obtain ⟨v', w', hrun, h1, h2⟩ := run_of_string (P := P) w src dst e s hs hd he hn
  have e1 : (execOp a.eval o).run P w = .ok (.value v') w' := by
    simp [execOp, hop, hx, hrun, Result.andThen]
  unfold loudly
  rw [e1]
  exact hK v' w' h1 h2
/-- what all loud operations leave alone -/
theorem parOk_keep {loud : List Nat} {W0 : World} {F : Nat → Value → World → Prop} (h : ∀ k v w w', Keep [] w w' → F k v w → F k v w') : ParOk loud (fun w => Keep [] W0 w) (fun _ w w' => Keep [] w w') (fun _ _ => True) F :=
  ⟨fun _ _ _ _ h1 h2 => h1.trans h2, fun _ _ _ _ _ _ _ _ _ _ => trivial, fun _ k v w w' _ _ _ _ h2 h3 => h k v w w' h2 h3⟩

/-- where the first loop is: the records appended, their regions -/
structure RRInv (W : World) (w : World) (gl g : Nat) (c : Lc) (l : Lg) (m : Dev) (F : Nat → List (List UInt8)) (iv wv : Value) (ins : List (Rc × Nat)) : Prop where
  log : LogAt W (iv.ownBlock.toList ++ wv.ownBlock.toList) w gl g c l m F
  ri : SRow w W.heap.size iv (ins.map (·.1))
  rw : NRow w W.heap.size wv (ins.map (·.2))
  told : Told F l ins
section
variable {W w w' : World} {gl g : Nat} {c : Lc} {l l' : Lg} {m m' : Dev} {F F' : Nat → List (List UInt8)} {iv wv iv' wv' : Value} {ins : List (Rc × Nat)}
theorem RRInv.keep (h : RRInv W w gl g c l m F iv wv ins) (k : Keep [] w w') : RRInv W w' gl g c l m F iv wv ins :=
  ⟨h.log.keep k, h.ri.keep k (by simp), h.rw.keep k (by simp), h.told⟩
theorem RRInv.iform (h : RRInv W w gl g c l m F iv wv ins) : ∃ a cp, iv = .slice a ins.length cp := by
  obtain ⟨a, cp, e⟩ := h.ri.form
  exact ⟨a, cp, by rw [e, List.length_map]⟩
theorem RRInv.wform (h : RRInv W w gl g c l m F iv wv ins) : ∃ a cp, wv = .slice a ins.length cp := by
  obtain ⟨a, cp, e⟩ := h.rw.form
  exact ⟨a, cp, by rw [e, List.length_map]⟩
theorem rows_apart {b1 b2 : Nat} {l1 : List Rc} {l2 : List Nat} (h1 : SRow w b1 iv l1) (h2 : NRow w b2 wv l2) : ∀ b, iv.ownBlock = some b → wv.ownBlock ≠ some b := fun b e1 e2 => by
  obtain ⟨-, -, cs, g1⟩ := h1.lt b e1
  exact h2.ne g1 (by decide) e2
/-- the two rows grow -/
theorem LogAt.rows (h : LogAt W (iv.ownBlock.toList ++ wv.ownBlock.toList) w gl g c l m F) (k : Keep (iv.ownBlock.toList ++ wv.ownBlock.toList) w w')
    (hW : ∀ b, iv.ownBlock = some b ∨ wv.ownBlock = some b → W.heap.size ≤ b)
    (hi : ∀ b, iv'.ownBlock = some b → (iv.ownBlock = some b ∨ w.heap.size ≤ b) ∧ b < w'.heap.size) (hw : ∀ b, wv'.ownBlock = some b → (wv.ownBlock = some b ∨ w.heap.size ≤ b) ∧ b < w'.heap.size) :
    LogAt W (iv'.ownBlock.toList ++ wv'.ownBlock.toList) w' gl g c l m F := by
  obtain ⟨D, E, r1, r2⟩ := h.mem
  have hin : ∀ b, b ∈ iv.ownBlock.toList ++ wv.ownBlock.toList ↔ (iv.ownBlock = some b ∨ wv.ownBlock = some b) := fun b => by
    rw [List.mem_append, Option.mem_toList, Option.mem_toList]
  have hin' : ∀ b, b ∈ iv'.ownBlock.toList ++ wv'.ownBlock.toList ↔ (iv'.ownBlock = some b ∨ wv'.ownBlock = some b) := fun b => by
    rw [List.mem_append, Option.mem_toList, Option.mem_toList]
  have hlt := rv_lt r1
  refine ⟨h.k.trans' k (fun b hb => .inr (hW b ((hin b).1 hb))), h.inv, ⟨D, E, r1.keep k (fun b hb => ⟨fun hm => (r2 b (.inr hm)).2 hb, fun hm => (r2 b (.inl hm)).2 hb⟩), fun b hb => ⟨(r2 b hb).1, fun hm => ?_⟩⟩, fun b hb => ?_⟩
  · have h1 := hlt b hb
    rcases (hin' b).1 hm with e | e
    · rcases (hi b e).1 with e2 | e2
      · exact (r2 b hb).2 ((hin b).2 (.inl e2))
      · omega
    · rcases (hw b e).1 with e2 | e2
      · exact (r2 b hb).2 ((hin b).2 (.inr e2))
      · omega
  · rcases (hin' b).1 hb with e | e
    · exact (hi b e).2
    · exact (hw b e).2
end
end Go.Proofs.Ytijljdcpajjhhaa

/-! The walk of the law RegionRecords. -/
namespace Go.Proofs.Ytijljdcpajjhhaa
open Go.RowKit Go.Shelf Sg
attribute [local go_sem] Oper.semAt_some
set_option linter.unusedSimpArgs false
set_option linter.unusedVariables false

set_option maxRecDepth 100000 in
set_option maxHeartbeats 1000000 in
set_option maxHeartbeats 8000000 in
theorem regionRecordsWalk (W : World) (v0 : Value) (l0 : List SRec) (b0 : SRecs W v0 l0) :
    Calls Try.prog 8 #[v0] W fun e W' => e = .returned (.bool true) ∧ Below W.heap.size W W' := by
  obtain ⟨va, vc, rfl, hlc, hlm, -⟩ := b0.form
  have HS := Lib.hid b0
  clear b0
  by_cases h1 : 30 < l0.length
  · have h1' : (30 : Int) < (l0.length : Int) := by omega
    go_enter Try.func8, Try.ntmps8
    go_wp2
    go_ret
    exact ⟨rfl, (Keep.refl [] W).below (Nat.le_refl _) (by simp)⟩
  have h1' : ¬ (30 : Int) < (l0.length : Int) := by omega
  go_enter Try.func8, Try.ntmps8
  go_wp2_with fail
  refine (show Calls Try.prog 15 #[.int .i64 60, .int .i64 96] W _ from newDev_any 60 96 (by decide) W).mono ?_
  rintro e w2 ⟨g, D, rfl, hD, k2, hf⟩
  go_wp2_with fail
  refine (small_any _).mono ?_
  rintro e w3 ⟨rfl, k3⟩
  have q1 : (lcOf smallP).R = 3 := rfl
  have q2 : (lcOf smallP).S * (lcOf smallP).rm = 154 := rfl
  have q4 : (lg0 smallP).last = 0 := rfl
  have q6 : Told (fun _ => []) (lg0 smallP) [] := ⟨fun q => by
    unfold cont
    rw [show (lg0 smallP).pend = [] from rfl, ite_self]
    exact Chain.nil, fun p hp => by simp at hp⟩
  have cF := format_ok (W := W) (X := []) w3 (k2.trans k3) (hD.keep k3 (by simp)) (fun b hb => ⟨hf b hb, by simp⟩) (by simp) smallP small_on
  generalize lcOf smallP = c at *
  generalize lg0 smallP = lg at *
  clear hD hf k2 k3
  go_wp2_with fail
  refine cF.mono ?_
  clear cF
  rintro e w4 ⟨gl, rfl, h4, -⟩
  have ha0 : (Dev.new 60 96).acts = 0 := rfl
  generalize Dev.new 60 96 = m0 at *
  generalize (fun _ => ([] : List (List UInt8))) = F0 at *
  have H4 := Lib.hid (show RRInv W w4 gl g c lg m0 F0 (.slice none 0 0) (.slice none 0 0) [] from ⟨h4, RowE.nil, RowE.nil, q6⟩)
  clear h4 q6
  have Q := Lib.hid (And.intro q1 q2)
  clear q1 q2
  go_wp2
  go_loopw [5, 6, 7] (fun u5 u6 i wr => ∃ (k : Nat) (l : Lg) (m : Dev) (F : Nat → List (List UInt8)) (ins : List (Rc × Nat)), k ≤ l0.length ∧ i = .int .i64 (k : Int) ∧ Hid (RRInv W wr gl g c l m F u5 u6 ins) ∧ l.last ≤ k ∧ m.acts ≤ k * 200 ∧ ins.length ≤ k) (fun _ _ i _ => l0.length - (intOf i).toNat)
  case atStart => exact ⟨0, lg, m0, F0, [], by omega, rfl, H4, by omega, by omega, by simp⟩
  case round =>
    clear H4 ha0 q4
    obtain ⟨j, l, m, F, ins, hj, rfl, hR, hlast, hacts, hins⟩ := hrel
    obtain ⟨ia, ic, rfl⟩ := hR.out.iform
    obtain ⟨wa, wc, rfl⟩ := hR.out.wform
    by_cases hlt : j < l0.length
    case pos =>
      have hlt' : (j : Int) < (l0.length : Int) := by omega
      obtain ⟨b, o, rfl, hG⟩ := HS.out.spot hlt
      obtain ⟨q, hq⟩ : ∃ q, l0[j] = q := ⟨_, rfl⟩
      rw [hq] at hG
      clear hq
      obtain ⟨kl, vl, e⟩ := q
      simp only at hG
      obtain ⟨ks, hks⟩ : ∃ ks : ByteArray, ks = ⟨kl.toArray⟩ := ⟨_, rfl⟩
      obtain ⟨vs, hvs⟩ : ∃ vs : ByteArray, vs = ⟨vl.toArray⟩ := ⟨_, rfl⟩
      have lk : kl.length = ks.size := by rw [hks]; rfl
      have lv : vl.length = vs.size := by rw [hvs]; rfl
      have dk : ks.data.toList = kl := by rw [hks]
      have dv : vs.data.toList = vl := by rw [hvs]
      rw [← hks, ← hvs] at hG
      have hG2 := fun w' (h : Keep [] wr w') => hG w' (hR.out.log.k.trans h)
      have HG0 := Lib.hid hG
      obtain ⟨g0, g1, g2⟩ := hG2 wr (Keep.refl _ _)
      have HKS := Lib.hid (And.intro hks hvs)
      have HG := Lib.hid hG2
      have HLK := Lib.hid (And.intro (And.intro lk lv) (And.intro dk dv))
      clear hks hvs hG hG2
      by_cases hk1 : 64 < ks.size
      · clear lk lv dk dv
        go_wp2
        go_ret
        exact ⟨rfl, hR.out.log.k.below (Nat.le_refl _) (by simp)⟩
      by_cases hv1 : 60 < vs.size
      · clear lk lv dk dv
        go_wp2
        go_ret
        exact ⟨rfl, hR.out.log.k.below (Nat.le_refl _) (by simp)⟩
      have hks2 : ks.size ≤ 64 := by omega
      have hvs2 : vs.size ≤ 60 := by omega
      have hP := fun k v w => rpack_any k v kl vl e w
      obtain ⟨L, hL⟩ : ∃ L, (if rcode kl.length vl.length e = 0 then rpack kl vl e.toNat else []) = L := ⟨_, rfl⟩
      obtain ⟨rc, hrc⟩ : ∃ rc, rcode kl.length vl.length e = rc := ⟨_, rfl⟩
      rw [hL, hrc] at hP
      have HP := Lib.hid hP
      have HRC := Lib.hid (And.intro hL hrc)
      clear lk lv dk dv hP hL hrc
      go_wp2_with fail
      clear g0 g1 g2
      go_cut [8, 9] from 50 to 71 (fun s8 s9 wx => ∃ ao cp, s8 = .slice ao L.length cp ∧ s9 = .int .i64 rc ∧ Hid (OwnB wx wr.heap.size 5 (.slice ao L.length cp) L ∧ Keep [] wr wx))
      case first =>
        have cg0 := fun w' (h : Keep [] wr w') => (HG.out w' h).1
        have cg1 := fun w' (h : Keep [] wr w') => (HG.out w' h).2.1
        have cg2 := fun w' (h : Keep [] wr w') => (HG.out w' h).2.2
        refine wp_region_par [5, 11, 18] (fun w' => Keep [] wr w') (fun _ w w' => Keep [] w w') (fun _ _ => True)
          (fun k v => (k = 5 → ∃ a c, v = .slice a kl.length c) ∧ (k = 11 → ∃ a c, v = .slice a vl.length c) ∧ (k = 18 → ∃ a c, v = .tuple #[.slice a L.length c, .int .i64 rc]))
          (fun k v w' => (k = 5 → Bytes w' v kl) ∧ (k = 11 → Bytes w' v vl) ∧ (k = 18 → ∃ a c, v = .tuple #[.slice a L.length c, .int .i64 rc] ∧ OwnB w' wr.heap.size 5 (.slice a L.length c) L))
          (by kernel_rfl) (by kernel_rfl) (by kernel_rfl) (parOk_keep fun k v w w' hk h => ⟨fun e => (h.1 e).keep hk (by simp), fun e => (h.2.1 e).keep hk (by simp), fun e => by
            obtain ⟨a, c, e1, h1⟩ := h.2.2 e
            exact ⟨a, c, e1, h1.keep hk (by simp)⟩⟩) (fun w1 k => ⟨k, fun _ _ => trivial⟩) ?_
        (repeat (first | (refine par_q rfl rfl (fun K hK => ?_); apply Exists.intro; refine ⟨fun w' hC hT => ?_, ?_⟩; ((try simp only [] at hC); go_simp <;> rfl); go_simp; refine hK _ ?_; clear hK K) | (refine par_s rfl (fun K hK => ?_); go_simp; refine hK _ ?_; clear hK K)))
        refine par_l rfl rfl (by kernel_rfl) ⟨.slice none kl.length 0, fun _ => ⟨_, _, rfl⟩, fun e => absurd e (by decide), fun e => absurd e (by decide)⟩ (fun w1 k1 _ hT K hK => ?_) (fun v hv K hK => ?_)
        · refine loudly_of_string (.tmp 55) 9 30 5 rfl Try.underlying9 Try.underlying30 Try.underlying5 (s := ks) rfl (by omega) fun v' w' hb hk => ?_
          rw [HLK.out.2.1] at hb
          obtain ⟨ao, cap, rfl, -⟩ := hb.form
          exact hK _ _ hk ⟨fun _ => ⟨_, _, rfl⟩, fun e => absurd e (by decide), fun e => absurd e (by decide)⟩ ⟨fun _ => hb, fun e => absurd e (by decide), fun e => absurd e (by decide)⟩
        obtain ⟨a5, c5, rfl⟩ := hv.1 rfl
        clear hv
        go_simp
        refine hK _ ?_
        clear hK K
        (repeat (first | (refine par_q rfl rfl (fun K hK => ?_); apply Exists.intro; refine ⟨fun w' hC hT => ?_, ?_⟩; ((try simp only [] at hC); go_simp <;> rfl); go_simp; refine hK _ ?_; clear hK K) | (refine par_s rfl (fun K hK => ?_); go_simp; refine hK _ ?_; clear hK K)))
        refine par_l rfl rfl (by kernel_rfl) ⟨.slice none vl.length 0, fun e => absurd e (by decide), fun _ => ⟨_, _, rfl⟩, fun e => absurd e (by decide)⟩ (fun w1 k1 _ hT K hK => ?_) (fun v hv K hK => ?_)
        · refine loudly_of_string (.tmp 61) 9 30 5 rfl Try.underlying9 Try.underlying30 Try.underlying5 (s := vs) rfl (by omega) fun v' w' hb hk => ?_
          rw [HLK.out.2.2] at hb
          obtain ⟨ao, cap, rfl, -⟩ := hb.form
          exact hK _ _ hk ⟨fun e => absurd e (by decide), fun _ => ⟨_, _, rfl⟩, fun e => absurd e (by decide)⟩ ⟨fun e => absurd e (by decide), fun _ => hb, fun e => absurd e (by decide)⟩
        obtain ⟨a11, c11, rfl⟩ := hv.2.1 rfl
        clear hv
        go_simp
        refine hK _ ?_
        clear hK K
        (repeat (first | (refine par_q rfl rfl (fun K hK => ?_); apply Exists.intro; refine ⟨fun w' hC hT => ?_, ?_⟩; ((try simp only [] at hC); go_simp <;> rfl); go_simp; refine hK _ ?_; clear hK K) | (refine par_s rfl (fun K hK => ?_); go_simp; refine hK _ ?_; clear hK K)))
        refine par_l rfl rfl (by kernel_rfl) ⟨.tuple #[.slice none L.length 0, .int .i64 rc], fun e => absurd e (by decide), fun e => absurd e (by decide), fun _ => ⟨_, _, rfl⟩⟩ (fun w1 k1 _ hT K hK => ?_) (fun v hv K hK => ?_)
        · have b5 : Bytes w1 (.slice a5 kl.length c5) kl := (hT (5, _) (by simp) (by kernel_rfl)).1 rfl
          have b11 : Bytes w1 (.slice a11 vl.length c11) vl := (hT (11, _) (by simp) (by kernel_rfl)).2.1 rfl
          clear hT
          go_simp
          refine (HP.out _ _ _ b5 b11).mono ?_
          rintro x w3 ⟨v', rfl, ho, hk⟩
          obtain ⟨ao, cap, rfl⟩ := ownsRow_form ho
          exact hK _ _ hk ⟨fun e => absurd e (by decide), fun e => absurd e (by decide), fun _ => ⟨_, _, rfl⟩⟩ ⟨fun e => absurd e (by decide), fun e => absurd e (by decide), fun _ => ⟨_, _, rfl, OwnB.base ho k1.size⟩⟩
        obtain ⟨a18, c18, rfl⟩ := hv.2.2 rfl
        clear hv
        go_simp
        refine hK _ ?_
        clear hK K
        (repeat (first | (refine par_q rfl rfl (fun K hK => ?_); apply Exists.intro; refine ⟨fun w' hC hT => ?_, ?_⟩; ((try simp only [] at hC); go_simp <;> rfl); go_simp; refine hK _ ?_; clear hK K) | (refine par_s rfl (fun K hK => ?_); go_simp; refine hK _ ?_; clear hK K)))
        refine par_nil fun w1 k1 hF => ?_
        obtain ⟨a, cp, e, ho⟩ := (hF (18, .tuple #[.slice a18 L.length c18, .int .i64 rc]) (by simp)).2.2 rfl
        cases e
        have k1' : Keep [] wr w1 := k1
        have HX := Lib.hid (And.intro ho k1')
        clear hF ho cg0 cg1 cg2 k1 k1'
        go_wp2_with fail
        go_meet
        case rel => exact ⟨a18, c18, rfl, rfl, HX⟩
      case rest =>
        rename World => wx
        obtain ⟨pa, pc, rfl, rfl, HX⟩ := hcut
        by_cases hrz : rc = 0
        case neg =>
          have hz : (rc != 0) = true := by simpa using hrz
          go_wp2
          go_roundw
          case rel => exact ⟨j + 1, l, m, F, ins, by omega, by go_num, hR.out.keep HX.out.2, by omega, by omega, by omega⟩
          case measure => simp [intOf]; omega
        case pos =>
          subst hrz
          have hrc := HRC.out.2
          have hL := HRC.out.1
          rw [if_pos hrc] at hL
          obtain ⟨z1, z2, z3, z4, z5⟩ := rcode_zero hrc
          obtain ⟨en, rfl⟩ : ∃ en : Nat, e = (en : Int) := ⟨e.toNat, by omega⟩
          rw [Int.toNat_natCast] at hL
          have hLn := rpack_len kl vl en
          rw [hL] at hLn
          have hvl : vl.length ≤ 60 := by rw [HLK.out.1.2]; exact hvs2
          have hLb : 14 ≤ L.length ∧ L.length ≤ 137 := by omega
          have h6 := hR.out.log.addV HX.out.2 HX.out.1
          have cA := append_ok _ h6 (by omega) (by omega) (.slice pa L.length pc) L (HX.out.1.bytes (by omega)) (fun y hy => List.mem_append_left _ (by rw [hy]; simp)) (by omega) (by rw [Q.out.2]; omega)
          have HLL := Lib.hid (And.intro hL hrc)
          clear h6 hLn hL hrc z1 z2 z3 z4 z5 hvl
          go_wp2_with fail
          refine cA.mono ?_
          clear cA
          rintro x w7 ⟨l7, m7, F7, a7, rfl, st, h7, hr7⟩
          have hway := st.way
          have hac := st.acts
          have htold := hR.out.told.app hR.out.log.inv h7.inv (by rw [HLL.out.1]; exact st) HLL.out.2
          have hi7 := (hR.out.ri.keep HX.out.2 (by simp)).rest hr7.same (fun b hb => List.mem_append_right _ (List.mem_append_left _ (by rw [hb]; simp)))
          have hw7 := (hR.out.rw.keep HX.out.2 (by simp)).rest hr7.same (fun b hb => List.mem_append_right _ (List.mem_append_right _ (by rw [hb]; simp)))
          have h7' := h7.less (Y := (Value.slice ia ins.length ic).ownBlock.toList ++ (Value.slice wa ins.length wc).ownBlock.toList) (fun b hb => List.mem_append_right _ hb)
          have hA8 := heap_alloc_new w7 (.cells #[.int .i64 (l7.last : Int), .int .i64 (a7 : Int), .int .i64 (L.length : Int)] 91)
          have k78 := (Keep.refl [] w7).alloc (.cells #[.int .i64 (l7.last : Int), .int .i64 (a7 : Int), .int .i64 (L.length : Int)] 91)
          have hs8 : w7.heap.size < (w7.alloc (.cells #[.int .i64 (l7.last : Int), .int .i64 (a7 : Int), .int .i64 (L.length : Int)] 91)).heap.size := by simp
          obtain ⟨w8, hw8⟩ : ∃ w8, w7.alloc (.cells #[.int .i64 (l7.last : Int), .int .i64 (a7 : Int), .int .i64 (L.length : Int)] 91) = w8 := ⟨_, rfl⟩
          rw [hw8] at hA8 k78 hs8
          have HW8 := Lib.hid hw8
          have h8 := h7'.keep k78
          have hi8 := hi7.keep k78 (by simp)
          have hw8r := hw7.keep k78 (by simp)
          have hb7 : ∀ b ∈ (Value.slice ia ins.length ic).ownBlock.toList ++ (Value.slice wa ins.length wc).ownBlock.toList, W.heap.size ≤ b ∧ b < w7.heap.size := fun b hb => by
            rcases List.mem_append.1 hb with hb | hb
            · have := hi7.lt b (by simpa using hb); exact ⟨this.1, this.2.1⟩
            · have := hw7.lt b (by simpa using hb); exact ⟨this.1, this.2.1⟩
          obtain ⟨LB, hLB⟩ : ∃ LB, w7.heap.size = LB := ⟨_, rfl⟩
          have H8 := Lib.hid (And.intro h8 (And.intro hi8 (And.intro hw8r (And.intro hb7 (And.intro htold (And.intro hA8 hs8))))))
          have hl7 : l7.last ≤ j + 1 := by omega
          have hac7 : m7.acts ≤ (j + 1) * 200 := by omega
          clear st h7 hr7 hway hac htold hi7 hw7 h7' hA8 k78 hs8 hw8 h8 hi8 hw8r hb7 hLB
          go_wp2_with fail
          rw [HW8.out]
          clear HW8
          have hcell := fun w' (h : TwoI w8 (.slice ia ins.length ic) (.slice wa ins.length wc) w') => HG0.out w' (H8.out.1.k.trans' h (fun b hb => .inr (H8.out.2.2.2.1 b hb).1))
          have e0 := fun w' (h : TwoI w8 (.slice ia ins.length ic) (.slice wa ins.length wc) w') => (hcell w' h).1
          have e1 := fun w' (h : TwoI w8 (.slice ia ins.length ic) (.slice wa ins.length wc) w') => (hcell w' h).2.1
          have e2 := fun w' (h : TwoI w8 (.slice ia ins.length ic) (.slice wa ins.length wc) w') => (hcell w' h).2.2
          have x0 := fun w' (h : TwoI w8 (.slice ia ins.length ic) (.slice wa ins.length wc) w') => cell_of_row w' _ 0 _ _ _ (Keep.blk h (fun hm => by have := (H8.out.2.2.2.1 _ hm).2; omega) H8.out.2.2.2.2.2.1)
          simp at x0
          have hse : (senc ⟨kl, vl, en⟩).toArray = #[.string ks, .string vs, .int .i64 (en : Int)] := by rw [HKS.out.1, HKS.out.2]; rfl
          have HSE := Lib.hid hse
          have hns : (nenc l7.last).toArray = #[.int .i64 (l7.last : Int)] := rfl
          have HNS := Lib.hid hns
          have hl1 : (ins.map (·.1)).length = ins.length := List.length_map _
          have hl2 : (ins.map (·.2)).length = ins.length := List.length_map _
          have HL12 := Lib.hid (And.intro hl1 hl2)
          clear hcell hse hns hl1 hl2
          refine wp_region_par [5, 6, 10, 11] (TwoI w8 (.slice ia ins.length ic) (.slice wa ins.length wc)) (TwoG (.slice ia ins.length ic) (.slice wa ins.length wc) 6 11)
            (TwoPre senc 3 108 nenc 1 3 W.heap.size (.slice ia ins.length ic) (.slice wa ins.length wc) (ins.map (·.1)) (ins.map (·.2)) 6 11)
            (TwoSh (ins.map (·.1)) (ins.map (·.2)) 5 6 10 11)
            (TwoF senc 3 108 nenc 1 3 w8 W.heap.size (.slice ia ins.length ic) (.slice wa ins.length wc) (ins.map (·.1)) (ins.map (·.2)) ⟨kl, vl, en⟩ l7.last 5 6 10 11)
            (by kernel_rfl) (by kernel_rfl) (by kernel_rfl) (two_ok H8.out.2.1 H8.out.2.2.1 (by decide) (by decide)) (fun w1 k => ⟨k.mono (by simp), fun _ _ => ⟨fun _ => H8.out.2.1.keep k (by simp), fun _ => H8.out.2.2.1.keep k (by simp)⟩⟩) ?_
          (repeat (first | (refine par_q rfl rfl (fun K hK => ?_); apply Exists.intro; refine ⟨fun w' hC hT => ?_, ?_⟩; ((try simp only [] at hC); go_simp <;> rfl); go_simp; refine hK _ ?_; clear hK K) | (refine par_s rfl (fun K hK => ?_); go_simp; refine hK _ ?_; clear hK K)))
          refine par_l rfl rfl (by kernel_rfl) ⟨_, TwoSh.build (by decide) (.inl rfl) 0⟩ (fun w1 k1 _ hT K hK => ?_) (fun v hv K hK => ?_)
          · have hn := (two_new (e1 := senc) (k1 := 3) (t1 := 108) (e2 := nenc) (k2 := 1) (t2 := 3) (B := W.heap.size) (l1 := ins.map (·.1)) (l2 := ins.map (·.2)) (x := ⟨kl, vl, en⟩) (y := l7.last) (p1 := 5) (q1 := 6) (p2 := 10) (q2 := 11) (by decide) (by decide) k1).1
            rw [HSE.out] at hn
            go_simp
            exact hK _ _ hn.1 hn.2.1 hn.2.2
          obtain ⟨g5, rfl⟩ := hv.1 (.inl rfl)
          clear hv
          go_simp
          refine hK _ ?_
          clear hK K
          (repeat (first | (refine par_q rfl rfl (fun K hK => ?_); apply Exists.intro; refine ⟨fun w' hC hT => ?_, ?_⟩; ((try simp only [] at hC); go_simp <;> rfl); go_simp; refine hK _ ?_; clear hK K) | (refine par_s rfl (fun K hK => ?_); go_simp; refine hK _ ?_; clear hK K)))
          refine par_l rfl rfl (by kernel_rfl) ⟨.slice none ((ins.map (·.1)).length + 1) 0, fun e => absurd e (by decide), fun _ => ⟨_, _, rfl⟩, fun e => absurd e (by decide)⟩ (fun w1 k1 hP1 hT K hK => ?_) (fun v hv K hK => ?_)
          · obtain ⟨v', w', hrun, r1, r2, r3⟩ := two_run1 (P := Try.prog) (ty := 106) slies Try.underlying106 srec_info rfl (by decide) (by decide) (by decide) k1 hP1 H8.out.1.k.size (by rw [HL12.out.1]; omega) (hT (5, .slice (some ⟨g5, 0, none⟩) 1 1) (by simp) (by kernel_rfl))
            refine loudly_append_run (.tmp 82) (.tmp 87) 106 rfl rfl rfl hrun ?_
            exact hK _ _ r1 r2 r3
          obtain ⟨a6, c6, rfl⟩ := hv.2.1 rfl
          clear hv
          go_simp
          refine hK _ ?_
          clear hK K
          (repeat (first | (refine par_q rfl rfl (fun K hK => ?_); apply Exists.intro; refine ⟨fun w' hC hT => ?_, ?_⟩; ((try simp only [] at hC); go_simp <;> rfl); go_simp; refine hK _ ?_; clear hK K) | (refine par_s rfl (fun K hK => ?_); go_simp; refine hK _ ?_; clear hK K)))
          refine par_l rfl rfl (by kernel_rfl) ⟨_, TwoSh.build (by decide) (.inr rfl) 0⟩ (fun w1 k1 _ hT K hK => ?_) (fun v hv K hK => ?_)
          · have hn := (two_new (e1 := senc) (k1 := 3) (t1 := 108) (e2 := nenc) (k2 := 1) (t2 := 3) (B := W.heap.size) (l1 := ins.map (·.1)) (l2 := ins.map (·.2)) (x := ⟨kl, vl, en⟩) (y := l7.last) (p1 := 5) (q1 := 6) (p2 := 10) (q2 := 11) (by decide) (by decide) k1).2
            rw [HNS.out] at hn
            go_simp
            exact hK _ _ hn.1 hn.2.1 hn.2.2
          obtain ⟨g10, rfl⟩ := hv.1 (.inr rfl)
          clear hv
          go_simp
          refine hK _ ?_
          clear hK K
          (repeat (first | (refine par_q rfl rfl (fun K hK => ?_); apply Exists.intro; refine ⟨fun w' hC hT => ?_, ?_⟩; ((try simp only [] at hC); go_simp <;> rfl); go_simp; refine hK _ ?_; clear hK K) | (refine par_s rfl (fun K hK => ?_); go_simp; refine hK _ ?_; clear hK K)))
          refine par_l rfl rfl (by kernel_rfl) ⟨.slice none ((ins.map (·.2)).length + 1) 0, fun e => absurd e (by decide), fun e => absurd e (by decide), fun _ => ⟨_, _, rfl⟩⟩ (fun w1 k1 hP1 hT K hK => ?_) (fun v hv K hK => ?_)
          · obtain ⟨v', w', hrun, r1, r2, r3⟩ := two_run2 (P := Try.prog) (ty := 23) nlies Try.underlying23 int_info rfl (by decide) (by decide) (by decide) k1 hP1 H8.out.1.k.size (by rw [HL12.out.2]; omega) (hT (10, .slice (some ⟨g10, 0, none⟩) 1 1) (by simp) (by kernel_rfl))
            refine loudly_append_run (.tmp 89) (.tmp 92) 23 rfl rfl rfl hrun ?_
            exact hK _ _ r1 r2 r3
          obtain ⟨a11, c11, rfl⟩ := hv.2.2 rfl
          clear hv
          go_simp
          refine hK _ ?_
          clear hK K
          (repeat (first | (refine par_q rfl rfl (fun K hK => ?_); apply Exists.intro; refine ⟨fun w' hC hT => ?_, ?_⟩; ((try simp only [] at hC); go_simp <;> rfl); go_simp; refine hK _ ?_; clear hK K) | (refine par_s rfl (fun K hK => ?_); go_simp; refine hK _ ?_; clear hK K)))
          refine par_nil fun w9 k9 hF => ?_
          have f6 := (hF (6, .slice a6 ((ins.map (·.1)).length + 1) c6) (by simp)).2.2.1 rfl
          have f11 := (hF (11, .slice a11 ((ins.map (·.2)).length + 1) c11) (by simp)).2.2.2 rfl
          have h9 : RRInv W w9 gl g c l7 m7 F7 (.slice a6 ((ins.map (·.1)).length + 1) c6) (.slice a11 ((ins.map (·.2)).length + 1) c11) (ins ++ [(⟨kl, vl, en⟩, l7.last)]) :=
            ⟨H8.out.1.rows k9 (fun b hb => (H8.out.2.2.2.1 b (by rw [List.mem_append, Option.mem_toList, Option.mem_toList]; exact hb)).1) f6.2 f11.2, by rw [List.map_append]; exact f6.1, by rw [List.map_append]; exact f11.1, H8.out.2.2.2.2.1⟩
          rw [HL12.out.1, HL12.out.2] at h9
          have H9 := Lib.hid h9
          have hin9 : (ins ++ [((⟨kl, vl, en⟩ : Rc), l7.last)]).length ≤ j + 1 := by rw [List.length_append]; simp; omega
          clear hF f6 f11 h9 e0 e1 e2 x0 k9
          go_wp2_with fail
          case roundEnd =>
            refine ⟨⟨j + 1, l7, m7, F7, _, by omega, by go_num, H9, by omega, by omega, hin9⟩, ?_⟩
            simp [intOf]; omega
    case neg =>
      have hlt' : ¬ (j : Int) < (l0.length : Int) := by omega
      have cFl := flush_ok wr hR.out.log (by omega)
      go_wp2_with fail
      refine cFl.mono ?_
      clear cFl
      rintro e w5 ⟨l5, m5, F5, z5, rfl, st, h5, hr5⟩
      have htold := hR.out.told.flush st
      have hrecs := fun q => htold.recs st.pend q
      have hi5 := hR.out.ri.rest hr5.same (fun b hb => List.mem_append_left _ (by rw [hb]; simp))
      have hw5 := hR.out.rw.rest hr5.same (fun b hb => List.mem_append_right _ (by rw [hb]; simp))
      have e5 := st.last
      have ea5 := st.acts
      have hl5 : l5.last ≤ 30 := by omega
      have hac5 : m5.acts ≤ 10000 := by omega
      have hN30 : ins.length ≤ 30 := by omega
      obtain ⟨N, hN⟩ : ∃ N, ins.length = N := ⟨_, rfl⟩
      rw [hN] at hi5 hw5 hN30 ⊢
      have HN := Lib.hid hN
      have H5 := Lib.hid (And.intro h5 (And.intro hi5 (And.intro hw5 hrecs)))
      clear st h5 hr5 htold hrecs hi5 hw5 e5 ea5 hR hlast hacts hins hN hlt hlt' hj
      go_wp2_with fail
      go_loopw [12] (fun i w' => ∃ q : Nat, q ≤ l5.last + 2 ∧ i = .int .i64 (q : Int) ∧ Hid (Keep [] w5 w')) (fun i _ => l5.last + 2 - (intOf i).toNat)
      case atStart => exact ⟨0, by omega, rfl, Keep.refl _ _⟩
      case round =>
        obtain ⟨q, hq, rfl, hKq⟩ := hrel
        rename World => wq
        have hA := H5.out.1.keep hKq.out
        have HA := Lib.hid hA
        have cLa := last_ok wq hA
        by_cases hq2 : q = l5.last + 2
        case pos =>
          have hgt : ¬ (q : Int) ≤ (l5.last : Int) + 1 := by omega
          clear hA hq2
          go_wp2_with fail
          refine cLa.mono ?_
          rintro e w6 ⟨rfl, rfl⟩
          clear cLa
          go_wp2_with fail
          refine (awake11_any _).mono ?_
          rintro e w7 ⟨rfl, k7⟩
          go_wp2
          go_ret
          exact ⟨rfl, (HA.out.k.trans k7).below (Nat.le_refl _) (by simp)⟩
        have hle : (q : Int) ≤ (l5.last : Int) + 1 := by omega
        have cR := records_ok hA (by omega) q (by omega)
        have cOl := fun w' (k : Keep [] wq w') => oldest_ok w' (hA.keep k)
        have cL2 := fun w' (k : Keep [] wq w') => last_ok w' (hA.keep k)
        obtain ⟨ol, hol⟩ : ∃ ol, c.oldest l5 = ol := ⟨_, rfl⟩
        rw [hol] at cR
        simp only [hol] at cOl
        have HC := Lib.hid (And.intro cOl cL2)
        have HOL := Lib.hid hol
        clear hA cOl cL2 hol
        go_wp2_with fail
        refine cLa.mono ?_
        rintro e w6 ⟨rfl, rfl⟩
        clear cLa
        go_wp2_with fail
        refine cR.mono ?_
        clear cR
        rintro e w7 ⟨k7, (⟨hno, rfl⟩ | ⟨hin, v, rs, B, rfl, hB, ho, hm⟩)⟩
        · have K7 := Lib.hid k7
          clear k7
          by_cases c1 : q < ol
          · have c1' : (q : Int) < (ol : Int) := by omega
            clear hno
            go_wp2_with fail
            refine (HC.out.1 _ K7.out).mono ?_
            rintro e w8 ⟨rfl, k8⟩
            have K8 := Lib.hid (hKq.out.trans (K7.out.trans k8))
            clear k8
            go_wp2
            go_roundw
            case rel => exact ⟨q + 1, by omega, by go_num, K8⟩
            case measure => simp [intOf]; omega
          · have c1' : ¬ (q : Int) < (ol : Int) := by omega
            have c2' : (l5.last : Int) < (q : Int) := by omega
            clear hno
            go_wp2_with fail
            refine (HC.out.1 _ K7.out).mono ?_
            rintro e w8 ⟨rfl, k8⟩
            go_wp2_with fail
            refine (HC.out.2 _ (K7.out.trans k8)).mono ?_
            rintro e w9 ⟨rfl, rfl⟩
            have K8 := Lib.hid (hKq.out.trans (K7.out.trans k8))
            clear k8
            go_wp2
            go_roundw
            case rel => exact ⟨q + 1, by omega, by go_num, K8⟩
            case measure => simp [intOf]; omega
        · have K7 := Lib.hid k7
          have c1' : ¬ (q : Int) < (ol : Int) := by omega
          have c2' : ¬ (l5.last : Int) < (q : Int) := by omega
          have c1n : decide (q < ol) = false := decide_eq_false (by omega)
          have c2n : decide (l5.last < q) = false := decide_eq_false (by omega)
          rw [H5.out.2.2.2 q] at hm
          obtain ⟨ra, rcap, rfl⟩ := ho.form
          obtain ⟨M, hM⟩ : ∃ M, rs.length = M := ⟨_, rfl⟩
          have hM2 : (insAt ins q).length = M := by rw [← hM]; exact hm.1.symm
          rw [hM]
          have HM := Lib.hid (And.intro ho (And.intro hm (And.intro hM hM2)))
          clear k7 hin ho hm hB hM
          obtain ⟨cnt, hcnt⟩ : ∃ cnt : Nat → Nat, cnt = fun k => (insAt (ins.take k) q).length := ⟨_, rfl⟩
          have hc0 : cnt 0 = 0 := by rw [hcnt]; rfl
          have hcN : cnt N = M := by rw [hcnt, ← hM2, ← HN.out]; simp only [List.take_length]
          have hcle : ∀ k, cnt k ≤ M := fun k => by
            rw [hcnt, ← hM2]
            have e : insAt ins q = insAt (ins.take k) q ++ insAt (ins.drop k) q := by
              unfold insAt
              rw [← List.map_append, ← List.filter_append, List.take_append_drop]
            simp only
            rw [e, List.length_append]
            omega
          have hstep : ∀ k (h : k < ins.length), (ins[k].2 = q ∧ cnt (k + 1) = cnt k + 1 ∧ (insAt ins q)[cnt k]? = some ins[k].1) ∨ (ins[k].2 ≠ q ∧ cnt (k + 1) = cnt k) := fun k h => by
            rw [hcnt]
            simp only
            rw [insAt_step ins q k h]
            by_cases e : ins[k].2 = q
            · rw [if_pos e]
              exact .inl ⟨e, by simp, insAt_at ins q k h e⟩
            · rw [if_neg e]
              exact .inr ⟨e, rfl⟩
          have HCN := Lib.hid (And.intro hc0 (And.intro hcN (And.intro hcle hstep)))
          have hM3 : M ≤ 30 := by rw [← hM2]; exact Nat.le_trans (insAt_len ins q) (by rw [HN.out]; exact hN30)
          clear hcnt hc0 hcN hcle hstep hM2
          go_wp2_with fail
          refine (HC.out.1 _ K7.out).mono ?_
          rintro e w8 ⟨rfl, k8⟩
          have K8 := Lib.hid k8
          clear k8
          go_wp2_with fail
          refine (HC.out.2 _ (K7.out.trans K8.out)).mono ?_
          rintro e w9 ⟨rfl, rfl⟩
          go_wp2_with fail
          go_loopw [15, 16] (fun n i w' => ∃ k : Nat, k ≤ N ∧ i = .int .i64 (k : Int) ∧ n = .int .i64 (cnt k : Int) ∧ Hid (Keep [] w8 w')) (fun _ i _ => N - (intOf i).toNat)
          case atStart => exact ⟨0, by omega, rfl, by rw [HCN.out.1]; rfl, Keep.refl _ _⟩
          case round =>
            obtain ⟨k, hk, rfl, rfl, hKk⟩ := hrel
            rename World => wk
            by_cases hkN : k < N
            case neg =>
              obtain rfl : k = N := by omega
              have hcN := HCN.out.2.1
              have hz1 : ((cnt k : Int) == (M : Int)) = true := by rw [hcN]; simp
              have hz2 : ((cnt k : Int) != (M : Int)) = false := by rw [hcN]; simp
              have hz3 : cnt k = M := hcN
              clear hcN
              rw [hz3]
              go_wp2
              go_roundw
              case rel => exact ⟨q + 1, by omega, by go_num, Lib.hid (hKq.out.trans (K7.out.trans (K8.out.trans hKk.out)))⟩
              case measure => simp [intOf]; omega
            case pos =>
              have hkl : k < ins.length := by rw [HN.out]; exact hkN
              obtain ⟨gw, e, -, hcw⟩ := RowE.cells nlies H5.out.2.2.1 (i := k) (by rw [List.length_map]; exact hkl)
              obtain ⟨gi, e', -, hci⟩ := RowE.cells slies H5.out.2.1 (i := k) (by rw [List.length_map]; exact hkl)
              subst e
              subst e'
              have hwk := hKq.out.trans (K7.out.trans (K8.out.trans hKk.out))
              have cw := hwk.cell (by simp) (hcw 0 _ rfl)
              simp at cw
              have HCI := Lib.hid (fun j u hu => hwk.cell (S := []) (by simp) (hci j u hu))
              have HWK := Lib.hid hwk
              have hst := HCN.out.2.2.2 k hkl
              obtain ⟨x, hx⟩ : ∃ x, ins[k].1 = x := ⟨_, rfl⟩
              obtain ⟨qk, hqk⟩ : ∃ qk, ins[k].2 = qk := ⟨_, rfl⟩
              have hci1 : (ins.map (·.1))[k]'(by rw [List.length_map]; exact hkl) = x := by rw [List.getElem_map]; exact hx
              rw [hx, hqk] at hst
              rw [hqk] at cw
              have HCI2 := HCI
              rw [hci1] at HCI2
              have hci0 := HCI2.out 0 _ rfl
              have hcj1 := HCI2.out 1 _ rfl
              have hcj2 := HCI2.out 2 _ rfl
              have HIN := Lib.hid (And.intro hci0 (And.intro hcj1 hcj2))
              clear hcw hci hwk HCI HCI2 hx hqk hci1 hci0 hcj1 hcj2
              rcases hst with ⟨e1, e2, e3⟩ | ⟨e1, e2⟩
              case inr =>
                have d1 : ((qk : Int) != (q : Int)) = true := by simp; omega
                have d2 : ¬ ((qk : Int) = (q : Int)) := by omega
                have d3 : ¬ (qk = q) := e1
                have E2 := Lib.hid e2
                clear e1 e2
                go_wp2
                go_roundw
                case rel => exact ⟨k + 1, by omega, by go_num, by rw [E2.out], hKk⟩
                case measure => simp [intOf]; omega
              case inl =>
                subst e1
                obtain ⟨n, hn⟩ : ∃ n, cnt k = n := ⟨_, rfl⟩
                rw [hn] at e2 e3 ⊢
                have hnM : n < M := by
                  have h1 := (List.getElem?_eq_some_iff.1 e3).1
                  have h2 := HM.out.2.2.2
                  omega
                have E2 := Lib.hid (And.intro e2 hn)
                have hr : rs[n]? = some (rs[n]'(by rw [HM.out.2.2.1]; exact hnM)) := List.getElem?_eq_getElem _
                have hmm := HM.out.2.1.2 n _ x hr e3
                obtain ⟨g, cap, e4, a0, a1, a2⟩ := OwnR.at HM.out.1 n _ hr
                obtain rfl : ra = some ⟨g, 0, none⟩ := by injection e4
                generalize (rs[n]'(by rw [HM.out.2.2.1]; exact hnM)) = r at hmm a0 a1 a2
                obtain ⟨r1, r2, r3⟩ := r
                obtain ⟨m1, m2, m3, m4, m5⟩ := hmm
                simp only at m1 m2 m3 a0 a1 a2
                subst m3
                have b1 := m1.bytes (by omega)
                have b2 := m2.bytes (by omega)
                obtain ⟨k1a, k1c, rfl, -⟩ := b1.form
                obtain ⟨v1a, v1c, rfl, -⟩ := b2.form
                have K9 := Lib.hid (K8.out.trans hKk.out)
                have HA0 := Lib.hid (And.intro a0 (And.intro a1 (And.intro a2 (And.intro b1 b2))))
                clear e2 e3 hn hr e4 m1 m2 m4 m5 a0 a1 a2 b1 b2
                go_wp2_with fail
                refine wp_region_his [] [] (fun _ => 0) (by kernel_rfl) (by kernel_rfl) ?_
                intro w10 hk10 hh
                clear hh
                have i0 := fun w' (h : Keep [] w10 w') => (hk10.trans h).cell (by simp) HIN.out.1
                have i1 := fun w' (h : Keep [] w10 w') => (hk10.trans h).cell (by simp) HIN.out.2.1
                have i2 := fun w' (h : Keep [] w10 w') => (hk10.trans h).cell (by simp) HIN.out.2.2
                simp at i0
                have x0 := fun w' (h : Keep [] w10 w') => (K9.out.trans (hk10.trans h)).cell (by simp) HA0.out.1
                have x1 := fun w' (h : Keep [] w10 w') => (K9.out.trans (hk10.trans h)).cell (by simp) HA0.out.2.1
                have x2 := fun w' (h : Keep [] w10 w') => (K9.out.trans (hk10.trans h)).cell (by simp) HA0.out.2.2.1
                have s1 : ∀ w', Keep [] w10 w' → Sem.run Try.prog (convert 30 9 (.slice k1a x.k.length k1c)) w' = .ok (.string ⟨x.k.toArray⟩) w' := fun w' h => run_str (P := Try.prog) 30 9 5 Try.underlying30 Try.underlying5 Try.underlying9 (HA0.out.2.2.2.1.keep (K9.out.trans (hk10.trans h)) (by simp))
                have s2 : ∀ w', Keep [] w10 w' → Sem.run Try.prog (convert 30 9 (.slice v1a x.v.length v1c)) w' = .ok (.string ⟨x.v.toArray⟩) w' := fun w' h => run_str (P := Try.prog) 30 9 5 Try.underlying30 Try.underlying5 Try.underlying9 (HA0.out.2.2.2.2.keep (K9.out.trans (hk10.trans h)) (by simp))
                have y1 : decide ((M : Int) ≤ (n : Int)) = false := decide_eq_false (by omega)
                have y2 : decide (M ≤ n) = false := decide_eq_false (by omega)
                have y3 : (n : Int) < (M : Int) := by omega
                have K10 := Lib.hid (hKk.out.trans hk10)
                clear hk10
                (repeat (first | (refine his_q rfl rfl (fun K hK => ?_); apply Exists.intro; refine ⟨fun w' hC => ?_, ?_⟩; ((try simp [Sg.upd] at hC); go_simp <;> rfl); go_simp; refine hK _ _ ?_; clear hK K) | (refine his_s rfl (fun K hK => ?_); go_simp; refine hK _ _ ?_; clear hK K)))
                refine his_nil ?_
                clear i0 i1 i2 x0 x1 x2 s1 s2
                go_wp2
                go_roundw
                case rel => exact ⟨k + 1, by omega, by go_num, by rw [E2.out.1]; go_num, K10⟩
                case measure => simp [intOf]; omega
end Go.Proofs.Ytijljdcpajjhhaa
