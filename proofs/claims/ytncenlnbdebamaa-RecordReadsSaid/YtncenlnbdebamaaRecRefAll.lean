import Derived.Test.YtncenlnbdebamaaRecAll
/-! The walk of sgraffitoref09.All. -/
namespace Go.Proofs.Ytncenlnbdebamaa
open Go.RowKit Go.Shelf Sg
set_option linter.unusedSimpArgs false

/-- with which record bytes begin -/
theorem recRefUnpack_any (x : Value) (l : List UInt8) (w : World) (hx : Bytes w x l) (hl : l.length ≤ 1000000) :
    Calls Try.prog 28 #[x] w fun e w' => Keep [] w w' ∧
      ((RecOk l ∧ e = .returned (.tuple #[.agg #[.string ⟨(qkey l).toArray⟩, .string ⟨(qval l).toArray⟩, .int .i64 (qe l : Int)], .int .i64 ((13 + qk l + qv l : Nat) : Int), .int .i64 0])) ∨
       (¬ RecOk l ∧ e = .returned (.tuple #[.agg #[.string ByteArray.empty, .string ByteArray.empty, .int .i64 0], .int .i64 0, .int .i64 5]))) := by
  by_cases h13 : 13 ≤ l.length
  · refine (recRefUnpack_in x l w hx h13 hl).mono ?_
    rintro e w' ⟨hk, ⟨h, rfl⟩ | ⟨h, rfl⟩⟩
    · exact ⟨hk, .inl ⟨h, by push_cast; rfl⟩⟩
    · exact ⟨hk, .inr ⟨h, rfl⟩⟩
  · refine (recRefUnpack_short x l w hx (by omega)).mono ?_
    rintro e w' ⟨rfl, hk⟩
    exact ⟨hk, .inr ⟨fun h => by have := h.1; omega, rfl⟩⟩

def scells (l : List Rc) : List Value := l.flatMap fun x => [.string ⟨x.k.toArray⟩, .string ⟨x.v.toArray⟩, .int .i64 (x.en : Int)]
/-- the document's records, one behind the other -/
def OwnS (w : World) (base : Nat) (v : Value) (l : List Rc) : Prop := w.ownsRow base 35 3 v l.length (scells l)
theorem OwnS.keep {w w' : World} {S : List Nat} {base : Nat} {v : Value} {l : List Rc} (h : OwnS w base v l) (k : Keep S w w') (hs : ∀ b, v.ownBlock = some b → b ∉ S) : OwnS w' base v l := by
  refine ⟨h.1, ?_⟩
  rcases h.2 with hn | ⟨g, cap, cur, rfl, hb, hg, rest⟩
  · exact .inl hn
  · exact .inr ⟨g, cap, cur, rfl, hb, k.blk (hs g rfl) hg, rest⟩
theorem OwnS.form {w : World} {base : Nat} {v : Value} {l : List Rc} (h : OwnS w base v l) : ∃ a c, v = .slice a l.length c := by
  rcases h.2 with ⟨rfl, h0⟩ | ⟨g', c, cur, rfl, -⟩
  · exact ⟨_, _, by rw [h0]⟩
  · exact ⟨_, _, rfl⟩
theorem run_append_srec {w : World} (base : Nat) {ty : TypeId} {v : Value} {l : List Rc} (hown : OwnS w base v l) (g : Nat) (x : Rc) {fr : Nat × Nat}
    (hg : w.heap[g]? = some (.cells #[.string ⟨x.k.toArray⟩, .string ⟨x.v.toArray⟩, .int .i64 (x.en : Int)] 35 fr)) (hn : l.length ≤ 1000000) (hbase : base ≤ w.heap.size) :
    ∃ v' w', (Builtin.append_ #[67, 67] ty #[v, .slice (some ⟨g, 0, none⟩) 1 1]).run Try.prog w = .ok v' w' ∧ OwnS w' base v' (l ++ [x]) ∧ Keep v.ownBlock.toList w w' := by
  obtain ⟨i, hi1, hz, hs1, hb1⟩ := info_parts (show (Try.prog.info? 35).map (fun i => (i.zero, i.size, i.bytes)) = some (some (.agg #[.string ByteArray.empty, .string ByteArray.empty, .int .i64 0]), 3, 40) by kernel_rfl)
  obtain ⟨v', w', hrun, hown', hgr, -⟩ := run_append_own (P := Try.prog) w base 67 ty 35 i _ 3 40 Try.underlying67 hi1 hz hs1 hb1 rfl (by decide) v l.length (scells l) hown ⟨g, 0, none⟩ 1 1 [.string ⟨x.k.toArray⟩, .string ⟨x.v.toArray⟩, .int .i64 (x.en : Int)] (by rfl)
    (fun j u hu => by
      rw [Addr.add_lit, Nat.zero_add, cell_of_row _ _ _ _ _ _ hg]
      match j, hu with
      | 0, hu => exact hu
      | 1, hu => exact hu
      | 2, hu => exact hu
      | j + 3, hu => simp at hu)
    (by
      intro u hu
      simp at hu
      rcases hu with rfl | rfl | rfl <;> rfl) (by simp [maxLen]; omega) (by omega) hbase
  refine ⟨v', w', hrun, ?_, Keep.grown hgr⟩
  show World.ownsRow _ _ _ _ _ _ _
  rw [List.length_append, scells, List.flatMap_append]
  simpa [scells] using hown'
theorem OwnS.own {w : World} {base : Nat} {v : Value} {l : List Rc} (h : OwnS w base v l) {b : Nat} (hb : v.ownBlock = some b) : base ≤ b := by
  rcases h.2 with ⟨rfl, -⟩ | ⟨g, cap, cur, rfl, h1, h2, -⟩
  · simp [Value.ownBlock] at hb
  · simp [Value.ownBlock] at hb
    subst hb
    exact h1

set_option maxRecDepth 100000 in
set_option maxHeartbeats 1000000 in
theorem refAll09_any (x : Value) (l : List UInt8) (w : World) (hx : Bytes w x l) (hl : l.length ≤ 1000000) :
    Calls Try.prog 31 #[x] w fun e w' => ∃ v, e = .returned v ∧ OwnS w' w.heap.size v (recsOf l) ∧ Keep [] w w' := by
  obtain ⟨ao, cap, rfl, hlc, hm, hcap⟩ := hx.form
  go_enter Try.func31, Try.ntmps31
  go_wp2
  go_loopw [3, 4] (fun out i wr => ∃ (m : Nat) (pre : List Rc), m ≤ l.length ∧ i = .int .i64 m ∧ Hid (pre ++ recsOf (l.drop m) = recsOf l) ∧ Hid (OwnS wr w.heap.size out pre) ∧ Keep [] w wr) (fun _ i _ => l.length - (intOf i).toNat)
  case atStart => exact ⟨0, [], by omega, rfl, by simp [Hid], ⟨by simp [scells], .inl ⟨rfl, rfl⟩⟩, Keep.refl _ _⟩
  case round =>
    obtain ⟨m, pre, hml, rfl, HP, HO, hk⟩ := hrel
    obtain ⟨va, vc, rfl⟩ := HO.out.form
    by_cases hlt : m < l.length
    · have hb := hx.keep hk (by simp)
      obtain ⟨b, o, rfl, hbl, hc⟩ := hb.spot (by omega)
      have hcut := hb.sub (f := m) (t := l.length) (by omega) (by omega) (by omega)
      rw [List.take_of_length_le (by rw [List.length_drop]; omega)] at hcut
      have hcm := hc m hlt
      have hd0 : 0 < (l.drop m).length := by rw [List.length_drop]; omega
      have hd1 : (l.drop m)[0] = l[m] := by simp
      clear hc hb
      by_cases h0 : l[m] = 0
      · have hr := recsOf_zero (l.drop m) hd0 (by rw [hd1]; exact h0)
        rw [List.drop_drop] at hr
        rw [h0] at hcm
        have HP2 : Hid (pre ++ recsOf (l.drop (m + 1)) = recsOf l) := by rw [← hr]; exact HP
        clear hr
        go_wp2
        go_roundw
        case rel => exact ⟨m + 1, pre, by omega, by go_num, HP2, HO, hk⟩
        case measure => simp [intOf]; omega
      · have hU := recRefUnpack_any _ (l.drop m) wr hcut (by rw [List.length_drop]; omega)
        have hne : ¬ ((l[m].toNat : Int) = 0) := fun h => h0 (UInt8.toNat_inj.1 (by simpa using h))
        go_wp2_with fail
        refine hU.mono ?_
        rintro e w2 ⟨k2, hor⟩
        have hk2 := hk.trans k2
        have HO2 := Lib.hid (HO.out.keep k2 (by simp))
        clear hU hcut
        by_cases hr : RecOk (l.drop m)
        · obtain rfl : e = _ := by
            rcases hor with ⟨-, h⟩ | ⟨h, -⟩
            · exact h
            · exact absurd hr h
          have hrec := recsOf_rec (l.drop m) hd0 (by rw [hd1]; exact h0) hr
          have hrl := hr.1
          rw [List.length_drop] at hrl
          rw [List.drop_drop] at hrec
          have hn13 : 13 ≤ 13 + qk (l.drop m) + qv (l.drop m) := by omega
          generalize 13 + qk (l.drop m) + qv (l.drop m) = N at hrl hrec hn13 ⊢
          obtain ⟨xr, hxr⟩ : ∃ xr : Rc, xr = ⟨qkey (l.drop m), qval (l.drop m), qe (l.drop m)⟩ := ⟨_, rfl⟩
          have ek : qkey (l.drop m) = xr.k := by rw [hxr]
          have ev : qval (l.drop m) = xr.v := by rw [hxr]
          have ee : qe (l.drop m) = xr.en := by rw [hxr]
          rw [← hxr] at hrec
          have HP2 : Hid ((pre ++ [xr]) ++ recsOf (l.drop (m + N)) = recsOf l) := by
            have := HP.out
            rw [hrec] at this
            show _ = _
            rw [← this]
            simp
          rw [ek, ev, ee]
          have hA := (Keep.refl [] w2).alloc (.cells #[.string ⟨xr.k.toArray⟩, .string ⟨xr.v.toArray⟩, .int .i64 (xr.en : Int)] 35)
          have hpl : pre.length ≤ 1000000 := by
            have h1 := recsOf_len _ l (Nat.le_refl _)
            have h2 := congrArg List.length HP.out
            rw [List.length_append] at h2
            omega
          obtain ⟨v', w', hrun, hO', hk'⟩ := run_append_srec (w := (w2.alloc (.cells #[.string ⟨xr.k.toArray⟩, .string ⟨xr.v.toArray⟩, .int .i64 (xr.en : Int)] 35)).alloc (.cells #[.string ⟨xr.k.toArray⟩, .string ⟨xr.v.toArray⟩, .int .i64 (xr.en : Int)] 35)) w.heap.size (ty := 67) ((HO2.out.keep hA (by simp)).keep ((Keep.refl [] _).alloc _) (by simp)) (w2.heap.size + 1) xr (by have := heap_alloc_new (w2.alloc (.cells #[.string ⟨xr.k.toArray⟩, .string ⟨xr.v.toArray⟩, .int .i64 (xr.en : Int)] 35)) (.cells #[.string ⟨xr.k.toArray⟩, .string ⟨xr.v.toArray⟩, .int .i64 (xr.en : Int)] 35); rwa [World.size_alloc] at this) hpl (by have := hk2.size; simp; omega)
          obtain ⟨va', vc', rfl⟩ := hO'.form
          have HK : Hid (Keep [] w w') := ((hk2.alloc _).alloc _).trans' hk' (by
            intro b hb
            rw [Option.mem_toList] at hb
            exact .inr (HO.out.own hb))
          have HO3 := Lib.hid hO'
          clear hk' hO' hA hk hk2 k2 hor hxr ek ev ee hrec HO2
          go_wp2_with (at_builtin; refine wpList_append_run rfl (.tmp 30) (.tmp 32) 67 rfl (v := .slice va pre.length vc) (src := .slice (some ⟨w2.heap.size + 1, 0, none⟩) 1 1) (v' := .slice va' (pre ++ [xr]).length vc') (w' := w') rfl rfl hrun ?_)
          go_roundw
          case rel => exact ⟨m + N, pre ++ [xr], by omega, by go_num, HP2, by rw [show pre.length + 1 = (pre ++ [xr]).length by simp]; exact HO3, HK.out⟩
          case measure => simp [intOf]; omega
        · obtain rfl : e = _ := by
            rcases hor with ⟨h, -⟩ | ⟨-, h⟩
            · exact absurd h hr
            · exact h
          have hrec := recsOf_bad (l.drop m) hd0 (by rw [hd1]; exact h0) hr
          have HP2 : Hid (pre = recsOf l) := by
            have := HP.out
            rwa [hrec, List.append_nil] at this
          clear hor hrec
          go_wp2
          go_ret
          exact ⟨_, rfl, by rw [← HP2.out]; exact HO2.out.keep ((Keep.refl [] _).alloc _) (by simp), hk2.alloc _⟩
    · have HP2 : Hid (pre = recsOf l) := by
        have := HP.out
        rwa [List.drop_of_length_le (by omega), recsOf_nil, List.append_nil] at this
      go_wp2
      go_ret
      exact ⟨_, rfl, by rw [← HP2.out]; exact HO.out, hk⟩
end Go.Proofs.Ytncenlnbdebamaa
