import Derived.Test.YtncenlnbdebamaaRecLaw2
import Derived.Test.YtncenlnbdebamaaRefOf
import Derived.Test.YtncenlnbdebamaaHist
import Derived.Test.YtncenlnbdebamaaRecRefPack
/-! The walk of the document's Unpack of a record. -/
namespace Go.Proofs.Ytncenlnbdebamaa
open Go.RowKit Sg
set_option linter.unusedSimpArgs false

def recS0 : Value := .agg #[.string ByteArray.empty, .string ByteArray.empty, .int .i64 0]
theorem get_one (l : List UInt8) (h : 1 < l.length) : (l[1]'h).toNat = leOf ((l.drop 1).take 1) := by
  match l, h with
  | _ :: y :: t, _ => simp [leOf]
theorem take_lt2 (l : List UInt8) (k : Nat) : leOf (l.take k) < 256 ^ k := by
  have h := leOf_lt (l.take k)
  have h2 : (l.take k).length ≤ k := List.length_take_le _ _
  have : (256 : Nat) ^ (l.take k).length ≤ 256 ^ k := Nat.pow_le_pow_right (by omega) h2
  omega
theorem wrap64_eq' (n : Int) : IntKind.i64.wrap n = RowKit.wrap64 n := by
  simp only [IntKind.wrap, IntKind.bits, IntKind.signed, RowKit.wrap64]
  simp
  split <;> omega
theorem wrap_nat {n : Nat} (h : n ≤ 9223372036854775807) : RowKit.wrap64 (n : Int) = (n : Int) ∧ IntKind.i64.wrap (n : Int) = (n : Int) := by
  have q : RowKit.wrap64 (n : Int) = (n : Int) := by unfold RowKit.wrap64; omega
  exact ⟨q, by rw [wrap64_eq']; exact q⟩
theorem wrap_sum {n : Int} (h0 : 0 ≤ n) (h : n ≤ 9223372036854775807) : RowKit.wrap64 n = n ∧ IntKind.i64.wrap n = n := by
  have q : RowKit.wrap64 n = n := by unfold RowKit.wrap64; omega
  exact ⟨q, by rw [wrap64_eq']; exact q⟩

set_option maxRecDepth 100000 in
set_option maxHeartbeats 1000000 in
theorem recRefUnpack_short (x : Value) (l : List UInt8) (w : World) (hx : Bytes w x l) (hl : l.length < 13) : Calls Try.prog 28 #[x] w fun e w' => e = .returned (.tuple #[recS0, .int .i64 0, .int .i64 5]) ∧ Keep [] w w' := by
  obtain ⟨ao, cap, rfl, hlc, hm, hcap⟩ := hx.form
  have hq : (l.length : Int) < 13 := by omega
  have hA := heap_alloc_new w (.cells #[.string ByteArray.empty, .string ByteArray.empty, .int .i64 0] 35)
  go_enter Try.func28, Try.ntmps28
  go_wp2
  exact bodyPost_ret (results3_row rfl _ _ w.heap.size 35 _ _ _ rfl hA Try.underlying35 rfl (by kernel_rfl)) rfl ⟨rfl, (Keep.refl [] w).alloc _⟩

set_option maxRecDepth 100000 in
set_option maxHeartbeats 1000000 in
set_option maxHeartbeats 8000000 in
theorem recRefUnpack_in (x : Value) (l : List UInt8) (w : World) (hx : Bytes w x l) (hl : 13 ≤ l.length) (hl2 : l.length ≤ 1000000) : Calls Try.prog 28 #[x] w fun e w' => Keep [] w w' ∧
    ((RecOk l ∧ e = .returned (.tuple #[.agg #[.string ⟨(qkey l).toArray⟩, .string ⟨(qval l).toArray⟩, .int .i64 (qe l : Int)], .int .i64 (13 + (qk l : Int) + (qv l : Int)), .int .i64 0])) ∨ (¬ RecOk l ∧ e = .returned (.tuple #[recS0, .int .i64 0, .int .i64 5]))) := by
  obtain ⟨ao, cap, rfl, hlc, hm, hcap⟩ := hx.form
  obtain ⟨b, o, rfl, hb, hc⟩ := hx.spot (by omega)
  have hOK : RecOk l ↔ (13 + qk l + qv l ≤ l.length ∧ qe l ≤ 281474976710656 ∧ rcode (qk l) (qv l) (qe l) = 0 ∧ rpack (qkey l) (qval l) (qe l) = l.take (13 + qk l + qv l)) := Iff.rfl
  have c1 := hc 1 (by omega)
  have e1 : l[1].toNat = qk l := get_one l (by omega)
  rw [e1] at c1
  have hkx : ∀ w', Keep [w.heap.size + 1] w w' → Bytes w' (.slice (some ⟨b, o, none⟩) l.length cap) l := fun w' h => hx.keep h (by intro b' h1 h2; simp [Value.ownBlock] at h1 h2; omega)
  have c1' : ∀ w', Keep [w.heap.size + 1] w w' → w'.cell? ⟨b, o + 1, none⟩ = some (.int .u8 (qk l : Int)) := fun w' h => h.cell (by simp; omega) c1
  have hv : ∀ w', Keep [w.heap.size + 1] w w' → Calls Try.prog 43 #[.slice (some ⟨b, o + 2, none⟩) 2 (cap - 2)] w' (fun e w'' => e = .returned (.int .u64 (qv l : Int)) ∧ w' = w'') := fun w' h => refOf_any _ _ w' ((hkx w' h).sub (f := 2) (t := 4) (by omega) (by omega) (by omega)) (by rw [List.length_take]; omega)
  have he : ∀ w', Keep [w.heap.size + 1] w w' → Calls Try.prog 43 #[.slice (some ⟨b, o + 4, none⟩) 8 (cap - 4)] w' (fun e w'' => e = .returned (.int .u64 (qe l : Int)) ∧ w' = w'') := fun w' h => refOf_any _ _ w' ((hkx w' h).sub (f := 4) (t := 12) (by omega) (by omega) (by omega)) (by rw [List.length_take]; omega)
  have a1 : qk l < 256 := take_lt2 (l.drop 1) 1
  have a2 : qv l < 65536 := take_lt2 (l.drop 2) 2
  have a3 : qe l < 18446744073709551616 := take_lt2 (l.drop 4) 8
  have hkl : 13 + qk l + qv l ≤ l.length → (qkey l).length = qk l := fun h => by rw [qkey, List.length_take, List.length_drop]; omega
  have hvl : 13 + qk l + qv l ≤ l.length → (qval l).length = qv l := fun h => by rw [qval, List.length_take, List.length_drop]; omega
  have hqk : ∀ w', Keep [w.heap.size + 1] w w' → 13 + qk l + qv l ≤ l.length → Sem.run Try.prog (convert 36 9 (.slice (some ⟨b, o + 12, none⟩) (qk l) (cap - 12))) w' = .ok (.string ⟨(qkey l).toArray⟩) w' := by
    intro w' h hn
    have hsub := (hkx w' h).sub (f := 12) (t := 12 + qk l) (by omega) (by omega) (by omega)
    rw [show 12 + qk l - 12 = qk l by omega] at hsub
    exact run_str (P := Try.prog) 36 9 5 Try.underlying36 Try.underlying5 Try.underlying9 hsub
  have hqv : ∀ w', Keep [w.heap.size + 1] w w' → 13 + qk l + qv l ≤ l.length → Sem.run Try.prog (convert 36 9 (.slice (some ⟨b, o + (12 + qk l), none⟩) (qv l) (cap - (12 + qk l)))) w' = .ok (.string ⟨(qval l).toArray⟩) w' := by
    intro w' h hn
    have hsub := (hkx w' h).sub (f := 12 + qk l) (t := 12 + qk l + qv l) (by omega) (by omega) (by omega)
    rw [show 12 + qk l + qv l - (12 + qk l) = qv l by omega] at hsub
    exact run_str (P := Try.prog) 36 9 5 Try.underlying36 Try.underlying5 Try.underlying9 hsub
  have hqt : ∀ w', Keep [w.heap.size + 1] w w' → 13 + qk l + qv l ≤ l.length → Sem.run Try.prog (convert 36 9 (.slice (some ⟨b, o, none⟩) (13 + qk l + qv l) cap)) w' = .ok (.string ⟨(l.take (13 + qk l + qv l)).toArray⟩) w' := by
    intro w' h hn
    have hsub := (hkx w' h).take (k := 13 + qk l + qv l) hn
    exact run_str (P := Try.prog) 36 9 5 Try.underlying36 Try.underlying5 Try.underlying9 hsub
  obtain ⟨F, hF⟩ : ∃ F : Prop, F = RecOk l := ⟨_, rfl⟩
  rw [← hF] at hOK ⊢
  clear hkx hc hF e1
  generalize qkey l = KD at *
  generalize qval l = VD at *
  generalize qk l = kn at *
  generalize qv l = vn at *
  generalize qe l = en at *
  have hK0 := (Keep.refl [] w).alloc (.cells #[.string ByteArray.empty, .string ByteArray.empty, .int .i64 0] 35)
  have hA := heap_alloc_new w (.cells #[.string ByteArray.empty, .string ByteArray.empty, .int .i64 0] 35)
  have HOK := Lib.hid hOK
  have HV := Lib.hid hv
  have HE := Lib.hid he
  have HC1 := Lib.hid c1'
  have HQK := Lib.hid hqk
  have HQV := Lib.hid hqv
  have HQT := Lib.hid hqt
  have HKL := Lib.hid hkl
  have HVL := Lib.hid hvl
  have z13 : ¬ (l.length : Int) < 13 := by omega
  have z2 : ¬ cap = 2 := by omega
  have z4 : ¬ cap = 4 := by omega
  have z12 : ¬ cap = 12 := by omega
  have y4 : (4 : Int) ≤ (cap : Int) := by omega
  have y12 : (12 : Int) ≤ (cap : Int) := by omega
  have x1 : (1 : Int) < (l.length : Int) := by omega
  have s1 : (0 : Int) ≤ 13 + (kn : Int) := by omega
  have s2 : (0 : Int) ≤ 13 + (kn : Int) + (vn : Int) := by omega
  have s3 : (13 : Int) + (kn : Int) + (vn : Int) ≤ 9223372036854775807 := by omega
  have W1 := Lib.hid (wrap_nat (n := kn) (by omega))
  have W2 := Lib.hid (wrap_nat (n := vn) (by omega))
  have W3 := Lib.hid (wrap_sum (n := 13 + (kn : Int)) (by omega) (by omega))
  have W4 := Lib.hid (wrap_sum (n := 13 + (kn : Int) + (vn : Int)) (by omega) (by omega))
  have W5 := Lib.hid (wrap_sum (n := 12 + (kn : Int)) (by omega) (by omega))
  have W6 := Lib.hid (wrap_sum (n := 12 + (kn : Int) + (vn : Int)) (by omega) (by omega))
  clear hOK hv he c1' c1 hqk hqv hqt hkl hvl
  have G : ∀ {w1 w' : World}, Keep [] w w1 → Keep [w.heap.size + 1] w1 w' → Keep [w.heap.size + 1] w w' := fun h k => (h.mono (by simp)).trans k
  by_cases hbig : l.length < 13 + kn + vn
  · have t1 : (l.length : Int) < 13 + (kn : Int) + (vn : Int) := by omega
    go_enter Try.func28, Try.ntmps28
    go_wp2_with fail
    refine wp_region_his [w.heap.size + 1] [] (fun _ => 0) (by kernel_rfl) (by kernel_rfl) ?_
    intro w1 hk1 hh1
    have HS1 := Lib.hid (show w1.heap.size = w.heap.size + 1 by rw [hh1]; simp)
    clear hh1
    have hA1 := hk1.blk (by simp) hA
    have hK1 := hK0.trans hk1
    have c1 := fun w' (h : Keep [w.heap.size + 1] w1 w') => HC1.out w' (G hK1 h)
    clear hk1 hA hK0
    obtain ⟨u1, u2⟩ := W1.out
    obtain ⟨u3, u4⟩ := W2.out
    (repeat (first | (refine his_q rfl rfl (fun K hK => ?_); apply Exists.intro; refine ⟨fun w' hC => ?_, ?_⟩; ((try simp [Sg.upd] at hC); go_simp <;> rfl); go_simp; refine hK _ _ ?_; clear hK K) | (refine his_s rfl (fun K hK => ?_); go_simp; refine hK _ _ ?_; clear hK K)))
    refine his_c rfl rfl (.int .u64 (vn : Int)) (fun K hK => ?_)
    refine ⟨fun w' hC => Yields.call _ _ ?_ (by kernel_rfl) (HV.out w' (G hK1 hC)), ?_⟩
    · go_simp
    go_simp
    refine hK _ _ ?_
    clear hK K
    (repeat (first | (refine his_q rfl rfl (fun K hK => ?_); apply Exists.intro; refine ⟨fun w' hC => ?_, ?_⟩; ((try simp [Sg.upd] at hC); go_simp <;> rfl); go_simp; refine hK _ _ ?_; clear hK K) | (refine his_s rfl (fun K hK => ?_); go_simp; refine hK _ _ ?_; clear hK K)))
    refine his_nil ?_
    clear u1 u2 u3 u4 c1
    go_wp2_with fail
    refine (HE.out _ (hK1.mono (by simp))).mono ?_
    rintro e w2 ⟨rfl, rfl⟩
    obtain ⟨v1, v2⟩ := W3.out
    obtain ⟨v3, v4⟩ := W4.out
    go_wp2_with (refine wpList_store_row rfl 35 (.tmp 2) _ rfl w.heap.size _ rfl rfl 35 _ hA1 (by kernel_rfl) (by rfl) (by kernel_rfl) ?_)
    refine bodyPost_ret (results3_row rfl _ _ w.heap.size 35 #[.string ByteArray.empty, .string ByteArray.empty, .int .i64 0] _ _ rfl (setRow_heap _ _ _ _ _ _ hA1) Try.underlying35 rfl (by kernel_rfl)) rfl ⟨hK1.setRow (.inr (Nat.le_refl _)) _, .inr ⟨fun h => ?_, rfl⟩⟩
    exact absurd (HOK.out.1 h).1 (Nat.not_le.2 hbig)
  · have t1 : ¬ (l.length : Int) < 13 + (kn : Int) + (vn : Int) := by omega
    by_cases hen : 281474976710656 < en
    · have t2 : (281474976710656 : Int) < (en : Int) := by omega
      go_enter Try.func28, Try.ntmps28
      go_wp2_with fail
      refine wp_region_his [w.heap.size + 1] [] (fun _ => 0) (by kernel_rfl) (by kernel_rfl) ?_
      intro w1 hk1 hh1
      have HS1 := Lib.hid (show w1.heap.size = w.heap.size + 1 by rw [hh1]; simp)
      clear hh1
      have hA1 := hk1.blk (by simp) hA
      have hK1 := hK0.trans hk1
      have c1 := fun w' (h : Keep [w.heap.size + 1] w1 w') => HC1.out w' (G hK1 h)
      clear hk1 hA hK0
      obtain ⟨u1, u2⟩ := W1.out
      obtain ⟨u3, u4⟩ := W2.out
      (repeat (first | (refine his_q rfl rfl (fun K hK => ?_); apply Exists.intro; refine ⟨fun w' hC => ?_, ?_⟩; ((try simp [Sg.upd] at hC); go_simp <;> rfl); go_simp; refine hK _ _ ?_; clear hK K) | (refine his_s rfl (fun K hK => ?_); go_simp; refine hK _ _ ?_; clear hK K)))
      refine his_c rfl rfl (.int .u64 (vn : Int)) (fun K hK => ?_)
      refine ⟨fun w' hC => Yields.call _ _ ?_ (by kernel_rfl) (HV.out w' (G hK1 hC)), ?_⟩
      · go_simp
      go_simp
      refine hK _ _ ?_
      clear hK K
      (repeat (first | (refine his_q rfl rfl (fun K hK => ?_); apply Exists.intro; refine ⟨fun w' hC => ?_, ?_⟩; ((try simp [Sg.upd] at hC); go_simp <;> rfl); go_simp; refine hK _ _ ?_; clear hK K) | (refine his_s rfl (fun K hK => ?_); go_simp; refine hK _ _ ?_; clear hK K)))
      refine his_nil ?_
      clear u1 u2 u3 u4 c1
      go_wp2_with fail
      refine (HE.out _ (hK1.mono (by simp))).mono ?_
      rintro e w2 ⟨rfl, rfl⟩
      obtain ⟨v1, v2⟩ := W3.out
      obtain ⟨v3, v4⟩ := W4.out
      go_wp2_with (refine wpList_store_row rfl 35 (.tmp 2) _ rfl w.heap.size _ rfl rfl 35 _ hA1 (by kernel_rfl) (by rfl) (by kernel_rfl) ?_)
      refine bodyPost_ret (results3_row rfl _ _ w.heap.size 35 #[.string ByteArray.empty, .string ByteArray.empty, .int .i64 0] _ _ rfl (setRow_heap _ _ _ _ _ _ hA1) Try.underlying35 rfl (by kernel_rfl)) rfl ⟨hK1.setRow (.inr (Nat.le_refl _)) _, .inr ⟨fun h => ?_, rfl⟩⟩
      exact absurd (HOK.out.1 h).2.1 (Nat.not_le.2 hen)
    · have t2 : ¬ (281474976710656 : Int) < (en : Int) := by omega
      have hfit : 13 + kn + vn ≤ l.length := by omega
      have hen' : en ≤ 281474976710656 := by omega
      have W7 := Lib.hid (wrap_nat (n := en) (by omega))
      have hkl := HKL.out hfit
      have hvl := HVL.out hfit
      have hks : (⟨KD.toArray⟩ : ByteArray).size = KD.length := by simp [ByteArray.size]
      have hvs : (⟨VD.toArray⟩ : ByteArray).size = VD.length := by simp [ByteArray.size]
      have hB := fun W => ref09Pack_any ⟨KD.toArray⟩ ⟨VD.toArray⟩ (en : Int) (by rw [hks, hkl]; omega) (by rw [hvs, hvl]; omega) W
      rw [hks, hvs, hkl, hvl] at hB
      simp only [Int.toNat_natCast] at hB
      obtain ⟨rc, hrc⟩ : ∃ rc, rcode kn vn (en : Int) = rc := ⟨_, rfl⟩
      rw [hrc] at hB
      have hPL : (rpack KD VD en).length = 13 + kn + vn := by rw [rpack_len, hkl, hvl]
      have HB := Lib.hid hB
      have HRC := Lib.hid hrc
      have HPL := Lib.hid hPL
      have hqk := fun w' h => HQK.out w' h hfit
      have hqv := fun w' h => HQV.out w' h hfit
      have hqt := fun w' h => HQT.out w' h hfit
      have r1 : (12 : Int) ≤ 12 + (kn : Int) := by omega
      have r2 : (12 : Int) + (kn : Int) ≤ (cap : Int) := by omega
      have r3 : (0 : Int) ≤ 12 + (kn : Int) := by omega
      have r4 : ((12 : Int) + (kn : Int)).toNat = 12 + kn := by omega
      have r5 : 12 + kn - 12 = kn := by omega
      have r6 : (12 : Int) + (kn : Int) ≤ 12 + (kn : Int) + (vn : Int) := by omega
      have r7 : (12 : Int) + (kn : Int) + (vn : Int) ≤ (cap : Int) := by omega
      have r8 : (0 : Int) ≤ 12 + (kn : Int) + (vn : Int) := by omega
      have r9 : ((12 : Int) + (kn : Int) + (vn : Int)).toNat = 12 + kn + vn := by omega
      have r10 : 12 + kn + vn - (12 + kn) = vn := by omega
      have r11 : ¬ cap = 12 + kn := by omega
      have r12 : (13 : Int) + (kn : Int) + (vn : Int) ≤ (cap : Int) := by omega
      have r13 : ((13 : Int) + (kn : Int) + (vn : Int)).toNat = 13 + kn + vn := by omega
      have HR := Lib.hid (And.intro r1 (And.intro r2 (And.intro r3 (And.intro r4 (And.intro r5 (And.intro r6 (And.intro r7 (And.intro r8 (And.intro r9 (And.intro r10 (And.intro r11 (And.intro r12 r13))))))))))))
      have HQK' := Lib.hid hqk
      have HQV' := Lib.hid hqv
      have HQT' := Lib.hid hqt
      clear hqk hqv hqt hkl hvl hks hvs hB hrc hPL hfit r1 r2 r3 r4 r5 r6 r7 r8 r9 r10 r11 r12 r13 HQK HQV HQT
      go_enter Try.func28, Try.ntmps28
      go_wp2_with fail
      refine wp_region_his [w.heap.size + 1] [] (fun _ => 0) (by kernel_rfl) (by kernel_rfl) ?_
      intro w1 hk1 hh1
      have HS1 := Lib.hid (show w1.heap.size = w.heap.size + 1 by rw [hh1]; simp)
      clear hh1
      have hA1 := hk1.blk (by simp) hA
      have hK1 := hK0.trans hk1
      have c1 := fun w' (h : Keep [w.heap.size + 1] w1 w') => HC1.out w' (G hK1 h)
      clear hk1 hA hK0
      obtain ⟨u1, u2⟩ := W1.out
      obtain ⟨u3, u4⟩ := W2.out
      (repeat (first | (refine his_q rfl rfl (fun K hK => ?_); apply Exists.intro; refine ⟨fun w' hC => ?_, ?_⟩; ((try simp [Sg.upd] at hC); go_simp <;> rfl); go_simp; refine hK _ _ ?_; clear hK K) | (refine his_s rfl (fun K hK => ?_); go_simp; refine hK _ _ ?_; clear hK K)))
      refine his_c rfl rfl (.int .u64 (vn : Int)) (fun K hK => ?_)
      refine ⟨fun w' hC => Yields.call _ _ ?_ (by kernel_rfl) (HV.out w' (G hK1 hC)), ?_⟩
      · go_simp
      go_simp
      refine hK _ _ ?_
      clear hK K
      (repeat (first | (refine his_q rfl rfl (fun K hK => ?_); apply Exists.intro; refine ⟨fun w' hC => ?_, ?_⟩; ((try simp [Sg.upd] at hC); go_simp <;> rfl); go_simp; refine hK _ _ ?_; clear hK K) | (refine his_s rfl (fun K hK => ?_); go_simp; refine hK _ _ ?_; clear hK K)))
      refine his_nil ?_
      clear u1 u2 u3 u4 c1
      go_wp2_with fail
      refine (HE.out _ (hK1.mono (by simp))).mono ?_
      rintro e w2 ⟨rfl, rfl⟩
      obtain ⟨v1, v2⟩ := W3.out
      obtain ⟨v3, v4⟩ := W4.out
      go_wp2_with fail
      clear v1 v2 v3 v4
      refine wp_region_his [w.heap.size + 1] [17, 18] (fun _ => 0) (by kernel_rfl) (by kernel_rfl) ?_
      intro w3 hk3 hh3
      have hs3 : w3.heap.size = w.heap.size + 1 := by rw [hh3]; exact HS1.out
      clear hh3
      have hA3 := hk3.blk (by simp) hA1
      have hK3 := hK1.trans hk3
      have q1 := fun w' (h : Keep [w.heap.size + 1] w3 w') => HQK'.out w' (G hK3 h)
      have q2 := fun w' (h : Keep [w.heap.size + 1] w3 w') => HQV'.out w' (G hK3 h)
      obtain ⟨r1, r2, r3, r4, r5, r6, r7, r8, r9, r10, r11, -, -⟩ := HR.out
      obtain ⟨p1, p2⟩ := W5.out
      obtain ⟨p3, p4⟩ := W6.out
      obtain ⟨p5, p6⟩ := W7.out
      (repeat (first | (refine his_q rfl rfl (fun K hK => ?_); apply Exists.intro; refine ⟨fun w' hC => ?_, ?_⟩; ((try simp [Sg.upd] at hC); go_simp <;> rfl); go_simp; refine hK _ _ ?_; clear hK K) | (refine his_s rfl (fun K hK => ?_); go_simp; refine hK _ _ ?_; clear hK K)))
      refine his_l rfl rfl (fun K hK => ?_)
      go_simp
      refine hK _ _ ((Keep.refl _ _).alloc _) ?_
      clear hK K
      have hP := heap_alloc_new w3 (.cells #[.string ⟨#[]⟩, .string ⟨#[]⟩, .int .i64 0] 35)
      rw [hs3] at hP
      have hA2 := (((Keep.refl [] w3).alloc (.cells #[.string ⟨#[]⟩, .string ⟨#[]⟩, .int .i64 0] 35))).blk (by simp) hA3
      refine his_l rfl rfl (fun K hK => ?_)
      refine loudly_store_row 35 (.tmp 8) (.tmp 54) rfl (w.heap.size + 1) #[.string ⟨KD.toArray⟩, .string ⟨VD.toArray⟩, .int .i64 (en : Int)] rfl rfl 35 _ hP (by kernel_rfl) (by rfl) (by kernel_rfl) ?_
      refine hK _ _ ((Keep.refl _ _).setRow (.inl (by simp)) _) ?_
      clear hK K
      refine his_nil ?_
      have hA4 : ((w3.alloc (.cells #[.string ⟨#[]⟩, .string ⟨#[]⟩, .int .i64 0] 35)).setRow (w.heap.size + 1) #[.string ⟨KD.toArray⟩, .string ⟨VD.toArray⟩, .int .i64 (en : Int)]).heap[w.heap.size]? = _ := (setRow_other _ _ _ _ (by simp)).trans hA2
      have hP4 := setRow_heap _ _ _ #[.string ⟨KD.toArray⟩, .string ⟨VD.toArray⟩, .int .i64 (en : Int)] _ _ hP
      have hK4 : Keep [] w ((w3.alloc (.cells #[.string ⟨#[]⟩, .string ⟨#[]⟩, .int .i64 0] 35)).setRow (w.heap.size + 1) #[.string ⟨KD.toArray⟩, .string ⟨VD.toArray⟩, .int .i64 (en : Int)]) := (hK3.alloc _).setRow (.inr (by simp)) _
      clear hP hA2 hA3 hs3 q1 q2 p1 p2 p3 p4 p5 p6 r1 r2 r3 r4 r5 r6 r7 r8 r9 r10 r11 hA1 hK1 hk3 hK3
      generalize (w3.alloc (.cells #[.string ⟨#[]⟩, .string ⟨#[]⟩, .int .i64 0] 35)).setRow (w.heap.size + 1) #[.string ⟨KD.toArray⟩, .string ⟨VD.toArray⟩, .int .i64 (en : Int)] = w4 at hA4 hP4 hK4 ⊢
      have g0 := cell_of_row w4 _ 0 _ _ _ hP4
      have g1 := cell_of_row w4 _ 1 _ _ _ hP4
      have g2 := cell_of_row w4 _ 2 _ _ _ hP4
      simp at g0 g1 g2
      go_wp2_with fail
      refine (HB.out _).mono ?_
      rintro e w5 ⟨v5, rfl, o5, k5⟩
      have hA5 := k5.blk (by simp) hA4
      have hP5 := k5.blk (by simp) hP4
      have hK5 := hK4.trans k5
      clear hA4 hP4 hK4 g0 g1 g2
      by_cases hz : rc = 0
      · subst hz
        rw [if_pos rfl] at o5
        have q4 : ∀ w', Keep [] w5 w' → Sem.run Try.prog (convert 36 9 v5) w' = .ok (.string ⟨(rpack KD VD en).toArray⟩) w' := fun w' h => run_str (P := Try.prog) 36 9 5 Try.underlying36 Try.underlying5 Try.underlying9 ((o5.bytes (by rw [HPL.out]; omega)).keep h (by simp))
        have q5 : ∀ w', Keep [] w5 w' → Sem.run Try.prog (convert 36 9 (.slice (some ⟨b, o, none⟩) (13 + kn + vn) cap)) w' = .ok (.string ⟨(l.take (13 + kn + vn)).toArray⟩) w' := fun w' h => HQT'.out w' ((hK5.trans h).mono (by simp))
        by_cases hEq : rpack KD VD en = l.take (13 + kn + vn)
        · have hF : F := HOK.out.2 ⟨by omega, by omega, HRC.out, hEq⟩
          rw [hEq] at q4
          clear o5 hx hEq k5
          go_wp2_with fail
          refine wp_region_his [] [] (fun _ => 0) (by kernel_rfl) (by kernel_rfl) ?_
          intro w6 hk6 hh6
          clear hh6
          obtain ⟨-, -, -, -, -, -, -, -, -, -, -, r12, r13⟩ := HR.out
          obtain ⟨p5, p6⟩ := W3.out
          obtain ⟨p7, p8⟩ := W4.out
          have q6 := fun w' (h : Keep [] w6 w') => q4 w' (hk6.trans h)
          have q7 := fun w' (h : Keep [] w6 w') => q5 w' (hk6.trans h)
          have hA6 := hk6.blk (by simp) hA5
          have hP6 := hk6.blk (by simp) hP5
          have hK6 := hK5.trans hk6
          clear q4 q5 hk6 hA5 hP5
          (repeat (first | (refine his_q rfl rfl (fun K hK => ?_); apply Exists.intro; refine ⟨fun w' hC => ?_, ?_⟩; ((try simp [Sg.upd] at hC); go_simp <;> rfl); go_simp; refine hK _ _ ?_; clear hK K) | (refine his_s rfl (fun K hK => ?_); go_simp; refine hK _ _ ?_; clear hK K)))
          refine his_nil ?_
          clear q6 q7 r12 r13
          have g0 := cell_of_row w6 _ 0 _ _ _ hP6
          have g1 := cell_of_row w6 _ 1 _ _ _ hP6
          have g2 := cell_of_row w6 _ 2 _ _ _ hP6
          simp at g0 g1 g2
          go_wp2_with (first | (refine wpList_load_row rfl 35 (.tmp 8) rfl (w.heap.size + 1) rfl 35 _ _ _ hP6 Try.underlying35 rfl (by kernel_rfl) ?_) | (refine wpList_store_row rfl 35 (.tmp 2) _ rfl w.heap.size _ rfl rfl 35 _ hA6 (by kernel_rfl) (by rfl) (by kernel_rfl) ?_))
          exact bodyPost_ret (results3_row rfl _ _ w.heap.size 35 _ _ _ rfl (setRow_heap _ _ _ _ _ _ hA6) Try.underlying35 rfl (by kernel_rfl)) rfl ⟨hK6.setRow (.inr (Nat.le_refl _)) _, .inl ⟨hF, rfl⟩⟩
        · have HEq := Lib.hid hEq
          obtain ⟨L4, hL4⟩ : ∃ L, rpack KD VD en = L := ⟨_, rfl⟩
          obtain ⟨L5, hL5⟩ : ∃ L, l.take (13 + kn + vn) = L := ⟨_, rfl⟩
          rw [hL4] at q4 hEq
          rw [hL5] at q5 hEq
          have hne : (L4 == L5) = false := by simpa using hEq
          have hne2 : (L4 != L5) = true := by simpa using hEq
          clear o5 hx hL4 hL5 k5
          go_wp2_with fail
          refine wp_region_his [] [] (fun _ => 0) (by kernel_rfl) (by kernel_rfl) ?_
          intro w6 hk6 hh6
          clear hh6
          obtain ⟨-, -, -, -, -, -, -, -, -, -, -, r12, r13⟩ := HR.out
          obtain ⟨p5, p6⟩ := W3.out
          obtain ⟨p7, p8⟩ := W4.out
          have q6 := fun w' (h : Keep [] w6 w') => q4 w' (hk6.trans h)
          have q7 := fun w' (h : Keep [] w6 w') => q5 w' (hk6.trans h)
          have hA6 := hk6.blk (by simp) hA5
          have hK6 := hK5.trans hk6
          clear q4 q5 hk6 hA5 hP5
          (repeat (first | (refine his_q rfl rfl (fun K hK => ?_); apply Exists.intro; refine ⟨fun w' hC => ?_, ?_⟩; ((try simp [Sg.upd] at hC); go_simp <;> rfl); go_simp; refine hK _ _ ?_; clear hK K) | (refine his_s rfl (fun K hK => ?_); go_simp; refine hK _ _ ?_; clear hK K)))
          refine his_nil ?_
          clear q6 q7 r12 r13
          go_wp2_with (refine wpList_store_row rfl 35 (.tmp 2) _ rfl w.heap.size _ rfl rfl 35 _ hA6 (by kernel_rfl) (by rfl) (by kernel_rfl) ?_)
          refine bodyPost_ret (results3_row rfl _ _ w.heap.size 35 #[.string ByteArray.empty, .string ByteArray.empty, .int .i64 0] _ _ rfl (setRow_heap _ _ _ _ _ _ hA6) Try.underlying35 rfl (by kernel_rfl)) rfl ⟨hK6.setRow (.inr (Nat.le_refl _)) _, .inr ⟨fun h => ?_, rfl⟩⟩
          exact HEq.out (HOK.out.1 h).2.2.2
      · have HZ := Lib.hid hz
        clear o5 hx k5
        go_wp2_with fail
        refine wp_region_his [] [] (fun _ => 0) (by kernel_rfl) (by kernel_rfl) ?_
        intro w6 hk6 hh6
        clear hh6
        have hA6 := hk6.blk (by simp) hA5
        have hK6 := hK5.trans hk6
        clear hk6 hA5 hP5
        (refine his_q rfl rfl (fun K hK => ?_); apply Exists.intro; refine ⟨fun w' hC => ?_, ?_⟩; ((try simp [Sg.upd] at hC); go_simp <;> rfl); go_simp; refine hK _ _ ?_; clear hK K)
        refine his_q rfl rfl (fun K hK => ?_)
        refine ⟨.bool true, fun w' hC => ?_, ?_⟩
        · clear hC
          go_simp
          try simpa using hz
        go_simp
        refine hK _ _ ?_
        clear hK K
        clear hz
        (refine his_q rfl rfl (fun K hK => ?_); apply Exists.intro; refine ⟨fun w' hC => ?_, ?_⟩; ((try simp [Sg.upd] at hC); go_simp <;> rfl); go_simp; refine hK _ _ ?_; clear hK K)
        iterate 10 (refine his_s rfl (fun K hK => ?_); go_simp; refine hK _ _ ?_; clear hK K)
        (refine his_q rfl rfl (fun K hK => ?_); apply Exists.intro; refine ⟨fun w' hC => ?_, ?_⟩; ((try simp [Sg.upd] at hC); go_simp <;> rfl); go_simp; refine hK _ _ ?_; clear hK K)
        refine his_nil ?_
        go_wp2_with (refine wpList_store_row rfl 35 (.tmp 2) _ rfl w.heap.size _ rfl rfl 35 _ hA6 (by kernel_rfl) (by rfl) (by kernel_rfl) ?_)
        refine bodyPost_ret (results3_row rfl _ _ w.heap.size 35 #[.string ByteArray.empty, .string ByteArray.empty, .int .i64 0] _ _ rfl (setRow_heap _ _ _ _ _ _ hA6) Try.underlying35 rfl (by kernel_rfl)) rfl ⟨hK6.setRow (.inr (Nat.le_refl _)) _, .inr ⟨fun h => ?_, rfl⟩⟩
        exact HZ.out (HRC.out.symm.trans (HOK.out.1 h).2.2.1)
end Go.Proofs.Ytncenlnbdebamaa
