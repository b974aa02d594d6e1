/- The document's Julian, Reference; StanFields: contracts, proved by walks. -/
import Derived.Test.YtgeiimifhbiklaaFld0
import Derived.Test.YtgeiimifhbiklaaFld1
import Derived.Deep.RegionLaw
namespace Go.Proofs.Ytgeiimifhbiklaa
open Go.RowKit

theorem date8_bad {t : Int} (h : t < 0 ∨ 3155759999 < t) (w : World) : Calls Try.prog 88 #[.int .i64 t] w fun e w' => e = .returned (.tuple #[.agg #[.int .i64 0, .int .i64 0, .int .i64 0, .int .i64 0, .int .i64 0, .int .i64 0], .int .i64 80]) ∧ Fr0 w w' := by
  obtain ⟨W1, hW1⟩ : ∃ W1, w.alloc (.cells #[.int .i64 0, .int .i64 0, .int .i64 0, .int .i64 0, .int .i64 0, .int .i64 0] 109) = W1 := ⟨_, rfl⟩
  have hb : Blk W1 w.heap.size 109 #[.int .i64 0, .int .i64 0, .int .i64 0, .int .i64 0, .int .i64 0, .int .i64 0] := by rw [← hW1]; exact Blk.new _ _ _
  have hfr : Fr0 w W1 := by rw [← hW1]; exact (Fr.refl _ _).alloc _
  have c0 := hb.cell 0
  have c1 := hb.cell 1
  have c2 := hb.cell 2
  have c3 := hb.cell 3
  have c4 := hb.cell 4
  have c5 := hb.cell 5
  have f0 := hb.frozen 0
  have f1 := hb.frozen 1
  have f2 := hb.frozen 2
  have f3 := hb.frozen 3
  have f4 := hb.frozen 4
  have f5 := hb.frozen 5
  rcases (show t < 0 ∨ (¬ t < 0 ∧ 3155759999 < t) by omega) with h2 | ⟨h2, h3⟩
  all_goals
    clear h
    go_enter Try.func88, Try.ntmps88
    go_wp2_with fail
    refine bodyPost_ret (v := .tuple #[.agg #[.int .i64 0, .int .i64 0, .int .i64 0, .int .i64 0, .int .i64 0, .int .i64 0], .int .i64 80]) (by simp [results, Try.results88, go_sem, c0, c1, c2, c3, c4, c5, f0, f1, f2, f3, f4, f5]) rfl ⟨rfl, ?_⟩
    exact (((((hfr.setCell (.inl (by simp)) _).setCell (.inl (by simp)) _).setCell (.inl (by simp)) _).setCell (.inl (by simp)) _).setCell (.inl (by simp)) _).setCell (.inl (by simp)) _
theorem julian8_bad {t : Int} (h : t < 0 ∨ 3155759999 < t) (w : World) : Calls Try.prog 65 #[.int .i64 t] w fun e w' => e = .returned (.tuple #[.string ⟨#[]⟩, .int .i64 80]) ∧ Fr0 w w' := by
  have HD := Lib.hid (date8_bad h w)
  clear h
  go_enter Try.func65, Try.ntmps65
  go_wp2_with fail
  refine HD.out.mono ?_
  rintro e W ⟨rfl, hf⟩
  go_wp2_with fail
  exact bodyPost_ret (v := .tuple #[.string ⟨#[]⟩, .int .i64 80]) (by simp [results, Try.results65, go_sem]) rfl ⟨rfl, hf.alloc _⟩
set_option maxRecDepth 100000 in
set_option maxHeartbeats 3200000 in
theorem julian8_any {t : Int} (h0 : 0 ≤ t) (h1 : t ≤ 3155759999) (w : World) : Calls Try.prog 65 #[.int .i64 t] w (JulPost w t) := by
  have HD := Lib.hid (date8_any h0 h1 w)
  go_enter Try.func65, Try.ntmps65
  go_wp2_with fail
  refine HD.out.mono ?_
  rintro e W ⟨y, m, d, mi, se, rfl, hy1, hy2, hm1, hm2, hb1, hb2, hd, hd1, hf⟩
  obtain ⟨Y, rfl⟩ : ∃ Y : Nat, y = Y := ⟨y.toNat, by omega⟩
  have hin := ahead_in (leapB Y) hm1 (by omega)
  have hdl : aheadF (leapB Y) m + d ≤ 366 + 1 := by
    rw [begB] at hb1 hb2
    have : d + aheadF (leapB Y) m = t / 86400 - begB Y + 1 := hd
    rw [begB] at this
    omega
  obtain ⟨D, hD⟩ : ∃ D : Nat, d + aheadF (leapB Y) m = D := ⟨(d + aheadF (leapB Y) m).toNat, by omega⟩
  have P := Lib.hid (show ∀ W, Fr0 w W → JulPost w t (.returned (.tuple #[.string (julB Y D), .int .i64 0])) W from fun W hf => ⟨Y, D, rfl, by omega, by omega, hb1, hb2, by omega, hf⟩)
  have HDD := Lib.hid (And.intro hD (And.intro hdl hin))
  have hDb : D ≤ 367 := by omega
  have hdb : 1 ≤ d ∧ d ≤ 367 := by omega
  have T3 := Lib.hid (fun w => three8_any (n := D) (by omega) w)
  obtain ⟨a, ha⟩ : ∃ a, a = Y % 10 := ⟨_, rfl⟩
  have e2 : (Y : Int).tmod 10 = (a : Int) := by rw [ha]; rfl
  obtain ⟨S3, hS3⟩ : ∃ S : ByteArray, S = ⟨(digs 3 D).toArray⟩ := ⟨_, rfl⟩
  obtain ⟨S1, hS1⟩ : ∃ S : ByteArray, S = ⟨#[UInt8.ofNat (48 + a)]⟩ := ⟨_, rfl⟩
  obtain ⟨J, hJ⟩ : ∃ J, J = julB Y D := ⟨_, rfl⟩
  rw [← hS3] at T3
  rw [← hJ] at P
  have hj : S1 ++ S3 = J := by
    rw [hJ, julB, hS1, hS3]
    congr 1
    rw [ha]
    simp [digs, List.range_succ]
  have hcat : ¬ (9223372036854775807 < S1.size + S3.size) := by
    have a1 : S1.size = 1 := by rw [hS1]; rfl
    have a2 : S3.size = 3 := by rw [hS3]; exact size_digsA _ _
    omega
  obtain ⟨W1, hW1⟩ : ∃ W1, W.alloc (.cells #[.int .i64 Y, .int .i64 m, .int .i64 d, .int .i64 (t / 3600 % 24), .int .i64 mi, .int .i64 se] 109) = W1 := ⟨_, rfl⟩
  have hb : Blk W1 W.heap.size 109 #[.int .i64 Y, .int .i64 m, .int .i64 d, .int .i64 (t / 3600 % 24), .int .i64 mi, .int .i64 se] := by rw [← hW1]; exact Blk.new _ _ _
  have hT : Fr0 w W1 := by rw [← hW1]; exact hf.alloc _
  have c0 := hb.cell 0
  have c1 := hb.cell 1
  have c2 := hb.cell 2
  have hab : a < 10 := by omega
  clear hin hd hd1 hdl hb1 hb2 hD hS3 hJ hb hf ha
  go_wp2_with fail
  clear hW1
  go_loop [6, 7] (fun n i => ∃ k : Int, 1 ≤ k ∧ k ≤ m ∧ i = .int .i64 k ∧ n = .int .i64 (d + aheadF (leapB Y) k)) (fun _ i => (13 - intOf i).toNat)
  case atStart => exact ⟨1, by omega, hm1, rfl, by rw [ahead_1, Int.add_zero]⟩
  case round =>
    obtain ⟨k, hk1, hk2, rfl, rfl⟩ := hrel
    by_cases hlt : k < m
    · have DG := Lib.hid (days_any (y := Y) (m := k) (by omega) (by omega) hk1 (by omega) W1)
      have hda := days_ahead (leapB Y) hk1 (show k ≤ 12 by omega)
      have hin2 := ahead_in (leapB Y) hk1 (show k ≤ 13 by omega)
      have hin3 := days_in (leapB Y) k
      obtain ⟨x, hx⟩ : ∃ x, x = d + aheadF (leapB Y) k := ⟨_, rfl⟩
      obtain ⟨z, hz⟩ : ∃ z, z = daysF (leapB Y) k := ⟨_, rfl⟩
      rw [← hx]
      rw [← hz] at DG hda hin3
      have w1 : IntKind.i64.wrap (x + z) = x + z := IntWalk.i64_in _ (by omega)
      have w2 : IntKind.i64.wrap (k + 1) = k + 1 := IntWalk.i64_in _ (by omega)
      have HX := Lib.hid (show x + z = d + aheadF (leapB Y) (k + 1) by omega)
      clear hda hin2 hin3 hx hz
      go_wp2_with fail
      refine DG.out.mono ?_
      rintro e W2 ⟨rfl, rfl⟩
      go_wp2_with fail
      exact ⟨⟨k + 1, by omega, by omega, rfl, by rw [HX.out]⟩, by simp only [intOf]; omega⟩
    · have hkm : k = m := by omega
      subst hkm
      rw [HDD.out.1]
      clear HD
      have hcv : ∀ w : World, (convert 101 9 (.slice (some ⟨w.heap.size, 0, none⟩) 1 1)).run Try.prog (w.alloc (.cells #[.int .u8 (48 + (a : Int))] 5)).drew = .ok (.string ⟨#[UInt8.ofNat (48 + a)]⟩) (w.alloc (.cells #[.int .u8 (48 + (a : Int))] 5)).drew := fun w => conv_one hab w.drew _ rfl
      have hcv0 : ∀ w : World, (convert 101 9 (.slice (some ⟨w.heap.size, 0, none⟩) 1 1)).run Try.prog (w.alloc (.cells #[.int .u8 (48 + (a : Int))] 5)) = .ok (.string ⟨#[UInt8.ofNat (48 + a)]⟩) (w.alloc (.cells #[.int .u8 (48 + (a : Int))] 5)) := fun w => conv_one hab w _ rfl
      have HQ := Lib.hid (show ∀ w2, Fr0 (W1.alloc (.cells #[.int .u8 (48 + (a : Int))] 5)).drew w2 → (convert 101 9 (.slice (some ⟨W1.heap.size, 0, none⟩) 1 1)).run Try.prog w2 = .ok (.string ⟨#[UInt8.ofNat (48 + a)]⟩) w2 ∧ w2.cell? ⟨W.heap.size, 0, none⟩ = some (.int .i64 Y) ∧ Fr0 w w2 from fun w2 hf =>
        ⟨conv_cell hab (hf.cell0 ((Blk.new W1 _ _).cell 0)), ((((Fr.refl (fun _ => False) W1).alloc _).drew).trans hf).cell0 c0, (hT.alloc _).drew.trans hf⟩)
      have HQ2 := Lib.hid (show ∀ w2, Fr0 W1.drew w2 → w2.cell? ⟨W.heap.size, 0, none⟩ = some (.int .i64 Y) ∧ Fr0 w w2 from fun w2 hf => ⟨((Fr.refl (fun _ => False) W1).drew.trans hf).cell0 c0, hT.drew.trans hf⟩)
      rw [← hS1] at hcv hcv0 HQ
      have w1 := wrap_dig hab
      have w2 := wrap_digi hab
      clear hS1 HDD
      go_wp2_with fail
      go_region_law (first | (go_simp; go_at_call 90; refine (T3.out _).mono ?_; rintro e w2 ⟨rfl, hf2⟩; first | (have hcw := (HQ.out _ hf2).1; have c0 := (HQ.out _ hf2).2.1; have hT := (HQ.out _ hf2).2.2) | (have c0 := (HQ2.out _ hf2).1; have hT := (HQ2.out _ hf2).2)))
      all_goals
        go_wp2_with fail
        exact bodyPost_ret (v := .tuple #[.string J, .int .i64 0]) (by simp [results, Try.results65, go_sem]) rfl (by first | exact P.out _ hT | exact P.out _ (hT.alloc _))
set_option maxRecDepth 100000 in
set_option maxHeartbeats 1600000 in
theorem reference18_any (t n : Int) (w : World) : Calls Try.prog 36 #[.int .i64 t, .int .i64 n] w (RefPost w t n) := by
  by_cases hb : t < 0 ∨ 3155759999 < t
  · have HB := Lib.hid hb
    have HJ := Lib.hid (julian8_bad hb w)
    clear hb
    go_enter Try.func36, Try.ntmps36
    go_wp2_with fail
    refine HJ.out.mono ?_
    rintro e W ⟨rfl, hf⟩
    go_wp2_with fail
    exact bodyPost_ret (v := .tuple #[.string ⟨#[]⟩, .int .i64 80]) (by simp [results, Try.results36, go_sem]) rfl ⟨hf, .inl ⟨HB.out, rfl⟩⟩
  · have hg : 0 ≤ t ∧ t ≤ 3155759999 := by omega
    have HG := Lib.hid hg
    have HJ := Lib.hid (julian8_any hg.1 hg.2 w)
    clear hb
    by_cases hn : 1 ≤ n ∧ n ≤ 999999
    · have hFn : fieldB n = (⟨(digs 6 n.toNat).toArray⟩, 0) := by rw [fieldB, if_pos hn]
      have HF := Lib.hid (fun w => field18r_any n w)
      rw [hFn] at HF
      obtain ⟨S6, hS6⟩ : ∃ S : ByteArray, S = ⟨(digs 6 n.toNat).toArray⟩ := ⟨_, rfl⟩
      rw [← hS6] at HF
      have HS6 := Lib.hid hS6
      have HN := Lib.hid hn
      obtain ⟨H, hH⟩ : ∃ H : Nat, t / 3600 % 24 = H := ⟨(t / 3600 % 24).toNat, by omega⟩
      have hHb : H < 100 := by omega
      have HHH := Lib.hid hH
      obtain ⟨T, hT⟩ : ∃ T, T = t / 3600 := ⟨_, rfl⟩
      have e1 : t.tdiv 3600 = T := by rw [hT]; exact Int.tdiv_eq_ediv_of_nonneg (by omega)
      have e2 : T.tmod 24 = H := by rw [← hH, hT]; exact Int.tmod_eq_emod_of_nonneg (by omega)
      have e3 : IntKind.i64.wrap T = T := IntWalk.i64_in _ (by omega)
      have HW := Lib.hid (fun w => digits18_any (n := H) (many := 2) (by omega) (by omega) w)
      obtain ⟨S2, hS2⟩ : ∃ S : ByteArray, S = ⟨(digs 2 H).toArray⟩ := ⟨_, rfl⟩
      rw [← hS2] at HW
      have HS2 := Lib.hid hS2
      clear hFn hS6 hn hg hS2 hHb hH hT
      go_enter Try.func36, Try.ntmps36
      go_wp2_with fail
      refine HJ.out.mono ?_
      rintro e W ⟨y, d, rfl, hy1, hy2, hb1, hb2, hd, hf1⟩
      obtain ⟨J, hJ⟩ : ∃ J, J = julB y d := ⟨_, rfl⟩
      have hJs : J.size = 4 := by rw [hJ, julB, ByteArray.size_append, size_digs, size_digs]
      have h2s : S2.size = 2 := by rw [HS2.out, size_digs]
      have h6s : S6.size = 6 := by rw [HS6.out, size_digs]
      rw [← hJ]
      obtain ⟨R, hR⟩ : ∃ R, J ++ S2 ++ S6 = R := ⟨_, rfl⟩
      have hcat : ¬ (9223372036854775807 < J.size + S2.size) := by omega
      have hcat2 : ¬ (9223372036854775807 < (J ++ S2).size + S6.size) := by rw [ByteArray.size_append]; omega
      have P := Lib.hid (show ∀ W, Fr0 w W → RefPost w t n (.returned (.tuple #[.string R, .int .i64 0])) W from fun W hf => ⟨hf, .inr (.inr ⟨HG.out, HN.out, R, rfl, y, d, by
        rw [← hR, refS, hJ, HS2.out, HS6.out, HHH.out]
        rfl, hy1, hy2, hb1, hb2, hd⟩)⟩)
      clear hJ hJs h2s h6s hd hb1 hb2 hy1 hy2
      go_wp2_with fail
      refine (HF.out W).mono ?_
      rintro e W2 ⟨rfl, hf2⟩
      go_wp2_with fail
      refine (HW.out _).mono ?_
      rintro e W4 ⟨rfl, hf4⟩
      have HP := Lib.hid (P.out _ ((hf1.trans hf2).trans hf4))
      go_wp2_with fail
      exact bodyPost_ret (v := .tuple #[.string R, .int .i64 0]) (by simp [results, Try.results36, go_sem]) rfl HP.out
    · have hFn : fieldB n = (⟨#[]⟩, 1) := by rw [fieldB, if_neg hn]
      have HF := Lib.hid (fun w => field18r_any n w)
      rw [hFn] at HF
      have HN := Lib.hid (show n < 1 ∨ 999999 < n by omega)
      clear hFn hn
      go_enter Try.func36, Try.ntmps36
      go_wp2_with fail
      refine HJ.out.mono ?_
      rintro e W ⟨y, d, rfl, _, _, _, _, _, hf1⟩
      go_wp2_with fail
      refine (HF.out W).mono ?_
      rintro e W2 ⟨rfl, hf2⟩
      go_wp2_with fail
      exact bodyPost_ret (v := .tuple #[.string ⟨#[]⟩, .int .i64 1]) (by simp [results, Try.results36, go_sem]) rfl ⟨hf1.trans hf2, .inr (.inl ⟨HG.out, HN.out, rfl⟩)⟩
theorem refOk_unique {t n : Int} {a b : ByteArray} (ha : RefOk t n a) (hb : RefOk t n b) : a = b := by
  obtain ⟨y, d, rfl, _, _, h1, h2, h3⟩ := ha
  obtain ⟨z, e, rfl, _, _, h4, h5, h6⟩ := hb
  have hy : y = z := by
    simp only [begB] at h1 h2 h4 h5
    omega
  subst hy
  have : d = e := by omega
  rw [this]
theorem refPost_unique {t n : Int} {w1 w2 w3 w4 : World} {e f : Ending} (ha : RefPost w1 t n e w2) (hb : RefPost w3 t n f w4) : ∃ (s : ByteArray) (c : Int), e = .returned (.tuple #[.string s, .int .i64 c]) ∧ f = .returned (.tuple #[.string s, .int .i64 c]) := by
  rcases ha.2 with ⟨h, rfl⟩ | ⟨h, g, rfl⟩ | ⟨h, g, s, rfl, hs⟩
  · rcases hb.2 with ⟨_, rfl⟩ | ⟨h2, _⟩ | ⟨h2, _⟩
    · exact ⟨_, _, rfl, rfl⟩
    · omega
    · omega
  · rcases hb.2 with ⟨h2, _⟩ | ⟨_, _, rfl⟩ | ⟨_, h2, _⟩
    · omega
    · exact ⟨_, _, rfl, rfl⟩
    · omega
  · rcases hb.2 with ⟨h2, _⟩ | ⟨_, h2, _⟩ | ⟨_, _, s2, rfl, hs2⟩
    · omega
    · omega
    · rw [refOk_unique hs hs2]
      exact ⟨_, _, rfl, rfl⟩
set_option maxRecDepth 100000 in
set_option maxHeartbeats 1600000 in
theorem fields18_any {mo nu : Int} (_h1 : -9223372036854775808 ≤ mo ∧ mo ≤ 9223372036854775807) (_h2 : -9223372036854775808 ≤ nu ∧ nu ≤ 9223372036854775807) (w : World) :
    Calls Try.prog 7 #[.int .i64 mo, .int .i64 nu] w fun e w' => e = .returned (.bool true) ∧ Fr0 w w' := by
  obtain ⟨F1, F2, hF⟩ : ∃ (a : ByteArray) (b : Int), fieldB nu = (a, b) := ⟨_, _, rfl⟩
  have HA := Lib.hid (fun w => field18_any nu w)
  have HB := Lib.hid (fun w => field18r_any nu w)
  rw [hF] at HA HB
  clear hF
  go_enter Try.func7, Try.ntmps7
  go_wp2_with fail
  refine (known_any w).mono ?_
  rintro e W0 ⟨rfl, hf0⟩
  go_wp2_with fail
  refine (HA.out W0).mono ?_
  rintro e W1 ⟨rfl, hf1⟩
  go_wp2_with fail
  refine (HB.out W1).mono ?_
  rintro e W2 ⟨rfl, hf2⟩
  go_wp2_with fail
  refine (reference_any mo nu W2).mono ?_
  rintro e W3 hR3
  have HR3 := Lib.hid hR3
  obtain ⟨s, c, rfl⟩ : ∃ (s : ByteArray) (c : Int), e = .returned (.tuple #[.string s, .int .i64 c]) := by
    obtain ⟨s, c, h, _⟩ := refPost_unique hR3 hR3
    exact ⟨s, c, h⟩
  have hf3 := hR3.1
  clear hR3
  go_wp2_with fail
  refine (reference18_any mo nu W3).mono ?_
  rintro e W4 hR4
  obtain ⟨s2, c2, h, rfl⟩ := refPost_unique HR3.out hR4
  simp only [Ending.returned.injEq, Value.tuple.injEq, Array.mk.injEq, List.cons.injEq, Value.string.injEq, Value.int.injEq, true_and, and_true] at h
  obtain ⟨rfl, rfl⟩ := h
  have hT := (((hf0.trans hf1).trans hf2).trans hf3).trans hR4.1
  clear hR4
  go_wp2_with fail
  exact bodyPost_ret (v := .bool true) (by simp [results, Try.results7, go_sem]) rfl ⟨rfl, hT⟩
end Go.Proofs.Ytgeiimifhbiklaa
