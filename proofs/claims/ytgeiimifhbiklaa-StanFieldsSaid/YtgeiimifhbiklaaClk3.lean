/- clock.Julian, stan.Reference: contracts, proved by walks. -/
import Derived.Test.YtgeiimifhbiklaaClk2
import Derived.Test.YtgeiimifhbiklaaKnown
namespace Go.Proofs.Ytgeiimifhbiklaa
open Go.RowKit

def date0 : Value := .agg #[.int .i64 0, .int .i64 0, .int .i64 0, .int .i64 0, .int .i64 0, .int .i64 0]
theorem date_bad {t : Int} (h : t < 0 ∨ 3155759999 < t) (w : World) : Calls Try.prog 64 #[.int .i64 t] w fun e w' => e = .returned (.tuple #[.agg #[.int .i64 0, .int .i64 0, .int .i64 0, .int .i64 0, .int .i64 0, .int .i64 0], .int .i64 80]) ∧ Fr0 w w' := by
  rcases h with h | h
  · go_enter Try.func64, Try.ntmps64
    go_wp2_with fail
    exact bodyPost_ret (v := .tuple #[.agg #[.int .i64 0, .int .i64 0, .int .i64 0, .int .i64 0, .int .i64 0, .int .i64 0], .int .i64 80]) (by simp [results, Try.results64, go_sem]) rfl ⟨rfl, (Fr.refl _ _).alloc _⟩
  · have h2 : ¬ t < 0 := by omega
    go_enter Try.func64, Try.ntmps64
    go_wp2_with fail
    exact bodyPost_ret (v := .tuple #[.agg #[.int .i64 0, .int .i64 0, .int .i64 0, .int .i64 0, .int .i64 0, .int .i64 0], .int .i64 80]) (by simp [results, Try.results64, go_sem]) rfl ⟨rfl, (Fr.refl _ _).alloc _⟩
theorem julian_bad {t : Int} (h : t < 0 ∨ 3155759999 < t) (w : World) : Calls Try.prog 63 #[.int .i64 t] w fun e w' => e = .returned (.tuple #[.string ⟨#[]⟩, .int .i64 80]) ∧ Fr0 w w' := by
  have HD := Lib.hid (date_bad h w)
  clear h
  go_enter Try.func63, Try.ntmps63
  go_wp2_with fail
  refine HD.out.mono ?_
  rintro e W ⟨rfl, hf⟩
  go_wp2_with fail
  exact bodyPost_ret (v := .tuple #[.string ⟨#[]⟩, .int .i64 80]) (by simp [results, Try.results63, go_sem]) rfl ⟨rfl, hf.alloc _⟩
/-- The year's last digit, the day of the year. -/
def julB (y d : Nat) : ByteArray := ⟨(digs 1 y).toArray⟩ ++ ⟨(digs 3 d).toArray⟩
def JulPost (w : World) (t : Int) (e : Ending) (w' : World) : Prop :=
  ∃ y d : Nat, e = .returned (.tuple #[.string (julB y d), .int .i64 0]) ∧ 2000 ≤ y ∧ y ≤ 2099 ∧ begB y ≤ t / 86400 ∧ t / 86400 < begB (y + 1) ∧ (d : Int) = t / 86400 - begB y + 1 ∧ Fr0 w w'
set_option maxRecDepth 100000 in
set_option maxHeartbeats 3200000 in
theorem julian_any {t : Int} (h0 : 0 ≤ t) (h1 : t ≤ 3155759999) (w : World) : Calls Try.prog 63 #[.int .i64 t] w (JulPost w t) := by
  have HD := Lib.hid (date_any h0 h1 w)
  go_enter Try.func63, Try.ntmps63
  go_wp2_with fail
  refine HD.out.mono ?_
  rintro e W ⟨y, m, d, mi, se, rfl, hy1, hy2, hm1, hm2, hb1, hb2, hd, hd1, hf⟩
  obtain ⟨Y, rfl⟩ : ∃ Y : Nat, y = Y := ⟨y.toNat, by omega⟩
  obtain ⟨a, ha⟩ : ∃ a, a = aheadF (leapB Y) m := ⟨_, rfl⟩
  have hin := ahead_in (leapB Y) hm1 (by omega)
  rw [← ha] at hd hin
  have hdb : (Y : Int) ≤ 2099 := hy2
  have hdl : a + d ≤ 366 + 1 := by
    rw [begB] at hb1 hb2
    have : d + a = t / 86400 - begB Y + 1 := hd
    rw [begB] at this
    omega
  obtain ⟨D, hD⟩ : ∃ D : Nat, a + d = D := ⟨(a + d).toNat, by omega⟩
  have hw1 : IntKind.i64.wrap (a + d) = (D : Int) := by rw [hD]; exact IntWalk.i64_in _ (by omega)
  have P := Lib.hid (show ∀ W, Fr0 w W → JulPost w t (.returned (.tuple #[.string (julB Y D), .int .i64 0])) W from fun W hf => ⟨Y, D, rfl, by omega, by omega, hb1, hb2, by omega, hf⟩)
  have A1 := Lib.hid (fun w => ahead_any (y := Y) (m := m) (by omega) (by omega) hm1 hm2 w)
  rw [← ha] at A1
  have A2 := Lib.hid (show ∀ w, Calls Try.prog 85 #[.int .i64 Y, .int .i64 1] w fun e w' => e = .returned (.string ⟨(digs 1 Y).toArray⟩) ∧ Fr0 w w' from fun w => written_any (n := Y) (wd := 1) (by omega) (by omega) (by omega) w)
  have A3 := Lib.hid (show ∀ w, Calls Try.prog 85 #[.int .i64 D, .int .i64 3] w fun e w' => e = .returned (.string ⟨(digs 3 D).toArray⟩) ∧ Fr0 w w' from fun w => written_any (n := D) (wd := 3) (by omega) (by omega) (by omega) w)
  obtain ⟨S1, hS1⟩ : ∃ S : ByteArray, S = ⟨(digs 1 Y).toArray⟩ := ⟨_, rfl⟩
  obtain ⟨S3, hS3⟩ : ∃ S : ByteArray, S = ⟨(digs 3 D).toArray⟩ := ⟨_, rfl⟩
  have hj : S1 ++ S3 = julB Y D := by rw [hS1, hS3]; rfl
  have z1 : S1.size = 1 := by rw [hS1]; rfl
  have z3 : S3.size = 3 := by rw [hS3]; rfl
  rw [← hS1] at A2
  rw [← hS3] at A3
  have AW := Lib.hid (show ∀ (n k : Int) (w : World), (n = Y ∧ k = 1 ∨ n = D ∧ k = 3) → Calls Try.prog 85 #[.int .i64 n, .int .i64 k] w fun e w' => e = .returned (.string (if k = 1 then S1 else S3)) ∧ Fr0 w w' from fun n k w h => by
    rcases h with ⟨rfl, rfl⟩ | ⟨rfl, rfl⟩
    · exact A2.out w
    · exact A3.out w)
  clear A2 A3
  obtain ⟨J, hJ⟩ : ∃ J, julB Y D = J := ⟨_, rfl⟩
  rw [hJ] at hj P
  obtain ⟨W1, hW1⟩ : ∃ W1, W.alloc (.cells #[.int .i64 Y, .int .i64 m, .int .i64 d, .int .i64 (t / 3600 % 24), .int .i64 mi, .int .i64 se] 109) = W1 := ⟨_, rfl⟩
  have hb : Blk W1 W.heap.size 109 #[.int .i64 Y, .int .i64 m, .int .i64 d, .int .i64 (t / 3600 % 24), .int .i64 mi, .int .i64 se] := by rw [← hW1]; exact Blk.new _ _ _
  have hT : Fr0 w W1 := by rw [← hW1]; exact hf.alloc _
  have c0 := hb.cell 0
  have c1 := hb.cell 1
  have c2 := hb.cell 2
  have hcat : ¬ (9223372036854775807 < S1.size + S3.size) := by omega
  clear ha hin hd hd1 hdl hb1 hb2 hD hS1 hS3 hJ hb hf z1 z3
  go_wp2_with fail
  clear hW1
  have hT := hT.drew
  have c0 : W1.drew.cell? ⟨W.heap.size, 0, none⟩ = some (.int .i64 Y) := c0
  have c1 : W1.drew.cell? ⟨W.heap.size, 1, none⟩ = some (.int .i64 m) := c1
  have c2 : W1.drew.cell? ⟨W.heap.size, 2, none⟩ = some (.int .i64 d) := c2
  go_region_held3 (fun w' => w'.cell? ⟨W.heap.size, 0, none⟩ = some (.int .i64 Y) ∧ w'.cell? ⟨W.heap.size, 1, none⟩ = some (.int .i64 m) ∧ w'.cell? ⟨W.heap.size, 2, none⟩ = some (.int .i64 d))
    (first | exact ⟨c0, c1, c2⟩)
    (first | (go_at_call 85; refine (AW.out _ _ _ (by omega)).mono ?_; rintro e w2 ⟨rfl, hf2⟩; have hT := hT.trans hf2; have c0 := hf2.cell0 c0; have c1 := hf2.cell0 c1; have c2 := hf2.cell0 c2) | (go_at_call 86; refine (A1.out _).mono ?_; rintro e w4 ⟨rfl, rfl⟩))
  all_goals
    go_wp2_with fail
    exact bodyPost_ret (v := .tuple #[.string J, .int .i64 0]) (by simp [results, Try.results63, go_sem]) rfl (P.out _ hT)
/-- A reference number: year's digit, day, hour, number. -/
def refS (y d h n : Nat) : ByteArray := (julB y d ++ ⟨(digs 2 h).toArray⟩) ++ ⟨(digs 6 n).toArray⟩
def RefOk (t n : Int) (s : ByteArray) : Prop := ∃ y d : Nat, s = refS y d (t / 3600 % 24).toNat n.toNat ∧ 2000 ≤ y ∧ y ≤ 2099 ∧ begB y ≤ t / 86400 ∧ t / 86400 < begB (y + 1) ∧ (d : Int) = t / 86400 - begB y + 1
def RefPost (w : World) (t n : Int) (e : Ending) (w' : World) : Prop :=
  Fr0 w w' ∧ ((t < 0 ∨ 3155759999 < t) ∧ e = .returned (.tuple #[.string ⟨#[]⟩, .int .i64 80]) ∨ (0 ≤ t ∧ t ≤ 3155759999) ∧ (n < 1 ∨ 999999 < n) ∧ e = .returned (.tuple #[.string ⟨#[]⟩, .int .i64 1]) ∨
    (0 ≤ t ∧ t ≤ 3155759999) ∧ (1 ≤ n ∧ n ≤ 999999) ∧ ∃ s, e = .returned (.tuple #[.string s, .int .i64 0]) ∧ RefOk t n s)
theorem size_digs (k n : Nat) : (⟨(digs k n).toArray⟩ : ByteArray).size = k := by
  show (digs k n).toArray.size = k
  simp [length_digs]
set_option maxRecDepth 100000 in
set_option maxHeartbeats 1600000 in
theorem reference_any (t n : Int) (w : World) : Calls Try.prog 35 #[.int .i64 t, .int .i64 n] w (RefPost w t n) := by
  by_cases hb : t < 0 ∨ 3155759999 < t
  · have HB := Lib.hid hb
    have HJ := Lib.hid (julian_bad hb w)
    clear hb
    go_enter Try.func35, Try.ntmps35
    go_wp2_with fail
    refine HJ.out.mono ?_
    rintro e W ⟨rfl, hf⟩
    go_wp2_with fail
    exact bodyPost_ret (v := .tuple #[.string ⟨#[]⟩, .int .i64 80]) (by simp [results, Try.results35, go_sem]) rfl ⟨hf, .inl ⟨HB.out, rfl⟩⟩
  · have hg : 0 ≤ t ∧ t ≤ 3155759999 := by omega
    have HG := Lib.hid hg
    have HJ := Lib.hid (julian_any hg.1 hg.2 w)
    clear hb
    by_cases hn : 1 ≤ n ∧ n ≤ 999999
    · have hFn : fieldB n = (⟨(digs 6 n.toNat).toArray⟩, 0) := by rw [fieldB, if_pos hn]
      have HF := Lib.hid (fun w => field18_any n w)
      rw [hFn] at HF
      obtain ⟨S6, hS6⟩ : ∃ S : ByteArray, S = ⟨(digs 6 n.toNat).toArray⟩ := ⟨_, rfl⟩
      rw [← hS6] at HF
      have HS6 := Lib.hid hS6
      have HN := Lib.hid hn
      obtain ⟨H, hH⟩ : ∃ H : Nat, t / 3600 % 24 = H := ⟨(t / 3600 % 24).toNat, by omega⟩
      have hHb : H < 100 := by omega
      have HHH := Lib.hid hH
      have HD := Lib.hid (fun w => date_any hg.1 hg.2 w)
      have HW := Lib.hid (show ∀ w, Calls Try.prog 61 #[.int .i64 H, .int .i64 2] w fun e w' => e = .returned (.tuple #[.string ⟨(digs 2 H).toArray⟩, .int .i64 0]) ∧ Fr0 w w' from fun w => write_any (n := H) (wd := 2) (by omega) (by omega) (by omega) (by omega) w)
      obtain ⟨S2, hS2⟩ : ∃ S : ByteArray, S = ⟨(digs 2 H).toArray⟩ := ⟨_, rfl⟩
      rw [← hS2] at HW
      have HS2 := Lib.hid hS2
      clear hFn hS6 hn hg hS2 hHb hH
      go_enter Try.func35, Try.ntmps35
      go_wp2_with fail
      refine HJ.out.mono ?_
      rintro e W ⟨y, d, rfl, hy1, hy2, hb1, hb2, hd, hf1⟩
      obtain ⟨J, hJ⟩ : ∃ J, J = julB y d := ⟨_, rfl⟩
      have hJs : J.size = 4 := by rw [hJ, julB, ByteArray.size_append, size_digs, size_digs]
      have h2s : S2.size = 2 := by rw [HS2.out, size_digs]
      have h6s : S6.size = 6 := by rw [HS6.out, size_digs]
      rw [← hJ]
      obtain ⟨R, hR⟩ : ∃ R, J ++ S2 ++ S6 = R := ⟨_, rfl⟩
      have hcat : ¬ (9223372036854775807 < J.size + S2.size) := by omega
      have hcat2 : ¬ (9223372036854775807 < (J ++ S2).size + S6.size) := by rw [ByteArray.size_append]; omega
      have P := Lib.hid (show ∀ W, Fr0 w W → RefPost w t n (.returned (.tuple #[.string R, .int .i64 0])) W from fun W hf => ⟨hf, .inr (.inr ⟨HG.out, HN.out, R, rfl, y, d, by
        rw [← hR, refS, hJ, HS2.out, HS6.out, HHH.out]
        rfl, hy1, hy2, hb1, hb2, hd⟩)⟩)
      clear hJ hJs h2s h6s hd hb1 hb2 hy1 hy2
      go_wp2_with fail
      refine (HF.out W).mono ?_
      rintro e W2 ⟨rfl, hf2⟩
      go_wp2_with fail
      refine (HD.out W2).mono ?_
      rintro e W3 ⟨y3, m3, d3, mi3, se3, rfl, _, _, _, _, _, _, _, _, hf3⟩
      rw [HHH.out]
      have hfa : Fr0 W3 (W3.alloc (.cells #[.int .i64 y3, .int .i64 m3, .int .i64 d3, .int .i64 H, .int .i64 mi3, .int .i64 se3] 109)) := (Fr.refl _ _).alloc _
      go_wp2_with fail
      refine (HW.out _).mono ?_
      rintro e W4 ⟨rfl, hf4⟩
      have HP := Lib.hid (P.out _ ((((hf1.trans hf2).trans hf3).trans hfa).trans hf4))
      go_wp2_with fail
      exact bodyPost_ret (v := .tuple #[.string R, .int .i64 0]) (by simp [results, Try.results35, go_sem]) rfl HP.out
    · have hFn : fieldB n = (⟨#[]⟩, 1) := by rw [fieldB, if_neg hn]
      have HF := Lib.hid (fun w => field18_any n w)
      rw [hFn] at HF
      have HN := Lib.hid (show n < 1 ∨ 999999 < n by omega)
      clear hFn hn
      go_enter Try.func35, Try.ntmps35
      go_wp2_with fail
      refine HJ.out.mono ?_
      rintro e W ⟨y, d, rfl, _, _, _, _, _, hf1⟩
      go_wp2_with fail
      refine (HF.out W).mono ?_
      rintro e W2 ⟨rfl, hf2⟩
      go_wp2_with fail
      exact bodyPost_ret (v := .tuple #[.string ⟨#[]⟩, .int .i64 1]) (by simp [results, Try.results35, go_sem]) rfl ⟨hf1.trans hf2, .inr (.inl ⟨HG.out, HN.out, rfl⟩)⟩
end Go.Proofs.Ytgeiimifhbiklaa
