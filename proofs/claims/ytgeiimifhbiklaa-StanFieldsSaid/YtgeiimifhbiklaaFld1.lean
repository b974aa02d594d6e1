/- The document's clock: Leap, Days, Date: contracts, proved by walks. -/
import Derived.Test.YtgeiimifhbiklaaClk3
namespace Go.Proofs.Ytgeiimifhbiklaa
open Go.RowKit

theorem leap8_any {y : Int} (h1 : 0 ≤ y) (h2 : y ≤ 100000) (w : World) : Calls Try.prog 101 #[.int .i64 y] w fun e w' => e = .returned (.bool (leapB y)) ∧ w = w' := by
  have e4 : y.tmod 4 = y % 4 := Int.tmod_eq_emod_of_nonneg h1
  have e1 : y.tmod 100 = y % 100 := Int.tmod_eq_emod_of_nonneg h1
  have e0 : y.tmod 400 = y % 400 := Int.tmod_eq_emod_of_nonneg h1
  cases q4 : (y % 4 == 0) <;> cases q1 : (y % 100 != 0) <;> cases q0 : (y % 400 == 0)
  all_goals
    have HL := Lib.hid (show leapB y = _ by rw [leapB, q4, q1, q0])
    have q1' : (y % 100 == 0) = !(y % 100 != 0) := by simp [bne]
    rw [q1] at q1'
    go_enter Try.func101, Try.ntmps101
    go_wp2_with fail
    go_ret
    exact ⟨by rw [HL.out]; rfl, rfl⟩
/-- How many days a month has. -/
def daysF (leap : Bool) (m : Int) : Int := if m = 4 ∨ m = 6 ∨ m = 9 ∨ m = 11 then 30 else if m = 2 then (if leap = true then 29 else 28) else 31
theorem days_any {y m : Int} (h1 : 0 ≤ y) (h2 : y ≤ 100000) (hm : 1 ≤ m) (hm2 : m ≤ 12) (w : World) :
    Calls Try.prog 89 #[.int .i64 y, .int .i64 m] w fun e w' => e = .returned (.int .i64 (daysF (leapB y) m)) ∧ w = w' := by
  have HL := Lib.hid (leap8_any h1 h2 w)
  obtain ⟨b, hb⟩ : ∃ b, b = leapB y := ⟨_, rfl⟩
  rw [← hb] at HL ⊢
  clear hb
  by_cases h : m = 2
  · subst h
    go_enter Try.func89, Try.ntmps89
    go_wp2_with fail
    refine HL.out.mono ?_
    rintro e W ⟨rfl, rfl⟩
    cases b
    all_goals
      go_wp2_with fail
      go_ret
      exact ⟨rfl, rfl⟩
  · rcases (show m = 1 ∨ m = 3 ∨ m = 4 ∨ m = 5 ∨ m = 6 ∨ m = 7 ∨ m = 8 ∨ m = 9 ∨ m = 10 ∨ m = 11 ∨ m = 12 by omega) with rfl | rfl | rfl | rfl | rfl | rfl | rfl | rfl | rfl | rfl | rfl
    all_goals
      go_enter Try.func89, Try.ntmps89
      go_wp2_with fail
      go_ret
      exact ⟨rfl, rfl⟩
theorem days_ahead (b : Bool) {m : Int} (h1 : 1 ≤ m) (h2 : m ≤ 12) : aheadF b (m + 1) = aheadF b m + daysF b m := by
  rcases (show m = 1 ∨ m = 2 ∨ m = 3 ∨ m = 4 ∨ m = 5 ∨ m = 6 ∨ m = 7 ∨ m = 8 ∨ m = 9 ∨ m = 10 ∨ m = 11 ∨ m = 12 by omega) with rfl | rfl | rfl | rfl | rfl | rfl | rfl | rfl | rfl | rfl | rfl | rfl
  all_goals cases b <;> rfl
theorem days_in (b : Bool) (m : Int) : 28 ≤ daysF b m ∧ daysF b m ≤ 31 := by
  unfold daysF
  split
  · omega
  · split
    · cases b <;> decide
    · omega
theorem begB_next {y : Int} (h1 : 2000 ≤ y) (h2 : y ≤ 2099) : begB (y + 1) = begB y + aheadF (leapB y) 13 := by
  have h : aheadF (leapB y) 13 = if leapB y = true then 366 else 365 := by cases leapB y <;> rfl
  rw [h]
  by_cases hl : y % 4 = 0
  · have : leapB y = true := by
      have h1 : (y % 4 == 0) = true := by simp [hl]
      by_cases h0 : y = 2000
      · rw [h0]; rfl
      · have h3 : (y % 100 != 0) = true := by simp only [bne_iff_ne]; omega
        simp [leapB, h1, h3]
    rw [if_pos this]
    unfold begB
    omega
  · have : leapB y = false := by
      have h1 : (y % 4 == 0) = false := by simp [hl]
      have h3 : (y % 400 == 0) = false := by simp only [beq_eq_false_iff_ne]; omega
      simp [leapB, h1, h3]
    rw [this, if_neg (by decide)]
    unfold begB
    omega
theorem ahead_mono (b : Bool) {m : Int} (h1 : 1 ≤ m) (h2 : m ≤ 12) : aheadF b (m + 1) ≤ aheadF b 13 := by
  rcases (show m = 1 ∨ m = 2 ∨ m = 3 ∨ m = 4 ∨ m = 5 ∨ m = 6 ∨ m = 7 ∨ m = 8 ∨ m = 9 ∨ m = 10 ∨ m = 11 ∨ m = 12 by omega) with rfl | rfl | rfl | rfl | rfl | rfl | rfl | rfl | rfl | rfl | rfl | rfl
  all_goals cases b <;> decide
/-- The loop's state: year, month, days left. -/
def D8Rel (w : World) (N h mi se : Int) (v : Value) (wr : World) : Prop :=
  ∃ y m k : Int, v = .int .i64 k ∧ 2000 ≤ y ∧ y ≤ 2099 ∧ 1 ≤ m ∧ m ≤ 12 ∧ begB y + aheadF (leapB y) m + k = N ∧ 0 ≤ k ∧
    Blk wr (w.heap.size + 1) 109 #[.int .i64 y, .int .i64 m, .int .i64 1, .int .i64 h, .int .i64 mi, .int .i64 se] ∧
    Blk wr w.heap.size 109 #[.int .i64 0, .int .i64 0, .int .i64 0, .int .i64 0, .int .i64 0, .int .i64 0] ∧ Fr0 w wr
set_option maxRecDepth 100000 in
set_option maxHeartbeats 3200000 in
theorem date8_any {t : Int} (h0 : 0 ≤ t) (h1 : t ≤ 3155759999) (w : World) : Calls Try.prog 88 #[.int .i64 t] w (DatePost w t) := by
  have e1 : t.tdiv 86400 = t / 86400 := Int.tdiv_eq_ediv_of_nonneg h0
  have e2 : t.tdiv 3600 = t / 3600 := Int.tdiv_eq_ediv_of_nonneg h0
  have e3 : (t / 3600).tmod 24 = t / 3600 % 24 := Int.tmod_eq_emod_of_nonneg (by omega)
  have e4 : t.tdiv 60 = t / 60 := Int.tdiv_eq_ediv_of_nonneg h0
  have e5 : (t / 60).tmod 60 = t / 60 % 60 := Int.tmod_eq_emod_of_nonneg (by omega)
  have e6 : t.tmod 60 = t % 60 := Int.tmod_eq_emod_of_nonneg h0
  obtain ⟨N, hN⟩ : ∃ N, N = t / 86400 := ⟨_, rfl⟩
  obtain ⟨h, hh⟩ : ∃ h, h = t / 3600 % 24 := ⟨_, rfl⟩
  obtain ⟨mi, hmi⟩ : ∃ mi, mi = t / 60 % 60 := ⟨_, rfl⟩
  obtain ⟨se, hse⟩ : ∃ se, se = t % 60 := ⟨_, rfl⟩
  rw [← hN] at e1
  rw [← hh] at e3
  rw [← hmi] at e5
  rw [← hse] at e6
  have hnb : 0 ≤ N ∧ N ≤ 36524 := by omega
  have ht0 : ¬ t < 0 := by omega
  have ht1 : ¬ 3155759999 < t := by omega
  have HH := Lib.hid (And.intro hh hN)
  clear hN hh hmi hse
  go_enter Try.func88, Try.ntmps88
  go_wp2_with fail
  go_loopw [5] (fun v wr => D8Rel w N h mi se v wr) (fun v _ => (intOf v).toNat)
  case atStart =>
    refine ⟨2000, 1, N, rfl, by omega, by omega, by omega, by omega, by rw [show begB 2000 = 0 from rfl, ahead_1]; omega, hnb.1, ?_, (Blk.new w _ _).alloc _, ((Fr.refl _ _).alloc _).alloc _⟩
    have := Blk.new (w.alloc (.cells #[.int .i64 0, .int .i64 0, .int .i64 0, .int .i64 0, .int .i64 0, .int .i64 0] 109)) 109 #[.int .i64 2000, .int .i64 1, .int .i64 1, .int .i64 h, .int .i64 mi, .int .i64 se]
    simpa only [World.size_alloc] using this
  case round =>
    obtain ⟨y, m, k, rfl, hy1, hy2, hm1, hm2, hsum, hk, hb6, hb2, hfr⟩ := hrel
    have c0 := hb6.cell 0
    have c1 := hb6.cell 1
    have f0 := hb6.frozen 0
    have f1 := hb6.frozen 1
    have HB := Lib.hid (And.intro hb6 hb2)
    have DG := Lib.hid (days_any (y := y) (m := m) (by omega) (by omega) hm1 hm2 wr)
    have hda := days_ahead (leapB y) hm1 hm2
    have hmo := ahead_mono (leapB y) hm1 hm2
    have hin := days_in (leapB y) m
    have hnx := begB_next hy1 hy2
    have hbg : begB 2100 = 36525 := rfl
    obtain ⟨D, hD⟩ : ∃ D, D = daysF (leapB y) m := ⟨_, rfl⟩
    rw [← hD] at DG hda hin
    have hai := ahead_in (leapB y) hm1 (by omega)
    have hbb : 0 ≤ begB y := by unfold begB; omega
    have hkb : k ≤ 36524 := by omega
    clear hb6 hb2 hD
    by_cases hlt : k < D
    · have P := Lib.hid (show ∀ W, Fr0 w W → DatePost w t (.returned (.tuple #[.agg #[.int .i64 y, .int .i64 m, .int .i64 (1 + k), .int .i64 h, .int .i64 mi, .int .i64 se], .int .i64 0])) W from fun W hf => by
        have h2 := HH.out
        refine ⟨y, m, 1 + k, mi, se, by rw [← h2.1], hy1, hy2, hm1, hm2, by omega, by omega, by omega, by omega, hf⟩)
      have hw1 : IntKind.i64.wrap (1 + k) = 1 + k := IntWalk.i64_in _ (by omega)
      clear HH hda hmo hin hnx hbg hai hbb hsum
      go_wp2_with fail
      refine DG.out.mono ?_
      rintro e W ⟨rfl, rfl⟩
      have c2 := HB.out.1.cell 2
      have f2 := HB.out.1.frozen 2
      have c3 := HB.out.1.cell 3
      have c4 := HB.out.1.cell 4
      have c5 := HB.out.1.cell 5
      have d0 := HB.out.2.cell 0
      have d1 := HB.out.2.cell 1
      have d2 := HB.out.2.cell 2
      have d3 := HB.out.2.cell 3
      have d4 := HB.out.2.cell 4
      have d5 := HB.out.2.cell 5
      have g0 := HB.out.2.frozen 0
      have g1 := HB.out.2.frozen 1
      have g2 := HB.out.2.frozen 2
      have g3 := HB.out.2.frozen 3
      have g4 := HB.out.2.frozen 4
      have g5 := HB.out.2.frozen 5
      go_wp2_with fail
      refine bodyPost_ret (v := .tuple #[.agg #[.int .i64 y, .int .i64 m, .int .i64 (1 + k), .int .i64 h, .int .i64 mi, .int .i64 se], .int .i64 0]) (by simp [results, Try.results88, go_sem, d0, d1, d2, d3, d4, d5, g0, g1, g2, g3, g4, g5]) rfl (P.out _ ?_)
      exact ((((((hfr.setCell (.inl (by simp)) _).setCell (.inl (by simp)) _).setCell (.inl (by simp)) _).setCell (.inl (by simp)) _).setCell (.inl (by simp)) _).setCell (.inl (by simp)) _).setCell (.inl (by simp)) _
    · have hw1 : IntKind.i64.wrap (k - D) = k - D := IntWalk.i64_in _ (by omega)
      have hw2 : IntKind.i64.wrap (m + 1) = m + 1 := IntWalk.i64_in _ (by omega)
      have hw3 : IntKind.i64.wrap (y + 1) = y + 1 := IntWalk.i64_in _ (by omega)
      by_cases hm : m = 12
      · have hy3 : y + 1 ≤ 2099 := by
          rcases (show y ≤ 2098 ∨ y = 2099 by omega) with h | h
          · omega
          · rw [h] at hnx hsum hda
            rw [hm] at hsum hda
            rw [show (2099 : Int) + 1 = 2100 from rfl, hbg] at hnx
            rw [show (12 : Int) + 1 = 13 from rfl] at hda
            omega
        have P := Lib.hid (show begB (y + 1) + aheadF (leapB (y + 1)) 1 + (k - D) = N ∧ 0 ≤ k - D ∧ 0 < D ∧ D ≤ k by
          rw [ahead_1, hnx]
          rw [hm] at hsum hda
          rw [show (12 : Int) + 1 = 13 from rfl] at hda
          omega)
        clear HH hda hmo hnx hbg hai hbb hsum
        subst hm
        go_wp2_with fail
        refine DG.out.mono ?_
        rintro e W ⟨rfl, rfl⟩
        go_wp2_with fail
        refine DG.out.mono ?_
        rintro e W ⟨rfl, rfl⟩
        go_wp2_with fail
        have hq := ((HB.out.1.set_ 1 (.int .i64 13)).set_ 1 (.int .i64 1)).set_ 0 (.int .i64 (y + 1))
        refine ⟨⟨y + 1, 1, k - D, rfl, by omega, hy3, by omega, by omega, P.out.1, P.out.2.1, hq, ?_, ?_⟩, ?_⟩
        · exact ((HB.out.2.far (p := ⟨w.heap.size + 1, 1, none⟩) (by simp) _).far (p := ⟨w.heap.size + 1, 1, none⟩) (by simp) _).far (p := ⟨w.heap.size + 1, 0, none⟩) (by simp) _
        · exact ((hfr.setCell (p := ⟨w.heap.size + 1, 1, none⟩) (.inl (by simp)) _).setCell (p := ⟨w.heap.size + 1, 1, none⟩) (.inl (by simp)) _).setCell (p := ⟨w.heap.size + 1, 0, none⟩) (.inl (by simp)) _
        · have := P.out
          simp only [intOf]
          omega
      · have P := Lib.hid (show begB y + aheadF (leapB y) (m + 1) + (k - D) = N ∧ 0 ≤ k - D ∧ 0 < D ∧ D ≤ k by omega)
        clear HH hda hmo hnx hbg hai hbb hsum
        have hm12 : ¬ 12 < m + 1 := by omega
        go_wp2_with fail
        refine DG.out.mono ?_
        rintro e W ⟨rfl, rfl⟩
        go_wp2_with fail
        refine DG.out.mono ?_
        rintro e W ⟨rfl, rfl⟩
        go_wp2_with fail
        have hq := HB.out.1.set_ 1 (.int .i64 (m + 1))
        refine ⟨⟨y, m + 1, k - D, rfl, by omega, hy2, by omega, by omega, P.out.1, P.out.2.1, hq, ?_, ?_⟩, ?_⟩
        · exact HB.out.2.far (p := ⟨w.heap.size + 1, 1, none⟩) (by simp) _
        · exact hfr.setCell (p := ⟨w.heap.size + 1, 1, none⟩) (.inl (by simp)) _
        · have := P.out
          simp only [intOf]
          omega
end Go.Proofs.Ytgeiimifhbiklaa
