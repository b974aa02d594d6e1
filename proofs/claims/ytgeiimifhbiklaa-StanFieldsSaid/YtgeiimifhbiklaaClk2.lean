/- clock.Date: its contract, proved by a walk. -/
import Derived.Test.YtgeiimifhbiklaaClk
namespace Go.Proofs.Ytgeiimifhbiklaa
open Go.RowKit

theorem ahead_in (b : Bool) {m : Int} (h1 : 1 ≤ m) (h2 : m ≤ 13) : 0 ≤ aheadF b m ∧ aheadF b m ≤ 366 := by
  rcases (show m = 1 ∨ m = 2 ∨ m = 3 ∨ m = 4 ∨ m = 5 ∨ m = 6 ∨ m = 7 ∨ m = 8 ∨ m = 9 ∨ m = 10 ∨ m = 11 ∨ m = 12 ∨ m = 13 by omega) with rfl | rfl | rfl | rfl | rfl | rfl | rfl | rfl | rfl | rfl | rfl | rfl | rfl
  all_goals cases b <;> decide
theorem ahead_1 (b : Bool) : aheadF b 1 = 0 := by cases b <;> rfl
def BegW (w : World) (n h mi se : Int) (wr : World) : Prop :=
  ∃ y : Int, 2000 ≤ y ∧ y ≤ 2100 ∧ n < begB (y + 1) ∧ Blk wr (w.heap.size + 1) 109 #[.int .i64 y, .int .i64 12, .int .i64 0, .int .i64 h, .int .i64 mi, .int .i64 se] ∧
    Blk wr w.heap.size 109 #[.int .i64 0, .int .i64 0, .int .i64 0, .int .i64 0, .int .i64 0, .int .i64 0] ∧ Fr0 w wr
def yearAt (w : World) (g i : Nat) : Nat := match w.cell? ⟨g, i, none⟩ with
  | some (.int _ y) => y.toNat
  | _ => 0
def DatePost (w : World) (t : Int) (e : Ending) (w' : World) : Prop :=
  ∃ y m d mi se : Int, e = .returned (.tuple #[.agg #[.int .i64 y, .int .i64 m, .int .i64 d, .int .i64 (t / 3600 % 24), .int .i64 mi, .int .i64 se], .int .i64 0]) ∧ 2000 ≤ y ∧ y ≤ 2099 ∧ 1 ≤ m ∧ m ≤ 12 ∧ begB y ≤ t / 86400 ∧ t / 86400 < begB (y + 1) ∧
    d + aheadF (leapB y) m = t / 86400 - begB y + 1 ∧ 1 ≤ d ∧ Fr0 w w'
set_option maxRecDepth 100000 in
set_option maxHeartbeats 1600000 in
theorem date_any {t : Int} (h0 : 0 ≤ t) (h1 : t ≤ 3155759999) (w : World) : Calls Try.prog 64 #[.int .i64 t] w (DatePost w t) := by
  have e1 : t.tdiv 86400 = t / 86400 := Int.tdiv_eq_ediv_of_nonneg h0
  have e2 : t.tmod 86400 = t % 86400 := Int.tmod_eq_emod_of_nonneg h0
  obtain ⟨n, hn⟩ : ∃ n, n = t / 86400 := ⟨_, rfl⟩
  obtain ⟨s, hs⟩ : ∃ s, s = t % 86400 := ⟨_, rfl⟩
  rw [← hn] at e1
  rw [← hs] at e2
  have hnb : 0 ≤ n ∧ n ≤ 36524 := by omega
  have hsb : 0 ≤ s ∧ s < 86400 := by omega
  have e3 : n.tdiv 365 = n / 365 := Int.tdiv_eq_ediv_of_nonneg hnb.1
  have e4 : s.tdiv 3600 = s / 3600 := Int.tdiv_eq_ediv_of_nonneg hsb.1
  have e5 : s.tdiv 60 = s / 60 := Int.tdiv_eq_ediv_of_nonneg hsb.1
  have e6 : (s / 60).tmod 60 = s / 60 % 60 := Int.tmod_eq_emod_of_nonneg (by omega)
  have e7 : s.tmod 60 = s % 60 := Int.tmod_eq_emod_of_nonneg hsb.1
  obtain ⟨h, hh⟩ : ∃ h, h = s / 3600 := ⟨_, rfl⟩
  obtain ⟨mi, hmi⟩ : ∃ mi, mi = s / 60 % 60 := ⟨_, rfl⟩
  obtain ⟨se, hse⟩ : ∃ se, se = s % 60 := ⟨_, rfl⟩
  obtain ⟨Y, hY⟩ : ∃ Y, Y = 2000 + n / 365 := ⟨_, rfl⟩
  have hYb : 2000 ≤ Y ∧ Y ≤ 2100 := by omega
  rw [← hh] at e4
  rw [← hmi] at e6
  rw [← hse] at e7
  have e8 : IntKind.i64.wrap (2000 + n / 365) = Y := by rw [hY]; exact IntWalk.i64_in _ (by omega)
  have hYn : n < begB (Y + 1) := by unfold begB; omega
  have hht : h = t / 3600 % 24 := by omega
  have hhb : 0 ≤ h ∧ h ≤ 23 := by omega
  have HH := Lib.hid (And.intro hht hn)
  have HYN := Lib.hid hYn
  clear hn hs hh hmi hse hY hYn hht
  go_enter Try.func64, Try.ntmps64
  go_wp2_with fail
  go_loopw [] (fun wr => BegW w n h mi se wr) (fun wr => yearAt wr (w.heap.size + 1) 0)
  case atStart =>
    refine ⟨Y, hYb.1, hYb.2, HYN.out, ?_, (Blk.new w _ _).alloc _, ((Fr.refl _ _).alloc _).alloc _⟩
    have := Blk.new (w.alloc (.cells #[.int .i64 0, .int .i64 0, .int .i64 0, .int .i64 0, .int .i64 0, .int .i64 0] 109)) 109 #[.int .i64 Y, .int .i64 12, .int .i64 0, .int .i64 h, .int .i64 mi, .int .i64 se]
    simpa only [World.size_alloc] using this
  case round =>
    obtain ⟨y, hy1, hy2, hyn, hb6, hb2, hfr⟩ := hrel
    have c0 := hb6.cell 0
    have f0 := hb6.frozen 0
    have HB := Lib.hid (And.intro hb6 hb2)
    have HYN := Lib.hid hyn
    have BG := Lib.hid (begins_any hy1 hy2 wr)
    obtain ⟨B, hB⟩ : ∃ B, B = begB y := ⟨_, rfl⟩
    rw [← hB] at BG
    have hBd := hB
    rw [begB] at hBd
    have HBE := Lib.hid hB
    have hBb : 0 ≤ B ∧ B ≤ 40000 := by omega
    clear hb6 hb2 hyn hB
    by_cases hgt : n < B
    · have hy3 : 2000 < y := by omega
      have hyw : IntKind.i64.wrap (y - 1) = y - 1 := IntWalk.i64_in _ (by omega)
      clear hBd
      go_wp2_with fail
      refine BG.out.mono ?_
      rintro e W ⟨rfl, rfl⟩
      go_wp2_with fail
      have hq := HB.out.1.set_ 0 (.int .i64 (y - 1))
      refine ⟨⟨y - 1, by omega, by omega, by rw [show y - 1 + 1 = y by omega, ← HBE.out]; exact hgt, hq, HB.out.2.far (p := ⟨w.heap.size + 1, 0, none⟩) (by simp) _, hfr.setCell (p := ⟨w.heap.size + 1, 0, none⟩) (.inl (by simp)) _⟩, ?_⟩
      rw [yearAt, yearAt, hq.cell 0, HB.out.1.cell 0]
      simp
      omega
    · have hnB : IntKind.i64.wrap (n - B) = n - B := IntWalk.i64_in _ (by omega)
      have HBD := Lib.hid hBd
      clear hBd
      go_wp2_with fail
      refine BG.out.mono ?_
      rintro e W ⟨rfl, rfl⟩
      go_wp2_with fail
      refine BG.out.mono ?_
      rintro e W ⟨rfl, rfl⟩
      go_wp2_with fail
      have hyl : y ≤ 2099 := by
        have := HBD.out
        omega
      have hrb : 0 ≤ n - B := by omega
      have hr2 : n - B ≤ 36524 := by omega
      go_loopw [] (fun wr => ∃ m : Int, 1 ≤ m ∧ m ≤ 12 ∧ Blk wr (w.heap.size + 1) 109 #[.int .i64 y, .int .i64 m, .int .i64 0, .int .i64 h, .int .i64 mi, .int .i64 se] ∧
        Blk wr w.heap.size 109 #[.int .i64 0, .int .i64 0, .int .i64 0, .int .i64 0, .int .i64 0, .int .i64 0] ∧ Fr0 w wr) (fun wr => yearAt wr (w.heap.size + 1) 1)
      case atStart => exact ⟨12, by omega, by omega, HB.out.1, HB.out.2, hfr⟩
      case round =>
        obtain ⟨m, hm1, hm2, hb6, hb2, hfr2⟩ := hrel
        have c0 := hb6.cell 0
        have c1 := hb6.cell 1
        have f1 := hb6.frozen 1
        have f2 := hb6.frozen 2
        have c2 := hb6.cell 2
        have HB2 := Lib.hid (And.intro hb6 hb2)
        have AH := Lib.hid (ahead_any (y := y) (m := m) (by omega) (by omega) hm1 hm2 wr)
        have hin := ahead_in (leapB y) hm1 (by omega)
        have ha1 := ahead_1 (leapB y)
        obtain ⟨a, ha⟩ : ∃ a, a = aheadF (leapB y) m := ⟨_, rfl⟩
        rw [← ha] at AH hin
        have HA := Lib.hid (And.intro ha ha1)
        clear hb6 hb2 ha ha1 HB
        by_cases hgt2 : n - B < a
        · have hm3 : m ≠ 1 := fun e => by
            have h3 := HA.out.1
            rw [e, HA.out.2] at h3
            omega
          have hmw : IntKind.i64.wrap (m - 1) = m - 1 := IntWalk.i64_in _ (by omega)
          go_wp2_with fail
          refine AH.out.mono ?_
          rintro e W ⟨rfl, rfl⟩
          go_wp2_with fail
          have hq := HB2.out.1.set_ 1 (.int .i64 (m - 1))
          refine ⟨⟨m - 1, by omega, by omega, hq, HB2.out.2.far (p := ⟨w.heap.size + 1, 1, none⟩) (by simp) _, hfr2.setCell (p := ⟨w.heap.size + 1, 1, none⟩) (.inl (by simp)) _⟩, ?_⟩
          rw [yearAt, yearAt, hq.cell 1, HB2.out.1.cell 1]
          simp
          omega
        · have hw1 : IntKind.i64.wrap (n - B - a) = n - B - a := IntWalk.i64_in _ (by omega)
          have hw2 : IntKind.i64.wrap (n - B - a + 1) = n - B - a + 1 := IntWalk.i64_in _ (by omega)
          go_wp2_with fail
          refine AH.out.mono ?_
          rintro e W ⟨rfl, rfl⟩
          go_wp2_with fail
          refine AH.out.mono ?_
          rintro e W ⟨rfl, rfl⟩
          have c3 := HB2.out.1.cell 3
          have c4 := HB2.out.1.cell 4
          have c5 := HB2.out.1.cell 5
          have d0 := HB2.out.2.cell 0
          have d1 := HB2.out.2.cell 1
          have d2 := HB2.out.2.cell 2
          have d3 := HB2.out.2.cell 3
          have d4 := HB2.out.2.cell 4
          have d5 := HB2.out.2.cell 5
          have g0 := HB2.out.2.frozen 0
          have g1 := HB2.out.2.frozen 1
          have g2 := HB2.out.2.frozen 2
          have g3 := HB2.out.2.frozen 3
          have g4 := HB2.out.2.frozen 4
          have g5 := HB2.out.2.frozen 5
          have P := Lib.hid (show ∀ W, Fr0 w W → DatePost w t (.returned (.tuple #[.agg #[.int .i64 y, .int .i64 m, .int .i64 (n - B - a + 1), .int .i64 h, .int .i64 mi, .int .i64 se], .int .i64 0])) W from fun W hf => by
            have h1 := HBE.out
            have h2 := HH.out
            have h3 := HA.out.1
            have h4 := HYN.out
            refine ⟨y, m, n - B - a + 1, mi, se, by rw [← h2.1], hy1, hyl, hm1, hm2, by omega, by omega, by omega, by omega, hf⟩)
          clear HH HBE HA HYN HBD
          go_wp2_with fail
          refine bodyPost_ret (v := .tuple #[.agg #[.int .i64 y, .int .i64 m, .int .i64 (n - B - a + 1), .int .i64 h, .int .i64 mi, .int .i64 se], .int .i64 0]) (by simp [results, Try.results64, go_sem, d0, d1, d2, d3, d4, d5, g0, g1, g2, g3, g4, g5]) rfl (P.out _ ?_)
          exact ((((((hfr2.setCell (.inl (by simp)) _).setCell (.inl (by simp)) _).setCell (.inl (by simp)) _).setCell (.inl (by simp)) _).setCell (.inl (by simp)) _).setCell (.inl (by simp)) _).setCell (.inl (by simp)) _
end Go.Proofs.Ytgeiimifhbiklaa
