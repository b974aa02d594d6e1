/- The clock's functions: written, Leap, ahead, begins: contracts, proved by walks. -/
import Derived.Test.YtgeiimifhbiklaaDig
namespace Go.Proofs.Ytgeiimifhbiklaa
open Go.RowKit

def leapB (y : Int) : Bool := (y % 4 == 0) && (y % 100 != 0) || (y % 400 == 0)
theorem leap_any {y : Int} (h1 : 0 ≤ y) (h2 : y ≤ 100000) (w : World) : Calls Try.prog 100 #[.int .i64 y] w fun e w' => e = .returned (.bool (leapB y)) ∧ w = w' := by
  have e4 : y.tmod 4 = y % 4 := Int.tmod_eq_emod_of_nonneg h1
  have e1 : y.tmod 100 = y % 100 := Int.tmod_eq_emod_of_nonneg h1
  have e0 : y.tmod 400 = y % 400 := Int.tmod_eq_emod_of_nonneg h1
  cases q4 : (y % 4 == 0) <;> cases q1 : (y % 100 != 0) <;> cases q0 : (y % 400 == 0)
  all_goals
    have HL := Lib.hid (show leapB y = _ by rw [leapB, q4, q1, q0])
    have q1' : (y % 100 == 0) = !(y % 100 != 0) := by simp [bne]
    rw [q1] at q1'
    go_enter Try.func100, Try.ntmps100
    go_wp2_with fail
    go_ret
    exact ⟨by rw [HL.out]; rfl, rfl⟩
/-- How many days of a year stand ahead of a month. -/
def aheadF (leap : Bool) (m : Int) : Int :=
  if m = 2 then 31 else (if leap = true then 1 else 0) + (if m = 3 then 59 else if m = 4 then 90 else if m = 5 then 120 else if m = 6 then 151 else if m = 7 then 181 else if m = 8 then 212 else if m = 9 then 243 else if m = 10 then 273 else if m = 11 then 304 else if m = 12 then 334 else if m = 13 then 365 else (if leap = true then -1 else 0))
theorem ahead_any {y m : Int} (h1 : 0 ≤ y) (h2 : y ≤ 100000) (hm : 1 ≤ m) (hm2 : m ≤ 12) (w : World) :
    Calls Try.prog 86 #[.int .i64 y, .int .i64 m] w fun e w' => e = .returned (.int .i64 (aheadF (leapB y) m)) ∧ w = w' := by
  have HL := Lib.hid (leap_any h1 h2 w)
  obtain ⟨b, hb⟩ : ∃ b, b = leapB y := ⟨_, rfl⟩
  rw [← hb] at HL ⊢
  clear hb
  rcases (show m = 1 ∨ m = 2 ∨ m = 3 ∨ m = 4 ∨ m = 5 ∨ m = 6 ∨ m = 7 ∨ m = 8 ∨ m = 9 ∨ m = 10 ∨ m = 11 ∨ m = 12 by omega) with rfl | rfl | rfl | rfl | rfl | rfl | rfl | rfl | rfl | rfl | rfl | rfl
  · go_enter Try.func86, Try.ntmps86
    go_wp2_with fail
    go_ret
    exact ⟨by cases b <;> rfl, rfl⟩
  · go_enter Try.func86, Try.ntmps86
    go_wp2_with fail
    go_ret
    exact ⟨rfl, rfl⟩
  all_goals
    go_enter Try.func86, Try.ntmps86
    go_wp2_with fail
    refine HL.out.mono ?_
    rintro e W ⟨rfl, rfl⟩
    cases b
    all_goals
      go_wp2_with fail
      go_ret
      exact ⟨rfl, rfl⟩
def begB (y : Int) : Int := 365 * (y - 2000) + (y - 2000 + 3) / 4
theorem begins_any {y : Int} (h1 : 2000 ≤ y) (h2 : y ≤ 2100) (w : World) : Calls Try.prog 87 #[.int .i64 y] w fun e w' => e = .returned (.int .i64 (begB y)) ∧ w = w' := by
  have e1 : IntKind.i64.wrap (y - 2000) = y - 2000 := IntWalk.i64_in _ (by omega)
  have e2 : IntKind.i64.wrap (365 * (y - 2000)) = 365 * (y - 2000) := IntWalk.i64_in _ (by omega)
  have e3 : IntKind.i64.wrap (y - 2000 + 3) = y - 2000 + 3 := IntWalk.i64_in _ (by omega)
  have e4 : (y - 2000 + 3).tdiv 4 = (y - 2000 + 3) / 4 := Int.tdiv_eq_ediv_of_nonneg (by omega)
  have e5 : IntKind.i64.wrap (365 * (y - 2000) + (y - 2000 + 3) / 4) = begB y := IntWalk.i64_in _ (by omega)
  go_enter Try.func87, Try.ntmps87
  go_wp2_with fail
  go_ret
  exact ⟨rfl, rfl⟩
def WrittenRel (w : World) (n wd : Nat) (i t : Value) (wr : World) : Prop :=
  ∃ k : Nat, k ≤ wd ∧ i = .int .i64 ((n / 10 ^ (wd - k) : Nat) : Int) ∧ t = .int .i64 ((k : Int) - 1) ∧ (∃ cs, Blk wr w.heap.size 5 cs ∧ cs.size = wd ∧ ∀ j, k ≤ j → j < wd → cs[j]? = some (.int .u8 ((48 + n / 10 ^ (wd - 1 - j) % 10 : Nat) : Int))) ∧ Fr0 w wr
theorem written_any {n wd : Nat} (h1 : 1 ≤ wd) (h2 : wd ≤ 18) (hm : n ≤ 9223372036854775807) (w : World) :
    Calls Try.prog 85 #[.int .i64 n, .int .i64 wd] w fun e w' => e = .returned (.string ⟨(digs wd n).toArray⟩) ∧ Fr0 w w' := by
  have hw1 : IntKind.i64.wrap ((wd : Int) - 1) = (wd : Int) - 1 := IntWalk.i64_in _ (by omega)
  obtain ⟨C, hC⟩ : ∃ C, C = Array.replicate ((wd : Int)).toNat (Value.int .u8 0) := ⟨_, rfl⟩
  obtain ⟨N, hN⟩ : ∃ N, N = ((wd : Int)).toNat := ⟨_, rfl⟩
  have HC := Lib.hid hC
  have HNN := Lib.hid hN
  have b0 : (0 : Int) ≤ wd ∧ (wd : Int) ≤ 17592186044416 := by omega
  clear hC hN
  go_enter Try.func85, Try.ntmps85
  go_wp2_with (at_make; refine wpList_make1 rfl _ _ rfl undYs infoY rfl b0.1 b0.2 (by omega) HNN.out HC.out rfl rfl ?_)
  go_loopw [0, 6] (fun i t wr => WrittenRel w n wd i t wr) (fun _ t _ => (intOf t + 1).toNat)
  case atStart =>
    refine ⟨wd, Nat.le_refl _, by simp, rfl, ⟨C, Blk.new w _ C, by rw [HC.out]; simp, fun j a b => absurd b (by omega)⟩, (Fr.refl _ _).alloc _⟩
  case round =>
    obtain ⟨k, hk, rfl, rfl, ⟨cs, hb, hsz, hcs⟩, hfr⟩ := hrel
    cases k with
    | zero =>
      have hcv := run_convert_bytes_back (P := Try.prog) wr 101 9 5 ⟨w.heap.size, 0, none⟩ N (digs wd n) undYs undY undStr (by
        intro j hj
        rw [digs_get wd n j hj, Addr.add_lit, Nat.zero_add]
        rw [length_digs] at hj
        exact (hb.cell j).trans (hcs j (Nat.zero_le _) hj))
      obtain ⟨D, hD⟩ : ∃ D, D = (digs wd n).toArray := ⟨_, rfl⟩
      rw [← hD, length_digs, show wd = N by rw [HNN.out]; simp] at hcv
      have HD := Lib.hid hD
      clear hD
      go_wp2_with fail
      exact bodyPost_ret (v := .string ⟨D⟩) (by simp [results, Try.results85, go_sem]) rfl ⟨by rw [HD.out], hfr⟩
    | succ j =>
      obtain ⟨q, hq⟩ : ∃ q, q = n / 10 ^ (wd - (j + 1)) := ⟨_, rfl⟩
      rw [← hq]
      have hqm : q ≤ n := by rw [hq]; exact Nat.div_le_self _ _
      have hjn : j < N := by rw [HNN.out]; omega
      have hd : ((q : Nat) : Int).tmod 10 = ((q % 10 : Nat) : Int) := rfl
      have hdv : ((q : Nat) : Int).tdiv 10 = ((q / 10 : Nat) : Int) := rfl
      have f1 := hb.frozen j
      obtain ⟨cj, hcj⟩ : ∃ cj, cs[j]? = some cj := ⟨_, Array.getElem?_eq_getElem (by omega)⟩
      have c1 := (hb.cell j).trans hcj
      have HQ := Lib.hid hq
      clear hq
      have hB := (hb.set_ j (.int .u8 ((48 + q % 10 : Nat) : Int)))
      have hF := hfr.setCell (p := ⟨w.heap.size, j, none⟩) (.inl (Nat.le_refl _)) (.int .u8 ((48 + q % 10 : Nat) : Int))
      have HH := Lib.hid (And.intro hB hF)
      clear hB hF
      go_wp2_with fail
      have hq10 : q / 10 = n / 10 ^ (wd - j) := by
        rw [HQ.out, Nat.div_div_eq_div_mul, ← Nat.pow_succ, show (wd - (j + 1)).succ = wd - j by omega]
      refine ⟨⟨j, by omega, by rw [← hq10]; rfl, rfl, ⟨_, HH.out.1, by simp [hsz], fun i h3 h4 => ?_⟩, HH.out.2⟩, by simp only [intOf]; omega⟩
      rw [Array.getElem?_setIfInBounds]
      by_cases e : j = i
      · subst e
        rw [if_pos rfl, if_pos (by omega), show wd - 1 - j = wd - (j + 1) by omega, ← HQ.out]
      · rw [if_neg e]
        exact hcs i (by omega) h4
end Go.Proofs.Ytgeiimifhbiklaa
