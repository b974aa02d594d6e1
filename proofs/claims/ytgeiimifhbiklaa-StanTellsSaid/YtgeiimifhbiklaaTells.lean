/- StanTells: its contract, proved by a walk. -/
import Derived.Test.YtgeiimifhbiklaaClk3
import Derived.Test.YtgeiimifhbiklaaSame
import Derived.Deep.RegionHeld3
namespace Go.Proofs.Ytgeiimifhbiklaa
open Go.RowKit

set_option maxRecDepth 100000 in
set_option maxHeartbeats 1600000 in
theorem two_any {s : ByteArray} {p q : Int} (hs : s.size = 12) (h4 : ((s[4]'(by omega)).toNat : Int) = 48 + p) (h5 : ((s[5]'(by omega)).toNat : Int) = 48 + q) (hp : 0 ≤ p ∧ p ≤ 9) (hq : 0 ≤ q ∧ q ≤ 9) (w : World) :
    Calls Try.prog 37 #[.string s, .int .i64 4] w fun e w' => e = .returned (.int .i64 (10 * p + q)) ∧ Fr0 w w' := by
  have w1 : IntKind.i64.wrap (48 + p) = 48 + p := IntWalk.i64_in _ (by omega)
  have w2 : IntKind.i64.wrap (48 + q) = 48 + q := IntWalk.i64_in _ (by omega)
  have w3 : IntKind.i64.wrap (48 + p - 48) = p := by rw [show 48 + p - 48 = p by omega]; exact IntWalk.i64_in _ (by omega)
  have w4 : IntKind.i64.wrap (10 * p) = 10 * p := IntWalk.i64_in _ (by omega)
  have w5 : IntKind.i64.wrap (10 * p + (48 + q)) = 10 * p + (48 + q) := IntWalk.i64_in _ (by omega)
  have w6 : IntKind.i64.wrap (10 * p + (48 + q) - 48) = 10 * p + q := by rw [show 10 * p + (48 + q) - 48 = 10 * p + q by omega]; exact IntWalk.i64_in _ (by omega)
  go_enter Try.func37, Try.ntmps37
  go_wp2_with fail
  go_quiet (fail)
  go_wp2_with fail
  exact bodyPost_ret (v := .int .i64 (10 * p + q)) (by simp [results, Try.results37, go_sem]) rfl ⟨rfl, (Fr.refl _ _).drewN nq⟩
def refL (y d h n : Nat) : List UInt8 := digs 1 y ++ digs 3 d ++ digs 2 h ++ digs 6 n
theorem refS_list (y d h n : Nat) : refS y d h n = ⟨(refL y d h n).toArray⟩ := by
  simp [refS, refL, julB, ByteArray.ext_iff, ByteArray.data_append]
theorem length_refL (y d h n : Nat) : (refL y d h n).length = 12 := by simp [refL, length_digs]
theorem refL_digit {y d h n : Nat} {x : UInt8} (hx : x ∈ refL y d h n) : 48 ≤ x.toNat ∧ x.toNat ≤ 57 := by
  have key : ∀ wd k, x ∈ digs wd k → 48 ≤ x.toNat ∧ x.toNat ≤ 57 := fun wd k h => by
    obtain ⟨j, hj, rfl⟩ := List.getElem_of_mem h
    rw [digs_get]
    omega
  simp only [refL, List.mem_append] at hx
  rcases hx with ((h | h) | h) | h
  all_goals exact key _ _ h
theorem ref_digit {t n : Int} {s : ByteArray} (h : RefOk t n s) (k : Nat) (hk : k < s.size) : 48 ≤ ((s[k]'hk).toNat : Int) ∧ ((s[k]'hk).toNat : Int) ≤ 57 := by
  obtain ⟨y, d, rfl, _⟩ := h
  have e := refS_list y d (t / 3600 % 24).toNat n.toNat
  have hl : k < (refL y d (t / 3600 % 24).toNat n.toNat).length := by
    rw [e] at hk
    exact hk
  have : (refS y d (t / 3600 % 24).toNat n.toNat)[k]'hk = (refL y d (t / 3600 % 24).toNat n.toNat)[k]'hl := by
    simp only [e]
    rfl
  rw [this]
  have := refL_digit (List.getElem_mem hl)
  omega
theorem Lib.extract_from_list (s : ByteArray) (k : Nat) : s.extract k s.size = ⟨(s.data.toList.drop k).toArray⟩ := by
  rw [ByteArray.ext_iff, ByteArray.data_extract]
  apply Array.ext'
  simp only [Array.toList_extract, List.extract_eq_take_drop]
  exact List.take_of_length_le (by simp)
theorem Lib.extract_to_list (s : ByteArray) (k : Nat) : s.extract 0 k = ⟨(s.data.toList.take k).toArray⟩ := by
  rw [ByteArray.ext_iff, ByteArray.data_extract]
  apply Array.ext'
  simp
theorem day_unique {y z : Nat} {N : Int} (h1 : begB y ≤ N) (h2 : N < begB (y + 1)) (h3 : begB z ≤ N) (h4 : N < begB (z + 1)) : y = z := by
  simp only [begB] at h1 h2 h3 h4
  omega
theorem digs3_inj {d e : Nat} (hd : d < 1000) (he : e < 1000) (h : digs 3 d = digs 3 e) : d = e := by
  have g : ∀ j, j < 3 → d / 10 ^ (3 - 1 - j) % 10 = e / 10 ^ (3 - 1 - j) % 10 := by
    intro j hj
    have a := digs_get 3 d j (by rw [length_digs]; exact hj)
    have b := digs_get 3 e j (by rw [length_digs]; exact hj)
    simp only [h] at a
    omega
  have g0 := g 0 (by omega)
  have g1 := g 1 (by omega)
  have g2 := g 2 (by omega)
  simp at g0 g1 g2
  omega
theorem refS_get (y d h n k : Nat) (hk : k < (refS y d h n).size) : (refS y d h n)[k]'hk = (refL y d h n)[k]'(by rw [refS_list] at hk; exact hk) := by
  simp only [refS_list]
  rfl
/-- What the first four signs, the hour's digits and the last six signs are. -/
structure Told (t n : Int) (s : ByteArray) (y d : Nat) : Prop where
  list : s.data.toList = digs 1 y ++ digs 3 d ++ digs 2 (t / 3600 % 24).toNat ++ digs 6 n.toNat
  size : s.size = 12
  low : begB y ≤ t / 86400
  high : t / 86400 < begB (y + 1)
  day : (d : Int) = t / 86400 - begB y + 1
  year : y ≤ 2099
  year0 : 2000 ≤ y
theorem RefOk.told {t n : Int} {s : ByteArray} (h : RefOk t n s) : ∃ y d, Told t n s y d := by
  obtain ⟨y, d, rfl, h1, h2, h3, h4, h5⟩ := h
  exact ⟨y, d, by rw [refS_list]; rfl, by rw [refS_list]; exact length_refL _ _ _ _, h3, h4, h5, h2, h1⟩
theorem Told.hour {t n : Int} {s : ByteArray} {y d : Nat} (H : Told t n s y d) (h0 : 0 ≤ t) : (s[4]'(by rw [H.size]; omega)).toNat = 48 + (t / 3600 % 24).toNat / 10 ∧ (s[5]'(by rw [H.size]; omega)).toNat = 48 + (t / 3600 % 24).toNat % 10 := by
  have key : ∀ k (hk : k < s.size), s[k]'hk = (digs 1 y ++ digs 3 d ++ digs 2 (t / 3600 % 24).toNat ++ digs 6 n.toNat)[k]'(by rw [← H.list]; exact hk) := fun k hk => by
    simp only [← H.list]
    rfl
  rw [key 4, key 5]
  simp only [List.getElem_append, List.length_append, length_digs]
  simp [digs_get]
  omega
theorem Told.six {t n : Int} {s : ByteArray} {y d : Nat} (H : Told t n s y d) : s.data.toList.drop 6 = digs 6 n.toNat := by
  rw [H.list, List.drop_append_of_le_length (by simp [length_digs]), List.drop_of_length_le (by simp [length_digs])]
  rfl
theorem Told.four {t n : Int} {s : ByteArray} {y d : Nat} (H : Told t n s y d) : s.data.toList.take 4 = digs 1 y ++ digs 3 d := by
  rw [H.list, List.append_assoc, List.take_append_of_le_length (by simp [length_digs]), List.take_of_length_le (by simp [length_digs])]
theorem told_four {t n : Int} {a b : ByteArray} {y d z e : Nat} (ht : 0 ≤ t) (HA : Told t n a y d) (HB : Told (t + 3600) n b z e) : a.data.toList.take 4 = b.data.toList.take 4 ↔ t / 3600 % 24 ≠ 23 := by
  rw [HA.four, HB.four]
  have h1 := HA.low
  have h2 := HA.high
  have h3 := HB.low
  have h4 := HB.high
  have h5 := HA.day
  have h6 := HB.day
  have hd : (t + 3600) / 86400 = if t / 3600 % 24 = 23 then t / 86400 + 1 else t / 86400 := by split <;> omega
  have hb : d ≤ 366 := by simp only [begB] at h1 h2 h5; omega
  have hb2 : e ≤ 366 := by simp only [begB] at h3 h4 h6; omega
  by_cases h : t / 3600 % 24 = 23
  · rw [if_pos h] at hd
    rw [hd] at h3 h4 h6
    refine ⟨fun hq => ?_, fun hq => absurd h hq⟩
    have hq2 := digs3_inj (by omega) (by omega) (List.append_inj_right hq (by simp [length_digs]))
    have hz : begB z = begB y + 1 := by omega
    clear h1 h2 h3 h4 h5 h6 hd h ht HA HB hb hb2
    simp only [begB] at hz
    rcases Nat.lt_or_ge y z with h | h
    · omega
    · omega
  · rw [if_neg h] at hd
    rw [hd] at h3 h4 h6
    have hy := day_unique h1 h2 h3 h4
    subst hy
    have : d = e := by omega
    subst this
    exact ⟨fun _ => h, fun _ => rfl⟩
set_option maxRecDepth 100000 in
set_option maxHeartbeats 1600000 in
theorem tells_any {mo nu : Int} (h1 : -9223372036854775808 ≤ mo ∧ mo ≤ 9223372036854775807) (h2 : -9223372036854775808 ≤ nu ∧ nu ≤ 9223372036854775807) (w : World) :
    Calls Try.prog 8 #[.int .i64 mo, .int .i64 nu] w fun e w' => e = .returned (.bool true) ∧ Fr0 w w' := by
  have hp := pickF_in (c := nu) (n := 999999) (by omega)
  have hq := pickF_in (c := mo) (n := 3155756400) (by omega)
  obtain ⟨t, ht⟩ : ∃ t, t = pickF mo 3155756400 := ⟨_, rfl⟩
  obtain ⟨n, hn⟩ : ∃ n, n = 1 + pickF nu 999999 := ⟨_, rfl⟩
  have hnb : 1 ≤ n ∧ n ≤ 999999 := by omega
  have hw1 : IntKind.i64.wrap (1 + pickF nu 999999) = n := by rw [hn]; exact IntWalk.i64_in _ (by omega)
  have hw2 : IntKind.i64.wrap (t + 3600) = t + 3600 := IntWalk.i64_in _ (by omega)
  rw [← ht] at hq
  have HT := Lib.hid ht
  have HF := Lib.hid (fun w => field18_any n w)
  rw [show fieldB n = (⟨(digs 6 n.toNat).toArray⟩, 0) by rw [fieldB, if_pos hnb]] at HF
  obtain ⟨S6, hS6⟩ : ∃ S : ByteArray, S = ⟨(digs 6 n.toNat).toArray⟩ := ⟨_, rfl⟩
  rw [← hS6] at HF
  have HS6 := Lib.hid hS6
  have h6s : S6.size = 6 := by rw [hS6, size_digs]
  have hqn := hq
  clear hp hn ht hS6
  go_enter Try.func8, Try.ntmps8
  go_wp2_with fail
  refine (known_any w).mono ?_
  rintro e W0 ⟨rfl, hf0⟩
  go_wp2_with fail
  refine (pick_any h2.1 h2.2 (by omega) (by omega) W0).mono ?_
  rintro e W ⟨rfl, rfl⟩
  go_wp2_with fail
  refine (pick_any h1.1 h1.2 (by omega) (by omega) W0).mono ?_
  rintro e W ⟨rfl, rfl⟩
  rw [← HT.out]
  go_wp2_with fail
  refine (HF.out W0).mono ?_
  rintro e W1 ⟨rfl, hf1⟩
  go_wp2_with fail
  refine (reference_any t n W1).mono ?_
  rintro e W2 ⟨hf2, hR2⟩
  obtain ⟨a, rfl, hA⟩ : ∃ s, e = .returned (.tuple #[.string s, .int .i64 0]) ∧ RefOk t n s := by
    rcases hR2 with ⟨h, _⟩ | ⟨_, h, _⟩ | ⟨_, _, h⟩
    · omega
    · omega
    · exact h
  have has : a.size = 12 := by
    obtain ⟨y, d, h, _⟩ := hA
    rw [h, refS, julB]
    simp only [ByteArray.size_append, size_digs]
  have HA := Lib.hid hA
  have hf02 := (hf0.trans hf1).trans hf2
  clear hA hR2 hf0 hf1 hf2
  go_wp2_with fail
  refine (reference_any (t + 3600) n W2).mono ?_
  rintro e W3 ⟨hf3, hR3⟩
  obtain ⟨b, rfl, hB⟩ : ∃ s, e = .returned (.tuple #[.string s, .int .i64 0]) ∧ RefOk (t + 3600) n s := by
    rcases hR3 with ⟨h, _⟩ | ⟨_, h, _⟩ | ⟨_, _, h⟩
    · omega
    · omega
    · exact h
  have hbs : b.size = 12 := by
    obtain ⟨y, d, h, _⟩ := hB
    rw [h, refS, julB]
    simp only [ByteArray.size_append, size_digs]
  have HB := Lib.hid hB
  have hf03 := hf02.trans hf3
  clear hB hR3 hf02 hf3
  go_wp2_with fail
  go_loop [14] (fun i => ∃ k : Nat, k ≤ 12 ∧ i = .int .i64 k) (fun i => 12 - (intOf i).toNat)
  case atStart => exact ⟨0, by omega, rfl⟩
  case round =>
    obtain ⟨k, hk, rfl⟩ := hrel
    by_cases hlt : k < 12
    · have hda := ref_digit HA.out k (by omega)
      have hdb := ref_digit HB.out k (by omega)
      have hwk : IntKind.i64.wrap ((k : Int) + 1) = (k : Int) + 1 := IntWalk.i64_in _ (by omega)
      have hda1 := hda.1
      have hda2 := hda.2
      have hdb1 := hdb.1
      have hdb2 := hdb.2
      clear hda hdb
      go_wp2_with fail
      exact ⟨⟨k + 1, by omega, by simp⟩, by simp only [intOf]; omega⟩
    · go_wp2_with fail
      go_loop [15, 16] (fun m i => ∃ k : Nat, k ≤ 6 ∧ i = .int .i64 k ∧ m = .int .i64 ((n.toNat / 10 ^ (6 - k) : Nat) : Int)) (fun _ i => 6 - (intOf i).toNat)
      case atStart => exact ⟨0, by omega, rfl, by rw [Nat.div_eq_of_lt (by omega)]; rfl⟩
      case round =>
        obtain ⟨j, hj, rfl, rfl⟩ := hrel
        by_cases hlt2 : j < 6
        · have hdg : ((S6[j]'(by omega)).toNat : Int) = 48 + ((n.toNat / 10 ^ (5 - j) % 10 : Nat) : Int) := by
            have h0 : (S6[j]'(by omega)) = (digs 6 n.toNat)[j]'(by rw [length_digs]; omega) := by
              simp only [HS6.out]
              rfl
            rw [h0, digs_get]
            simp
          have hst : n.toNat / 10 ^ (6 - j) * 10 + n.toNat / 10 ^ (5 - j) % 10 = n.toNat / 10 ^ (5 - j) := by
            rw [show 6 - j = (5 - j) + 1 by omega, Nat.pow_succ, ← Nat.div_div_eq_div_mul]
            omega
          have hle : n.toNat / 10 ^ (5 - j) ≤ n.toNat := Nat.div_le_self _ _
          obtain ⟨K, hK⟩ : ∃ K, K = n.toNat / 10 ^ (6 - j) := ⟨_, rfl⟩
          obtain ⟨M, hM⟩ : ∃ M, M = n.toNat / 10 ^ (5 - j) := ⟨_, rfl⟩
          rw [← hK] at hst ⊢
          rw [← hM] at hst hdg hle
          obtain ⟨g, hg⟩ : ∃ g, g = M % 10 := ⟨_, rfl⟩
          rw [← hg] at hst hdg
          have hgb : g ≤ 9 := by omega
          have HM := Lib.hid hM
          have w1 : IntKind.i64.wrap (10 * (K : Int)) = 10 * (K : Int) := IntWalk.i64_in _ (by omega)
          have w2 : IntKind.i64.wrap (48 + (g : Int)) = 48 + (g : Int) := IntWalk.i64_in _ (by omega)
          have w3 : IntKind.i64.wrap (10 * (K : Int) + (48 + (g : Int))) = 10 * (K : Int) + (48 + (g : Int)) := IntWalk.i64_in _ (by omega)
          have w4 : IntKind.i64.wrap (10 * (K : Int) + (48 + (g : Int)) - 48) = (M : Int) := by rw [show 10 * (K : Int) + (48 + (g : Int)) - 48 = (M : Int) by omega]; exact IntWalk.i64_in _ (by omega)
          have w5 : IntKind.i64.wrap ((j : Int) + 1) = (j : Int) + 1 := IntWalk.i64_in _ (by omega)
          clear hK hM hg hst
          go_wp2_with fail
          exact ⟨⟨j + 1, by omega, by simp, by rw [HM.out, show 6 - (j + 1) = 5 - j by omega]⟩, by simp only [intOf]; omega⟩
        · have hn6 : ((n.toNat / 10 ^ (6 - j) : Nat) : Int) = n := by
            rw [show 6 - j = 0 by omega, Nat.pow_zero, Nat.div_one]
            omega
          rw [hn6]
          clear hn6
          go_wp2_with fail
          obtain ⟨ya, da, TA⟩ := HA.out.told
          obtain ⟨yb, db, TB⟩ := HB.out.told
          have ga := TA.hour (by omega)
          have gb := TB.hour (by omega)
          have g4 := told_four (by omega) TA TB
          have g6 := TA.six
          have g7 := TB.six
          obtain ⟨T, hT⟩ : ∃ T, T = t / 3600 := ⟨_, rfl⟩
          have hT2 : (t + 3600) / 3600 = T + 1 := by omega
          rw [hT2] at gb
          rw [← hT] at ga g4
          have hTb : 0 ≤ T ∧ T ≤ 1000000 := by omega
          obtain ⟨H, hH⟩ : ∃ H, H = T % 24 := ⟨_, rfl⟩
          have hHb : 0 ≤ H ∧ H < 24 := by omega
          have hH1 : (T + 1) % 24 = (H + 1) % 24 := by omega
          obtain ⟨H1, hH1e⟩ : ∃ H1, H1 = (H + 1) % 24 := ⟨_, rfl⟩
          have hH1b : 0 ≤ H1 ∧ H1 < 24 := by omega
          rw [hH1, ← hH1e] at gb
          rw [← hH] at ga g4
          have CA : ∀ w, Calls Try.prog 37 #[.string a, .int .i64 4] w fun e w' => e = .returned (.int .i64 H) ∧ Fr0 w w' := fun w => by
            have := two_any (s := a) (p := H / 10) (q := H % 10) has (by rw [ga.1]; omega) (by rw [ga.2]; omega) (by omega) (by omega) w
            rw [show 10 * (H / 10) + H % 10 = H by omega] at this
            exact this
          have CB : ∀ w, Calls Try.prog 37 #[.string b, .int .i64 4] w fun e w' => e = .returned (.int .i64 H1) ∧ Fr0 w w' := fun w => by
            have := two_any (s := b) (p := H1 / 10) (q := H1 % 10) hbs (by rw [gb.1]; omega) (by rw [gb.2]; omega) (by omega) (by omega) w
            rw [show 10 * (H1 / 10) + H1 % 10 = H1 by omega] at this
            exact this
          have CAh := Lib.hid CA
          have CBh := Lib.hid CB
          have t1 : t.tdiv 3600 = T := by rw [hT]; exact Int.tdiv_eq_ediv_of_nonneg (by omega)
          have t2 : T.tmod 24 = H := by rw [hH]; exact Int.tmod_eq_emod_of_nonneg (by omega)
          have t3 : (H + 1).tmod 24 = H1 := by rw [hH1e]; exact Int.tmod_eq_emod_of_nonneg (by omega)
          have t4 : IntKind.i64.wrap T = T := IntWalk.i64_in _ (by omega)
          have t5 : IntKind.i64.wrap (H + 1) = H + 1 := IntWalk.i64_in _ (by omega)
          have x6 : a.extract 6 a.size = S6 := by rw [HS6.out, Lib.extract_from_list, g6]
          have y6 : b.extract 6 b.size = S6 := by rw [HS6.out, Lib.extract_from_list, g7]
          rw [has] at x6
          rw [hbs] at y6
          obtain ⟨X, hX⟩ : ∃ X, a.extract 0 4 = X := ⟨_, rfl⟩
          obtain ⟨Y, hY⟩ : ∃ Y, b.extract 0 4 = Y := ⟨_, rfl⟩
          have hXY : X = Y ↔ H ≠ 23 := by
            rw [← g4, ← hX, ← hY, Lib.extract_to_list, Lib.extract_to_list]
            constructor
            · intro h
              have := congrArg (fun z => z.data.toList) h
              simpa using this
            · intro h
              rw [h]
          clear CA CB ga gb g4 g6 g7 hT hT2 hH hH1 hH1e TA TB
          refine (CAh.out W3).mono ?_
          rintro e W4 ⟨rfl, hf4⟩
          have hf04 := (hf03.trans hf4).drew
          clear hf4 hf03
          by_cases h23 : H = 23
          · have hne : X ≠ Y := fun h => absurd h23 (hXY.1 h)
            clear hXY
            subst h23
            have h10 : H1 = 0 := by rw [← t3]; rfl
            subst h10
            have w24 : IntKind.i64.wrap 24 = 24 := rfl
            have hneL : (X.toList == Y.toList) = false := by
              rw [baToList, baToList]
              exact beq_false_of_ne fun h => hne (ByteArray.ext_iff.2 (Array.ext' h))
            go_wp2_with fail
            go_region_held3 (fun _ => True) (trivial) (first | (go_at_call 37; refine (CBh.out _).mono ?_; rintro e w2 ⟨rfl, hf2⟩; have hf04 := hf04.trans hf2))
            all_goals
              go_wp2_with fail
              exact bodyPost_ret (v := .bool true) (by simp [results, Try.results8, go_sem]) rfl ⟨rfl, hf04⟩
          · have hne : X = Y := hXY.2 h23
            clear hXY
            subst hne
            have h23b : (H == 23) = false := beq_false_of_ne h23
            go_wp2_with fail
            go_region_held3 (fun _ => True) (trivial) (first | (go_at_call 37; refine (CBh.out _).mono ?_; rintro e w2 ⟨rfl, hf2⟩; have hf04 := hf04.trans hf2))
            all_goals
              go_wp2_with fail
              exact bodyPost_ret (v := .bool true) (by simp [results, Try.results8, go_sem]) rfl ⟨rfl, hf04⟩
end Go.Proofs.Ytgeiimifhbiklaa
