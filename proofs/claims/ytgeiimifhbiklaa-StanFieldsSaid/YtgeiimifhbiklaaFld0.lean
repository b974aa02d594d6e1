/- The document's two, three, digits, Field: contracts, proved by walks. -/
import Derived.Test.YtgeiimifhbiklaaDig
import Derived.Deep.RegionLaw
namespace Go.Proofs.Ytgeiimifhbiklaa
open Go.RowKit

theorem digs_two (n : Nat) : digs 2 n = [UInt8.ofNat (48 + n / 10 % 10), UInt8.ofNat (48 + n % 10)] := by
  simp [digs, List.range_succ]
theorem digs_succ (k n : Nat) : digs (k + 1) n = UInt8.ofNat (48 + n / 10 ^ k % 10) :: digs k n := by
  simp only [digs, List.range_succ_eq_map, List.map_cons, List.map_map]
  refine congr (congrArg _ (by simp)) (List.map_congr_left fun j hj => ?_)
  simp only [Function.comp]
  rw [show k + 1 - 1 - Nat.succ j = k - 1 - j by omega]
theorem toNat_dig {a : Nat} (h : a < 10) : ((UInt8.ofNat (48 + a)).toNat : Int) = 48 + (a : Int) := by
  rw [UInt8.toNat_ofNat_of_lt' (by simp [UInt8.size]; omega)]
  omega
theorem conv_cell {a : Nat} (h : a < 10) {W : World} {g : Nat} (hc : W.cell? ⟨g, 0, none⟩ = some (.int .u8 (48 + (a : Int)))) :
    (convert 101 9 (.slice (some ⟨g, 0, none⟩) 1 1)).run Try.prog W = .ok (.string ⟨#[UInt8.ofNat (48 + a)]⟩) W :=
  run_convert_bytes_back (P := Try.prog) W 101 9 5 ⟨g, 0, none⟩ 1 [UInt8.ofNat (48 + a)] undYs undY undStr (by
    intro j hj
    have hj0 : j = 0 := by simpa using hj
    subst hj0
    refine hc.trans ?_
    simp
    omega)
theorem conv_one {a : Nat} (h : a < 10) (w W1 : World) (hW : w.alloc (.cells #[.int .u8 (48 + (a : Int))] 5) = W1) :
    (convert 101 9 (.slice (some ⟨w.heap.size, 0, none⟩) 1 1)).run Try.prog W1 = .ok (.string ⟨#[UInt8.ofNat (48 + a)]⟩) W1 := by
  have hb : Blk W1 w.heap.size 5 #[.int .u8 (48 + (a : Int))] := by rw [← hW]; exact Blk.new _ _ _
  exact run_convert_bytes_back (P := Try.prog) W1 101 9 5 ⟨w.heap.size, 0, none⟩ 1 [UInt8.ofNat (48 + a)] undYs undY undStr (by
    intro j hj
    have hj0 : j = 0 := by simpa using hj
    subst hj0
    refine (hb.cell 0).trans ?_
    simp
    omega)
theorem conv_two {a b : Nat} (h : a < 10) (h2 : b < 10) (w W1 : World) (hW : w.alloc (.cells #[.int .u8 (48 + (a : Int)), .int .u8 (48 + (b : Int))] 5) = W1) :
    (convert 101 9 (.slice (some ⟨w.heap.size, 0, none⟩) 2 2)).run Try.prog W1 = .ok (.string ⟨#[UInt8.ofNat (48 + a), UInt8.ofNat (48 + b)]⟩) W1 := by
  have hb : Blk W1 w.heap.size 5 #[.int .u8 (48 + (a : Int)), .int .u8 (48 + (b : Int))] := by rw [← hW]; exact Blk.new _ _ _
  exact run_convert_bytes_back (P := Try.prog) W1 101 9 5 ⟨w.heap.size, 0, none⟩ 2 [UInt8.ofNat (48 + a), UInt8.ofNat (48 + b)] undYs undY undStr (by
    intro j hj
    rcases (show j = 0 ∨ j = 1 by simp at hj; omega) with rfl | rfl
    · refine (hb.cell 0).trans ?_
      simp
      omega
    · refine (hb.cell 1).trans ?_
      simp
      omega)
theorem wrap_dig {d : Nat} (h : d < 10) : IntKind.u8.wrap (48 + (d : Int)) = 48 + (d : Int) := IntWalk.u8_in _ (by omega)
theorem wrap_digi {d : Nat} (h : d < 10) : IntKind.i64.wrap (48 + (d : Int)) = 48 + (d : Int) := IntWalk.i64_in _ (by omega)
set_option maxRecDepth 100000 in
theorem two8_any {n : Nat} (hn : n ≤ 100000) (w : World) : Calls Try.prog 102 #[.int .i64 n] w fun e w' => e = .returned (.string ⟨(digs 2 n).toArray⟩) ∧ Fr0 w w' := by
  obtain ⟨q, hq⟩ : ∃ q : Int, q = ((n / 10 : Nat) : Int) := ⟨_, rfl⟩
  have e1 : (n : Int).tdiv 10 = q := hq ▸ rfl
  have e2 : q.tmod 10 = ((n / 10 % 10 : Nat) : Int) := hq ▸ rfl
  have w0 : IntKind.i64.wrap q = q := IntWalk.i64_in _ (by omega)
  have e3 : (n : Int).tmod 10 = ((n % 10 : Nat) : Int) := rfl
  obtain ⟨a, ha⟩ : ∃ a, a = n / 10 % 10 := ⟨_, rfl⟩
  obtain ⟨b, hb⟩ : ∃ b, b = n % 10 := ⟨_, rfl⟩
  obtain ⟨W1, hW1⟩ : ∃ W1, w.alloc (.cells #[.int .u8 (48 + (a : Int)), .int .u8 (48 + (b : Int))] 5) = W1 := ⟨_, rfl⟩
  have hcv := conv_two (show a < 10 by omega) (show b < 10 by omega) w W1 hW1
  have w1 := wrap_dig (show a < 10 by omega)
  have w2 := wrap_dig (show b < 10 by omega)
  have w3 := wrap_digi (show a < 10 by omega)
  have w4 := wrap_digi (show b < 10 by omega)
  rw [show digs 2 n = [UInt8.ofNat (48 + a), UInt8.ofNat (48 + b)] by rw [digs_two, ha, hb]]
  have hfr : Fr0 w W1 := by rw [← hW1]; exact (Fr.refl _ _).alloc _
  obtain ⟨S, hS⟩ : ∃ S : ByteArray, ⟨#[UInt8.ofNat (48 + a), UInt8.ofNat (48 + b)]⟩ = S := ⟨_, rfl⟩
  rw [hS] at hcv
  rw [show (⟨[UInt8.ofNat (48 + a), UInt8.ofNat (48 + b)].toArray⟩ : ByteArray) = S from hS]
  rw [← ha] at e2
  rw [← hb] at e3
  clear ha hb hS hq
  go_enter Try.func102, Try.ntmps102
  go_wp2_with fail
  exact bodyPost_ret (v := .string S) (by simp [results, Try.results102, go_sem]) rfl ⟨rfl, hfr⟩
theorem digs_three (n : Nat) : digs 3 n = UInt8.ofNat (48 + n / 100 % 10) :: digs 2 n := digs_succ 2 n
set_option maxRecDepth 100000 in
theorem three8_any {n : Nat} (hn : n ≤ 100000) (w : World) : Calls Try.prog 90 #[.int .i64 n] w fun e w' => e = .returned (.string ⟨(digs 3 n).toArray⟩) ∧ Fr0 w w' := by
  obtain ⟨q, hq⟩ : ∃ q : Int, q = ((n / 100 : Nat) : Int) := ⟨_, rfl⟩
  have e1 : (n : Int).tdiv 100 = q := hq ▸ rfl
  have e2 : q.tmod 10 = ((n / 100 % 10 : Nat) : Int) := hq ▸ rfl
  have w0 : IntKind.i64.wrap q = q := IntWalk.i64_in _ (by omega)
  obtain ⟨a, ha⟩ : ∃ a, a = n / 100 % 10 := ⟨_, rfl⟩
  have hcv : ∀ w : World, (convert 101 9 (.slice (some ⟨w.heap.size, 0, none⟩) 1 1)).run Try.prog (w.alloc (.cells #[.int .u8 (48 + (a : Int))] 5)).drew = .ok (.string ⟨#[UInt8.ofNat (48 + a)]⟩) (w.alloc (.cells #[.int .u8 (48 + (a : Int))] 5)).drew := fun w => conv_one (show a < 10 by omega) w.drew _ rfl
  have hcv0 : ∀ w : World, (convert 101 9 (.slice (some ⟨w.heap.size, 0, none⟩) 1 1)).run Try.prog (w.alloc (.cells #[.int .u8 (48 + (a : Int))] 5)) = .ok (.string ⟨#[UInt8.ofNat (48 + a)]⟩) (w.alloc (.cells #[.int .u8 (48 + (a : Int))] 5)) := fun w => conv_one (show a < 10 by omega) w _ rfl
  have HQ := Lib.hid (show ∀ w2, Fr0 (w.alloc (.cells #[.int .u8 (48 + (a : Int))] 5)).drew w2 → (convert 101 9 (.slice (some ⟨w.heap.size, 0, none⟩) 1 1)).run Try.prog w2 = .ok (.string ⟨#[UInt8.ofNat (48 + a)]⟩) w2 from fun w2 hf => conv_cell (show a < 10 by omega) (hf.cell0 ((Blk.new w _ _).cell 0)))
  have w1 := wrap_dig (show a < 10 by omega)
  have w3 := wrap_digi (show a < 10 by omega)
  have T2 := Lib.hid (fun w => two8_any hn w)
  obtain ⟨S2, hS2⟩ : ∃ S : ByteArray, S = ⟨(digs 2 n).toArray⟩ := ⟨_, rfl⟩
  obtain ⟨S1, hS1⟩ : ∃ S : ByteArray, S = ⟨#[UInt8.ofNat (48 + a)]⟩ := ⟨_, rfl⟩
  obtain ⟨S, hS⟩ : ∃ S : ByteArray, S1 ++ S2 = S := ⟨_, rfl⟩
  rw [← hS2] at T2
  rw [← hS1] at hcv hcv0 HQ
  have HS := Lib.hid (show (⟨(digs 3 n).toArray⟩ : ByteArray) = S by rw [← hS, hS1, hS2, ByteArray.ext_iff, ByteArray.data_append, digs_three, ← ha]; simp)
  have hcat : ¬ (9223372036854775807 < S1.size + S2.size) := by
    have a1 : S1.size = 1 := by rw [hS1]; rfl
    have a2 : S2.size = 2 := by rw [hS2]; show (digs 2 n).toArray.size = 2; simp [length_digs]
    omega
  rw [HS.out]
  rw [← ha] at e2
  clear ha hS1 hS2 hq
  go_enter Try.func90, Try.ntmps90
  go_wp2_with fail
  go_region_law (first | (go_simp; go_at_call 102; refine (T2.out _).mono ?_; rintro e w2 ⟨rfl, hf2⟩; first | (have hcw := HQ.out _ hf2; have hT := (((Fr.refl (fun _ => False) w).alloc _).drew).trans hf2) | have hT := ((Fr.refl (fun _ => False) w).drew).trans hf2))
  all_goals
    go_wp2_with fail
    exact bodyPost_ret (v := .string S) (by simp [results, Try.results90, go_sem]) rfl ⟨rfl, by first | exact hT | exact hT.alloc _⟩
theorem size_digsA (k n : Nat) : (⟨(digs k n).toArray⟩ : ByteArray).size = k := by
  show (digs k n).toArray.size = k
  simp [length_digs]
set_option maxRecDepth 100000 in
set_option maxHeartbeats 1600000 in
theorem digits18_any {n many : Nat} (hn : n ≤ 9000000000000000000) (hm : many ≤ 1000) (w : World) :
    Calls Try.prog 62 #[.int .i64 n, .int .i64 many] w fun e w' => e = .returned (.string ⟨(digs many n).toArray⟩) ∧ Fr0 w w' := by
  go_enter Try.func62, Try.ntmps62
  go_wp2_with fail
  go_loopw [0, 5, 6] (fun a s i wr => ∃ k : Nat, k ≤ many ∧ a = .int .i64 ((n / 10 ^ k : Nat) : Int) ∧ s = .string ⟨(digs k n).toArray⟩ ∧ i = .int .i64 k ∧ Fr0 w wr) (fun _ _ i _ => many - (intOf i).toNat)
  case atStart => exact ⟨0, by omega, by simp, rfl, rfl, Fr.refl _ _⟩
  case round =>
    obtain ⟨k, hk, rfl, rfl, rfl, hfr⟩ := hrel
    by_cases hlt : k < many
    · have hql : n / 10 ^ k ≤ n := Nat.div_le_self _ _
      have hds := digs_succ k n
      have hsz := size_digsA k n
      have hdd : n / 10 ^ (k + 1) = n / 10 ^ k / 10 := by rw [Nat.pow_succ, Nat.div_div_eq_div_mul]
      obtain ⟨S0, hS0⟩ : ∃ S : ByteArray, S = ⟨(digs k n).toArray⟩ := ⟨_, rfl⟩
      obtain ⟨S1, hS1⟩ : ∃ S : ByteArray, S = ⟨(digs (k + 1) n).toArray⟩ := ⟨_, rfl⟩
      have HS1 := Lib.hid hS1
      obtain ⟨q, hq⟩ : ∃ q, q = n / 10 ^ k := ⟨_, rfl⟩
      rw [← hq] at hql hds hdd ⊢
      rw [← hS0] at hsz ⊢
      obtain ⟨d, hd⟩ : ∃ d, d = q % 10 := ⟨_, rfl⟩
      rw [← hd] at hds
      have hcat : (⟨#[UInt8.ofNat (48 + d)]⟩ : ByteArray) ++ S0 = S1 := by
        rw [hS0, hS1, hds, ByteArray.ext_iff, ByteArray.data_append]
        simp
      obtain ⟨D, hD⟩ : ∃ D : ByteArray, D = ⟨#[UInt8.ofNat (48 + d)]⟩ := ⟨_, rfl⟩
      have hD1 : D.size = 1 := by rw [hD]; rfl
      rw [← hD] at hcat
      have hover : ¬ (9223372036854775807 < D.size + S0.size) := by omega
      obtain ⟨W1, hW1⟩ : ∃ W1, wr.alloc (.cells #[.int .u8 (48 + (d : Int))] 5) = W1 := ⟨_, rfl⟩
      have hcv := conv_one (show d < 10 by omega) wr W1 hW1
      rw [← hD] at hcv
      have hf1 : Fr0 w W1 := by rw [← hW1]; exact hfr.alloc _
      have w1 := wrap_dig (show d < 10 by omega)
      have w2 := wrap_digi (show d < 10 by omega)
      obtain ⟨p, hp⟩ : ∃ p : Int, p = ((q / 10 : Nat) : Int) := ⟨_, rfl⟩
      have e1 : (q : Int).tmod 10 = (d : Int) := by rw [hd]; rfl
      have e2 : (q : Int).tdiv 10 = p := hp ▸ rfl
      have w3 : IntKind.i64.wrap p = p := IntWalk.i64_in _ (by omega)
      have w4 : IntKind.i64.wrap ((k : Int) + 1) = (k : Int) + 1 := IntWalk.i64_in _ (by omega)
      have HDD := Lib.hid (show p = ((n / 10 ^ (k + 1) : Nat) : Int) by rw [hp, hdd])
      clear hS0 hS1 hq hd hD hp hds hdd hsz hD1
      go_wp2_with fail
      exact ⟨⟨k + 1, by omega, by rw [HDD.out], by rw [HS1.out], by simp, hf1⟩, by simp only [intOf]; omega⟩
    · have hkm : k = many := by omega
      subst hkm
      obtain ⟨S0, hS0⟩ : ∃ S : ByteArray, (⟨(digs k n).toArray⟩ : ByteArray) = S := ⟨_, rfl⟩
      rw [hS0]
      have HS := Lib.hid hS0
      clear hS0
      go_wp2_with fail
      exact bodyPost_ret (v := .string S0) (by simp [results, Try.results62, go_sem]) rfl ⟨by rw [HS.out], hfr⟩
theorem field18r_any (n : Int) (w : World) : Calls Try.prog 34 #[.int .i64 n] w fun e w' => e = .returned (.tuple #[.string (fieldB n).1, .int .i64 (fieldB n).2]) ∧ Fr0 w w' := by
  by_cases h : 1 ≤ n ∧ n ≤ 999999
  · have hF : fieldB n = (⟨(digs 6 n.toNat).toArray⟩, 0) := by rw [fieldB, if_pos h]
    obtain ⟨N, hN⟩ : ∃ N : Nat, n = (N : Int) := ⟨n.toNat, by omega⟩
    subst hN
    rw [hF, show ((N : Int)).toNat = N from rfl]
    have HD := Lib.hid (fun w => digits18_any (n := N) (many := 6) (by omega) (by omega) w)
    obtain ⟨S6, hS6⟩ : ∃ S : ByteArray, (⟨(digs 6 N).toArray⟩ : ByteArray) = S := ⟨_, rfl⟩
    rw [hS6] at HD ⊢
    clear hF hS6
    go_enter Try.func34, Try.ntmps34
    go_wp2_with fail
    refine (HD.out w).mono ?_
    rintro e W ⟨rfl, hf⟩
    go_wp2_with fail
    exact bodyPost_ret (v := .tuple #[.string S6, .int .i64 0]) (by simp [results, Try.results34, go_sem]) rfl ⟨rfl, hf⟩
  · have hF : fieldB n = (⟨#[]⟩, 1) := by rw [fieldB, if_neg h]
    rw [hF]
    clear hF
    rcases (show n < 1 ∨ (¬ n < 1 ∧ 999999 < n) by omega) with h2 | ⟨h2, h3⟩
    all_goals
      clear h
      go_enter Try.func34, Try.ntmps34
      go_wp2_with fail
      exact bodyPost_ret (v := .tuple #[.string ⟨#[]⟩, .int .i64 1]) (by simp [results, Try.results34, go_sem]) rfl ⟨rfl, Fr.refl _ _⟩
end Go.Proofs.Ytgeiimifhbiklaa
