/- digits.Write: its contract, proved by a walk. -/
import Derived.Test.YtgeiimifhbiklaaOne
import Derived.Deep.QuietTactic
import Derived.BigQuiet
import Derived.WalkSpells
import Derived.IntWalk
namespace Go.Proofs.Ytgeiimifhbiklaa
open Go.RowKit

theorem infoY : (Try.prog.info? 5).map (fun i => (i.zero, i.size, i.bytes)) = some (some (.int .u8 0), 1, 1) := by kernel_rfl
theorem undYs : Try.prog.underlying 101 = some (.slice 5) := by kernel_rfl
theorem undY : Try.prog.underlying 5 = some (.int .u8) := by kernel_rfl
theorem undStr : Try.prog.underlying 9 = some .string := by kernel_rfl
/-- A number in so many digits. -/
def digs (wd n : Nat) : List UInt8 := (List.range wd).map fun j => UInt8.ofNat (48 + n / 10 ^ (wd - 1 - j) % 10)
theorem length_digs (wd n : Nat) : (digs wd n).length = wd := by simp [digs]
theorem digs_get (wd n j : Nat) (h : j < (digs wd n).length) : ((digs wd n)[j]).toNat = 48 + n / 10 ^ (wd - 1 - j) % 10 := by
  simp only [digs, List.getElem_map, List.getElem_range]
  rw [UInt8.toNat_ofNat']
  omega
def WriteRel (w : World) (n wd : Nat) (i t : Value) (wr : World) : Prop :=
  ∃ k : Nat, k ≤ wd ∧ i = .int .i64 ((n / 10 ^ (wd - k) : Nat) : Int) ∧ t = .int .i64 ((k : Int) - 1) ∧ (∃ cs, Blk wr w.heap.size 5 cs ∧ cs.size = wd ∧ ∀ j, k ≤ j → j < wd → cs[j]? = some (.int .u8 ((48 + n / 10 ^ (wd - 1 - j) % 10 : Nat) : Int))) ∧ Fr0 w wr
theorem write_any {n wd : Nat} (h1 : 1 ≤ wd) (h2 : wd ≤ 18) (hn : n < 10 ^ wd) (hm : n ≤ 9223372036854775807) (w : World) :
    Calls Try.prog 61 #[.int .i64 n, .int .i64 wd] w fun e w' => e = .returned (.tuple #[.string ⟨(digs wd n).toArray⟩, .int .i64 0]) ∧ Fr0 w w' := by
  have HN := Lib.hid hn
  have hw1 : IntKind.i64.wrap ((wd : Int) - 1) = (wd : Int) - 1 := IntWalk.i64_in _ (by omega)
  obtain ⟨C, hC⟩ : ∃ C, C = Array.replicate ((wd : Int)).toNat (Value.int .u8 0) := ⟨_, rfl⟩
  obtain ⟨N, hN⟩ : ∃ N, N = ((wd : Int)).toNat := ⟨_, rfl⟩
  have HC := Lib.hid hC
  have HNN := Lib.hid hN
  have b0 : (0 : Int) ≤ wd ∧ (wd : Int) ≤ 17592186044416 := by omega
  clear hn hC hN
  go_enter Try.func61, Try.ntmps61
  go_wp2_with (at_make; refine wpList_make1 rfl _ _ rfl undYs infoY rfl b0.1 b0.2 (by omega) HNN.out HC.out rfl rfl ?_)
  go_loopw [0, 7] (fun i t wr => WriteRel w n wd i t wr) (fun _ t _ => (intOf t + 1).toNat)
  case atStart =>
    refine ⟨wd, Nat.le_refl _, by simp, rfl, ⟨C, Blk.new w _ C, by rw [HC.out]; simp, fun j a b => absurd b (by omega)⟩, (Fr.refl _ _).alloc _⟩
  case round =>
    obtain ⟨k, hk, rfl, rfl, ⟨cs, hb, hsz, hcs⟩, hfr⟩ := hrel
    cases k with
    | zero =>
      have hq0 : n / 10 ^ (wd - 0) = 0 := by rw [Nat.sub_zero]; exact Nat.div_eq_of_lt HN.out
      rw [hq0]
      have hcv := run_convert_bytes_back (P := Try.prog) wr 101 9 5 ⟨w.heap.size, 0, none⟩ N (digs wd n) undYs undY undStr (by
        intro j hj
        rw [digs_get wd n j hj, Addr.add_lit, Nat.zero_add]
        rw [length_digs] at hj
        exact (hb.cell j).trans (hcs j (Nat.zero_le _) hj))
      obtain ⟨D, hD⟩ : ∃ D, D = (digs wd n).toArray := ⟨_, rfl⟩
      rw [← hD, length_digs, show wd = N by rw [HNN.out]; simp] at hcv
      have HD := Lib.hid hD
      clear hq0 hD
      go_wp2_with fail
      exact bodyPost_ret (v := .tuple #[.string ⟨D⟩, .int .i64 0]) (by simp [results, Try.results61, go_sem]) rfl ⟨by rw [HD.out], hfr⟩
    | succ j =>
      obtain ⟨q, hq⟩ : ∃ q, q = n / 10 ^ (wd - (j + 1)) := ⟨_, rfl⟩
      rw [← hq]
      have hqm : q ≤ n := by rw [hq]; exact Nat.div_le_self _ _
      have hjn : j < N := by rw [HNN.out]; omega
      have hd : ((q : Nat) : Int).tmod 10 = ((q % 10 : Nat) : Int) := rfl
      have hdv : ((q : Nat) : Int).tdiv 10 = ((q / 10 : Nat) : Int) := rfl
      have f1 := hb.frozen j
      obtain ⟨cj, hcj⟩ : ∃ cj, cs[j]? = some cj := ⟨_, Array.getElem?_eq_getElem (by omega)⟩
      have c1 := (hb.cell j).trans hcj
      have HQ := Lib.hid hq
      clear hq
      have hB := (hb.set_ j (.int .u8 ((48 + q % 10 : Nat) : Int)))
      have hF := hfr.setCell (p := ⟨w.heap.size, j, none⟩) (.inl (Nat.le_refl _)) (.int .u8 ((48 + q % 10 : Nat) : Int))
      have HH := Lib.hid (And.intro hB hF)
      clear hB hF
      go_wp2_with fail
      have hq10 : q / 10 = n / 10 ^ (wd - j) := by
        rw [HQ.out, Nat.div_div_eq_div_mul, ← Nat.pow_succ, show (wd - (j + 1)).succ = wd - j by omega]
      refine ⟨⟨j, by omega, by rw [← hq10]; rfl, rfl, ⟨_, HH.out.1, by simp [hsz], fun i h3 h4 => ?_⟩, HH.out.2⟩, by simp only [intOf]; omega⟩
      rw [Array.getElem?_setIfInBounds]
      by_cases e : j = i
      · subst e
        rw [if_pos rfl, if_pos (by omega), show wd - 1 - j = wd - (j + 1) by omega, ← HQ.out]
      · rw [if_neg e]
        exact hcs i (by omega) h4
def fieldB (n : Int) : ByteArray × Int := if 1 ≤ n ∧ n ≤ 999999 then (⟨(digs 6 n.toNat).toArray⟩, 0) else (⟨#[]⟩, 1)
theorem field18_any (n : Int) (w : World) : Calls Try.prog 33 #[.int .i64 n] w fun e w' => e = .returned (.tuple #[.string (fieldB n).1, .int .i64 (fieldB n).2]) ∧ Fr0 w w' := by
  by_cases h : 1 ≤ n ∧ n ≤ 999999
  · have hF : fieldB n = (⟨(digs 6 n.toNat).toArray⟩, 0) := by rw [fieldB, if_pos h]
    have hW := write_any (n := n.toNat) (wd := 6) (by omega) (by omega) (by omega) (by omega) w
    rw [Int.toNat_of_nonneg (by omega)] at hW
    have HW := Lib.hid hW
    have HF := Lib.hid hF
    clear hF hW
    go_enter Try.func33, Try.ntmps33
    go_wp2_with fail
    refine HW.out.mono ?_
    rintro e W ⟨rfl, hf⟩
    go_wp2_with fail
    exact bodyPost_ret (v := .tuple #[.string ⟨(digs 6 n.toNat).toArray⟩, .int .i64 0]) (by simp [results, Try.results33, go_sem]) rfl ⟨by rw [HF.out], hf⟩
  · have hF : fieldB n = (⟨#[]⟩, 1) := by rw [fieldB, if_neg h]
    have HF := Lib.hid hF
    clear hF
    by_cases h1 : n < 1
    · clear h
      go_enter Try.func33, Try.ntmps33
      go_wp2_with fail
      exact bodyPost_ret (v := .tuple #[.string ⟨#[]⟩, .int .i64 1]) (by simp [results, Try.results33, go_sem]) rfl ⟨by rw [HF.out], Fr.refl _ _⟩
    · have h2 : 999999 < n := by omega
      clear h
      go_enter Try.func33, Try.ntmps33
      go_wp2_with fail
      exact bodyPost_ret (v := .tuple #[.string ⟨#[]⟩, .int .i64 1]) (by simp [results, Try.results33, go_sem]) rfl ⟨by rw [HF.out], Fr.refl _ _⟩
end Go.Proofs.Ytgeiimifhbiklaa
