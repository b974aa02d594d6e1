/- Right, of the code and of the document: contracts, proved by walks. -/
import Derived.Test.YtgeiimifhbiklaaMem
import Derived.Deep.QuietTactic
import Derived.BigQuiet
import Derived.WalkSpells
namespace Go.Proofs.Ytgeiimifhbiklaa
open Go.RowKit

/-! ### Right -/
def right4 (a b c d : Nat) : Bool :=
  decide ((a = 48 ∨ a = 49) ∧ (d = 48 ∨ d = 49) ∧ (d = 49 → c = 48 ∨ c = 50) ∧ (((b = 49 ∨ b = 50) ∧ 48 ≤ c ∧ c ≤ 51) ∨ (b = 52 ∧ (c = 50 ∨ c = 51)) ∨ ((b = 53 ∨ b = 56) ∧ (c = 48 ∨ c = 49))))
def rightB (s : ByteArray) : Bool := if h : s.size = 4 then right4 (s[0]'(by omega)).toNat (s[1]'(by omega)).toNat (s[2]'(by omega)).toNat (s[3]'(by omega)).toNat else false
theorem m_right_no (s : ByteArray) (w : World) (hs : ¬ s.size = 4) : Calls Try.prog 77 #[.string s] w fun e w' => e = .returned (.bool (rightB s)) ∧ Fr0 w w' := by
  have h4 : ((s.size : Int) != 4) = true := by simp; omega
  go_enter Try.func77, Try.ntmps77
  go_wp2_with fail
  go_ret
  exact ⟨by simp [rightB, hs], Fr.refl _ _⟩
set_option maxHeartbeats 8000000 in
theorem m_right_yes (s : ByteArray) (w : World) (hs : s.size = 4) : Calls Try.prog 77 #[.string s] w fun e w' => e = .returned (.bool (rightB s)) ∧ Fr0 w w' := by
  have h0 : 0 < s.size := by omega
  have h1 : 1 < s.size := by omega
  have h2 : 2 < s.size := by omega
  have h3 : 3 < s.size := by omega
  obtain ⟨n0, e0⟩ : ∃ n, (s[0]'h0).toNat = n := ⟨_, rfl⟩
  obtain ⟨n1, e1⟩ : ∃ n, (s[1]'h1).toNat = n := ⟨_, rfl⟩
  obtain ⟨n2, e2⟩ : ∃ n, (s[2]'h2).toNat = n := ⟨_, rfl⟩
  obtain ⟨n3, e3⟩ : ∃ n, (s[3]'h3).toNat = n := ⟨_, rfl⟩
  have hR : rightB s = right4 n0 n1 n2 n3 := by simp only [rightB, hs, dif_pos, e0, e1, e2, e3]
  rw [hR]
  have H := Lib.hid hs
  have h4 : ((s.size : Int) != 4) = false := by simp [hs]
  clear hs hR
  go_enter Try.func77, Try.ntmps77
  go_wp2_with fail
  all_goals try (go_quiet (fail); go_wp2_with fail)
  all_goals
    go_ret
    refine ⟨?_, by first | exact Fr.refl _ _ | exact (Fr.refl _ _).drewN _⟩
    refine congrArg Ending.returned (show Value.bool _ = Value.bool _ from congrArg Value.bool ?_)
    simp only [beq_iff_eq, bne_iff_ne, beq_eq_false_iff_ne, bne_eq_false_iff_eq, ne_eq] at *
    rw [Bool.eq_iff_iff]
    simp only [right4, decide_eq_true_eq, beq_iff_eq, Bool.or_eq_true, Bool.false_eq_true, false_iff, true_iff]
    omega
theorem m_right (s : ByteArray) (w : World) : Calls Try.prog 77 #[.string s] w fun e w' => e = .returned (.bool (rightB s)) ∧ Fr0 w w' := by
  by_cases h : s.size = 4
  · exact m_right_yes s w h
  · exact m_right_no s w h
theorem r_right_no (s : ByteArray) (w : World) (hs : ¬ s.size = 4) : Calls Try.prog 91 #[.string s] w fun e w' => e = .returned (.bool (rightB s)) ∧ Fr0 w w' := by
  have h4 : ((s.size : Int) != 4) = true := by simp; omega
  go_enter Try.func91, Try.ntmps91
  go_wp2_with fail
  go_ret
  exact ⟨by simp [rightB, hs], Fr.refl _ _⟩
set_option maxHeartbeats 8000000 in
theorem r_right_yes (s : ByteArray) (w : World) (hs : s.size = 4) : Calls Try.prog 91 #[.string s] w fun e w' => e = .returned (.bool (rightB s)) ∧ Fr0 w w' := by
  have h0 : 0 < s.size := by omega
  have h1 : 1 < s.size := by omega
  have h2 : 2 < s.size := by omega
  have h3 : 3 < s.size := by omega
  obtain ⟨n0, e0⟩ : ∃ n, (s[0]'h0).toNat = n := ⟨_, rfl⟩
  obtain ⟨n1, e1⟩ : ∃ n, (s[1]'h1).toNat = n := ⟨_, rfl⟩
  obtain ⟨n2, e2⟩ : ∃ n, (s[2]'h2).toNat = n := ⟨_, rfl⟩
  obtain ⟨n3, e3⟩ : ∃ n, (s[3]'h3).toNat = n := ⟨_, rfl⟩
  have hR : rightB s = right4 n0 n1 n2 n3 := by simp only [rightB, hs, dif_pos, e0, e1, e2, e3]
  rw [hR]
  have H := Lib.hid hs
  have h4 : ((s.size : Int) != 4) = false := by simp [hs]
  clear hs hR
  go_enter Try.func91, Try.ntmps91
  go_wp2_with fail
  all_goals try (go_quiet (fail); go_wp2_with fail)
  all_goals
    go_ret
    refine ⟨?_, by first | exact Fr.refl _ _ | exact (Fr.refl _ _).drewN _⟩
    refine congrArg Ending.returned (show Value.bool _ = Value.bool _ from congrArg Value.bool ?_)
    simp only [beq_iff_eq, bne_iff_ne, beq_eq_false_iff_ne, bne_eq_false_iff_eq, ne_eq] at *
    rw [Bool.eq_iff_iff]
    simp only [right4, decide_eq_true_eq, beq_iff_eq, Bool.or_eq_true, Bool.false_eq_true, false_iff, true_iff]
    omega
theorem r_right (s : ByteArray) (w : World) : Calls Try.prog 91 #[.string s] w fun e w' => e = .returned (.bool (rightB s)) ∧ Fr0 w w' := by
  by_cases h : s.size = 4
  · exact r_right_yes s w h
  · exact r_right_no s w h
end Go.Proofs.Ytgeiimifhbiklaa
