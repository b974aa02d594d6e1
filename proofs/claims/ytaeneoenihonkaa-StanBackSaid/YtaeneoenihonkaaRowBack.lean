/- The law StanBack returns true for every input, and leaves what was handed in as it was; no conditions. -/
import Derived.Test.YtaeneoenihonkaaBack
import Derived.Test.YtaeneoenihonkaaOpn
namespace Go.Proofs.Ytaeneoenihonkaa
open Go.ChangeShapes Go.WideShapes Go.ChangeAt Go.RowKit

namespace stanBack
theorem readArgs : readB Try.prog Try.f6.params.toList := by
  rw [Try.params6]
  intro t ht
  simp only [List.mem_cons, List.not_mem_nil, or_false] at ht
  rcases ht with rfl | rfl | rfl | rfl | rfl | rfl
  all_goals exact ⟨by kernel_rfl, of_decide_eq_true (by kernel_rfl)⟩
set_option maxRecDepth 100000 in
theorem lifted (os : Os) (started : os.Started) (H : Type) (enc : TypeId × Value → H) :
    ReturnsInHanded {} Try.checked os 6 .any (Rows.stanBackSpec.pre6 enc Try.prog Try.f6 Rows.stanBackRow.domain false) (Rows.stanBackSpec.post enc Try.prog Try.f6 false true false false) := by
  refine returnsInHanded_of_change (C := Try.checked) ownP started (by kernel_rfl) Try.func6
    (ChangeSpec.witness6 (enc := enc) (C := Try.checked) false ⟨#[], #[.slice none 0 0, .slice none 0 0, .slice none 0 0, .int .i64 0, .string ⟨#[]⟩, .string ⟨#[]⟩], []⟩ 8 (by kernel_rfl) (by kernel_rfl) (by kernel_rfl) (by kernel_rfl)) ?_
  intro W base args ds gs before hval0 hW hcnd _
  have hval : ∀ (j : Nat) t v, Try.f6.params[j]? = some t → args[j]? = some v → Value.okWide Try.prog W .any base t v := hval0
  have hW' := hW
  obtain ⟨p, q, hA0, hV, rfl, hfz, hnd⟩ := hW
  have hA : DataW.TrodAll enc Try.prog W 0 (fun _ => true) true Try.f6.params.toList args.toList ds p := hA0
  rw [Try.params6] at hA hval
  obtain ⟨v0, vs0, d0, ds0, p0, q0, hargs, rfl, rfl, h0, r0⟩ := trodAll_cons hA
  obtain ⟨v1, vs1, d1, ds1, p1, q1, rfl, rfl, rfl, h1, r1⟩ := trodAll_cons r0
  obtain ⟨v2, vs2, d2, ds2, p2, q2, rfl, rfl, rfl, h2, r2⟩ := trodAll_cons r1
  obtain ⟨v3, vs3, d3, ds3, p3, q3, rfl, rfl, rfl, h3, r3⟩ := trodAll_cons r2
  obtain ⟨v4, vs4, d4, ds4, p4, q4, rfl, rfl, rfl, h4, r4⟩ := trodAll_cons r3
  obtain ⟨v5, vs5, d5, ds5, p5, q5, rfl, rfl, rfl, h5, r5⟩ := trodAll_cons r4
  obtain ⟨rfl, rfl, rfl⟩ := trodAll_nil r5
  obtain rfl : args = #[v0, v1, v2, v3, v4, v5] := by cases args; simp_all
  obtain ⟨A0, n0, c0, rfl⟩ := okWide_slice undIs2 (hval 0 42 v0 rfl rfl)
  obtain ⟨A1, n1, c1, rfl⟩ := okWide_slice undIs2 (hval 1 42 v1 rfl rfl)
  obtain ⟨A2, n2, c2, rfl⟩ := okWide_slice undIs2 (hval 2 42 v2 rfl rfl)
  obtain ⟨a3, rfl, rfl, rfl, w3⟩ := open_int undI3 (hval 3 3 v3 rfl rfl) h3
  obtain ⟨s4, rfl⟩ := okWide_string undStr (hval 4 9 v4 rfl rfl)
  obtain ⟨s5, rfl⟩ := okWide_string undStr (hval 5 9 v5 rfl rfl)
  obtain ⟨xs0, hr0, hx0, hn0⟩ := rdI_of_trod h0
  obtain ⟨xs1, hr1, hx1, hn1⟩ := rdI_of_trod h1
  obtain ⟨xs2, hr2, hx2, hn2⟩ := rdI_of_trod h2
  clear hA0 hval0
  refine (back_any hr0 hr1 hr2 hx0 hx1 hx2 hn0 hn1 hn2 (i64_wf w3)).mono fun e W' ⟨he, hf⟩ => ?_
  subst he
  exact ⟨_, rfl, law_post laidOutP boolU hW' rfl readArgs (by kernel_rfl) rfl hf⟩
theorem proved : Rows.StanBackSaid :=
  OpenClaim.holds_of_wide 6 Try.f6 rfl rfl rfl rfl rfl rfl rfl ⟨rfl, rfl, rfl, rfl, rfl⟩ rfl rfl rfl rfl rfl (by kernel_rfl) Try.func6 (by kernel_rfl)
    (of_decide_eq_true (by kernel_rfl)) (by unfold Func.isWrapper; first | (rw [if_pos (by decide +kernel)]; kernel_rfl) | (rw [if_neg (by decide +kernel)]; exact ⟨rfl, rfl⟩))
    (fun os started H enc _ => lifted os started H enc)
end stanBack
#print axioms stanBack.proved
end Go.Proofs.Ytaeneoenihonkaa
