/- The law StanPlays returns true for every input, and leaves what was handed in as it was; no conditions. -/
import Derived.Test.YtaeneoenihonkaaPlay2
import Derived.Test.YtaeneoenihonkaaFin
import Derived.Deep.Slices
namespace Go.Proofs.Ytaeneoenihonkaa
open Go.ChangeShapes Go.WideShapes Go.ChangeAt Go.RowKit

theorem undI3 : Try.prog.underlying 3 = some (.int .i64) := by kernel_rfl
theorem undSteps : Try.prog.underlying 22 = some (.slice 39) := by kernel_rfl
theorem cellsStep : Try.prog.cellsOf 39 = 5 := by kernel_rfl
theorem cellsI : Try.prog.cellsOf 3 = 1 := by kernel_rfl
theorem stepFs : ∃ fs, Try.prog.underlying 39 = some (.struct fs) ∧ (fs[0]?).map (fun f => (f.type, f.offset)) = some (3, 0) ∧ (fs[1]?).map (fun f => (f.type, f.offset)) = some (3, 1) ∧ (fs[2]?).map (fun f => (f.type, f.offset)) = some (3, 2) :=
  ⟨_, Try.underlying39, rfl, rfl, rfl⟩
theorem spot_none {w : World} {a : Addr} {v : Value} (h : w.cell? a = some v) : a.spot = none := by
  unfold World.cell? at h
  split at h
  · split at h
    · simp at h
    · rename_i hs
      simpa using hs
  · simp at h
theorem i64_wf {n : Int} (h : (Lit.int .i64 n).wf = true) : -9223372036854775808 ≤ n ∧ n ≤ 9223372036854775807 := by
  simpa [Lit.wf, IntKind.min, IntKind.max, IntKind.signed, IntKind.bits] using h
/-- An int field of a step that was handed in. -/
theorem step_int {H : Type} {enc : TypeId × Value → H} {W : World} {fuel : Nat} {cs : List Value} {x : DataW H × List MemPlace} {fs : Array Field} (hu : Try.prog.underlying 39 = some (.struct fs))
    (h : DataW.trod enc Try.prog W 0 (fun _ => true) true fuel 39 cs = some x) (i : Nat) (hi : (fs[i]?).map (fun f => (f.type, f.offset)) = some (3, i)) :
    ∃ n : Int, cs[i]? = some (.int .i64 n) ∧ -9223372036854775808 ≤ n ∧ n ≤ 9223372036854775807 := by
  obtain ⟨xs, m, _, _, _, hlen, hf⟩ := DataW.trod_struct hu h
  obtain ⟨f, hfi, hft⟩ := Option.map_eq_some_iff.1 hi
  simp only [Prod.mk.injEq] at hft
  have hx := hf i f hfi
  have hil : i < xs.length := by rw [hlen]; exact (Array.getElem?_eq_some_iff.1 hfi).1
  rw [List.getElem?_eq_getElem hil, hft.1, hft.2, cellsI] at hx
  obtain ⟨n, hc, _, hw⟩ := DataW.trod_int undI3 hx
  refine ⟨n, ?_, i64_wf hw⟩
  have h0 : ((cs.drop i).take 1)[0]? = some (.int .i64 n) := by rw [hc]; rfl
  rw [List.getElem?_take] at h0
  simpa using h0
instance : Inhabited StepV := ⟨⟨0, 0, 0, .int .i64 0, .int .i64 0⟩⟩
/-- A script that was handed in. -/
theorem rdSteps_of_trod {H : Type} {enc : TypeId × Value → H} {W : World} {a0 : Option Addr} {len cap : Nat} {d : DataW H} {p : List MemPlace} (h : DataW.Trod enc Try.prog W 0 (fun _ => true) true 22 (.slice a0 len cap) d p) :
    ∃ xs : List StepV, RdSteps W (.slice a0 len cap) xs ∧ (∀ x ∈ xs, (-9223372036854775808 ≤ x.on ∧ x.on ≤ 9223372036854775807) ∧ -9223372036854775808 ≤ x.number ∧ x.number ≤ 9223372036854775807) ∧ xs.length ≤ 9223372036854775807 := by
  obtain ⟨fuel, hf⟩ := h
  obtain ⟨fs, hu, f0, f1, f2⟩ := stepFs
  rcases Go.Deep.open_slice undSteps hf with ⟨hcs, hx⟩ | ⟨a, len', cap', m, n, D, Pl, hcs, _, hl, hm, hmm, hx, hall⟩
  · simp only [Value.cells, Array.toList, List.cons.injEq, and_true, Value.slice.injEq] at hcs
    obtain ⟨rfl, rfl, rfl⟩ := hcs
    exact ⟨[], ⟨none, 0, rfl, .inl rfl⟩, by simp, by simp⟩
  · simp only [Value.cells, Array.toList, List.cons.injEq, and_true, Value.slice.injEq] at hcs
    obtain ⟨rfl, rfl, rfl⟩ := hcs
    simp only [if_true] at hmm
    rw [cellsStep] at hall
    have each : ∀ i, i < len → ∃ x : StepV, W.cell? (a.add (i * 5)) = some (.int .i64 x.kind) ∧ (∀ j, j < 5 → W.cell? ((a.add (i * 5)).add j) = [Value.int .i64 x.kind, .int .i64 x.on, .int .i64 x.number, x.mti, x.fields][j]?) ∧ (-9223372036854775808 ≤ x.on ∧ x.on ≤ 9223372036854775807) ∧ -9223372036854775808 ≤ x.number ∧ x.number ≤ 9223372036854775807 := by
      intro i hi
      obtain ⟨cs', h1, h2⟩ := hall i (by omega)
      obtain ⟨_, hlen, hc⟩ := World.cells?_some h1
      obtain ⟨n0, e0, _⟩ := step_int hu h2 0 f0
      obtain ⟨n1, e1, b1⟩ := step_int hu h2 1 f1
      obtain ⟨n2, e2, b2⟩ := step_int hu h2 2 f2
      obtain ⟨c0, c1, c2, c3, c4, rfl⟩ : ∃ c0 c1 c2 c3 c4, cs' = [c0, c1, c2, c3, c4] := by
        match cs', hlen with
        | [c0, c1, c2, c3, c4], _ => exact ⟨c0, c1, c2, c3, c4, rfl⟩
      simp only [List.getElem?_cons_zero, List.getElem?_cons_succ, Option.some.injEq] at e0 e1 e2
      subst e0 e1 e2
      refine ⟨⟨n0, n1, n2, c3, c4⟩, ?_, fun j hj => hc j hj, b1, b2⟩
      have := hc 0 (by omega)
      rwa [Addr.add, if_pos rfl] at this
    obtain ⟨F, hF⟩ := Go.Deep.choose_lt (α := StepV) (p := fun i x => W.cell? (a.add (i * 5)) = some (.int .i64 x.kind) ∧ (∀ j, j < 5 → W.cell? ((a.add (i * 5)).add j) = [Value.int .i64 x.kind, .int .i64 x.on, .int .i64 x.number, x.mti, x.fields][j]?) ∧ (-9223372036854775808 ≤ x.on ∧ x.on ≤ 9223372036854775807) ∧ -9223372036854775808 ≤ x.number ∧ x.number ≤ 9223372036854775807) each
    refine ⟨(List.range len).map F, ⟨some a, cap, by simp, ?_⟩, ?_, by simp only [maxLen] at hm; simp; omega⟩
    · by_cases h0 : len = 0
      · left
        rw [h0]
        rfl
      · right
        have c0 := (hF 0 (by omega)).1
        have hs := spot_none c0
        rw [Nat.zero_mul, Addr.add, if_pos rfl] at hs c0
        have hlt := World.block_lt_of_cell? _ _ c0
        obtain ⟨b, o, sp⟩ := a
        simp only at hs
        subst hs
        refine ⟨b, o, rfl, hlt, fun j x hj => ?_⟩
        rw [List.getElem?_map] at hj
        obtain ⟨i, hi, rfl⟩ := Option.map_eq_some_iff.1 hj
        obtain ⟨hi1, hi2⟩ := List.getElem?_eq_some_iff.1 hi
        simp only [List.length_range] at hi1
        simp only [List.getElem_range] at hi2
        subst hi2
        have hc := (hF j hi1).2.1
        have g0 := hc 0 (by omega)
        have g1 := hc 1 (by omega)
        have g2 := hc 2 (by omega)
        have g3 := hc 3 (by omega)
        have g4 := hc 4 (by omega)
        simp only [Addr.add_lit, Nat.add_zero] at g0 g1 g2 g3 g4
        exact ⟨g0, g1, g2, g3, g4⟩
    · intro x hx
      obtain ⟨i, hi, rfl⟩ := List.mem_map.1 hx
      exact (hF i (List.mem_range.1 hi)).2.2
namespace stanPlays
theorem readArgs : readB Try.prog Try.f3.params.toList := by
  rw [Try.params3]
  intro t ht
  simp only [List.mem_cons, List.not_mem_nil, or_false] at ht
  rcases ht with rfl | rfl | rfl
  · exact ⟨by kernel_rfl, of_decide_eq_true (by kernel_rfl)⟩
  · exact ⟨by kernel_rfl, of_decide_eq_true (by kernel_rfl)⟩
  · exact ⟨by kernel_rfl, of_decide_eq_true (by kernel_rfl)⟩
set_option maxRecDepth 100000 in
theorem lifted (os : Os) (started : os.Started) (H : Type) (enc : TypeId × Value → H) :
    ReturnsInHanded {} Try.checked os 3 .any (Rows.stanPlaysSpec.pre6 enc Try.prog Try.f3 Rows.stanPlaysRow.domain false) (Rows.stanPlaysSpec.post enc Try.prog Try.f3 false true false false) := by
  refine returnsInHanded_of_change (C := Try.checked) ownP started (by kernel_rfl) Try.func3
    (ChangeSpec.witness6 (enc := enc) (C := Try.checked) false ⟨#[], #[.int .i64 0, .int .i64 0, .slice none 0 0], []⟩ 8 (by kernel_rfl) (by kernel_rfl) (by kernel_rfl) (by kernel_rfl)) ?_
  intro W base args ds gs before hval0 hW hcnd _
  have hval : ∀ (j : Nat) t v, Try.f3.params[j]? = some t → args[j]? = some v → Value.okWide Try.prog W .any base t v := hval0
  have hW' := hW
  obtain ⟨p, q, hA0, hV, rfl, hfz, hnd⟩ := hW
  have hA : DataW.TrodAll enc Try.prog W 0 (fun _ => true) true Try.f3.params.toList args.toList ds p := hA0
  rw [Try.params3] at hA hval
  obtain ⟨v0, vs0, d0, ds0, p0, q0, hargs, rfl, rfl, h0, r0⟩ := trodAll_cons hA
  obtain ⟨v1, vs1, d1, ds1, p1, q1, rfl, rfl, rfl, h1, r1⟩ := trodAll_cons r0
  obtain ⟨v2, vs2, d2, ds2, p2, q2, rfl, rfl, rfl, h2, r2⟩ := trodAll_cons r1
  obtain ⟨rfl, rfl, rfl⟩ := trodAll_nil r2
  obtain rfl : args = #[v0, v1, v2] := by cases args; simp_all
  obtain ⟨a0, rfl, rfl, rfl, w0⟩ := open_int undI3 (hval 0 3 v0 rfl rfl) h0
  obtain ⟨a1, rfl, rfl, rfl, w1⟩ := open_int undI3 (hval 1 3 v1 rfl rfl) h1
  obtain ⟨A, len, cap, rfl⟩ := okWide_slice undSteps (hval 2 22 v2 rfl rfl)
  obtain ⟨xs, hr, hx, hn⟩ := rdSteps_of_trod h2
  clear hA0 hval0
  refine (plays_any hr hx hn).mono fun e W' ⟨he, hf⟩ => ?_
  subst he
  exact ⟨_, rfl, law_post laidOutP boolU hW' rfl readArgs (by kernel_rfl) rfl hf⟩
theorem proved : Rows.StanPlaysSaid :=
  OpenClaim.holds_of_wide 3 Try.f3 rfl rfl rfl rfl rfl rfl rfl ⟨rfl, rfl, rfl, rfl, rfl⟩ rfl rfl rfl rfl rfl (by kernel_rfl) Try.func3 (by kernel_rfl)
    (of_decide_eq_true (by kernel_rfl)) (by unfold Func.isWrapper; first | (rw [if_pos (by decide +kernel)]; kernel_rfl) | (rw [if_neg (by decide +kernel)]; exact ⟨rfl, rfl⟩))
    (fun os started H enc _ => lifted os started H enc)
end stanPlays
#print axioms stanPlays.proved
end Go.Proofs.Ytaeneoenihonkaa
