/- Rows of ints that were handed in; plain, nothing is claimed of the program here. -/
import Derived.Test.YtgeiimifhbiklaaMsgA
import Derived.Test.YtgeiimifhbiklaaFin
namespace Go.Proofs.Ytgeiimifhbiklaa
open Go.ChangeShapes Go.WideShapes Go.ChangeAt Go.RowKit

theorem cellsI : Try.prog.cellsOf 3 = 1 := by kernel_rfl
theorem undIs2 : Try.prog.underlying 42 = some (.slice 3) := by kernel_rfl
theorem undI3 : Try.prog.underlying 3 = some (.int .i64) := by kernel_rfl
theorem spot_none {w : World} {a : Addr} {v : Value} (h : w.cell? a = some v) : a.spot = none := by
  unfold World.cell? at h
  split at h
  · split at h
    · simp at h
    · rename_i hs
      simpa using hs
  · simp at h
theorem i64_wf {n : Int} (h : (Lit.int .i64 n).wf = true) : -9223372036854775808 ≤ n ∧ n ≤ 9223372036854775807 := by
  simpa [Lit.wf, IntKind.min, IntKind.max, IntKind.signed, IntKind.bits] using h
/-- A slice of ints that was handed in. -/
theorem rdI_of_trod {H : Type} {enc : TypeId × Value → H} {W : World} {a0 : Option Addr} {len cap : Nat} {d : DataW H} {p : List MemPlace} (h : DataW.Trod enc Try.prog W 0 (fun _ => true) true 42 (.slice a0 len cap) d p) :
    ∃ xs : List Int, RdI W (fun i => i < W.heap.size) (.slice a0 len cap) xs ∧ (∀ x ∈ xs, -9223372036854775808 ≤ x ∧ x ≤ 9223372036854775807) ∧ xs.length ≤ 9223372036854775807 := by
  obtain ⟨fuel, hf⟩ := h
  rcases open_ints undIs2 undI3 cellsI hf with ⟨hcs, hx⟩ | ⟨a, len', cap', zs, hcs, _, hl, hm, hz, hx, hcell, hwz⟩
  · simp only [Value.cells, Array.toList, List.cons.injEq, and_true, Value.slice.injEq] at hcs
    obtain ⟨rfl, rfl, rfl⟩ := hcs
    exact ⟨[], ⟨none, 0, rfl, Nat.le_refl _, .inl rfl⟩, by simp, by simp⟩
  · simp only [Value.cells, Array.toList, List.cons.injEq, and_true, Value.slice.injEq] at hcs
    obtain ⟨rfl, rfl, rfl⟩ := hcs
    simp only [if_true] at hz
    have hlen : (zs.take len).length = len := by rw [List.length_take]; omega
    refine ⟨zs.take len, ⟨some a, cap, by rw [hlen], by omega, ?_⟩, fun x hx => i64_wf (hwz x (List.mem_of_mem_take hx)), by simp only [maxLen] at hm; omega⟩
    by_cases h0 : len = 0
    · left
      rw [h0]
      rfl
    · right
      have c0 := hcell 0 (by omega)
      have hs := spot_none c0
      rw [Addr.add, if_pos rfl] at hs c0
      have hlt := World.block_lt_of_cell? _ _ c0
      obtain ⟨b, o, sp⟩ := a
      simp only at hs
      subst hs
      refine ⟨b, o, rfl, hlt, fun j x hj => ?_⟩
      have hjl : j < (zs.take len).length := (List.getElem?_eq_some_iff.1 hj).1
      have hcj := hcell j (by omega)
      rw [Addr.add_lit] at hcj
      rw [hcj]
      rw [List.getElem?_take] at hj
      split at hj
      · rw [List.getD_eq_getElem?_getD, hj]; rfl
      · simp at hj
end Go.Proofs.Ytgeiimifhbiklaa
