/- New: its contract, proved by a walk. -/
import Derived.Test.YtgeiimifhbiklaaNum
import Derived.Carry
namespace Go.Proofs.Ytgeiimifhbiklaa
open Go.RowKit
theorem MapI.new (w : World) : MapI (w.alloc (.map #[] 0)) w.heap.size [] := ⟨[], 0, heap_alloc_new w _, rfl⟩
def NewPost (w : World) (m : Int) (e : Ending) (w' : World) : Prop :=
  if 1 ≤ m ∧ m ≤ 999999 then ∃ g b, e = .returned (.tuple #[.pointer (some ⟨g, 0, none⟩), .int .i64 0]) ∧ NumW w' g b m 0 [] ∧ w.heap.size ≤ g ∧ w.heap.size ≤ b ∧ Fr0 w w'
  else e = .returned (.tuple #[.pointer none, .int .i64 1]) ∧ Fr0 w w'
theorem new_any (m : Int) (w : World) : Calls Try.prog 10 #[.int .i64 m] w (NewPost w m) := by
  by_cases h1 : m < 1
  · have h2 : ¬ (1 ≤ m ∧ m ≤ 999999) := by omega
    have H2 := Lib.hid h2
    clear h2
    go_enter Try.func10, Try.ntmps10
    go_wp2_with fail
    exact bodyPost_ret (v := .tuple #[.pointer none, .int .i64 1]) (by simp [results, Try.results10, go_sem]) rfl (by unfold NewPost; rw [if_neg H2.out]; exact ⟨rfl, Fr.refl _ _⟩)
  · by_cases h3 : m ≤ 999999
    · have h2 : 1 ≤ m ∧ m ≤ 999999 := by omega
      have H2 := Lib.hid h2
      clear h2
      have hmk := run_makeMap (P := Try.prog) 45 w
      go_enter Try.func10, Try.ntmps10
      go_wp2_with fail
      refine bodyPost_ret (v := .tuple #[.pointer (some ⟨w.heap.size + 1, 0, none⟩), .int .i64 0]) (by simp [results, Try.results10, go_sem]) rfl ?_
      unfold NewPost
      rw [if_pos H2.out]
      refine ⟨w.heap.size + 1, w.heap.size, rfl, ⟨?_, ?_⟩, by omega, by omega, ((Fr.refl _ _).alloc _).alloc _⟩
      · have := Blk.new (w.alloc (.map #[] 0)) 49 #[.int .i64 m, .map (some w.heap.size), .int .i64 0]
        rwa [show (w.alloc (.map #[] 0)).heap.size = w.heap.size + 1 by simp] at this
      · exact (MapI.new w).fr0 ((Fr.refl _ _).alloc _)
    · have h2 : ¬ (1 ≤ m ∧ m ≤ 999999) := by omega
      have H2 := Lib.hid h2
      clear h2
      go_enter Try.func10, Try.ntmps10
      go_wp2_with fail
      exact bodyPost_ret (v := .tuple #[.pointer none, .int .i64 1]) (by simp [results, Try.results10, go_sem]) rfl (by unfold NewPost; rw [if_neg H2.out]; exact ⟨rfl, Fr.refl _ _⟩)
end Go.Proofs.Ytgeiimifhbiklaa
