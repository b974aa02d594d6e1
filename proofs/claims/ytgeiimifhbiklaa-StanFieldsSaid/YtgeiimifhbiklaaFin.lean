/- A law's row: what a walk that leaves old memory as it was gives; plain, nothing is claimed of the program here. -/
import Derived.Test.YtgeiimifhbiklaaRows
import Derived.Test.YtgeiimifhbiklaaMem
import Derived.WalkKit
import Derived.ProofKit
import Derived.OpenShut
import Derived.JoinedCond
import Derived.Carry
namespace Go.Proofs.Ytgeiimifhbiklaa
open Go.ChangeShapes Go.WideShapes Go.ChangeAt Go.RowKit

theorem laidOutP : laidOutB Try.prog = true := by kernel_rfl
theorem boolU : Try.prog.underlying 4 = some .bool := by kernel_rfl
theorem ownP : ownKnob Try.prog.godebug = none := by kernel_rfl
section
variable {P : Program} {H : Type} {enc : TypeId × Value → H}
def readB (P : Program) (ts : List TypeId) : Prop := ∀ t ∈ ts, P.readableRec t = true ∧ t < P.types.size
theorem trodAll_below (hl : laidOutB P = true) {W W' : World} (hb : Below W.heap.size W W') : ∀ (ts : List TypeId) (vs : List Value) (ds : List (DataW H)) (ps : List MemPlace), readB P ts →
    DataW.TrodAll enc P W 0 (fun _ => true) true ts vs ds ps → (∀ x ∈ ps, x.block < W.heap.size) → DataW.TrodAll enc P W' 0 (fun b => decide (b < W.heap.size)) true ts vs ds ps := by
  intro ts
  induction ts with
  | nil =>
    intro vs ds ps _ h _
    obtain ⟨rfl, rfl, rfl⟩ := trodAll_nil h
    exact trodAll_mk0
  | cons t ts ih =>
    intro vs ds ps hr h hp
    obtain ⟨v, vs1, d, ds1, p, q, rfl, rfl, rfl, h0, h1⟩ := trodAll_cons h
    have ht := hr t (by simp)
    exact ⟨p, q, Below.trod hl ht.1 ht.2 h0 hb (fun x hx => hp x (List.mem_append_left _ hx)), ih vs1 ds1 q (fun t h => hr t (by simp [h])) h1 (fun x hx => hp x (List.mem_append_right _ hx)), rfl⟩
theorem law_post {tb : TypeId} (hl : laidOutB P = true) (hbool : P.underlying tb = some .bool) {f : Func} {s : ChangeSpec} {W W' : World} {args : Array Value} {ds gs : List (DataW H)} {before : List MemPlace}
    (hW : DataW.Whole enc P f.params.toList s.vars false W args.toList ds gs before) (hv : s.vars = []) (hread : readB P f.params.toList) (hres : f.resultTypes = #[tb])
    (hspec : s.fn H ds = { results := [.lit (.bool true)], args := ds }) (hf : Fr0 W W') : s.post enc P f false true false false W args (.bool true) W' := by
  have hW' := hW
  obtain ⟨p, q, hA, hV, rfl, hfz, hnd⟩ := hW
  rw [hv] at hV
  obtain ⟨rfl, rfl⟩ := trodVars_none hV
  have hlt : ∀ x ∈ p, x.block < W.heap.size := fun x hx => by simpa using hW'.lt x (by simp [hx])
  refine ⟨ds, [], p ++ [], [], p, [], hW', ?_, ?_, ?_, hf.below.frame _, fun h => by cases h⟩
  · rw [List.append_nil, hspec, hres]
    exact trodAll_mk1 (shut_bool hbool _)
  · rw [List.append_nil, hspec]
    exact trodAll_below hl hf.below _ _ _ _ hread hA hlt
  · rw [List.append_nil, hspec, hv]
    rfl
end
end Go.Proofs.Ytgeiimifhbiklaa
