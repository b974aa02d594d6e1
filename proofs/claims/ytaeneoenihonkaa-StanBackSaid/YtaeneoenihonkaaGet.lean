/- Get (the document's own): its contract, proved by a walk. -/
import Derived.Test.YtaeneoenihonkaaMsgA
import Derived.IntWalk
namespace Go.Proofs.Ytaeneoenihonkaa
open Go.RowKit

/-- The value of the first of a number. -/
def getF (x : Int) : Ns → Option ByteArray
  | .nil => none
  | .cons t v _ r => if t = x then some v else getF x r
theorem getF_app (x : Int) : ∀ (a b : Ns), getF x a = none → getF x (a.app b) = getF x b
  | .nil, _, _ => rfl
  | .cons t v k r, b, h => by
    simp only [getF] at h
    split at h
    · simp at h
    · rename_i ht
      rw [Ns.app, getF, if_neg ht]
      exact getF_app x r b h
def GetPost (w : World) (o : Option ByteArray) (e : Ending) (w' : World) : Prop := e = .returned (.tuple #[.string (o.getD ⟨#[]⟩), .bool o.isSome]) ∧ Fr0 w w'
theorem get_any {mti : ByteArray} {l : Ns} {w0 : World} {ok : Nat → Prop} {v : Value} (hl : l.len ≤ 9223372036854775806) (hr0 : Rd w0 ok v l) (x : Int) :
    Calls Try.prog 31 #[.agg #[.string mti, v], .int .i64 x] w0 (GetPost w0 (getF x l)) := by
  obtain ⟨A, c, rfl, _, _⟩ := id hr0
  obtain ⟨w, hw⟩ : ∃ w, w = w0.alloc (.cells #[.string mti, .slice A l.len c] 37) := ⟨_, rfl⟩
  have hf0 : Fr0 w0 w := by rw [hw]; exact (Fr.refl _ _).alloc _
  have bx : Blk w w0.heap.size 37 #[.string mti, .slice A l.len c] := by rw [hw]; exact Blk.new _ _ _
  obtain ⟨A9, c9, hv, hlc, hcase⟩ := hr0.fr0 hf0
  injection hv with e1 e2 e3
  subst e1 e3
  have x1 := bx.cell 1
  have hw' := hw.symm
  have hC := Lib.hid hcase
  clear hw hcase e2 hr0
  go_enter Try.func31, Try.ntmps31
  go_wp2_with fail
  go_loop [6] (fun i => ∃ (done rest : Ns), l = done.app rest ∧ i = .int .i64 done.len ∧ getF x done = none ∧ (rest = .nil ∨ ∃ b o, A = some ⟨b, o, none⟩ ∧ RdFrom w ok rest b (o + done.len * 3))) (fun i => l.len - (intOf i).toNat)
  case atStart => exact ⟨.nil, l, rfl, rfl, rfl, by simpa [Ns.len] using hC.out⟩
  case round =>
    obtain ⟨done, rest, rfl, rfl, hg, hrest⟩ := hrel
    have HG := Lib.hid hg
    clear hg
    cases rest with
    | nil =>
      have HE := Lib.hid (show getF x (done.app .nil) = none by rw [Ns.app_nil]; exact HG.out)
      have hlt : ¬ ((done.len : Int) < ((done.app .nil).len : Int)) := by rw [Ns.app_nil]; omega
      go_wp2_with fail
      exact bodyPost_ret (v := .tuple #[.string ⟨#[]⟩, .bool false]) (by simp [results, Try.results31, go_sem]) rfl ⟨by rw [HE.out]; rfl, hf0⟩
    | cons t v k r =>
      simp only [reduceCtorEq, false_or] at hrest
      obtain ⟨b, o, rfl, hrd⟩ := hrest
      have hll := Lib.hid (Ns.len_app done (.cons t v k r))
      have hlt : (done.len : Int) < ((done.app (.cons t v k r)).len : Int) := by rw [hll.out]; simp only [Ns.len]; omega
      have hlt' : done.len < (done.app (.cons t v k r)).len := by omega
      have q0 := hrd.2.1
      have q1 := hrd.2.2.1
      have hlw : IntKind.i64.wrap ((done.len : Int) + 1) = (done.len : Int) + 1 := IntWalk.i64_in _ (by omega)
      have HR := Lib.hid hrd
      clear hrd
      by_cases htx : t = x
      · have HE := Lib.hid (show getF x (done.app (.cons t v k r)) = some v by rw [getF_app x done _ HG.out, getF, if_pos htx])
        have htt : (t == x) = true := by simp [htx]
        clear htx
        go_wp2_with fail
        exact bodyPost_ret (v := .tuple #[.string v, .bool true]) (by simp [results, Try.results31, go_sem]) rfl ⟨by rw [HE.out]; rfl, hf0⟩
      · have htt : (t == x) = false := by simp [htx]
        have HX := Lib.hid htx
        clear htx
        go_wp2_with fail
        go_round
        case rel =>
          refine ⟨done.app (.one t v k), r, by simp [Ns.app_assoc, Ns.one, Ns.app], by simp [Ns.len_app, Ns.one, Ns.len], ?_, .inr ⟨b, o, rfl, ?_⟩⟩
          · rw [getF_app x done _ HG.out, Ns.one, getF, if_neg HX.out]
            rfl
          · have := HR.out.2.2.2.2
            simp only [Ns.len_app, Ns.one, Ns.len]
            rwa [show o + (done.len + (0 + 1)) * 3 = o + done.len * 3 + 3 from by omega]
        case measure => simp [intOf]; omega
end Go.Proofs.Ytaeneoenihonkaa
