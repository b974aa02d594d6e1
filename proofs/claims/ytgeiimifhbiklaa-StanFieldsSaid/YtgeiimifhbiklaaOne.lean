/- Small laws on blocks of one-cell elements; plain, nothing is claimed of the program here. -/
import Derived.Test.YtgeiimifhbiklaaMem
import Derived.Laws.MakeOwn
import Derived.Laws.IdiomStrings
import Derived.OwnWalk
namespace Go.Proofs.Ytgeiimifhbiklaa
open Go.RowKit

theorem madeCells_one (z : Value) (n : Nat) : madeCells #[z] n = Array.replicate n z := by
  apply Array.ext
  · simp [madeCells]
  · intro i h1 h2
    simp [madeCells, Nat.mod_one]
/-- make of n elements of one cell each. -/
theorem run_make1 {P : Program} (w : World) {t e : TypeId} {z : Value} {by' : Nat} (ht : P.underlying t = some (.slice e)) (hinf : (P.info? e).map (fun i => (i.zero, i.size, i.bytes)) = some (some z, 1, by'))
    (hz : z.cells = #[z]) (n : Int) (h0 : 0 ≤ n) (h1 : n ≤ 17592186044416) (hb : by' ≤ 16) :
    (Instr.makeSlice t (.int .i64 n) (.int .i64 n)).run P w = .ok (.slice (some ⟨w.heap.size, 0, none⟩) n.toNat n.toNat) (w.alloc (.cells (Array.replicate n.toNat z) e)) := by
  obtain ⟨i, hi, h2, h3, h4⟩ := info_parts hinf
  have hbytes : (i.bytes : Int) * n ≤ 281474976710656 := by
    rw [h4]
    have : (by' : Int) * n ≤ 16 * n := Int.mul_le_mul_of_nonneg_right (by omega) h0
    omega
  have := run_make w t e i z ht hi h2 .i64 .i64 n n h0 (Int.le_refl _) hbytes (by omega)
  rw [this, h3, hz, madeCells_one, Nat.mul_one]
/-- make at the operation: N the length as a Nat, C the cells. -/
theorem wpList_make1 {P : Program} {w : World} {ops : Array Oper} {rest : List Oper} {o : Oper} {a : Act} {Q : Exit → Act → World → Prop} {t e : TypeId} {z : Value} {by' : Nat}
    (hg : o.guard = none) (l c : Operand) (hop : o.op = Op.makeSlice t l c) (ht : P.underlying t = some (.slice e)) (hinf : (P.info? e).map (fun i => (i.zero, i.size, i.bytes)) = some (some z, 1, by'))
    (hz : z.cells = #[z]) {n : Int} (h0 : 0 ≤ n) (h1 : n ≤ 17592186044416) (hb : by' ≤ 16) {N : Nat} (hN : N = n.toNat) {C : Array Value} (hC : C = Array.replicate n.toNat z)
    (hl : a.eval l = .int .i64 n) (hc : a.eval c = .int .i64 n)
    (hK : wpList P ops Q rest (a.put o.dst (.slice (some ⟨w.heap.size, 0, none⟩) N N)) (w.alloc (.cells C e))) : wpList P ops Q (o :: rest) a w := by
  refine wpList_plain hg fun K hK' => ?_
  subst hN hC
  unfold Oper.wp
  simp only [execOp, hop, hl, hc, run_make1 w ht hinf hz n h0 h1 hb, Sem.run_bind, Sem.run_pure, Result.andThen]
  exact hK' _ _ hK
/-- A conversion, by what its run comes to. -/
theorem wpList_convert_run {P : Program} {w w' : World} {ops : Array Oper} {rest : List Oper} {o : Oper} {a : Act} {Q : Exit → Act → World → Prop} {u v : Value} (src dst : TypeId)
    (hg : o.guard = none) (x : Operand) (hop : o.op = Op.convert src dst x) (hx : a.eval x = u) (hrun : (convert src dst u).run P w = .ok v w')
    (hK : wpList P ops Q rest (a.put o.dst v) w') : wpList P ops Q (o :: rest) a w := by
  refine wpList_plain hg fun K hK' => ?_
  unfold Oper.wp
  simp only [execOp, hop, hx, hrun, Sem.run_bind, Sem.run_pure, Result.andThen]
  exact hK' _ _ hK
end Go.Proofs.Ytgeiimifhbiklaa
