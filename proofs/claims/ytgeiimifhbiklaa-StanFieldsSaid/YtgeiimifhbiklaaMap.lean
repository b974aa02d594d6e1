/- Maps with int keys: laws of lookup, update, delete and len on what is known of the map's object; plain, nothing is claimed of the program here. -/
import Derived.Test.YtgeiimifhbiklaaMem
import Derived.MapKept
namespace Go.Proofs.Ytgeiimifhbiklaa
open Go.RowKit

/-- Block b is a map from ints: es, in the order in which they came. -/
def MapI (w : World) (b : Nat) (es : List (Int × Value)) : Prop :=
  ∃ (ents : List MapEntry) (clock : Nat), w.heap[b]? = some (.map ents.toArray clock) ∧ ents.map (fun e => (e.key, e.val)) = es.map (fun p => (Value.int .i64 p.1, p.2))
def look (es : List (Int × Value)) (x : Int) : Option Value := (es.find? fun p => p.1 == x).map (·.2)
/-- The entry of key x taken out (the first). -/
def dropKey : List (Int × Value) → Int → List (Int × Value)
  | [], _ => []
  | p :: r, x => if p.1 = x then r else p :: dropKey r x

theorem findNow_int (x : Int) : ∀ (ents : List MapEntry) (es : List (Int × Value)) (i : Nat), ents.map (fun e => (e.key, e.val)) = es.map (fun p => (Value.int .i64 p.1, p.2)) →
    ∃ r, Instr.findNow (.int .i64) (.int .i64 x) ents i = some r ∧ r.map (·.2) = look es x ∧ (∀ j v, r = some (j, v) → i ≤ j ∧ j < i + ents.length)
      ∧ (∀ j v, r = some (j, v) → (ents.eraseIdx (j - i)).map (fun e => (e.key, e.val)) = (dropKey es x).map (fun p => (Value.int .i64 p.1, p.2))) ∧ (r = none → dropKey es x = es)
  | [], [], i, _ => ⟨none, rfl, rfl, by simp, by simp, fun _ => rfl⟩
  | [], p :: r, i, h => by simp at h
  | e :: ents, [], i, h => by simp at h
  | e :: ents, p :: es, i, h => by
    simp only [List.map_cons, List.cons.injEq, Prod.mk.injEq] at h
    obtain ⟨⟨h1, h2⟩, h3⟩ := h
    by_cases hx : p.1 = x
    · refine ⟨some (i, e.val), ?_, ?_, ?_, ?_, ?_⟩
      · simp only [Instr.findNow, h1, Instr.sameNow, if_true]
        rw [show (x == p.1) = true by simp [hx]]
      · simp [look, hx, h2]
      · rintro j v hj
        simp only [Option.some.injEq, Prod.mk.injEq] at hj
        obtain ⟨rfl, rfl⟩ := hj
        simp
      · rintro j v hj
        simp only [Option.some.injEq, Prod.mk.injEq] at hj
        obtain ⟨rfl, rfl⟩ := hj
        simp [dropKey, hx, h3]
      · simp
    · obtain ⟨r, hr, hl, hb, hd, hn⟩ := findNow_int x ents es (i + 1) h3
      refine ⟨r, ?_, ?_, ?_, ?_, ?_⟩
      · simp only [Instr.findNow, h1, Instr.sameNow, if_true]
        rw [show (x == p.1) = false by simp; exact fun e => hx e.symm]
        exact hr
      · rw [hl]
        simp [look, hx]
      · intro j v hj
        have := hb j v hj
        simp only [List.length_cons]
        omega
      · intro j v hj
        have h4 := hb j v hj
        have h5 := hd j v hj
        obtain ⟨q, hq⟩ : ∃ q, j - i = q + 1 := ⟨j - i - 1, by omega⟩
        rw [hq, List.eraseIdx_cons_succ, List.map_cons, show q = j - (i + 1) by omega, h5]
        simp [dropKey, hx, h1, h2]
      · intro hj
        simp only [dropKey, if_neg hx, hn hj]
section
variable {P : Program} {w : World} {b : Nat} {es : List (Int × Value)} {T K E : TypeId}
theorem run_findKey (hK : P.underlying K = some (.int .i64)) (x : Int) {ents : List MapEntry} (h : ents.map (fun e => (e.key, e.val)) = es.map (fun p => (Value.int .i64 p.1, p.2))) :
    ∃ r, (Instr.findKey K (.int .i64 x) ents).run P w = .ok r w ∧ r.map (·.2) = look es x ∧ (∀ j v, r = some (j, v) → j < ents.length ∧ (ents.eraseIdx j).map (fun e => (e.key, e.val)) = (dropKey es x).map (fun p => (Value.int .i64 p.1, p.2))) ∧ (r = none → dropKey es x = es) := by
  obtain ⟨r, hr, hl, hb, hd, hn⟩ := findNow_int x ents es 0 h
  refine ⟨r, ?_, hl, fun j v hj => ⟨by have := hb j v hj; omega, by simpa using hd j v hj⟩, hn⟩
  simp [Instr.findKey, run_underlying hK, hr]
theorem run_checkKey (hK : P.underlying K = some (.int .i64)) (e : Bool) (n : Nat) (x : Int) : (Instr.checkKey e (n + 1) K (.int .i64 x)).run P w = .ok () w := by
  simp [Instr.checkKey, run_underlying hK]
theorem run_lookup_int (hT : P.underlying T = some (.map K E)) (hK : P.underlying K = some (.int .i64)) {z : Value} (hz : (zeroValue E).run P w = .ok z w) (hm : MapI w b es) (x : Int) (ok : Bool) :
    (Instr.lookup T (.map (some b)) (.int .i64 x) ok).run P w = .ok (if ok then .tuple #[(look es x).getD z, .bool (look es x).isSome] else (look es x).getD z) w := by
  obtain ⟨ents, clock, hb, he⟩ := hm
  obtain ⟨r, hr, hl, _, _⟩ := run_findKey (P := P) (w := w) hK x he
  rw [← hl]
  cases r with
  | none => cases ok <;> simp [Instr.lookup, run_underlying hT, MapKept.run_getObj_map hb, run_checkKey (n := 9999) hK, hr, hz, Result.andThen]
  | some p => cases ok <;> simp [Instr.lookup, run_underlying hT, MapKept.run_getObj_map hb, run_checkKey (n := 9999) hK, hr, Result.andThen]
/-- The entry of key x set, or a new one behind all. -/
def setKey : List (Int × Value) → Int → Value → List (Int × Value)
  | [], x, v => [(x, v)]
  | p :: r, x, v => if p.1 = x then (x, v) :: r else p :: setKey r x v
theorem MapI.lt (h : MapI w b es) : b < w.heap.size := by
  obtain ⟨ents, clock, hb, _⟩ := h
  exact (Array.getElem?_eq_some_iff.1 hb).1
theorem MapI.fr {G : Nat → Prop} {w' : World} (h : MapI w b es) (hf : Fr G w w') (hg : ¬ G b) : MapI w' b es := by
  have hl := h.lt
  obtain ⟨ents, clock, hb, he⟩ := h
  exact ⟨ents, clock, (hf.block b hl hg).trans hb, he⟩
theorem MapI.fr0 {w' : World} (h : MapI w b es) (hf : Fr0 w w') : MapI w' b es := h.fr hf id
theorem fr_setObj (w : World) (b : Nat) (o : Obj) : Fr (fun x => x = b) w { w with heap := w.heap.setIfInBounds b o } :=
  ⟨rfl, rfl, rfl, by simp, fun i _ hn => by simp [Array.getElem?_setIfInBounds, show ¬ b = i from fun e => hn e.symm]⟩
theorem MapI.setObj {ents : List MapEntry} (hl : b < w.heap.size) {clock : Nat} (he : ents.map (fun e => (e.key, e.val)) = es.map (fun p => (Value.int .i64 p.1, p.2))) :
    MapI { w with heap := w.heap.setIfInBounds b (.map ents.toArray clock) } b es :=
  ⟨ents, clock, by simp [Array.getElem?_setIfInBounds, hl], he⟩
theorem findNow_set (x : Int) (v : Value) : ∀ (ents : List MapEntry) (es : List (Int × Value)) (i : Nat), ents.map (fun e => (e.key, e.val)) = es.map (fun p => (Value.int .i64 p.1, p.2)) →
    (∀ j u, Instr.findNow (.int .i64) (.int .i64 x) ents i = some (some (j, u)) → (ents[j - i]?.map (·.key)) = some (.int .i64 x) ∧ (ents.modify (j - i) fun e : MapEntry => { e with key := .int .i64 x, val := v }).map (fun e => (e.key, e.val)) = (setKey es x v).map (fun p => (Value.int .i64 p.1, p.2)) ∧ i ≤ j)
    ∧ (Instr.findNow (.int .i64) (.int .i64 x) ents i = some none → ∀ c, (ents ++ [(⟨.int .i64 x, v, c⟩ : MapEntry)]).map (fun e => (e.key, e.val)) = (setKey es x v).map (fun p => (Value.int .i64 p.1, p.2)))
  | [], [], i, _ => ⟨by simp [Instr.findNow], fun _ c => rfl⟩
  | [], p :: r, i, h => by simp at h
  | e :: ents, [], i, h => by simp at h
  | e :: ents, p :: es, i, h => by
    simp only [List.map_cons, List.cons.injEq, Prod.mk.injEq] at h
    obtain ⟨⟨h1, h2⟩, h3⟩ := h
    by_cases hx : p.1 = x
    · have hq : Instr.findNow (.int .i64) (.int .i64 x) (e :: ents) i = some (some (i, e.val)) := by
        simp only [Instr.findNow, h1, Instr.sameNow, if_true]
        rw [show (x == p.1) = true by simp [hx]]
      rw [hq]
      refine ⟨?_, by simp⟩
      rintro j u hj
      simp only [Option.some.injEq, Prod.mk.injEq] at hj
      obtain ⟨rfl, rfl⟩ := hj
      simp [setKey, hx, h1, h3]
    · have hq : Instr.findNow (.int .i64) (.int .i64 x) (e :: ents) i = Instr.findNow (.int .i64) (.int .i64 x) ents (i + 1) := by
        rw [Instr.findNow, h1]
        simp only [Instr.sameNow, if_true]
        rw [show (x == p.1) = false by simp; exact fun e => hx e.symm]
      rw [hq]
      obtain ⟨a1, a2⟩ := findNow_set x v ents es (i + 1) h3
      refine ⟨fun j u hj => ?_, fun hj c => ?_⟩
      · obtain ⟨b1, b2, b3⟩ := a1 j u hj
        obtain ⟨q, hq⟩ : ∃ q, j - i = q + 1 := ⟨j - i - 1, by omega⟩
        rw [show j - (i + 1) = q by omega] at b1 b2
        rw [hq]
        refine ⟨by simpa using b1, ?_, by omega⟩
        rw [List.modify_succ_cons, List.map_cons, b2]
        simp [setKey, hx, h1, h2]
      · have := a2 hj c
        simp only [List.cons_append, List.map_cons, this, setKey, if_neg hx, h1, h2]
theorem run_mapUpdate_int (hT : P.underlying T = some (.map K E)) (hK : P.underlying K = some (.int .i64)) (hm : MapI w b es) (x : Int) (v : Value) :
    ∃ w', (Instr.mapUpdate T (.map (some b)) (.int .i64 x) v).run P w = .ok () w' ∧ MapI w' b (setKey es x v) ∧ Fr (fun g => g = b) w w' := by
  have hl := hm.lt
  obtain ⟨ents, clock, hb, he⟩ := hm
  obtain ⟨r, hr, _⟩ := findNow_int x ents es 0 he
  obtain ⟨a1, a2⟩ := findNow_set x v ents es 0 he
  have hfk : (Instr.findKey K (.int .i64 x) ents).run P w = .ok r w := by simp [Instr.findKey, run_underlying hK, hr]
  cases r with
  | none =>
    refine ⟨_, ?_, MapI.setObj (ents := ents ++ [⟨.int .i64 x, v, clock⟩]) (clock := clock + 1) hl (a2 hr clock), fr_setObj _ _ _⟩
    simp [Instr.mapUpdate, run_underlying hT, MapKept.run_getObj_map hb, run_checkKey (n := 9999) hK, hfk, MapKept.run_setObj_map _ hb, Result.andThen]
  | some p =>
    obtain ⟨j, u⟩ := p
    obtain ⟨b1, b2, _⟩ := a1 j u hr
    rw [Nat.sub_zero] at b1 b2
    refine ⟨_, ?_, MapI.setObj (clock := clock) hl b2, fr_setObj _ _ _⟩
    have hs : (Instr.keyThatStays ((Option.map (fun e => e.key) ents[j]?).getD (.int .i64 x)) (.int .i64 x)).run P w = .ok (.int .i64 x) w := by
      rw [b1]
      simp [Instr.keyThatStays, Instr.sameBits]
    simp [Instr.mapUpdate, run_underlying hT, MapKept.run_getObj_map hb, run_checkKey (n := 9999) hK, hfk, hs, MapKept.run_setObj_map _ hb, Result.andThen]
theorem run_delete_int (hT : P.underlying T = some (.map K E)) (hK : P.underlying K = some (.int .i64)) (hm : MapI w b es) (x : Int) (K' ty : TypeId) :
    ∃ w', (Builtin.delete_ #[T, K'] ty #[.map (some b), .int .i64 x]).run P w = .ok (.tuple #[]) w' ∧ MapI w' b (dropKey es x) ∧ Fr (fun g => g = b) w w' := by
  have hl := hm.lt
  obtain ⟨ents, clock, hb, he⟩ := hm
  obtain ⟨r, hr, _, hd, hn⟩ := run_findKey (P := P) (w := w) hK x he
  cases r with
  | none =>
    refine ⟨_, ?_, MapI.setObj (clock := clock) hl (by rw [hn rfl]; exact he), fr_setObj _ _ _⟩
    simp [Builtin.delete_, run_underlying hT, MapKept.run_getObj_map hb, run_checkKey (n := 9999) hK, hr, MapKept.run_setObj_map _ hb, Result.andThen]
  | some p =>
    obtain ⟨j, u⟩ := p
    obtain ⟨h1, h2⟩ := hd j u rfl
    refine ⟨_, ?_, MapI.setObj (clock := clock) hl h2, fr_setObj _ _ _⟩
    simp [Builtin.delete_, run_underlying hT, MapKept.run_getObj_map hb, run_checkKey (n := 9999) hK, hr, MapKept.run_setObj_map _ hb, Result.andThen, Array.eraseIdxIfInBounds, h1]
theorem run_len_int (hT : P.underlying T = some (.map K E)) (hm : MapI w b es) (ty : TypeId) :
    (Builtin.len_ #[T] ty #[.map (some b)]).run P w = .ok (.int .i64 (es.length : Int)) w := by
  obtain ⟨ents, clock, hb, he⟩ := hm
  have : ents.length = es.length := by simpa using congrArg List.length he
  simp [Builtin.len_, run_underlying hT, MapKept.run_getObj_map hb, goInt, Result.andThen, this]
end

/-! ### at the operation, for the walk -/
section
variable {P : Program} {w : World} {ops : Array Oper} {rest : List Oper} {o : Oper} {a : Act} {Q : Exit → Act → World → Prop} {b : Nat} {es : List (Int × Value)}
theorem wpList_lookup_int (hg : o.guard = none) (m x : Operand) (t : TypeId) (ok : Bool) (hop : o.op = Op.lookup t m x ok) {K E : TypeId} (hT : P.underlying t = some (.map K E)) (hK : P.underlying K = some (.int .i64))
    {z : Value} (hz : (zeroValue E).run P w = .ok z w) (hm : a.eval m = .map (some b)) (hown : MapI w b es) (n : Int) (hx : a.eval x = .int .i64 n)
    {v : Value} (hv : (if ok then Value.tuple #[(look es n).getD z, .bool (look es n).isSome] else (look es n).getD z) = v) (h : wpList P ops Q rest (a.put o.dst v) w) : wpList P ops Q (o :: rest) a w := by
  refine wpList_plain hg fun K' hK' => ?_
  subst hv
  unfold Oper.wp
  simp only [execOp, hop, hm, hx, run_lookup_int hT hK hz hown n ok, Sem.run_bind, Sem.run_pure, Result.andThen]
  exact hK' _ _ h
theorem wpList_mapUpdate_int (hg : o.guard = none) (m x v : Operand) (t : TypeId) (hop : o.op = Op.mapUpdate t m x v) {K E : TypeId} (hT : P.underlying t = some (.map K E)) (hK : P.underlying K = some (.int .i64))
    (hm : a.eval m = .map (some b)) (hown : MapI w b es) (n : Int) (hx : a.eval x = .int .i64 n)
    (h : ∀ w', MapI w' b (setKey es n (a.eval v)) → Fr (fun g => g = b) w w' → wpList P ops Q rest (a.put o.dst undef) w') : wpList P ops Q (o :: rest) a w := by
  refine wpList_plain hg fun K' hK' => ?_
  obtain ⟨w', hr, h1, h2⟩ := run_mapUpdate_int hT hK hown n (a.eval v)
  unfold Oper.wp
  simp only [execOp, hop, hm, hx, hr, Sem.run_bind, Sem.run_pure, Result.andThen]
  exact hK' _ _ (h w' h1 h2)
theorem wpList_delete_int (hg : o.guard = none) (m x : Operand) (t k : TypeId) (hop : o.op = Op.call { callee := Callee.builtin Builtin.delete, args := #[m, x], argTypes := #[t, k] }) {K E : TypeId} (hT : P.underlying t = some (.map K E)) (hK : P.underlying K = some (.int .i64))
    (hm : a.eval m = .map (some b)) (hown : MapI w b es) (n : Int) (hx : a.eval x = .int .i64 n)
    (h : ∀ w', MapI w' b (dropKey es n) → Fr (fun g => g = b) w w' → wpList P ops Q rest (a.put o.dst (.tuple #[])) w') : wpList P ops Q (o :: rest) a w := by
  refine wpList_plain hg fun K' hK' => ?_
  obtain ⟨w', hr, h1, h2⟩ := run_delete_int hT hK hown n k o.type
  unfold Oper.wp
  simp [execOp, hop, resolve, invoke, builtin, hm, hx, hr, Result.andThen]
  exact hK' _ _ (h w' h1 h2)
theorem wpList_len_int (hg : o.guard = none) (m : Operand) (t : TypeId) (hop : o.op = Op.call { callee := Callee.builtin Builtin.len, args := #[m], argTypes := #[t] }) {K E : TypeId} (hT : P.underlying t = some (.map K E))
    (hm : a.eval m = .map (some b)) (hown : MapI w b es) (h : wpList P ops Q rest (a.put o.dst (.int .i64 (es.length : Int))) w) : wpList P ops Q (o :: rest) a w := by
  refine wpList_plain hg fun K' hK' => ?_
  unfold Oper.wp
  simp [execOp, hop, resolve, invoke, builtin, hm, run_len_int hT hown o.type, Result.andThen]
  exact hK' _ _ h
theorem step_mapUpdate_int {K' : Act → World → Prop} {E' : Prop} (hg : o.guard = none) (m x v : Operand) (t : TypeId) (hop : o.op = Op.mapUpdate t m x v) {K E : TypeId} (hT : P.underlying t = some (.map K E)) (hK : P.underlying K = some (.int .i64))
    (hm : a.eval m = .map (some b)) (hown : MapI w b es) (n : Int) (hx : a.eval x = .int .i64 n) {u : Value} (hv : a.eval v = u)
    (h : ∀ w', MapI w' b (setKey es n u) → Fr (fun g => g = b) w w' → K' (a.put o.dst undef) w') : if Region.wanted o (yielded ops a.tmps) = true then Oper.wp P o a w K' Q else E' := by
  have hw : Region.wanted o (yielded ops a.tmps) = true := by simp [Region.wanted, hg]
  rw [if_pos hw]
  obtain ⟨w', hr, h1, h2⟩ := run_mapUpdate_int hT hK hown n u
  unfold Oper.wp
  simp only [execOp, hop, hm, hx, hv, hr, Sem.run_bind, Sem.run_pure, Result.andThen]
  exact h w' h1 h2
end
end Go.Proofs.Ytgeiimifhbiklaa
