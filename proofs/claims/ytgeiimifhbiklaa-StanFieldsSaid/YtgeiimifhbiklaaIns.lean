/- slices.Insert of one field, slices.BinarySearchFunc, put, With: contracts, proved by walks. -/
import Derived.Test.YtgeiimifhbiklaaMsgB
import Derived.IntWalk
namespace Go.Proofs.Ytgeiimifhbiklaa
open Go.RowKit

/-! ### Laws of copy and append -/
theorem wpList_zeros_run {P : Program} {w : World} {ops : Array Oper} {rest : List Oper} {o : Oper} {a : Act} {Q : Exit → Act → World → Prop} {R : Value → World → Prop} {v u : Value}
    (hgd : o.guard = none) (s x : Operand) (ats : Array TypeId) (ho : o.op = .call { callee := .builtin .append, args := #[s, x], argTypes := ats }) (hs : a.eval s = v) (hx : a.eval x = u)
    (hrun : ∃ v' w', (Builtin.append_ ats o.type #[v, u]).run P w = .ok v' w' ∧ R v' w') (h : ∀ v' w', R v' w' → wpList P ops Q rest (a.put o.dst v') w') : wpList P ops Q (o :: rest) a w :=
  wpList_plain hgd fun K hK => by
    obtain ⟨v', w', hr, hR⟩ := hrun
    unfold Oper.wp execOp
    simp only [ho, resolve, invoke, builtin, Sem.run_bind, Sem.run_pure, Result.andThen_ok, List.map_toArray, List.map_cons, List.map_nil, hs, hx, hr]
    exact hK _ _ (h v' w' hR)
theorem step_zeros_run {P : Program} {w : World} {ops : Array Oper} {o : Oper} {a : Act} {K : Act → World → Prop} {Q : Exit → Act → World → Prop} {E : Prop} {R : Value → World → Prop} {v u : Value}
    (hgd : o.guard = none) (s x : Operand) (ats : Array TypeId) (ho : o.op = .call { callee := .builtin .append, args := #[s, x], argTypes := ats }) (hs : a.eval s = v) (hx : a.eval x = u)
    (hrun : ∃ v' w', (Builtin.append_ ats o.type #[v, u]).run P w = .ok v' w' ∧ R v' w') (h : ∀ v' w', R v' w' → K (a.put o.dst v') w') :
    if Region.wanted o (yielded ops a.tmps) = true then Oper.wp P o a w K Q else E := by
  have hw : Region.wanted o (yielded ops a.tmps) = true := by simp [Region.wanted, hgd]
  rw [if_pos hw]
  obtain ⟨v', w', hr, hR⟩ := hrun
  unfold Oper.wp execOp
  simp only [ho, resolve, invoke, builtin, Sem.run_bind, Sem.run_pure, Result.andThen_ok, List.map_toArray, List.map_cons, List.map_nil, hs, hx, hr]
  exact h v' w' hR
theorem wpList_copy_run {P : Program} {w : World} {ops : Array Oper} {rest : List Oper} {o : Oper} {a : Act} {Q : Exit → Act → World → Prop} {R : Value → World → Prop} {v u : Value}
    (hgd : o.guard = none) (s x : Operand) (ats : Array TypeId) (ho : o.op = .call { callee := .builtin .copy, args := #[s, x], argTypes := ats }) (hs : a.eval s = v) (hx : a.eval x = u)
    (hrun : ∃ v' w', (Builtin.copy_ ats o.type #[v, u]).run P w = .ok v' w' ∧ R v' w') (h : ∀ v' w', R v' w' → wpList P ops Q rest (a.put o.dst v') w') : wpList P ops Q (o :: rest) a w :=
  wpList_plain hgd fun K hK => by
    obtain ⟨v', w', hr, hR⟩ := hrun
    unfold Oper.wp execOp
    simp only [ho, resolve, invoke, builtin, Sem.run_bind, Sem.run_pure, Result.andThen_ok, List.map_toArray, List.map_cons, List.map_nil, hs, hx, hr]
    exact hK _ _ (h v' w' hR)
theorem step_copy_run {P : Program} {w : World} {ops : Array Oper} {o : Oper} {a : Act} {K : Act → World → Prop} {Q : Exit → Act → World → Prop} {E : Prop} {R : Value → World → Prop} {v u : Value}
    (hgd : o.guard = none) (s x : Operand) (ats : Array TypeId) (ho : o.op = .call { callee := .builtin .copy, args := #[s, x], argTypes := ats }) (hs : a.eval s = v) (hx : a.eval x = u)
    (hrun : ∃ v' w', (Builtin.copy_ ats o.type #[v, u]).run P w = .ok v' w' ∧ R v' w') (h : ∀ v' w', R v' w' → K (a.put o.dst v') w') :
    if Region.wanted o (yielded ops a.tmps) = true then Oper.wp P o a w K Q else E := by
  have hw : Region.wanted o (yielded ops a.tmps) = true := by simp [Region.wanted, hgd]
  rw [if_pos hw]
  obtain ⟨v', w', hr, hR⟩ := hrun
  unfold Oper.wp execOp
  simp only [ho, resolve, invoke, builtin, Sem.run_bind, Sem.run_pure, Result.andThen_ok, List.map_toArray, List.map_cons, List.map_nil, hs, hx, hr]
  exact h v' w' hR
/-- 'copy' into a row that is known. -/
theorem run_copy_size {P : Program} (w : World) (dT sT ty elem : TypeId) (g o dLen dCap : Nat) (a : Addr) (sLen sCap : Nat) (cur : Array Value) (t : TypeId) (cs : List Value) (size : Nat)
    (hu : P.underlying dT = some (.slice elem)) (hs : (P.info? elem).map (·.size) = some size)
    (hg : w.heap[g]? = some (.cells cur t (0, 0))) (hn : cs.length = Nat.min sLen dLen * size)
    (hsrc : ∀ j v, cs[j]? = some v → w.cell? (a.add j) = some v) (hfit : o + cs.length ≤ cur.size) (h1 : ∀ v ∈ cs, v.oneCell' = true) :
    (Builtin.copy_ #[dT, sT] ty #[.slice (some ⟨g, o, none⟩) dLen dCap, .slice (some a) sLen sCap]).run P w =
      .ok (goInt (Nat.min sLen dLen)) (w.setRow g (cur.toList.take o ++ cs ++ cur.toList.drop (o + cs.length)).toArray) := by
  have hl := run_loadCells_list (P := P) w a cs hsrc
  have hst := run_storeCells_at P g o t cs 0 cur w hg (by simpa using hfit) h1
  cases hq : P.info? elem with
  | none => simp [hq] at hs
  | some i =>
    have hi : i.size = size := by simpa [hq] using hs
    simp [Builtin.copy_, run_underlying hu, Builtin.lenOf, Builtin.firstCells, sizeOf, typeInfo, hq, hi, ← hn, hl, hst]
/-- 'append(s[:i], make([]T, m)...)' that grows. -/
theorem run_append_zeros {P : Program} (w : World) (t tn ty e : TypeId) (k : IntKind) (i : TypeInfo) (z : Value) (ht : P.underlying t = some (.slice e)) (htn : P.underlying tn = some (.int k)) (hi : P.info? e = some i) (hz : i.zero = some z)
    (b : Addr) (sLen sCap m : Nat) (olds : List Value) (hlo : olds.length = sLen * i.size) (holds : ∀ j v, olds[j]? = some v → w.cell? (b.add j) = some v)
    (hg : sCap < sLen + m) (hm : 0 < m * i.size) (hb : m * i.bytes ≤ 140737488355328) (h63 : sLen + m ≤ 4611686018427387904) (hfit : Builtin.nextslicecap (sLen + m) sCap * i.bytes ≤ 281474976710656) :
    (Builtin.append_ #[t, tn] ty #[.slice (some b) sLen sCap, .int .i64 (m : Int)]).run P w =
      .ok (.slice (some ⟨w.heap.size, 0, none⟩) (sLen + m) (grownCap w (sLen + m) sCap e))
        (w.drew.alloc (.cells (olds.toArray ++ Builtin.zeroCells z.cells m ++ Builtin.zeroCells z.cells (grownCap w (sLen + m) sCap e - (sLen + m))) e)) := by
  have hn : ¬ (sLen + m ≤ sCap) := by omega
  have h63' : ¬ (9223372036854775807 < ((sLen : Int) + (m : Int))) := by omega
  have h48' : ¬ (281474976710656 < Builtin.nextslicecap (sLen + m) sCap * i.bytes) := by omega
  have hw : IntKind.i64.wrap (m : Int) = (m : Int) := by rw [IntKind.wrap_i64]; omega
  have hb' : ¬ (281474976710656 < (m : Int) * (i.bytes : Int)) := by
    have h : ((m * i.bytes : Nat) : Int) ≤ 140737488355328 := by omega
    rw [Int.natCast_mul] at h
    omega
  have hfo := run_firstCells_some (P := P) w.drew i.size sLen b sLen sCap olds hlo (by simpa using holds)
  have hm' : ¬ m * i.size = 0 := by omega
  simp [Builtin.append_, run_underlying ht, run_underlying htn, sizeOf, typeInfo, zeroValue, hi, hz, asInt, asIntOf, hw, hb', hn, h63', h48', Question.forced, hfo, newRow, grownCap]
  rw [if_neg (by omega), if_neg hm']

theorem KOwn.split {w : World} {base m : Nat} : ∀ (a b : Ns) (ks : List Value) (S : List Nat), KOwn w base m (a.app b) ks S →
    ∃ ka kb Sa Sb, ks = ka ++ kb ∧ S = Sa ++ Sb ∧ KOwn w base m a ka Sa ∧ KOwn w base m b kb Sb
  | .nil, b, ks, S, h => ⟨[], ks, [], S, rfl, rfl, ⟨rfl, rfl⟩, h⟩
  | .cons t v k r, b, ks, S, h => by
    obtain ⟨A, c, ks1, S1, ks2, S2, h1, h2, h3, h4, h5⟩ := h
    obtain ⟨ka, kb, Sa, Sb, e1, e2, h6, h7⟩ := KOwn.split r b ks2 S2 h5
    subst h1 h2 e1 e2
    exact ⟨.slice A k.len c :: ka, kb, (blk A ++ S1) ++ Sa, Sb, by simp, by simp, ⟨A, c, ks1, S1, ka, Sa, rfl, rfl, h3, h4, h6⟩, h7⟩

/-- What an Insert of the element (tag, val, k) between l1 and l2 leaves. -/
def InsPost (w : World) (B : Nat) (l1 l2 : Ns) (tag : Int) (val : ByteArray) (k : Ns) (S S1 : List Nat) (e : Ending) (w' : World) : Prop :=
  ∃ A c S', e = .returned (.slice A (l1.app (.cons tag val k l2)).len c) ∧ Own w' B 76 0 (.slice A (l1.app (.cons tag val k l2)).len c) (l1.app (.cons tag val k l2)) S' ∧ S'.Nodup ∧
    (∀ g ∈ S', g ∈ S ∨ g ∈ S1 ∨ w.heap.size ≤ g) ∧ Fr (· ∈ S) w w'
theorem ins_own {w w' : World} {B : Nat} {l1 l2 : Ns} {tag : Int} {val : ByteArray} {k : Ns} {A A1 A2 : Option Addr} {c1 c2 : Nat} {ka kb ks1 : List Value} {Sa Sb S1' : List Nat}
    (ha : KOwn w B 0 l1 ka Sa) (hb : KOwn w B 0 l2 kb Sb) (hr1 : w.ownsRow B 114 3 (.slice A1 k.len c1) k.len (cellsOf k ks1)) (hk1 : KOwn w B 0 k ks1 S1')
    (hnd : (blk A ++ (Sa ++ Sb)).Nodup) (hnd1 : (blk A1 ++ S1').Nodup) (hdis : ∀ g ∈ blk A ++ (Sa ++ Sb), g ∉ blk A1 ++ S1')
    (hrow : w'.ownsRow B 76 3 (.slice A2 (l1.app (.cons tag val k l2)).len c2) (l1.app (.cons tag val k l2)).len (cellsOf l1 ka ++ ([.int .i64 tag, .string val, .slice A1 k.len c1] ++ cellsOf l2 kb)))
    (hA2 : blk A2 = blk A ∨ ∀ g ∈ blk A2, w.heap.size ≤ g) (hfr : Fr (· ∈ blk A) w w') :
    InsPost w B l1 l2 tag val k (blk A ++ (Sa ++ Sb)) (blk A1 ++ S1') (.returned (.slice A2 (l1.app (.cons tag val k l2)).len c2)) w' := by
  have la := ha.lt
  have lb := hb.lt
  have l1' := ownsRow_lt hr1
  have lk := hk1.lt
  have hka := ha.length
  simp only [List.nodup_append, List.mem_append] at hnd hnd1 hdis
  have fa : ∀ g ∈ Sa, ¬ g ∈ blk A := fun g h h' => hnd.2.2 g h' g (.inl h) rfl
  have fb : ∀ g ∈ Sb, ¬ g ∈ blk A := fun g h h' => hnd.2.2 g h' g (.inr h) rfl
  have f1 : ∀ g ∈ blk A1, ¬ g ∈ blk A := fun g h h' => hdis g (.inl h') (.inl h)
  have fk : ∀ g ∈ S1', ¬ g ∈ blk A := fun g h h' => hdis g (.inl h') (.inr h)
  refine ⟨A2, c2, blk A2 ++ (Sa ++ ((blk A1 ++ S1') ++ Sb)), rfl, ⟨A2, c2, ka ++ (.slice A1 k.len c1 :: kb), Sa ++ ((blk A1 ++ S1') ++ Sb), rfl, rfl, ?_, ?_⟩, ?_, ?_, hfr.mono fun g _ h => by simp [h]⟩
  · rw [cellsOf_app _ _ _ _ hka]
    simpa [cellsOf, marks] using hrow
  · refine KOwn.app _ _ _ _ _ _ (ha.fr hfr fa) ⟨A1, c1, ks1, S1', kb, Sb, rfl, rfl, ?_, hk1.fr hfr fk, hb.fr hfr fb⟩
    simpa [marks] using ownsRow_keep hr1 fun g hg => hfr.block g (l1' g hg).2 (f1 g hg)
  · have hnew : ∀ g ∈ blk A2, g ∉ Sa ∧ g ∉ Sb ∧ g ∉ blk A1 ∧ g ∉ S1' := by
      intro g hg
      rcases hA2 with h | h
      · rw [h] at hg
        exact ⟨fun h' => fa g h' hg, fun h' => fb g h' hg, fun h' => f1 g h' hg, fun h' => fk g h' hg⟩
      · have := h g hg
        exact ⟨fun h' => by have := (la g h').2; omega, fun h' => by have := (lb g h').2; omega, fun h' => by have := (l1' g h').2; omega, fun h' => by have := (lk g h').2; omega⟩
    simp only [List.nodup_append, List.mem_append]
    refine ⟨blk_nodup _, ⟨hnd.2.1.1, ⟨hnd1, hnd.2.1.2.1, fun a h b h' e => ?_⟩, fun a h b h' e => ?_⟩, fun a h b h' e => ?_⟩
    · subst e; exact hdis a (.inr (.inr h')) h
    · subst e
      rcases h' with h' | h'
      · exact hdis a (.inr (.inl h)) h'
      · exact hnd.2.1.2.2 a h a h' rfl
    · subst e
      have hn := hnew a h
      rcases h' with h' | (h' | h') | h'
      · exact hn.1 h'
      · exact hn.2.2.1 h'
      · exact hn.2.2.2 h'
      · exact hn.2.1 h'
  · intro g hg
    simp only [List.mem_append] at hg ⊢
    rcases hg with hg | hg | (hg | hg) | hg
    · rcases hA2 with h | h
      · rw [h] at hg; exact .inl (.inl hg)
      · exact .inr (.inr (h g hg))
    · exact .inl (.inr (.inl hg))
    · exact .inr (.inl (.inl hg))
    · exact .inr (.inl (.inr hg))
    · exact .inl (.inr (.inr hg))
theorem ov_find : Extern.find Try.f104 = some (Extern.SlicesOverlaps.overlaps #[35, 35] #[4]) := by kernel_rfl
theorem ov_findNext : (Extern.findNext Try.f104).isNone = true := by kernel_rfl
theorem ov_unf (a b : Addr) (la lb c d : Nat) : Extern.SlicesOverlaps.overlaps #[35, 35] #[4] #[.slice (some a) la c, .slice (some b) lb d] = (do
    let .slice elem ← underlying 35 | stuck "slices.overlaps: slice type expected"
    let size ← sizeOf elem
    if la = 0 ∨ lb = 0 ∨ size = 0 then pure (.bool false)
      else if a.block != b.block && (← frozen a) && (← frozen b) then unsupported .addressObserved
      else do
        if a.block != b.block then do
          noView a; noView b
          if ← mayBeOne a b then return .bool ((← choose (.extern "sameAddr.stringBytes" 2)) == 1)
        pure (.bool (a.block == b.block && a.off < b.off + lb * size && b.off < a.off + la * size))) := rfl
theorem run_overlaps {a b : Nat} (n m c d o o' : Nat) {w : World} {ca cb : Array Value} {ta tb : TypeId} (ha : Blk w a ta ca) (hb : Blk w b tb cb) (hab : a ≠ b) :
    (callFunc 104 #[.slice (some ⟨a, o, none⟩) n c, .slice (some ⟨b, o', none⟩) m d]).run Try.prog w = .ok (.value (.bool false)) w := by
  unfold Blk at ha hb
  obtain ⟨i, hi, _, hz, _⟩ := info_parts infoF
  have hn : Extern.findNext Try.f104 = none := Option.isNone_iff_eq_none.1 ov_findNext
  have hbd : Try.f104.body = none := Option.isNone_iff_eq_none.1 (by kernel_rfl)
  have hnm : ¬ (Try.f104.name = "runtime.NumGoroutine") := by decide +kernel
  simp [go_sem, callFunc, hn, hbd, ov_find, hnm]
  rw [ov_unf]
  simp [go_sem, run_underlying undF, hi, hz, sizeOf, typeInfo, hab, noView, mayBeOne, viewAt, stringish, World.shape?, World.frozen?, ha, hb]

theorem insert_end {l1 : Ns} {w : World} {B : Nat} {v : Value} {S : List Nat} {X : Nat} {tag : Int} {val : ByteArray} {A1 : Option Addr} {c1 : Nat} {k : Ns} {S1 : List Nat}
    (hown : Own w B 76 0 v l1 S) (hB : B ≤ w.heap.size) (hnd : S.Nodup) (hx : Blk w X 76 #[.int .i64 tag, .string val, .slice A1 k.len c1])
    (hk : Own w B 114 0 (.slice A1 k.len c1) k S1) (hnd1 : S1.Nodup) (hdis : ∀ g ∈ S, g ∉ S1) (hlen : l1.len ≤ 1099511627776) :
    Calls Try.prog 98 #[v, .int .i64 l1.len, .slice (some ⟨X, 0, none⟩) 1 1] w (InsPost w B l1 .nil tag val k S S1) := by
  have hq := Lib.hid (push_run (X := X) 35 35 undF infoF hown hB hnd (hx.cell 0) (hx.cell 1) (hx.cell 2) hk hnd1 hdis hlen)
  obtain ⟨A, c, ks, S', rfl, _, hrow, _⟩ := hown
  have hcl : l1.len ≤ c := by
    obtain ⟨A', c', h, h'⟩ := ownsRow_form hrow
    injection h with _ _ h
    omega
  have hL := Lib.hid hlen
  have hb : l1.len < 9223372036854775807 := by omega
  clear hlen hrow hk hx
  by_cases hc : c = l1.len
  case' pos => have HC := Lib.hid hc
  all_goals
    go_enter Try.func98, Try.ntmps98
    go_wp2_with (at_builtin; refine wpList_append_run rfl _ _ _ rfl rfl rfl hq.out ?_; intro v' w2 hp2; obtain ⟨A2, c2, S2, rfl, hown2, hnd2, hsub, hfr2⟩ := hp2)
    go_ret
    exact ⟨A2, c2, S2, by simp [Ns.len_app, Ns.len], by simpa [Ns.len_app, Ns.len, Ns.one] using hown2, hnd2, fun g hg => (hsub g hg).imp id (Or.imp id fun h => by omega), hfr2⟩
/-- Lists cut and laid over: the cells of an Insert with room. -/
theorem ins_cells {α : Type} (x y n r : List α) (hr : n.length ≤ r.length) :
    ((x ++ (y ++ r)).take (x.length + n.length) ++ y ++ (x ++ (y ++ r)).drop (x.length + n.length + y.length)).take x.length ++ n ++
      ((x ++ (y ++ r)).take (x.length + n.length) ++ y ++ (x ++ (y ++ r)).drop (x.length + n.length + y.length)).drop (x.length + n.length) = x ++ (n ++ y) ++ r.drop n.length := by
  obtain ⟨t, ht, e⟩ : ∃ t : List α, t.length = n.length ∧ (x ++ (y ++ r)).take (x.length + n.length) = x ++ t :=
    ⟨(y ++ r).take n.length, by simp only [List.length_take, List.length_append]; omega, by rw [List.take_append, List.take_of_length_le (by omega)]; simp only [Nat.add_sub_cancel_left]⟩
  have h3 : (x ++ (y ++ r)).drop (x.length + n.length + y.length) = r.drop n.length := by
    rw [← List.append_assoc, List.drop_append, List.drop_of_length_le (by simp only [List.length_append]; omega)]
    simp only [List.nil_append, List.length_append]
    congr 1
    omega
  have h4 : (x ++ (t ++ (y ++ r.drop n.length))).drop (x.length + n.length) = y ++ r.drop n.length := by
    rw [← List.append_assoc, List.drop_append, List.drop_of_length_le (by simp; omega)]
    simp [ht]
  rw [e, h3]
  simp only [List.append_assoc]
  rw [h4, List.take_left]
theorem cellsOf_one {w : World} {base m : Nat} : ∀ (l : Ns) (ks : List Value) (S : List Nat), KOwn w base m l ks S → ∀ v ∈ cellsOf l ks, v.oneCell' = true
  | .nil, _, _, _, v, hv => by simp [cellsOf] at hv
  | .cons t v k r, ks, S, h, u, hu => by
    obtain ⟨A, c, ks1, S1, ks2, S2, h1, h2, h3, h4, h5⟩ := h
    subst h1
    simp only [cellsOf, List.mem_cons] at hu
    rcases hu with rfl | rfl | rfl | hu
    · rfl
    · rfl
    · rfl
    · exact cellsOf_one r ks2 S2 h5 u hu
set_option maxRecDepth 100000 in
set_option maxHeartbeats 400000 in
theorem insert_room {l1 l2 : Ns} {w : World} {B : Nat} {g c : Nat} {X : Nat} {tag : Int} {val : ByteArray} {A1 : Option Addr} {c1 : Nat} {k : Ns} {ka kb ks1 : List Value} {Sa Sb S1' : List Nat}
    (ha : KOwn w B 0 l1 ka Sa) (hb : KOwn w B 0 l2 kb Sb) (hrow : w.ownsRow B 76 3 (.slice (some ⟨g, 0, none⟩) (l1.app l2).len c) (l1.app l2).len (cellsOf l1 ka ++ cellsOf l2 kb))
    (hr1 : w.ownsRow B 114 3 (.slice A1 k.len c1) k.len (cellsOf k ks1)) (hk1 : KOwn w B 0 k ks1 S1') (h0 : 0 < l2.len) (hc : (l1.app l2).len + 1 ≤ c)
    (hnd : (g :: (Sa ++ Sb)).Nodup) (hnd1 : (blk A1 ++ S1').Nodup) (hdis : ∀ x ∈ g :: (Sa ++ Sb), x ∉ blk A1 ++ S1') (hx : Blk w X 76 #[.int .i64 tag, .string val, .slice A1 k.len c1]) (hX : X ≠ g)
    (hlen : (l1.app l2).len ≤ 1099511627776) :
    Calls Try.prog 98 #[.slice (some ⟨g, 0, none⟩) (l1.app l2).len c, .int .i64 l1.len, .slice (some ⟨X, 0, none⟩) 1 1] w
      (InsPost w B l1 l2 tag val k (g :: (Sa ++ Sb)) (blk A1 ++ S1')) := by
  obtain ⟨i, hi, _, hz, _⟩ := info_parts infoF
  have hs : (Try.prog.info? 76).map (·.size) = some 3 := by rw [hi]; simp [hz]
  have hka := length_cellsOf _ _ ha.length
  have hkb := length_cellsOf _ _ hb.length
  have hln := Ns.len_app l1 l2
  obtain ⟨cur, hg, hcm, hcs, htake⟩ : ∃ cur, w.heap[g]? = some (.cells cur 76 (0, 0)) ∧ c ≤ maxLen ∧ cur.size = c * 3 ∧ cur.toList.take ((l1.app l2).len * 3) = cellsOf l1 ka ++ cellsOf l2 kb := by
    rcases hrow.2 with ⟨h, _⟩ | ⟨g', cap, cur, hv, _, hh, _, hcm, hcs, ht⟩
    · cases h
    · simp only [Value.slice.injEq, Option.some.injEq, Addr.mk.injEq, and_true, true_and] at hv
      obtain ⟨rfl, rfl⟩ := hv
      exact ⟨cur, hh, hcm, hcs, ht⟩
  have hcur : cur.toList = cellsOf l1 ka ++ (cellsOf l2 kb ++ cur.toList.drop ((l1.app l2).len * 3)) := by
    rw [← List.append_assoc, ← htake, List.take_append_drop]
  obtain ⟨rr, hrr⟩ : ∃ rr, rr = cur.toList.drop ((l1.app l2).len * 3) := ⟨_, rfl⟩
  rw [← hrr] at hcur
  have hlr : rr.length = (c - (l1.app l2).len) * 3 := by rw [hrr]; simp [hcs]; omega
  -- the first copy
  have q1 := run_copy_size (P := Try.prog) w.drew 35 35 3 76 g ((l1.len + 1) * 3) (l2.len) (c - (l1.len + 1)) ⟨g, l1.len * 3, none⟩ (l2.len + 1) (c - l1.len) cur 76 (cellsOf l2 kb) 3 undF hs hg
    (by rw [hkb]; simp) (by
      intro j v hj
      have hjl : j < (cellsOf l2 kb).length := (List.getElem?_eq_some_iff.1 hj).1
      rw [Addr.add_lit, cell_of_row w.drew g _ cur 76 (0, 0) hg, ← Array.getElem?_toList, hcur, List.getElem?_append_right (by omega), List.getElem?_append_left (by omega), ← hj]
      congr 1
      omega) (by rw [hkb, hcs]; omega) (cellsOf_one _ _ _ hb)
  obtain ⟨cur1, hcur1⟩ : ∃ cur1, cur1 = (cur.toList.take ((l1.len + 1) * 3) ++ cellsOf l2 kb ++ cur.toList.drop ((l1.len + 1) * 3 + (cellsOf l2 kb).length)).toArray := ⟨_, rfl⟩
  rw [← hcur1] at q1
  have hc1 : cur1.size = c * 3 := by rw [hcur1]; simp [hkb, hcs]; omega
  have hg1 := setRow_heap w.drew g cur cur1 76 (0, 0) hg
  have hx1 : Blk (w.drew.setRow g cur1) X 76 #[.int .i64 tag, .string val, .slice A1 k.len c1] := (setRow_other w.drew g X cur1 hX).trans hx
  have q2 := run_copy_size (P := Try.prog) (w.drew.setRow g cur1) 35 35 3 76 g (l1.len * 3) (l2.len + 1) (c - l1.len) ⟨X, 0, none⟩ 1 1 cur1 76 [.int .i64 tag, .string val, .slice A1 k.len c1] 3 undF hs hg1
    (by simp) (by
      intro j v hj
      rcases j with _ | _ | _ | j
      · simp at hj; subst hj; exact hx1.cell 0
      · simp at hj; subst hj; simpa [Addr.add_lit] using hx1.cell 1
      · simp at hj; subst hj; simpa [Addr.add_lit] using hx1.cell 2
      · simp at hj) (by simp [hc1]; omega) (by simp [Value.oneCell'])
  obtain ⟨cur2, hcur2⟩ : ∃ cur2, cur2 = (cur1.toList.take (l1.len * 3) ++ ([.int .i64 tag, .string val, .slice A1 k.len c1] : List Value) ++ cur1.toList.drop (l1.len * 3 + ([.int .i64 tag, .string val, .slice A1 k.len c1] : List Value).length)).toArray := ⟨_, rfl⟩
  rw [← hcur2] at q2
  have hc2 : cur2.size = c * 3 := by rw [hcur2]; simp [hc1]; omega
  have hg2 := setRow_heap (w.drew.setRow g cur1) g cur1 cur2 76 (0, 0) hg1
  have hcells : cur2.toList = cellsOf l1 ka ++ ([.int .i64 tag, .string val, .slice A1 k.len c1] ++ cellsOf l2 kb) ++ rr.drop 3 := by
    rw [hcur2, hcur1]
    have := ins_cells (cellsOf l1 ka) (cellsOf l2 kb) [Value.int .i64 tag, .string val, .slice A1 k.len c1] rr (by simp [hlr]; omega)
    simp only [hka, List.length_cons, List.length_nil] at this ⊢
    rw [← hcur] at this
    simpa [Nat.add_mul] using this
  have hfz : Fr (· ∈ blk (some ⟨g, 0, none⟩)) w ((w.drew.setRow g cur1).setRow g cur2) :=
    ⟨rfl, rfl, rfl, by simp, fun x _ hn => by
      have hxg : x ≠ g := fun e => hn (by simp [blk, e])
      rw [setRow_other _ g x cur2 hxg, setRow_other _ g x cur1 hxg]; rfl⟩
  have hlen' : (l1.app (.cons tag val k l2)).len = (l1.app l2).len + 1 := by simp only [Ns.len_app, Ns.len]; omega
  have hrow' : ((w.drew.setRow g cur1).setRow g cur2).ownsRow B 76 3 (.slice (some ⟨g, 0, none⟩) (l1.app (.cons tag val k l2)).len c) (l1.app (.cons tag val k l2)).len (cellsOf l1 ka ++ ([.int .i64 tag, .string val, .slice A1 k.len c1] ++ cellsOf l2 kb)) := by
    refine ⟨by simp only [List.length_append, hka, hkb, hlen', hln, List.length_cons, List.length_nil]; omega, .inr ⟨g, c, cur2, rfl, (hrow.lt g rfl).1, hg2, by omega, hcm, hc2, ?_⟩⟩
    rw [hcells, List.take_append_of_le_length (by simp only [List.length_append, hka, hkb, hlen', hln, List.length_cons, List.length_nil]; omega), List.take_of_length_le (by simp only [List.length_append, hka, hkb, hlen', hln, List.length_cons, List.length_nil]; omega)]
  have hfin := ins_own (A := some ⟨g, 0, none⟩) ha hb hr1 hk1 (by simpa [blk] using hnd) hnd1 (by simpa [blk] using hdis) hrow' (.inl rfl) hfz
  have HF := Lib.hid hfin
  have HL := Lib.hid hlen
  have HE := Lib.hid hlen'
  have HN := Lib.hid hln
  obtain ⟨n, hn⟩ : ∃ n, n = (l1.app l2).len := ⟨_, rfl⟩
  have hN := Lib.hid hn
  rw [← hn] at hc ⊢
  have hov := run_overlaps (a := X) (b := g) 1 (n - l1.len) 1 (c - (l1.len + 1)) 0 ((l1.len + 1) * 3) hx hg hX
  rw [show l2.len + 1 = n + 1 - l1.len from by omega, show l2.len = n - l1.len from by omega] at q1
  rw [show l2.len + 1 = n + 1 - l1.len from by omega] at q2
  have Q1 := Lib.hid (show ∃ v' w', (Builtin.copy_ #[35, 35] 3 #[.slice (some ⟨g, (l1.len + 1) * 3, none⟩) (n - l1.len) (c - (l1.len + 1)), .slice (some ⟨g, l1.len * 3, none⟩) (n + 1 - l1.len) (c - l1.len)]).run Try.prog w.drew = .ok v' w' ∧ w' = w.drew.setRow g cur1 from ⟨_, _, q1, rfl⟩)
  have Q2 := Lib.hid (show ∃ v' w', (Builtin.copy_ #[35, 35] 3 #[.slice (some ⟨g, l1.len * 3, none⟩) (n + 1 - l1.len) (c - l1.len), .slice (some ⟨X, 0, none⟩) 1 1]).run Try.prog (w.drew.setRow g cur1) = .ok v' w' ∧ w' = (w.drew.setRow g cur1).setRow g cur2 from ⟨_, _, q2, rfl⟩)
  have u1 : IntKind.i64.wrap ((l1.len : Int) + 1) = (l1.len : Int) + 1 := IntWalk.i64_in _ (by omega)
  have u2 : ((l1.len : Int) + 1).toNat = l1.len + 1 := by omega
  have U1 := Lib.hid u1
  have U2 := Lib.hid u2
  clear u1 u2
  have t1 : ((l1.len : Int) == (n : Int)) = false := by simp; omega
  have t2 : ¬ c = l1.len := by omega
  have t3 : ¬ c = l1.len + 1 := by omega
  have t4 : l1.len < n := by omega
  have hb : n < 4611686018427387904 := by omega
  clear hfin q1 q2 hcells hrow' hcur2 hcur1 hcur hrr htake hn hlen' hln hlr hka hkb hrow hr1 hk1 ha hc1 hc2 hcs hfz hg1 hg2 hx1 hlen hi hs hz
  go_enter Try.func98, Try.ntmps98
  go_wp2_with fail
  have u1 := U1.out
  have u3 : (0 : Int) ≤ (l1.len : Int) + 1 := by omega
  have u4 : l1.len ≤ n := by omega
  have u5 : (l1.len : Int) ≤ (n : Int) + 1 := by omega
  have u6 : (l1.len : Int).toNat = l1.len := by omega
  have u2 := U2.out
  go_region_law (refine step_copy_run (by rfl) _ _ _ (by rfl) (by go_simp) (by go_simp) Q1.out ?_; rintro v1 w1 rfl)
  clear u1 u2 u3 u4 u5 u6
  go_wp2_with ((refine wpList_copy_run rfl (.tmp 80) (.tmp 81) #[35, 35] rfl rfl rfl Q2.out ?_); rintro v2 w2 rfl)
  go_ret
  have hh := HF.out
  rw [HE.out, ← hN.out] at hh
  exact hh

theorem splice_at {α : Type} (x n z : List α) (_ : n.length ≤ z.length) : (x ++ z).take x.length ++ n ++ (x ++ z).drop (x.length + n.length) = x ++ n ++ z.drop n.length := by
  rw [List.take_left, List.drop_append, List.drop_of_length_le (by omega)]
  simp only [Nat.add_sub_cancel_left, List.nil_append]
set_option maxRecDepth 100000 in
set_option maxHeartbeats 400000 in
theorem insert_grow {l1 l2 : Ns} {w : World} {B : Nat} {g c : Nat} {X : Nat} {tag : Int} {val : ByteArray} {A1 : Option Addr} {c1 : Nat} {k : Ns} {ka kb ks1 : List Value} {Sa Sb S1' : List Nat}
    (ha : KOwn w B 0 l1 ka Sa) (hb : KOwn w B 0 l2 kb Sb) (hrow : w.ownsRow B 76 3 (.slice (some ⟨g, 0, none⟩) (l1.app l2).len c) (l1.app l2).len (cellsOf l1 ka ++ cellsOf l2 kb))
    (hr1 : w.ownsRow B 114 3 (.slice A1 k.len c1) k.len (cellsOf k ks1)) (hk1 : KOwn w B 0 k ks1 S1') (h0 : 0 < l2.len) (hc : c < (l1.app l2).len + 1)
    (hnd : (g :: (Sa ++ Sb)).Nodup) (hnd1 : (blk A1 ++ S1').Nodup) (hdis : ∀ x ∈ g :: (Sa ++ Sb), x ∉ blk A1 ++ S1') (hx : Blk w X 76 #[.int .i64 tag, .string val, .slice A1 k.len c1])
    (hlen : (l1.app l2).len ≤ 1099511627776) (hB : B ≤ w.heap.size) :
    Calls Try.prog 98 #[.slice (some ⟨g, 0, none⟩) (l1.app l2).len c, .int .i64 l1.len, .slice (some ⟨X, 0, none⟩) 1 1] w
      (InsPost w B l1 l2 tag val k (g :: (Sa ++ Sb)) (blk A1 ++ S1')) := by
  obtain ⟨i, hi, hz0, hz, hby⟩ := info_parts infoF
  have hs : (Try.prog.info? 76).map (·.size) = some 3 := by rw [hi]; simp [hz]
  have hka := length_cellsOf _ _ ha.length
  have hkb := length_cellsOf _ _ hb.length
  have hln := Ns.len_app l1 l2
  have hcn : (l1.app l2).len ≤ c := by
    obtain ⟨A', c', h, h'⟩ := ownsRow_form hrow
    injection h with _ _ h
    omega
  have hcells : ∀ j u, (cellsOf l1 ka ++ cellsOf l2 kb)[j]? = some u → w.cell? ⟨g, j, none⟩ = some u := by
    intro j u hj
    have := hrow.cells (g := g) rfl j u hj
    simpa [Addr.add_lit] using this
  obtain ⟨n, hn⟩ : ∃ n, n = (l1.app l2).len := ⟨_, rfl⟩
  -- the append
  have q0 := run_append_zeros (P := Try.prog) w 35 3 35 76 .i64 i _ undF (by kernel_rfl) hi hz0 ⟨g, 0, none⟩ l1.len c (l2.len + 1) (cellsOf l1 ka) (by rw [hka, hz]) (by
      intro j u hj
      have := hcells j u (by rw [List.getElem?_append_left (by rw [hka]; have := (List.getElem?_eq_some_iff.1 hj).1; omega)]; exact hj)
      simpa [Addr.add_lit] using this) (by omega) (by rw [hz]; omega) (by rw [hby]; omega) (by omega) (growslice_fits (by omega) (by rw [hby]; omega))
  obtain ⟨c3, hc3⟩ : ∃ c3, c3 = grownCap w (l1.len + (l2.len + 1)) c 76 := ⟨_, rfl⟩
  have hge := grownCap_ge w (l1.len + (l2.len + 1)) c 76
  have hcm := grownCap_le_maxLen w (l1.len + (l2.len + 1)) c 76 (by simp only [maxLen]; omega)
  rw [← hc3] at q0 hge hcm
  obtain ⟨z, hzz⟩ : ∃ z : List Value, z = (Builtin.zeroCells (Value.cells (.agg #[.int .i64 0, .string ⟨#[]⟩, .slice none 0 0])) (l2.len + 1)).toList ++ (Builtin.zeroCells (Value.cells (.agg #[.int .i64 0, .string ⟨#[]⟩, .slice none 0 0])) (c3 - (l1.len + (l2.len + 1)))).toList := ⟨_, rfl⟩
  have hlz : z.length = (c3 - l1.len) * 3 := by
    rw [hzz]; simp [size_zeroCells, Value.cells]; omega
  obtain ⟨cur0, hcur0⟩ : ∃ cur0, cur0 = (cellsOf l1 ka ++ z).toArray := ⟨_, rfl⟩
  have e0 : (cellsOf l1 ka).toArray ++ Builtin.zeroCells (Value.cells (.agg #[.int .i64 0, .string ⟨#[]⟩, .slice none 0 0])) (l2.len + 1) ++ Builtin.zeroCells (Value.cells (.agg #[.int .i64 0, .string ⟨#[]⟩, .slice none 0 0])) (c3 - (l1.len + (l2.len + 1))) = cur0 := by
    rw [hcur0, hzz]; apply Array.ext'; simp
  rw [e0] at q0
  obtain ⟨W1, hW1⟩ : ∃ W1, W1 = w.drew.alloc (.cells cur0 76) := ⟨_, rfl⟩
  have hg1 : W1.heap[w.heap.size]? = some (.cells cur0 76 (0, 0)) := by rw [hW1]; exact heap_alloc_new w.drew _
  have hf1 : Fr0 w W1 := by rw [hW1]; exact (Fr.refl _ _).drew.alloc _
  rw [← hW1] at q0
  have hx1 : Blk W1 X 76 #[.int .i64 tag, .string val, .slice A1 k.len c1] := hx.fr0 hf1
  have hsz0 : cur0.size = c3 * 3 := by rw [hcur0]; simp [hka, hlz]; omega
  -- the first copy
  have q1 := run_copy_size (P := Try.prog) W1 35 35 3 76 w.heap.size (l1.len * 3) (l2.len + 1) (c3 - l1.len) ⟨X, 0, none⟩ 1 1 cur0 76 [.int .i64 tag, .string val, .slice A1 k.len c1] 3 undF hs hg1
    (by simp) (by
      intro j v hj
      rcases j with _ | _ | _ | j
      · simp at hj; subst hj; exact hx1.cell 0
      · simp at hj; subst hj; simpa [Addr.add_lit] using hx1.cell 1
      · simp at hj; subst hj; simpa [Addr.add_lit] using hx1.cell 2
      · simp at hj) (by simp [hsz0]; omega) (by simp [Value.oneCell'])
  obtain ⟨cur1, hcur1⟩ : ∃ cur1, cur1 = (cur0.toList.take (l1.len * 3) ++ ([.int .i64 tag, .string val, .slice A1 k.len c1] : List Value) ++ cur0.toList.drop (l1.len * 3 + ([.int .i64 tag, .string val, .slice A1 k.len c1] : List Value).length)).toArray := ⟨_, rfl⟩
  rw [← hcur1] at q1
  have hl1 : cur1.toList = cellsOf l1 ka ++ [.int .i64 tag, .string val, .slice A1 k.len c1] ++ z.drop 3 := by
    rw [hcur1, hcur0]
    have := splice_at (cellsOf l1 ka) [Value.int .i64 tag, .string val, .slice A1 k.len c1] z (by rw [hlz]; simp; omega)
    rw [hka] at this
    simpa using this
  have hsz1 : cur1.size = c3 * 3 := by rw [← Array.length_toList, hl1]; simp [hka, hlz]; omega
  have hg2 := setRow_heap W1 w.heap.size cur0 cur1 76 (0, 0) hg1
  have hf2 : Fr0 w ((W1.setRow w.heap.size cur1).drew) :=
    ⟨hf1.os, hf1.tape, hf1.output, by simpa using hf1.size, fun x hx hn => (setRow_other W1 w.heap.size x cur1 (by omega)).trans (hf1.block x hx hn)⟩
  -- the second copy
  have q2 := run_copy_size (P := Try.prog) (W1.setRow w.heap.size cur1).drew 35 35 3 76 w.heap.size ((l1.len + 1) * 3) l2.len (c3 - (l1.len + 1)) ⟨g, l1.len * 3, none⟩ l2.len (c - l1.len) cur1 76 (cellsOf l2 kb) 3 undF hs hg2
    (by rw [hkb]; simp) (by
      intro j v hj
      have h1 := hcells (l1.len * 3 + j) v (by rw [List.getElem?_append_right (by omega), hka, Nat.add_sub_cancel_left]; exact hj)
      have h2 := hf2.cell0 h1
      simpa [Addr.add_lit] using h2) (by rw [hkb, hsz1]; omega) (cellsOf_one _ _ _ hb)
  obtain ⟨cur2, hcur2⟩ : ∃ cur2, cur2 = (cur1.toList.take ((l1.len + 1) * 3) ++ cellsOf l2 kb ++ cur1.toList.drop ((l1.len + 1) * 3 + (cellsOf l2 kb).length)).toArray := ⟨_, rfl⟩
  rw [← hcur2] at q2
  have hl2 : cur2.toList = (cellsOf l1 ka ++ ([.int .i64 tag, .string val, .slice A1 k.len c1] ++ cellsOf l2 kb)) ++ (z.drop 3).drop (l2.len * 3) := by
    rw [hcur2, hl1]
    have hxl : (cellsOf l1 ka ++ ([.int .i64 tag, .string val, .slice A1 k.len c1] : List Value)).length = (l1.len + 1) * 3 := by simp [hka]; omega
    have := splice_at (cellsOf l1 ka ++ [Value.int .i64 tag, .string val, .slice A1 k.len c1]) (cellsOf l2 kb) (z.drop 3) (by rw [hkb]; simp [hlz]; omega)
    rw [hxl] at this
    rw [hkb] at this ⊢
    simpa using this
  have hsz2 : cur2.size = c3 * 3 := by rw [← Array.length_toList, hl2]; simp [hka, hkb, hlz]; omega
  have hg3 := setRow_heap (W1.setRow w.heap.size cur1).drew w.heap.size cur1 cur2 76 (0, 0) hg2
  obtain ⟨W3, hW3⟩ : ∃ W3, W3 = (W1.setRow w.heap.size cur1).drew.setRow w.heap.size cur2 := ⟨_, rfl⟩
  rw [← hW3] at q2 hg3
  have hf3 : Fr0 w W3 := by
    rw [hW3]
    exact ⟨hf2.os, hf2.tape, hf2.output, by simpa using hf2.size, fun x hx hn => (setRow_other _ w.heap.size x cur2 (by omega)).trans (hf2.block x hx hn)⟩
  have hlen' : (l1.app (.cons tag val k l2)).len = (l1.app l2).len + 1 := by simp only [Ns.len_app, Ns.len]; omega
  have hrow' : W3.ownsRow B 76 3 (.slice (some ⟨w.heap.size, 0, none⟩) (l1.app (.cons tag val k l2)).len c3) (l1.app (.cons tag val k l2)).len (cellsOf l1 ka ++ ([.int .i64 tag, .string val, .slice A1 k.len c1] ++ cellsOf l2 kb)) := by
    refine ⟨by simp only [List.length_append, hka, hkb, hlen', hln, List.length_cons, List.length_nil]; omega, .inr ⟨w.heap.size, c3, cur2, rfl, hB, hg3, by omega, hcm, hsz2, ?_⟩⟩
    rw [hl2, List.take_append_of_le_length (by simp only [List.length_append, hka, hkb, hlen', hln, List.length_cons, List.length_nil]; omega), List.take_of_length_le (by simp only [List.length_append, hka, hkb, hlen', hln, List.length_cons, List.length_nil]; omega)]
  have hfin := ins_own (A := some ⟨g, 0, none⟩) ha hb hr1 hk1 (by simpa [blk] using hnd) hnd1 (by simpa [blk] using hdis) hrow' (.inr (by simp [blk])) (hf3.mono fun _ _ h => h.elim)
  have HF := Lib.hid hfin
  have Q0 := Lib.hid (show ∃ v' w', (Builtin.append_ #[35, 3] 35 #[.slice (some ⟨g, 0, none⟩) l1.len c, .int .i64 ((n : Int) + 1 - l1.len)]).run Try.prog w = .ok v' w' ∧ (v' = .slice (some ⟨w.heap.size, 0, none⟩) (n + 1) c3 ∧ w' = W1) from
    ⟨_, _, by rw [show (n : Int) + 1 - l1.len = ((l2.len + 1 : Nat) : Int) from by omega]; exact q0, by rw [show n + 1 = l1.len + (l2.len + 1) from by omega], rfl⟩)
  have Q1 := Lib.hid (show ∃ v' w', (Builtin.copy_ #[35, 35] 3 #[.slice (some ⟨w.heap.size, l1.len * 3, none⟩) (n + 1 - l1.len) (c3 - l1.len), .slice (some ⟨X, 0, none⟩) 1 1]).run Try.prog W1 = .ok v' w' ∧ w' = W1.setRow w.heap.size cur1 from
    ⟨_, _, by rw [show n + 1 - l1.len = l2.len + 1 from by omega]; exact q1, rfl⟩)
  have Q2 := Lib.hid (show ∃ v' w', (Builtin.copy_ #[35, 35] 3 #[.slice (some ⟨w.heap.size, (l1.len + 1) * 3, none⟩) (n - l1.len) (c3 - (l1.len + 1)), .slice (some ⟨g, l1.len * 3, none⟩) (n - l1.len) (c - l1.len)]).run Try.prog (W1.setRow w.heap.size cur1).drew = .ok v' w' ∧ w' = W3 from
    ⟨_, _, by rw [show n - l1.len = l2.len from by omega]; exact q2, rfl⟩)
  have HE := Lib.hid hlen'
  have hN := Lib.hid hn
  rw [← hn] at hc hcn ⊢
  have u1 : IntKind.i64.wrap ((l1.len : Int) + 1) = (l1.len : Int) + 1 := IntWalk.i64_in _ (by omega)
  have u2 : ((l1.len : Int) + 1).toNat = l1.len + 1 := by omega
  have U1 := Lib.hid u1
  have U2 := Lib.hid u2
  clear u1 u2
  have t1 : ((l1.len : Int) == (n : Int)) = false := by simp; omega
  have t2 : ¬ c = l1.len := by omega
  have t3 : ¬ c3 = l1.len + 1 := by omega
  have t5 : ¬ c3 = l1.len := by omega
  have t4 : l1.len < n := by omega
  have t6 : n + 1 ≤ c3 := by omega
  have hb : n < 4611686018427387904 := by omega
  clear hfin q0 q1 q2 hrow' hcur2 hcur1 hcur0 hn hlen' hln hlz hka hkb hrow hr1 hk1 ha hsz0 hsz1 hsz2 hf1 hf2 hf3 hg1 hg2 hg3 hx1 hlen hi hs hz hz0 hby e0 hl1 hl2 hW1 hW3 hcells hzz hc3 hge hcm
  go_enter Try.func98, Try.ntmps98
  go_wp2_with (first | (at_builtin; refine wpList_zeros_run rfl _ _ _ rfl rfl rfl Q0.out ?_; rintro v1 w1 ⟨rfl, rfl⟩) | ((refine wpList_copy_run rfl (.tmp 43) (.tmp 44) #[35, 35] rfl rfl rfl Q1.out ?_); rintro v2 w2 rfl))
  have u1 := U1.out
  have u3 : (0 : Int) ≤ (l1.len : Int) + 1 := by omega
  have u4 : l1.len ≤ n := by omega
  have u5 : (l1.len : Int) ≤ (n : Int) + 1 := by omega
  have u6 : (l1.len : Int).toNat = l1.len := by omega
  have u2 := U2.out
  go_region_law (refine step_copy_run (by rfl) _ _ _ (by rfl) (by go_simp) (by go_simp) Q2.out ?_; rintro v1 w1 rfl)
  clear u1 u2 u3 u4 u5 u6
  go_wp2
  go_ret
  have hh := HF.out
  rw [HE.out, ← hN.out] at hh
  exact hh

/-- slices.Insert of one element at place l1.len of the row l1 ++ l2. -/
theorem insert_any {l1 l2 : Ns} {w : World} {B : Nat} {v : Value} {S : List Nat} {X : Nat} {tag : Int} {val : ByteArray} {A1 : Option Addr} {c1 : Nat} {k : Ns} {S1 : List Nat}
    (hown : Own w B 76 0 v (l1.app l2) S) (hB : B ≤ w.heap.size) (hnd : S.Nodup) (hx : Blk w X 76 #[.int .i64 tag, .string val, .slice A1 k.len c1]) (hX : X ∉ S)
    (hk : Own w B 114 0 (.slice A1 k.len c1) k S1) (hnd1 : S1.Nodup) (hdis : ∀ g ∈ S, g ∉ S1) (hlen : (l1.app l2).len ≤ 1099511627776) :
    Calls Try.prog 98 #[v, .int .i64 l1.len, .slice (some ⟨X, 0, none⟩) 1 1] w (InsPost w B l1 l2 tag val k S S1) := by
  cases l2 with
  | nil =>
    rw [Ns.app_nil] at hown hlen
    exact insert_end hown hB hnd hx hk hnd1 hdis hlen
  | cons t v' k' r =>
    obtain ⟨A, c, ks, S', rfl, rfl, hrow, hkids⟩ := hown
    obtain ⟨A1', c1', ks1, S1', h1, rfl, hrow1, hkids1⟩ := hk
    simp only [Value.slice.injEq, true_and] at h1
    obtain ⟨rfl, rfl⟩ := h1
    obtain ⟨ka, kb, Sa, Sb, rfl, rfl, ha, hb⟩ := hkids.split
    simp only [marks, List.append_nil, Nat.add_zero] at hrow hrow1
    rw [cellsOf_app _ _ _ _ ha.length] at hrow
    have hpos : 0 < (l1.app (.cons t v' k' r)).len := by simp only [Ns.len_app, Ns.len]; omega
    obtain ⟨g, cap, hv, _, _⟩ := hrow.form hpos
    simp only [Value.slice.injEq, true_and] at hv
    obtain ⟨rfl, rfl⟩ := hv
    by_cases hc : (l1.app (.cons t v' k' r)).len + 1 ≤ c
    · exact insert_room (Sa := Sa) (Sb := Sb) ha hb hrow hrow1 hkids1 (by simp only [Ns.len]; omega) hc hnd hnd1 hdis hx (fun e => hX (by simp [blk, e])) hlen
    · exact insert_grow (Sa := Sa) (Sb := Sb) ha hb hrow hrow1 hkids1 (by simp only [Ns.len]; omega) (by omega) hnd hnd1 hdis hx hlen hB
end Go.Proofs.Ytgeiimifhbiklaa
