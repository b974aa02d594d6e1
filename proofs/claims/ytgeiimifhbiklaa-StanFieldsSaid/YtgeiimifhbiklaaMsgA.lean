/- The message package, first part: rows of numbers, closures, nodes, field, those, Copy, Keep, Without; contracts of these functions, proved by walks. -/
import Derived.Test.YtgeiimifhbiklaaMem
import Derived.Deep.QuietTactic
import Derived.BigQuiet
import Derived.WalkSpells
import Derived.Deep.RegionHeld3
import Derived.Deep.RegionLaw
namespace Go.Proofs.Ytgeiimifhbiklaa
open Go.RowKit

/-! ### Rows of ints -/
def RdI (w : World) (ok : Nat → Prop) (v : Value) (xs : List Int) : Prop :=
  ∃ A c, v = .slice A xs.length c ∧ xs.length ≤ c ∧ (xs = [] ∨ ∃ b o, A = some ⟨b, o, none⟩ ∧ ok b ∧ ∀ j x, xs[j]? = some x → w.cell? ⟨b, o + j, none⟩ = some (.int .i64 x))
theorem RdI.fr {w w' : World} {ok G : Nat → Prop} {v : Value} {xs : List Int} (h : RdI w ok v xs) (hf : Fr G w w') (hg : ∀ g, ok g → ¬ G g) : RdI w' ok v xs := by
  obtain ⟨A, c, h1, h2, h3⟩ := h
  refine ⟨A, c, h1, h2, ?_⟩
  rcases h3 with h3 | ⟨b, o, h3, h4, h5⟩
  · exact .inl h3
  · exact .inr ⟨b, o, h3, h4, fun j x hx => hf.cell_some (h5 j x hx) (hg b h4)⟩
theorem RdI.fr0 {w w' : World} {ok : Nat → Prop} {v : Value} {xs : List Int} (h : RdI w ok v xs) (hf : Fr0 w w') : RdI w' ok v xs := h.fr hf fun _ _ e => e

/-- An index found: not below 0 just if the number stands in the list. -/
def Found (xs : List Int) (x : Int) (w : World) (e : Ending) (w' : World) : Prop := ∃ r : Int, e = .returned (.int .i64 r) ∧ (0 ≤ r ↔ x ∈ xs) ∧ w = w'
theorem index_any (xs : List Int) (x : Int) (w : World) (ok : Nat → Prop) (v : Value) (hn : xs.length ≤ 9223372036854775807) (hr : RdI w ok v xs) :
    Calls Try.prog 67 #[v, .int .i64 x] w (Found xs x w) := by
  obtain ⟨A, c, rfl, _, hcase⟩ := hr
  go_enter Try.func67, Try.ntmps67
  go_wp2
  go_loop [8] (fun i => ∃ k : Nat, k ≤ xs.length ∧ i = .int .i64 k ∧ x ∉ xs.take k) (fun i => xs.length - (intOf i).toNat)
  case atStart => exact ⟨0, Nat.zero_le _, rfl, by simp⟩
  case round =>
    obtain ⟨k, hk, rfl, hnot⟩ := hrel
    have hN := Lib.hid hnot
    clear hnot
    by_cases hlt : k < xs.length
    · rcases hcase with rfl | ⟨b, o, rfl, _, hc⟩
      · simp at hlt
      · have hc1 := hc k xs[k] (by simp [hlt])
        clear hc
        obtain ⟨y, hy⟩ : ∃ y, xs[k] = y := ⟨_, rfl⟩
        rw [hy] at hc1
        have hY := Lib.hid hy
        clear hy
        by_cases hxy : x = y
        · subst hxy
          go_wp2
          go_ret
          exact ⟨k, rfl, ⟨fun _ => by rw [← hY.out]; exact List.getElem_mem _, fun _ => by omega⟩, rfl⟩
        · have hb : (x == y) = false := by simpa using hxy
          go_wp2
          go_round
          case rel => exact ⟨k + 1, by omega, by go_num, by rw [List.take_succ_eq_append_getElem hlt, hY.out]; simp only [List.mem_append, List.mem_singleton]; exact fun h => h.elim hN.out hxy⟩
          case measure => simp [intOf]; omega
    · go_wp2
      go_ret
      exact ⟨-1, rfl, ⟨fun h => absurd h (by omega), fun h => absurd (by rwa [List.take_of_length_le (by omega)]) hN.out⟩, rfl⟩

theorem contains_any (xs : List Int) (x : Int) (w : World) (ok : Nat → Prop) (v : Value) (hn : xs.length ≤ 9223372036854775807) (hr : RdI w ok v xs) :
    Calls Try.prog 42 #[v, .int .i64 x] w fun e w' => e = .returned (.bool (decide (x ∈ xs))) ∧ w = w' := by
  go_enter Try.func42, Try.ntmps42
  go_wp2_with fail
  refine (index_any xs x w ok v hn hr).mono ?_
  rintro e w' ⟨r, rfl, hr, rfl⟩
  have H := Lib.hid hr
  clear hr
  go_wp2
  go_ret
  exact ⟨by simp [H.out], rfl⟩

/-! ### number -/
def numberB (n : Int) : Bool := decide (2 ≤ n ∧ n ≤ 128 ∧ n ≠ 65)
theorem number_any (n : Int) (w : World) : Calls Try.prog 82 #[.int .i64 n] w fun e w' => e = .returned (.bool (numberB n)) ∧ w = w' := by
  by_cases h1 : 2 ≤ n
  · by_cases h2 : n ≤ 128
    · by_cases h3 : n = 65
      · subst h3
        go_enter Try.func82, Try.ntmps82
        go_wp2
        go_ret
        exact ⟨rfl, rfl⟩
      · have h3' : (n != 65) = true := by simpa using h3
        go_enter Try.func82, Try.ntmps82
        go_wp2
        go_ret
        exact ⟨by simp [numberB, h1, h2, h3], rfl⟩
    · go_enter Try.func82, Try.ntmps82
      go_wp2
      go_ret
      exact ⟨by simp [numberB]; omega, rfl⟩
  · go_enter Try.func82, Try.ntmps82
    go_wp2
    go_ret
    exact ⟨by simp [numberB]; omega, rfl⟩

/-! ### nodes, field -/
def NodesPost (w : World) (l : Ns) (e : Ending) (w' : World) : Prop := ∃ A c S, e = .returned (.slice A l.len c) ∧ Own w' w.heap.size 114 0 (.slice A l.len c) l S ∧ S.Nodup ∧ Fr0 w w'
theorem nodes_N (N : Nat) : ∀ (l : Ns) (w : World) (ok : Nat → Prop) (v : Value), l.sz < N → l.sz ≤ 1099511627776 → Rd w ok v l → Calls Try.prog 99 #[v] w (NodesPost w l) := by
  induction N with
  | zero => intro l w ok v h; omega
  | succ N ih0 =>
    have ih := Lib.hid ih0
    clear ih0
    intro l w ok v hl0 hs0 hr
    obtain ⟨A, c, rfl, hlc, hcase⟩ := hr
    have hl := Lib.hid hl0
    have hs := Lib.hid hs0
    have hb : l.len < 9223372036854775807 := by have := l.len_le_sz; omega
    clear hl0 hs0
    go_enter Try.func99, Try.ntmps99
    go_wp2
    go_loopw [3, 8] (fun v3 i wr => ∃ (done rest : Ns) (S : List Nat), l = done.app rest ∧ i = .int .i64 done.len ∧ Own wr w.heap.size 114 0 v3 done S ∧ S.Nodup ∧ Fr0 w wr ∧ (rest = .nil ∨ ∃ b o, A = some ⟨b, o, none⟩ ∧ RdFrom w ok rest b (o + done.len * 3))) (fun _ i _ => l.len - (intOf i).toNat)
    case atStart =>
      refine ⟨.nil, l, [], rfl, rfl, Own.nil _ _ _, List.nodup_nil, Fr.refl _ _, ?_⟩
      simpa [Ns.len] using hcase
    case round =>
      obtain ⟨done, rest, S, rfl, rfl, hown, hnd, hfr, hrest⟩ := hrel
      cases rest with
      | nil =>
        rw [Ns.app_nil]
        obtain ⟨A3, c3, _, _, rfl, _⟩ := id hown
        go_wp2_with fail
        go_ret
        exact ⟨A3, c3, S, by rw [Ns.app_nil]; rfl, by rw [Ns.app_nil]; exact hown, hnd, hfr⟩
      | cons t v k r =>
        simp only [reduceCtorEq, false_or] at hrest
        obtain ⟨b, o, rfl, hrd⟩ := hrest
        have hsz := Lib.hid (Ns.sz_app done (.cons t v k r))
        have hll := Lib.hid (Ns.len_app done (.cons t v k r))
        have hlt : (done.len : Int) < ((done.app (.cons t v k r)).len : Int) := by rw [hll.out]; simp only [Ns.len]; omega
        have hlt' : done.len < (done.app (.cons t v k r)).len := by omega
        have hrd' := hrd.fr0 hfr
        have h1 := hrd'.2.1
        have h2 := hrd'.2.2.1
        obtain ⟨A', c', h3, hk⟩ := hrd'.kids
        go_wp2_with fail
        have hf1 : Fr0 wr (wr.alloc (Obj.cells #[.int .i64 t, .string v, .slice A' k.len c'] 114)) := (Fr.refl _ _).alloc _
        refine (ih.out k _ ok _ (by have := hl.out; have := hsz.out; simp only [Ns.sz] at this; omega) (by have := hs.out; have := hsz.out; simp only [Ns.sz] at this; omega) (hk.fr0 hf1)).mono ?_
        rintro e w1 ⟨A1, c1, S1, rfl, hown1, hnd1, hfr1⟩
        have b0 : w1.cell? ⟨wr.heap.size, 0, none⟩ = some (.int .i64 t) := hfr1.cell0 (by go_simp)
        have b1 : w1.cell? ⟨wr.heap.size, 1, none⟩ = some (.string v) := hfr1.cell0 (by go_simp)
        have b2 : w1.cell? ⟨wr.heap.size, 2, none⟩ = some (.slice A' k.len c') := hfr1.cell0 (by go_simp)
        have b3 : w1.frozen? ⟨wr.heap.size, 2, none⟩ = false := (hfr1.frozen (by simp) id).trans (by go_simp)
        have hz1 := hfr1.size
        have hz := hfr.size
        simp only [World.size_alloc] at hz1 hown1
        have hfA : Fr0 wr ((w1.setCell ⟨wr.heap.size, 2, none⟩ (.slice A1 k.len c1)).alloc (Obj.cells #[.int .i64 t, .string v, .slice A1 k.len c1] 114)) := ((hf1.trans hfr1).setCell (.inl (Nat.le_refl _)) _).alloc _
        have hfB : Fr (· = wr.heap.size) w1 ((w1.setCell ⟨wr.heap.size, 2, none⟩ (.slice A1 k.len c1)).alloc (Obj.cells #[.int .i64 t, .string v, .slice A1 k.len c1] 114)) := ((Fr.refl (fun x => x = wr.heap.size) w1).setCell (p := ⟨wr.heap.size, 2, none⟩) (.inr rfl) _).alloc _
        have hp := Lib.hid (push_run (w := (w1.setCell ⟨wr.heap.size, 2, none⟩ (.slice A1 k.len c1)).alloc (Obj.cells #[.int .i64 t, .string v, .slice A1 k.len c1] 114)) (X := w1.heap.size) (e := 114) (B := w.heap.size) (l := done) (tag := t) (val := v) (k := k) (A1 := A1) (c1 := c1) (S := S) (S1 := S1) (v := u3) 74 74 undN infoN
          (hown.fr0 hfA) (by have := hfA.size; omega) hnd (by go_simp) (by go_simp) (by go_simp) ((hown1.mono (by omega)).fr hfB (fun g hg => by have := (hown1.lt g hg).1; omega)) hnd1
          (fun g hg hg1 => by have := (hown.lt g hg).2; have := (hown1.lt g hg1).1; omega) (by have := hs.out; have := hsz.out; have := done.len_le_sz; omega))
        go_wp2_with (at_builtin; refine wpList_append_run rfl _ _ _ rfl rfl rfl hp.out ?_; intro v' w2 hp2)
        obtain ⟨A2, c2, S2, rfl, hown2, hnd2, hsub, hfr2⟩ := hp2
        go_roundw
        case rel =>
          refine ⟨done.app (.one t v k), r, S2, by simp [Ns.app_assoc, Ns.one, Ns.app], by simp [Ns.len_app, Ns.one, Ns.len], hown2, hnd2, ?_, .inr ⟨b, o, rfl, ?_⟩⟩
          · exact (hfr.trans0 hfA).trans' hfr2 fun i hi hg => absurd (hown.lt i hg).1 (by omega)
          · have := hrd.2.2.2.2
            simp only [Ns.len_app, Ns.one, Ns.len]
            rwa [show o + (done.len + (0 + 1)) * 3 = o + done.len * 3 + 3 from by omega]
        case measure => simp [intOf]; omega

theorem nodes_any {l : Ns} {w : World} {ok : Nat → Prop} {v : Value} (hs : l.sz ≤ 1099511627776) (hr : Rd w ok v l) : Calls Try.prog 99 #[v] w (NodesPost w l) := nodes_N (l.sz + 1) l w ok v (by omega) hs hr

def FieldPost (w : World) (t : Int) (v : ByteArray) (k : Ns) (e : Ending) (w' : World) : Prop :=
  ∃ A c S, e = .returned (.agg #[.int .i64 t, .string v, .slice A k.len c]) ∧ Own w' w.heap.size 114 0 (.slice A k.len c) k S ∧ S.Nodup ∧ Fr0 w w'
set_option maxRecDepth 100000 in
theorem field_any {t : Int} {v : ByteArray} {k : Ns} {w : World} {ok : Nat → Prop} {A : Option Addr} {c : Nat} (hs : k.sz ≤ 1099511627776) (hr : Rd w ok (.slice A k.len c) k) :
    Calls Try.prog 84 #[.agg #[.int .i64 t, .string v, .slice A k.len c]] w (FieldPost w t v k) := by
  have hS := Lib.hid hs
  clear hs
  go_enter Try.func84, Try.ntmps84
  go_wp2_with fail
  have hf1 : Fr0 w ((w.alloc (Obj.cells #[.int .i64 t, .string v, .slice A k.len c] 76)).alloc (Obj.cells #[.int .i64 0, .string ⟨#[]⟩, .slice none 0 0] 76)) := ((Fr.refl _ _).alloc _).alloc _
  refine (nodes_any hS.out (hr.fr0 hf1)).mono ?_
  rintro e w1 ⟨A1, c1, S1, rfl, hown1, hnd1, hfr1⟩
  have hb1 : Blk w1 w.heap.size 76 #[.int .i64 t, .string v, .slice A k.len c] := ((Blk.new _ _ _).alloc _).fr0 hfr1
  have hb2 : Blk w1 (w.heap.size + 1) 76 #[.int .i64 0, .string ⟨#[]⟩, .slice none 0 0] := by
    have := Blk.new (w.alloc (Obj.cells #[.int .i64 t, .string v, .slice A k.len c] 76)) 76 #[.int .i64 0, .string ⟨#[]⟩, .slice none 0 0]
    simp only [World.size_alloc] at this
    exact this.fr0 hfr1
  have c10 := hb1.cell 0
  have c11 := hb1.cell 1
  have c12 := hb1.cell 2
  have d10 := hb1.frozen 0
  have d12 := hb1.frozen 2
  have c20 := hb2.cell 0
  have c21 := hb2.cell 1
  have c22 := hb2.cell 2
  have d20 := hb2.frozen 0
  have d21 := hb2.frozen 1
  have d22 := hb2.frozen 2
  go_wp2
  simp only [World.size_alloc] at hown1
  have hg : Fr (fun x => x = w.heap.size ∨ x = w.heap.size + 1) w1 ((((w1.setCell ⟨w.heap.size, 2, none⟩ (.slice A1 k.len c1)).setCell ⟨w.heap.size + 1, 0, none⟩ (.int .i64 t)).setCell ⟨w.heap.size + 1, 1, none⟩ (.string v)).setCell ⟨w.heap.size + 1, 2, none⟩ (.slice A1 k.len c1)) :=
    ((((Fr.refl _ w1).setCell (.inr (.inl rfl)) _).setCell (.inr (.inr rfl)) _).setCell (.inr (.inr rfl)) _).setCell (.inr (.inr rfl)) _
  exact bodyPost_ret (v := .agg #[.int .i64 t, .string v, .slice A1 k.len c1]) (by simp [results, Try.results84, go_sem, c20, c21, c22]) rfl
    ⟨A1, c1, S1, rfl, (hown1.mono (by omega)).fr hg (fun g hs => by have := (hown1.lt g hs).1; omega), hnd1, (hf1.trans hfr1).trans' hg (fun i hi h => by omega)⟩

/-! ### those, Copy, Keep, Without -/
structure Clo (w : World) (f : Nat) (caps : Array Value) (p : Int → Bool) : Prop where
  enter : ∀ args W, (callFunc f args).run Try.prog W = .ok (.enter f args) W
  call : ∀ n W, Fr0 w W → Calls Try.prog f (#[.int .i64 n] ++ caps) W fun e W' => e = .returned (.bool (p n)) ∧ W = W'
def ThosePost (w : World) (mti : ByteArray) (l : Ns) (e : Ending) (w' : World) : Prop :=
  ∃ A c S, e = .returned (.agg #[.string mti, .slice A l.len c]) ∧ Own w' w.heap.size 76 0 (.slice A l.len c) l S ∧ S.Nodup ∧ Fr0 w w'
set_option maxRecDepth 100000 in
set_option maxHeartbeats 400000 in
theorem those_t (mti : ByteArray) (l : Ns) (w : World) (ok : Nat → Prop) (v : Value) (f : Nat) (caps : Array Value) (p : Int → Bool) (hclo : Clo w f caps p) (hr : Rd w ok v l) (hs : l.sz ≤ 1099511627776):
   Calls Try.prog 78 #[.agg #[.string mti, v], .func (.func f) #[] caps] w (ThosePost w mti (l.keep p)) := by
    obtain ⟨A, c, rfl, hlc, hcase⟩ := hr
    have hS := Lib.hid hs
    have hb : l.len < 9223372036854775807 := by have := l.len_le_sz; omega
    clear hs
    have hcf := hclo.enter
    have hC := Lib.hid hcase
    clear hcase
    go_enter Try.func78, Try.ntmps78
    go_wp2
    go_loopw [14] (fun i wr => ∃ (done rest : Ns) (vf : Value) (S : List Nat), l = done.app rest ∧ i = .int .i64 done.len ∧ Blk wr (w.heap.size + 1) 37 #[.string ⟨#[]⟩, .slice none 0 0] ∧ Blk wr (w.heap.size + 1 + 1) 37 #[.string mti, vf] ∧
      Own wr (w.heap.size + 3) 76 0 vf (done.keep p) S ∧ S.Nodup ∧ Fr0 w wr ∧ (rest = .nil ∨ ∃ b o, A = some ⟨b, o, none⟩ ∧ RdFrom w ok rest b (o + done.len * 3))) (fun i _ => l.len - (intOf i).toNat)
    case atStart =>
      refine ⟨.nil, l, .slice none 0 0, [], rfl, rfl, ?_, ?_, Own.nil _ _ _, List.nodup_nil, (((Fr.refl _ _).alloc _).alloc _).alloc _, ?_⟩
      · have := Blk.new (w.alloc (.cells #[.string mti, .slice A l.len c] 37)) 37 #[.string ⟨#[]⟩, .slice none 0 0]
        simp only [World.size_alloc] at this
        exact this.alloc _
      · have := Blk.new ((w.alloc (.cells #[.string mti, .slice A l.len c] 37)).alloc (.cells #[.string ⟨#[]⟩, .slice none 0 0] 37)) 37 #[.string mti, .slice none 0 0]
        simpa only [World.size_alloc] using this
      · simpa [Ns.len] using hC.out
    case round =>
      obtain ⟨done, rest, vf, S, rfl, rfl, hb1, hb2, hown, hnd, hfr, hrest⟩ := hrel
      cases rest with
      | nil =>
        obtain ⟨A3, c3, _, _, rfl, _⟩ := id hown
        rw [Ns.app_nil]
        have c10 := hb1.cell 0
        have c11 := hb1.cell 1
        have c20 := hb2.cell 0
        have c21 := hb2.cell 1
        have d10 := hb1.frozen 0
        have d11 := hb1.frozen 1
        have hz2 := hb2.lt
        go_wp2_with fail
        have hg : Fr (fun x => x = w.heap.size + 1) wr ((wr.setCell ⟨w.heap.size + 1, 0, none⟩ (.string mti)).setCell ⟨w.heap.size + 1, 1, none⟩ (.slice A3 (Ns.keep p done).len c3)) :=
          ((Fr.refl (fun x => x = w.heap.size + 1) wr).setCell (p := ⟨w.heap.size + 1, 0, none⟩) (.inr rfl) _).setCell (p := ⟨w.heap.size + 1, 1, none⟩) (.inr rfl) _
        refine bodyPost_ret (v := .agg #[.string mti, .slice A3 (Ns.keep p done).len c3]) (by simp [results, Try.results78, go_sem, c10, c11]) rfl
          ⟨A3, c3, S, by rw [Ns.app_nil], ?_, hnd, hfr.trans' hg fun i hi h => by omega⟩
        rw [Ns.app_nil]
        exact (hown.mono (by omega)).fr hg fun g hs => by have := (hown.lt g hs).1; omega
      | cons t v k r =>
        simp only [reduceCtorEq, false_or] at hrest
        obtain ⟨b, o, rfl, hrd⟩ := hrest
        have hsz := Lib.hid (Ns.sz_app done (.cons t v k r))
        have hll := Lib.hid (Ns.len_app done (.cons t v k r))
        have hlt : (done.len : Int) < ((done.app (.cons t v k r)).len : Int) := by rw [hll.out]; simp only [Ns.len]; omega
        have hlt' : done.len < (done.app (.cons t v k r)).len := by omega
        have hrd' := hrd.fr0 hfr
        have h1 := hrd'.2.1
        have h2 := hrd'.2.2.1
        obtain ⟨A', c', h3, hk⟩ := hrd'.kids
        obtain ⟨A3, c3, _, _, rfl, _⟩ := id hown
        have c20 := hb2.cell 0
        have c21 := hb2.cell 1
        have d21 := hb2.frozen 1
        have hz := hfr.size
        have hz2 := hb2.lt
        go_wp2_with fail
        cases hp : p t with
        | false =>
          refine (hclo.call t _ (hfr.alloc _)).mono ?_
          rintro e w1 ⟨rfl, rfl⟩
          have hfa : Fr0 wr (wr.alloc (Obj.cells #[.int .i64 t, .string v, .slice A' k.len c'] 76)) := (Fr.refl _ _).alloc _
          go_wp2_with fail
          go_roundw
          case rel =>
            refine ⟨done.app (.one t v k), r, _, S, by simp [Ns.app_assoc, Ns.one, Ns.app], by simp [Ns.len_app, Ns.one, Ns.len], hb1.fr0 hfa, hb2.fr0 hfa, ?_, hnd, hfr.trans hfa, .inr ⟨b, o, rfl, ?_⟩⟩
            · have hkk : (done.app (.one t v k)).keep p = done.keep p := by simp [Ns.keep_app, Ns.one, Ns.keep, hp, Ns.app_nil]
              rw [hkk]
              exact hown.fr0 hfa
            · have := hrd.2.2.2.2
              simp only [Ns.len_app, Ns.one, Ns.len]
              rwa [show o + (done.len + (0 + 1)) * 3 = o + done.len * 3 + 3 from by omega]
          case measure => simp [intOf]; omega
        | true =>
          refine (hclo.call t _ (hfr.alloc _)).mono ?_
          rintro e w1 ⟨rfl, rfl⟩
          go_wp2_with fail
          obtain ⟨W1, hW1⟩ : ∃ W1, W1 = (wr.alloc (Obj.cells #[.int .i64 t, .string v, .slice A' k.len c'] 76)) := ⟨_, rfl⟩
          rw [← hW1]
          have hfa : Fr0 wr W1 := by rw [hW1]; exact (Fr.refl _ _).alloc _
          have hx1 : Blk W1 wr.heap.size 76 #[.int .i64 t, .string v, .slice A' k.len c'] := by rw [hW1]; exact Blk.new _ _ _
          have hz1 : W1.heap.size = wr.heap.size + 1 := by rw [hW1]; simp
          clear hW1
          have e0 := hx1.cell 0
          have e1 := hx1.cell 1
          have e2 := hx1.cell 2
          have hb2' := hb2.fr0 hfa
          have c21' := hb2'.cell 1
          have c20' := hb2'.cell 0
          have d21' := hb2'.frozen 1
          have hk1 : Rd W1.drew ok (.slice A' k.len c') k := hk.fr0 hfa.drew
          have hown' : Own W1.drew (w.heap.size + 3) 76 0 (Value.slice A3 (Ns.keep p done).len c3) (Ns.keep p done) S := hown.fr0 hfa.drew
          simp only [List.getElem?_toArray, List.getElem?_cons_zero, List.getElem?_cons_succ] at e0 e1 e2 c20' c21'
          have hSl := Lib.hid hown.lt
          have hF := Lib.hid hfr
          have hR := Lib.hid hrd
          clear c20 c21 d21 h1 h2 h3 hfr hrd hrd' hk hclo hC hown hlc hb2
          go_region_law
           (first | (go_simp; go_at_call 84; refine (field_any (by have := hS.out; have := hsz.out; simp only [Ns.sz] at this; omega) hk1).mono ?_; rintro e w2 ⟨A4, c4, S4, rfl, hown4, hnd4, hfr4⟩
                     have hz4 := hfr4.size
                     have q0 := hfr4.cell0 c21'
                     have q1 := hfr4.cell0 e0
                     have q2 := hfr4.cell0 e1
                     have q3 := hfr4.cell0 e2
                     have hb4 := hb2'.drew.fr0 hfr4
                     have r0 := (Fr.refl (fun _ => False) w2).alloc (Obj.cells #[.int .i64 t, .string v, .slice A4 k.len c4] 76) |>.cell0 q0
                     have r1 := (Fr.refl (fun _ => False) w2).alloc (Obj.cells #[.int .i64 t, .string v, .slice A4 k.len c4] 76) |>.cell0 q1
                     have r2 := (Fr.refl (fun _ => False) w2).alloc (Obj.cells #[.int .i64 t, .string v, .slice A4 k.len c4] 76) |>.cell0 q2
                     have r3 := (Fr.refl (fun _ => False) w2).alloc (Obj.cells #[.int .i64 t, .string v, .slice A4 k.len c4] 76) |>.cell0 q3
                     have hfb : Fr0 w2 (w2.alloc (Obj.cells #[.int .i64 t, .string v, .slice A4 k.len c4] 76)) := (Fr.refl _ _).alloc _
                     have hq := Lib.hid (push_run (w := w2.alloc (Obj.cells #[.int .i64 t, .string v, .slice A4 k.len c4] 76)) (X := w2.heap.size) (e := 76) (B := w.heap.size + 3) (l := done.keep p) (tag := t) (val := v) (k := k) (A1 := A4) (c1 := c4) (S := S) (S1 := S4) (v := (Value.slice A3 (Ns.keep p done).len c3)) 35 35 undF infoF
                        ((hown'.fr0 hfr4).fr0 hfb) (by simp at hz4 ⊢; omega) hnd (by go_simp) (by go_simp) (by go_simp) ((hown4.mono (by simp; omega)).fr0 hfb) hnd4
                        (fun g hg hg1 => by have := (hSl.out g hg).2; have := (hown4.lt g hg1).1; simp at this; omega) (by have := hS.out; have := hsz.out; have := done.len_le_sz; have := done.len_keep_le p; omega)))
                  | (refine step_append_run (by rfl) _ _ _ (by rfl) (by rfl) (by rfl) hq.out ?_; rintro v5 w5 ⟨A5, c5, S5, rfl, hown5, hnd5, hsub, hfr5⟩
                     have n1 : ¬ (w.heap.size + 1 + 1 ∈ S) := fun h => by have := (hSl.out _ h).1; omega
                     have n2 : ¬ (wr.heap.size ∈ S) := fun h => by have := (hSl.out _ h).2; omega
                     have q0 := hfr5.cell_some (hfb.cell0 q0) n1
                     have q1 := hfr5.cell_some (hfb.cell0 q1) n2
                     have q2 := hfr5.cell_some (hfb.cell0 q2) n2
                     have q3 := hfr5.cell_some (hfb.cell0 q3) n2
                     have hb5 := (hb4.fr0 hfb).fr hfr5 n1
                     have d5 := hb5.frozen 1))
          all_goals
            have hbz := hb5.set_ 1 (.slice A5 ((Ns.keep p done).len + 1) c5)
            have hz5 := hfr5.size
            have hfz : Fr (fun x => x = w.heap.size + 1 + 1 ∨ x ∈ S) wr (w5.setCell ⟨w.heap.size + 1 + 1, 1, none⟩ (.slice A5 ((Ns.keep p done).len + 1) c5)) :=
              ((((hfa.drew.trans hfr4).trans hfb).mono fun _ _ h => h.elim).trans' (hfr5.mono (G' := fun x => x = w.heap.size + 1 + 1 ∨ x ∈ S) fun _ _ h => .inr h) fun _ _ h => h).setCell (p := ⟨w.heap.size + 1 + 1, 1, none⟩) (.inr (.inl rfl)) _
            go_wp2_with fail
            go_roundw
            case rel =>
              refine ⟨done.app (.one t v k), r, .slice A5 ((Ns.keep p done).len + 1) c5, S5, by simp [Ns.app_assoc, Ns.one, Ns.app], by simp [Ns.len_app, Ns.one, Ns.len], ?_, by simpa using hbz, ?_, hnd5, ?_, .inr ⟨b, o, rfl, ?_⟩⟩
              · exact hb1.fr hfz fun h => h.elim (fun h => by omega) fun h => by have := (hSl.out _ h).1; omega
              · have hkk : (done.app (.one t v k)).keep p = (done.keep p).app (.one t v k) := by simp [Ns.keep_app, Ns.one, Ns.keep, hp]
                rw [hkk]
                exact hown5.fr ((Fr.refl (fun x => x = w.heap.size + 1 + 1) w5).setCell (p := ⟨w.heap.size + 1 + 1, 1, none⟩) (.inr rfl) _) fun g hg e => by
                  subst e
                  have := (hown5.lt _ hg).1
                  omega
              · exact hF.out.trans' hfz fun i hi h => h.elim (fun h => by omega) fun h => by have := (hSl.out _ h).1; omega
              · have := hR.out.2.2.2.2
                simp only [Ns.len_app, Ns.one, Ns.len]
                rwa [show o + (done.len + (0 + 1)) * 3 = o + done.len * 3 + 3 from by omega]
            case measure => simp [intOf]; omega

def memKeep (xs : List Int) : Int → Bool := fun n => decide (n ∈ xs)
def memWithout (xs : List Int) : Int → Bool := fun n => !decide (n ∈ xs)
theorem Ns.keep_true : ∀ l : Ns, l.keep (fun _ => true) = l
  | .nil => rfl
  | .cons t v k r => by simp only [Ns.keep, if_true, Ns.keep_true r]
theorem copy_clo (w : World) : Clo w 80 #[] (fun _ => true) where
  enter := fun _ _ => by kernel_rfl
  call := fun n W _ => by
    show Calls Try.prog 80 #[.int .i64 n] W _
    go_enter Try.func80, Try.ntmps80
    go_wp2
    go_ret
    exact ⟨rfl, rfl⟩
theorem Keepclo {w : World} {ok : Nat → Prop} {xs : List Int} {v : Value} {g : Nat} (hc : w.cell? ⟨g, 0, none⟩ = some v) (hr : RdI w ok v xs) (hn : xs.length ≤ 9223372036854775807) :
    Clo w 79 #[.pointer (some ⟨g, 0, none⟩)] (memKeep xs) where
  enter := fun _ _ => by kernel_rfl
  call := fun n W hf => by
    obtain ⟨A, c, rfl, _, _⟩ := id hr
    have hc1 := hf.cell0 hc
    have hN := Lib.hid hn
    clear hc
    show Calls Try.prog 79 #[.int .i64 n, .pointer (some ⟨g, 0, none⟩)] W _
    go_enter Try.func79, Try.ntmps79
    go_wp2_with fail
    refine (contains_any xs n W ok _ hN.out (hr.fr0 hf)).mono ?_
    rintro e w' ⟨rfl, rfl⟩
    go_wp2
    go_ret
    exact ⟨rfl, rfl⟩
theorem Withoutclo {w : World} {ok : Nat → Prop} {xs : List Int} {v : Value} {g : Nat} (hc : w.cell? ⟨g, 0, none⟩ = some v) (hr : RdI w ok v xs) (hn : xs.length ≤ 9223372036854775807) :
    Clo w 81 #[.pointer (some ⟨g, 0, none⟩)] (memWithout xs) where
  enter := fun _ _ => by kernel_rfl
  call := fun n W hf => by
    obtain ⟨A, c, rfl, _, _⟩ := id hr
    have hc1 := hf.cell0 hc
    have hN := Lib.hid hn
    clear hc
    show Calls Try.prog 81 #[.int .i64 n, .pointer (some ⟨g, 0, none⟩)] W _
    go_enter Try.func81, Try.ntmps81
    go_wp2_with fail
    refine (contains_any xs n W ok _ hN.out (hr.fr0 hf)).mono ?_
    rintro e w' ⟨rfl, rfl⟩
    go_wp2
    go_ret
    exact ⟨rfl, rfl⟩
set_option maxRecDepth 100000 in
theorem copy_any {mti : ByteArray} {l : Ns} {w : World} {ok : Nat → Prop} {v : Value} (hr : Rd w ok v l) (hs : l.sz ≤ 1099511627776) :
    Calls Try.prog 57 #[.agg #[.string mti, v]] w (ThosePost w mti l) := by
  obtain ⟨A, c, rfl, _, _⟩ := id hr
  have hS := Lib.hid hs
  clear hs
  go_enter Try.func57, Try.ntmps57
  go_wp2_with fail
  have hf1 : Fr0 w ((w.alloc (Obj.cells #[.string mti, .slice A l.len c] 37)).alloc (Obj.cells #[.string ⟨#[]⟩, .slice none 0 0] 37)) := ((Fr.refl _ _).alloc _).alloc _
  refine (those_t mti l _ ok _ _ _ _ (copy_clo _) (hr.fr0 hf1) hS.out).mono ?_
  rw [Ns.keep_true]
  rintro e w1 ⟨A1, c1, S1, rfl, hown1, hnd1, hfr1⟩
  have hb2 : Blk w1 (w.heap.size + 1) 37 #[.string ⟨#[]⟩, .slice none 0 0] := by
    have := Blk.new (w.alloc (Obj.cells #[.string mti, .slice A l.len c] 37)) 37 #[.string ⟨#[]⟩, .slice none 0 0]
    simp only [World.size_alloc] at this
    exact this.fr0 hfr1
  have c20 := hb2.cell 0
  have c21 := hb2.cell 1
  have d20 := hb2.frozen 0
  have d21 := hb2.frozen 1
  go_wp2
  simp only [World.size_alloc] at hown1
  have hg : Fr (fun x => x = w.heap.size + 1) w1 ((w1.setCell ⟨w.heap.size + 1, 0, none⟩ (.string mti)).setCell ⟨w.heap.size + 1, 1, none⟩ (.slice A1 l.len c1)) :=
    ((Fr.refl (fun x => x = w.heap.size + 1) w1).setCell (p := ⟨w.heap.size + 1, 0, none⟩) (.inr rfl) _).setCell (p := ⟨w.heap.size + 1, 1, none⟩) (.inr rfl) _
  exact bodyPost_ret (v := .agg #[.string mti, .slice A1 l.len c1]) (by simp [results, Try.results57, go_sem, c20, c21]) rfl
    ⟨A1, c1, S1, rfl, (hown1.mono (by omega)).fr hg (fun g hs => by have := (hown1.lt g hs).1; omega), hnd1, (hf1.trans hfr1).trans' hg fun i hi h => by omega⟩
set_option maxRecDepth 100000 in
theorem Keep_any {mti : ByteArray} {l : Ns} {w : World} {ok ok' : Nat → Prop} {v u : Value} {xs : List Int} (hr : Rd w ok v l) (hs : l.sz ≤ 1099511627776) (hx : RdI w ok' u xs) (hn : xs.length ≤ 9223372036854775807) :
    Calls Try.prog 56 #[.agg #[.string mti, v], u] w (ThosePost w mti (l.keep (memKeep xs))) := by
  obtain ⟨A, c, rfl, _, _⟩ := id hr
  obtain ⟨A', c', rfl, _, _⟩ := id hx
  have hS := Lib.hid hs
  have hN := Lib.hid hn
  clear hs hn
  go_enter Try.func56, Try.ntmps56
  go_wp2_with fail
  have hf1 : Fr0 w (((w.alloc (Obj.cells #[.string mti, .slice A l.len c] 37)).alloc (Obj.cells #[.slice A' xs.length c'] 42)).alloc (Obj.cells #[.string ⟨#[]⟩, .slice none 0 0] 37)) := (((Fr.refl _ _).alloc _).alloc _).alloc _
  refine (those_t mti l _ ok _ _ _ _ (Keepclo (by go_simp) (hx.fr0 hf1) hN.out) (hr.fr0 hf1) hS.out).mono ?_
  rintro e w1 ⟨A1, c1, S1, rfl, hown1, hnd1, hfr1⟩
  have hb2 : Blk w1 (w.heap.size + 1 + 1) 37 #[.string ⟨#[]⟩, .slice none 0 0] := by
    have := Blk.new ((w.alloc (Obj.cells #[.string mti, .slice A l.len c] 37)).alloc (Obj.cells #[.slice A' xs.length c'] 42)) 37 #[.string ⟨#[]⟩, .slice none 0 0]
    simp only [World.size_alloc] at this
    exact this.fr0 hfr1
  have c20 := hb2.cell 0
  have c21 := hb2.cell 1
  have d20 := hb2.frozen 0
  have d21 := hb2.frozen 1
  go_wp2
  simp only [World.size_alloc] at hown1
  have hg : Fr (fun x => x = w.heap.size + 1 + 1) w1 ((w1.setCell ⟨w.heap.size + 1 + 1, 0, none⟩ (.string mti)).setCell ⟨w.heap.size + 1 + 1, 1, none⟩ (.slice A1 (l.keep (memKeep xs)).len c1)) :=
    ((Fr.refl (fun x => x = w.heap.size + 1 + 1) w1).setCell (p := ⟨w.heap.size + 1 + 1, 0, none⟩) (.inr rfl) _).setCell (p := ⟨w.heap.size + 1 + 1, 1, none⟩) (.inr rfl) _
  exact bodyPost_ret (v := .agg #[.string mti, .slice A1 (l.keep (memKeep xs)).len c1]) (by simp [results, Try.results56, go_sem, c20, c21]) rfl
    ⟨A1, c1, S1, rfl, (hown1.mono (by omega)).fr hg (fun g hs => by have := (hown1.lt g hs).1; omega), hnd1, (hf1.trans hfr1).trans' hg fun i hi h => by omega⟩
set_option maxRecDepth 100000 in
theorem Without_any {mti : ByteArray} {l : Ns} {w : World} {ok ok' : Nat → Prop} {v u : Value} {xs : List Int} (hr : Rd w ok v l) (hs : l.sz ≤ 1099511627776) (hx : RdI w ok' u xs) (hn : xs.length ≤ 9223372036854775807) :
    Calls Try.prog 58 #[.agg #[.string mti, v], u] w (ThosePost w mti (l.keep (memWithout xs))) := by
  obtain ⟨A, c, rfl, _, _⟩ := id hr
  obtain ⟨A', c', rfl, _, _⟩ := id hx
  have hS := Lib.hid hs
  have hN := Lib.hid hn
  clear hs hn
  go_enter Try.func58, Try.ntmps58
  go_wp2_with fail
  have hf1 : Fr0 w (((w.alloc (Obj.cells #[.string mti, .slice A l.len c] 37)).alloc (Obj.cells #[.slice A' xs.length c'] 42)).alloc (Obj.cells #[.string ⟨#[]⟩, .slice none 0 0] 37)) := (((Fr.refl _ _).alloc _).alloc _).alloc _
  refine (those_t mti l _ ok _ _ _ _ (Withoutclo (by go_simp) (hx.fr0 hf1) hN.out) (hr.fr0 hf1) hS.out).mono ?_
  rintro e w1 ⟨A1, c1, S1, rfl, hown1, hnd1, hfr1⟩
  have hb2 : Blk w1 (w.heap.size + 1 + 1) 37 #[.string ⟨#[]⟩, .slice none 0 0] := by
    have := Blk.new ((w.alloc (Obj.cells #[.string mti, .slice A l.len c] 37)).alloc (Obj.cells #[.slice A' xs.length c'] 42)) 37 #[.string ⟨#[]⟩, .slice none 0 0]
    simp only [World.size_alloc] at this
    exact this.fr0 hfr1
  have c20 := hb2.cell 0
  have c21 := hb2.cell 1
  have d20 := hb2.frozen 0
  have d21 := hb2.frozen 1
  go_wp2
  simp only [World.size_alloc] at hown1
  have hg : Fr (fun x => x = w.heap.size + 1 + 1) w1 ((w1.setCell ⟨w.heap.size + 1 + 1, 0, none⟩ (.string mti)).setCell ⟨w.heap.size + 1 + 1, 1, none⟩ (.slice A1 (l.keep (memWithout xs)).len c1)) :=
    ((Fr.refl (fun x => x = w.heap.size + 1 + 1) w1).setCell (p := ⟨w.heap.size + 1 + 1, 0, none⟩) (.inr rfl) _).setCell (p := ⟨w.heap.size + 1 + 1, 1, none⟩) (.inr rfl) _
  exact bodyPost_ret (v := .agg #[.string mti, .slice A1 (l.keep (memWithout xs)).len c1]) (by simp [results, Try.results58, go_sem, c20, c21]) rfl
    ⟨A1, c1, S1, rfl, (hown1.mono (by omega)).fr hg (fun g hs => by have := (hown1.lt g hs).1; omega), hnd1, (hf1.trans hfr1).trans' hg fun i hi h => by omega⟩
end Go.Proofs.Ytgeiimifhbiklaa
