/- slices.BinarySearchFunc, put, With: contracts, proved by walks. -/
import Derived.Test.YtgeiimifhbiklaaIns
namespace Go.Proofs.Ytgeiimifhbiklaa
open Go.RowKit

/-! ### Rising rows -/
/-- The numbers rise from last on, and are none above 128. -/
def Ns.asc : Ns → Int → Prop
  | .nil, _ => True
  | .cons t _ _ r, last => last < t ∧ t ≤ 128 ∧ r.asc t
/-- Those ahead of the first one that is not below n; that one and those behind it. -/
def Ns.lo (n : Int) : Ns → Ns
  | .nil => .nil
  | .cons t v k r => if t < n then .cons t v k (r.lo n) else .nil
def Ns.hi (n : Int) : Ns → Ns
  | .nil => .nil
  | .cons t v k r => if t < n then r.hi n else .cons t v k r
theorem Ns.lo_hi (n : Int) : ∀ l : Ns, (l.lo n).app (l.hi n) = l
  | .nil => rfl
  | .cons t v k r => by
    simp only [Ns.lo, Ns.hi]
    split
    · simp only [Ns.app, Ns.lo_hi n r]
    · rfl
theorem Ns.split_at : ∀ (l : Ns) (i : Nat), i < l.len → ∃ (a : Ns) (t : Int) (v : ByteArray) (k r : Ns), l = a.app (.cons t v k r) ∧ a.len = i
  | .nil, i, h => by simp [Ns.len] at h
  | .cons t v k r, 0, _ => ⟨.nil, t, v, k, r, rfl, rfl⟩
  | .cons t v k r, i + 1, h => by
    obtain ⟨a, t', v', k', r', e, hl⟩ := Ns.split_at r i (by simp only [Ns.len] at h; omega)
    exact ⟨.cons t v k a, t', v', k', r', by rw [Ns.app, ← e], by simp only [Ns.len, hl]⟩
theorem Ns.asc_mono : ∀ (l : Ns) (a b : Int), b ≤ a → l.asc a → l.asc b
  | .nil, _, _, _, _ => trivial
  | .cons t v k r, a, b, h, h' => ⟨by have := h'.1; omega, h'.2.1, h'.2.2⟩
theorem Ns.asc_app : ∀ (a : Ns) (t : Int) (v : ByteArray) (k r : Ns) (last : Int), (a.app (.cons t v k r)).asc last → last < t ∧ t ≤ 128 ∧ r.asc t
  | .nil, t, v, k, r, last, h => h
  | .cons t0 _ _ r0, t, v, k, r, last, h => by
    have := Ns.asc_app r0 t v k r t0 h.2.2
    exact ⟨by have := h.1; omega, this.2⟩
/-- In a rising row the place of an element tells whether it stands ahead. -/
theorem Ns.lo_le_of_ge (n : Int) : ∀ (a : Ns) (t : Int) (v : ByteArray) (k r : Ns), n ≤ t → ((a.app (.cons t v k r)).lo n).len ≤ a.len
  | .nil, t, v, k, r, h => by simp only [Ns.app, Ns.lo, if_neg (show ¬ t < n by omega)]; exact Nat.le_refl _
  | .cons t0 v0 k0 r0, t, v, k, r, h => by
    have := Ns.lo_le_of_ge n r0 t v k r h
    simp only [Ns.app, Ns.lo, Ns.len]
    split
    · simp only [Ns.len]; omega
    · simp only [Ns.len]; omega
theorem Ns.lt_lo_of_lt (n : Int) : ∀ (a : Ns) (t : Int) (v : ByteArray) (k r : Ns) (last : Int), (a.app (.cons t v k r)).asc last → t < n → a.len < ((a.app (.cons t v k r)).lo n).len
  | .nil, t, v, k, r, last, _, h => by simp only [Ns.app, Ns.lo, if_pos h, Ns.len]; omega
  | .cons t0 v0 k0 r0, t, v, k, r, last, ha, h => by
    have h1 := Ns.lt_lo_of_lt n r0 t v k r t0 ha.2.2 h
    have h2 := (Ns.asc_app r0 t v k r t0 ha.2.2).1
    simp only [Ns.app, Ns.lo, if_pos (show t0 < n by omega), Ns.len]
    omega
theorem Ns.len_lo_le (n : Int) (l : Ns) : (l.lo n).len ≤ l.len := by
  have := congrArg Ns.len (Ns.lo_hi n l)
  rw [Ns.len_app] at this
  omega
def Ns.headIs (n : Int) : Ns → Bool
  | .nil => false
  | .cons t _ _ _ => decide (t = n)

set_option maxRecDepth 100000 in
theorem cmp_any (t n : Int) (v : ByteArray) (u : Value) (w : World) (hu : ∃ A a c, u = .slice A a c) (h1 : -9223372036854775808 ≤ t - n) (h2 : t - n ≤ 9223372036854775807) :
    Calls Try.prog 97 #[.agg #[.int .i64 t, .string v, u], .int .i64 n] w fun e w' => e = .returned (.int .i64 (t - n)) ∧ Fr0 w w' := by
  obtain ⟨A, a, c, rfl⟩ := hu
  go_enter Try.func97, Try.ntmps97
  go_wp2
  go_ret
  exact ⟨rfl, (Fr.refl _ _).alloc _⟩

def SearchPost (w : World) (l : Ns) (n : Int) (e : Ending) (w' : World) : Prop :=
  e = .returned (.tuple #[.int .i64 (l.lo n).len, .bool ((l.hi n).headIs n)]) ∧ Fr0 w w'
set_option maxRecDepth 100000 in
set_option maxHeartbeats 800000 in
theorem search_any {l : Ns} {w : World} {ok : Nat → Prop} {v : Value} {n : Int} (hr : Rd w ok v l) (hs0 : l.sz ≤ 1099511627776) (hasc : l.asc 0) (hn0 : 0 ≤ n) (hn1 : n ≤ 128) :
    Calls Try.prog 96 #[v, .int .i64 n, .func (.func 97) #[] #[]] w (SearchPost w l n) := by
  obtain ⟨A, c, rfl, hlc, hcase⟩ := hr
  have hC := Lib.hid hcase
  have hA := Lib.hid hasc
  have hb : l.len < 4611686018427387904 := by have := l.len_le_sz; omega
  have hlo := Lib.hid (Ns.len_lo_le n l)
  have hcf : ∀ args W, (callFunc 97 args).run Try.prog W = .ok (.enter 97 args) W := fun _ _ => by kernel_rfl
  clear hcase hasc hs0
  go_enter Try.func96, Try.ntmps96
  go_wp2
  go_loopw [9, 10] (fun u9 u10 wr => ∃ i j : Nat, u9 = .int .i64 i ∧ u10 = .int .i64 j ∧ i ≤ (l.lo n).len ∧ (l.lo n).len ≤ j ∧ j ≤ l.len ∧ Fr0 w wr) (fun u9 u10 _ => (intOf u10).toNat - (intOf u9).toNat)
  case atStart => exact ⟨0, l.len, rfl, rfl, Nat.zero_le _, hlo.out, Nat.le_refl _, Fr.refl _ _⟩
  case round =>
    obtain ⟨i, j, rfl, rfl, hi, hj, hjl, hfr⟩ := hrel
    by_cases hij : i < j
    · obtain ⟨h, hh⟩ : ∃ h : Nat, h = (i + j) / 2 := ⟨_, rfl⟩
      have hi' : ((i : Int) + (j : Int)) / 2 = (h : Int) := by omega
      have hhl : h < l.len := by omega
      have hh1 : i ≤ h := by omega
      have hh2 : h < j := by omega
      clear hh
      obtain ⟨a, t, v, k, r, hl, hal⟩ := Ns.split_at l h hhl
      have hL := Lib.hid hl
      have hAL := Lib.hid hal
      obtain ⟨b, o, rfl, hrd⟩ : ∃ b o, A = some ⟨b, o, none⟩ ∧ RdFrom w ok l b o := by
        rcases hC.out with h0 | h0
        · rw [h0] at hhl; simp [Ns.len] at hhl
        · exact h0
      have hrd' : RdFrom wr ok (.cons t v k r) b (o + h * 3) := by
        have := (hrd.fr0 hfr)
        rw [hl] at this
        have := RdFrom.app a _ b o this
        rwa [hal] at this
      have h1 := hrd'.2.1
      have h2 := hrd'.2.2.1
      obtain ⟨A', c', h3, hk⟩ := hrd'.kids
      have hasc' := hA.out
      rw [hl] at hasc'
      have hb1 := Ns.asc_app a t v k r 0 hasc'
      have hge := fun hn : n ≤ t => Ns.lo_le_of_ge n a t v k r hn
      have hltt := fun hn : t < n => Ns.lt_lo_of_lt n a t v k r 0 hasc' hn
      rw [← hl, hal] at hge hltt
      have hGe := Lib.hid hge
      have hLt := Lib.hid hltt
      have ht0 := hb1.1
      have ht1 := hb1.2.1
      clear hge hltt hb1 hasc' hl hal hk hrd hrd'
      go_wp2_with fail
      refine (cmp_any t n v _ wr ⟨_, _, _, rfl⟩ (by omega) (by omega)).mono ?_
      rintro e w1 ⟨rfl, hf1⟩
      have hfz := hfr.trans hf1
      by_cases htn : t - n < 0
      · go_wp2_with fail
        go_roundw
        case rel => exact ⟨h + 1, j, by go_num, rfl, hLt.out (by omega), hj, hjl, hfz⟩
        case measure => simp [intOf]; omega
      · go_wp2_with fail
        go_roundw
        case rel => exact ⟨i, h, rfl, rfl, hi, hGe.out (by omega), by omega, hfz⟩
        case measure => simp [intOf]; omega
    · obtain rfl : i = j := by omega
      have hil : i = (l.lo n).len := by omega
      have hlh := congrArg Ns.len (Ns.lo_hi n l)
      rw [Ns.len_app, ← hil] at hlh
      cases hhi : l.hi n with
      | nil =>
        have hlen : i = l.len := by rw [hhi] at hlh; simpa [Ns.len] using hlh
        have H1 := Lib.hid hil
        have H2 := Lib.hid hhi
        have t1 : ¬ i < l.len := by omega
        clear hil hlh hhi hlen
        go_wp2_with fail
        refine bodyPost_ret (results_tmp2 rfl _ _ _) rfl ⟨?_, hfr⟩
        rw [← H1.out, H2.out]
        rfl
      | cons t v k r =>
        have hl : l = (l.lo n).app (.cons t v k r) := by rw [← hhi, Ns.lo_hi]
        have H1 := Lib.hid hil
        have H2 := Lib.hid hhi
        have t1 : i < l.len := by rw [hhi] at hlh; simp only [Ns.len] at hlh; omega
        obtain ⟨b, o, rfl, hrd⟩ : ∃ b o, A = some ⟨b, o, none⟩ ∧ RdFrom w ok l b o := by
          rcases hC.out with h0 | h0
          · rw [h0] at t1; simp [Ns.len] at t1
          · exact h0
        have hrd' : RdFrom wr ok (.cons t v k r) b (o + i * 3) := by
          have := (hrd.fr0 hfr)
          rw [hl] at this
          have := RdFrom.app (l.lo n) _ b o this
          rwa [← hil] at this
        have h1 := hrd'.2.1
        have h2 := hrd'.2.2.1
        obtain ⟨A', c', h3, hk⟩ := hrd'.kids
        have hasc' := hA.out
        rw [hl] at hasc'
        have hb1 := Ns.asc_app (l.lo n) t v k r 0 hasc'
        have ht0 := hb1.1
        have ht1 := hb1.2.1
        clear hil hlh hhi hl hb1 hasc' hk hrd hrd'
        go_wp2_with fail
        refine (cmp_any t n v _ wr ⟨_, _, _, rfl⟩ (by omega) (by omega)).mono ?_
        rintro e w1 ⟨rfl, hf1⟩
        go_wp2_with fail
        refine bodyPost_ret (results_tmp2 rfl _ _ _) rfl ⟨?_, hfr.trans hf1⟩
        rw [← H1.out, H2.out]
        show Ending.returned (Value.tuple #[.int .i64 i, .bool (t - n == 0)]) = Ending.returned (.tuple #[.int .i64 i, .bool (decide (t = n))])
        have hd : (t - n == 0) = decide (t = n) := by rw [Bool.eq_iff_iff]; simp; omega
        rw [hd]

/-! ### put -/
/-- The row with the field (t, v, k) in its place. -/
def Ns.rest (n : Int) (l : Ns) : Ns :=
  match l.hi n with
  | .nil => .nil
  | .cons t v k r => if t = n then r else .cons t v k r
def Ns.putF (l : Ns) (t : Int) (v : ByteArray) (k : Ns) : Ns := (l.lo t).app (.cons t v k (l.rest t))
def PutPost (w : World) (B g : Nat) (mti : ByteArray) (l : Ns) (S S1 : List Nat) (e : Ending) (w' : World) : Prop :=
  ∃ A c S', e = .returned (.tuple #[]) ∧ Blk w' g 37 #[.string mti, .slice A l.len c] ∧ Own w' B 76 0 (.slice A l.len c) l S' ∧ S'.Nodup ∧ (∀ x ∈ S', x ∈ S ∨ x ∈ S1 ∨ w.heap.size ≤ x) ∧ Fr (fun x => x = g ∨ x ∈ S) w w'
set_option maxRecDepth 100000 in
set_option maxHeartbeats 800000 in
theorem put_new {mti : ByteArray} {l : Ns} {w : World} {B g : Nat} {A : Option Addr} {c : Nat} {S S1 : List Nat} {t : Int} {v : ByteArray} {k : Ns} {A1 : Option Addr} {c1 : Nat}
    (hbk : Blk w g 37 #[.string mti, .slice A l.len c]) (hown : Own w B 76 0 (.slice A l.len c) l S) (hB : B ≤ w.heap.size) (hnd : S.Nodup) (hg : g ∉ S) (hg1 : g ∉ S1) (hasc : l.asc 0) (hs0 : l.sz ≤ 1099511627776)
    (hk : Own w B 114 0 (.slice A1 k.len c1) k S1) (hnd1 : S1.Nodup) (hdis : ∀ x ∈ S, x ∉ S1) (ht0 : 0 ≤ t) (ht1 : t ≤ 128) (hh : (l.hi t).headIs t = false) :
    Calls Try.prog 83 #[.pointer (some ⟨g, 0, none⟩), .agg #[.int .i64 t, .string v, .slice A1 k.len c1]] w (PutPost w B g mti ((l.lo t).app (.cons t v k (l.hi t))) S S1) := by
  have c0 := hbk.cell 0
  have c1' := hbk.cell 1
  have d1' := hbk.frozen 1
  have hgl := hbk.lt
  obtain ⟨W1, hW1⟩ : ∃ W1, W1 = w.alloc (Obj.cells #[.int .i64 t, .string v, .slice A1 k.len c1] 76) := ⟨_, rfl⟩
  have hf1 : Fr0 w W1 := by rw [hW1]; exact (Fr.refl _ _).alloc _
  have hx : Blk W1 w.heap.size 76 #[.int .i64 t, .string v, .slice A1 k.len c1] := by rw [hW1]; exact Blk.new _ _ _
  have hsr := (search_any (n := t) (hown.fr0 hf1.drew).read hs0 hasc ht0 ht1).mono fun e w' (h : SearchPost _ _ _ e w') =>
    show e = .returned (.tuple #[.int .i64 (l.lo t).len, .bool false]) ∧ Fr0 W1.drew w' from ⟨by rw [h.1, hh], h.2⟩
  have Hsr := Lib.hid hsr
  clear hsr
  go_enter Try.func83, Try.ntmps83
  go_wp2_with fail
  rw [← hW1]
  have hWz : W1.heap.size = w.heap.size + 1 := by rw [hW1]; simp
  have HWz := Lib.hid hWz
  clear hW1 hWz
  have k0 := (hbk.fr0 hf1).cell 0
  have k1 := (hbk.fr0 hf1).cell 1
  have k2 := hx.cell 0
  simp only [List.getElem?_toArray, List.getElem?_cons_zero, List.getElem?_cons_succ] at k0 k1 k2
  go_region_law (go_simp; go_at_call 96; refine Hsr.out.mono ?_; rintro e w2 ⟨rfl, hf2⟩)
  all_goals
    go_wp2_with fail
    have hfa : Fr0 w w2 := hf1.drew.trans hf2
    have hbk2 := hbk.fr0 hfa
    have hx2 : Blk w2 w.heap.size 76 #[.int .i64 t, .string v, .slice A1 k.len c1] := hx.drew.fr0 hf2
    have hf3 : Fr0 w2 (w2.alloc (Obj.cells #[.int .i64 t, .string v, .slice A1 k.len c1] 76)).drew := ((Fr.refl _ _).alloc _).drew
    have hz2 := hfa.size
    have hX : w2.heap.size ∉ S := fun h => by have := (hown.lt _ h).2; omega
    have hins := insert_any (l1 := l.lo t) (l2 := l.hi t) (w := (w2.alloc (Obj.cells #[.int .i64 t, .string v, .slice A1 k.len c1] 76)).drew) (B := B) (v := .slice A l.len c) (S := S) (X := w2.heap.size) (tag := t) (val := v) (k := k) (S1 := S1)
      (by rw [Ns.lo_hi]; exact (hown.fr0 hfa).fr0 hf3) (by have := hf3.size; omega) hnd (Blk.new _ _ _) hX ((hk.fr0 hfa).fr0 hf3) hnd1 hdis (by rw [Ns.lo_hi]; have := l.len_le_sz; omega)
    have Hins := Lib.hid hins
    clear hins
    have Hfa := Lib.hid hfa
    have Hlt := Lib.hid hown.lt
    have HB := Lib.hid (And.intro hB (And.intro hg hg1))
    have m1 := hbk2.cell 1
    have m2 := hx2.cell 0
    have m3 := hx2.cell 1
    have m4 := hx2.cell 2
    have n1 := (hbk2.fr0 hf3).cell 1
    simp only [List.getElem?_toArray, List.getElem?_cons_zero, List.getElem?_cons_succ] at m1 m2 m3 m4 n1
    clear k0 k1 k2 c0 c1' d1' hown hk hs0 hasc hnd hnd1 hdis hh hbk hx hg hg1 hB hX
    go_region_law (go_simp; go_at_call 98; refine Hins.out.mono ?_; rintro e w4 ⟨A4, c4, S4, rfl, hown4, hnd4, hsub4, hf4⟩
                   have hbk4 := (hbk2.fr0 hf3).fr hf4 HB.out.2.1
                   have n1 := hbk4.cell 1
                   have n2 := hbk4.frozen 1)
    all_goals
      have hz3 := hf3.size
      have hgS4 : g ∉ S4 := fun h => by
        rcases hsub4 g h with h | h | h
        · exact HB.out.2.1 h
        · exact HB.out.2.2 h
        · omega
      have hfz : Fr (fun x => x = g ∨ x ∈ S) w (w4.setCell ⟨g, 1, none⟩ (.slice A4 ((l.lo t).app (.cons t v k (l.hi t))).len c4)) :=
        (((Hfa.out.trans hf3).mono (G' := fun x => x = g ∨ x ∈ S) fun _ _ h => h.elim).trans' hf4 fun _ _ h => .inr h).setCell (p := ⟨g, 1, none⟩) (.inr (.inl rfl)) _
      go_end0
      exact ⟨A4, c4, S4, rfl, by simpa using hbk4.set_ 1 (.slice A4 ((l.lo t).app (.cons t v k (l.hi t))).len c4),
        hown4.fr ((Fr.refl (fun x => x = g) w4).setCell (p := ⟨g, 1, none⟩) (.inr rfl) _) (fun x hx e => hgS4 (e ▸ hx)), hnd4, fun x hx => (hsub4 x hx).imp id (Or.imp id fun h => by omega), hfz⟩

/-- An element of an owned row laid anew, all three cells. -/
theorem own_set {w : World} {B e m g c : Nat} {l1 r : Ns} {t0 t : Int} {v0 v : ByteArray} {k0 k : Ns} {S S1 : List Nat} {A1 : Option Addr} {c1 : Nat}
    (hown : Own w B e m (.slice (some ⟨g, 0, none⟩) (l1.app (.cons t0 v0 k0 r)).len c) (l1.app (.cons t0 v0 k0 r)) S) (hnd : S.Nodup)
    (hk : Own w B 114 m (.slice A1 k.len c1) k S1) (hnd1 : S1.Nodup) (hdis : ∀ x ∈ S, x ∉ S1) :
    ∃ S', Own (((w.setCell ⟨g, l1.len * 3, none⟩ (.int .i64 t)).setCell ⟨g, l1.len * 3 + 1, none⟩ (.string v)).setCell ⟨g, l1.len * 3 + 2, none⟩ (.slice A1 k.len c1)) B e m
        (.slice (some ⟨g, 0, none⟩) (l1.app (.cons t v k r)).len c) (l1.app (.cons t v k r)) S' ∧ S'.Nodup ∧ (∀ x ∈ S', x ∈ S ∨ x ∈ S1) := by
  obtain ⟨A, c', ks, S0, hv, rfl, hrow, hkids⟩ := hown
  simp only [Value.slice.injEq, true_and] at hv
  obtain ⟨rfl, rfl⟩ := hv
  obtain ⟨A1', c1', ks1, S1', h1, rfl, hrow1, hkids1⟩ := hk
  simp only [Value.slice.injEq, true_and] at h1
  obtain ⟨rfl, rfl⟩ := h1
  obtain ⟨ka, kb, Sa, Sb, rfl, rfl, ha, hb⟩ := hkids.split
  obtain ⟨A2, c2, ks2, S2, kr, Sr, rfl, rfl, hrow2, hkids2, hr⟩ := hb
  have hka := length_cellsOf _ _ ha.length
  rw [cellsOf_app _ _ _ _ ha.length] at hrow
  obtain ⟨hs1, hg1⟩ := hrow.stored (l1.len * 3) (.int .i64 t)
  obtain ⟨hs2, hg2⟩ := hs1.stored (l1.len * 3 + 1) (.string v)
  obtain ⟨hs3, hg3⟩ := hs2.stored (l1.len * 3 + 2) (.slice A1 k.len c1)
  have hcells : (((cellsOf l1 ka ++ cellsOf (.cons t0 v0 k0 r) (.slice A2 k0.len c2 :: kr) ++ marks m).set (l1.len * 3) (.int .i64 t)).set (l1.len * 3 + 1) (.string v)).set (l1.len * 3 + 2) (.slice A1 k.len c1) =
      cellsOf (l1.app (.cons t v k r)) (ka ++ (.slice A1 k.len c1 :: kr)) ++ marks m := by
    rw [cellsOf_app _ _ _ _ ha.length]
    simp only [cellsOf, List.append_assoc, List.cons_append]
    rw [List.set_append_right _ _ (by omega), List.set_append_right _ _ (by omega), List.set_append_right _ _ (by omega), hka]
    simp
  rw [hcells] at hs3
  have hl : (l1.app (.cons t0 v0 k0 r)).len = (l1.app (.cons t v k r)).len := by simp only [Ns.len_app, Ns.len]
  rw [hl] at hs3
  have hf : Fr (fun x => x = g) w (((w.setCell ⟨g, l1.len * 3, none⟩ (.int .i64 t)).setCell ⟨g, l1.len * 3 + 1, none⟩ (.string v)).setCell ⟨g, l1.len * 3 + 2, none⟩ (.slice A1 k.len c1)) :=
    (((Fr.refl (fun x => x = g) w).setCell (p := ⟨g, l1.len * 3, none⟩) (.inr rfl) _).setCell (p := ⟨g, l1.len * 3 + 1, none⟩) (.inr rfl) _).setCell (p := ⟨g, l1.len * 3 + 2, none⟩) (.inr rfl) _
  have hgS : g ∈ blk (some ⟨g, 0, none⟩) := by simp [blk]
  simp only [List.nodup_append, List.mem_append] at hnd hnd1 hdis
  have hout : ∀ x, x ∈ Sa ∨ (x ∈ blk A2 ∨ x ∈ S2) ∨ x ∈ Sr → ¬ x = g := fun x hx e => by subst e; exact hnd.2.2 _ hgS _ hx rfl
  have hout1 : ∀ x, x ∈ blk A1 ∨ x ∈ S1' → ¬ x = g := fun x hx e => by subst e; exact hdis _ (.inl hgS) hx
  refine ⟨blk (some ⟨g, 0, none⟩) ++ (Sa ++ ((blk A1 ++ S1') ++ Sr)), ⟨_, _, ka ++ (.slice A1 k.len c1 :: kr), Sa ++ ((blk A1 ++ S1') ++ Sr), rfl, rfl, hs3, ?_⟩, ?_, ?_⟩
  · refine KOwn.app _ _ _ _ _ _ (ha.fr hf fun x hx => hout x (.inl hx)) ⟨A1, c1, ks1, S1', kr, Sr, rfl, rfl, ?_, hkids1.fr hf fun x hx => hout1 x (.inr hx), hr.fr hf fun x hx => hout x (.inr (.inr hx))⟩
    exact ownsRow_keep hrow1 fun x hx => hf.block x (ownsRow_lt hrow1 x hx).2 (hout1 x (.inl hx))
  · simp only [List.nodup_append, List.mem_append]
    refine ⟨blk_nodup _, ⟨hnd.2.1.1, ⟨hnd1, hnd.2.1.2.1.2.1, fun a h b h' e => ?_⟩, fun a h b h' e => ?_⟩, fun a h b h' e => ?_⟩
    · subst e; exact hdis a (.inr (.inr (.inr h'))) h
    · subst e
      rcases h' with h' | h'
      · exact hdis a (.inr (.inl h)) h'
      · exact hnd.2.1.2.2 a h a (.inr h') rfl
    · subst e
      have : a = g := by simpa [blk] using h
      rcases h' with h' | h' | h'
      · exact hout a (.inl h') this
      · exact hout1 a h' this
      · exact hout a (.inr (.inr h')) this
  · intro x hx
    simp only [List.mem_append] at hx ⊢
    rcases hx with hx | hx | (hx | hx) | hx
    · exact .inl (.inl hx)
    · exact .inl (.inr (.inl hx))
    · exact .inr (.inl hx)
    · exact .inr (.inr hx)
    · exact .inl (.inr (.inr (.inr hx)))
set_option maxRecDepth 100000 in
set_option maxHeartbeats 800000 in
theorem put_there {mti : ByteArray} {l : Ns} {w : World} {B g : Nat} {A : Option Addr} {c : Nat} {S S1 : List Nat} {t : Int} {v : ByteArray} {k : Ns} {A1 : Option Addr} {c1 : Nat} {v0 : ByteArray} {k0 r : Ns}
    (hbk : Blk w g 37 #[.string mti, .slice A l.len c]) (hown : Own w B 76 0 (.slice A l.len c) l S) (hnd : S.Nodup) (hg : g ∉ S) (hg1 : g ∉ S1) (hasc : l.asc 0) (hs0 : l.sz ≤ 1099511627776)
    (hk : Own w B 114 0 (.slice A1 k.len c1) k S1) (hnd1 : S1.Nodup) (hdis : ∀ x ∈ S, x ∉ S1) (ht0 : 0 ≤ t) (ht1 : t ≤ 128) (hh : l.hi t = .cons t v0 k0 r) :
    Calls Try.prog 83 #[.pointer (some ⟨g, 0, none⟩), .agg #[.int .i64 t, .string v, .slice A1 k.len c1]] w (PutPost w B g mti ((l.lo t).app (.cons t v k r)) S S1) := by
  have hg1' := hg1
  have hll : l = (l.lo t).app (.cons t v0 k0 r) := by rw [← hh, Ns.lo_hi]
  obtain ⟨gA, rfl, hgA⟩ : ∃ gA, A = some ⟨gA, 0, none⟩ ∧ gA ∈ S := by
    obtain ⟨A', c', ks, S', h1, rfl, hrow, _⟩ := id hown
    simp only [Value.slice.injEq, true_and] at h1
    obtain ⟨rfl, rfl⟩ := h1
    have hpos : 0 < l.len + 0 := by rw [hll]; simp only [Ns.len_app, Ns.len]; omega
    obtain ⟨gA, cap, hv, _, _⟩ := hrow.form hpos
    simp only [Value.slice.injEq, true_and] at hv
    obtain ⟨rfl, rfl⟩ := hv
    exact ⟨gA, rfl, by simp [blk]⟩
  have c0 := hbk.cell 0
  have c1' := hbk.cell 1
  have hgl := hbk.lt
  obtain ⟨W1, hW1⟩ : ∃ W1, W1 = w.alloc (Obj.cells #[.int .i64 t, .string v, .slice A1 k.len c1] 76) := ⟨_, rfl⟩
  have hf1 : Fr0 w W1 := by rw [hW1]; exact (Fr.refl _ _).alloc _
  have hx : Blk W1 w.heap.size 76 #[.int .i64 t, .string v, .slice A1 k.len c1] := by rw [hW1]; exact Blk.new _ _ _
  have hsr := (search_any (n := t) (hown.fr0 hf1.drew).read hs0 hasc ht0 ht1).mono fun e w' (h : SearchPost _ _ _ e w') =>
    show e = .returned (.tuple #[.int .i64 (l.lo t).len, .bool true]) ∧ Fr0 W1.drew w' from ⟨by rw [h.1, hh]; simp [Ns.headIs], h.2⟩
  have Hsr := Lib.hid hsr
  clear hsr
  have Hh := Lib.hid hh
  have Hll := Lib.hid hll
  clear hh hll
  go_enter Try.func83, Try.ntmps83
  go_wp2_with fail
  rw [← hW1]
  clear hW1
  have k0' := (hbk.fr0 hf1).cell 0
  have k1 := (hbk.fr0 hf1).cell 1
  have k2 := hx.cell 0
  simp only [List.getElem?_toArray, List.getElem?_cons_zero, List.getElem?_cons_succ] at k0' k1 k2
  go_region_law (go_simp; go_at_call 96; refine Hsr.out.mono ?_; rintro e w2 ⟨rfl, hf2⟩)
  all_goals
    go_wp2_with fail
    have hfa : Fr0 w w2 := hf1.drew.trans hf2
    have hbk2 := hbk.fr0 hfa
    have hx2 : Blk w2 w.heap.size 76 #[.int .i64 t, .string v, .slice A1 k.len c1] := hx.drew.fr0 hf2
    have hown2 := hown.fr0 hfa
    have hset : ∃ S', Own ((((w2.drew).setCell ⟨gA, (l.lo t).len * 3, none⟩ (.int .i64 t)).setCell ⟨gA, (l.lo t).len * 3 + 1, none⟩ (.string v)).setCell ⟨gA, (l.lo t).len * 3 + 2, none⟩ (.slice A1 k.len c1)) B 76 0
        (.slice (some ⟨gA, 0, none⟩) ((l.lo t).app (.cons t v k r)).len c) ((l.lo t).app (.cons t v k r)) S' ∧ S'.Nodup ∧ (∀ x ∈ S', x ∈ S ∨ x ∈ S1) :=
      own_set (v0 := v0) (k0 := k0) (t0 := t) (by have h := hown2.fr0 (w' := w2.drew) (Fr.refl _ _).drew; rw [Hll.out] at h; simpa only [← Hll.out] using h) hnd (hk.fr0 hfa.drew) hnd1 hdis
    have Hset := Lib.hid hset
    clear hset
    have hrd : RdFrom w2 (· ∈ S) (.cons t v0 k0 r) gA ((l.lo t).len * 3) := by
      obtain ⟨A', c', h1, _, h2⟩ := hown2.read
      simp only [Value.slice.injEq] at h1
      obtain ⟨rfl, _, rfl⟩ := h1
      rcases h2 with h2 | ⟨b', o', h2, h3⟩
      · have := Hll.out; rw [h2] at this; cases hq : Ns.lo t Ns.nil <;> rw [hq] at this <;> simp [Ns.app] at this
      · simp only [Option.some.injEq, Addr.mk.injEq, and_true] at h2
        obtain ⟨rfl, rfl⟩ := h2
        rw [Hll.out] at h3
        have := RdFrom.app _ _ _ _ h3
        rwa [Nat.zero_add] at this
    have r1 := hrd.2.1
    have r2 := hrd.2.2.1
    obtain ⟨Ak, ck, r3, _⟩ := hrd.kids
    have hfro : ∀ j, w2.frozen? ⟨gA, j, none⟩ = false := by
      obtain ⟨A', c', ks, S', h1, _, hrow, _⟩ := id hown2
      simp only [Value.slice.injEq, true_and] at h1
      obtain ⟨rfl, rfl⟩ := h1
      exact hrow.frozenAt
    have f1 := hfro ((l.lo t).len * 3)
    have f2 := hfro ((l.lo t).len * 3 + 1)
    have f3 := hfro ((l.lo t).len * 3 + 2)
    have m1 := hbk2.cell 1
    have m2 := hx2.cell 0
    have m3 := hx2.cell 1
    have m4 := hx2.cell 2
    simp only [List.getElem?_toArray, List.getElem?_cons_zero, List.getElem?_cons_succ] at m1 m2 m3 m4
    have hlt : (l.lo t).len < l.len := by have := congrArg Ns.len Hll.out; simp only [Ns.len_app, Ns.len] at this; omega
    have hlt' : ((l.lo t).len : Int) < (l.len : Int) := by omega
    have hneg : ¬ gA = g := fun e => hg (e ▸ hgA)
    have Hfa := Lib.hid hfa
    have Hbk := Lib.hid hbk2
    clear hfro hrd hown2 hbk2 hx2 hfa k0' k1 k2 c0 c1' hown hk hs0 hasc hnd hnd1 hdis hbk hx hg1
    go_region
    all_goals
      obtain ⟨S', hown', hnd', hsub⟩ := Hset.out
      have hfz : Fr (fun x => x = g ∨ x ∈ S) w ((((w2.drew).setCell ⟨gA, (l.lo t).len * 3, none⟩ (.int .i64 t)).setCell ⟨gA, (l.lo t).len * 3 + 1, none⟩ (.string v)).setCell ⟨gA, (l.lo t).len * 3 + 2, none⟩ (.slice A1 k.len c1)) :=
        ((((Hfa.out.drew).mono (G' := fun x => x = g ∨ x ∈ S) fun _ _ h => h.elim).setCell (p := ⟨gA, (l.lo t).len * 3, none⟩) (.inr (.inr hgA)) _).setCell (p := ⟨gA, (l.lo t).len * 3 + 1, none⟩) (.inr (.inr hgA)) _).setCell (p := ⟨gA, (l.lo t).len * 3 + 2, none⟩) (.inr (.inr hgA)) _
      have hbz : Blk ((((w2.drew).setCell ⟨gA, (l.lo t).len * 3, none⟩ (.int .i64 t)).setCell ⟨gA, (l.lo t).len * 3 + 1, none⟩ (.string v)).setCell ⟨gA, (l.lo t).len * 3 + 2, none⟩ (.slice A1 k.len c1)) g 37 #[.string mti, .slice (some ⟨gA, 0, none⟩) l.len c] :=
        (((Hbk.out.drew).far (p := ⟨gA, (l.lo t).len * 3, none⟩) (Ne.symm hneg) _).far (p := ⟨gA, (l.lo t).len * 3 + 1, none⟩) (Ne.symm hneg) _).far (p := ⟨gA, (l.lo t).len * 3 + 2, none⟩) (Ne.symm hneg) _
      have hle : l.len = ((l.lo t).app (.cons t v k r)).len := by have := congrArg Ns.len Hll.out; simp only [Ns.len_app, Ns.len] at this ⊢; omega
      go_end0
      exact ⟨_, c, S', rfl, by rw [← hle]; exact hbz, hown', hnd', fun x hx => (hsub x hx).imp id .inl, hfz⟩

theorem Ns.rest_of_new {n : Int} {l : Ns} (h : (l.hi n).headIs n = false) : l.rest n = l.hi n := by
  unfold Ns.rest
  cases hh : l.hi n with
  | nil => rfl
  | cons t v k r =>
    rw [hh] at h
    simp only [Ns.headIs, decide_eq_false_iff_not] at h
    simp only [if_neg h]
theorem put_any {mti : ByteArray} {l : Ns} {w : World} {B g : Nat} {A : Option Addr} {c : Nat} {S S1 : List Nat} {t : Int} {v : ByteArray} {k : Ns} {A1 : Option Addr} {c1 : Nat}
    (hbk : Blk w g 37 #[.string mti, .slice A l.len c]) (hown : Own w B 76 0 (.slice A l.len c) l S) (hB : B ≤ w.heap.size) (hnd : S.Nodup) (hg : g ∉ S) (hg1 : g ∉ S1) (hasc : l.asc 0) (hs0 : l.sz ≤ 1099511627776)
    (hk : Own w B 114 0 (.slice A1 k.len c1) k S1) (hnd1 : S1.Nodup) (hdis : ∀ x ∈ S, x ∉ S1) (ht0 : 0 ≤ t) (ht1 : t ≤ 128) :
    Calls Try.prog 83 #[.pointer (some ⟨g, 0, none⟩), .agg #[.int .i64 t, .string v, .slice A1 k.len c1]] w (PutPost w B g mti (l.putF t v k) S S1) := by
  cases hb : (l.hi t).headIs t with
  | false =>
    have := put_new (v := v) hbk hown hB hnd hg hg1 hasc hs0 hk hnd1 hdis ht0 ht1 hb
    rwa [← Ns.rest_of_new hb] at this
  | true =>
    cases hh : l.hi t with
    | nil => rw [hh] at hb; simp [Ns.headIs] at hb
    | cons t' v0 k0 r =>
      rw [hh] at hb
      simp only [Ns.headIs, decide_eq_true_eq] at hb
      subst hb
      have := put_there (v := v) hbk hown hnd hg hg1 hasc hs0 hk hnd1 hdis ht0 ht1 hh
      have hr : l.rest t' = r := by unfold Ns.rest; rw [hh]; simp
      unfold Ns.putF
      rwa [hr]
end Go.Proofs.Ytgeiimifhbiklaa
