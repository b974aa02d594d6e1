/- The message package, second part: sound, fieldSound, Right, Whole; contracts, proved by walks. -/
import Derived.Test.YtgeiimifhbiklaaMsgA
import Derived.Test.YtgeiimifhbiklaaMsgR
namespace Go.Proofs.Ytgeiimifhbiklaa
open Go.RowKit

/-! ### sound, fieldSound -/
/-- The nodes of a row, the first of them d deep, m counted ahead of them: are they sound? How many were counted? -/
def soundF : Ns → Int → Int → Bool × Int
  | .nil, _, m => (true, m)
  | .cons t v k r, d, m =>
    if 500 < m + 1 ∨ 8 < d ∨ t < 0 ∨ (v.toList ≠ [] ∧ 0 < k.len) then (false, m + 1)
    else if (soundF k (d + 1) (m + 1)).1 = true then soundF r d (soundF k (d + 1) (m + 1)).2 else (false, (soundF k (d + 1) (m + 1)).2)
theorem soundF_le : ∀ (l : Ns) (d m : Int), m ≤ (soundF l d m).2 ∧ ((soundF l d m).1 = true → m ≤ 500 → (soundF l d m).2 ≤ 500)
  | .nil, d, m => ⟨Int.le_refl _, fun _ h => h⟩
  | .cons t v k r, d, m => by
    have h1 := soundF_le k (d + 1) (m + 1)
    have h2 := soundF_le r d (soundF k (d + 1) (m + 1)).2
    simp only [soundF]
    split
    · exact ⟨by simp only []; omega, fun h => by simp at h⟩
    · rename_i hn
      split
      · rename_i hb
        exact ⟨by omega, fun h hm => h2.2 h (h1.2 hb (by omega))⟩
      · exact ⟨by simp only []; omega, fun h => by simp at h⟩
def SoundPost (w : World) (g : Nat) (l : Ns) (d m : Int) (e : Ending) (w' : World) : Prop :=
  e = .returned (.bool (soundF l d m).1) ∧ Blk w' g 3 #[.int .i64 (soundF l d m).2] ∧ Fr (fun x => x = g) w w'
set_option maxRecDepth 100000 in
set_option maxHeartbeats 800000 in
theorem sound_N (N : Nat) : ∀ (l : Ns) (w : World) (ok : Nat → Prop) (v : Value) (d m : Int) (g : Nat), l.sz < N → l.sz ≤ 1099511627776 → Rd w ok v l → (∀ x, ok x → x ≠ g) → Blk w g 3 #[.int .i64 m] → 0 ≤ m → m ≤ 500 → 0 ≤ d → d ≤ 9 →
    Calls Try.prog 95 #[v, .int .i64 d, .pointer (some ⟨g, 0, none⟩)] w (SoundPost w g l d m) := by
  induction N with
  | zero => intro l w ok v d m g h; omega
  | succ N ih0 =>
    have ih := Lib.hid ih0
    clear ih0
    intro l w ok v d m g hl0 hs0 hr hne0 hbk0 hm0 hm1 hd0 hd1
    obtain ⟨A, c, rfl, hlc, hcase⟩ := hr
    have hl := Lib.hid hl0
    have hs := Lib.hid hs0
    have hne := Lib.hid hne0
    have hb : l.len < 9223372036854775807 := by have := l.len_le_sz; omega
    have hC := Lib.hid hcase
    have hB := Lib.hid hbk0
    clear hl0 hs0 hne0 hcase hbk0
    go_enter Try.func95, Try.ntmps95
    go_wp2
    go_loopw [11] (fun i wr => ∃ (done rest : Ns) (m' : Int), l = done.app rest ∧ i = .int .i64 done.len ∧ Blk wr g 3 #[.int .i64 m'] ∧ 0 ≤ m' ∧ m' ≤ 500 ∧ soundF l d m = soundF rest d m' ∧ Fr (fun x => x = g) w wr ∧
      (rest = .nil ∨ ∃ b o, A = some ⟨b, o, none⟩ ∧ RdFrom w ok rest b (o + done.len * 3))) (fun i _ => l.len - (intOf i).toNat)
    case atStart =>
      refine ⟨.nil, l, m, rfl, rfl, hB.out, hm0, hm1, rfl, Fr.refl _ _, ?_⟩
      simpa [Ns.len] using hC.out
    case round =>
      obtain ⟨done, rest, m', rfl, rfl, hbk, hm0', hm1', heq, hfr, hrest⟩ := hrel
      have hE := Lib.hid heq
      clear heq hC hB
      cases rest with
      | nil =>
        have hln : ((done.app Ns.nil).len : Int) = done.len := by rw [Ns.app_nil]
        go_wp2_with fail
        go_ret
        exact ⟨by rw [hE.out]; rfl, by rw [hE.out]; exact hbk, hfr⟩
      | cons t v k r =>
        simp only [reduceCtorEq, false_or] at hrest
        obtain ⟨b, o, rfl, hrd⟩ := hrest
        have hsz := Lib.hid (Ns.sz_app done (.cons t v k r))
        have hll := Lib.hid (Ns.len_app done (.cons t v k r))
        have hlt : (done.len : Int) < ((done.app (.cons t v k r)).len : Int) := by rw [hll.out]; simp only [Ns.len]; omega
        have hlt' : done.len < (done.app (.cons t v k r)).len := by omega
        have hrd' := hrd.fr hfr fun x hx => hne.out x hx
        have h1 := hrd'.2.1
        have h2 := hrd'.2.2.1
        obtain ⟨A', c', h3, hk⟩ := hrd'.kids
        have e0 := hbk.cell 0
        have e1 := hbk.frozen 0
        have hgz := hbk.lt
        have hX : Fr (fun x => x = g) w ((wr.setCell ⟨g, 0, none⟩ (.int .i64 (m' + 1))).alloc (Obj.cells #[.int .i64 t, .string v, .slice A' k.len c'] 114)) := (hfr.setCell (p := ⟨g, 0, none⟩) (.inr rfl) _).alloc _
        have hY : Fr (fun x => x = g) wr ((wr.setCell ⟨g, 0, none⟩ (.int .i64 (m' + 1))).alloc (Obj.cells #[.int .i64 t, .string v, .slice A' k.len c'] 114)) := ((Fr.refl (fun x => x = g) wr).setCell (p := ⟨g, 0, none⟩) (.inr rfl) _).alloc _
        have hZ : Blk ((wr.setCell ⟨g, 0, none⟩ (.int .i64 (m' + 1))).alloc (Obj.cells #[.int .i64 t, .string v, .slice A' k.len c'] 114)) g 3 #[.int .i64 (m' + 1)] := (hbk.set_ 0 _).alloc _
        have hbad : (500 < m' + 1 ∨ 8 < d ∨ t < 0 ∨ (v.toList ≠ [] ∧ 0 < k.len)) → soundF (done.app (.cons t v k r)) d m = (false, m' + 1) := fun h => by rw [hE.out]; simp only [soundF]; rw [if_pos h]
        have hBad := Lib.hid hbad
        clear hbad
        have fin : (500 < m' + 1 ∨ 8 < d ∨ t < 0 ∨ (v.toList ≠ [] ∧ 0 < k.len)) → SoundPost w g (done.app (.cons t v k r)) d m (.returned (.bool false)) ((wr.setCell ⟨g, 0, none⟩ (.int .i64 (m' + 1))).alloc (Obj.cells #[.int .i64 t, .string v, .slice A' k.len c'] 114)) := fun h =>
          ⟨by rw [hBad.out h], by rw [hBad.out h]; exact hZ, hX⟩
        have Fin := Lib.hid fin
        clear fin
        by_cases c1 : 500 < m' + 1
        · go_wp2_with fail
          go_ret
          exact Fin.out (.inl c1)
        · by_cases c2 : 8 < d
          · go_wp2_with fail
            go_ret
            exact Fin.out (.inr (.inl c2))
          · by_cases c3 : t < 0
            · go_wp2_with fail
              go_ret
              exact Fin.out (.inr (.inr (.inl c3)))
            · have goon : ¬ (v.toList ≠ [] ∧ 0 < k.len) → soundF (done.app (.cons t v k r)) d m = if (soundF k (d + 1) (m' + 1)).1 = true then soundF r d (soundF k (d + 1) (m' + 1)).2 else (false, (soundF k (d + 1) (m' + 1)).2) := fun h => by
                rw [hE.out]; simp only [soundF]; rw [if_neg (by rintro (h' | h' | h' | h') <;> first | omega | exact h h')]
              have Goon := Lib.hid goon
              clear goon
              have hle := soundF_le k (d + 1) (m' + 1)
              have hLe := Lib.hid hle
              clear hle
              by_cases hv : v.toList = []
              case' pos => have Hg := Lib.hid (Goon.out fun h => h.1 hv)
              case' neg =>
                by_cases hk0 : 0 < k.len
                case pos =>
                  go_wp2_with fail
                  go_ret
                  exact Fin.out (.inr (.inr (.inr ⟨hv, by omega⟩)))
                have Hg := Lib.hid (Goon.out fun h => by omega)
              all_goals
                go_wp2_with fail
                refine (ih.out k _ ok _ (d + 1) (m' + 1) g (by have := hl.out; have := hsz.out; simp only [Ns.sz] at this; omega) (by have := hs.out; have := hsz.out; simp only [Ns.sz] at this; omega) (hk.fr hY fun x hx => hne.out x hx) hne.out hZ (by omega) (by omega) (by omega) (by omega)).mono ?_
                rintro e w1 ⟨rfl, hbk1, hfr1⟩
                have hfrz := hX.trans hfr1
                cases hsk : (soundF k (d + 1) (m' + 1)).1 with
                | false =>
                  have HG : soundF (done.app (.cons t v k r)) d m = (false, (soundF k (d + 1) (m' + 1)).2) := by rw [Hg.out, if_neg (by rw [hsk]; simp)]
                  have HH := Lib.hid HG
                  clear HG
                  go_wp2_with fail
                  go_ret
                  exact ⟨by rw [HH.out]; rfl, by rw [HH.out]; exact hbk1, hfrz⟩
                | true =>
                  have HG : soundF (done.app (.cons t v k r)) d m = soundF r d (soundF k (d + 1) (m' + 1)).2 := by rw [Hg.out, if_pos hsk]
                  have HH := Lib.hid HG
                  clear HG
                  go_wp2_with fail
                  go_roundw
                  case rel =>
                    refine ⟨done.app (.one t v k), r, (soundF k (d + 1) (m' + 1)).2, by simp [Ns.app_assoc, Ns.one, Ns.app], by simp [Ns.len_app, Ns.one, Ns.len], hbk1, ?_, ?_, HH.out, hfrz, .inr ⟨b, o, rfl, ?_⟩⟩
                    · have := hLe.out.1; omega
                    · exact hLe.out.2 hsk (by omega)
                    · have := hrd.2.2.2.2
                      simp only [Ns.len_app, Ns.one, Ns.len]
                      rwa [show o + (done.len + (0 + 1)) * 3 = o + done.len * 3 + 3 from by omega]
                  case measure => simp [intOf]; omega
theorem sound_any {l : Ns} {w : World} {ok : Nat → Prop} {v : Value} {d m : Int} {g : Nat} (hs : l.sz ≤ 1099511627776) (hr : Rd w ok v l) (hne : ∀ x, ok x → x ≠ g) (hb : Blk w g 3 #[.int .i64 m]) (hm0 : 0 ≤ m) (hm1 : m ≤ 500) (hd0 : 0 ≤ d) (hd1 : d ≤ 9) :
    Calls Try.prog 95 #[v, .int .i64 d, .pointer (some ⟨g, 0, none⟩)] w (SoundPost w g l d m) := sound_N (l.sz + 1) l w ok v d m g (by omega) hs hr hne hb hm0 hm1 hd0 hd1

def fsoundB (t : Int) (v : ByteArray) (k : Ns) : Bool := numberB t && (decide (v.toList = []) || decide (k.len = 0)) && (soundF k 1 0).1
set_option maxRecDepth 100000 in
theorem fieldSound_any {t : Int} {v : ByteArray} {k : Ns} {w : World} {ok : Nat → Prop} {A : Option Addr} {c : Nat} (hs : k.sz ≤ 1099511627776) (hr : Rd w ok (.slice A k.len c) k) :
    Calls Try.prog 76 #[.agg #[.int .i64 t, .string v, .slice A k.len c]] w fun e w' => e = .returned (.bool (fsoundB t v k)) ∧ Fr0 w w' := by
  have hS := Lib.hid hs
  clear hs
  have hfr : Fr0 w ((w.alloc (Obj.cells #[.int .i64 t, .string v, .slice A k.len c] 76)).alloc (Obj.cells #[.int .i64 0] 3)) := ((Fr.refl _ _).alloc _).alloc _
  have hbk : Blk ((w.alloc (Obj.cells #[.int .i64 t, .string v, .slice A k.len c] 76)).alloc (Obj.cells #[.int .i64 0] 3)) (w.heap.size + 1) 3 #[.int .i64 0] := by
    have := Blk.new (w.alloc (Obj.cells #[.int .i64 t, .string v, .slice A k.len c] 76)) 3 #[.int .i64 0]
    simpa only [World.size_alloc] using this
  have hlast := (sound_any (d := 1) (m := 0) hS.out (hr.bound.fr0 hfr) (fun x hx => by have := hx.2; omega) hbk (by omega) (by omega) (by omega) (by omega)).mono fun e w' (h : SoundPost _ _ _ _ _ e w') =>
    show e = .returned (.bool (soundF k 1 0).1) ∧ Fr0 w w' from ⟨h.1, hfr.trans' h.2.2 fun i hi e => by omega⟩
  have hLast := Lib.hid hlast
  clear hlast hbk
  go_enter Try.func76, Try.ntmps76
  go_wp2_with fail
  refine (number_any _ _).mono ?_
  rintro e w1 ⟨rfl, rfl⟩
  cases hn : numberB t with
  | false =>
    go_wp2_with fail
    go_ret
    exact ⟨by simp [fsoundB, hn], hfr⟩
  | true =>
    by_cases hv : v.toList = []
    case pos =>
      go_wp2_with fail
      refine hLast.out.mono ?_
      rintro e w1 ⟨rfl, hfz⟩
      go_wp2_with fail
      go_ret
      exact ⟨by simp [fsoundB, hn, hv], hfz⟩
    case neg =>
      by_cases hk : ((k.len : Int) == 0) = true
      case pos =>
        go_wp2_with fail
        refine hLast.out.mono ?_
        rintro e w1 ⟨rfl, hfz⟩
        go_wp2_with fail
        go_ret
        exact ⟨by simp [fsoundB, hn]; simp at hk; simp [hk], hfz⟩
      case neg =>
        go_wp2_with fail
        skip
        go_ret
        exact ⟨by simp [fsoundB, hn, hv]; simp at hk; simp [hk], hfr⟩
/-! ### Whole -/
def wholeF : Ns → Int → Bool
  | .nil, _ => true
  | .cons t v k r, last => if t ≤ last then false else if fsoundB t v k = true then wholeF r t else false
def wholeB (mti : ByteArray) (l : Ns) : Bool := wholeF l 0 && rightB mti
set_option maxRecDepth 100000 in
set_option maxHeartbeats 400000 in
theorem whole_any {mti : ByteArray} {l : Ns} {w : World} {ok : Nat → Prop} {v : Value} (hr : Rd w ok v l) (hs0 : l.sz ≤ 1099511627776) :
    Calls Try.prog 55 #[.agg #[.string mti, v]] w fun e w' => e = .returned (.bool (wholeB mti l)) ∧ Fr0 w w' := by
  obtain ⟨A, c, rfl, hlc, hcase⟩ := hr
  have hs := Lib.hid hs0
  have hb : l.len < 9223372036854775807 := by have := l.len_le_sz; omega
  have hC := Lib.hid hcase
  clear hs0 hcase
  go_enter Try.func55, Try.ntmps55
  go_wp2
  go_loopw [3, 9] (fun u i wr => ∃ (done rest : Ns) (last : Int), l = done.app rest ∧ i = .int .i64 done.len ∧ u = .int .i64 last ∧ wholeF l 0 = wholeF rest last ∧ Blk wr w.heap.size 37 #[.string mti, .slice A l.len c] ∧ Fr0 w wr ∧
    (rest = .nil ∨ ∃ b o, A = some ⟨b, o, none⟩ ∧ RdFrom w ok rest b (o + done.len * 3))) (fun _ i _ => l.len - (intOf i).toNat)
  case atStart =>
    refine ⟨.nil, l, 0, rfl, rfl, rfl, rfl, Blk.new _ _ _, (Fr.refl _ _).alloc _, ?_⟩
    simpa [Ns.len] using hC.out
  case round =>
    obtain ⟨done, rest, last, rfl, rfl, rfl, heq, hbk, hfr, hrest⟩ := hrel
    have hE := Lib.hid heq
    clear heq hC
    cases rest with
    | nil =>
      have hln : ((done.app Ns.nil).len : Int) = done.len := by rw [Ns.app_nil]
      have e0 := hbk.cell 0
      go_wp2_with fail
      refine (m_right mti wr).mono ?_
      rintro e w1 ⟨rfl, hf⟩
      have HE := Lib.hid (show wholeB mti (done.app .nil) = rightB mti by simp only [wholeB, hE.out, wholeF, Bool.true_and])
      go_wp2_with fail
      go_ret
      exact ⟨by rw [HE.out]; rfl, hfr.trans hf⟩
    | cons t v k r =>
      simp only [reduceCtorEq, false_or] at hrest
      obtain ⟨b, o, rfl, hrd⟩ := hrest
      have hsz := Lib.hid (Ns.sz_app done (.cons t v k r))
      have hll := Lib.hid (Ns.len_app done (.cons t v k r))
      have hlt : (done.len : Int) < ((done.app (.cons t v k r)).len : Int) := by rw [hll.out]; simp only [Ns.len]; omega
      have hlt' : done.len < (done.app (.cons t v k r)).len := by omega
      have hrd' := hrd.fr0 hfr
      have h1 := hrd'.2.1
      have h2 := hrd'.2.2.1
      obtain ⟨A', c', h3, hk⟩ := hrd'.kids
      have hf1 : Fr0 wr (wr.alloc (Obj.cells #[.int .i64 t, .string v, .slice A' k.len c'] 76)) := (Fr.refl _ _).alloc _
      by_cases hle : t ≤ last
      · have HE := Lib.hid (show wholeB mti (done.app (.cons t v k r)) = false by simp only [wholeB, hE.out, wholeF, if_pos hle, Bool.false_and])
        go_wp2_with fail
        go_ret
        exact ⟨by rw [HE.out]; rfl, hfr.trans hf1⟩
      · go_wp2_with fail
        refine (fieldSound_any (by have := hs.out; have := hsz.out; simp only [Ns.sz] at this; omega) (hk.fr0 hf1)).mono ?_
        rintro e w1 ⟨rfl, hfr1⟩
        have hfz := (hfr.trans hf1).trans hfr1
        have hbx : Blk w1 wr.heap.size 76 #[.int .i64 t, .string v, .slice A' k.len c'] := (Blk.new _ _ _).fr0 hfr1
        have d0 := hbx.cell 0
        have hbk1 := hbk.fr0 (hf1.trans hfr1)
        cases hsn : fsoundB t v k with
        | false =>
          have HE := Lib.hid (show wholeB mti (done.app (.cons t v k r)) = false by simp only [wholeB, hE.out, wholeF, if_neg (show ¬ t ≤ last by omega), hsn, Bool.false_eq_true, if_false, Bool.false_and])
          go_wp2_with fail
          go_ret
          exact ⟨by rw [HE.out]; rfl, hfz⟩
        | true =>
          have HE := Lib.hid (show wholeF (done.app (.cons t v k r)) 0 = wholeF r t by rw [hE.out]; simp only [wholeF, if_neg (show ¬ t ≤ last by omega), hsn, if_true])
          go_wp2_with fail
          go_roundw
          case rel =>
            refine ⟨done.app (.one t v k), r, t, by simp [Ns.app_assoc, Ns.one, Ns.app], by simp [Ns.len_app, Ns.one, Ns.len], rfl, HE.out, hbk1, hfz, .inr ⟨b, o, rfl, ?_⟩⟩
            have := hrd.2.2.2.2
            simp only [Ns.len_app, Ns.one, Ns.len]
            rwa [show o + (done.len + (0 + 1)) * 3 = o + done.len * 3 + 3 from by omega]
          case measure => simp [intOf]; omega
end Go.Proofs.Ytgeiimifhbiklaa
