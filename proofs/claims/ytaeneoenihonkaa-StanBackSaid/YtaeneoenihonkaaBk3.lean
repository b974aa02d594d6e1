/- What is restored of a message, as rows: the plain law of StanBack; nothing is claimed of the program here. -/
import Derived.Test.YtaeneoenihonkaaRest
import Derived.Test.YtaeneoenihonkaaGet
import Derived.Test.YtaeneoenihonkaaBk2
namespace Go.Proofs.Ytaeneoenihonkaa
open Go.RowKit

/-- The first field of a number. -/
def findF (x : Int) : Ns → Option (ByteArray × Ns)
  | .nil => none
  | .cons t v k r => if t = x then some (v, k) else findF x r
theorem getF_find (x : Int) : ∀ l : Ns, getF x l = (findF x l).map (·.1)
  | .nil => rfl
  | .cons t v k r => by
    simp only [getF, findF]
    split
    · rfl
    · exact getF_find x r
theorem findF_low (x : Int) : ∀ (l : Ns) (d : Int), l.asc d → x ≤ d → findF x l = none
  | .nil, _, _, _ => rfl
  | .cons t v k r, d, h, hx => by
    have := h.1
    rw [findF, if_neg (by omega)]
    exact findF_low x r t h.2.2 (by omega)
theorem findF_at (t : Int) (v : ByteArray) (k r : Ns) : ∀ (a : Ns) (d : Int), (a.app (.cons t v k r)).asc d → findF t (a.app (.cons t v k r)) = some (v, k)
  | .nil, _, _ => by rw [Ns.app, findF, if_pos rfl]
  | .cons t0 v0 k0 r0, d, h => by
    have h2 := (Ns.asc_app r0 t v k r t0 h.2.2).1
    rw [Ns.app, findF, if_neg (by omega)]
    exact findF_at t v k r r0 t0 h.2.2
theorem lastT_lt (t : Int) (v : ByteArray) (k r : Ns) : ∀ (a : Ns) (d : Int), (a.app (.cons t v k r)).asc d → a.lastT d < t
  | .nil, d, h => h.1
  | .cons t0 v0 k0 r0, d, h => lastT_lt t v k r r0 t0 h.2.2
theorem ext_find : ∀ (a b : Ns) (d : Int), a.asc d → b.asc d → (∀ x, findF x a = findF x b) → a = b
  | .nil, .nil, _, _, _, _ => rfl
  | .nil, .cons t v k r, _, _, _, h => by
    have := h t
    simp [findF] at this
  | .cons t v k r, .nil, _, _, _, h => by
    have := h t
    simp [findF] at this
  | .cons t v k r, .cons t' v' k' r', d, ha, hb, h => by
    have h1 := h t
    have h2 := h t'
    simp only [findF, if_true] at h1 h2
    by_cases e : t = t'
    · subst e
      simp only [if_true, Option.some.injEq, Prod.mk.injEq] at h1
      obtain ⟨rfl, rfl⟩ := h1
      rw [ext_find r r' t ha.2.2 hb.2.2 fun x => by
        by_cases hx : t = x
        · subst hx
          rw [findF_low t r t ha.2.2 (Int.le_refl _), findF_low t r' t hb.2.2 (Int.le_refl _)]
        · have := h x
          simpa only [findF, if_neg hx] using this]
    · exfalso
      rw [if_neg (fun q => e q.symm)] at h1
      rw [if_neg e] at h2
      by_cases hlt : t < t'
      · rw [findF_low t r' t' hb.2.2 (by omega)] at h1
        simp at h1
      · rw [findF_low t' r t ha.2.2 (by omega)] at h2
        simp at h2
theorem findF_keep (x : Int) (p : Int → Bool) : ∀ l : Ns, findF x (l.keep p) = if p x = true then findF x l else none
  | .nil => by simp [Ns.keep, findF]
  | .cons t v k r => by
    have ih := findF_keep x p r
    simp only [Ns.keep]
    by_cases hp : p t = true
    · rw [if_pos hp, findF, findF, ih]
      by_cases e : t = x
      · subst e; simp [hp]
      · simp [e]
    · rw [if_neg hp, ih, findF]
      by_cases e : t = x
      · subst e; simp [hp]
      · simp [e]
theorem wholeF_mono : ∀ (l : Ns) (d d' : Int), d' ≤ d → wholeF l d = true → wholeF l d' = true
  | .nil, _, _, _, _ => rfl
  | .cons t v k r, d, d', h, hw => by
    simp only [wholeF] at hw ⊢
    split at hw
    · simp at hw
    · rw [if_neg (by omega)]
      exact hw
theorem wholeF_cons {t : Int} {v : ByteArray} {k r : Ns} {d : Int} : wholeF (.cons t v k r) d = true ↔ d < t ∧ fsoundB t v k = true ∧ wholeF r t = true := by
  simp only [wholeF]
  split
  · rename_i h
    simp
    omega
  · rename_i h
    have h' : d < t := by omega
    split <;> simp_all
theorem wholeF_keep (p : Int → Bool) : ∀ (l : Ns) (d : Int), wholeF l d = true → wholeF (l.keep p) d = true
  | .nil, _, _ => rfl
  | .cons t v k r, d, h => by
    obtain ⟨h1, h2, h3⟩ := wholeF_cons.1 h
    have ih := wholeF_keep p r t h3
    simp only [Ns.keep]
    split
    · exact wholeF_cons.2 ⟨h1, h2, ih⟩
    · exact wholeF_mono _ _ _ (by omega) ih
theorem putF_nil (t : Int) (v : ByteArray) (k : Ns) : Ns.nil.putF t v k = .cons t v k .nil := rfl
theorem putF_cons (t0 : Int) (v0 : ByteArray) (k0 r : Ns) (t : Int) (v : ByteArray) (k : Ns) :
    (Ns.cons t0 v0 k0 r).putF t v k = if t0 < t then .cons t0 v0 k0 (r.putF t v k) else .cons t v k (if t0 = t then r else .cons t0 v0 k0 r) := by
  by_cases h : t0 < t
  · simp [Ns.putF, Ns.lo, Ns.hi, Ns.rest, h, Ns.app]
  · simp [Ns.putF, Ns.lo, Ns.hi, Ns.rest, h, Ns.app]
theorem wholeF_putF {t : Int} {v : ByteArray} {k : Ns} (hs : fsoundB t v k = true) : ∀ (l : Ns) (d : Int), wholeF l d = true → d < t → wholeF (l.putF t v k) d = true
  | .nil, d, _, h => by rw [putF_nil]; exact wholeF_cons.2 ⟨h, hs, rfl⟩
  | .cons t0 v0 k0 r, d, hw, h => by
    obtain ⟨h1, h2, h3⟩ := wholeF_cons.1 hw
    rw [putF_cons]
    split
    · rename_i hlt
      exact wholeF_cons.2 ⟨h1, h2, wholeF_putF hs r t0 h3 hlt⟩
    · rename_i hlt
      refine wholeF_cons.2 ⟨h, hs, ?_⟩
      split
      · rename_i e
        subst e
        exact h3
      · exact wholeF_cons.2 ⟨by omega, h2, h3⟩
theorem findF_putF (x t : Int) (v : ByteArray) (k : Ns) : ∀ l : Ns, findF x (l.putF t v k) = if x = t then some (v, k) else findF x l
  | .nil => by
    rw [putF_nil, findF, findF]
    by_cases h : x = t
    · simp [h]
    · have h' : ¬ t = x := fun e => h e.symm
      simp [h, h', findF]
  | .cons t0 v0 k0 r => by
    rw [putF_cons]
    by_cases hlt : t0 < t
    · rw [if_pos hlt, findF, findF_putF x t v k r, findF]
      by_cases h : x = t
      · subst h
        simp [show ¬ t0 = x by omega]
      · simp [h]
    · rw [if_neg hlt, findF]
      by_cases h : x = t
      · simp [h]
      · rw [if_neg (fun e => h e.symm), if_neg h]
        by_cases e : t0 = t
        · rw [if_pos e, findF, if_neg (by omega)]
        · rw [if_neg e]
theorem foldWith_law {mti : ByteArray} (hm : rightB mti = true) : ∀ (kl l : Ns) (d : Int), wholeF kl d = true → wholeF l 0 = true → 0 ≤ d →
    (foldWith kl (mti, l)).1 = mti ∧ wholeF (foldWith kl (mti, l)).2 0 = true ∧ ∀ x, findF x (foldWith kl (mti, l)).2 = ((findF x kl).or (findF x l))
  | .nil, l, d, _, hl, _ => ⟨rfl, hl, fun x => rfl⟩
  | .cons t v k r, l, d, hk, hl, hd => by
    obtain ⟨h1, h2, h3⟩ := wholeF_cons.1 hk
    have hw : withF mti l t v k = (mti, l.putF t v k, 0) := by
      have hnum : numberB t = true := by simp only [fsoundB, Bool.and_eq_true] at h2; exact h2.1.1
      rw [withF, if_neg (by simp [hm]), if_neg (by simp [wholeB, hm, hl]), if_neg (by simp [hnum]), if_neg (by simp [h2])]
    have hp := wholeF_putF h2 l 0 hl (by omega)
    obtain ⟨i1, i2, i3⟩ := foldWith_law hm r (l.putF t v k) t h3 hp (by omega)
    rw [foldWith]
    simp only [hw]
    refine ⟨i1, i2, fun x => ?_⟩
    rw [i3, findF_putF, findF]
    by_cases e : t = x
    · subst e
      rw [findF_low t r t (wholeF_asc r t h3) (Int.le_refl _)]
      simp
    · have e' : ¬ x = t := fun q => e q.symm
      simp [e, e']
theorem lo_step (K : Int) : ∀ (l : Ns) (d : Int), l.asc d → (l.lo (K + 1)).len = (l.lo K).len + (findF K l).isSome.toNat
  | .nil, _, _ => rfl
  | .cons t v k r, d, h => by
    have ih := lo_step K r t h.2.2
    simp only [Ns.lo, findF]
    by_cases h1 : t < K
    · rw [if_pos (by omega), if_pos h1, if_neg (by omega)]
      simp only [Ns.len, ih]
      omega
    · by_cases h2 : t = K
      · subst h2
        rw [if_pos (by omega), if_neg h1, if_pos rfl]
        have : r.lo (t + 1) = .nil := by
          cases r with
          | nil => rfl
          | cons t' v' k' r' => rw [Ns.lo, if_neg (by have := h.2.2.1; omega)]
        rw [this]
        rfl
      · rw [if_neg (by omega), if_neg h1, if_neg h2, findF_low K r t h.2.2 (by omega)]
        rfl
theorem lo_all : ∀ (l : Ns) (d : Int), l.asc d → l.lo 129 = l
  | .nil, _, _ => rfl
  | .cons t v k r, d, h => by rw [Ns.lo, if_pos (by have := h.2.1; omega), lo_all r t h.2.2]
theorem lo_none {l : Ns} (h : wholeF l 0 = true) : l.lo 2 = .nil := by
  cases l with
  | nil => rfl
  | cons t v k r =>
    have := fsound_num (wholeF_cons.1 h).2.1
    rw [Ns.lo, if_neg (by omega)]
/-- What is restored of a message m that was saved into a message x. -/
theorem restored {mti : ByteArray} (hm : rightB mti = true) {m x : Ns} (hwm : wholeF m 0 = true) (hwx : wholeF x 0 = true) (xs : List Int) :
    (foldWith (m.keep (memKeep xs)) (mti, x.keep (memWithout xs))).1 = mti ∧ wholeF (foldWith (m.keep (memKeep xs)) (mti, x.keep (memWithout xs))).2 0 = true ∧
      ∀ n, findF n (foldWith (m.keep (memKeep xs)) (mti, x.keep (memWithout xs))).2 = findF n (if n ∈ xs then m else x) := by
  obtain ⟨h1, h2, h3⟩ := foldWith_law hm (m.keep (memKeep xs)) (x.keep (memWithout xs)) 0 (wholeF_keep _ _ _ hwm) (wholeF_keep _ _ _ hwx) (Int.le_refl _)
  refine ⟨h1, h2, fun n => ?_⟩
  rw [h3, findF_keep, findF_keep]
  by_cases e : n ∈ xs
  · simp [memKeep, memWithout, e]
  · simp [memKeep, memWithout, e]
theorem restored_self {mti : ByteArray} (hm : rightB mti = true) {m : Ns} (hwm : wholeF m 0 = true) (xs : List Int) : (foldWith (m.keep (memKeep xs)) (mti, m.keep (memWithout xs))) = (mti, m) := by
  obtain ⟨h1, h2, h3⟩ := restored hm hwm hwm xs
  refine Prod.ext h1 (ext_find _ _ 0 (wholeF_asc _ _ h2) (wholeF_asc _ _ hwm) fun n => ?_)
  rw [h3]
  split <;> rfl
end Go.Proofs.Ytaeneoenihonkaa
