/- nodes, Same (the document's own comparison): contracts, proved by walks. -/
import Derived.Test.YtgeiimifhbiklaaMsgA
import Derived.Deep.RegionHeld3
import Derived.Deep.QuietTactic
import Derived.BigQuiet
import Derived.IntWalk
namespace Go.Proofs.Ytgeiimifhbiklaa
open Go.RowKit

theorem baToList_loop (bs : ByteArray) : ∀ (n i : Nat) (r : List UInt8), bs.size - i ≤ n → ByteArray.toList.loop bs i r = r.reverse ++ bs.data.toList.drop i := by
  intro n
  induction n with
  | zero =>
    intro i r h
    unfold ByteArray.toList.loop
    rw [if_neg (by omega), List.drop_of_length_le (by show bs.data.size ≤ i; have : bs.size = bs.data.size := rfl; omega), List.append_nil]
  | succ n ih =>
    intro i r h
    unfold ByteArray.toList.loop
    by_cases hi : i < bs.size
    · rw [if_pos hi, ih (i + 1) _ (by omega)]
      have hi' : i < bs.data.toList.length := by simpa using hi
      rw [List.drop_eq_getElem_cons hi', List.reverse_cons, List.append_assoc]
      congr 1
      simp only [List.singleton_append, List.cons.injEq, and_true]
      show bs.data[i]! = _
      rw [getElem!_pos bs.data i (by simpa using hi)]
      simp
    · rw [if_neg hi, List.drop_of_length_le (by show bs.data.size ≤ i; have : bs.size = bs.data.size := rfl; omega), List.append_nil]
theorem baToList (bs : ByteArray) : bs.toList = bs.data.toList := by
  unfold ByteArray.toList
  rw [baToList_loop bs bs.size 0 [] (by omega)]
  simp
theorem baToList_inj {a b : ByteArray} (h : a.toList = b.toList) : a = b := by
  rw [baToList, baToList] at h
  cases a; cases b
  simp only [ByteArray.mk.injEq]
  exact Array.ext' h
def sameF : Ns → Ns → Bool
  | .nil, .nil => true
  | .cons t v k r, .cons t' v' k' r' => decide (t = t') && decide (v = v') && sameF k k' && sameF r r'
  | _, _ => false
theorem sameF_eq : ∀ {a b : Ns}, sameF a b = true → a = b
  | .nil, .nil, _ => rfl
  | .cons t v k r, .cons t' v' k' r', h => by
    simp only [sameF, Bool.and_eq_true, decide_eq_true_eq] at h
    obtain ⟨⟨⟨rfl, rfl⟩, h3⟩, h4⟩ := h
    rw [sameF_eq h3, sameF_eq h4]
  | .nil, .cons .., h => by simp [sameF] at h
  | .cons .., .nil, h => by simp [sameF] at h
theorem sameF_refl : ∀ a : Ns, sameF a a = true
  | .nil => rfl
  | .cons t v k r => by simp [sameF, sameF_refl k, sameF_refl r]
theorem sameF_app : ∀ (d a b : Ns), sameF (d.app a) (d.app b) = sameF a b
  | .nil, _, _ => rfl
  | .cons t v k r, a, b => by simp [Ns.app, sameF, sameF_refl k, sameF_app r a b]
theorem sameF_len {a b : Ns} (h : a.len ≠ b.len) : sameF a b = false := by
  cases e : sameF a b with
  | false => rfl
  | true => exact absurd (by rw [sameF_eq e]) h
set_option maxRecDepth 100000 in
set_option maxHeartbeats 1600000 in
theorem nodes_same_N (N : Nat) : ∀ (a b : Ns) (w : World) (ok ok' : Nat → Prop) (v u : Value), a.sz < N → a.len ≤ 9223372036854775807 → b.len ≤ 9223372036854775807 → a.wf → b.wf → Rd w ok v a → Rd w ok' u b →
    Calls Try.prog 60 #[v, u] w fun e w' => e = .returned (.bool (sameF a b)) ∧ Fr0 w w' := by
  induction N with
  | zero => intro a b w ok ok' v u h; omega
  | succ N ih0 =>
    intro a b w ok ok' v u hN hla hlb hwa hwb hra hrb
    obtain ⟨A, c, rfl, hlc, hcase⟩ := hra
    obtain ⟨A', c', rfl, hlc', hcase'⟩ := hrb
    have HN := Lib.hid hN
    have IH := Lib.hid ih0
    have HWA := Lib.hid hwa
    have HWB := Lib.hid hwb
    have hC := Lib.hid hcase
    have hC' := Lib.hid hcase'
    clear hN ih0 hwa hwb hcase hcase'
    by_cases hle : a.len = b.len
    · have hle' : ((a.len : Int) == (b.len : Int)) = true := by simp [hle]
      have hle2 : ((a.len : Int) != (b.len : Int)) = false := by simp [hle]
      have HLE := Lib.hid hle
      clear hle
      go_enter Try.func60, Try.ntmps60
      go_wp2_with fail
      go_loopw [5] (fun i wr => ∃ (done ra rb : Ns), a = done.app ra ∧ b = done.app rb ∧ i = .int .i64 done.len ∧ Fr0 w wr ∧ (ra = .nil ∨ ∃ b' o, A = some ⟨b', o, none⟩ ∧ RdFrom w ok ra b' (o + done.len * 3)) ∧ (rb = .nil ∨ ∃ b' o, A' = some ⟨b', o, none⟩ ∧ RdFrom w ok' rb b' (o + done.len * 3))) (fun i _ => a.len - (intOf i).toNat)
      case atStart => exact ⟨.nil, a, b, rfl, rfl, rfl, Fr.refl _ _, by simpa [Ns.len] using hC.out, by simpa [Ns.len] using hC'.out⟩
      case round =>
        obtain ⟨done, ra, rb, rfl, rfl, rfl, hfr, hra, hrb⟩ := hrel
        have hlab := HLE.out
        rw [Ns.len_app, Ns.len_app] at hlab
        cases ra with
        | nil =>
          have hrn : rb = .nil := by
            cases rb with
            | nil => rfl
            | cons t v k r => simp only [Ns.len] at hlab; omega
          subst hrn
          have HS := Lib.hid (sameF_refl (done.app .nil))
          have hlt : ¬ ((done.len : Int) < ((done.app .nil).len : Int)) := by rw [Ns.app_nil]; omega
          clear hlab
          go_wp2_with fail
          go_ret
          exact ⟨by rw [HS.out]; rfl, hfr⟩
        | cons t v k r =>
          cases rb with
          | nil => simp only [Ns.len] at hlab; omega
          | cons t' v' k' r' =>
            simp only [reduceCtorEq, false_or] at hra hrb
            obtain ⟨b1, o1, rfl, hrd1⟩ := hra
            obtain ⟨b2, o2, rfl, hrd2⟩ := hrb
            have hl1 := Lib.hid (Ns.len_app done (.cons t v k r))
            have hl2 := Lib.hid (Ns.len_app done (.cons t' v' k' r'))
            have hlt : (done.len : Int) < ((done.app (.cons t v k r)).len : Int) := by rw [hl1.out]; simp only [Ns.len]; omega
            have hlt' : done.len < (done.app (.cons t v k r)).len := by omega
            have hlt2 : done.len < (done.app (.cons t' v' k' r')).len := by rw [hl2.out]; simp only [Ns.len]; omega
            have hsz := Lib.hid (Ns.sz_app done (.cons t v k r))
            have hwa := ((Ns.wf_app done (.cons t v k r)).1 HWA.out).2
            have hwb := ((Ns.wf_app done (.cons t' v' k' r')).1 HWB.out).2
            have r1 := hrd1.fr0 hfr
            have r2 := hrd2.fr0 hfr
            have q0 := r1.2.1
            have q1 := r1.2.2.1
            obtain ⟨A3, c3, q2, hk3⟩ := r1.kids
            have p0 := r2.2.1
            have p1 := r2.2.2.1
            obtain ⟨A4, c4, p2, hk4⟩ := r2.kids
            have HAP := Lib.hid (sameF_app done (.cons t v k r) (.cons t' v' k' r'))
            have HH := Lib.hid (And.intro hrd1 hrd2)
            have hlw : IntKind.i64.wrap ((done.len : Int) + 1) = (done.len : Int) + 1 := IntWalk.i64_in _ (by omega)
            clear r1 r2 hrd1 hrd2 hlab hle' hle2
            by_cases htt : t = t'
            · subst htt
              by_cases hvv : v = v'
              · subst hvv
                cases hkk : sameF k k' with
                | true =>
                  have CALL := Lib.hid (fun n => IH.out k k' ((wr.drewN n).drew) _ _ (.slice A3 k.len c3) (.slice A4 k'.len c4) (by have := HN.out; have h2 := hsz.out; simp only [Ns.sz] at h2; omega) hwa.2.2.2.1 hwb.2.2.2.1 hwa.2.2.2.2.1 hwb.2.2.2.2.1 (hk3.fr0 (((Fr.refl (fun _ => False) wr).drewN n).drew)) (hk4.fr0 (((Fr.refl (fun _ => False) wr).drewN n).drew)))
                  rw [hkk] at CALL
                  have HKK := Lib.hid hkk
                  clear hk3 hk4 hkk
                  go_wp2_with fail
                  go_quiet (fail)
                  have hdr : Fr0 wr (wr.drewN nq).drew := ((Fr.refl (fun _ => False) wr).drewN nq).drew
                  go_wp2_with fail
                  go_region_held3 (fun w' => w'.cell? ⟨b1, o1 + done.len * 3 + 2, none⟩ = some (.slice A3 k.len c3) ∧ w'.cell? ⟨b2, o2 + done.len * 3 + 2, none⟩ = some (.slice A4 k'.len c4))
                    (first | exact ⟨s1, s2⟩ | exact ⟨hdr.cell0 q2, hdr.cell0 p2⟩)
                    (first | (go_at_call 60; refine (CALL.out nq).mono ?_; rintro e w2 ⟨rfl, hf2⟩; have s1 := hf2.cell0 (hdr.cell0 q2); have s2 := hf2.cell0 (hdr.cell0 p2)))
                  all_goals
                    have HF := Lib.hid (hfr.trans (hdr.trans hf2))
                    clear hf2
                    go_wp2_with fail
                    go_roundw
                    case rel =>
                      obtain rfl := sameF_eq HKK.out
                      refine ⟨done.app (.one t v k), r, r', by simp [Ns.app_assoc, Ns.one, Ns.app], by simp [Ns.app_assoc, Ns.one, Ns.app], by simp [Ns.len_app, Ns.one, Ns.len], HF.out, .inr ⟨b1, o1, rfl, ?_⟩, .inr ⟨b2, o2, rfl, ?_⟩⟩
                      · have := HH.out.1.2.2.2.2
                        simp only [Ns.len_app, Ns.one, Ns.len]
                        rwa [show o1 + (done.len + (0 + 1)) * 3 = o1 + done.len * 3 + 3 from by omega]
                      · have := HH.out.2.2.2.2.2
                        simp only [Ns.len_app, Ns.one, Ns.len]
                        rwa [show o2 + (done.len + (0 + 1)) * 3 = o2 + done.len * 3 + 3 from by omega]
                    case measure => simp [intOf]; omega
                | false =>
                  have CALL := Lib.hid (fun n => IH.out k k' ((wr.drewN n).drew) _ _ (.slice A3 k.len c3) (.slice A4 k'.len c4) (by have := HN.out; have h2 := hsz.out; simp only [Ns.sz] at h2; omega) hwa.2.2.2.1 hwb.2.2.2.1 hwa.2.2.2.2.1 hwb.2.2.2.2.1 (hk3.fr0 (((Fr.refl (fun _ => False) wr).drewN n).drew)) (hk4.fr0 (((Fr.refl (fun _ => False) wr).drewN n).drew)))
                  rw [hkk] at CALL
                  have HKK := Lib.hid hkk
                  clear hk3 hk4 hkk
                  go_wp2_with fail
                  go_quiet (fail)
                  have hdr : Fr0 wr (wr.drewN nq).drew := ((Fr.refl (fun _ => False) wr).drewN nq).drew
                  go_wp2_with fail
                  go_region_held3 (fun w' => w'.cell? ⟨b1, o1 + done.len * 3 + 2, none⟩ = some (.slice A3 k.len c3) ∧ w'.cell? ⟨b2, o2 + done.len * 3 + 2, none⟩ = some (.slice A4 k'.len c4))
                    (first | exact ⟨s1, s2⟩ | exact ⟨hdr.cell0 q2, hdr.cell0 p2⟩)
                    (first | (go_at_call 60; refine (CALL.out nq).mono ?_; rintro e w2 ⟨rfl, hf2⟩; have s1 := hf2.cell0 (hdr.cell0 q2); have s2 := hf2.cell0 (hdr.cell0 p2)))
                  all_goals
                    have HF := Lib.hid (hfr.trans (hdr.trans hf2))
                    clear hf2
                    go_wp2_with fail
                    go_ret
                    exact ⟨by rw [HAP.out, sameF, HKK.out]; simp, HF.out⟩
              · have hvl : (v.toList == v'.toList) = false := by
                  cases e : (v.toList == v'.toList) with
                  | false => rfl
                  | true => exact absurd (baToList_inj (by simpa using e)) hvv
                have HV := Lib.hid hvv
                clear hvv
                go_wp2_with fail
                go_quiet (fail)
                go_wp2_with fail
                go_ret
                exact ⟨by rw [HAP.out, sameF, decide_eq_false HV.out]; simp, hfr.drewN nq⟩
            · have htf : (t == t') = false := by simp [htt]
              have htg : (t != t') = true := by simp [bne, htt]
              have HT := Lib.hid htt
              clear htt
              go_wp2_with fail
              go_quiet (fail)
              go_wp2_with fail
              go_ret
              exact ⟨by rw [HAP.out, sameF, decide_eq_false HT.out]; simp, hfr.drewN nq⟩
    · have hle' : ((a.len : Int) == (b.len : Int)) = false := by simp; omega
      have HF := Lib.hid (sameF_len hle)
      clear hle
      go_enter Try.func60, Try.ntmps60
      go_wp2_with fail
      go_ret
      exact ⟨by rw [HF.out]; rfl, Fr.refl _ _⟩
theorem nodes_same_any {a b : Ns} {w : World} {ok ok' : Nat → Prop} {v u : Value} (hla : a.len ≤ 9223372036854775807) (hlb : b.len ≤ 9223372036854775807) (hwa : a.wf) (hwb : b.wf) (hra : Rd w ok v a) (hrb : Rd w ok' u b) :
    Calls Try.prog 60 #[v, u] w fun e w' => e = .returned (.bool (sameF a b)) ∧ Fr0 w w' := nodes_same_N (a.sz + 1) a b w ok ok' v u (by omega) hla hlb hwa hwb hra hrb
end Go.Proofs.Ytgeiimifhbiklaa
