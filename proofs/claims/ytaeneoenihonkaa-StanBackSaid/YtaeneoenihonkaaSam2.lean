/- Same (the document's own comparison of messages): its contract, proved by a walk. -/
import Derived.Test.YtaeneoenihonkaaSame
namespace Go.Proofs.Ytaeneoenihonkaa
open Go.RowKit

set_option maxRecDepth 100000 in
set_option maxHeartbeats 3200000 in
theorem same_any {m m' : ByteArray} {a b : Ns} {w0 : World} {ok ok' : Nat → Prop} {v u : Value} (hla : a.len ≤ 9223372036854775807) (hlb : b.len ≤ 9223372036854775807) (hwa : a.wf) (hwb : b.wf) (hra0 : Rd w0 ok v a) (hrb0 : Rd w0 ok' u b) :
    Calls Try.prog 28 #[.agg #[.string m, v], .agg #[.string m', u]] w0 fun e w' => e = .returned (.bool (decide (m = m') && sameF a b)) ∧ Fr0 w0 w' := by
  obtain ⟨A, c, rfl, _, _⟩ := id hra0
  obtain ⟨A', c', rfl, _, _⟩ := id hrb0
  obtain ⟨w, hw⟩ : ∃ w, w = (w0.alloc (.cells #[.string m, .slice A a.len c] 37)).alloc (.cells #[.string m', .slice A' b.len c'] 37) := ⟨_, rfl⟩
  have hf00 : Fr0 w0 w := by rw [hw]; exact ((Fr.refl _ _).alloc _).alloc _
  have bx : Blk w w0.heap.size 37 #[.string m, .slice A a.len c] := by rw [hw]; exact (Blk.new _ _ _).alloc _
  have by' : Blk w (w0.heap.size + 1) 37 #[.string m', .slice A' b.len c'] := by
    rw [hw]
    have := Blk.new (w0.alloc (.cells #[.string m, .slice A a.len c] 37)) 37 #[.string m', .slice A' b.len c']
    simpa only [World.size_alloc] using this
  have hra := hra0.fr0 hf00
  have hrb := hrb0.fr0 hf00
  have hw' := hw.symm
  have x0 := bx.cell 0
  have x1 := bx.cell 1
  have y0 := by'.cell 0
  have y1 := by'.cell 1
  clear hw hra0 hrb0
  obtain ⟨A9, c9, hv1, hlc, hcase⟩ := hra
  injection hv1 with e1 e2 e3
  subst e1 e3
  obtain ⟨A8, c8, hv2, hlc', hcase'⟩ := hrb
  injection hv2 with e4 e5 e6
  subst e4 e6
  clear e2 e5
  have HWA := Lib.hid hwa
  have HWB := Lib.hid hwb
  have hC := Lib.hid hcase
  have hC' := Lib.hid hcase'
  clear hwa hwb hcase hcase'
  by_cases hmm : m = m'
  · subst hmm
    simp only [decide_true, Bool.true_and]
    by_cases hle : a.len = b.len
    · have hle' : ((a.len : Int) == (b.len : Int)) = true := by simp [hle]
      have hle2 : ((a.len : Int) != (b.len : Int)) = false := by simp [hle]
      have HLE := Lib.hid hle
      clear hle
      go_enter Try.func28, Try.ntmps28
      go_wp2_with fail
      go_loopw [5] (fun i wr => ∃ (done ra rb : Ns), a = done.app ra ∧ b = done.app rb ∧ i = .int .i64 done.len ∧ Fr0 w wr ∧ (ra = .nil ∨ ∃ b' o, A = some ⟨b', o, none⟩ ∧ RdFrom w ok ra b' (o + done.len * 3)) ∧ (rb = .nil ∨ ∃ b' o, A' = some ⟨b', o, none⟩ ∧ RdFrom w ok' rb b' (o + done.len * 3))) (fun i _ => a.len - (intOf i).toNat)
      case atStart => exact ⟨.nil, a, b, rfl, rfl, rfl, Fr.refl _ _, by simpa [Ns.len] using hC.out, by simpa [Ns.len] using hC'.out⟩
      case round =>
        obtain ⟨done, ra, rb, rfl, rfl, rfl, hfr, hra, hrb⟩ := hrel
        have X1 := hfr.cell0 x1
        have Y1 := hfr.cell0 y1
        have hlab := HLE.out
        rw [Ns.len_app, Ns.len_app] at hlab
        cases ra with
        | nil =>
          have hrn : rb = .nil := by
            cases rb with
            | nil => rfl
            | cons t v k r => simp only [Ns.len] at hlab; omega
          subst hrn
          have HS := Lib.hid (sameF_refl (done.app .nil))
          have hlt : ¬ ((done.len : Int) < ((done.app .nil).len : Int)) := by rw [Ns.app_nil]; omega
          clear hlab
          go_wp2_with fail
          go_ret
          exact ⟨by rw [HS.out]; rfl, hf00.trans hfr⟩
        | cons t v k r =>
          cases rb with
          | nil => simp only [Ns.len] at hlab; omega
          | cons t' v' k' r' =>
            simp only [reduceCtorEq, false_or] at hra hrb
            obtain ⟨b1, o1, rfl, hrd1⟩ := hra
            obtain ⟨b2, o2, rfl, hrd2⟩ := hrb
            have hl1 := Lib.hid (Ns.len_app done (.cons t v k r))
            have hl2 := Lib.hid (Ns.len_app done (.cons t' v' k' r'))
            have hlt : (done.len : Int) < ((done.app (.cons t v k r)).len : Int) := by rw [hl1.out]; simp only [Ns.len]; omega
            have hlt' : done.len < (done.app (.cons t v k r)).len := by omega
            have hlt2 : done.len < (done.app (.cons t' v' k' r')).len := by rw [hl2.out]; simp only [Ns.len]; omega
            have hwa := ((Ns.wf_app done (.cons t v k r)).1 HWA.out).2
            have hwb := ((Ns.wf_app done (.cons t' v' k' r')).1 HWB.out).2
            have r1 := hrd1.fr0 hfr
            have r2 := hrd2.fr0 hfr
            have q0 := r1.2.1
            have q1 := r1.2.2.1
            obtain ⟨A3, c3, q2, hk3⟩ := r1.kids
            have p0 := r2.2.1
            have p1 := r2.2.2.1
            obtain ⟨A4, c4, p2, hk4⟩ := r2.kids
            have HAP := Lib.hid (sameF_app done (.cons t v k r) (.cons t' v' k' r'))
            have HH := Lib.hid (And.intro hrd1 hrd2)
            have hlw : IntKind.i64.wrap ((done.len : Int) + 1) = (done.len : Int) + 1 := IntWalk.i64_in _ (by omega)
            clear r1 r2 hrd1 hrd2 hlab hle' hle2
            by_cases htt : t = t'
            · subst htt
              by_cases hvv : v = v'
              · subst hvv
                cases hkk : sameF k k' with
                | true =>
                  have CALL := Lib.hid (fun n => nodes_same_any (w := (wr.drewN n).drew) (v := .slice A3 k.len c3) (u := .slice A4 k'.len c4) hwa.2.2.2.1 hwb.2.2.2.1 hwa.2.2.2.2.1 hwb.2.2.2.2.1 (hk3.fr0 (((Fr.refl (fun _ => False) wr).drewN n).drew)) (hk4.fr0 (((Fr.refl (fun _ => False) wr).drewN n).drew)))
                  rw [hkk] at CALL
                  have HKK := Lib.hid hkk
                  clear hk3 hk4 hkk
                  go_wp2_with fail
                  go_quiet (fail)
                  have hdr : Fr0 wr (wr.drewN nq).drew := ((Fr.refl (fun _ => False) wr).drewN nq).drew
                  go_wp2_with fail
                  go_region_held3 (fun w' => w'.cell? ⟨w0.heap.size, 1, none⟩ = some (.slice (some ⟨b1, o1, none⟩) (done.app (.cons t v k r)).len c) ∧ w'.cell? ⟨w0.heap.size + 1, 1, none⟩ = some (.slice (some ⟨b2, o2, none⟩) (done.app (.cons t v k' r')).len c') ∧ w'.cell? ⟨b1, o1 + done.len * 3 + 2, none⟩ = some (.slice A3 k.len c3) ∧ w'.cell? ⟨b2, o2 + done.len * 3 + 2, none⟩ = some (.slice A4 k'.len c4))
                    (first | exact ⟨sx, sy, s1, s2⟩ | exact ⟨hdr.cell0 X1, hdr.cell0 Y1, hdr.cell0 q2, hdr.cell0 p2⟩)
                    (first | (go_at_call 60; refine (CALL.out nq).mono ?_; rintro e w2 ⟨rfl, hf2⟩; have sx := hf2.cell0 (hdr.cell0 X1); have sy := hf2.cell0 (hdr.cell0 Y1); have s1 := hf2.cell0 (hdr.cell0 q2); have s2 := hf2.cell0 (hdr.cell0 p2)))
                  all_goals
                    have HF := Lib.hid (hfr.trans (hdr.trans hf2))
                    clear hf2
                    go_wp2_with fail
                    go_roundw
                    case rel =>
                      obtain rfl := sameF_eq HKK.out
                      refine ⟨done.app (.one t v k), r, r', by simp [Ns.app_assoc, Ns.one, Ns.app], by simp [Ns.app_assoc, Ns.one, Ns.app], by simp [Ns.len_app, Ns.one, Ns.len], HF.out, .inr ⟨b1, o1, rfl, ?_⟩, .inr ⟨b2, o2, rfl, ?_⟩⟩
                      · have := HH.out.1.2.2.2.2
                        simp only [Ns.len_app, Ns.one, Ns.len]
                        rwa [show o1 + (done.len + (0 + 1)) * 3 = o1 + done.len * 3 + 3 from by omega]
                      · have := HH.out.2.2.2.2.2
                        simp only [Ns.len_app, Ns.one, Ns.len]
                        rwa [show o2 + (done.len + (0 + 1)) * 3 = o2 + done.len * 3 + 3 from by omega]
                    case measure => simp [intOf]; omega
                | false =>
                  have CALL := Lib.hid (fun n => nodes_same_any (w := (wr.drewN n).drew) (v := .slice A3 k.len c3) (u := .slice A4 k'.len c4) hwa.2.2.2.1 hwb.2.2.2.1 hwa.2.2.2.2.1 hwb.2.2.2.2.1 (hk3.fr0 (((Fr.refl (fun _ => False) wr).drewN n).drew)) (hk4.fr0 (((Fr.refl (fun _ => False) wr).drewN n).drew)))
                  rw [hkk] at CALL
                  have HKK := Lib.hid hkk
                  clear hk3 hk4 hkk
                  go_wp2_with fail
                  go_quiet (fail)
                  have hdr : Fr0 wr (wr.drewN nq).drew := ((Fr.refl (fun _ => False) wr).drewN nq).drew
                  go_wp2_with fail
                  go_region_held3 (fun w' => w'.cell? ⟨w0.heap.size, 1, none⟩ = some (.slice (some ⟨b1, o1, none⟩) (done.app (.cons t v k r)).len c) ∧ w'.cell? ⟨w0.heap.size + 1, 1, none⟩ = some (.slice (some ⟨b2, o2, none⟩) (done.app (.cons t v k' r')).len c') ∧ w'.cell? ⟨b1, o1 + done.len * 3 + 2, none⟩ = some (.slice A3 k.len c3) ∧ w'.cell? ⟨b2, o2 + done.len * 3 + 2, none⟩ = some (.slice A4 k'.len c4))
                    (first | exact ⟨sx, sy, s1, s2⟩ | exact ⟨hdr.cell0 X1, hdr.cell0 Y1, hdr.cell0 q2, hdr.cell0 p2⟩)
                    (first | (go_at_call 60; refine (CALL.out nq).mono ?_; rintro e w2 ⟨rfl, hf2⟩; have sx := hf2.cell0 (hdr.cell0 X1); have sy := hf2.cell0 (hdr.cell0 Y1); have s1 := hf2.cell0 (hdr.cell0 q2); have s2 := hf2.cell0 (hdr.cell0 p2)))
                  all_goals
                    have HF := Lib.hid (hfr.trans (hdr.trans hf2))
                    clear hf2
                    go_wp2_with fail
                    go_ret
                    exact ⟨by rw [HAP.out, sameF, HKK.out]; simp, hf00.trans HF.out⟩
              · have hvl : (v.toList == v'.toList) = false := by
                  cases e : (v.toList == v'.toList) with
                  | false => rfl
                  | true => exact absurd (baToList_inj (by simpa using e)) hvv
                have HV := Lib.hid hvv
                clear hvv
                go_wp2_with fail
                go_quiet (fail)
                go_wp2_with fail
                go_ret
                exact ⟨by rw [HAP.out, sameF, decide_eq_false HV.out]; simp, hf00.trans (hfr.drewN nq)⟩
            · have htf : (t == t') = false := by simp [htt]
              have htg : (t != t') = true := by simp [bne, htt]
              have HT := Lib.hid htt
              clear htt
              go_wp2_with fail
              go_quiet (fail)
              go_wp2_with fail
              go_ret
              exact ⟨by rw [HAP.out, sameF, decide_eq_false HT.out]; simp, hf00.trans (hfr.drewN nq)⟩
    · have hle' : ((a.len : Int) == (b.len : Int)) = false := by simp; omega
      have HF := Lib.hid (sameF_len hle)
      clear hle
      go_enter Try.func28, Try.ntmps28
      go_wp2_with fail
      go_ret
      exact ⟨by rw [HF.out]; rfl, hf00⟩

  · have hml : (m.toList == m'.toList) = false := by
      cases e : (m.toList == m'.toList) with
      | false => rfl
      | true => exact absurd (baToList_inj (by simpa using e)) hmm
    have hml2 : (m.toList != m'.toList) = true := by simp [bne, hml]
    rw [decide_eq_false hmm]
    clear hmm
    go_enter Try.func28, Try.ntmps28
    go_wp2_with fail
    go_ret
    exact ⟨by simp, hf00⟩
end Go.Proofs.Ytaeneoenihonkaa
