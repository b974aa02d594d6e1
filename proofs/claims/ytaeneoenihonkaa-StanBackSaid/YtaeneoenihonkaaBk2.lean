/- The message that StanBack makes of raw numbers: its contract, proved by a walk. -/
import Derived.Test.YtaeneoenihonkaaBk1
namespace Go.Proofs.Ytaeneoenihonkaa
open Go.RowKit

def Ns.lastT : Ns → Int → Int
  | .nil, d => d
  | .cons t _ _ r, _ => r.lastT t
theorem lastT_app1 (t : Int) (v : ByteArray) (k : Ns) : ∀ (a : Ns) (d : Int), (a.app (.one t v k)).lastT d = t
  | .nil, _ => rfl
  | .cons t' v' k' r, _ => by rw [Ns.app, Ns.lastT]; exact lastT_app1 t v k r t'
theorem wholeF_app1 (t : Int) (v : ByteArray) (k : Ns) : ∀ (a : Ns) (d : Int), wholeF a d = true → a.lastT d < t → fsoundB t v k = true → wholeF (a.app (.one t v k)) d = true
  | .nil, d, _, h2, h3 => by
    simp only [Ns.lastT] at h2
    rw [Ns.app, Ns.one, wholeF, if_neg (by omega), if_pos h3]
    rfl
  | .cons t' v' k' r, d, h1, h2, h3 => by
    simp only [wholeF] at h1
    split at h1
    · simp at h1
    · rename_i hq
      split at h1
      · rename_i hs
        rw [Ns.app, wholeF, if_neg hq, if_pos hs]
        exact wholeF_app1 t v k r t' h1 h2 h3
      · simp at h1
theorem fsound_plain {t : Int} (v : ByteArray) (h : numberB t = true) : fsoundB t v .nil = true := by simp [fsoundB, h, Ns.len, soundF]
/-- A message whole, its fields without kids, its values not long. -/
structure Plain (l : Ns) (n : Int) : Prop where
  whole : wholeF l 0 = true
  last : l.lastT 0 < n
  wf : l.wf
  sz : (l.sz : Int) + 2 ≤ n
theorem Plain.push {l : Ns} {n : Int} (h : Plain l n) (h2 : 2 ≤ n) (h128 : n ≤ 128) (h65 : n ≠ 65) {v : ByteArray} (hv : v.size ≤ 140737488355328) : Plain (l.app (.one n v .nil)) (n + 1) :=
  ⟨wholeF_app1 n v .nil l 0 h.whole h.last (fsound_plain v (by simp [numberB]; omega)), by rw [lastT_app1]; omega, (Ns.wf_app _ _).2 ⟨h.wf, ⟨by omega, by omega, hv, Nat.zero_le _, trivial, trivial⟩⟩, by
    have := h.sz
    rw [Ns.sz_app]
    simp only [Ns.one, Ns.sz]
    omega⟩
theorem Plain.step {l : Ns} {n : Int} (h : Plain l n) : Plain l (n + 1) := ⟨h.whole, by have := h.last; omega, h.wf, by have := h.sz; omega⟩
theorem undYs2 : Try.prog.underlying 101 = some (.slice 5) := by kernel_rfl
def MsgNPost (w : World) (mti : ByteArray) (e : Ending) (w' : World) : Prop :=
  ∃ l A c S, e = .returned (.agg #[.string mti, .slice A l.len c]) ∧ Own w' w.heap.size 76 0 (.slice A l.len c) l S ∧ S.Nodup ∧ Plain l 129 ∧ Fr0 w w'
set_option maxRecDepth 100000 in
set_option maxHeartbeats 1600000 in
theorem msgN_any {raw : List Int} {w : World} {ok : Nat → Prop} {v : Value} {mti val : ByteArray} (hr0 : RdI w ok v raw) (hx : ∀ x ∈ raw, -9223372036854775808 ≤ x ∧ x ≤ 9223372036854775807) (hn : raw.length ≤ 9223372036854775807) (hv : val.size ≤ 2000) :
    Calls Try.prog 25 #[.string mti, v, .string val] w (MsgNPost w mti) := by
  obtain ⟨A, c, rfl, hlc, hcase⟩ := hr0
  have HC := Lib.hid hcase
  have HX := Lib.hid hx
  have HV := Lib.hid hv
  obtain ⟨W1, hW1⟩ : ∃ W1, W1 = (w.alloc (.cells #[.string ⟨#[]⟩, .slice none 0 0] 37)).alloc (.cells #[.string mti, .slice none 0 0] 37) := ⟨_, rfl⟩
  have hf1 : Fr0 w W1 := by rw [hW1]; exact ((Fr.refl _ _).alloc _).alloc _
  have b6 : Blk W1 w.heap.size 37 #[.string ⟨#[]⟩, .slice none 0 0] := by rw [hW1]; exact (Blk.new _ _ _).alloc _
  have b7 : Blk W1 (w.heap.size + 1) 37 #[.string mti, .slice none 0 0] := by
    rw [hW1]
    have := Blk.new (w.alloc (.cells #[.string ⟨#[]⟩, .slice none 0 0] 37)) 37 #[.string mti, .slice none 0 0]
    simpa only [World.size_alloc] using this
  have hs1 : W1.heap.size = w.heap.size + 2 := by rw [hW1]; simp
  have HW1 := Lib.hid hW1
  have B6 := Lib.hid b6
  have B7 := Lib.hid b7
  have HS1 := Lib.hid hs1
  have HF1 := Lib.hid hf1
  clear hcase hx hW1 b6 b7 hs1 hf1
  go_enter Try.func25, Try.ntmps25
  go_wp2_with fail
  rw [← HW1.out]
  go_loopw [8] (fun i wr => ∃ (n : Int) (l : Ns) (A' : Option Addr) (c' : Nat) (S : List Nat), i = .int .i64 n ∧ 2 ≤ n ∧ n ≤ 129 ∧ Plain l n ∧ Blk wr (w.heap.size + 1) 37 #[.string mti, .slice A' l.len c'] ∧ Own wr W1.heap.size 76 0 (.slice A' l.len c') l S ∧ S.Nodup ∧ Fr (fun x => x = w.heap.size + 1) W1 wr) (fun i _ => (129 - intOf i).toNat)
  case atStart => exact ⟨2, .nil, none, 0, [], rfl, by omega, by omega, ⟨rfl, by simp [Ns.lastT], trivial, by simp [Ns.sz]⟩, B7.out, Own.nil _ _ _, by simp, Fr.refl _ _⟩
  case round =>
    obtain ⟨n, l, A', c', S, rfl, hn2, hn9, hP, hb7, hown, hnd, hfr⟩ := hrel
    have HP := Lib.hid hP
    have HO := Lib.hid hown
    have HND := Lib.hid hnd
    have HFR := Lib.hid hfr
    have HB := Lib.hid hb7
    clear hP hown hnd hfr hb7
    by_cases hle : n ≤ 128
    · have hal6 : n.tmod 90 = n % 90 := Int.tmod_eq_emod_of_nonneg (by omega)
      have hwn : IntKind.i64.wrap (n + 1) = n + 1 := IntWalk.i64_in _ (by omega)
      go_wp2_with fail
      go_loopw [9, 10] (fun t i w2 => ∃ (k : Nat) (b : Bool), k ≤ raw.length ∧ t = .bool b ∧ i = .int .i64 k ∧ w2 = wr) (fun _ i _ => raw.length - (intOf i).toNat)
      case atStart => exact ⟨0, false, Nat.zero_le _, rfl, rfl, rfl⟩
      case round =>
        obtain ⟨k, b, hk, rfl, rfl, rfl⟩ := hrel
        rcases (show (k < raw.length ∧ k < 40) ∨ (k < raw.length ∧ ¬ k < 40) ∨ ¬ k < raw.length by omega) with ⟨hlt, hlt4⟩ | ⟨hlt, hlt4⟩ | hlt
        · have hwk : IntKind.i64.wrap ((k : Int) + 1) = (k : Int) + 1 := IntWalk.i64_in _ (by omega)
          cases b with
          | true =>
            go_wp2_with fail
            go_roundw
            case rel => exact ⟨k + 1, true, by omega, rfl, by simp, by trivial⟩
            case measure => simp [intOf]; omega
          | false =>
            obtain ⟨bb, o, rfl, hc⟩ : ∃ b o, A = some ⟨b, o, none⟩ ∧ ∀ j x, raw[j]? = some x → w.cell? ⟨b, o + j, none⟩ = some (.int .i64 x) := by
              rcases HC.out with h | ⟨b, o, h1, h2, h3⟩
              · rw [h] at hlt; simp at hlt
              · exact ⟨b, o, h1, h3⟩
            obtain ⟨y, hy⟩ : ∃ y, raw[k]? = some y := ⟨_, List.getElem?_eq_getElem hlt⟩
            have hc0 := HF1.out.cell0 (hc k y hy)
            have hlb := World.block_lt_of_cell? _ _ (hc k y hy)
            have hs1 := HS1.out
            have hc1 := HFR.out.cell_some hc0 (by show ¬ bb = w.heap.size + 1; have : bb < w.heap.size := hlb; omega)
            have hyb := HX.out y (List.mem_of_getElem? hy)
            have HF := Lib.hid (fieldN_any hyb.1 hyb.2 wr)
            obtain ⟨N, hN⟩ : ∃ N, N = fieldN y := ⟨_, rfl⟩
            rw [← hN] at HF
            clear hc hy hyb hN HC HX hc0 hlb
            go_wp2_with fail
            refine HF.out.mono ?_
            rintro e W ⟨rfl, rfl⟩
            cases hq : decide (N = n) with
            | true =>
              have hq' : (N == n) = true := by simpa using hq
              clear hq
              go_wp2_with fail
              go_roundw
              case rel => exact ⟨k + 1, true, by omega, rfl, by simp, by trivial⟩
              case measure => simp [intOf]; omega
            | false =>
              have hq' : (N == n) = false := by simpa using hq
              clear hq
              go_wp2_with fail
              go_roundw
              case rel => exact ⟨k + 1, false, by omega, rfl, by simp, by trivial⟩
              case measure => simp [intOf]; omega
        all_goals
          cases b with
          | false =>
            go_wp2_with fail
            exact ⟨⟨n + 1, l, A', c', S, rfl, by omega, by omega, HP.out.step, HB.out, HO.out, HND.out, HFR.out⟩, by simp only [intOf]; omega⟩
          | true =>
            by_cases h65 : n = 65
            · have h65' : (n != 65) = false := by simp [h65]
              clear h65
              go_wp2_with fail
              exact ⟨⟨n + 1, l, A', c', S, rfl, by omega, by omega, HP.out.step, HB.out, HO.out, HND.out, HFR.out⟩, by simp only [intOf]; omega⟩
            · have h65' : (n != 65) = true := by simp [h65]
              have H65 := Lib.hid h65
              have hcv := run_convert_bytes_back (P := Try.prog) (wr.alloc (.cells #[.int .u8 (33 + n % 90)] 5)) 101 9 5 ⟨wr.heap.size, 0, none⟩ 1 [UInt8.ofNat (33 + n % 90).toNat] undYs undY undStr (by
                intro j hj
                have hj0 : j = 0 := by simpa using hj
                subst hj0
                rw [Addr.add_lit, (Blk.new wr 5 #[.int .u8 (33 + n % 90)]).cell]
                simp only [List.getElem_cons_zero, UInt8.toNat_ofNat']
                simp
                omega)
              obtain ⟨D, hD⟩ : ∃ D : ByteArray, D = ⟨[UInt8.ofNat (33 + n % 90).toNat].toArray⟩ := ⟨_, rfl⟩
              have hDs : D.size = 1 := by rw [hD]; rfl
              rw [← hD, List.length_singleton] at hcv
              obtain ⟨V, hV⟩ : ∃ V : ByteArray, val ++ D = V := ⟨_, rfl⟩
              have hVs : V.size ≤ 140737488355328 := by rw [← hV, ByteArray.size_append]; have := HV.out; omega
              have HVS := Lib.hid hVs
              have hcat : ¬ (9223372036854775807 < val.size + D.size) := by have := HV.out; omega
              have hcat2 : ¬ (9223372036854775807 < (val.size : Int) + (D.size : Int)) := by omega
              obtain ⟨W3, hW3⟩ : ∃ W3, (wr.alloc (.cells #[.int .u8 (33 + n % 90)] 5)).alloc (.cells #[.int .i64 n, .string V, .slice none 0 0] 76) = W3 := ⟨_, rfl⟩
              have hfa : Fr0 wr W3 := by rw [← hW3]; exact ((Fr.refl _ _).alloc _).alloc _
              have hx3 : Blk W3 (wr.heap.size + 1) 76 #[.int .i64 n, .string V, .slice none 0 0] := by
                rw [← hW3]
                have := Blk.new (wr.alloc (.cells #[.int .u8 (33 + n % 90)] 5)) 76 #[.int .i64 n, .string V, .slice none 0 0]
                simpa only [World.size_alloc] using this
              have hz3 : W3.heap.size = wr.heap.size + 2 := by rw [← hW3]; simp
              have hzr := HFR.out.size
              have hzb := HB.out.lt
              have hs1 := HS1.out
              have hOl := HO.out.lt
              have hlen := l.len_le_sz
              have hpsz := HP.out.sz
              have hq := Lib.hid (push_run (w := W3) (X := wr.heap.size + 1) (e := 76) (B := W1.heap.size) (l := l) (tag := n) (val := V) (k := .nil) (A1 := none) (c1 := 0) (S := S) (S1 := []) (v := .slice A' l.len c') 35 35 undF infoF
                (HO.out.fr0 hfa) (by omega) HND.out (hx3.cell 0) (hx3.cell 1) (hx3.cell 2) (Own.nil _ _ _) List.nodup_nil (by simp) (by omega))
              have HW3 := Lib.hid (And.intro hfa hz3)
              have x1 := HB.out.cell 1
              have n1 : ¬ (w.heap.size + 1 ∈ S) := fun h => by have := (hOl _ h).1; omega
              have N1 := Lib.hid n1
              clear h65 hD hDs hVs hfa hx3 hz3 hOl hzr hzb n1 hlen hpsz
              go_wp2_with (at_builtin; refine wpList_append_run rfl _ _ _ rfl rfl rfl hq.out ?_; rintro v' w4 ⟨A5, c5, S5, rfl, hown5, hnd5, hsub, hf5⟩; have hb5 := (HB.out.fr0 HW3.out.1).fr hf5 N1.out; have z5 := hb5.frozen 1; have q5 := hb5.cell 1)
              have hg : Fr (fun x => x = w.heap.size + 1) w4 (w4.setCell ⟨w.heap.size + 1, 1, none⟩ (.slice A5 (l.len + 1) c5)) := (Fr.refl (fun x => x = w.heap.size + 1) w4).setCell (p := ⟨w.heap.size + 1, 1, none⟩) (.inr rfl) _
              have hll : (l.app (.one n V .nil)).len = l.len + 1 := by rw [Ns.len_app]; rfl
              have hzr := HFR.out.size
              refine ⟨⟨n + 1, l.app (.one n V .nil), A5, c5, S5, rfl, by omega, by omega, HP.out.push hn2 hle H65.out HVS.out, ?_, ?_, hnd5, ?_⟩, by simp only [intOf]; omega⟩
              · rw [hll]
                exact hb5.set_ 1 _
              · rw [hll]
                exact hown5.fr hg fun i hi e => by
                  have := (hown5.lt i hi).1
                  omega
              · exact ((HFR.out.trans0 HW3.out.1).trans' hf5 fun i hi h => by have := (HO.out.lt i h).1; omega).trans hg
    · obtain rfl : n = 129 := by omega
      have hb6 := B6.out.fr HFR.out (by omega)
      obtain ⟨x6, y6, z6, v6⟩ := agg_msg hb6
      obtain ⟨x7, y7, z7, v7⟩ := agg_msg HB.out
      have hg : Fr (fun x => x = w.heap.size) wr ((wr.setCell ⟨w.heap.size, 0, none⟩ (.string mti)).setCell ⟨w.heap.size, 1, none⟩ (.slice A' l.len c')) :=
        ((Fr.refl (fun x => x = w.heap.size) wr).setCell (p := ⟨w.heap.size, 0, none⟩) (.inr rfl) _).setCell (p := ⟨w.heap.size, 1, none⟩) (.inr rfl) _
      have hFIN : MsgNPost w mti (.returned (.agg #[.string mti, .slice A' l.len c'])) ((wr.setCell ⟨w.heap.size, 0, none⟩ (.string mti)).setCell ⟨w.heap.size, 1, none⟩ (.slice A' l.len c')) := by
        have hs := HS1.out
        exact ⟨l, A', c', S, rfl, (HO.out.mono (by omega)).fr hg (fun i hi e => by have := (HO.out.lt i hi).1; omega), HND.out, HP.out, (HF1.out.trans' HFR.out fun i hi e => by omega).trans' hg fun i hi e => by omega⟩
      have HFIN := Lib.hid hFIN
      clear hFIN hg
      go_wp2_with fail
      exact bodyPost_ret (v := .agg #[.string mti, .slice A' l.len c']) (by simp [results, Try.results25, go_sem, x6, y6, z6, v6]) rfl HFIN.out
end Go.Proofs.Ytaeneoenihonkaa
