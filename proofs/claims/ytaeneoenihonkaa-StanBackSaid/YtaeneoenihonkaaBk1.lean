/- Small functions of the statement StanBack: field, fields, has: contracts, proved by walks. -/
import Derived.Test.YtaeneoenihonkaaKnown
namespace Go.Proofs.Ytaeneoenihonkaa
open Go.RowKit

def fieldN (c : Int) : Int := if 65 ≤ 2 + pickF c 126 then 3 + pickF c 126 else 2 + pickF c 126
theorem fieldN_num (c : Int) : numberB (fieldN c) = true := by
  have := pickF_in (c := c) (n := 126) (by omega)
  unfold fieldN numberB
  split <;> simp <;> omega
theorem fieldN_any {c : Int} (hc : -9223372036854775808 ≤ c) (hc' : c ≤ 9223372036854775807) (w : World) :
    Calls Try.prog 53 #[.int .i64 c] w fun e w' => e = .returned (.int .i64 (fieldN c)) ∧ w = w' := by
  have hp := pickF_in (c := c) (n := 126) (by omega)
  have hf : fieldN c = if 65 ≤ 2 + pickF c 126 then 3 + pickF c 126 else 2 + pickF c 126 := rfl
  obtain ⟨p, hpp⟩ : ∃ p, p = pickF c 126 := ⟨_, rfl⟩
  rw [← hpp] at hp hf
  have HP := Lib.hid hpp
  have HF := Lib.hid hf
  have hw1 : IntKind.i64.wrap (2 + p) = 2 + p := IntWalk.i64_in _ (by omega)
  have hw3 : IntKind.i64.wrap (2 + p + 1) = 3 + p := by rw [show 2 + p + 1 = 3 + p by omega]; exact IntWalk.i64_in _ (by omega)
  clear hpp hf
  by_cases h : 65 ≤ 2 + p
  · have HF2 := Lib.hid (show fieldN c = 3 + p by rw [HF.out, if_pos h])
    go_enter Try.func53, Try.ntmps53
    go_wp2_with fail
    refine (pick_any hc hc' (by omega) (by omega) w).mono ?_
    rintro e W ⟨rfl, rfl⟩
    rw [← HP.out]
    go_wp2_with fail
    go_ret
    exact ⟨by rw [HF2.out]; rfl, rfl⟩
  · have HF2 := Lib.hid (show fieldN c = 2 + p by rw [HF.out, if_neg h])
    go_enter Try.func53, Try.ntmps53
    go_wp2_with fail
    refine (pick_any hc hc' (by omega) (by omega) w).mono ?_
    rintro e W ⟨rfl, rfl⟩
    rw [← HP.out]
    go_wp2_with fail
    go_ret
    exact ⟨by rw [HF2.out]; rfl, rfl⟩
theorem hasI_any (xs : List Int) (x : Int) (w : World) (ok : Nat → Prop) (v : Value) (hn : xs.length ≤ 9223372036854775807) (hr : RdI w ok v xs) :
    Calls Try.prog 30 #[v, .int .i64 x] w fun e w' => e = .returned (.bool (decide (x ∈ xs))) ∧ w = w' := by
  obtain ⟨A, c, rfl, hlc, hcase⟩ := hr
  have HC := Lib.hid hcase
  clear hcase
  go_enter Try.func30, Try.ntmps30
  go_wp2_with fail
  go_loop [5] (fun i => ∃ k : Nat, k ≤ xs.length ∧ i = .int .i64 k ∧ x ∉ xs.take k) (fun i => xs.length - (intOf i).toNat)
  case atStart => exact ⟨0, Nat.zero_le _, rfl, by simp⟩
  case round =>
    obtain ⟨k, hk, rfl, hN⟩ := hrel
    have HN := Lib.hid hN
    clear hN
    by_cases hlt : k < xs.length
    · obtain ⟨b, o, rfl, hc⟩ : ∃ b o, A = some ⟨b, o, none⟩ ∧ ∀ j x, xs[j]? = some x → w.cell? ⟨b, o + j, none⟩ = some (.int .i64 x) := by
        rcases HC.out with h | ⟨b, o, h1, h2, h3⟩
        · rw [h] at hlt; simp at hlt
        · exact ⟨b, o, h1, h3⟩
      obtain ⟨y, hy⟩ : ∃ y, xs[k]? = some y := ⟨_, List.getElem?_eq_getElem hlt⟩
      have hc1 := hc k y hy
      have hwk : IntKind.i64.wrap ((k : Int) + 1) = (k : Int) + 1 := IntWalk.i64_in _ (by omega)
      have HY := Lib.hid hy
      clear hc hy
      by_cases e : y = x
      · have e' : (y == x) = true := by simp [e]
        have HE := Lib.hid (show decide (x ∈ xs) = true by rw [← e]; exact decide_eq_true (List.mem_of_getElem? HY.out))
        clear e
        go_wp2_with fail
        exact bodyPost_ret (v := .bool true) (by simp [results, Try.results30, go_sem]) rfl ⟨by rw [HE.out], rfl⟩
      · have e' : (y == x) = false := by simp [e]
        have HE := Lib.hid (show x ∉ xs.take (k + 1) by
          rw [List.take_add_one, HY.out, List.mem_append]
          rintro (h | h)
          · exact HN.out h
          · simp at h; exact e h.symm)
        clear e
        go_wp2_with fail
        go_round
        case rel => exact ⟨k + 1, by omega, by simp, HE.out⟩
        case measure => simp [intOf]; omega
    · have HE := Lib.hid (show decide (x ∈ xs) = false by
        have := HN.out
        rw [List.take_of_length_le (by omega)] at this
        exact decide_eq_false this)
      go_wp2_with fail
      exact bodyPost_ret (v := .bool false) (by simp [results, Try.results30, go_sem]) rfl ⟨by rw [HE.out], rfl⟩
/-- Ints in a block of their own, of a walk. -/
def OwnI (w : World) (base : Nat) (v : Value) (xs : List Int) : Prop := w.ownsRow base 3 1 v xs.length (xs.map (Value.int .i64))
theorem OwnI.form {w : World} {base : Nat} {v : Value} {xs : List Int} (h : OwnI w base v xs) : ∃ A c, v = .slice A xs.length c ∧ xs.length ≤ c := ownsRow_form h
theorem OwnI.read {w : World} {base : Nat} {A : Option Addr} {c : Nat} {xs : List Int} (h : OwnI w base (.slice A xs.length c) xs) : RdI w (fun i => base ≤ i ∧ i < w.heap.size) (.slice A xs.length c) xs := by
  obtain ⟨A', c', hv, hlc⟩ := ownsRow_form h
  injection hv with h1 h2 h3
  subst h1 h3
  refine ⟨A, c, rfl, hlc, ?_⟩
  by_cases h0 : xs = []
  · exact .inl h0
  · right
    obtain ⟨g, cap, hv, hbg, hcp⟩ := World.ownsRow.form h (List.length_pos_iff.2 h0)
    injection hv with h1 h2 h3
    subst h1
    refine ⟨g, 0, rfl, ⟨hbg, ?_⟩, fun j x hx => ?_⟩
    · exact (h.lt g rfl).2
    · have := World.ownsRow.cells h (g := g) rfl j (.int .i64 x) (by simp [hx])
      simpa [Addr.add_lit] using this
theorem OwnI.fr0 {w w' : World} {base : Nat} {v : Value} {xs : List Int} (h : OwnI w base v xs) (hf : Fr0 w w') : OwnI w' base v xs := by
  obtain ⟨A, c, rfl, _⟩ := ownsRow_form h
  exact ownsRow_keep h fun g hg => hf.block g (ownsRow_lt h g hg).2 id
theorem pushI_run {w : World} {B X : Nat} {v : Value} {xs : List Int} {x : Int} (h : OwnI w B v xs) (hB : B ≤ w.heap.size) (hx : w.cell? ⟨X, 0, none⟩ = some (.int .i64 x)) (hl : xs.length ≤ 1099511627776) :
    ∃ v' w', (Builtin.append_ #[42, 42] 42 #[v, .slice (some ⟨X, 0, none⟩) 1 1]).run Try.prog w = .ok v' w' ∧ ∃ A c, v' = .slice A (xs.length + 1) c ∧ OwnI w' B v' (xs ++ [x]) ∧ Fr (fun i => B ≤ i) w w' := by
  obtain ⟨i0, hi, hz0, hz1, hz2⟩ := info_parts infoI
  obtain ⟨v', w', hr, hown, hg, _, hbk⟩ := run_append_own_at (P := Try.prog) w B 42 42 3 i0 _ 1 8 undIs hi hz0 hz1 hz2 rfl (by decide) v xs.length (xs.map (Value.int .i64)) h ⟨X, 0, none⟩ 1 1
    [.int .i64 x] rfl (by
      intro j u hu
      rcases j with _ | j
      · simp at hu; subst hu; exact hx
      · simp at hu) (by simp [Value.oneCell']) (by simp only [maxLen]; omega) (by omega) hB
  obtain ⟨A, c, rfl, _⟩ := ownsRow_form hown
  refine ⟨_, w', hr, A, c, rfl, ?_, (Fr.refl _ w).grown hg fun k hk => .inr (h.lt k hk).1⟩
  unfold OwnI
  simpa using hown
/-- Fields of an Echo: valid ones, not many. -/
def FieldsPost (w : World) (e : Ending) (w' : World) : Prop :=
  ∃ xs A c, e = .returned (.slice A xs.length c) ∧ RdI w' (fun i => w.heap.size ≤ i ∧ i < w'.heap.size) (.slice A xs.length c) xs ∧ echoB xs = true ∧ xs.length ≤ 41 ∧ Fr0 w w'
theorem echoF_push {xs : List Int} {n : Int} (h : echoB xs = true) (hn : numberB n = true) (hm : n ∉ xs) : echoB (xs ++ [n]) = true := by
  unfold echoB at h ⊢
  simp only [Bool.and_eq_true, Bool.not_eq_true', decide_eq_false_iff_not] at h ⊢
  refine ⟨by simp, ?_⟩
  rw [echoF_split, h.2]
  simp [echoF, hn, hm]
theorem mem_step {xs : List Int} {j : Nat} {z : Int} (hz : xs[j]? = some z) (N : Int) : decide (N ∈ xs.take (j + 1)) = (decide (N ∈ xs.take j) || decide (z = N)) := by
  rw [List.take_add_one, hz]
  by_cases h2 : z = N
  · simp [h2]
  · have h3 : ¬ N = z := fun e => h2 e.symm
    simp [h2, h3]
set_option maxRecDepth 100000 in
set_option maxHeartbeats 1600000 in
theorem fieldsN_any {raw : List Int} {w : World} {ok : Nat → Prop} {v : Value} (hr0 : RdI w ok v raw) (hx : ∀ x ∈ raw, -9223372036854775808 ≤ x ∧ x ≤ 9223372036854775807) (hn : raw.length ≤ 9223372036854775807) :
    Calls Try.prog 24 #[v] w (FieldsPost w) := by
  obtain ⟨A, c, rfl, hlc, hcase⟩ := hr0
  have HC := Lib.hid hcase
  have HX := Lib.hid hx
  have hO : OwnI (w.alloc (.cells #[.int .i64 11] 3)) w.heap.size (.slice (some ⟨w.heap.size, 0, none⟩) [11].length 1) [11] :=
    World.ownsRow_lit w #[.int .i64 11] 1 (Nat.le_refl _) (by simp [maxLen]) rfl
  have hE : echoB [11] = true := by decide
  have HO := Lib.hid hO
  have HE := Lib.hid hE
  clear hcase hx hO hE
  go_enter Try.func24, Try.ntmps24
  go_wp2_with fail
  go_loopw [3, 4] (fun t i wr => ∃ (xs : List Int) (k : Nat) (A : Option Addr) (c : Nat), t = .slice A xs.length c ∧ i = .int .i64 k ∧ k ≤ raw.length ∧ k ≤ 40 ∧ OwnI wr w.heap.size t xs ∧ echoB xs = true ∧ xs.length ≤ k + 1 ∧ Fr0 w wr) (fun _ i _ => raw.length - (intOf i).toNat)
  case atStart => exact ⟨[11], 0, _, _, rfl, rfl, Nat.zero_le _, by omega, HO.out, HE.out, Nat.le_refl _, (Fr.refl _ w).alloc _⟩
  case round =>
    obtain ⟨xs, k, A1, c1, rfl, rfl, hk, hk4, hown, hE, hxl, hfr⟩ := hrel
    have HO := Lib.hid hown
    have HE := Lib.hid hE
    clear hown hE
    have hend : FieldsPost w (.returned (.slice A1 xs.length c1)) wr := ⟨xs, A1, c1, rfl, HO.out.read, HE.out, by omega, hfr⟩
    have HEND := Lib.hid hend
    clear hend
    by_cases hlt : k < raw.length
    · by_cases hlt4 : k < 40
      · obtain ⟨b, o, rfl, hc⟩ : ∃ b o, A = some ⟨b, o, none⟩ ∧ ∀ j x, raw[j]? = some x → w.cell? ⟨b, o + j, none⟩ = some (.int .i64 x) := by
          rcases HC.out with h | ⟨b, o, h1, h2, h3⟩
          · rw [h] at hlt; simp at hlt
          · exact ⟨b, o, h1, h3⟩
        obtain ⟨y, hy⟩ : ∃ y, raw[k]? = some y := ⟨_, List.getElem?_eq_getElem hlt⟩
        have hc1 := hfr.cell0 (hc k y hy)
        have hyb := HX.out y (List.mem_of_getElem? hy)
        have hwk : IntKind.i64.wrap ((k : Int) + 1) = (k : Int) + 1 := IntWalk.i64_in _ (by omega)
        have hnum := fieldN_num y
        have HF := Lib.hid (fieldN_any hyb.1 hyb.2 wr)
        obtain ⟨N, hN⟩ : ∃ N, N = fieldN y := ⟨_, rfl⟩
        rw [← hN] at HF hnum
        have HNUM := Lib.hid hnum
        obtain ⟨A2, c2, hv2, hlc2, hcase2⟩ := HO.out.read
        injection hv2 with e1 e2 e3
        subst e1 e3
        have HC2 := Lib.hid hcase2
        clear hc hy hyb hN hnum HC hcase2 HX
        go_wp2_with fail
        refine HF.out.mono ?_
        rintro e W ⟨rfl, rfl⟩
        go_wp2_with fail
        go_loopw [6, 7] (fun t i w2 => ∃ j : Nat, j ≤ xs.length ∧ t = .bool (decide (N ∈ xs.take j)) ∧ i = .int .i64 j ∧ w2 = wr) (fun _ i _ => xs.length - (intOf i).toNat)
        case atStart => exact ⟨0, Nat.zero_le _, rfl, rfl, rfl⟩
        case round =>
          obtain ⟨j, hj, rfl, rfl, rfl⟩ := hrel
          by_cases hlt2 : j < xs.length
          · obtain ⟨b2, o2, rfl, hc2⟩ : ∃ b o, A1 = some ⟨b, o, none⟩ ∧ ∀ j x, xs[j]? = some x → wr.cell? ⟨b, o + j, none⟩ = some (.int .i64 x) := by
              rcases HC2.out with h | ⟨b, o, h1, h2, h3⟩
              · rw [h] at hlt2; simp at hlt2
              · exact ⟨b, o, h1, h3⟩
            obtain ⟨z, hz⟩ : ∃ z, xs[j]? = some z := ⟨_, List.getElem?_eq_getElem hlt2⟩
            have hcz := hc2 j z hz
            have hwj : IntKind.i64.wrap ((j : Int) + 1) = (j : Int) + 1 := IntWalk.i64_in _ (by omega)
            have hst : decide (N ∈ xs.take (j + 1)) = (decide (N ∈ xs.take j) || decide (z = N)) := by
              exact mem_step hz N
            have HST := Lib.hid hst
            clear hst hz hc2
            cases hd : decide (N ∈ xs.take j) with
            | true =>
              rw [hd] at HST
              clear hd
              go_wp2_with fail
              go_roundw
              case rel => exact ⟨j + 1, by omega, by rw [HST.out]; rfl, by simp, by trivial⟩
              case measure => simp [intOf]; omega
            | false =>
              rw [hd] at HST
              clear hd
              cases hq : decide (z = N) with
              | true =>
                have hq' : (z == N) = true := by simpa using hq
                rw [hq] at HST
                clear hq
                go_wp2_with fail
                go_roundw
                case rel => exact ⟨j + 1, by omega, by rw [HST.out]; rfl, by simp, by trivial⟩
                case measure => simp [intOf]; omega
              | false =>
                have hq' : (z == N) = false := by simpa using hq
                rw [hq] at HST
                clear hq
                go_wp2_with fail
                go_roundw
                case rel => exact ⟨j + 1, by omega, by rw [HST.out]; rfl, by simp, by trivial⟩
                case measure => simp [intOf]; omega
          · rw [List.take_of_length_le (by omega)]
            cases hd : decide (N ∈ xs) with
            | true =>
              clear hd
              go_wp2_with fail
              exact ⟨⟨xs, k + 1, _, _, rfl, rfl, by omega, by omega, HO.out, HE.out, by omega, hfr⟩, by simp only [intOf]; omega⟩
            | false =>
              have hm := of_decide_eq_false hd
              have HM := Lib.hid hm
              have hal : Fr0 wr (wr.alloc (.cells #[.int .i64 N] 3)) := (Fr.refl _ _).alloc _
              have hs := hfr.size
              have HP := Lib.hid (pushI_run (x := N) (X := wr.heap.size) (HO.out.fr0 hal) (by simp; omega) ((Blk.new wr 3 #[.int .i64 N]).cell 0) (by omega))
              have HAL := Lib.hid hal
              clear hd hm hal
              go_wp2_with (at_builtin; refine wpList_append_run rfl _ _ _ rfl rfl rfl HP.out ?_; rintro v' w4 ⟨A5, c5, rfl, hown5, hf5⟩)
              exact ⟨⟨xs ++ [N], k + 1, A5, c5, by simp, rfl, by omega, by omega, by simpa using hown5, echoF_push HE.out HNUM.out HM.out, by simp; omega, (hfr.trans HAL.out).trans' hf5 fun i hi h => by omega⟩, by simp only [intOf]; omega⟩
      · go_wp2_with fail
        go_ret
        exact HEND.out
    · go_wp2_with fail
      go_ret
      exact HEND.out
end Go.Proofs.Ytaeneoenihonkaa
