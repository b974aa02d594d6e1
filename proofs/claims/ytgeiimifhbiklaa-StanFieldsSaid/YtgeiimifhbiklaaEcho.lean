/- Echoes in memory; NewEcho: its contract, proved by a walk. -/
import Derived.Test.YtgeiimifhbiklaaWith
import Derived.Test.YtgeiimifhbiklaaMap
import Derived.Test.YtgeiimifhbiklaaOne
import Derived.Maps.OwnOps
import Derived.Maps.OwnSet
import Derived.Deep.QuietTactic
import Derived.BigQuiet
import Derived.WalkSpells
import Derived.IntWalk
import Derived.Carry
import Derived.Laws.Cover3
namespace Go.Proofs.Ytgeiimifhbiklaa
open Go.RowKit

theorem MapI.new (w : World) : MapI (w.alloc (.map #[] 0)) w.heap.size [] := ⟨[], 0, heap_alloc_new w _, rfl⟩
theorem infoI : (Try.prog.info? 3).map (fun i => (i.zero, i.size, i.bytes)) = some (some (.int .i64 0), 1, 8) := by kernel_rfl
theorem undIs : Try.prog.underlying 42 = some (.slice 3) := by kernel_rfl

/-- Ints in a block of their own. -/
def ClonePost (w : World) (xs : List Int) (e : Ending) (w' : World) : Prop := ∃ f c, e = .returned (.slice (some ⟨f, 0, none⟩) xs.length c) ∧ w.heap.size ≤ f ∧ RdI w' (· = f) (.slice (some ⟨f, 0, none⟩) xs.length c) xs ∧ Fr0 w w'
theorem eql_nil (a : Addr) (n c : Nat) (w : World) : (binOp .eql 42 (.slice (some a) n c) (.slice none 0 0)).run Try.prog w = .ok (.bool false) w := by
  have := run_equal_slice_nil (P := Try.prog) (w := w) 42 3 (some a) n c undIs
  simp [binOp, this, go_sem]
theorem clone_any {w : World} {ok : Nat → Prop} {v : Value} {xs : List Int} (hr : RdI w ok v xs) (hne : xs ≠ []) (hn : xs.length ≤ 1099511627776) :
    Calls Try.prog 43 #[v] w (ClonePost w xs) := by
  obtain ⟨A, c, rfl, hlc, h3⟩ := hr
  obtain ⟨b, o, rfl, hok, hc⟩ : ∃ b o, A = some ⟨b, o, none⟩ ∧ ok b ∧ ∀ j x, xs[j]? = some x → w.cell? ⟨b, o + j, none⟩ = some (.int .i64 x) := by
    rcases h3 with h3 | h3
    · exact absurd h3 hne
    · exact h3
  obtain ⟨i0, hi, hz0, hz1, hz2⟩ := info_parts infoI
  obtain ⟨W1, hW1⟩ : ∃ W1, W1 = w.alloc (.cells #[] 3) := ⟨_, rfl⟩
  have hrow : W1.ownsRow w.heap.size 3 1 (.slice (some ⟨w.heap.size, 0, none⟩) 0 0) 0 [] := by
    rw [hW1]
    exact World.ownsRow_made w _ 0 (Nat.le_refl _) (by simp [maxLen]) rfl
  have hf1 : Fr0 w W1 := by rw [hW1]; exact (Fr.refl _ _).alloc _
  have hpos : 0 < xs.length := List.length_pos_iff.2 hne
  have hrun : ∃ v' w', (Builtin.append_ #[42, 42] 42 #[.slice (some ⟨w.heap.size, 0, none⟩) 0 0, .slice (some ⟨b, o, none⟩) xs.length c]).run Try.prog W1 = .ok v' w' ∧ ClonePost w xs (.returned v') w' := by
    obtain ⟨v', w', hr, hown, hg, _, hbk⟩ := run_append_own_at (P := Try.prog) W1 w.heap.size 42 42 3 i0 _ 1 8 undIs hi hz0 hz1 hz2 rfl (by decide) _ 0 [] hrow ⟨b, o, none⟩ xs.length c
      (xs.map (Value.int .i64)) (by simp) (by
        intro j u hu
        rw [List.getElem?_map] at hu
        obtain ⟨x, hx, rfl⟩ := Option.map_eq_some_iff.1 hu
        simpa [Addr.add_lit] using hf1.cell0 (hc j x hx)) (by
        intro u hu
        obtain ⟨x, _, rfl⟩ := List.mem_map.1 hu
        rfl) (by simp only [maxLen]; omega) (by omega) (by rw [hW1]; simp)
    rw [Nat.zero_add] at hown
    obtain ⟨g, cap, rfl, hbg, hcp⟩ := hown.form hpos
    refine ⟨_, w', hr, g, cap, rfl, hbg, ⟨some ⟨g, 0, none⟩, cap, rfl, ?_, .inr ⟨g, 0, rfl, rfl, fun j x hx => ?_⟩⟩, hf1.grown hg fun k hk => .inl (by simp [Value.ownBlock] at hk; omega)⟩
    · rcases hown.2 with ⟨h6, h7⟩ | ⟨g', cap', cur, hv, _, _, h8, _⟩
      · simp at h6
      · injection hv with _ _ hcap
        omega
    · have := hown.cells (g := g) rfl j (.int .i64 x) (by simp [hx])
      simpa [Addr.add_lit] using this
  rw [hW1] at hrun
  have HR := Lib.hid hrun
  have hnil := eql_nil ⟨b, o, none⟩ xs.length c w
  clear hrun hrow hc hf1 hW1 h3 hne
  have hn2 := Lib.hid hn
  clear hn
  go_enter Try.func43, Try.ntmps43
  go_wp2_with (at_builtin; refine wpList_append_run rfl _ _ _ rfl rfl rfl HR.out ?_; rintro v' W2 hpost)
  go_ret
  exact hpost
/-- The fields of an Echo: those that there can be, each once. -/
def echoF : List Int → List Int → Bool
  | _, [] => true
  | seen, x :: r => numberB x && !decide (x ∈ seen) && echoF (seen ++ [x]) r
def echoB (xs : List Int) : Bool := !decide (xs = []) && echoF [] xs
theorem echoF_split : ∀ (a b seen : List Int), echoF seen (a ++ b) = (echoF seen a && echoF (seen ++ a) b)
  | [], b, seen => by simp [echoF]
  | x :: r, b, seen => by
    simp only [List.cons_append, echoF, echoF_split r b (seen ++ [x]), List.append_assoc, List.singleton_append, Bool.and_assoc, List.nil_append]
theorem RdI.pre {w : World} {ok : Nat → Prop} {A : Option Addr} {n c : Nat} {xs : List Int} (h : RdI w ok (.slice A n c) xs) (k : Nat) (hk : k ≤ xs.length) : RdI w ok (.slice A k c) (xs.take k) := by
  obtain ⟨A', c', h1, h2, h3⟩ := h
  injection h1 with h4 h5 h6
  subst h4 h6
  refine ⟨A, c, by rw [List.length_take, Nat.min_eq_left hk], by rw [List.length_take]; omega, ?_⟩
  rcases h3 with h3 | ⟨b, o, h3, h4, h5⟩
  · exact .inl (by rw [h3]; simp)
  · refine .inr ⟨b, o, h3, h4, fun j x hx => h5 j x ?_⟩
    rw [List.getElem?_take] at hx
    split at hx
    · exact hx
    · simp at hx
/-- An Echo in memory, nothing kept. -/
def NewEchoPost (w : World) (xs : List Int) (e : Ending) (w' : World) : Prop :=
  if echoB xs = true then ∃ g b f c, e = .returned (.tuple #[.pointer (some ⟨g, 0, none⟩), .int .i64 0]) ∧ Blk w' g 92 #[.slice (some ⟨f, 0, none⟩) xs.length c, .map (some b)] ∧ RdI w' (· = f) (.slice (some ⟨f, 0, none⟩) xs.length c) xs ∧ MapI w' b [] ∧
      w.heap.size ≤ g ∧ w.heap.size ≤ b ∧ w.heap.size ≤ f ∧ g ≠ b ∧ g ≠ f ∧ b ≠ f ∧ Fr0 w w'
  else e = .returned (.tuple #[.pointer none, .int .i64 1]) ∧ Fr0 w w'
theorem newecho_any {w : World} {ok : Nat → Prop} {v : Value} {xs : List Int} (hr : RdI w ok v xs) (hn : xs.length ≤ 1099511627776) :
    Calls Try.prog 19 #[v] w (NewEchoPost w xs) := by
  obtain ⟨A, c, rfl, hlc, _⟩ := id hr
  have HN := Lib.hid hn
  clear hn
  by_cases h0 : xs = []
  · subst h0
    have hb : echoB [] = false := rfl
    have HB := Lib.hid hb
    clear hb
    go_enter Try.func19, Try.ntmps19
    go_wp2_with fail
    exact bodyPost_ret (v := .tuple #[.pointer none, .int .i64 1]) (by simp [results, Try.results19, go_sem]) rfl (by unfold NewEchoPost; rw [HB.out, if_neg (by simp)]; exact ⟨rfl, Fr.refl _ _⟩)
  · have hpos : 0 < xs.length := List.length_pos_iff.2 h0
    have hz : ((xs.length : Int) == 0) = false := by simp; omega
    have H0 := Lib.hid h0
    clear h0
    go_enter Try.func19, Try.ntmps19
    go_wp2_with fail
    go_loop [4, 5, 11] (fun _ _ i => ∃ k : Nat, k ≤ xs.length ∧ i = .int .i64 k ∧ echoF [] (xs.take k) = true) (fun _ _ i => xs.length - (intOf i).toNat)
    case atStart => exact ⟨0, Nat.zero_le _, rfl, rfl⟩
    case round =>
      obtain ⟨k, hk, rfl, hF⟩ := hrel
      have HF := Lib.hid hF
      clear hF
      by_cases hlt : k < xs.length
      · obtain ⟨A', c', hv, _, hcase⟩ := id hr
        injection hv with h1 h2 h3
        subst h1 h3
        obtain ⟨b, o, rfl, hok, hc⟩ : ∃ b o, A = some ⟨b, o, none⟩ ∧ ok b ∧ ∀ j x, xs[j]? = some x → w.cell? ⟨b, o + j, none⟩ = some (.int .i64 x) := by
          rcases hcase with h | h
          · exact absurd h H0.out
          · exact h
        obtain ⟨x, hx⟩ : ∃ x, xs[k]? = some x := ⟨_, List.getElem?_eq_getElem hlt⟩
        have hc1 := hc k x hx
        have htk : xs.take (k + 1) = xs.take k ++ [x] := by
          rw [List.take_add_one, hx]
          rfl
        have hstep : echoF [] (xs.take (k + 1)) = (numberB x && !decide (x ∈ xs.take k)) := by
          rw [htk, echoF_split, HF.out]
          simp [echoF]
        have hbad : (numberB x && !decide (x ∈ xs.take k)) = false → NewEchoPost w xs (.returned (.tuple #[.pointer none, .int .i64 1])) w := by
          intro he
          have h2 : echoB xs = false := by
            rw [echoB, show echoF [] xs = false by rw [← List.take_append_drop (k + 1) xs, echoF_split, hstep, he]; rfl]
            simp
          unfold NewEchoPost
          rw [h2, if_neg (by simp)]
          exact ⟨rfl, Fr.refl _ _⟩
        have HS := Lib.hid hstep
        have HB := Lib.hid hbad
        clear hcase hc hx htk hstep hbad
        by_cases q1 : x < 2
        · have HB2 := Lib.hid (HB.out (by simp [numberB]; omega))
          go_wp2_with fail
          exact bodyPost_ret (v := .tuple #[.pointer none, .int .i64 1]) (by simp [results, Try.results19, go_sem]) rfl HB2.out
        · by_cases q2 : 128 < x
          · have HB2 := Lib.hid (HB.out (by simp [numberB]; omega))
            go_wp2_with fail
            exact bodyPost_ret (v := .tuple #[.pointer none, .int .i64 1]) (by simp [results, Try.results19, go_sem]) rfl HB2.out
          · by_cases q3 : x = 65
            · have HB2 := Lib.hid (HB.out (by simp [numberB, q3]))
              have q3' : (x == 65) = true := by simp [q3]
              clear q3
              go_wp2_with fail
              exact bodyPost_ret (v := .tuple #[.pointer none, .int .i64 1]) (by simp [results, Try.results19, go_sem]) rfl HB2.out
            · have q3' : (x == 65) = false := by simp [q3]
              have hnum : numberB x = true := by simp [numberB]; omega
              have HNU := Lib.hid hnum
              have hT := contains_any (xs.take k) x w ok (.slice (some ⟨b, o, none⟩) k c) (by have := HN.out; rw [List.length_take]; omega) (hr.pre k hk)
              have hkc : k ≤ c := by omega
              cases hd : decide (x ∈ xs.take k) with
              | true =>
                rw [hd] at hT
                have HB2 := Lib.hid (HB.out (by rw [hd]; simp))
                have HT := Lib.hid hT
                clear hT hd hnum q3
                go_wp2_with fail
                refine HT.out.mono ?_
                rintro e W ⟨rfl, rfl⟩
                go_wp2_with fail
                exact bodyPost_ret (v := .tuple #[.pointer none, .int .i64 1]) (by simp [results, Try.results19, go_sem]) rfl HB2.out
              | false =>
                rw [hd] at hT
                have hwk : IntKind.i64.wrap ((k : Int) + 1) = (k : Int) + 1 := IntWalk.i64_in _ (by have := HN.out; omega)
                have HS2 := Lib.hid (show echoF [] (xs.take (k + 1)) = true by rw [HS.out, hd, hnum]; rfl)
                have HT := Lib.hid hT
                clear hT hd hnum q3
                go_wp2_with fail
                refine HT.out.mono ?_
                rintro e W ⟨rfl, rfl⟩
                go_wp2_with fail
                go_round
                case rel => exact ⟨k + 1, by omega, by simp, HS2.out⟩
                case measure => simp [intOf]; omega
      · have hall : echoB xs = true := by
          have := HF.out
          rw [List.take_of_length_le (by omega)] at this
          rw [echoB, this]
          simp [H0.out]
        have HA := Lib.hid hall
        have hmk := fun w => run_makeMap (P := Try.prog) 90 w
        clear hall
        go_wp2_with fail
        refine (clone_any hr H0.out HN.out).mono ?_
        rintro e W ⟨f, c2, rfl, hf0, hri, hfr⟩
        go_wp2_with fail
        have hflt : f < W.heap.size := by
          obtain ⟨A', c', hv, _, hcase⟩ := hri
          rcases hcase with h | ⟨b, o, h1, rfl, h3⟩
          · exact absurd h H0.out
          · exact World.block_lt_of_cell? _ _ (h3 0 xs[0] (by simp [hpos]))
        have hsz := hfr.size
        refine bodyPost_ret (v := .tuple #[.pointer (some ⟨W.heap.size + 1, 0, none⟩), .int .i64 0]) (by simp [results, Try.results19, go_sem]) rfl ?_
        unfold NewEchoPost
        rw [HA.out, if_pos rfl]
        refine ⟨W.heap.size + 1, W.heap.size, f, c2, rfl, ?_, (hri.fr0 ((Fr.refl _ _).alloc _)).fr0 ((Fr.refl _ _).alloc _), (MapI.new W).fr0 ((Fr.refl _ _).alloc _), by omega, by omega, hf0, by omega, by omega, by omega, (hfr.alloc _).alloc _⟩
        have := Blk.new (W.alloc (.map #[] 0)) 92 #[.slice (some ⟨f, 0, none⟩) xs.length c2, .map (some W.heap.size)]
        rwa [show (W.alloc (.map #[] 0)).heap.size = W.heap.size + 1 by simp] at this
end Go.Proofs.Ytgeiimifhbiklaa
