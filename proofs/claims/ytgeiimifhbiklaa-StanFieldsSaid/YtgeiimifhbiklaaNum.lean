/- Numbers: New, Taken, Len, Free, Take: their contracts, proved by walks. -/
import Derived.Test.YtgeiimifhbiklaaMap
import Derived.Maps.OwnOps
import Derived.Maps.OwnSet
import Derived.Deep.QuietTactic
import Derived.BigQuiet
import Derived.WalkSpells
import Derived.Deep.RegionHeld3
import Derived.Deep.RegionLaw
import Derived.IntWalk
import Derived.Carry
namespace Go.Proofs.Ytgeiimifhbiklaa
open Go.RowKit

theorem undMI : Try.prog.underlying 45 = some (.map 3 3) := by kernel_rfl
theorem undI : Try.prog.underlying 3 = some (.int .i64) := by kernel_rfl
theorem zeroI (w : World) : (zeroValue 3).run Try.prog w = .ok (.int .i64 0) w := by kernel_rfl
def ones (ks : List Int) : List (Int × Value) := ks.map fun k => (k, .int .i64 1)
theorem look_cons (p : Int × Value) (r : List (Int × Value)) (x : Int) : look (p :: r) x = if p.1 = x then some p.2 else look r x := by
  by_cases e : p.1 = x <;> simp [look, e]
theorem look_ones_yes {x : Int} : ∀ {ks : List Int}, x ∈ ks → look (ones ks) x = some (.int .i64 1)
  | [], h => by simp at h
  | y :: r, h => by
    rw [ones, List.map_cons, look_cons]
    by_cases e : y = x
    · rw [if_pos e]
    · rw [if_neg e]
      exact look_ones_yes (ks := r) (by simpa [Ne.symm e] using h)
theorem look_ones_no {x : Int} : ∀ {ks : List Int}, x ∉ ks → look (ones ks) x = none
  | [], _ => rfl
  | y :: r, h => by
    simp only [List.mem_cons, not_or] at h
    rw [ones, List.map_cons, look_cons, if_neg (Ne.symm h.1)]
    exact look_ones_no (ks := r) h.2
theorem set_ones {x : Int} : ∀ {ks : List Int}, x ∉ ks → setKey (ones ks) x (.int .i64 1) = ones (ks ++ [x])
  | [], _ => rfl
  | y :: r, h => by
    simp only [List.mem_cons, not_or] at h
    have := set_ones (ks := r) h.2
    simp only [ones] at this
    simp [setKey, ones, Ne.symm h.1, this]
theorem drop_ones (x : Int) : ∀ ks : List Int, dropKey (ones ks) x = ones (ks.erase x)
  | [] => rfl
  | y :: r => by
    have := drop_ones x r
    simp only [ones] at this
    by_cases e : y = x
    · simp [dropKey, ones, e]
    · simp [dropKey, ones, e, this, List.erase_cons]
/-- Numbers in memory: how many, the last one that was dealt, which are out. -/
structure NumW (w : World) (g b : Nat) (m last : Int) (ks : List Int) : Prop where
  blk : Blk w g 49 #[.int .i64 m, .map (some b), .int .i64 last]
  map : MapI w b (ones ks)
theorem NumW.ne {w : World} {g b : Nat} {m last : Int} {ks : List Int} (h : NumW w g b m last ks) : g ≠ b := by
  rintro rfl
  obtain ⟨ents, clock, hb, _⟩ := h.map
  have := h.blk.symm.trans hb
  simp at this
theorem NumW.fr {w w' : World} {G : Nat → Prop} {g b : Nat} {m last : Int} {ks : List Int} (h : NumW w g b m last ks) (hf : Fr G w w') (h1 : ¬ G g) (h2 : ¬ G b) : NumW w' g b m last ks := ⟨h.blk.fr hf h1, h.map.fr hf h2⟩
theorem NumW.fr0 {w w' : World} {g b : Nat} {m last : Int} {ks : List Int} (h : NumW w g b m last ks) (hf : Fr0 w w') : NumW w' g b m last ks := h.fr hf id id

theorem taken_any {w : World} {g b : Nat} {m last : Int} {ks : List Int} (h : NumW w g b m last ks) (x : Int) :
    Calls Try.prog 14 #[.pointer (some ⟨g, 0, none⟩), .int .i64 x] w fun e w' => e = .returned (.bool (decide (x ∈ ks))) ∧ w = w' := by
  have hm := h.map
  have c1 := h.blk.cell 1
  cases hx : decide (x ∈ ks) with
  | true =>
    have hv : (look (ones ks) x).getD (.int .i64 0) = .int .i64 1 := by rw [look_ones_yes (of_decide_eq_true hx)]; rfl
    have HV := Lib.hid hv
    clear hv hx
    go_enter Try.func14, Try.ntmps14
    go_wp2_with (at_lookup; refine wpList_lookup_int rfl _ _ _ _ rfl undMI undI (zeroI _) rfl hm _ rfl HV.out ?_)
    go_ret
    exact ⟨rfl, rfl⟩
  | false =>
    have hv : (look (ones ks) x).getD (.int .i64 0) = .int .i64 0 := by rw [look_ones_no (of_decide_eq_false hx)]; rfl
    have HV := Lib.hid hv
    clear hv hx
    go_enter Try.func14, Try.ntmps14
    go_wp2_with (at_lookup; refine wpList_lookup_int rfl _ _ _ _ rfl undMI undI (zeroI _) rfl hm _ rfl HV.out ?_)
    go_ret
    exact ⟨rfl, rfl⟩
theorem plen_any {w : World} {g b : Nat} {m last : Int} {ks : List Int} (h : NumW w g b m last ks) :
    Calls Try.prog 17 #[.pointer (some ⟨g, 0, none⟩)] w fun e w' => e = .returned (.int .i64 ks.length) ∧ w = w' := by
  have hm := h.map
  have c1 := h.blk.cell 1
  go_enter Try.func17, Try.ntmps17
  go_wp2_with (at_len; refine wpList_len_int rfl _ _ rfl undMI rfl hm ?_)
  go_ret
  exact ⟨by simp [ones], rfl⟩
def FreePost (w : World) (g b : Nat) (m last : Int) (ks : List Int) (x : Int) (e : Ending) (w' : World) : Prop :=
  e = .returned (.int .i64 (if x ∈ ks then 0 else 181)) ∧ NumW w' g b m last (ks.erase x) ∧ Fr (fun i => i = b) w w'
theorem free_any {w : World} {g b : Nat} {m last : Int} {ks : List Int} (h : NumW w g b m last ks) (x : Int) :
    Calls Try.prog 15 #[.pointer (some ⟨g, 0, none⟩), .int .i64 x] w (FreePost w g b m last ks x) := by
  have hm := h.map
  have c1 := h.blk.cell 1
  cases hx : decide (x ∈ ks) with
  | false =>
    have HX := Lib.hid hx
    have hT := Lib.hid (taken_any h x)
    rw [hx] at hT
    clear hx
    go_enter Try.func15, Try.ntmps15
    go_wp2_with fail
    refine hT.out.mono ?_
    rintro e W ⟨rfl, rfl⟩
    go_wp2_with fail
    go_ret
    have := of_decide_eq_false HX.out
    refine ⟨by rw [if_neg this]; rfl, ?_, Fr.refl _ _⟩
    rw [List.erase_of_not_mem this]
    exact h
  | true =>
    have HX := Lib.hid hx
    have hT := Lib.hid (taken_any h x)
    rw [hx] at hT
    clear hx
    go_enter Try.func15, Try.ntmps15
    go_wp2_with fail
    refine hT.out.mono ?_
    rintro e W ⟨rfl, rfl⟩
    go_wp2_with (at_delete; refine wpList_delete_int rfl _ _ _ _ rfl undMI undI rfl hm _ rfl ?_; intro W2 hm2 hf2)
    go_ret
    have := of_decide_eq_true HX.out
    refine ⟨by rw [if_pos this]; rfl, ⟨h.blk.fr hf2 h.ne, ?_⟩, hf2⟩
    rw [← drop_ones]
    exact hm2

/-! ### which one is dealt -/
def nxt (m c : Int) : Int := if c < m then c + 1 else 1
/-- The first one behind c that is not out; fuel. -/
def first (m : Int) (ks : List Int) : Nat → Int → Option Int
  | 0, _ => none
  | f + 1, c => if nxt m c ∈ ks then first m ks f (nxt m c) else some (nxt m c)
def dist (m : Int) (ks : List Int) : Nat → Int → Nat
  | 0, _ => 0
  | f + 1, c => if nxt m c ∈ ks then dist m ks f (nxt m c) + 1 else 0
section
variable {m : Int} {ks : List Int}
theorem nxt_mem (hm : 1 ≤ m) {c : Int} (h0 : 0 ≤ c) : 1 ≤ nxt m c ∧ nxt m c ≤ m := by
  unfold nxt
  split <;> omega
theorem nxt_rem {c : Int} (hm : 1 ≤ m) (h0 : 0 ≤ c) (h1 : c ≤ m) : c.tmod m + 1 = nxt m c := by
  unfold nxt
  split
  · rw [Int.tmod_eq_of_lt h0 (by assumption)]
  · rw [show c = m by omega, Int.tmod_self]
    rfl
theorem first_more : ∀ {f M : Nat} {c k : Int}, first m ks f c = some k → f ≤ M → first m ks M c = some k ∧ dist m ks M c = dist m ks f c
  | 0, _, _, _, h, _ => by simp [first] at h
  | f + 1, 0, _, _, _, hM => by omega
  | f + 1, M + 1, c, k, h, hM => by
    simp only [first, dist] at h ⊢
    split at h
    · rename_i hc
      obtain ⟨h1, h2⟩ := first_more (M := M) h (by omega)
      simp only [if_pos hc, h1, h2, and_self]
    · rename_i hc
      simp only [if_neg hc]
      exact ⟨h, trivial⟩
theorem first_spec (hm : 1 ≤ m) : ∀ {f : Nat} {c k : Int}, 0 ≤ c → first m ks f c = some k → k ∉ ks ∧ 1 ≤ k ∧ k ≤ m
  | 0, _, _, _, h => by simp [first] at h
  | f + 1, c, k, hc, h => by
    have hn := nxt_mem hm hc
    simp only [first] at h
    split at h
    · exact first_spec hm (by omega) h
    · simp only [Option.some.injEq] at h
      subst h
      exact ⟨by assumption, hn⟩
theorem first_up {f0 : Int} (hf : f0 ∉ ks) (hm : f0 ≤ m) : ∀ (d : Nat) (c : Int), c + d + 1 = f0 → ∃ k, first m ks (d + 1) c = some k
  | 0, c, h => by
    have : nxt m c = f0 := by unfold nxt; split <;> omega
    simp [first, this, hf]
  | d + 1, c, h => by
    have : nxt m c = c + 1 := by unfold nxt; split <;> omega
    rw [first, this]
    split
    · exact first_up hf hm d (c + 1) (by omega)
    · exact ⟨_, rfl⟩
theorem first_round {f0 : Int} (hf : f0 ∉ ks) (h1 : 1 ≤ f0) (hm : f0 ≤ m) : ∀ (e : Nat) (c : Int), c + e = m → f0 ≤ c → ∃ k, first m ks (e + f0.toNat) c = some k
  | 0, c, h, hc => by
    obtain ⟨q, hq⟩ : ∃ q, f0.toNat = q + 1 := ⟨f0.toNat - 1, by omega⟩
    have : nxt m c = 1 := by unfold nxt; split <;> omega
    rw [show 0 + f0.toNat = q + 1 by omega, first, this]
    split
    · obtain ⟨r, hr⟩ : ∃ r, q = r + 1 := ⟨q - 1, by
        have : f0 ≠ 1 := fun e => hf (by rw [e]; assumption)
        omega⟩
      rw [hr]
      exact first_up hf hm r 1 (by omega)
    · exact ⟨_, rfl⟩
  | e + 1, c, h, hc => by
    have : nxt m c = c + 1 := by unfold nxt; split <;> omega
    rw [show e + 1 + f0.toNat = (e + f0.toNat) + 1 by omega, first, this]
    split
    · exact first_round hf h1 hm e (c + 1) (by omega) (by omega)
    · exact ⟨_, rfl⟩
theorem all_in : ∀ (n : Nat) (ks : List Int), (∀ i : Int, 1 ≤ i → i ≤ n → i ∈ ks) → n ≤ ks.length
  | 0, _, _ => Nat.zero_le _
  | n + 1, ks, h => by
    have h1 := h (n + 1 : Nat) (by omega) (Int.le_refl _)
    have h2 := all_in n (ks.erase (n + 1 : Nat)) fun i a b => (List.mem_erase_of_ne (by omega)).2 (h i a (by omega))
    rw [List.length_erase_of_mem h1] at h2
    have := List.length_pos_of_mem h1
    omega
theorem first_some (hm : 1 ≤ m) (hk : (ks.length : Int) < m) {c : Int} (h0 : 0 ≤ c) (h1 : c ≤ m) : ∃ k, first m ks (2 * m.toNat) c = some k := by
  obtain ⟨f0, a, b, d⟩ : ∃ f0 : Int, 1 ≤ f0 ∧ f0 ≤ m ∧ f0 ∉ ks := by
    refine Classical.byContradiction fun hn => ?_
    have := all_in m.toNat ks fun i a b => Classical.byContradiction fun e => hn ⟨i, a, by omega, e⟩
    omega
  by_cases hc : c < f0
  · obtain ⟨k, h⟩ := first_up d b (f0 - c - 1).toNat c (by omega)
    exact ⟨k, (first_more h (by omega)).1⟩
  · obtain ⟨k, h⟩ := first_round d a b (m - c).toNat c (by omega) (by omega)
    exact ⟨k, (first_more h (by omega)).1⟩
end
/-- Numbers as they are: between 1 and the most, the last one at most that, which are out at most as many. -/
structure NumOk (m last : Int) (ks : List Int) : Prop where
  m1 : 1 ≤ m
  m2 : m ≤ 999999
  l0 : 0 ≤ last
  l1 : last ≤ m
  le : (ks.length : Int) ≤ m
def TakePost (w : World) (g b : Nat) (m last : Int) (ks : List Int) (e : Ending) (w' : World) : Prop :=
  ((ks.length : Int) = m ∧ e = .returned (.tuple #[.int .i64 0, .int .i64 180]) ∧ Fr0 w w') ∨
  ((ks.length : Int) < m ∧ ∃ k, first m ks (2 * m.toNat) last = some k ∧ e = .returned (.tuple #[.int .i64 k, .int .i64 0]) ∧ NumW w' g b m k (ks ++ [k]) ∧ Fr (fun i => i = g ∨ i = b) w w')
def lastOf (w : World) (g : Nat) : Int := ((w.cell? ⟨g, 2, none⟩).map intOf).getD 0
set_option maxHeartbeats 1600000 in
theorem take_any {w : World} {g b : Nat} {m last : Int} {ks : List Int} (h : NumW w g b m last ks) (ho : NumOk m last ks) :
    Calls Try.prog 16 #[.pointer (some ⟨g, 0, none⟩)] w (TakePost w g b m last ks) := by
  have c0 := h.blk.cell 0
  have HO := Lib.hid ho
  have hL := Lib.hid (plen_any (w := w.drew) (g := g) ⟨h.blk, h.map⟩)
  clear ho
  by_cases hk : (ks.length : Int) = m
  · have hk' : ((ks.length : Int) == m) = true := by simp [hk]
    have HK := Lib.hid hk
    clear hk
    go_enter Try.func16, Try.ntmps16
    go_wp2_with fail
    go_region_law (go_simp; go_at_call 17; refine hL.out.mono ?_; rintro e w2 ⟨rfl, rfl⟩)
    all_goals
      go_wp2_with fail
      exact bodyPost_ret (v := .tuple #[.int .i64 0, .int .i64 180]) (by simp [results, Try.results16, go_sem]) rfl (.inl ⟨HK.out, rfl, (Fr.refl _ _).drew⟩)
  · have ho := HO.out
    have hlt : (ks.length : Int) < m := by have := ho.le; omega
    have hk' : ((ks.length : Int) == m) = false := by simp [hk]
    obtain ⟨k, hf⟩ := first_some ho.m1 hlt ho.l0 ho.l1
    obtain ⟨hk1, hk2, hk3⟩ := first_spec ho.m1 ho.l0 hf
    have HF := Lib.hid hf
    have HK := Lib.hid hlt
    clear ho hk hf hlt
    go_enter Try.func16, Try.ntmps16
    go_wp2_with fail
    go_region_law (go_simp; go_at_call 17; refine hL.out.mono ?_; rintro e w2 ⟨rfl, rfl⟩)
    all_goals
      go_wp2_with fail
      go_simp
      go_loopw [] (fun wr => ∃ c : Int, 0 ≤ c ∧ c ≤ m ∧ (∃ f, f ≤ 2 * m.toNat ∧ first m ks f c = some k) ∧ NumW wr g b m c ks ∧ Fr (fun i => i = g ∨ i = b) w wr) (fun wr => dist m ks (2 * m.toNat) (lastOf wr g))
      case atStart =>
        exact ⟨last, HO.out.l0, HO.out.l1, ⟨_, Nat.le_refl _, HF.out⟩, ⟨h.blk, h.map⟩, (Fr.refl _ _).drew⟩
      case round =>
        obtain ⟨c, hc0, hc1, ⟨f, hfM, hf⟩, hn, hfr⟩ := hrel
        have x0 := hn.blk.cell 0
        have x2 := hn.blk.cell 2
        have x3 := hn.blk.frozen 2
        have hm0 : ¬ m = 0 := by have := HO.out.m1; omega
        have hw : IntKind.i64.wrap (c.tmod m + 1) = nxt m c := by
          have hm1 := HO.out.m1
          have hm2 := HO.out.m2
          rw [nxt_rem hm1 hc0 hc1]
          have := nxt_mem hm1 hc0
          exact IntWalk.i64_in _ (by omega)
        obtain ⟨W1, hW1⟩ : ∃ W1, W1 = wr.setCell ⟨g, 2, none⟩ (.int .i64 (nxt m c)) := ⟨_, rfl⟩
        have hn1 : NumW W1 g b m (nxt m c) ks := by
          rw [hW1]
          refine ⟨hn.blk.set_ 2 _, ?_⟩
          exact hn.map.fr ((Fr.refl (fun i => i = g) wr).setCell (p := ⟨g, 2, none⟩) (.inr rfl) _) fun e => hn.ne e.symm
        have HW := Lib.hid hW1
        have hT := Lib.hid (taken_any (w := W1.drew.drew) (g := g) ⟨hn1.blk, hn1.map⟩ (nxt m c))
        have y1 := hn1.blk.cell 1
        have y2 := hn1.blk.cell 2
        have hnn := nxt_mem HO.out.m1 hc0
        have hlo : lastOf wr g = c := by simp [lastOf, x2, intOf]
        have hlo1 : lastOf W1 g = nxt m c := by simp [lastOf, y2, intOf]
        have hfr1 : Fr (fun i => i = g ∨ i = b) w W1 := by
          rw [hW1]
          exact hfr.setCell (p := ⟨g, 2, none⟩) (.inr (.inl rfl)) _
        go_wp2_with fail
        go_region_law (fail)
        all_goals
        go_simp
        rw [← hW1]
        clear hW1
        go_wp2_with fail
        cases hd : decide (nxt m c ∈ ks) with
        | true =>
          rw [hd] at hT
          have HD := Lib.hid hd
          have HI := Lib.hid hf
          clear hd hf
          go_region_law (go_simp; go_at_call 14; refine hT.out.mono ?_; rintro e w2 ⟨rfl, rfl⟩)
          all_goals
          go_simp
          go_wp2_with fail
          obtain ⟨f1, rfl⟩ : ∃ f1, f = f1 + 1 := by
            cases f with
            | zero => exact absurd HI.out (by simp [first])
            | succ f1 => exact ⟨f1, rfl⟩
          have hf := HI.out
          have hm := of_decide_eq_true HD.out
          have hf1 : first m ks f1 (nxt m c) = some k := by
            rw [first, if_pos hm] at hf
            exact hf
          go_roundw
          · exact ⟨nxt m c, by omega, by omega, ⟨f1, by omega, hf1⟩, ⟨hn1.blk, hn1.map⟩, hfr1.drew.drew⟩
          · show dist m ks (2 * m.toNat) (lastOf W1 g) < _
            rw [hlo, hlo1, (first_more hf hfM).2, (first_more hf1 (by omega)).2, dist, if_pos hm]
            omega
        | false =>
          rw [hd] at hT
          have HD := Lib.hid hd
          have HI := Lib.hid hf
          clear hd hf
          go_region_law (go_simp; go_at_call 14; refine hT.out.mono ?_; rintro e w2 ⟨rfl, rfl⟩)
          all_goals
          go_simp
          go_wp2_with fail
          have hm3 : MapI W1.drew.drew.drew b (ones ks) := hn1.map
          have hb3 : Blk W1.drew.drew.drew g 49 #[.int .i64 m, .map (some b), .int .i64 (nxt m c)] := hn1.blk
          obtain ⟨W2, hr, hm2, hf2⟩ := run_mapUpdate_int (P := Try.prog) undMI undI hm3 (nxt m c) (.int .i64 1)
          have z2 := (hb3.fr hf2 hn1.ne).cell 2
          have hnk : nxt m c = k := by
            have h2 := HI.out
            have h3 := of_decide_eq_false HD.out
            cases f with
            | zero => simp [first] at h2
            | succ f1 =>
              rw [first, if_neg h3] at h2
              exact Option.some.inj h2
          have hfin : TakePost w g b m last ks (.returned (.tuple #[.int .i64 (nxt m c), .int .i64 0])) W2 := by
            refine .inr ⟨HK.out, k, HF.out, by rw [hnk], ⟨?_, ?_⟩, (hfr1.drew.drew.drew).trans (hf2.mono fun i _ e => .inr e)⟩
            · rw [← hnk]
              exact hb3.fr hf2 hn1.ne
            · rw [← hnk, ← set_ones (of_decide_eq_false HD.out)]
              exact hm2
          have HFIN := Lib.hid hfin
          clear hfin hnk
          go_region_law (fail)
          all_goals
          go_simp
          go_wp2_with fail
          exact bodyPost_ret (v := .tuple #[.int .i64 (nxt m c), .int .i64 0]) (by simp [results, Try.results16, go_sem]) rfl HFIN.out
end Go.Proofs.Ytgeiimifhbiklaa
