/- The document's numbers: Free, Take: their contracts, proved by walks. -/
import Derived.Test.YtaeneoenihonkaaRefN
namespace Go.Proofs.Ytaeneoenihonkaa
open Go.RowKit

theorem mem_erase_nd {ks : List Int} (h : ks.Nodup) (x y : Int) : y ∈ ks.erase x ↔ y ≠ x ∧ y ∈ ks := List.Nodup.mem_erase_iff h
theorem KsOk.erase {m : Int} {ks : List Int} (h : KsOk m ks) (x : Int) : KsOk m (ks.erase x) := ⟨h.nd.erase x, fun y hy => h.in_ y (List.mem_of_mem_erase hy)⟩
theorem KsOk.add {m : Int} {ks : List Int} (h : KsOk m ks) {x : Int} (hx : x ∉ ks) (h1 : 1 ≤ x) (h2 : x ≤ m) : KsOk m (ks ++ [x]) := by
  refine ⟨?_, fun y hy => ?_⟩
  · rw [List.nodup_append]
    refine ⟨h.nd, by simp, ?_⟩
    intro a ha b hb
    simp only [List.mem_singleton] at hb
    subst hb
    exact fun e => hx (e ▸ ha)
  · simp only [List.mem_append, List.mem_singleton] at hy
    rcases hy with hy | rfl
    · exact h.in_ y hy
    · exact ⟨h1, h2⟩
theorem KsOk.nil (m : Int) : KsOk m [] := ⟨List.nodup_nil, by simp⟩
def RFreePost (w : World) (g o : Nat) (m last : Int) (ks : List Int) (x : Int) (e : Ending) (w' : World) : Prop :=
  e = .returned (.int .i64 (if x ∈ ks then 0 else 181)) ∧ RefW w' g o m last (ks.erase x) ∧ Fr (fun i => i = g ∨ i = o) w w'
theorem rfree_any {w : World} {g o : Nat} {m last : Int} {ks : List Int} (h : RefW w g o m last ks) (hk : KsOk m ks) (hm : m ≤ 999999) (hlen : (ks.length : Int) ≤ m) (x : Int) :
    Calls Try.prog 39 #[.pointer (some ⟨g, 0, none⟩), .int .i64 x] w (RFreePost w g o m last ks x) := by
  have hT := Lib.hid (rtaken_any h hk hm x)
  cases hx : decide (x ∈ ks) with
  | false =>
    rw [hx] at hT
    have HX := Lib.hid hx
    clear hx
    go_enter Try.func39, Try.ntmps39
    go_wp2_with fail
    refine hT.out.mono ?_
    rintro e W ⟨rfl, rfl⟩
    go_wp2_with fail
    go_ret
    have := of_decide_eq_false HX.out
    refine ⟨by rw [if_neg this]; rfl, ?_, Fr.refl _ _⟩
    rw [List.erase_of_not_mem this]
    exact h
  | true =>
    rw [hx] at hT
    have hmem := of_decide_eq_true hx
    obtain ⟨h1, h2⟩ := hk.in_ x hmem
    obtain ⟨cs, hb⟩ := h.bits
    have c0 := h.blk.cell 0
    have c2 := h.blk.cell 2
    have cb := hb.cell (k := x) (by omega) h2
    have fb := hb.blk.frozen x.toNat
    have hn : x.toNat < (m + 1).toNat := by omega
    obtain ⟨W1, hW1⟩ : ∃ W1, W1 = w.setCell ⟨o, x.toNat, none⟩ (.bool false) := ⟨_, rfl⟩
    have hl1 := List.length_erase_of_mem hmem
    have hl2 := List.length_pos_of_mem hmem
    have hw : IntKind.i64.wrap ((ks.length : Int) - 1) = ((ks.erase x).length : Int) := by
      rw [IntWalk.i64_in _ (by omega)]
      omega
    have hb1 : BitsW W1 o m (ks.erase x) (cs.setIfInBounds x.toNat (.bool false)) := by
      rw [hW1]
      exact hb.put (by omega) h2 false (decide_eq_false fun e => ((mem_erase_nd hk.nd x x).1 e).1 rfl) fun y hy => by simp [mem_erase_nd hk.nd, hy]
    have hg1 : Blk W1 g 87 #[.int .i64 m, .int .i64 last, .slice (some ⟨o, 0, none⟩) (m + 1).toNat (m + 1).toNat, .int .i64 ks.length] := by
      rw [hW1]
      exact h.blk.far h.ne _
    have hf1 : Fr (fun i => i = g ∨ i = o) w W1 := by
      rw [hW1]
      exact (Fr.refl _ _).setCell (p := ⟨o, x.toNat, none⟩) (.inr (.inr rfl)) _
    have d3 := hg1.cell 3
    have e3 := hg1.frozen 3
    have HX := Lib.hid hmem
    have HL := Lib.hid hlen
    have hW1' := hW1.symm
    clear hx hmem hl1 hl2 hlen hW1
    go_enter Try.func39, Try.ntmps39
    go_wp2_with fail
    refine hT.out.mono ?_
    rintro e W ⟨rfl, rfl⟩
    go_wp2_with fail
    go_ret
    refine ⟨by rw [if_pos HX.out]; rfl, ⟨hg1.set_ 3 _, ⟨_, hb1.blk.far (p := ⟨g, 3, none⟩) (fun e => h.ne e.symm) _, hb1.at_⟩, h.ne⟩, hf1.setCell (p := ⟨g, 3, none⟩) (.inr (.inl rfl)) _⟩
def RTakePost (w : World) (g o : Nat) (m last : Int) (ks : List Int) (e : Ending) (w' : World) : Prop :=
  ((ks.length : Int) = m ∧ e = .returned (.tuple #[.int .i64 0, .int .i64 180]) ∧ Fr0 w w') ∨
  ((ks.length : Int) < m ∧ ∃ k, first m ks (2 * m.toNat) last = some k ∧ e = .returned (.tuple #[.int .i64 k, .int .i64 0]) ∧ RefW w' g o m k (ks ++ [k]) ∧ Fr (fun i => i = g ∨ i = o) w w')
set_option maxHeartbeats 1600000 in
theorem rtake_any {w : World} {g o : Nat} {m last : Int} {ks : List Int} (h : RefW w g o m last ks) (ho : NumOk m last ks) :
    Calls Try.prog 66 #[.pointer (some ⟨g, 0, none⟩)] w (RTakePost w g o m last ks) := by
  have c0 := h.blk.cell 0
  have c1 := h.blk.cell 1
  have c2 := h.blk.cell 2
  have c3 := h.blk.cell 3
  have HO := Lib.hid ho
  clear ho
  by_cases hk : (ks.length : Int) = m
  · have hk' : ((ks.length : Int) == m) = true := by simp [hk]
    have HK := Lib.hid hk
    clear hk
    go_enter Try.func66, Try.ntmps66
    go_wp2_with fail
    go_region_law (fail)
    all_goals
      go_wp2_with fail
      exact bodyPost_ret (v := .tuple #[.int .i64 0, .int .i64 180]) (by simp [results, Try.results66, go_sem]) rfl (.inl ⟨HK.out, rfl, (Fr.refl _ _).drew⟩)
  · have ho := HO.out
    have hlt : (ks.length : Int) < m := by have := ho.le; omega
    have hk' : ((ks.length : Int) == m) = false := by simp [hk]
    obtain ⟨k, hf⟩ := first_some ho.m1 hlt ho.l0 ho.l1
    obtain ⟨hk1, hk2, hk3⟩ := first_spec ho.m1 ho.l0 hf
    have HF := Lib.hid hf
    have HK := Lib.hid hlt
    clear ho hk hf hlt
    go_enter Try.func66, Try.ntmps66
    go_wp2_with fail
    go_region_law (fail)
    all_goals
      go_simp
      go_wp2_with fail
      go_loop [4] (fun i => ∃ c : Int, i = .int .i64 c ∧ 0 ≤ c ∧ c ≤ m ∧ (∃ f, f ≤ 2 * m.toNat ∧ first m ks f c = some k)) (fun i => dist m ks (2 * m.toNat) (intOf i))
      case atStart => exact ⟨last, rfl, HO.out.l0, HO.out.l1, _, Nat.le_refl _, HF.out⟩
      case round =>
        obtain ⟨c, rfl, hc0, hc1, f, hfM, hf⟩ := hrel
        obtain ⟨cs, hb⟩ := h.bits
        have hm2 := HO.out.m2
        by_cases hcm : c < m
        · obtain ⟨x, hx⟩ : ∃ x, x = c + 1 := ⟨_, rfl⟩
          have hw : IntKind.i64.wrap (c + 1) = x := by rw [hx]; exact IntWalk.i64_in _ (by omega)
          have NX := Lib.hid (show nxt m c = x by rw [hx, nxt, if_pos hcm])
          have hxx : 1 ≤ x ∧ x ≤ m := by omega
          clear hx hcm
          obtain ⟨hx1, hx2⟩ := hxx
          have cb := hb.cell (k := x) (by omega) hx2
          have fb := hb.blk.frozen x.toNat
          have hn : x.toNat < (m + 1).toNat := by omega
          cases hd : decide (x ∈ ks) with
          | true =>
            rw [hd] at cb
            have HD := Lib.hid hd
            have HI := Lib.hid hf
            clear hd hf
            go_wp2_with fail
            obtain ⟨f1, rfl⟩ : ∃ f1, f = f1 + 1 := by
              cases f with
              | zero => exact absurd HI.out (by simp [first])
              | succ f1 => exact ⟨f1, rfl⟩
            have hf := HI.out
            have hm := of_decide_eq_true HD.out
            have hf1 : first m ks f1 x = some k := by
              rw [first, NX.out, if_pos hm] at hf
              exact hf
            go_round
            case rel => exact ⟨x, rfl, by omega, by omega, f1, by omega, hf1⟩
            case measure =>
              simp only [intOf]
              rw [(first_more hf hfM).2, (first_more hf1 (by omega)).2, dist, NX.out, if_pos hm]
              omega
          | false =>
            rw [hd] at cb
            have hnk : x = k := by
              have h2 := hf
              have h3 := of_decide_eq_false hd
              cases f with
              | zero => simp [first] at h2
              | succ f1 =>
                rw [first, NX.out, if_neg h3] at h2
                exact Option.some.inj h2
            have hxn := of_decide_eq_false hd
            obtain ⟨W1, hW1⟩ : ∃ W1, W1 = w.setCell ⟨o, x.toNat, none⟩ (.bool true) := ⟨_, rfl⟩
            have hb1 : BitsW W1 o m (ks ++ [x]) (cs.setIfInBounds x.toNat (.bool true)) := by
              rw [hW1]
              exact hb.put (by omega) hx2 true (by simp) fun y hy => by simp [hy]
            have hg1 : Blk W1 g 87 #[.int .i64 m, .int .i64 last, .slice (some ⟨o, 0, none⟩) (m + 1).toNat (m + 1).toNat, .int .i64 ks.length] := by
              rw [hW1]
              exact h.blk.far h.ne _
            have hf1 : Fr (fun i => i = g ∨ i = o) w W1 := by
              rw [hW1]
              exact (Fr.refl _ _).setCell (p := ⟨o, x.toNat, none⟩) (.inr (.inr rfl)) _
            have d3 := hg1.cell 3
            have e3 := hg1.frozen 3
            obtain ⟨q, hq⟩ : ∃ q : Int, q = ((ks ++ [x]).length : Int) := ⟨_, rfl⟩
            have hw2 : IntKind.i64.wrap ((ks.length : Int) + 1) = q := by
              have := HK.out
              have := HO.out.m2
              rw [hq, IntWalk.i64_in _ (by omega)]
              simp
            obtain ⟨W2, hW2⟩ : ∃ W2, W2 = W1.setCell ⟨g, 3, none⟩ (.int .i64 q) := ⟨_, rfl⟩
            have hg2 := hg1.set_ 3 (.int .i64 q)
            have hb2 : BitsW W2 o m (ks ++ [x]) (cs.setIfInBounds x.toNat (.bool true)) := by
              rw [hW2]
              exact ⟨hb1.blk.far (p := ⟨g, 3, none⟩) (fun e => h.ne e.symm) _, hb1.at_⟩
            have hf2 : Fr (fun i => i = g ∨ i = o) w W2 := by
              rw [hW2]
              exact hf1.setCell (p := ⟨g, 3, none⟩) (.inr (.inl rfl)) _
            rw [← hW2] at hg2
            have d1 := hg2.cell 1
            have e1 := hg2.frozen 1
            have hfin : RTakePost w g o m last ks (.returned (.tuple #[.int .i64 x, .int .i64 0])) (W2.setCell ⟨g, 1, none⟩ (.int .i64 x)).drew := by
              refine .inr ⟨HK.out, k, HF.out, by rw [hnk], ?_, (hf2.setCell (p := ⟨g, 1, none⟩) (.inr (.inl rfl)) _).drew⟩
              rw [← hnk]
              rw [hq] at hg2
              exact ⟨hg2.set_ 1 _, ⟨_, hb2.blk.far (p := ⟨g, 1, none⟩) (fun e => h.ne e.symm) _, hb2.at_⟩, h.ne⟩
            have HFIN := Lib.hid hfin
            have hW1' := hW1.symm
            have hW2' := hW2.symm
            have HD := Lib.hid hd
            have HQ := Lib.hid hq
            clear hfin hnk hW1 hW2 hd hf hq
            go_wp2_with fail
            exact bodyPost_ret (v := .tuple #[.int .i64 x, .int .i64 0]) (by simp [results, Try.results66, go_sem]) rfl HFIN.out
        · have hc : c = m := by omega
          obtain ⟨y, hy⟩ : ∃ y, y = c + 1 := ⟨_, rfl⟩
          have hw : IntKind.i64.wrap (c + 1) = y := by rw [hy]; exact IntWalk.i64_in _ (by omega)
          have NX := Lib.hid (show nxt m c = 1 by rw [nxt, if_neg hcm])
          have hxx : (1 : Int) ≤ 1 ∧ 1 ≤ m := by omega
          have hy2 : m < y := by omega
          clear hy hcm hc
          obtain ⟨hx1, hx2⟩ := hxx
          have cb : w.cell? ⟨o, 1, none⟩ = some (.bool (decide ((1 : Int) ∈ ks))) := hb.cell (k := 1) (by omega) hx2
          have fb := hb.blk.frozen 1
          have hn : 1 < (m + 1).toNat := by omega
          cases hd : decide ((1 : Int) ∈ ks) with
          | true =>
            rw [hd] at cb
            have HD := Lib.hid hd
            have HI := Lib.hid hf
            clear hd hf
            go_wp2_with fail
            obtain ⟨f1, rfl⟩ : ∃ f1, f = f1 + 1 := by
              cases f with
              | zero => exact absurd HI.out (by simp [first])
              | succ f1 => exact ⟨f1, rfl⟩
            have hf := HI.out
            have hm := of_decide_eq_true HD.out
            have hf1 : first m ks f1 1 = some k := by
              rw [first, NX.out, if_pos hm] at hf
              exact hf
            go_round
            case rel => exact ⟨1, rfl, by omega, by omega, f1, by omega, hf1⟩
            case measure =>
              simp only [intOf]
              rw [(first_more hf hfM).2, (first_more hf1 (by omega)).2, dist, NX.out, if_pos hm]
              omega
          | false =>
            rw [hd] at cb
            have hnk : 1 = k := by
              have h2 := hf
              have h3 := of_decide_eq_false hd
              cases f with
              | zero => simp [first] at h2
              | succ f1 =>
                rw [first, NX.out, if_neg h3] at h2
                exact Option.some.inj h2
            have hxn := of_decide_eq_false hd
            obtain ⟨W1, hW1⟩ : ∃ W1, W1 = w.setCell ⟨o, 1, none⟩ (.bool true) := ⟨_, rfl⟩
            have hb1 : BitsW W1 o m (ks ++ [1]) (cs.setIfInBounds 1 (.bool true)) := by
              rw [hW1]
              exact hb.put (k := 1) (by omega) hx2 true (by simp) fun y hy => by simp [hy]
            have hg1 : Blk W1 g 87 #[.int .i64 m, .int .i64 last, .slice (some ⟨o, 0, none⟩) (m + 1).toNat (m + 1).toNat, .int .i64 ks.length] := by
              rw [hW1]
              exact h.blk.far h.ne _
            have hf1 : Fr (fun i => i = g ∨ i = o) w W1 := by
              rw [hW1]
              exact (Fr.refl _ _).setCell (p := ⟨o, 1, none⟩) (.inr (.inr rfl)) _
            have d3 := hg1.cell 3
            have e3 := hg1.frozen 3
            obtain ⟨q, hq⟩ : ∃ q : Int, q = ((ks ++ [(1 : Int)]).length : Int) := ⟨_, rfl⟩
            have hw2 : IntKind.i64.wrap ((ks.length : Int) + 1) = q := by
              have := HK.out
              have := HO.out.m2
              rw [hq, IntWalk.i64_in _ (by omega)]
              simp
            obtain ⟨W2, hW2⟩ : ∃ W2, W2 = W1.setCell ⟨g, 3, none⟩ (.int .i64 q) := ⟨_, rfl⟩
            have hg2 := hg1.set_ 3 (.int .i64 q)
            have hb2 : BitsW W2 o m (ks ++ [1]) (cs.setIfInBounds 1 (.bool true)) := by
              rw [hW2]
              exact ⟨hb1.blk.far (p := ⟨g, 3, none⟩) (fun e => h.ne e.symm) _, hb1.at_⟩
            have hf2 : Fr (fun i => i = g ∨ i = o) w W2 := by
              rw [hW2]
              exact hf1.setCell (p := ⟨g, 3, none⟩) (.inr (.inl rfl)) _
            rw [← hW2] at hg2
            have d1 := hg2.cell 1
            have e1 := hg2.frozen 1
            have hfin : RTakePost w g o m last ks (.returned (.tuple #[.int .i64 1, .int .i64 0])) (W2.setCell ⟨g, 1, none⟩ (.int .i64 1)).drew := by
              refine .inr ⟨HK.out, k, HF.out, by rw [hnk], ?_, (hf2.setCell (p := ⟨g, 1, none⟩) (.inr (.inl rfl)) _).drew⟩
              rw [← hnk]
              rw [hq] at hg2
              exact ⟨hg2.set_ 1 _, ⟨_, hb2.blk.far (p := ⟨g, 1, none⟩) (fun e => h.ne e.symm) _, hb2.at_⟩, h.ne⟩
            have HFIN := Lib.hid hfin
            have hW1' := hW1.symm
            have hW2' := hW2.symm
            have HD := Lib.hid hd
            have HQ := Lib.hid hq
            clear hfin hnk hW1 hW2 hd hf hq
            go_wp2_with fail
            exact bodyPost_ret (v := .tuple #[.int .i64 1, .int .i64 0]) (by simp [results, Try.results66, go_sem]) rfl HFIN.out
end Go.Proofs.Ytaeneoenihonkaa
