/- StanDealt returns true: proved by a walk over the contracts. -/
import Derived.Test.YtaeneoenihonkaaKnown
import Derived.Test.YtaeneoenihonkaaRefT
namespace Go.Proofs.Ytaeneoenihonkaa
open Go.RowKit

/-- Where StanDealt stands between two rounds. -/
def DealtRel (w : World) (g b o : Nat) (m : Int) (xs : List Int) (l n i : Value) (wr : World) : Prop :=
  ∃ (last : Int) (ks : List Int) (k : Nat) (cs : Array Value), l = .int .i64 last ∧ n = .int .i64 ks.length ∧ i = .int .i64 k ∧ k ≤ xs.length ∧ k ≤ 400 ∧
    NumW wr g b m last ks ∧ NumOk m last ks ∧ KsOk m ks ∧ BitsW wr o m ks cs ∧ Fr (fun j => w.heap.size ≤ j) w wr
theorem first_step {m : Int} {ks : List Int} {f : Nat} {c K : Int} (h : first m ks f c = some K) : (nxt m c = K) ∨ (nxt m c ∈ ks ∧ ∃ f', f = f' + 1 ∧ first m ks f' (nxt m c) = some K) := by
  cases f with
  | zero => simp [first] at h
  | succ f =>
    rw [first] at h
    split at h
    · exact .inr ⟨by assumption, f, rfl, h⟩
    · exact .inl (Option.some.inj h)
/-- Where the inner loop stands: at the number that was dealt, or at one ahead of it that is out. -/
def InnerRel (m K : Int) (ks : List Int) (i : Value) : Prop := ∃ j : Int, i = .int .i64 j ∧ 1 ≤ j ∧ j ≤ m ∧ (j = K ∨ (j ∈ ks ∧ ∃ f, f ≤ 2 * m.toNat ∧ first m ks f j = some K))
theorem inner_next {m K : Int} {ks : List Int} (hm : 1 ≤ m) {c : Int} (h0 : 0 ≤ c) {f : Nat} (hf : f ≤ 2 * m.toNat) (h : first m ks f c = some K) : InnerRel m K ks (.int .i64 (nxt m c)) := by
  have hn := nxt_mem hm h0
  refine ⟨nxt m c, rfl, hn.1, hn.2, ?_⟩
  rcases first_step h with h1 | ⟨h1, f', h2, h3⟩
  · exact .inl h1
  · exact .inr ⟨h1, f', by omega, h3⟩
set_option maxRecDepth 100000 in
set_option maxHeartbeats 1600000 in
theorem dealt_any {most : Int} (hm1 : -9223372036854775808 ≤ most) (hm2 : most ≤ 9223372036854775807) {w : World} {v : Value} {xs : List Int} (hr : RdI w (fun i => i < w.heap.size) v xs) (hx : ∀ x ∈ xs, -9223372036854775808 ≤ x ∧ x ≤ 9223372036854775807) (hn : xs.length ≤ 9223372036854775807) :
    Calls Try.prog 4 #[.int .i64 most, v] w fun e w' => e = .returned (.bool true) ∧ Fr0 w w' := by
  obtain ⟨A, c, rfl, hlc, hcase⟩ := hr
  have HC := Lib.hid hcase
  have HX := Lib.hid hx
  clear hcase hx
  go_enter Try.func4, Try.ntmps4
  go_wp2_with fail
  refine (known_any w).mono ?_
  rintro e W0 ⟨rfl, hf0⟩
  go_wp2_with fail
  refine (pick_any hm1 hm2 (by omega) (by omega) W0).mono ?_
  rintro e W0' ⟨rfl, rfl⟩
  have hp := pickF_in (c := most) (n := 40) (by omega)
  obtain ⟨m, hm⟩ : ∃ m, m = 1 + pickF most 40 := ⟨_, rfl⟩
  have hmm : 1 ≤ m ∧ m ≤ 40 := by omega
  have hw1 : IntKind.i64.wrap (1 + pickF most 40) = m := by rw [hm]; exact IntWalk.i64_in _ (by omega)
  have hw2 : IntKind.i64.wrap (pickF most 40 + 1) = m := by rw [show pickF most 40 + 1 = 1 + pickF most 40 by omega]; exact hw1
  clear hp hm
  go_wp2_with fail
  refine (new_any m W0).mono ?_
  intro e W1 hp
  rw [NewPost, if_pos (by omega)] at hp
  obtain ⟨g, b, rfl, hN0, hg, hb, hf1⟩ := hp
  obtain ⟨C, hC⟩ : ∃ C, C = Array.replicate (m + 1).toNat (Value.bool false) := ⟨_, rfl⟩
  obtain ⟨N, hN⟩ : ∃ N, N = (m + 1).toNat := ⟨_, rfl⟩
  obtain ⟨m1, hm1'⟩ : ∃ m1, m1 = m + 1 := ⟨_, rfl⟩
  have hw3 : IntKind.i64.wrap (m + 1) = m1 := by rw [hm1']; exact IntWalk.i64_in _ (by omega)
  rw [← hm1'] at hC hN
  have b0 : 0 ≤ m1 ∧ m1 ≤ 17592186044416 := by omega
  have HCC := Lib.hid hC
  have HN := Lib.hid hN
  have HM1 := Lib.hid hm1'
  clear hC hN hm1'
  go_wp2_with (at_make; refine wpList_make1 rfl _ _ rfl undB infoB rfl b0.1 b0.2 (by omega) HN.out HCC.out rfl rfl ?_)
  have hs0 := hf0.size
  have hs1 := hf1.size
  have hbl := hN0.map.lt
  have hgl := hN0.blk.lt
  have hnb : Blk (W1.alloc (.cells C 4)) W1.heap.size 4 C := Blk.new _ _ _
  have hf2 : Fr0 W1 (W1.alloc (.cells C 4)) := (Fr.refl _ _).alloc _
  obtain ⟨W2, hW2⟩ : ∃ W2, W2 = W1.alloc (.cells C 4) := ⟨_, rfl⟩
  obtain ⟨o, ho⟩ : ∃ o, o = W1.heap.size := ⟨_, rfl⟩
  rw [← hW2, ← ho] at hnb ⊢
  rw [← hW2] at hf2
  have hgo : g ≠ o := by omega
  have hbo : b ≠ o := by omega
  have hgw : w.heap.size ≤ g := by omega
  have hbw : w.heap.size ≤ b := by omega
  have how : w.heap.size ≤ o := by omega
  have hgb := hN0.ne
  have F2 : Fr (fun j => w.heap.size ≤ j) w W2 := (((hf0.trans hf1).trans hf2).mono fun _ _ e => e.elim)
  have hNN : (N : Int) = m + 1 := by have := HN.out; have := HM1.out; omega
  have START : DealtRel w g b o m xs (.int .i64 0) (.int .i64 0) (.int .i64 0) W2 := by
    refine ⟨0, [], 0, C, rfl, rfl, rfl, by omega, by omega, hN0.fr0 hf2, ⟨hmm.1, by omega, by omega, by omega, by simp; omega⟩, KsOk.nil m, ⟨hnb, fun j hj => ?_⟩, F2⟩
    rw [HCC.out, Array.getElem?_eq_getElem (by have := HM1.out; simp; omega)]
    simp
  have ST := Lib.hid START
  clear START F2 hnb hf2 hW2 ho hf0 hf1 hN0 hs0 hs1 hbl hgl hg hb b0 hw1 hw2 hw3
  go_loopw [10, 11, 12] (fun l n i wr => DealtRel w g b o m xs l n i wr) (fun _ _ i _ => xs.length - (intOf i).toNat)
  case atStart => exact ST.out
  case round =>
    obtain ⟨last, ks, k, cs, rfl, rfl, rfl, hk, hk4, hN, hO, hK, hB, hF⟩ := hrel
    by_cases hend : k < xs.length ∧ k < 400
    · obtain ⟨h1, h2⟩ := hend
      obtain ⟨bx, ox, rfl, hbx, hcx⟩ : ∃ b o, A = some ⟨b, o, none⟩ ∧ b < w.heap.size ∧ ∀ j x, xs[j]? = some x → w.cell? ⟨b, o + j, none⟩ = some (.int .i64 x) := by
        rcases HC.out with h | h
        · rw [h] at h1; simp at h1
        · exact h
      obtain ⟨x, hxk⟩ : ∃ x, xs[k]? = some x := ⟨_, List.getElem?_eq_getElem h1⟩
      have hxr := HX.out x (List.mem_of_getElem? hxk)
      have cx := hF.cell_some (hcx k x hxk) (by show ¬ w.heap.size ≤ bx; omega)
      have hwk : IntKind.i64.wrap ((k : Int) + 1) = (k : Int) + 1 := IntWalk.i64_in _ (by omega)
      have HHF := Lib.hid hF
      have HHO := Lib.hid hO
      have HHK := Lib.hid hK
      have HHB := Lib.hid hB
      have HHN := Lib.hid hN
      clear hcx hxk hF hO hK hB hN
      by_cases hev : x.tmod 2 = 0
      · have hev' : (x.tmod 2 == 0) = true := by simp [hev]
        have hq1 : -9223372036854775808 ≤ x.tdiv 2 ∧ x.tdiv 2 ≤ 9223372036854775807 := by
          have h3 := Int.tdiv_mul_add_tmod x 2
          omega
        have HEV := Lib.hid hev
        clear hev
        go_wp2_with fail
        refine (pick_any hq1.1 hq1.2 (by omega) (by omega) wr).mono ?_
        rintro e W3 ⟨rfl, rfl⟩
        have hp := pickF_in (c := x.tdiv 2) (n := m) (by omega)
        obtain ⟨K, hKK⟩ : ∃ K, K = 1 + pickF (x.tdiv 2) m := ⟨_, rfl⟩
        have hK12 : 1 ≤ K ∧ K ≤ m := by omega
        have hw1 : IntKind.i64.wrap (1 + pickF (x.tdiv 2) m) = K := by rw [hKK]; exact IntWalk.i64_in _ (by omega)
        have hw2 : IntKind.i64.wrap (pickF (x.tdiv 2) m + 1) = K := by rw [show pickF (x.tdiv 2) m + 1 = 1 + pickF (x.tdiv 2) m by omega]; exact hw1
        have hwm : IntKind.i64.wrap ((ks.length : Int) - 1) = (ks.length : Int) - 1 := IntWalk.i64_in _ (by have := HHO.out.le; omega)
        clear hp hKK hq1
        have HT := taken_any HHN.out K
        have HFr := free_any HHN.out K
        have cb := HHB.out.cell (k := K) (by omega) hK12.2
        have hKN : K.toNat < N := by omega
        cases hd : decide (K ∈ ks) with
        | true =>
          have hmem := of_decide_eq_true hd
          rw [hd] at HT cb
          have HT := Lib.hid HT
          have HFr := Lib.hid HFr
          have HM := Lib.hid hmem
          clear hd hmem
          go_wp2_with fail
          refine HT.out.mono ?_
          rintro e W4 ⟨rfl, rfl⟩
          go_wp2_with fail
          refine HFr.out.mono ?_
          rintro e W4 ⟨he, hN4, hf4⟩
          rw [if_pos HM.out] at he
          subst he
          have hB4 : BitsW W4 o m ks cs := ⟨HHB.out.blk.fr hf4 (fun e => hbo e.symm), HHB.out.at_⟩
          have cb4 := hB4.cell (k := K) (by omega) hK12.2
          rw [decide_eq_true HM.out] at cb4
          have fb4 := hB4.blk.frozen K.toNat
          have hB5 := hB4.put (k := K) (ks' := ks.erase K) (by omega) hK12.2 false (decide_eq_false fun e => ((mem_erase_nd HHK.out.nd K K).1 e).1 rfl) fun y hy => by simp [mem_erase_nd HHK.out.nd, hy]
          have hF5 : Fr (fun j => w.heap.size ≤ j) w (W4.setCell ⟨o, K.toNat, none⟩ (.bool false)) := (HHF.out.trans (hf4.old _ fun i e => by omega)).setCell (p := ⟨o, K.toNat, none⟩) (.inl how) _
          have hl1 := List.length_erase_of_mem HM.out
          have hl2 := List.length_pos_of_mem HM.out
          have REL : DealtRel w g b o m xs (.int .i64 last) (.int .i64 ((ks.length : Int) - 1)) (.int .i64 ((k : Int) + 1)) (W4.setCell ⟨o, K.toNat, none⟩ (.bool false)) := by
            have hO := HHO.out
            refine ⟨last, ks.erase K, k + 1, _, rfl, by congr 1; omega, rfl, by omega, by omega, ⟨hN4.blk.far (p := ⟨o, K.toNat, none⟩) hgo _, hN4.map.fr ((Fr.refl (fun i => i = o) W4).setCell (p := ⟨o, K.toNat, none⟩) (.inr rfl) _) hbo⟩,
              ⟨hO.m1, hO.m2, hO.l0, hO.l1, by have := hO.le; omega⟩, HHK.out.erase K, hB5, hF5⟩
          have RELH := Lib.hid REL
          clear REL hB4 hB5 hF5 hl1 hl2 hN4 hf4
          go_wp2_with fail
          go_roundw
          case rel => exact RELH.out
          case measure => simp [intOf]; omega
        | false =>
          have hmem := of_decide_eq_false hd
          rw [hd] at HT cb
          have HT := Lib.hid HT
          have HFr := Lib.hid HFr
          have HM := Lib.hid hmem
          clear hd hmem
          go_wp2_with fail
          refine HT.out.mono ?_
          rintro e W4 ⟨rfl, rfl⟩
          go_wp2_with fail
          refine HFr.out.mono ?_
          rintro e W4 ⟨he, hN4, hf4⟩
          rw [if_neg HM.out] at he
          subst he
          have hB4 : BitsW W4 o m ks cs := ⟨HHB.out.blk.fr hf4 (fun e => hbo e.symm), HHB.out.at_⟩
          have cb4 := hB4.cell (k := K) (by omega) hK12.2
          rw [decide_eq_false HM.out] at cb4
          have fb4 := hB4.blk.frozen K.toNat
          have hB5 := hB4.put (k := K) (ks' := ks.erase K) (by omega) hK12.2 false (decide_eq_false fun e => ((mem_erase_nd HHK.out.nd K K).1 e).1 rfl) fun y hy => by simp [mem_erase_nd HHK.out.nd, hy]
          have hF5 : Fr (fun j => w.heap.size ≤ j) w (W4.setCell ⟨o, K.toNat, none⟩ (.bool false)) := (HHF.out.trans (hf4.old _ fun i e => by omega)).setCell (p := ⟨o, K.toNat, none⟩) (.inl how) _
          have REL : DealtRel w g b o m xs (.int .i64 last) (.int .i64 (ks.length : Int)) (.int .i64 ((k : Int) + 1)) (W4.setCell ⟨o, K.toNat, none⟩ (.bool false)) := by
            have hO := HHO.out
            have he := List.erase_of_not_mem HM.out
            refine ⟨last, ks.erase K, k + 1, _, rfl, by rw [he], rfl, by omega, by omega, ⟨hN4.blk.far (p := ⟨o, K.toNat, none⟩) hgo _, hN4.map.fr ((Fr.refl (fun i => i = o) W4).setCell (p := ⟨o, K.toNat, none⟩) (.inr rfl) _) hbo⟩,
              ⟨hO.m1, hO.m2, hO.l0, hO.l1, by rw [he]; exact hO.le⟩, HHK.out.erase K, hB5, hF5⟩
          have RELH := Lib.hid REL
          clear REL hB4 hB5 hF5 hN4 hf4
          go_wp2_with fail
          go_roundw
          case rel => exact RELH.out
          case measure => simp [intOf]; omega
      · have hev' : (x.tmod 2 == 0) = false := by simp [hev]
        have HEV := Lib.hid hev
        clear hev
        go_wp2_with fail
        refine (take_any HHN.out HHO.out).mono ?_
        rintro e W4 (⟨hl, rfl, hf4⟩ | ⟨hl, K, hfst, rfl, hN4, hf4⟩)
        · have REL : DealtRel w g b o m xs (.int .i64 last) (.int .i64 (ks.length : Int)) (.int .i64 ((k : Int) + 1)) W4 :=
            ⟨last, ks, k + 1, cs, rfl, rfl, rfl, by omega, by omega, HHN.out.fr0 hf4, HHO.out, HHK.out, ⟨HHB.out.blk.fr0 hf4, HHB.out.at_⟩, HHF.out.trans0 hf4⟩
          rw [hl] at REL ⊢
          have RELH := Lib.hid REL
          clear REL hf4 hl
          go_wp2_with fail
          go_roundw
          case rel => exact RELH.out
          case measure => simp [intOf]; omega
        · obtain ⟨hk1, hk2, hk3⟩ := first_spec HHO.out.m1 HHO.out.l0 hfst
          have hB4 : BitsW W4 o m ks cs := ⟨HHB.out.blk.fr hf4 (fun e => by rcases e with e | e; exact hgo e.symm; exact hbo e.symm), HHB.out.at_⟩
          have cb4 := hB4.cell (k := K) (by omega) hk3
          have fb4 := hB4.blk.frozen K.toNat
          rw [decide_eq_false hk1] at cb4
          have hKN : K.toNat < N := by omega
          have hm0 : ¬ m = 0 := by omega
          have hwl : IntKind.i64.wrap (last.tmod m + 1) = nxt m last := by
            rw [nxt_rem HHO.out.m1 HHO.out.l0 HHO.out.l1]
            have := nxt_mem HHO.out.m1 HHO.out.l0
            exact IntWalk.i64_in _ (by omega)
          have hwm : IntKind.i64.wrap ((ks.length : Int) + 1) = (ks.length : Int) + 1 := IntWalk.i64_in _ (by omega)
          have HB4 := Lib.hid hB4
          have HFST := Lib.hid hfst
          have HK1 := Lib.hid hk1
          have HN4 := Lib.hid hN4
          have HF4 := Lib.hid hf4
          clear hB4 hfst hk1 hN4 hf4
          go_wp2_with fail
          go_loop [18] (fun i => InnerRel m K ks i) (fun i => if intOf i = K then 0 else dist m ks (2 * m.toNat + 1) (intOf i) + 1)
          case atStart => exact inner_next HHO.out.m1 HHO.out.l0 (Nat.le_refl _) HFST.out
          case round =>
            obtain ⟨j, rfl, hj1, hj2, hj⟩ := hrel
            by_cases hjK : j = K
            · subst hjK
              have hB5 := HB4.out.put (k := j) (ks' := ks ++ [j]) (by omega) hk3 true (by simp) fun y hy => by simp [hy]
              have hfo : Fr (fun i => i = o) W4 (W4.setCell ⟨o, j.toNat, none⟩ (.bool true)) := (Fr.refl (fun i => i = o) W4).setCell (p := ⟨o, j.toNat, none⟩) (.inr rfl) _
              have hN5 : NumW (W4.setCell ⟨o, j.toNat, none⟩ (.bool true)) g b m j (ks ++ [j]) := HN4.out.fr hfo hgo hbo
              have hF5 : Fr (fun j => w.heap.size ≤ j) w (W4.setCell ⟨o, j.toNat, none⟩ (.bool true)) := (HHF.out.trans (HF4.out.old _ fun i e => by omega)).setCell (p := ⟨o, j.toNat, none⟩) (.inl how) _
              have PL := Lib.hid (plen_any hN5)
              have REL : DealtRel w g b o m xs (.int .i64 j) (.int .i64 ((ks.length : Int) + 1)) (.int .i64 ((k : Int) + 1)) (W4.setCell ⟨o, j.toNat, none⟩ (.bool true)) := by
                have hO := HHO.out
                exact ⟨j, ks ++ [j], k + 1, _, rfl, by simp, rfl, by omega, by omega, hN5, ⟨hO.m1, hO.m2, by omega, hk3, by simp; omega⟩, HHK.out.add HK1.out hk2 hk3, hB5, hF5⟩
              have RELH := Lib.hid REL
              clear REL hB5 hfo hN5 hF5 hj
              go_wp2_with fail
              refine PL.out.mono ?_
              rintro e W5 ⟨rfl, rfl⟩
              rw [show (((ks ++ [j]).length : Nat) : Int) = (ks.length : Int) + 1 by simp]
              go_wp2_with fail
              go_roundw
              case rel => exact RELH.out
              case measure => simp [intOf]; omega
            · have hj' : j ∈ ks ∧ ∃ f, f ≤ 2 * m.toNat ∧ first m ks f j = some K := by
                rcases hj with h | h
                · exact absurd h hjK
                · exact h
              obtain ⟨hjm, f, hfm, hff⟩ := hj'
              have cj := HB4.out.cell (k := j) (by omega) hj2
              rw [decide_eq_true hjm] at cj
              have hjN : j.toNat < N := by omega
              have hjw : IntKind.i64.wrap (j.tmod m + 1) = nxt m j := by
                rw [nxt_rem HHO.out.m1 (by omega) hj2]
                have := nxt_mem (c := j) HHO.out.m1 (by omega)
                exact IntWalk.i64_in _ (by omega)
              have hjK' : (j == K) = false := by simp [hjK]
              have NXT := Lib.hid (inner_next HHO.out.m1 (by omega) hfm hff)
              have MEAS : (if nxt m j = K then 0 else dist m ks (2 * m.toNat + 1) (nxt m j) + 1) < (if j = K then 0 else dist m ks (2 * m.toNat + 1) j + 1) := by
                rw [if_neg hjK]
                rcases first_step hff with h1 | ⟨h1, f', h2, h3⟩
                · rw [if_pos h1]; omega
                · split
                  · omega
                  · rw [(first_more h3 (M := 2 * m.toNat + 1) (by omega)).2, (first_more hff (M := 2 * m.toNat + 1) (by omega)).2, h2, dist, if_pos h1]
                    omega
              have ME := Lib.hid MEAS
              have hjw2 : IntKind.i64.wrap (j % m + 1) = nxt m j := by
                rw [← hjw, Int.tmod_eq_emod_of_nonneg (by omega)]
              clear MEAS hff hjm hj hjK
              go_wp2_with fail
              exact ⟨NXT.out, ME.out⟩
    · have hend' : ¬ (k < xs.length) ∨ ¬ (k < 400) := by omega
      have hF0 : Fr0 w wr := hF.mono fun i hi e => by omega
      rcases hend' with h1 | h1
      · go_wp2_with fail
        go_ret
        exact ⟨rfl, hF0⟩
      · by_cases h2 : k < xs.length
        · go_wp2_with fail
          go_ret
          exact ⟨rfl, hF0⟩
        · go_wp2_with fail
          go_ret
          exact ⟨rfl, hF0⟩
end Go.Proofs.Ytaeneoenihonkaa
