/- The calls of StanPlays on two rows of numbers beside one another: deal, numbered: contracts, proved by walks. -/
import Derived.Test.YtaeneoenihonkaaKnown
import Derived.Test.YtaeneoenihonkaaRefT
namespace Go.Proofs.Ytaeneoenihonkaa
open Go.RowKit

/-- The code's numbers and the document's, alike. -/
structure PairW (w : World) (g b h o : Nat) (m last : Int) (ks : List Int) : Prop where
  num : NumW w g b m last ks
  ref : RefW w h o m last ks
  ok : NumOk m last ks
  kok : KsOk m ks
  gh : g ≠ h
  go : g ≠ o
  bh : b ≠ h
  bo : b ≠ o
theorem PairW.fr {w w' : World} {G : Nat → Prop} {g b h o : Nat} {m last : Int} {ks : List Int} (p : PairW w g b h o m last ks) (hf : Fr G w w') (h1 : ¬ G g) (h2 : ¬ G b) (h3 : ¬ G h) (h4 : ¬ G o) : PairW w' g b h o m last ks :=
  ⟨p.num.fr hf h1 h2, p.ref.fr hf h3 h4, p.ok, p.kok, p.gh, p.go, p.bh, p.bo⟩
theorem PairW.fr0 {w w' : World} {g b h o : Nat} {m last : Int} {ks : List Int} (p : PairW w g b h o m last ks) (hf : Fr0 w w') : PairW w' g b h o m last ks := p.fr hf id id id id
def Of4 (g b h o : Nat) : Nat → Prop := fun i => i = g ∨ i = b ∨ i = h ∨ i = o
def DealPost (w : World) (g b h o : Nat) (m : Int) (e : Ending) (w' : World) : Prop := e = .returned (.bool true) ∧ (∃ last ks, PairW w' g b h o m last ks) ∧ Fr (Of4 g b h o) w w'
theorem deal_any {w : World} {g b h o : Nat} {m last : Int} {ks : List Int} (p : PairW w g b h o m last ks) : Calls Try.prog 38 #[.pointer (some ⟨g, 0, none⟩), .pointer (some ⟨h, 0, none⟩)] w (DealPost w g b h o m) := by
  go_enter Try.func38, Try.ntmps38
  go_wp2_with fail
  refine (take_any p.num p.ok).mono ?_
  rintro e W1 (⟨hl, rfl, hf1⟩ | ⟨hl, K, hfst, rfl, hN1, hf1⟩)
  · have hR1 := p.ref.fr0 hf1
    go_wp2_with fail
    refine (rtake_any hR1 p.ok).mono ?_
    rintro e W2 (⟨hl2, rfl, hf2⟩ | ⟨hl2, _⟩)
    · go_wp2_with fail
      go_ret
      exact ⟨rfl, ⟨last, ks, p.fr0 (hf1.trans hf2)⟩, (hf1.trans hf2).mono fun _ _ e => e.elim⟩
    · omega
  · have hR1 := p.ref.fr hf1 (by rintro (e | e); exact p.gh e.symm; exact p.bh e.symm) (by rintro (e | e); exact p.go e.symm; exact p.bo e.symm)
    go_wp2_with fail
    refine (rtake_any hR1 p.ok).mono ?_
    rintro e W2 (⟨hl2, _⟩ | ⟨hl2, K2, hfst2, rfl, hR2, hf2⟩)
    · omega
    · obtain rfl : K2 = K := Option.some.inj (hfst2.symm.trans hfst)
      obtain ⟨hk1, hk2, hk3⟩ := first_spec p.ok.m1 p.ok.l0 hfst
      go_wp2_with fail
      go_ret
      have hO := p.ok
      refine ⟨rfl, ⟨K2, ks ++ [K2], hN1.fr hf2 (by rintro (e | e); exact p.gh e; exact p.go e) (by rintro (e | e); exact p.bh e; exact p.bo e), hR2, ⟨hO.m1, hO.m2, by omega, hk3, by simp; omega⟩, p.kok.add hk1 hk2 hk3, p.gh, p.go, p.bh, p.bo⟩, ?_⟩
      exact (hf1.mono fun i _ e => by rcases e with e | e; exact .inl e; exact .inr (.inl e)).trans (hf2.mono fun i _ e => by rcases e with e | e; exact .inr (.inr (.inl e)); exact .inr (.inr (.inr e)))
/-- Free of the same number, by both. -/
theorem PairW.free {w w' w2 : World} {g b h o : Nat} {m last : Int} {ks : List Int} {x : Int} (p : PairW w g b h o m last ks) (hN : NumW w' g b m last (ks.erase x)) (hf1 : Fr (fun i => i = b) w w') (hR : RefW w2 h o m last (ks.erase x)) (hf2 : Fr (fun i => i = h ∨ i = o) w' w2) :
    PairW w2 g b h o m last (ks.erase x) ∧ Fr (Of4 g b h o) w w2 := by
  have hO := p.ok
  have hle := List.length_erase_le (a := x) (l := ks)
  refine ⟨⟨hN.fr hf2 (by rintro (e | e); exact p.gh e; exact p.go e) (by rintro (e | e); exact p.bh e; exact p.bo e), hR, ⟨hO.m1, hO.m2, hO.l0, hO.l1, by have := hO.le; omega⟩, p.kok.erase x, p.gh, p.go, p.bh, p.bo⟩, ?_⟩
  exact (hf1.mono fun i _ e => .inr (.inl e)).trans (hf2.mono fun i _ e => by rcases e with e | e; exact .inr (.inr (.inl e)); exact .inr (.inr (.inr e)))
set_option maxHeartbeats 6400000 in
theorem numbered_any {w : World} {g b h o : Nat} {m last : Int} {ks : List Int} (p : PairW w g b h o m last ks) (kind on number : Int) (hn1 : -9223372036854775808 ≤ number) (hn2 : number ≤ 9223372036854775807) (u1 u2 : Value) :
    Calls Try.prog 13 #[.pointer (some ⟨g, 0, none⟩), .pointer (some ⟨h, 0, none⟩), .agg #[.int .i64 kind, .int .i64 on, .int .i64 number, u1, u2]] w (DealPost w g b h o m) := by
  obtain ⟨W0, hW0⟩ : ∃ W0, W0 = w.alloc (.cells #[.int .i64 kind, .int .i64 on, .int .i64 number, u1, u2] 39) := ⟨_, rfl⟩
  have hf0 : Fr0 w W0 := by rw [hW0]; exact (Fr.refl _ w).alloc _
  have hbx : Blk W0 w.heap.size 39 #[.int .i64 kind, .int .i64 on, .int .i64 number, u1, u2] := by rw [hW0]; exact Blk.new w _ _
  have p0 := p.fr0 hf0
  have ltg := p.num.blk.lt
  have ltb := p.num.map.lt
  have lth := p.ref.blk.lt
  have lto : o < w.heap.size := by
    obtain ⟨cs, hb⟩ := p.ref.bits
    exact hb.blk.lt
  have fin : ∀ W2 last' ks', PairW W2 g b h o m last' ks' → Fr (Of4 g b h o) W0 W2 → DealPost w g b h o m (.returned (.bool true)) W2 := fun W2 l' k' hp hf =>
    ⟨rfl, ⟨l', k', hp⟩, (hf0.mono fun _ _ e => e.elim).trans hf⟩
  have c0 := hbx.cell 0
  have c2 := hbx.cell 2
  have hW0' := hW0.symm
  have FIN := Lib.hid fin
  clear fin hW0
  by_cases k1 : kind = 1
  · have k1' : (kind == 1) = true := by simp [k1]
    clear k1
    go_enter Try.func13, Try.ntmps13
    go_wp2_with fail
    refine (deal_any p0).mono ?_
    rintro e W1 ⟨rfl, ⟨l', k', hp⟩, hf⟩
    go_wp2_with fail
    go_ret
    exact FIN.out _ _ _ hp hf
  · have k1' : (kind == 1) = false := by simp [k1]
    clear k1
    by_cases k2 : kind = 2
    · have k2' : (kind == 2) = true := by simp [k2]
      clear k2
      have HF := Lib.hid (free_any (w := W0.drew) (g := g) ⟨p0.num.blk, p0.num.map⟩ number)
      go_enter Try.func13, Try.ntmps13
      go_wp2_with fail
      go_region_law (first | (go_simp; go_at_call 15; refine HF.out.mono ?_; rintro e w1 ⟨rfl, hN1, hf1⟩; have z2 := (hbx.drew.fr hf1 (by omega)).cell 2; have y1 := (p0.ref.blk.drew.fr hf1 (fun e => p.bh e.symm)).cell 1; have HR := Lib.hid (rfree_any ((p0.ref.fr0 (Fr.refl (fun _ => False) W0).drew).fr hf1 (fun e => p.bh e.symm) (fun e => p.bo e.symm)) p.kok p.ok.m2 p.ok.le number)) | (go_simp; go_at_call 39; refine HR.out.mono ?_; rintro e w2 ⟨rfl, hR2, hf2⟩))
      all_goals
        obtain ⟨hp, hf⟩ := (p0.fr0 (Fr.refl (fun _ => False) W0).drew).free hN1 hf1 hR2 hf2
        have HP := Lib.hid (FIN.out _ _ _ hp ((Fr.refl (Of4 g b h o) W0).drew.trans hf))
        go_simp
        go_wp2_with fail
        all_goals go_ret
        all_goals exact HP.out
    · have k2' : (kind == 2) = false := by simp [k2]
      clear k2
      by_cases k3 : kind = 3
      · have k3' : (kind == 3) = true := by simp [k3]
        clear k3
        have HT := Lib.hid (taken_any (w := W0.drew) (g := g) ⟨p0.num.blk, p0.num.map⟩ number)
        have HR := Lib.hid (rtaken_any (p0.ref.fr0 (Fr.refl (fun _ => False) W0).drew) p.kok p.ok.m2 number)
        go_enter Try.func13, Try.ntmps13
        go_wp2_with fail
        go_region_law (first | (go_simp; go_at_call 14; refine HT.out.mono ?_; rintro e w1 ⟨rfl, rfl⟩) | (go_simp; go_at_call 40; refine HR.out.mono ?_; rintro e w1 ⟨rfl, rfl⟩))
        all_goals
          have HP := Lib.hid (FIN.out W0.drew _ _ (p0.fr0 (Fr.refl (fun _ => False) W0).drew) (Fr.refl (Of4 g b h o) W0).drew)
          go_simp
          go_wp2_with fail
          all_goals go_ret
          all_goals exact HP.out
      · have k3' : (kind == 3) = false := by simp [k3]
        clear k3
        by_cases k4 : kind = 4
        · have k4' : (kind == 4) = true := by simp [k4]
          clear k4
          have HL := Lib.hid (plen_any (w := W0.drew) (g := g) ⟨p0.num.blk, p0.num.map⟩)
          have d3 := p0.ref.blk.cell 3
          go_enter Try.func13, Try.ntmps13
          go_wp2_with fail
          go_region_law (go_simp; go_at_call 17; refine HL.out.mono ?_; rintro e w1 ⟨rfl, rfl⟩)
          all_goals
            have HP := Lib.hid (FIN.out W0.drew _ _ (p0.fr0 (Fr.refl (fun _ => False) W0).drew) (Fr.refl (Of4 g b h o) W0).drew)
            go_simp
            go_wp2_with fail
            all_goals go_ret
            all_goals exact HP.out
        · have k4' : (kind == 4) = false := by simp [k4]
          clear k4
          by_cases k5 : kind = 5
          · have k5' : (kind == 5) = true := by simp [k5]
            clear k5
            go_enter Try.func13, Try.ntmps13
            go_wp2_with fail
            refine (pick_any hn1 hn2 (by omega) (by omega) W0).mono ?_
            rintro e W1 ⟨rfl, rfl⟩
            have hpk := pickF_in (c := number) (n := 3000) (by omega)
            go_wp2_with fail
            go_loopw [7] (fun i wr => ∃ q : Int, i = .int .i64 q ∧ 0 ≤ q ∧ q ≤ 3000 ∧ (∃ l' k', PairW wr g b h o m l' k') ∧ Fr (Of4 g b h o) W0 wr) (fun i _ => (intOf i).toNat)
            case atStart => exact ⟨pickF number 3000, rfl, hpk.1, by omega, ⟨last, ks, p0⟩, Fr.refl _ _⟩
            case round =>
              obtain ⟨q, rfl, hq0, hq1, ⟨l', k', hp⟩, hf⟩ := hrel
              by_cases hq : 0 < q
              · have hwq : IntKind.i64.wrap (q - 1) = q - 1 := IntWalk.i64_in _ (by omega)
                go_wp2_with fail
                refine (deal_any hp).mono ?_
                rintro e W2 ⟨rfl, hp2, hf2⟩
                have HP := Lib.hid (And.intro hp2 (hf.trans hf2))
                clear hp2 hf2
                go_wp2_with fail
                go_roundw
                case rel => exact ⟨q - 1, rfl, by omega, by omega, HP.out.1, HP.out.2⟩
                case measure => simp [intOf]; omega
              · have HP := Lib.hid (FIN.out _ _ _ hp hf)
                go_wp2_with fail
                go_ret
                exact HP.out
          · have k5' : (kind == 5) = false := by simp [k5]
            clear k5
            by_cases k6 : kind = 6
            · have k6' : (kind == 6) = true := by simp [k6]
              clear k6
              have HF := Lib.hid (free_any (w := W0.drew) (g := g) ⟨p0.num.blk, p0.num.map⟩ last)
              have d1 := p0.ref.blk.cell 1
              go_enter Try.func13, Try.ntmps13
              go_wp2_with fail
              go_region_law (first | (go_simp; go_at_call 15; refine HF.out.mono ?_; rintro e w1 ⟨rfl, hN1, hf1⟩; have z2 := (hbx.drew.fr hf1 (by omega)).cell 2; have y1 := (p0.ref.blk.drew.fr hf1 (fun e => p.bh e.symm)).cell 1; have HR := Lib.hid (rfree_any ((p0.ref.fr0 (Fr.refl (fun _ => False) W0).drew).fr hf1 (fun e => p.bh e.symm) (fun e => p.bo e.symm)) p.kok p.ok.m2 p.ok.le last)) | (go_simp; go_at_call 39; refine HR.out.mono ?_; rintro e w2 ⟨rfl, hR2, hf2⟩))
              all_goals
                obtain ⟨hp, hf⟩ := (p0.fr0 (Fr.refl (fun _ => False) W0).drew).free hN1 hf1 hR2 hf2
                have HP := Lib.hid (FIN.out _ _ _ hp ((Fr.refl (Of4 g b h o) W0).drew.trans hf))
                go_simp
                go_wp2_with fail
                all_goals go_ret
                all_goals exact HP.out
            · have k6' : (kind == 6) = false := by simp [k6]
              clear k6
              have HP := Lib.hid (FIN.out _ _ _ p0 (Fr.refl (Of4 g b h o) W0))
              go_enter Try.func13, Try.ntmps13
              go_wp2_with fail
              go_ret
              exact HP.out
end Go.Proofs.Ytaeneoenihonkaa
