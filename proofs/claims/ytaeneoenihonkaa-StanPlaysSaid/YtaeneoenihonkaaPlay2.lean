/- StanPlays returns true: proved by a walk over the contracts. -/
import Derived.Test.YtaeneoenihonkaaPlays
import Derived.Deep.RegionHeld3
namespace Go.Proofs.Ytaeneoenihonkaa
open Go.RowKit

/-- A step of a script, as it lies in memory: kind, on, number, and the message's two cells. -/
structure StepV where
  kind : Int
  on : Int
  number : Int
  mti : Value
  fields : Value
def RdSteps (w : World) (v : Value) (xs : List StepV) : Prop :=
  ∃ A c, v = .slice A xs.length c ∧ (xs = [] ∨ ∃ b o, A = some ⟨b, o, none⟩ ∧ b < w.heap.size ∧ ∀ j x, xs[j]? = some x →
    w.cell? ⟨b, o + j * 5, none⟩ = some (.int .i64 x.kind) ∧ w.cell? ⟨b, o + j * 5 + 1, none⟩ = some (.int .i64 x.on) ∧ w.cell? ⟨b, o + j * 5 + 2, none⟩ = some (.int .i64 x.number) ∧ w.cell? ⟨b, o + j * 5 + 3, none⟩ = some x.mti ∧ w.cell? ⟨b, o + j * 5 + 4, none⟩ = some x.fields)
/-- One of the two: none at all, or a pair between two marks. -/
def SlotW (w : World) (lo hi : Nat) (p q : Value) : Prop :=
  (p = .pointer none ∧ q = .pointer none) ∨ ∃ g b h o m last ks, p = .pointer (some ⟨g, 0, none⟩) ∧ q = .pointer (some ⟨h, 0, none⟩) ∧ PairW w g b h o m last ks ∧ ∀ i, Of4 g b h o i → lo ≤ i ∧ i < hi
theorem SlotW.fr {w w' : World} {G : Nat → Prop} {lo hi : Nat} {p q : Value} (s : SlotW w lo hi p q) (hf : Fr G w w') (hg : ∀ i, lo ≤ i → i < hi → ¬ G i) : SlotW w' lo hi p q := by
  rcases s with s | ⟨g, b, h, o, m, last, ks, hp, hq, hw, hi'⟩
  · exact .inl s
  · have f : ∀ i, Of4 g b h o i → ¬ G i := fun i e => hg i (hi' i e).1 (hi' i e).2
    exact .inr ⟨g, b, h, o, m, last, ks, hp, hq, hw.fr hf (f g (.inl rfl)) (f b (.inr (.inl rfl))) (f h (.inr (.inr (.inl rfl)))) (f o (.inr (.inr (.inr rfl)))), hi'⟩
theorem Fr.drop0 {G : Nat → Prop} {a b c : World} (h : Fr0 a b) (k : Fr G b c) : Fr G a c := (h.mono fun _ _ e => e.elim).trans k
theorem SlotW.lo {w : World} {lo lo' hi : Nat} {p q : Value} (s : SlotW w lo hi p q) (h : lo' ≤ lo) : SlotW w lo' hi p q := by
  rcases s with s | ⟨g, b, h', o, m, last, ks, hp, hq, hw, hi'⟩
  · exact .inl s
  · exact .inr ⟨g, b, h', o, m, last, ks, hp, hq, hw, fun i e => ⟨by have := (hi' i e).1; omega, (hi' i e).2⟩⟩
/-- Where StanPlays stands while it makes the two. -/
def MakeRel (w : World) (a8 a9 a10 : Nat) (one two : Int) (L0 : Nat) (i : Value) (wr : World) : Prop :=
  ∃ (k : Int) (p0 q0 p1 q1 : Value) (L1 L2 : Nat), i = .int .i64 k ∧ Blk wr a8 24 #[.int .i64 one, .int .i64 two] ∧ Blk wr a9 26 #[p0, p1] ∧ Blk wr a10 28 #[q0, q1] ∧
    L0 ≤ L1 ∧ L1 ≤ L2 ∧ L2 ≤ wr.heap.size ∧ Fr (fun j => w.heap.size ≤ j) w wr ∧ ((k = 0) ∨ (k = 1 ∧ SlotW wr L0 L1 p0 q0) ∨ (k = 2 ∧ SlotW wr L0 L1 p0 q0 ∧ SlotW wr L1 L2 p1 q1))
/-- Where it stands between two calls. -/
def PlayRel (w : World) (a9 a10 L0 L1 L2 : Nat) (p0 q0 p1 q1 : Value) (n : Nat) (i : Value) (wr : World) : Prop :=
  ∃ k : Nat, i = .int .i64 k ∧ k ≤ n ∧ k ≤ 300 ∧ Blk wr a9 26 #[p0, p1] ∧ Blk wr a10 28 #[q0, q1] ∧ SlotW wr L0 L1 p0 q0 ∧ SlotW wr L1 L2 p1 q1 ∧ Fr (fun j => w.heap.size ≤ j) w wr
set_option maxRecDepth 100000 in
set_option maxHeartbeats 3200000 in
theorem plays_any {one two : Int} {w : World} {v : Value} {xs : List StepV} (hr : RdSteps w v xs) (hx : ∀ x ∈ xs, (-9223372036854775808 ≤ x.on ∧ x.on ≤ 9223372036854775807) ∧ -9223372036854775808 ≤ x.number ∧ x.number ≤ 9223372036854775807) (hn : xs.length ≤ 9223372036854775807) :
    Calls Try.prog 3 #[.int .i64 one, .int .i64 two, v] w fun e w' => e = .returned (.bool true) ∧ Fr0 w w' := by
  obtain ⟨A, c, rfl, hcase⟩ := hr
  have HC := Lib.hid hcase
  have HX := Lib.hid hx
  clear hcase hx
  go_enter Try.func3, Try.ntmps3
  go_wp2_with fail
  refine (known_any w).mono ?_
  rintro e W0 ⟨rfl, hf0⟩
  go_wp2_with fail
  obtain ⟨W1, hW1⟩ : ∃ W1, W1 = ((W0.alloc (.cells #[.int .i64 one, .int .i64 two] 24)).alloc (.cells #[.pointer none, .pointer none] 26)).alloc (.cells #[.pointer none, .pointer none] 28) := ⟨_, rfl⟩
  obtain ⟨a8, h8⟩ : ∃ a8, a8 = W0.heap.size := ⟨_, rfl⟩
  obtain ⟨a9, h9⟩ : ∃ a9, a9 = W0.heap.size + 1 := ⟨_, rfl⟩
  obtain ⟨a10, h10⟩ : ∃ a10, a10 = W0.heap.size + 1 + 1 := ⟨_, rfl⟩
  obtain ⟨L0, hL0⟩ : ∃ L0, L0 = W0.heap.size + 3 := ⟨_, rfl⟩
  have hs0 := hf0.size
  have hz1 : W1.heap.size = L0 := by rw [hW1, hL0]; simp
  have B8 : Blk W1 a8 24 #[.int .i64 one, .int .i64 two] := by rw [hW1, h8]; exact ((Blk.new W0 _ _).alloc _).alloc _
  have B9 : Blk W1 a9 26 #[.pointer none, .pointer none] := by
    rw [hW1, h9]
    have := Blk.new (W0.alloc (.cells #[.int .i64 one, .int .i64 two] 24)) 26 #[.pointer none, .pointer none]
    simp only [World.size_alloc] at this
    exact this.alloc _
  have B10 : Blk W1 a10 28 #[.pointer none, .pointer none] := by
    rw [hW1, h10]
    have := Blk.new ((W0.alloc (.cells #[.int .i64 one, .int .i64 two] 24)).alloc (.cells #[.pointer none, .pointer none] 26)) 28 #[.pointer none, .pointer none]
    simpa only [World.size_alloc] using this
  have F1 : Fr (fun j => w.heap.size ≤ j) w W1 := by
    rw [hW1]
    exact (((hf0.alloc _).alloc _).alloc _).mono fun _ _ e => e.elim
  rw [← hW1, ← h10, ← h9, ← h8]
  have n89 : a8 ≠ a9 := by omega
  have n810 : a8 ≠ a10 := by omega
  have n910 : a9 ≠ a10 := by omega
  have n109 : a10 ≠ a9 := by omega
  have w8 : w.heap.size ≤ a8 := by omega
  have w9 : w.heap.size ≤ a9 := by omega
  have w10 : w.heap.size ≤ a10 := by omega
  have l8 : a8 < L0 := by omega
  have l9 : a9 < L0 := by omega
  have l10 : a10 < L0 := by omega
  have START : MakeRel w a8 a9 a10 one two L0 (.int .i64 0) W1 := ⟨0, _, _, _, _, L0, L0, rfl, B8, B9, B10, Nat.le_refl _, Nat.le_refl _, by omega, F1, .inl rfl⟩
  have ST := Lib.hid START
  clear START F1 B8 B9 B10 hW1 h8 h9 h10 hL0 hz1 hs0 hf0
  go_loopw [11] (fun i wr => MakeRel w a8 a9 a10 one two L0 i wr) (fun i _ => (2 - intOf i).toNat)
  case atStart => exact ST.out
  case round =>
    obtain ⟨k, p0, q0, p1, q1, L1, L2, rfl, hb8, hb9, hb10, h01, h12, hL2, hF, hk⟩ := hrel
    rcases hk with rfl | ⟨rfl, hS⟩ | ⟨rfl, hS0, hS1⟩
    · have c8 := hb8.cell 0
      go_wp2_with fail
      by_cases hm : 1 ≤ one ∧ one ≤ 999999
      · skip
        refine (new_any one wr).mono ?_
        intro e w1 hp
        rw [NewPost, if_pos hm] at hp
        obtain ⟨g, b, rfl, hN, hg, hb, hf1⟩ := hp
        have b91 := hb9.fr0 hf1
        have b81 := hb8.fr0 hf1
        have b101 := hb10.fr0 hf1
        have c9 := b91.cell 0
        have d9 := b91.frozen 0
        obtain ⟨W2, hW2⟩ : ∃ W2, W2 = w1.setCell ⟨a9, 0, none⟩ (.pointer (some ⟨g, 0, none⟩)) := ⟨_, rfl⟩
        have fw2 : Fr (fun i => i = a9) w1 W2 := by rw [hW2]; exact (Fr.refl (fun i => i = a9) w1).setCell (p := ⟨a9, 0, none⟩) (.inr rfl) _
        have b92 : Blk W2 a9 26 #[.pointer (some ⟨g, 0, none⟩), p1] := by rw [hW2]; exact b91.set_ 0 _
        have b82 := b81.fr fw2 n89
        have b102 := b101.fr fw2 n109
        have c82 := b82.cell 0
        have hW2' := hW2.symm
        have HB := Lib.hid (And.intro b92 b102)
        clear hW2
        go_wp2_with fail
        refine (rnew_any one W2).mono ?_
        intro e w3 hp
        rw [RNewPost, if_pos hm] at hp
        obtain ⟨h, o, rfl, hR, hh, ho, hf3⟩ := hp
        have b103 := b102.fr0 hf3
        have b93 := b92.fr0 hf3
        have c10 := b103.cell 0
        have d10 := b103.frozen 0
        obtain ⟨W4, hW4⟩ : ∃ W4, W4 = w3.setCell ⟨a10, 0, none⟩ (.pointer (some ⟨h, 0, none⟩)) := ⟨_, rfl⟩
        have fw4 : Fr (fun i => i = a10) w3 W4 := by rw [hW4]; exact (Fr.refl (fun i => i = a10) w3).setCell (p := ⟨a10, 0, none⟩) (.inr rfl) _
        have b104 : Blk W4 a10 28 #[.pointer (some ⟨h, 0, none⟩), q1] := by rw [hW4]; exact b103.set_ 0 _
        have b94 := b93.fr fw4 n910
        have b84 := (b82.fr0 hf3).fr fw4 n810
        have e9 := b94.cell 0
        have e10 := b104.cell 0
        have hW4' := hW4.symm
        have hs1 := hf1.size
        have hs2 := fw2.size
        have hs3 := hf3.size
        have hs4 := fw4.size
        have F4 : Fr (fun j => w.heap.size ≤ j) w W4 := (((hF.trans0 hf1).trans (fw2.old _ fun i e => by omega)).trans0 hf3).trans (fw4.old _ fun i e => by omega)
        have FA : Fr (fun i => i = a9 ∨ i = a10) wr W4 := (((hf1.mono fun _ _ e => e.elim).trans (fw2.mono fun _ _ e => .inl e)).trans0 hf3).trans (fw4.mono fun _ _ e => .inr e)
        have hN4 := ((hN.fr fw2 (fun e => by omega) (fun e => by omega)).fr0 hf3).fr fw4 (fun e => by omega) (fun e => by omega)
        have hR4 := hR.fr fw4 (fun e => by omega) (fun e => by omega)
        have hgl := hN.blk.lt
        have hbl := hN.map.lt
        have hhl := hR.blk.lt
        have hol : o < w3.heap.size := by
          obtain ⟨cs, hb⟩ := hR.bits
          exact hb.blk.lt
        have SL : SlotW W4 wr.heap.size W4.heap.size (.pointer (some ⟨g, 0, none⟩)) (.pointer (some ⟨h, 0, none⟩)) := by
          refine .inr ⟨g, b, h, o, one, 0, [], rfl, rfl, ⟨hN4, hR4, ⟨hm.1, hm.2, by omega, by omega, by simp; omega⟩, KsOk.nil one, by omega, by omega, by omega, by omega⟩, ?_⟩
          rintro i (rfl | rfl | rfl | rfl) <;> omega
        have REL : ∀ nq, MakeRel w a8 a9 a10 one two L0 (.int .i64 1) (W4.drewN nq) := fun nq =>
          ⟨1, _, _, p1, q1, W4.heap.size, W4.heap.size, rfl, b84.drewN nq, b94.drewN nq, b104.drewN nq, by omega, Nat.le_refl _, Nat.le_refl _, F4.drewN nq, .inr (.inl ⟨rfl, (SL.lo (by omega)).fr ((Fr.refl (fun _ => False) W4).drewN nq) (fun _ _ _ => id)⟩)⟩
        have RELH := Lib.hid REL
        clear REL SL F4 FA fw2 fw4 hW4 HB b92 b102 b93 b94 b84 b104 b103
        go_wp2_with fail
        go_quiet (fail)
        go_wp2_with fail
        go_roundw
        case rel => exact RELH.out nq
        case measure => simp [intOf]
      · skip
        refine (new_any one wr).mono ?_
        intro e w1 hp
        rw [NewPost, if_neg hm] at hp
        obtain ⟨rfl, hf1⟩ := hp
        have b91 := hb9.fr0 hf1
        have b81 := hb8.fr0 hf1
        have b101 := hb10.fr0 hf1
        have c9 := b91.cell 0
        have d9 := b91.frozen 0
        obtain ⟨W2, hW2⟩ : ∃ W2, W2 = w1.setCell ⟨a9, 0, none⟩ (.pointer none) := ⟨_, rfl⟩
        have fw2 : Fr (fun i => i = a9) w1 W2 := by rw [hW2]; exact (Fr.refl (fun i => i = a9) w1).setCell (p := ⟨a9, 0, none⟩) (.inr rfl) _
        have b92 : Blk W2 a9 26 #[.pointer none, p1] := by rw [hW2]; exact b91.set_ 0 _
        have b82 := b81.fr fw2 n89
        have b102 := b101.fr fw2 n109
        have c82 := b82.cell 0
        have hW2' := hW2.symm
        have HB := Lib.hid (And.intro b92 b102)
        clear hW2
        go_wp2_with fail
        refine (rnew_any one W2).mono ?_
        intro e w3 hp
        rw [RNewPost, if_neg hm] at hp
        obtain ⟨rfl, hf3⟩ := hp
        have b103 := b102.fr0 hf3
        have b93 := b92.fr0 hf3
        have c10 := b103.cell 0
        have d10 := b103.frozen 0
        obtain ⟨W4, hW4⟩ : ∃ W4, W4 = w3.setCell ⟨a10, 0, none⟩ (.pointer none) := ⟨_, rfl⟩
        have fw4 : Fr (fun i => i = a10) w3 W4 := by rw [hW4]; exact (Fr.refl (fun i => i = a10) w3).setCell (p := ⟨a10, 0, none⟩) (.inr rfl) _
        have b104 : Blk W4 a10 28 #[.pointer none, q1] := by rw [hW4]; exact b103.set_ 0 _
        have b94 := b93.fr fw4 n910
        have b84 := (b82.fr0 hf3).fr fw4 n810
        have e9 := b94.cell 0
        have e10 := b104.cell 0
        have hW4' := hW4.symm
        have hs1 := hf1.size
        have hs2 := fw2.size
        have hs3 := hf3.size
        have hs4 := fw4.size
        have F4 : Fr (fun j => w.heap.size ≤ j) w W4 := (((hF.trans0 hf1).trans (fw2.old _ fun i e => by omega)).trans0 hf3).trans (fw4.old _ fun i e => by omega)
        have FA : Fr (fun i => i = a9 ∨ i = a10) wr W4 := (((hf1.mono fun _ _ e => e.elim).trans (fw2.mono fun _ _ e => .inl e)).trans0 hf3).trans (fw4.mono fun _ _ e => .inr e)
        have SL : SlotW W4 wr.heap.size W4.heap.size (.pointer none) (.pointer none) := .inl ⟨rfl, rfl⟩
        have REL : ∀ nq, MakeRel w a8 a9 a10 one two L0 (.int .i64 1) (W4.drewN nq) := fun nq =>
          ⟨1, _, _, p1, q1, W4.heap.size, W4.heap.size, rfl, b84.drewN nq, b94.drewN nq, b104.drewN nq, by omega, Nat.le_refl _, Nat.le_refl _, F4.drewN nq, .inr (.inl ⟨rfl, (SL.lo (by omega)).fr ((Fr.refl (fun _ => False) W4).drewN nq) (fun _ _ _ => id)⟩)⟩
        have RELH := Lib.hid REL
        clear REL SL F4 FA fw2 fw4 hW4 HB b92 b102 b93 b94 b84 b104 b103
        go_wp2_with fail
        go_quiet (fail)
        go_wp2_with fail
        go_roundw
        case rel => exact RELH.out nq
        case measure => simp [intOf]
    · have c8 := hb8.cell 1
      go_wp2_with fail
      by_cases hm : 1 ≤ two ∧ two ≤ 999999
      · skip
        refine (new_any two wr).mono ?_
        intro e w1 hp
        rw [NewPost, if_pos hm] at hp
        obtain ⟨g, b, rfl, hN, hg, hb, hf1⟩ := hp
        have b91 := hb9.fr0 hf1
        have b81 := hb8.fr0 hf1
        have b101 := hb10.fr0 hf1
        have c9 := b91.cell 1
        have d9 := b91.frozen 1
        obtain ⟨W2, hW2⟩ : ∃ W2, W2 = w1.setCell ⟨a9, 1, none⟩ (.pointer (some ⟨g, 0, none⟩)) := ⟨_, rfl⟩
        have fw2 : Fr (fun i => i = a9) w1 W2 := by rw [hW2]; exact (Fr.refl (fun i => i = a9) w1).setCell (p := ⟨a9, 1, none⟩) (.inr rfl) _
        have b92 : Blk W2 a9 26 #[p0, .pointer (some ⟨g, 0, none⟩)] := by rw [hW2]; exact b91.set_ 1 _
        have b82 := b81.fr fw2 n89
        have b102 := b101.fr fw2 n109
        have c82 := b82.cell 1
        have hW2' := hW2.symm
        have HB := Lib.hid (And.intro b92 b102)
        clear hW2
        go_wp2_with fail
        refine (rnew_any two W2).mono ?_
        intro e w3 hp
        rw [RNewPost, if_pos hm] at hp
        obtain ⟨h, o, rfl, hR, hh, ho, hf3⟩ := hp
        have b103 := b102.fr0 hf3
        have b93 := b92.fr0 hf3
        have c10 := b103.cell 1
        have d10 := b103.frozen 1
        obtain ⟨W4, hW4⟩ : ∃ W4, W4 = w3.setCell ⟨a10, 1, none⟩ (.pointer (some ⟨h, 0, none⟩)) := ⟨_, rfl⟩
        have fw4 : Fr (fun i => i = a10) w3 W4 := by rw [hW4]; exact (Fr.refl (fun i => i = a10) w3).setCell (p := ⟨a10, 1, none⟩) (.inr rfl) _
        have b104 : Blk W4 a10 28 #[q0, .pointer (some ⟨h, 0, none⟩)] := by rw [hW4]; exact b103.set_ 1 _
        have b94 := b93.fr fw4 n910
        have b84 := (b82.fr0 hf3).fr fw4 n810
        have e9 := b94.cell 1
        have e10 := b104.cell 1
        have hW4' := hW4.symm
        have hs1 := hf1.size
        have hs2 := fw2.size
        have hs3 := hf3.size
        have hs4 := fw4.size
        have F4 : Fr (fun j => w.heap.size ≤ j) w W4 := (((hF.trans0 hf1).trans (fw2.old _ fun i e => by omega)).trans0 hf3).trans (fw4.old _ fun i e => by omega)
        have FA : Fr (fun i => i = a9 ∨ i = a10) wr W4 := (((hf1.mono fun _ _ e => e.elim).trans (fw2.mono fun _ _ e => .inl e)).trans0 hf3).trans (fw4.mono fun _ _ e => .inr e)
        have hN4 := ((hN.fr fw2 (fun e => by omega) (fun e => by omega)).fr0 hf3).fr fw4 (fun e => by omega) (fun e => by omega)
        have hR4 := hR.fr fw4 (fun e => by omega) (fun e => by omega)
        have hgl := hN.blk.lt
        have hbl := hN.map.lt
        have hhl := hR.blk.lt
        have hol : o < w3.heap.size := by
          obtain ⟨cs, hb⟩ := hR.bits
          exact hb.blk.lt
        have SL : SlotW W4 wr.heap.size W4.heap.size (.pointer (some ⟨g, 0, none⟩)) (.pointer (some ⟨h, 0, none⟩)) := by
          refine .inr ⟨g, b, h, o, two, 0, [], rfl, rfl, ⟨hN4, hR4, ⟨hm.1, hm.2, by omega, by omega, by simp; omega⟩, KsOk.nil two, by omega, by omega, by omega, by omega⟩, ?_⟩
          rintro i (rfl | rfl | rfl | rfl) <;> omega
        have REL : ∀ nq, MakeRel w a8 a9 a10 one two L0 (.int .i64 2) (W4.drewN nq) := fun nq =>
          ⟨2, p0, q0, _, _, L1, W4.heap.size, rfl, b84.drewN nq, b94.drewN nq, b104.drewN nq, h01, by omega, Nat.le_refl _, F4.drewN nq, .inr (.inr ⟨rfl, (hS.fr FA (fun i h1 h2 e => by omega)).fr ((Fr.refl (fun _ => False) W4).drewN nq) (fun _ _ _ => id), (SL.lo (by omega)).fr ((Fr.refl (fun _ => False) W4).drewN nq) (fun _ _ _ => id)⟩)⟩
        have RELH := Lib.hid REL
        clear REL SL F4 FA fw2 fw4 hW4 HB b92 b102 b93 b94 b84 b104 b103
        go_wp2_with fail
        go_quiet (fail)
        go_wp2_with fail
        go_roundw
        case rel => exact RELH.out nq
        case measure => simp [intOf]
      · skip
        refine (new_any two wr).mono ?_
        intro e w1 hp
        rw [NewPost, if_neg hm] at hp
        obtain ⟨rfl, hf1⟩ := hp
        have b91 := hb9.fr0 hf1
        have b81 := hb8.fr0 hf1
        have b101 := hb10.fr0 hf1
        have c9 := b91.cell 1
        have d9 := b91.frozen 1
        obtain ⟨W2, hW2⟩ : ∃ W2, W2 = w1.setCell ⟨a9, 1, none⟩ (.pointer none) := ⟨_, rfl⟩
        have fw2 : Fr (fun i => i = a9) w1 W2 := by rw [hW2]; exact (Fr.refl (fun i => i = a9) w1).setCell (p := ⟨a9, 1, none⟩) (.inr rfl) _
        have b92 : Blk W2 a9 26 #[p0, .pointer none] := by rw [hW2]; exact b91.set_ 1 _
        have b82 := b81.fr fw2 n89
        have b102 := b101.fr fw2 n109
        have c82 := b82.cell 1
        have hW2' := hW2.symm
        have HB := Lib.hid (And.intro b92 b102)
        clear hW2
        go_wp2_with fail
        refine (rnew_any two W2).mono ?_
        intro e w3 hp
        rw [RNewPost, if_neg hm] at hp
        obtain ⟨rfl, hf3⟩ := hp
        have b103 := b102.fr0 hf3
        have b93 := b92.fr0 hf3
        have c10 := b103.cell 1
        have d10 := b103.frozen 1
        obtain ⟨W4, hW4⟩ : ∃ W4, W4 = w3.setCell ⟨a10, 1, none⟩ (.pointer none) := ⟨_, rfl⟩
        have fw4 : Fr (fun i => i = a10) w3 W4 := by rw [hW4]; exact (Fr.refl (fun i => i = a10) w3).setCell (p := ⟨a10, 1, none⟩) (.inr rfl) _
        have b104 : Blk W4 a10 28 #[q0, .pointer none] := by rw [hW4]; exact b103.set_ 1 _
        have b94 := b93.fr fw4 n910
        have b84 := (b82.fr0 hf3).fr fw4 n810
        have e9 := b94.cell 1
        have e10 := b104.cell 1
        have hW4' := hW4.symm
        have hs1 := hf1.size
        have hs2 := fw2.size
        have hs3 := hf3.size
        have hs4 := fw4.size
        have F4 : Fr (fun j => w.heap.size ≤ j) w W4 := (((hF.trans0 hf1).trans (fw2.old _ fun i e => by omega)).trans0 hf3).trans (fw4.old _ fun i e => by omega)
        have FA : Fr (fun i => i = a9 ∨ i = a10) wr W4 := (((hf1.mono fun _ _ e => e.elim).trans (fw2.mono fun _ _ e => .inl e)).trans0 hf3).trans (fw4.mono fun _ _ e => .inr e)
        have SL : SlotW W4 wr.heap.size W4.heap.size (.pointer none) (.pointer none) := .inl ⟨rfl, rfl⟩
        have REL : ∀ nq, MakeRel w a8 a9 a10 one two L0 (.int .i64 2) (W4.drewN nq) := fun nq =>
          ⟨2, p0, q0, _, _, L1, W4.heap.size, rfl, b84.drewN nq, b94.drewN nq, b104.drewN nq, h01, by omega, Nat.le_refl _, F4.drewN nq, .inr (.inr ⟨rfl, (hS.fr FA (fun i h1 h2 e => by omega)).fr ((Fr.refl (fun _ => False) W4).drewN nq) (fun _ _ _ => id), (SL.lo (by omega)).fr ((Fr.refl (fun _ => False) W4).drewN nq) (fun _ _ _ => id)⟩)⟩
        have RELH := Lib.hid REL
        clear REL SL F4 FA fw2 fw4 hW4 HB b92 b102 b93 b94 b84 b104 b103
        go_wp2_with fail
        go_quiet (fail)
        go_wp2_with fail
        go_roundw
        case rel => exact RELH.out nq
        case measure => simp [intOf]
    · have hrd : (xs = [] ∨ ∃ b o, A = some ⟨b, o, none⟩ ∧ b < w.heap.size ∧ ∀ j x, xs[j]? = some x → wr.cell? ⟨b, o + j * 5, none⟩ = some (.int .i64 x.kind) ∧ wr.cell? ⟨b, o + j * 5 + 1, none⟩ = some (.int .i64 x.on) ∧ wr.cell? ⟨b, o + j * 5 + 2, none⟩ = some (.int .i64 x.number) ∧ wr.cell? ⟨b, o + j * 5 + 3, none⟩ = some x.mti ∧ wr.cell? ⟨b, o + j * 5 + 4, none⟩ = some x.fields) := by
        rcases HC.out with h | ⟨b, o, h1, h2, h3⟩
        · exact .inl h
        · refine .inr ⟨b, o, h1, h2, fun j x hx => ?_⟩
          obtain ⟨q1, q2, q3, q4, q5⟩ := h3 j x hx
          have hb : ¬ w.heap.size ≤ b := by omega
          exact ⟨hF.cell_some q1 hb, hF.cell_some q2 hb, hF.cell_some q3 hb, hF.cell_some q4 hb, hF.cell_some q5 hb⟩
      have HC2 := Lib.hid hrd
      have PST := Lib.hid (show PlayRel w a9 a10 L0 L1 L2 p0 q0 p1 q1 xs.length (.int .i64 0) wr from ⟨0, rfl, by omega, by omega, hb9, hb10, hS0, hS1, hF⟩)
      clear hrd hb8 hb9 hb10 hS0 hS1 hF
      go_wp2_with fail
      go_loopw [14] (fun i wr => PlayRel w a9 a10 L0 L1 L2 p0 q0 p1 q1 xs.length i wr) (fun i _ => xs.length - (intOf i).toNat)
      case atStart => exact PST.out
      case round =>
        obtain ⟨k, rfl, hk, hk3, hb9, hb10, hS0, hS1, hF⟩ := hrel
        by_cases hend : k < xs.length ∧ k < 300
        · obtain ⟨h1, h2⟩ := hend
          obtain ⟨bx, ox, rfl, hbx, hcx⟩ : ∃ b o, A = some ⟨b, o, none⟩ ∧ b < w.heap.size ∧ ∀ j x, xs[j]? = some x → w.cell? ⟨b, o + j * 5, none⟩ = some (.int .i64 x.kind) ∧ w.cell? ⟨b, o + j * 5 + 1, none⟩ = some (.int .i64 x.on) ∧ w.cell? ⟨b, o + j * 5 + 2, none⟩ = some (.int .i64 x.number) ∧ w.cell? ⟨b, o + j * 5 + 3, none⟩ = some x.mti ∧ w.cell? ⟨b, o + j * 5 + 4, none⟩ = some x.fields := by
            rcases HC.out with h | h
            · rw [h] at h1; simp at h1
            · exact h
          obtain ⟨x, hxk⟩ : ∃ x, xs[k]? = some x := ⟨_, List.getElem?_eq_getElem h1⟩
          obtain ⟨hxo, hxn⟩ := HX.out x (List.mem_of_getElem? hxk)
          have hbn : ¬ w.heap.size ≤ bx := by omega
          obtain ⟨q1, q2, q3, q4, q5⟩ := hcx k x hxk
          have r1 := hF.cell_some q1 hbn
          have r2 := hF.cell_some q2 hbn
          have r3 := hF.cell_some q3 hbn
          have r4 := hF.cell_some q4 hbn
          have r5 := hF.cell_some q5 hbn
          have hwk : IntKind.i64.wrap ((k : Int) + 1) = (k : Int) + 1 := IntWalk.i64_in _ (by omega)
          have HHF := Lib.hid hF
          clear hcx hxk q1 q2 q3 q4 q5 hF
          go_wp2_with fail
          refine (pick_any hxo.1 hxo.2 (by omega) (by omega) wr).mono ?_
          rintro e wr' ⟨rfl, rfl⟩
          have hp := pickF_in (c := x.on) (n := 2) (by omega)
          rcases (show pickF x.on 2 = 0 ∨ pickF x.on 2 = 1 by omega) with hp0 | hp0
          · rw [hp0]
            clear hp hp0
            have e10 := hb10.cell 0
            have e9 := hb9.cell 0
            rcases id hS0 with ⟨rfl, rfl⟩ | ⟨g, b, h, o, m, last, ks, rfl, rfl, hw, hi⟩
            · have REL := Lib.hid (show PlayRel w a9 a10 L0 L1 L2 (.pointer none) (.pointer none) p1 q1 xs.length (.int .i64 ((k : Int) + 1)) wr from ⟨k + 1, rfl, by omega, by omega, hb9, hb10, hS0, hS1, HHF.out⟩)
              clear hS0 hS1
              go_wp2_with fail
              go_roundw
              case rel => exact REL.out
              case measure => simp [intOf]; omega
            · clear hS0
              have hdr : Fr0 wr wr.drew := (Fr.refl _ _).drew
              have NUM := Lib.hid (numbered_any (hw.fr0 hdr) x.kind x.on x.number hxn.1 hxn.2 x.mti x.fields)
              have n4 : ∀ i, Of4 g b h o i → L0 ≤ i ∧ i < L1 := hi
              have n9 : ¬ Of4 g b h o a9 := fun e => by have := (n4 _ e).1; omega
              have n10 : ¬ Of4 g b h o a10 := fun e => by have := (n4 _ e).1; omega
              have nx : ¬ Of4 g b h o bx := fun e => by have := (n4 _ e).1; omega
              have HO := Lib.hid (And.intro hb9 (And.intro hb10 (And.intro hS1 hw)))
              clear hb9 hb10 hS1 hw hi
              go_wp2_with fail
              go_region_held3 (fun w' => w'.cell? ⟨a9, 0, none⟩ = some (.pointer (some ⟨g, 0, none⟩)) ∧ w'.cell? ⟨a10, 0, none⟩ = some (.pointer (some ⟨h, 0, none⟩)) ∧ w'.cell? ⟨bx, ox + k * 5, none⟩ = some (.int .i64 x.kind) ∧ w'.cell? ⟨bx, ox + k * 5 + 1, none⟩ = some (.int .i64 x.on) ∧ w'.cell? ⟨bx, ox + k * 5 + 2, none⟩ = some (.int .i64 x.number) ∧ w'.cell? ⟨bx, ox + k * 5 + 3, none⟩ = some x.mti ∧ w'.cell? ⟨bx, ox + k * 5 + 4, none⟩ = some x.fields)
                (first | go_keep | exact ⟨s1, s2, s3, s4, s5, s6, s7⟩)
                (first | (go_at_call 13; refine NUM.out.mono ?_; rintro e w2 ⟨rfl, ⟨l', k', hp2⟩, hf2⟩; have s1 := hf2.cell_some (hdr.cell0 e9) n9; have s2 := hf2.cell_some (hdr.cell0 e10) n10; have s3 := hf2.cell_some (hdr.cell0 r1) nx; have s4 := hf2.cell_some (hdr.cell0 r2) nx; have s5 := hf2.cell_some (hdr.cell0 r3) nx; have s6 := hf2.cell_some (hdr.cell0 r4) nx; have s7 := hf2.cell_some (hdr.cell0 r5) nx))
              all_goals
                have hwf := w9
                have REL := Lib.hid (show PlayRel w a9 a10 L0 L1 L2 (.pointer (some ⟨g, 0, none⟩)) (.pointer (some ⟨h, 0, none⟩)) p1 q1 xs.length (.int .i64 ((k : Int) + 1)) w2 from
                  ⟨k + 1, rfl, by omega, by omega, HO.out.1.fr (hdr.drop0 hf2) n9, HO.out.2.1.fr (hdr.drop0 hf2) n10, .inr ⟨g, b, h, o, m, l', k', rfl, rfl, hp2, n4⟩, HO.out.2.2.1.fr (hdr.drop0 hf2) (fun i h1 h2 e => by have := (n4 _ e); omega), HHF.out.trans ((hdr.drop0 hf2).mono fun i _ e => by have := (n4 _ e); omega)⟩)
                clear hf2 hp2
                go_wp2_with fail
                go_roundw
                case rel => exact REL.out
                case measure => simp [intOf]; omega
          · rw [hp0]
            clear hp hp0
            have e10 := hb10.cell 1
            have e9 := hb9.cell 1
            rcases id hS1 with ⟨rfl, rfl⟩ | ⟨g, b, h, o, m, last, ks, rfl, rfl, hw, hi⟩
            · have REL := Lib.hid (show PlayRel w a9 a10 L0 L1 L2 p0 q0 (.pointer none) (.pointer none) xs.length (.int .i64 ((k : Int) + 1)) wr from ⟨k + 1, rfl, by omega, by omega, hb9, hb10, hS0, hS1, HHF.out⟩)
              clear hS0 hS1
              go_wp2_with fail
              go_roundw
              case rel => exact REL.out
              case measure => simp [intOf]; omega
            · clear hS1
              have hdr : Fr0 wr wr.drew := (Fr.refl _ _).drew
              have NUM := Lib.hid (numbered_any (hw.fr0 hdr) x.kind x.on x.number hxn.1 hxn.2 x.mti x.fields)
              have n4 : ∀ i, Of4 g b h o i → L1 ≤ i ∧ i < L2 := hi
              have n9 : ¬ Of4 g b h o a9 := fun e => by have := (n4 _ e).1; omega
              have n10 : ¬ Of4 g b h o a10 := fun e => by have := (n4 _ e).1; omega
              have nx : ¬ Of4 g b h o bx := fun e => by have := (n4 _ e).1; omega
              have HO := Lib.hid (And.intro hb9 (And.intro hb10 (And.intro hS0 hw)))
              clear hb9 hb10 hS0 hw hi
              go_wp2_with fail
              go_region_held3 (fun w' => w'.cell? ⟨a9, 1, none⟩ = some (.pointer (some ⟨g, 0, none⟩)) ∧ w'.cell? ⟨a10, 1, none⟩ = some (.pointer (some ⟨h, 0, none⟩)) ∧ w'.cell? ⟨bx, ox + k * 5, none⟩ = some (.int .i64 x.kind) ∧ w'.cell? ⟨bx, ox + k * 5 + 1, none⟩ = some (.int .i64 x.on) ∧ w'.cell? ⟨bx, ox + k * 5 + 2, none⟩ = some (.int .i64 x.number) ∧ w'.cell? ⟨bx, ox + k * 5 + 3, none⟩ = some x.mti ∧ w'.cell? ⟨bx, ox + k * 5 + 4, none⟩ = some x.fields)
                (first | go_keep | exact ⟨s1, s2, s3, s4, s5, s6, s7⟩)
                (first | (go_at_call 13; refine NUM.out.mono ?_; rintro e w2 ⟨rfl, ⟨l', k', hp2⟩, hf2⟩; have s1 := hf2.cell_some (hdr.cell0 e9) n9; have s2 := hf2.cell_some (hdr.cell0 e10) n10; have s3 := hf2.cell_some (hdr.cell0 r1) nx; have s4 := hf2.cell_some (hdr.cell0 r2) nx; have s5 := hf2.cell_some (hdr.cell0 r3) nx; have s6 := hf2.cell_some (hdr.cell0 r4) nx; have s7 := hf2.cell_some (hdr.cell0 r5) nx))
              all_goals
                have hwf := w9
                have REL := Lib.hid (show PlayRel w a9 a10 L0 L1 L2 p0 q0 (.pointer (some ⟨g, 0, none⟩)) (.pointer (some ⟨h, 0, none⟩)) xs.length (.int .i64 ((k : Int) + 1)) w2 from
                  ⟨k + 1, rfl, by omega, by omega, HO.out.1.fr (hdr.drop0 hf2) n9, HO.out.2.1.fr (hdr.drop0 hf2) n10, HO.out.2.2.1.fr (hdr.drop0 hf2) (fun i h1 h2 e => by have := (n4 _ e); omega), .inr ⟨g, b, h, o, m, l', k', rfl, rfl, hp2, n4⟩, HHF.out.trans ((hdr.drop0 hf2).mono fun i _ e => by have := (n4 _ e); omega)⟩)
                clear hf2 hp2
                go_wp2_with fail
                go_roundw
                case rel => exact REL.out
                case measure => simp [intOf]; omega
        · have hend' : ¬ (k < xs.length) ∨ ¬ (k < 300) := by omega
          have hF0 : Fr0 w wr := hF.mono fun i hi e => by omega
          rcases hend' with h1 | h1
          · go_wp2_with fail
            go_ret
            exact ⟨rfl, hF0⟩
          · by_cases h2 : k < xs.length
            · go_wp2_with fail
              go_ret
              exact ⟨rfl, hF0⟩
            · go_wp2_with fail
              go_ret
              exact ⟨rfl, hF0⟩
end Go.Proofs.Ytaeneoenihonkaa
