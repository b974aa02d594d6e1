/- The head of chapter 18's statements (its examples), and pick: contracts, proved by walks. -/
import Derived.Test.YtgeiimifhbiklaaRest
import Derived.Test.YtgeiimifhbiklaaNew
import Derived.Test.YtgeiimifhbiklaaDig
namespace Go.Proofs.Ytgeiimifhbiklaa
open Go.RowKit

def pickF (c n : Int) : Int := (if c < 0 then -(c + 1) else c) % n
theorem pickF_in {c n : Int} (hn : 0 < n) : 0 ≤ pickF c n ∧ pickF c n < n := ⟨Int.emod_nonneg _ (by omega), Int.emod_lt_of_pos _ hn⟩
theorem pick_any {c n : Int} (hc : -9223372036854775808 ≤ c) (hc' : c ≤ 9223372036854775807) (hn : 0 < n) (hn' : n ≤ 9223372036854775807) (w : World) :
    Calls Try.prog 12 #[.int .i64 c, .int .i64 n] w fun e w' => e = .returned (.int .i64 (pickF c n)) ∧ w = w' := by
  have hz : ¬ n = 0 := by omega
  have hm : n ≠ -1 := by omega
  by_cases h : c < 0
  · have h1 : IntKind.i64.wrap (c + 1) = c + 1 := IntWalk.i64_in _ (by omega)
    have h2 : IntKind.i64.wrap (-(c + 1)) = -(c + 1) := IntWalk.i64_in _ (by omega)
    have hp : -(c + 1).tmod n = pickF c n := by
      rw [pickF, if_pos h, ← Int.neg_tmod, Int.tmod_eq_emod_of_nonneg (by omega)]
    have HP := Lib.hid hp
    clear hp
    go_enter Try.func12, Try.ntmps12
    go_wp2_with fail
    go_ret
    exact ⟨by rw [← HP.out]; rfl, rfl⟩
  · have hp : pickF c n = c % n := by rw [pickF, if_neg h]
    rw [hp]
    clear hp
    go_enter Try.func12, Try.ntmps12
    go_wp2_with fail
    go_ret
    exact ⟨rfl, rfl⟩
def s0200 : ByteArray := ⟨#[48, 50, 48, 48]⟩
def s0210 : ByteArray := ⟨#[48, 50, 49, 48]⟩
def s007 : ByteArray := ⟨#[48, 48, 48, 48, 48, 55]⟩
def s005 : ByteArray := ⟨#[48, 48, 48, 48, 48, 53]⟩
def sx : ByteArray := ⟨#[120]⟩
theorem right_0210 : rightB s0210 = true := by decide
theorem right_0200 : rightB s0200 = true := by decide
theorem fs_nil (t : Int) (v : ByteArray) (h : numberB t = true) : fsoundB t v .nil = true := by
  simp [fsoundB, h, Ns.len, soundF]
theorem whole1 : wholeB s0200 (.one 11 s007 .nil) = true := by
  simp [wholeB, wholeF, Ns.one, fs_nil 11 s007 (by decide), right_0200]
theorem whole2 : wholeB s0210 (.cons 11 s005 .nil (.one 37 sx .nil)) = true := by
  simp [wholeB, wholeF, Ns.one, fs_nil 11 s005 (by decide), fs_nil 37 sx (by decide), right_0210]
theorem save5 : saveE [] 5 s0200 (.one 11 s007 .nil) = 0 := by
  simp [saveE, lookM, whole1]
theorem saved5 : saveM [11, 37] [] 5 s0200 (.one 11 s007 .nil) = [(5, s0200, .one 11 s007 .nil)] := by
  rw [saveM, if_pos save5]
  rfl
theorem rest5 : restF [11, 37] [(5, s0200, .one 11 s007 .nil)] 5 s0210 (.cons 11 s005 .nil (.one 37 sx .nil)) = (s0210, .one 11 s007 .nil, true) := by
  have h1 : lookM [(5, s0200, .one 11 s007 .nil)] 5 = some (s0200, .one 11 s007 .nil) := rfl
  have h2 : (Ns.cons 11 s005 .nil (.one 37 sx .nil)).keep (memWithout [11, 37]) = .nil := rfl
  have h3 : wholeB s0210 .nil = true := by simp [wholeB, wholeF, right_0210]
  have h4 : withF s0210 .nil 11 s007 .nil = (s0210, .one 11 s007 .nil, 0) := by
    simp [withF, right_0210, h3, fs_nil 11 s007 (by decide), show numberB 11 = true by decide]
    rfl
  rw [restF, h1]
  simp only [whole2, h2]
  simp [foldWith, Ns.one, h4]
theorem field42 : fieldB 42 = (⟨#[48, 48, 48, 48, 52, 50]⟩, 0) := by decide
theorem take_at {w : World} {g b : Nat} {m last : Int} {ks : List Int} (h : NumW w g b m last ks) (ho : NumOk m last ks) {k : Int} (hk : first m ks (2 * m.toNat) last = some k) (hl : (ks.length : Int) < m) :
    Calls Try.prog 16 #[.pointer (some ⟨g, 0, none⟩)] w fun e w' => e = .returned (.tuple #[.int .i64 k, .int .i64 0]) ∧ NumW w' g b m k (ks ++ [k]) ∧ Fr (fun i => i = g ∨ i = b) w w' :=
  (take_any h ho).mono (by
    rintro e w' (⟨h1, _⟩ | ⟨_, k', h1, h2, h3, h4⟩)
    · omega
    · obtain rfl : k' = k := Option.some.inj (h1.symm.trans hk)
      exact ⟨h2, h3, h4⟩)
theorem take_spent {w : World} {g b : Nat} {m last : Int} {ks : List Int} (h : NumW w g b m last ks) (ho : NumOk m last ks) (hl : (ks.length : Int) = m) :
    Calls Try.prog 16 #[.pointer (some ⟨g, 0, none⟩)] w fun e w' => e = .returned (.tuple #[.int .i64 0, .int .i64 180]) ∧ Fr0 w w' :=
  (take_any h ho).mono (by
    rintro e w' (⟨_, h2, h3⟩ | ⟨h1, _⟩)
    · exact ⟨h2, h3⟩
    · omega)
theorem Fr.old {G : Nat → Prop} {w w' : World} (h : Fr G w w') (n : Nat) (hn : ∀ i, G i → n ≤ i) : Fr (fun i => n ≤ i) w w' := h.mono fun i _ e => hn i e
theorem rd_one {w : World} {X : Nat} {t : Int} {v : ByteArray} (h : Blk w X 76 #[.int .i64 t, .string v, .slice none 0 0]) : Rd w (· = X) (.slice (some ⟨X, 0, none⟩) 1 1) (.one t v .nil) :=
  ⟨_, 1, rfl, Nat.le_refl _, .inr ⟨X, 0, rfl, rfl, h.cell 0, h.cell 1, ⟨none, 0, h.cell 2, Nat.le_refl _, .inl rfl⟩, trivial⟩⟩
theorem rd_two {w : World} {X : Nat} {t t' : Int} {v v' : ByteArray} (h : Blk w X 76 #[.int .i64 t, .string v, .slice none 0 0, .int .i64 t', .string v', .slice none 0 0]) : Rd w (· = X) (.slice (some ⟨X, 0, none⟩) 2 2) (.cons t v .nil (.one t' v' .nil)) :=
  ⟨_, 2, rfl, Nat.le_refl _, .inr ⟨X, 0, rfl, rfl, h.cell 0, h.cell 1, ⟨none, 0, h.cell 2, Nat.le_refl _, .inl rfl⟩, rfl, h.cell 3, h.cell 4, ⟨none, 0, h.cell 5, Nat.le_refl _, .inl rfl⟩, trivial⟩⟩
theorem RdI.lt {w : World} {b c : Nat} {xs : List Int} (h : RdI w (· = b) (.slice (some ⟨b, 0, none⟩) xs.length c) xs) (hne : xs ≠ []) : b < w.heap.size := by
  obtain ⟨A', c', hv, _, hcase⟩ := h
  rcases hcase with h | ⟨b', o, h1, rfl, h3⟩
  · exact absurd h hne
  · exact World.block_lt_of_cell? _ _ (h3 0 (xs[0]'(List.length_pos_iff.2 hne)) (by simp))
theorem rdI_of {w : World} {X : Nat} {xs : List Int} (h : Blk w X 3 (xs.map (Value.int .i64)).toArray) : RdI w (· = X) (.slice (some ⟨X, 0, none⟩) xs.length xs.length) xs :=
  ⟨_, _, rfl, Nat.le_refl _, .inr ⟨X, 0, rfl, rfl, fun j x hx => by rw [Nat.zero_add, h.cell j]; simp [hx]⟩⟩
theorem EchoW.new {w : World} {g b f c : Nat} {xs : List Int} (hb : Blk w g 92 #[.slice (some ⟨f, 0, none⟩) xs.length c, .map (some b)]) (hn : RdI w (· = f) (.slice (some ⟨f, 0, none⟩) xs.length c) xs) (hm : MapI w b [])
    (hl : xs.length ≤ 1099511627776) (hne : xs ≠ []) (n1 : g ≠ b) (n2 : g ≠ f) (n3 : b ≠ f) : EchoW w (fun _ => False) g b f c xs [] :=
  ⟨hb, hn, hl, ⟨[], hm, trivial⟩, fun _ e => e.elim, hn.lt hne, n1, n2, n3, id, id, id⟩
set_option maxRecDepth 100000 in
theorem known_any (w : World) : Calls Try.prog 9 #[] w fun e w' => e = .returned (.bool true) ∧ Fr0 w w' := by
  go_enter Try.func9, Try.ntmps9
  go_wp2_with fail
  refine (new_any 3 w).mono ?_
  intro e W0 hp
  rw [NewPost, if_pos (by decide)] at hp
  obtain ⟨g, b, rfl, hN0, hg, hb, hf0⟩ := hp
  have hG : ∀ i, i = g ∨ i = b → w.heap.size ≤ i := by rintro i (rfl | rfl) <;> assumption
  have F0 : Fr (fun i => w.heap.size ≤ i) w W0 := hf0.mono fun _ _ e => e.elim
  clear hf0
  go_wp2_with fail
  refine (take_at hN0 ⟨by omega, by omega, by omega, by omega, by simp⟩ (k := 1) (by decide) (by decide)).mono ?_
  rintro e W1 ⟨rfl, hN1, hf1⟩
  go_wp2_with fail
  refine (take_at hN1 ⟨by omega, by omega, by omega, by omega, by decide⟩ (k := 2) (by decide) (by decide)).mono ?_
  rintro e W2 ⟨rfl, hN2, hf2⟩
  go_wp2_with fail
  refine (free_any hN2 1).mono ?_
  rintro e W3 ⟨rfl, hN3, hf3⟩
  go_wp2_with fail
  refine (take_at hN3 ⟨by omega, by omega, by omega, by omega, by decide⟩ (k := 3) (by decide) (by decide)).mono ?_
  rintro e W4 ⟨rfl, hN4, hf4⟩
  go_wp2_with fail
  refine (take_at hN4 ⟨by omega, by omega, by omega, by omega, by decide⟩ (k := 1) (by decide) (by decide)).mono ?_
  rintro e W5 ⟨rfl, hN5, hf5⟩
  go_wp2_with fail
  refine (take_spent hN5 ⟨by omega, by omega, by omega, by omega, by decide⟩ (by decide)).mono ?_
  rintro e W6 ⟨rfl, hf6⟩
  have F6 : Fr (fun i => w.heap.size ≤ i) w W6 := (((((F0.trans (hf1.old _ hG)).trans (hf2.old _ hG)).trans (hf3.old _ fun i e => hG i (.inr e))).trans (hf4.old _ hG)).trans (hf5.old _ hG)).trans0 hf6
  clear hf1 hf2 hf3 hf4 hf5 hf6 hN0 hN1 hN2 hN3 hN4 hN5 F0
  go_wp2_with fail
  refine (field18_any 42 W6).mono ?_
  rintro e W7 ⟨rfl, hf7⟩
  rw [field42]
  have F7 := F6.trans0 hf7
  go_wp2_with fail
  have hI := rdI_of (xs := [11, 37]) (Blk.new W7 3 _)
  have hf7a : Fr0 W7 (W7.alloc (.cells #[.int .i64 11, .int .i64 37] 3)) := (Fr.refl _ _).alloc _
  refine (newecho_any hI (by decide)).mono ?_
  intro e W8 hp
  rw [NewEchoPost, if_pos (by decide)] at hp
  obtain ⟨g2, b2, f2, c2, rfl, hB, hN, hM, l1, l2, l3, n1, n2, n3, hf8⟩ := hp
  have F8 := (F7.trans0 hf7a).trans0 hf8
  have E8 := EchoW.new hB hN hM (by decide) (by decide) n1 n2 n3
  have hs7 := F7.size
  simp only [World.size_alloc] at l1 l2 l3
  clear hI hf7a hf8 hB hN hM F7 F6
  go_wp2_with fail
  have hr9 := rd_one (Blk.new W8 76 #[.int .i64 11, .string s007, .slice none 0 0])
  have hf8a : Fr0 W8 (W8.alloc (.cells #[.int .i64 11, .string s007, .slice none 0 0] 76)) := (Fr.refl _ _).alloc _
  refine (save_any (mti := s0200) (E8.fr0 hf8a) 5 hr9 (by decide)).mono ?_
  rintro e W9 ⟨rfl, ⟨G', E9, hG'⟩, hf9⟩
  rw [save5]
  rw [saved5] at E9
  have F9 := (F8.trans0 hf8a).trans (hf9.old w.heap.size fun i e => by omega)
  clear hr9 hf8a hf9 E8 F8
  go_wp2_with fail
  have hr10 := rd_two (Blk.new W9 76 #[.int .i64 11, .string s005, .slice none 0 0, .int .i64 37, .string sx, .slice none 0 0])
  have hf9a : Fr0 W9 (W9.alloc (.cells #[.int .i64 11, .string s005, .slice none 0 0, .int .i64 37, .string sx, .slice none 0 0] 76)) := (Fr.refl _ _).alloc _
  have hR := restore_any (mti := s0210) (E9.fr0 hf9a) 5 hr10 (by decide) (by
    intro m kl h
    have : (s0200, Ns.one 11 s007 .nil) = (m, kl) := Option.some.inj h
    obtain ⟨rfl, rfl⟩ := Prod.mk.inj this
    decide)
  rw [rest5] at hR
  refine hR.mono ?_
  rintro e W10 ⟨A, c, S, rfl, hown, hnd, hf10⟩
  have F10 := (F9.trans0 hf9a).trans0 hf10
  obtain ⟨A', c', hv, _, hcase⟩ := hown.read
  injection hv with hv1 hv2 hv3
  subst hv1 hv3
  obtain ⟨bX, oX, rfl, hrd⟩ : ∃ b o, A = some ⟨b, o, none⟩ ∧ RdFrom W10 (· ∈ S) (.one 11 s007 .nil) b o := by
    rcases hcase with h | h
    · exact absurd h (by simp [Ns.one])
    · exact h
  have q1 := hrd.2.2.1
  have hbl := World.block_lt_of_cell? _ _ q1
  clear hR hr10 hf9a hf10 F9 hown hcase hrd E9
  simp only [s0210, s007, Ns.one, Ns.len, Nat.zero_add] at q1 ⊢
  go_wp2_with fail
  go_ret
  exact ⟨rfl, (F10.mono fun i hi h => by omega).alloc _⟩
end Go.Proofs.Ytgeiimifhbiklaa
