/- StanBack: its contract, proved by a walk. -/
import Derived.Test.YtaeneoenihonkaaBk3
import Derived.Test.YtaeneoenihonkaaSam2
namespace Go.Proofs.Ytaeneoenihonkaa
open Go.RowKit

theorem echoB_ne {xs : List Int} (h : echoB xs = true) : xs ≠ [] := by
  rintro rfl
  simp [echoB] at h
theorem saveE_new {n : Int} (h1 : 1 ≤ n) (h2 : n ≤ 999999) {l : Ns} (h : wholeF l 0 = true) : saveE [] n s0200 l = 0 := by
  rw [saveE, if_neg (by omega), if_neg (by simp [lookM]), if_neg (by simp [wholeB, h, right_0200])]
theorem saveE_twice {n : Int} (h1 : 1 ≤ n) (h2 : n ≤ 999999) (m mti : ByteArray) (k l : Ns) : saveE [(n, m, k)] n mti l = 191 := by
  rw [saveE, if_neg (by omega), if_pos (by simp [lookM])]
theorem lookM_one (n : Int) (m : ByteArray) (k : Ns) : lookM [(n, m, k)] n = some (m, k) := by simp [lookM]
theorem lookM_other {n n' : Int} (h : n ≠ n') (m : ByteArray) (k : Ns) : lookM [(n, m, k)] n' = none := by simp [lookM, h]
theorem dropM_one (n : Int) (m : ByteArray) (k : Ns) : dropM [(n, m, k)] n = [] := by simp [dropM]
theorem restF_one {n : Int} {xs : List Int} {mti m : ByteArray} {k l : Ns} (hw : wholeB mti l = true) :
    restF xs [(n, m, k)] n mti l = ((foldWith k (mti, l.keep (memWithout xs))).1, (foldWith k (mti, l.keep (memWithout xs))).2, true) := by
  rw [restF, lookM_one]
  simp [hw]
theorem restF_none {n : Int} {xs : List Int} {ms : List Kept} {mti : ByteArray} {l : Ns} (h : lookM ms n = none) : restF xs ms n mti l = (mti, l, false) := by rw [restF, h]
theorem RdI.weak {w : World} {ok ok' : Nat → Prop} {v : Value} {xs : List Int} (h : RdI w ok v xs) (ho : ∀ g, ok g → ok' g) : RdI w ok' v xs := by
  obtain ⟨A, c, h1, h2, h3⟩ := h
  refine ⟨A, c, h1, h2, ?_⟩
  rcases h3 with h3 | ⟨b, o, h3, h4, h5⟩
  · exact .inl h3
  · exact .inr ⟨b, o, h3, ho b h4, h5⟩
/-- What StanBack's walk keeps in sight: the Echo, both messages, the fields. -/
structure BackW (w : World) (G : Nat → Prop) (g b f c : Nat) (xs : List Int) (vx : Value) (ms : List Kept) (X Y : Nat) (lm lx : Ns) (vm vy : Value) : Prop where
  e : EchoW w G g b f c xs ms
  bm : Blk w X 37 #[.string s0200, vm]
  by' : Blk w Y 37 #[.string s0210, vy]
  rm : Rd w (fun i => i ≠ b) vm lm
  rx : Rd w (fun i => i ≠ b) vy lx
  rxs : RdI w (fun i => i ≠ b) vx xs
  nm : X ≠ b
  ny : Y ≠ b
section
variable {w w' : World} {G G' : Nat → Prop} {g b f c : Nat} {xs : List Int} {vx : Value} {ms ms' : List Kept} {X Y : Nat} {lm lx : Ns} {vm vy : Value}
theorem BackW.fr0 (h : BackW w G g b f c xs vx ms X Y lm lx vm vy) (hf : Fr0 w w') : BackW w' G g b f c xs vx ms X Y lm lx vm vy :=
  ⟨h.e.fr0 hf, h.bm.fr0 hf, h.by'.fr0 hf, h.rm.fr0 hf, h.rx.fr0 hf, h.rxs.fr0 hf, h.nm, h.ny⟩
theorem BackW.frb (h : BackW w G g b f c xs vx ms X Y lm lx vm vy) (hf : Fr (fun i => i = b) w w') (he : EchoW w' G' g b f c xs ms') : BackW w' G' g b f c xs vx ms' X Y lm lx vm vy :=
  ⟨he, h.bm.fr hf h.nm, h.by'.fr hf h.ny, h.rm.fr hf fun _ e => e, h.rx.fr hf fun _ e => e, h.rxs.fr hf fun _ e => e, h.nm, h.ny⟩
theorem BackW.save (h : BackW w G g b f c xs vx [] X Y lm lx vm vy) {n : Int} (h1 : 1 ≤ n) (h2 : n ≤ 999999) (hw : wholeF lm 0 = true) (hs : lm.sz ≤ 1099511627776) :
    Calls Try.prog 26 #[.pointer (some ⟨g, 0, none⟩), .int .i64 n, .agg #[.string s0200, vm]] w fun e w' => e = .returned (.int .i64 0) ∧ (∃ G', BackW w' G' g b f c xs vx [(n, s0200, lm.keep (memKeep xs))] X Y lm lx vm vy) ∧ Fr (fun i => i = b) w w' :=
  (save_any (mti := s0200) h.e n h.rm hs).mono (by
    rintro e w' ⟨rfl, ⟨G', hE, _⟩, hf⟩
    have he := saveE_new h1 h2 hw
    refine ⟨by rw [he], ⟨G', h.frb hf ?_⟩, hf⟩
    rw [saveM, if_pos he] at hE
    exact hE)
theorem BackW.again {n : Int} {m : ByteArray} {k : Ns} (h : BackW w G g b f c xs vx [(n, m, k)] X Y lm lx vm vy) (h1 : 1 ≤ n) (h2 : n ≤ 999999) (hs : lx.sz ≤ 1099511627776) :
    Calls Try.prog 26 #[.pointer (some ⟨g, 0, none⟩), .int .i64 n, .agg #[.string s0210, vy]] w fun e w' => e = .returned (.int .i64 191) ∧ (∃ G', BackW w' G' g b f c xs vx [(n, m, k)] X Y lm lx vm vy) ∧ Fr (fun i => i = b) w w' :=
  (save_any (mti := s0210) h.e n h.rx hs).mono (by
    rintro e w' ⟨rfl, ⟨G', hE, _⟩, hf⟩
    have he := saveE_twice h1 h2 m s0210 k lx
    refine ⟨by rw [he], ⟨G', h.frb hf ?_⟩, hf⟩
    rw [saveM, if_neg (by rw [he]; decide)] at hE
    exact hE)
/-- What comes out of Restore. -/
def GotPost (w : World) (mti : ByteArray) (l : Ns) (is : Bool) (e : Ending) (w' : World) : Prop :=
  ∃ A c, e = .returned (.tuple #[.agg #[.string mti, .slice A l.len c], .bool is]) ∧ Rd w' (fun i => w.heap.size ≤ i) (.slice A l.len c) l ∧ Fr0 w w'
theorem got {w : World} {mti : ByteArray} {l : Ns} {is : Bool} {e : Ending} {w' : World} (h : RestPost w (mti, l, is) e w') : GotPost w mti l is e w' := by
  obtain ⟨A, c, S, rfl, ho, _, hf⟩ := h
  have hl := ho.lt
  exact ⟨A, c, rfl, ho.read.keep (fun _ _ => rfl) fun i hi => (hl i hi).1, hf⟩
def restR (xs : List Int) (lm lx : Ns) : Ns := (foldWith (lm.keep (memKeep xs)) (s0210, lx.keep (memWithout xs))).2
theorem BackW.restM {n : Int} (h : BackW w G g b f c xs vx [(n, s0200, lm.keep (memKeep xs))] X Y lm lx vm vy) (hw : wholeF lm 0 = true) (hs : lm.sz ≤ 1000) :
    Calls Try.prog 27 #[.pointer (some ⟨g, 0, none⟩), .int .i64 n, .agg #[.string s0200, vm]] w (GotPost w s0200 lm true) := by
  have hRA := restore_any (mti := s0200) h.e n h.rm (by omega) (by
    intro m kl h
    rw [lookM_one] at h
    obtain ⟨rfl, rfl⟩ := Prod.mk.inj (Option.some.inj h)
    have := sz_keep_le (memKeep xs) lm
    omega)
  rw [restF_one (by simp [wholeB, hw, right_0200]), restored_self right_0200 hw] at hRA
  exact hRA.mono fun _ _ h => got h
theorem BackW.restX {n : Int} (h : BackW w G g b f c xs vx [(n, s0200, lm.keep (memKeep xs))] X Y lm lx vm vy) (hw : wholeF lm 0 = true) (hwx : wholeF lx 0 = true) (hs : lm.sz ≤ 1000) (hsx : lx.sz ≤ 1000) :
    Calls Try.prog 27 #[.pointer (some ⟨g, 0, none⟩), .int .i64 n, .agg #[.string s0210, vy]] w (GotPost w s0210 (restR xs lm lx) true) := by
  have hRA := restore_any (mti := s0210) h.e n h.rx (by omega) (by
    intro m kl h
    rw [lookM_one] at h
    obtain ⟨rfl, rfl⟩ := Prod.mk.inj (Option.some.inj h)
    have := sz_keep_le (memKeep xs) lm
    omega)
  rw [restF_one (by simp [wholeB, hwx, right_0210]), (restored right_0210 hw hwx xs).1] at hRA
  exact hRA.mono fun _ _ h => got h
theorem BackW.restNo {n : Int} (h : BackW w G g b f c xs vx ms X Y lm lx vm vy) (hl : lookM ms n = none) (hsx : lx.sz ≤ 1000) :
    Calls Try.prog 27 #[.pointer (some ⟨g, 0, none⟩), .int .i64 n, .agg #[.string s0210, vy]] w (GotPost w s0210 lx false) := by
  have hRA := restore_any (mti := s0210) h.e n h.rx (by omega) (by
    intro m kl h
    rw [hl] at h
    exact absurd h (by simp))
  rw [restF_none hl] at hRA
  exact hRA.mono fun _ _ h => got h
theorem BackW.len1 {n : Int} {m : ByteArray} {k : Ns} (h : BackW w G g b f c xs vx [(n, m, k)] X Y lm lx vm vy) : Calls Try.prog 29 #[.pointer (some ⟨g, 0, none⟩)] w fun e w' => e = .returned (.int .i64 1) ∧ w = w' := elen_any h.e
theorem BackW.len0 (h : BackW w G g b f c xs vx [] X Y lm lx vm vy) : Calls Try.prog 29 #[.pointer (some ⟨g, 0, none⟩)] w fun e w' => e = .returned (.int .i64 0) ∧ w = w' := elen_any h.e
theorem BackW.drop1 {n : Int} {m : ByteArray} {k : Ns} (h : BackW w G g b f c xs vx [(n, m, k)] X Y lm lx vm vy) :
    Calls Try.prog 32 #[.pointer (some ⟨g, 0, none⟩), .int .i64 n] w fun e w' => e = .returned (.bool true) ∧ BackW w' G g b f c xs vx [] X Y lm lx vm vy ∧ Fr (fun i => i = b) w w' :=
  (drop_any h.e n).mono (by
    rintro e w' ⟨rfl, he, hf⟩
    rw [dropM_one] at he
    exact ⟨by rw [lookM_one]; rfl, h.frb hf he, hf⟩)
theorem BackW.drop0 (n : Int) (h : BackW w G g b f c xs vx [] X Y lm lx vm vy) :
    Calls Try.prog 32 #[.pointer (some ⟨g, 0, none⟩), .int .i64 n] w fun e w' => e = .returned (.bool false) ∧ BackW w' G g b f c xs vx [] X Y lm lx vm vy ∧ Fr (fun i => i = b) w w' :=
  (drop_any h.e n).mono (by
    rintro e w' ⟨rfl, he, hf⟩
    exact ⟨rfl, h.frb hf he, hf⟩)
end
theorem s0210L : s0210.toList = [48, 50, 49, 48] := by rw [baToList]; rfl
set_option maxRecDepth 100000 in
set_option maxHeartbeats 6400000 in
theorem back_any {raw one two : List Int} {num : Int} {value other : ByteArray} {w : World} {ok1 ok2 ok3 : Nat → Prop} {v1 v2 v3 : Value}
    (hr1 : RdI w ok1 v1 raw) (hr2 : RdI w ok2 v2 one) (hr3 : RdI w ok3 v3 two) (hx1 : ∀ x ∈ raw, -9223372036854775808 ≤ x ∧ x ≤ 9223372036854775807) (hx2 : ∀ x ∈ one, -9223372036854775808 ≤ x ∧ x ≤ 9223372036854775807)
    (hx3 : ∀ x ∈ two, -9223372036854775808 ≤ x ∧ x ≤ 9223372036854775807) (hn1 : raw.length ≤ 9223372036854775807) (hn2 : one.length ≤ 9223372036854775807) (hn3 : two.length ≤ 9223372036854775807) (hnum : -9223372036854775808 ≤ num ∧ num ≤ 9223372036854775807) :
    Calls Try.prog 6 #[v1, v2, v3, .int .i64 num, .string value, .string other] w fun e w' => e = .returned (.bool true) ∧ Fr0 w w' := by
  obtain ⟨A1, c1, rfl, _, _⟩ := id hr1
  obtain ⟨A2, c2, rfl, _, _⟩ := id hr2
  obtain ⟨A3, c3, rfl, _, _⟩ := id hr3
  have HX2 := Lib.hid hx2
  have HX3 := Lib.hid hx3
  clear hx2 hx3
  go_enter Try.func6, Try.ntmps6
  go_wp2_with fail
  refine (known_any w).mono ?_
  rintro e W0 ⟨rfl, hf0⟩
  go_wp2_with fail
  refine (fieldsN_any (hr1.fr0 hf0) hx1 hn1).mono ?_
  rintro e W1 ⟨xs, Ax, cx, rfl, hxs, hE, hxl, hf1⟩
  have hne := echoB_ne hE
  have HE := Lib.hid hE
  have hf01 := hf0.trans hf1
  clear hr1 hx1 hE hf0 hf1
  go_wp2_with fail
  refine (newecho_any hxs (by omega)).mono ?_
  intro e W2 hp
  rw [NewEchoPost, if_pos HE.out] at hp
  obtain ⟨g, b, f, c, rfl, hB, hN, hM, l1, l2, l3, n1, n2, n3, hf2⟩ := hp
  have E2 := EchoW.new hB hN hM (by omega) hne n1 n2 n3
  have hbx := l2
  have F2 : Fr0 w W2 := hf01.trans hf2
  have hxs2 := hxs.fr0 hf2
  have hb1 : w.heap.size ≤ b := by have := hf01.size; omega
  have hbW2 : b < W2.heap.size := hM.lt
  have HNE := Lib.hid hne
  clear hf01 hf2 hB hN hM l1 l2 l3 n1 n2 n3 hxs hne
  by_cases hv : value.size ≤ 2000
  · by_cases ho : other.size ≤ 2000
    · go_wp2_with fail
      refine (pick_any hnum.1 hnum.2 (by omega) (by omega) W2).mono ?_
      rintro e W ⟨rfl, rfl⟩
      have hp := pickF_in (c := num) (n := 999999) (by omega)
      obtain ⟨n, hnn⟩ : ∃ n, n = 1 + pickF num 999999 := ⟨_, rfl⟩
      have hb12 : 1 ≤ n ∧ n ≤ 999999 := by omega
      have hw1 : IntKind.i64.wrap (1 + pickF num 999999) = n := by rw [hnn]; exact IntWalk.i64_in _ (by omega)
      clear hp hnn hnum
      go_wp2_with fail
      refine (msgN_any (mti := s0200) (hr2.fr0 F2) HX2.out hn2 hv).mono ?_
      rintro e W3 ⟨lm, Am, cm, Sm, rfl, hom, hndm, hpm, hf3⟩
      have hs3 := hf3.size
      obtain ⟨W4, hW4⟩ : ∃ W4, W4 = W3.alloc (.cells #[.string s0200, .slice Am lm.len cm] 37) := ⟨_, rfl⟩
      have b18 : Blk W4 W3.heap.size 37 #[.string s0200, .slice Am lm.len cm] := by rw [hW4]; exact Blk.new _ _ _
      have hf4 : Fr0 W3 W4 := by rw [hW4]; exact (Fr.refl _ _).alloc _
      have hom4 := hom.fr0 hf4
      have hr34 := (hr3.fr0 F2).fr0 (hf3.trans hf4)
      have HW4 := Lib.hid hW4
      obtain ⟨X18, hX18⟩ : ∃ X, X = W3.heap.size := ⟨_, rfl⟩
      rw [← hX18] at b18
      have hlX : W2.heap.size ≤ X18 := by omega
      have HX18 := Lib.hid hX18
      have HOM := Lib.hid hom4
      have HPM := Lib.hid hpm
      clear hom hndm hr2 hr3 hpm hW4 hX18 hom4
      have hW4' := HW4.out.symm
      have hX18' := HX18.out.symm
      go_wp2_with fail
      clear hW4' hX18'
      refine (msgN_any (mti := s0210) hr34 HX3.out hn3 ho).mono ?_
      rintro e W5 ⟨lx, Ay, cy, Sx, rfl, hox, hndx, hpx, hf5⟩
      have hs4 := hf4.size
      have hs5 := hf5.size
      obtain ⟨W6, hW6⟩ : ∃ W6, W6 = W5.alloc (.cells #[.string s0210, .slice Ay lx.len cy] 37) := ⟨_, rfl⟩
      have b19 : Blk W6 W5.heap.size 37 #[.string s0210, .slice Ay lx.len cy] := by rw [hW6]; exact Blk.new _ _ _
      have hf6 : Fr0 W5 W6 := by rw [hW6]; exact (Fr.refl _ _).alloc _
      have HOX := Lib.hid (hox.fr0 hf6)
      obtain ⟨X19, hX19⟩ : ∃ X, X = W5.heap.size := ⟨_, rfl⟩
      rw [← hX19] at b19
      have hlX9 : W2.heap.size ≤ X19 := by omega
      have HX19 := Lib.hid hX19
      have HPX := Lib.hid hpx
      have hf56 := hf5.trans hf6
      have hf26 := (hf3.trans hf4).trans hf56
      have hom6 := HOM.out.fr0 hf56
      have b18 := b18.fr0 hf56
      have HW6 := Lib.hid hW6
      have F6 := F2.trans hf26
      have HXS := Lib.hid (hxs2.fr0 hf26)
      have E6 := Lib.hid (E2.fr0 hf26)
      have HOM := Lib.hid hom6
      have HOX := Lib.hid (HOX.out.mono (show W2.heap.size ≤ _ by omega))
      clear hox hndx hr34 hpx hW6 hX19 hf3 hf4 hf5 hf6 hf56 hf26 hs3 hs4 hs5 E2 hxs2 hom6 F2
      have hlt2 := HOM.out.lt
      have hlt3 := HOX.out.lt
      have B6 : BackW W6 (fun _ => False) g b f c xs (.slice Ax xs.length cx) [] X18 X19 lm lx (.slice Am lm.len cm) (.slice Ay lx.len cy) :=
        ⟨E6.out, b18, b19, HOM.out.read.keep (fun _ _ => rfl) (fun i hi => by have := (hlt2 i hi).1; omega), HOX.out.read.keep (fun _ _ => rfl) (fun i hi => by have := (hlt3 i hi).1; omega), HXS.out.weak (fun i hi => by omega), by omega, by omega⟩
      have x0 := b18.cell 0
      have x1 := b18.cell 1
      have hW6' := HW6.out.symm
      have hX19' := HX19.out.symm
      have hwm := HPM.out.whole
      have hwx := HPX.out.whole
      have hszm := HPM.out.sz
      have hszx := HPX.out.sz
      have hwfm := HPM.out.wf
      have HWM := Lib.hid (And.intro hwm hwx)
      have HWF := Lib.hid hwfm
      clear hlt2 hlt3 HOM HOX E6 HXS b18 b19 hlX hlX9 hwm hwx hwfm HPM HPX
      go_wp2_with fail
      clear hW6' hX19' x0 x1
      refine (B6.save hb12.1 hb12.2 HWM.out.1 (by omega)).mono ?_
      rintro e W7 ⟨rfl, ⟨G7, B7⟩, hf7⟩
      have F7 : Fr (fun i => w.heap.size ≤ i) w W7 := (F6.mono fun _ _ e => e.elim).trans' hf7 fun i hi e => by omega
      have y0 := B7.by'.cell 0
      have y1 := B7.by'.cell 1
      clear hf7 B6 F6
      go_wp2_with fail
      refine (B7.again hb12.1 hb12.2 (by omega)).mono ?_
      rintro e W8 ⟨rfl, ⟨G8, B8⟩, hf8⟩
      have F8 : Fr (fun i => w.heap.size ≤ i) w W8 := F7.trans' hf8 fun i hi e => by omega
      have x0 := B8.bm.cell 0
      have x1 := B8.bm.cell 1
      clear hf8 B7 F7 y0 y1
      go_wp2_with fail
      refine (B8.restM HWM.out.1 (by omega)).mono ?_
      rintro e W9 ⟨Aa, ca, rfl, hra, hf9⟩
      obtain ⟨W10, hW10⟩ : ∃ W10, W9.alloc (.cells #[.string s0200, .slice Aa lm.len ca] 37) = W10 := ⟨_, rfl⟩
      have b22 : Blk W10 W9.heap.size 37 #[.string s0200, .slice Aa lm.len ca] := by rw [← hW10]; exact Blk.new _ _ _
      have hf10 : Fr0 W9 W10 := by rw [← hW10]; exact (Fr.refl _ _).alloc _
      have hra := hra.fr0 hf10
      have B10 := (B8.fr0 hf9).fr0 hf10
      have F10 := (F8.trans0 hf9).trans0 hf10
      obtain ⟨X22, hX22⟩ : ∃ X, W9.heap.size = X := ⟨_, rfl⟩
      rw [hX22] at b22
      have x0 := B10.by'.cell 0
      have x1 := B10.by'.cell 1
      clear hf9 hf10 B8 F8
      go_wp2_with fail
      clear hW10 hX22 x0 x1
      refine (B10.restX HWM.out.1 HWM.out.2 (by omega) (by omega)).mono ?_
      rintro e W11 ⟨Ab, cb, rfl, hrb, hf11⟩
      obtain ⟨R, hR⟩ : ∃ R, R = restR xs lm lx := ⟨_, rfl⟩
      rw [← hR] at hrb ⊢
      have HR := Lib.hid hR
      obtain ⟨W12, hW12⟩ : ∃ W12, W11.alloc (.cells #[.string s0210, .slice Ab R.len cb] 37) = W12 := ⟨_, rfl⟩
      have b24 : Blk W12 W11.heap.size 37 #[.string s0210, .slice Ab R.len cb] := by rw [← hW12]; exact Blk.new _ _ _
      have hf12 : Fr0 W11 W12 := by rw [← hW12]; exact (Fr.refl _ _).alloc _
      have hrb := hrb.fr0 hf12
      have B12 := (B10.fr0 hf11).fr0 hf12
      have F12 := (F10.trans0 hf11).trans0 hf12
      have b22 := b22.fr0 (hf11.trans hf12)
      have hra := hra.fr0 (hf11.trans hf12)
      obtain ⟨X24, hX24⟩ : ∃ X, W11.heap.size = X := ⟨_, rfl⟩
      rw [hX24] at b24
      have x0 := B12.by'.cell 0
      have x1 := B12.by'.cell 1
      have hmod : n.tmod 999999 = n % 999999 := Int.tmod_eq_emod_of_nonneg (by omega)
      have hw2 : IntKind.i64.wrap (n % 999999 + 1) = n % 999999 + 1 := IntWalk.i64_in _ (by omega)
      have hne' : n ≠ n % 999999 + 1 := by omega
      have hb24 : X24 ≠ b := by
        obtain ⟨es, hm, _⟩ := B10.e.map
        have h1 := hm.lt
        have h2 := hf11.size
        omega
      have HN24 := Lib.hid hb24
      clear hf11 hf12 B10 F10 hR hb24
      go_wp2_with fail
      clear hW12 hX24 x0 x1 hmod hw2
      refine (B12.restNo (lookM_other hne' _ _) (by omega)).mono ?_
      rintro e W13 ⟨Ac, cc, rfl, hrc, hf13⟩
      obtain ⟨W14, hW14⟩ : ∃ W14, W13.alloc (.cells #[.string s0210, .slice Ac lx.len cc] 37) = W14 := ⟨_, rfl⟩
      have hf14 : Fr0 W13 W14 := by rw [← hW14]; exact (Fr.refl _ _).alloc _
      have B14 := (B12.fr0 hf13).fr0 hf14
      have F14 := (F12.trans0 hf13).trans0 hf14
      have b22 := b22.fr0 (hf13.trans hf14)
      have b24 := b24.fr0 (hf13.trans hf14)
      have hra := hra.fr0 (hf13.trans hf14)
      have hrb := hrb.fr0 (hf13.trans hf14)
      have x0 := b22.cell 0
      have x1 := b22.cell 1
      have y0 := B14.bm.cell 0
      have y1 := B14.bm.cell 1
      have hlm := lm.len_le_sz
      clear hrc hf13 hf14 B12 F12 hne'
      go_wp2_with fail
      clear hW14 x0 x1 y0 y1
      refine (same_any (m := s0200) (m' := s0200) (by omega) (by omega) HWF.out HWF.out hra B14.rm).mono ?_
      rintro e W15 ⟨rfl, hf15⟩
      rw [sameF_refl, decide_eq_true rfl, Bool.and_self]
      have B15 := B14.fr0 hf15
      have F15 := F14.trans0 hf15
      have b24 := b24.fr0 hf15
      have hrb := hrb.fr0 hf15
      have z0 := b24.cell 0
      have hL := s0210L
      have HR24 := Lib.hid (And.intro b24 hrb)
      obtain ⟨_, hRw, hRf⟩ := restored right_0210 HWM.out.1 HWM.out.2 xs
      have hRR := HR.out
      rw [restR] at hRR
      rw [← hRR] at hRw hRf
      have HRF := Lib.hid hRf
      have HRA := Lib.hid (wholeF_asc _ _ hRw)
      have HRW := Lib.hid hRw
      have hRlen : R.len ≤ 10000 := by
        have h1 := sz_foldWith_le (lm.keep (memKeep xs)) (s0210, lx.keep (memWithout xs))
        rw [← hRR] at h1
        simp only at h1
        have h2 := sz_keep_le (memKeep xs) lm
        have h3 := sz_keep_le (memWithout xs) lx
        have h4 := R.len_le_sz
        omega
      clear hra hf15 B14 F14 b22 hlm hrb b24 hRw hRf hRR
      have HB15 := Lib.hid B15
      go_wp2_with fail
      refine (HB15.out.len1).mono ?_
      rintro e W ⟨rfl, rfl⟩
      clear B15 z0
      go_wp2_with fail
      clear hL
      go_loopw [29, 30] (fun t i wr => ∃ done rest : Ns, R = done.app rest ∧ t = .int .i64 (done.lastT 0) ∧ i = .int .i64 done.len ∧ Fr0 W15 wr) (fun _ i _ => R.len - (intOf i).toNat)
      case atStart => exact ⟨.nil, R, rfl, rfl, rfl, Fr.refl _ _⟩
      case round =>
        obtain ⟨done, rest, hdr, rfl, rfl, hfr⟩ := hrel
        have b24 := HR24.out.1.fr0 hfr
        have z1 := b24.cell 1
        have HDR := Lib.hid hdr
        cases rest with
        | nil =>
          have hlt : ¬ ((done.len : Int) < (R.len : Int)) := by rw [hdr, Ns.app_nil]; omega
          clear hdr HDR
          go_wp2_with fail
          go_loopw [36, 37] (fun t i wr => ∃ K : Int, i = .int .i64 K ∧ 2 ≤ K ∧ K ≤ 129 ∧ t = .int .i64 (R.lo K).len ∧ Fr0 W15 wr) (fun _ i _ => (129 - intOf i).toNat)
          case atStart => exact ⟨2, rfl, by omega, by omega, by rw [lo_none HRW.out]; rfl, hfr⟩
          case round =>
            obtain ⟨K, rfl, hK2, hK9, rfl, hfr2⟩ := hrel
            have B16 := Lib.hid (HB15.out.fr0 hfr2)
            by_cases hK : K ≤ 128
            · have hst := lo_step K R 0 HRA.out
              have hfi := HRF.out K
              have hmany := R.len_lo_le K
              obtain ⟨M, hM⟩ : ∃ M, M = (R.lo K).len := ⟨_, rfl⟩
              rw [← hM] at hst hmany
              have HM := Lib.hid hM
              have hw1 : IntKind.i64.wrap ((M : Int) + 1) = (M : Int) + 1 := IntWalk.i64_in _ (by omega)
              have hwK : IntKind.i64.wrap (K + 1) = K + 1 := IntWalk.i64_in _ (by omega)
              have HH := Lib.hid (hasI_any xs K wr _ _ (by omega) B16.out.rxs)
              have x0 := B16.out.bm.cell 0
              have x1 := B16.out.bm.cell 1
              have y0 := B16.out.by'.cell 0
              have y1 := B16.out.by'.cell 1
              rw [← hM]
              clear hM
              cases hd : decide (K ∈ xs) with
              | true =>
                rw [hd] at HH
                rw [if_pos (of_decide_eq_true hd)] at hfi
                have hal : Fr0 wr (wr.alloc (.cells #[.string s0200, .slice Am lm.len cm] 37)) := (Fr.refl _ _).alloc _
                have HG := get_any (mti := s0200) (by have := lm.len_le_sz; omega) (B16.out.rm.fr0 hal) K
                rw [getF_find, ← hfi] at HG
                have HAL := Lib.hid hal
                have ha2 : Fr0 wr (wr.alloc (.cells #[.string s0210, .slice Ay lx.len cy] 37)) := (Fr.refl _ _).alloc _
                have x0 := ha2.cell0 x0
                have x1 := ha2.cell0 x1
                cases ho : findF K R with
                | none =>
                  rw [ho] at HG hst
                  have HG := Lib.hid HG
                  have HST := Lib.hid hst
                  clear hd hfi hal ha2 hst ho
                  go_wp2_with fail
                  refine HH.out.mono ?_
                  rintro e W ⟨rfl, rfl⟩
                  go_wp2_with fail
                  refine HG.out.mono ?_
                  rintro e W16 ⟨rfl, hf16⟩
                  have HF := Lib.hid (hfr2.trans (HAL.out.trans hf16))
                  clear hf16
                  go_wp2_with fail
                  go_roundw
                  case rel => exact ⟨K + 1, rfl, by omega, by omega, by rw [HST.out]; rfl, HF.out⟩
                  case measure => simp [intOf]; omega
                | some p =>
                  rw [ho] at HG hst
                  have HG := Lib.hid HG
                  have HST := Lib.hid hst
                  clear hd hfi hal ha2 hst ho
                  go_wp2_with fail
                  refine HH.out.mono ?_
                  rintro e W ⟨rfl, rfl⟩
                  go_wp2_with fail
                  refine HG.out.mono ?_
                  rintro e W16 ⟨rfl, hf16⟩
                  have HF := Lib.hid (hfr2.trans (HAL.out.trans hf16))
                  clear hf16
                  go_wp2_with fail
                  go_roundw
                  case rel => exact ⟨K + 1, rfl, by omega, by omega, by rw [HST.out]; rfl, HF.out⟩
                  case measure => simp [intOf]; omega
              | false =>
                rw [hd] at HH
                rw [if_neg (of_decide_eq_false hd)] at hfi
                have hal : Fr0 wr (wr.alloc (.cells #[.string s0210, .slice Ay lx.len cy] 37)) := (Fr.refl _ _).alloc _
                have HG := get_any (mti := s0210) (by have := lx.len_le_sz; omega) (B16.out.rx.fr0 hal) K
                rw [getF_find, ← hfi] at HG
                have HAL := Lib.hid hal
                cases ho : findF K R with
                | none =>
                  rw [ho] at HG hst
                  have HG := Lib.hid HG
                  have HST := Lib.hid hst
                  clear hd hfi hal hst ho
                  go_wp2_with fail
                  refine HH.out.mono ?_
                  rintro e W ⟨rfl, rfl⟩
                  go_wp2_with fail
                  refine HG.out.mono ?_
                  rintro e W16 ⟨rfl, hf16⟩
                  have HF := Lib.hid (hfr2.trans (HAL.out.trans hf16))
                  clear hf16
                  go_wp2_with fail
                  go_roundw
                  case rel => exact ⟨K + 1, rfl, by omega, by omega, by rw [HST.out]; rfl, HF.out⟩
                  case measure => simp [intOf]; omega
                | some p =>
                  rw [ho] at HG hst
                  have HG := Lib.hid HG
                  have HST := Lib.hid hst
                  clear hd hfi hal hst ho
                  go_wp2_with fail
                  refine HH.out.mono ?_
                  rintro e W ⟨rfl, rfl⟩
                  go_wp2_with fail
                  refine HG.out.mono ?_
                  rintro e W16 ⟨rfl, hf16⟩
                  have HF := Lib.hid (hfr2.trans (HAL.out.trans hf16))
                  clear hf16
                  go_wp2_with fail
                  go_roundw
                  case rel => exact ⟨K + 1, rfl, by omega, by omega, by rw [HST.out]; rfl, HF.out⟩
                  case measure => simp [intOf]; omega
            · obtain rfl : K = 129 := by omega
              rw [lo_all R 0 HRA.out]
              go_wp2_with fail
              refine B16.out.drop1.mono ?_
              rintro e W17 ⟨rfl, B17, hf17⟩
              go_wp2_with fail
              refine (B17.drop0 n).mono ?_
              rintro e W18 ⟨rfl, B18, hf18⟩
              have x0 := B18.by'.cell 0
              have x1 := B18.by'.cell 1
              go_wp2_with fail
              refine (B18.restNo rfl (by omega)).mono ?_
              rintro e W19 ⟨A9, c9, rfl, hr9, hf19⟩
              have hf20 : Fr0 W19 (W19.alloc (.cells #[.string s0210, .slice A9 lx.len c9] 37)) := (Fr.refl _ _).alloc _
              have F20 : Fr (fun i => w.heap.size ≤ i) w (W19.alloc (.cells #[.string s0210, .slice A9 lx.len c9] 37)) := ((((F15.trans0 hfr2).trans' hf17 fun i hi e => by omega).trans' hf18 fun i hi e => by omega).trans0 hf19).trans0 hf20
              have z24 := (((HR24.out.1.fr0 hfr2).fr hf17 HN24.out).fr hf18 HN24.out).fr0 (hf19.trans hf20)
              have z1 := z24.cell 1
              have B20 := Lib.hid ((B18.fr0 hf19).fr0 hf20)
              have HF20 := Lib.hid F20
              clear hf17 hf18 hf19 hf20 F20 B17 B18 z24 hr9 B16 hfr2 x0 x1
              go_wp2_with fail
              refine B20.out.len0.mono ?_
              rintro e W ⟨rfl, rfl⟩
              go_wp2_with fail
              go_ret
              exact ⟨rfl, HF20.out.mono fun i hi h => by omega⟩
        | cons t v k r =>
          have hll : R.len = done.len + (r.len + 1) := by rw [hdr, Ns.len_app]; rfl
          have hlt : (done.len : Int) < (R.len : Int) := by omega
          have hlt' : done.len < R.len := by omega
          have hrb := HR24.out.2.fr0 hfr
          obtain ⟨A', c', hv', _, hcase⟩ := hrb
          injection hv' with e1 e2 e3
          subst e1 e3
          obtain ⟨bb, o, rfl, hrd⟩ : ∃ b o, Ab = some ⟨b, o, none⟩ ∧ RdFrom wr (fun i => W10.heap.size ≤ i) (done.app (.cons t v k r)) b o := by
            rw [hdr] at hcase
            rcases hcase with h | h
            · exact absurd (congrArg Ns.len h) (by rw [Ns.len_app]; simp only [Ns.len]; omega)
            · exact h
          have hrd' := RdFrom.app done (.cons t v k r) bb o hrd
          have q0 := hrd'.2.1
          have q1 := hrd'.2.2.1
          have hasc := HRA.out
          rw [hdr] at hasc
          have hlast := lastT_lt t v k r done 0 hasc
          have hle : ¬ (t ≤ done.lastT 0) := by omega
          have hat := findF_at t v k r done 0 hasc
          rw [← hdr, HRF.out t] at hat
          have HH := Lib.hid (hasI_any xs t wr _ _ (by omega) (HB15.out.fr0 hfr).rxs)
          have hlw : IntKind.i64.wrap ((done.len : Int) + 1) = (done.len : Int) + 1 := IntWalk.i64_in _ (by omega)
          have B16 := Lib.hid (HB15.out.fr0 hfr)
          have x0 := B16.out.bm.cell 0
          have x1 := B16.out.bm.cell 1
          have y0 := B16.out.by'.cell 0
          have y1 := B16.out.by'.cell 1
          clear hdr hrd hrd' hasc hlast hcase e2 hll
          cases hd : decide (t ∈ xs) with
          | true =>
            rw [hd] at HH
            rw [if_pos (of_decide_eq_true hd)] at hat
            have hg : getF t lm = some v := by rw [getF_find, hat]; rfl
            have hal : Fr0 wr (wr.alloc (.cells #[.string s0200, .slice Am lm.len cm] 37)) := (Fr.refl _ _).alloc _
            have HG := Lib.hid (get_any (mti := s0200) (by have := lm.len_le_sz; omega) (B16.out.rm.fr0 hal) t)
            rw [hg] at HG
            have HAL := Lib.hid hal
            have ha2 : Fr0 wr (wr.alloc (.cells #[.string s0210, .slice Ay lx.len cy] 37)) := (Fr.refl _ _).alloc _
            have x0 := ha2.cell0 x0
            have x1 := ha2.cell0 x1
            clear hd hat hg hal ha2
            go_wp2_with fail
            refine HH.out.mono ?_
            rintro e W ⟨rfl, rfl⟩
            go_wp2_with fail
            refine HG.out.mono ?_
            rintro e W16 ⟨rfl, hf16⟩
            have hf := HAL.out.trans hf16
            have z1 := (b24.fr0 hf).cell 1
            have q1 := hf.cell0 q1
            have HF := Lib.hid (hfr.trans hf)
            clear hf16 hf
            go_wp2_with fail
            go_roundw
            case rel => exact ⟨done.app (.one t v k), r, by rw [HDR.out]; simp [Ns.app_assoc, Ns.one, Ns.app], by rw [lastT_app1], by simp [Ns.len_app, Ns.one, Ns.len], HF.out⟩
            case measure => simp [intOf]; omega
          | false =>
            rw [hd] at HH
            rw [if_neg (of_decide_eq_false hd)] at hat
            have hg : getF t lx = some v := by rw [getF_find, hat]; rfl
            have hal : Fr0 wr (wr.alloc (.cells #[.string s0210, .slice Ay lx.len cy] 37)) := (Fr.refl _ _).alloc _
            have HG := Lib.hid (get_any (mti := s0210) (by have := lx.len_le_sz; omega) (B16.out.rx.fr0 hal) t)
            rw [hg] at HG
            have HAL := Lib.hid hal
            clear hd hat hg hal
            go_wp2_with fail
            refine HH.out.mono ?_
            rintro e W ⟨rfl, rfl⟩
            go_wp2_with fail
            refine HG.out.mono ?_
            rintro e W16 ⟨rfl, hf16⟩
            have hf := HAL.out.trans hf16
            have z1 := (b24.fr0 hf).cell 1
            have q1 := hf.cell0 q1
            have HF := Lib.hid (hfr.trans hf)
            clear hf16 hf
            go_wp2_with fail
            go_roundw
            case rel => exact ⟨done.app (.one t v k), r, by rw [HDR.out]; simp [Ns.app_assoc, Ns.one, Ns.app], by rw [lastT_app1], by simp [Ns.len_app, Ns.one, Ns.len], HF.out⟩
            case measure => simp [intOf]; omega
    · go_wp2_with fail
      go_ret
      exact ⟨rfl, F2⟩
  · go_wp2_with fail
    go_ret
    exact ⟨rfl, F2⟩
end Go.Proofs.Ytaeneoenihonkaa
