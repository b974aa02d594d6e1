/- Echo: has, Save, Drop, Len: their contracts, proved by walks. -/
import Derived.Test.YtgeiimifhbiklaaEcho
namespace Go.Proofs.Ytgeiimifhbiklaa
open Go.RowKit

theorem undMM : Try.prog.underlying 90 = some (.map 3 37) := by kernel_rfl
theorem undI2 : Try.prog.underlying 3 = some (.int .i64) := by kernel_rfl
def zeroMsg : Value := .agg #[.string ⟨#[]⟩, .slice none 0 0]
theorem zeroM (w : World) : (zeroValue 37).run Try.prog w = .ok zeroMsg w := by kernel_rfl
abbrev Kept := Int × ByteArray × Ns
def lookM (ms : List Kept) (n : Int) : Option (ByteArray × Ns) := (ms.find? fun q => q.1 == n).map (·.2)
/-- What is kept, as it lies in memory. -/
def KeptR (w : World) (G : Nat → Prop) : List (Int × Value) → List Kept → Prop
  | [], [] => True
  | p :: es, q :: ms => (p.1 = q.1 ∧ (∃ A c, p.2 = .agg #[.string q.2.1, .slice A q.2.2.len c] ∧ Rd w G (.slice A q.2.2.len c) q.2.2) ∧ q.2.2.sz ≤ 1099511627776) ∧ KeptR w G es ms
  | _, _ => False
theorem KeptR.keep {w w' : World} {G G' : Nat → Prop} (hk : ∀ g, G g → w'.heap[g]? = w.heap[g]?) (ho : ∀ g, G g → G' g) : ∀ {es : List (Int × Value)} {ms : List Kept}, KeptR w G es ms → KeptR w' G' es ms
  | [], [], _ => trivial
  | p :: es, q :: ms, h => ⟨⟨h.1.1, (by
      obtain ⟨A, c, h1, h2⟩ := h.1.2.1
      exact ⟨A, c, h1, h2.keep hk ho⟩), h.1.2.2⟩, KeptR.keep hk ho h.2⟩
  | [], _ :: _, h => h.elim
  | _ :: _, [], h => h.elim
theorem KeptR.look {w : World} {G : Nat → Prop} (n : Int) : ∀ {es : List (Int × Value)} {ms : List Kept}, KeptR w G es ms →
    (lookM ms n = none ∧ look es n = none) ∨ ∃ mti l A c, lookM ms n = some (mti, l) ∧ look es n = some (.agg #[.string mti, .slice A l.len c]) ∧ Rd w G (.slice A l.len c) l ∧ l.sz ≤ 1099511627776
  | [], [], _ => .inl ⟨rfl, rfl⟩
  | p :: es, q :: ms, h => by
    obtain ⟨⟨h1, ⟨A, c, h2, h3⟩, h4⟩, h5⟩ := h
    by_cases e : q.1 = n
    · right
      refine ⟨q.2.1, q.2.2, A, c, by simp [lookM, e], ?_, h3, h4⟩
      simp [Go.Proofs.Ytgeiimifhbiklaa.look, h1, e, h2]
    · rcases KeptR.look n h5 with ⟨h6, h7⟩ | ⟨mti, l, A', c', h6, h7, h8, h9⟩
      · left
        refine ⟨?_, ?_⟩
        · simpa [lookM, e] using h6
        · simpa [Go.Proofs.Ytgeiimifhbiklaa.look, h1, e] using h7
      · right
        refine ⟨mti, l, A', c', ?_, ?_, h8, h9⟩
        · simpa [lookM, e] using h6
        · simpa [Go.Proofs.Ytgeiimifhbiklaa.look, h1, e] using h7
  | [], _ :: _, h => h.elim
  | _ :: _, [], h => h.elim
theorem KeptR.add {w : World} {G : Nat → Prop} {n : Int} {mti : ByteArray} {l : Ns} {A : Option Addr} {c : Nat} (hr : Rd w G (.slice A l.len c) l) (hs : l.sz ≤ 1099511627776) :
    ∀ {es : List (Int × Value)} {ms : List Kept}, KeptR w G es ms → lookM ms n = none → KeptR w G (setKey es n (.agg #[.string mti, .slice A l.len c])) (ms ++ [(n, mti, l)])
  | [], [], _, _ => ⟨⟨rfl, ⟨A, c, rfl, hr⟩, hs⟩, trivial⟩
  | p :: es, q :: ms, h, hn => by
    have e : ¬ q.1 = n := by
      intro e
      simp [lookM, e] at hn
    have hn' : lookM ms n = none := by simpa [lookM, e] using hn
    rw [setKey, if_neg (by rw [h.1.1]; exact e)]
    exact ⟨h.1, KeptR.add hr hs h.2 hn'⟩
  | [], _ :: _, h, _ => h.elim
  | _ :: _, [], h, _ => h.elim
def dropM : List Kept → Int → List Kept
  | [], _ => []
  | q :: r, n => if q.1 = n then r else q :: dropM r n
theorem KeptR.drop {w : World} {G : Nat → Prop} (n : Int) : ∀ {es : List (Int × Value)} {ms : List Kept}, KeptR w G es ms → KeptR w G (dropKey es n) (dropM ms n)
  | [], [], _ => trivial
  | p :: es, q :: ms, h => by
    by_cases e : q.1 = n
    · rw [dropKey, dropM, if_pos (by rw [h.1.1]; exact e), if_pos e]
      exact h.2
    · rw [dropKey, dropM, if_neg (by rw [h.1.1]; exact e), if_neg e]
      exact ⟨h.1, KeptR.drop n h.2⟩
  | [], _ :: _, h => h.elim
  | _ :: _, [], h => h.elim
theorem KeptR.length {w : World} {G : Nat → Prop} : ∀ {es : List (Int × Value)} {ms : List Kept}, KeptR w G es ms → es.length = ms.length
  | [], [], _ => rfl
  | p :: es, q :: ms, h => by simp [KeptR.length h.2]
  | [], _ :: _, h => h.elim
  | _ :: _, [], h => h.elim
/-- An Echo in memory: its block g, its map b, its numbers' block f; what is kept reads from blocks of G. -/
structure EchoW (w : World) (G : Nat → Prop) (g b f c : Nat) (xs : List Int) (ms : List Kept) : Prop where
  blk : Blk w g 92 #[.slice (some ⟨f, 0, none⟩) xs.length c, .map (some b)]
  nums : RdI w (· = f) (.slice (some ⟨f, 0, none⟩) xs.length c) xs
  len : xs.length ≤ 1099511627776
  map : ∃ es, MapI w b es ∧ KeptR w G es ms
  lt : ∀ i, G i → i < w.heap.size
  fl : f < w.heap.size
  gb : g ≠ b
  gf : g ≠ f
  bf : b ≠ f
  Gg : ¬ G g
  Gb : ¬ G b
  Gf : ¬ G f
theorem EchoW.fr {w w' : World} {G H : Nat → Prop} {g b f c : Nat} {xs : List Int} {ms : List Kept} (h : EchoW w G g b f c xs ms) (hf : Fr H w w') (h1 : ¬ H g) (h2 : ¬ H b) (h3 : ¬ H f) (h4 : ∀ i, G i → ¬ H i) : EchoW w' G g b f c xs ms :=
  ⟨h.blk.fr hf h1, h.nums.fr hf (fun i e => by rw [e]; exact h3), h.len, h.map.imp fun _ m => ⟨m.1.fr hf h2, m.2.keep (fun i hi => hf.block i (h.lt i hi) (h4 i hi)) fun _ e => e⟩, fun i hi => Nat.lt_of_lt_of_le (h.lt i hi) hf.size, Nat.lt_of_lt_of_le h.fl hf.size, h.gb, h.gf, h.bf, h.Gg, h.Gb, h.Gf⟩
theorem EchoW.fr0 {w w' : World} {G : Nat → Prop} {g b f c : Nat} {xs : List Int} {ms : List Kept} (h : EchoW w G g b f c xs ms) (hf : Fr0 w w') : EchoW w' G g b f c xs ms := h.fr hf id id id fun _ _ e => e
theorem has_any {w : World} {G : Nat → Prop} {g b f c : Nat} {xs : List Int} {ms : List Kept} (h : EchoW w G g b f c xs ms) (n : Int) :
    Calls Try.prog 54 #[.pointer (some ⟨g, 0, none⟩), .int .i64 n] w fun e w' => e = .returned (.bool (lookM ms n).isSome) ∧ Fr0 w w' := by
  obtain ⟨es, hm, hk⟩ := h.map
  have c1 := h.blk.cell 1
  rcases hk.look n with ⟨h1, h2⟩ | ⟨mti, l, A, c', h1, h2, h3, h4⟩
  · have hv : (Value.tuple #[(look es n).getD zeroMsg, .bool (look es n).isSome]) = .tuple #[.agg #[.string ⟨#[]⟩, .slice none 0 0], .bool false] := by rw [h2]; rfl
    have HV := Lib.hid hv
    rw [h1]
    have hm' := Lib.hid hm
    clear hv h1 h2 hm hk h
    go_enter Try.func54, Try.ntmps54
    go_wp2_with (at_lookup; refine wpList_lookup_int rfl _ _ _ _ rfl undMM undI2 (zeroM _) rfl hm'.out _ rfl HV.out ?_)
    go_ret
    exact ⟨rfl, (Fr.refl _ w).alloc _⟩
  · have hv : (Value.tuple #[(look es n).getD zeroMsg, .bool (look es n).isSome]) = .tuple #[.agg #[.string mti, .slice A l.len c'], .bool true] := by rw [h2]; rfl
    have HV := Lib.hid hv
    rw [h1]
    have hm' := Lib.hid hm
    clear hv h1 h2 hm hk h
    go_enter Try.func54, Try.ntmps54
    go_wp2_with (at_lookup; refine wpList_lookup_int rfl _ _ _ _ rfl undMM undI2 (zeroM _) rfl hm'.out _ rfl HV.out ?_)
    go_ret
    exact ⟨rfl, (Fr.refl _ w).alloc _⟩
theorem elen_any {w : World} {G : Nat → Prop} {g b f c : Nat} {xs : List Int} {ms : List Kept} (h : EchoW w G g b f c xs ms) :
    Calls Try.prog 29 #[.pointer (some ⟨g, 0, none⟩)] w fun e w' => e = .returned (.int .i64 ms.length) ∧ w = w' := by
  obtain ⟨es, hm, hk⟩ := h.map
  have c1 := h.blk.cell 1
  have hl := Lib.hid hk.length
  go_enter Try.func29, Try.ntmps29
  go_wp2_with (at_len; refine wpList_len_int rfl _ _ rfl undMM rfl hm ?_)
  go_ret
  exact ⟨by simp only [hl.out]; rfl, rfl⟩
def DropPost (w : World) (G : Nat → Prop) (g b f c : Nat) (xs : List Int) (ms : List Kept) (n : Int) (e : Ending) (w' : World) : Prop :=
  e = .returned (.bool (lookM ms n).isSome) ∧ EchoW w' G g b f c xs (dropM ms n) ∧ Fr (fun i => i = b) w w'
theorem drop_any {w : World} {G : Nat → Prop} {g b f c : Nat} {xs : List Int} {ms : List Kept} (h : EchoW w G g b f c xs ms) (n : Int) :
    Calls Try.prog 32 #[.pointer (some ⟨g, 0, none⟩), .int .i64 n] w (DropPost w G g b f c xs ms n) := by
  have hH := has_any h n
  go_enter Try.func32, Try.ntmps32
  go_wp2_with fail
  refine hH.mono ?_
  rintro e W ⟨rfl, hf1⟩
  have h1 := h.fr0 hf1
  obtain ⟨es, hm, hk⟩ := h1.map
  have c1 := h1.blk.cell 1
  go_wp2_with (at_delete; refine wpList_delete_int rfl _ _ _ _ rfl undMM undI2 rfl hm _ rfl ?_; intro W2 hm2 hf2)
  go_ret
  refine ⟨rfl, ⟨h1.blk.fr hf2 h1.gb, h1.nums.fr hf2 (fun i e => by rw [e]; exact fun e => h1.bf e.symm), h1.len, ⟨_, hm2, (hk.drop n).keep (fun i hi => hf2.block i (h1.lt i hi) fun e => h1.Gb (e ▸ hi)) fun _ e => e⟩,
    fun i hi => Nat.lt_of_lt_of_le (h1.lt i hi) hf2.size, Nat.lt_of_lt_of_le h1.fl hf2.size, h1.gb, h1.gf, h1.bf, h1.Gg, h1.Gb, h1.Gf⟩, (hf1.mono fun _ _ e => e.elim).trans hf2⟩
def saveE (ms : List Kept) (n : Int) (mti : ByteArray) (l : Ns) : Int :=
  if n < 1 ∨ 999999 < n then 1 else if (lookM ms n).isSome = true then 191 else if wholeB mti l = false then 111 else 0
def saveM (xs : List Int) (ms : List Kept) (n : Int) (mti : ByteArray) (l : Ns) : List Kept :=
  if saveE ms n mti l = 0 then ms ++ [(n, mti, l.keep (memKeep xs))] else ms
def SavePost (w : World) (G : Nat → Prop) (g b f c : Nat) (xs : List Int) (ms : List Kept) (n : Int) (mti : ByteArray) (l : Ns) (e : Ending) (w' : World) : Prop :=
  e = .returned (.int .i64 (saveE ms n mti l)) ∧ (∃ G', EchoW w' G' g b f c xs (saveM xs ms n mti l) ∧ ∀ i, G' i → G i ∨ w.heap.size ≤ i) ∧ Fr (fun i => i = b) w w'
theorem sz_keep_le (p : Int → Bool) : ∀ l : Ns, (l.keep p).sz ≤ l.sz
  | .nil => Nat.le_refl _
  | .cons t v k r => by
    have := sz_keep_le p r
    simp only [Ns.keep]
    split <;> simp only [Ns.sz] <;> omega
theorem save_any {w : World} {G : Nat → Prop} {g b f c : Nat} {xs : List Int} {ms : List Kept} (h : EchoW w G g b f c xs ms) (n : Int) {ok : Nat → Prop} {mti : ByteArray} {l : Ns} {u : Value} (hr : Rd w ok u l) (hs : l.sz ≤ 1099511627776) :
    Calls Try.prog 26 #[.pointer (some ⟨g, 0, none⟩), .int .i64 n, .agg #[.string mti, u]] w (SavePost w G g b f c xs ms n mti l) := by
  obtain ⟨A0, c0, rfl, _, _⟩ := id hr
  have HS := Lib.hid hs
  have bad : ∀ W E, Fr0 w W → saveE ms n mti l = E → E ≠ 0 → SavePost w G g b f c xs ms n mti l (.returned (.int .i64 E)) W := fun W E hf he hE =>
    ⟨by rw [he], ⟨G, by rw [saveM, if_neg (by rw [he]; exact hE)]; exact h.fr0 hf, fun _ e => .inl e⟩, hf.mono fun _ _ e => e.elim⟩
  have BAD := Lib.hid bad
  clear hs bad
  by_cases q1 : n < 1
  · have HE := Lib.hid (show saveE ms n mti l = 1 by rw [saveE, if_pos (.inl q1)])
    go_enter Try.func26, Try.ntmps26
    go_wp2_with fail
    go_ret
    exact BAD.out _ _ ((Fr.refl _ w).alloc _) HE.out (by decide)
  · by_cases q2 : 999999 < n
    · have HE := Lib.hid (show saveE ms n mti l = 1 by rw [saveE, if_pos (.inr q2)])
      go_enter Try.func26, Try.ntmps26
      go_wp2_with fail
      go_ret
      exact BAD.out _ _ ((Fr.refl _ w).alloc _) HE.out (by decide)
    · have q12 : ¬ (n < 1 ∨ 999999 < n) := by omega
      have hf0 : Fr0 w (w.alloc (.cells #[.string mti, .slice A0 l.len c0] 37)) := (Fr.refl _ w).alloc _
      have hbx := Blk.new w 37 #[.string mti, .slice A0 l.len c0]
      have hH := has_any (h.fr0 hf0) n
      cases q3 : (lookM ms n).isSome with
      | true =>
        rw [q3] at hH
        have HH := Lib.hid hH
        have HE := Lib.hid (show saveE ms n mti l = 191 by rw [saveE, if_neg q12, if_pos q3])
        clear hH q3 q12
        go_enter Try.func26, Try.ntmps26
        go_wp2_with fail
        refine HH.out.mono ?_
        rintro e W1 ⟨rfl, hf1⟩
        go_wp2_with fail
        go_ret
        exact BAD.out _ _ (hf0.trans hf1) HE.out (by decide)
      | false =>
        rw [q3] at hH
        have HH := Lib.hid hH
        have Q3 := Lib.hid q3
        have Q12 := Lib.hid q12
        clear hH q3 q12
        go_enter Try.func26, Try.ntmps26
        go_wp2_with fail
        refine HH.out.mono ?_
        rintro e W1 ⟨rfl, hf1⟩
        have b1 := hbx.fr0 hf1
        obtain ⟨x1, x2, x3, x4⟩ := agg_msg b1
        have hf01 := hf0.trans hf1
        have hW := whole_any (mti := mti) (hr.fr0 hf01) HS.out
        cases hwb : wholeB mti l with
        | false =>
          rw [hwb] at hW
          have HW := Lib.hid hW
          have HE := Lib.hid (show saveE ms n mti l = 111 by rw [saveE, if_neg Q12.out, if_neg (by rw [Q3.out]; simp), if_pos hwb])
          clear hW hwb
          go_wp2_with fail
          refine HW.out.mono ?_
          rintro e W2 ⟨rfl, hf2⟩
          go_wp2_with fail
          go_ret
          exact BAD.out _ _ (hf01.trans hf2) HE.out (by decide)
        | true =>
          rw [hwb] at hW
          have HW := Lib.hid hW
          have HE := Lib.hid (show saveE ms n mti l = 0 by rw [saveE, if_neg Q12.out, if_neg (by rw [Q3.out]; simp), if_neg (by rw [hwb]; simp)])
          clear hW hwb
          go_wp2_with fail
          refine HW.out.mono ?_
          rintro e W2 ⟨rfl, hf2⟩
          have hf02 := hf01.trans hf2
          obtain ⟨x1, x2, x3, x4⟩ := agg_msg (b1.fr0 hf2)
          have h2 := h.fr0 hf02
          have e0 := h2.blk.cell 0
          have e1 := h2.blk.cell 1
          have h2d := h.fr0 hf02.drew
          obtain ⟨es, hm2, hk2⟩ := h2d.map
          have HK := Lib.hid (Keep_any (mti := mti) (hr.fr0 hf02.drew) HS.out h2d.nums (by have := h2d.len; omega))
          have hb2 : b < W2.heap.size := hm2.lt
          go_wp2_with fail
          go_region_law (go_simp; go_at_call 56; refine HK.out.mono ?_; rintro e w3 ⟨A3, c3, S3, rfl, hown3, hnd3, hf3⟩; have y1 := ((h2d.fr0 hf3).blk.cell 1); obtain ⟨w4, hr4, hm4, hf4⟩ := run_mapUpdate_int (P := Try.prog) undMM undI2 (hm2.fr0 hf3) n (.agg #[.string mti, .slice A3 (l.keep (memKeep xs)).len c3]))
          all_goals
            have hlt3 := hown3.lt
            have hs3 := hf3.size
            have hs02 := hf02.drew.size
            have hgl := h2d.blk.lt
            have hfl := h2d.fl
            have hSb : ∀ i, (G i ∨ i ∈ S3) → i ≠ b := by
              intro i hi e
              rcases hi with hi | hi
              · exact h.Gb (e ▸ hi)
              · have := (hlt3 i hi).1
                have : b < W2.drew.heap.size := hb2
                omega
            have hk3 : KeptR w3 (fun i => G i ∨ i ∈ S3) es ms := hk2.keep (fun i hi => hf3.block i (h2d.lt i hi) id) fun _ e => .inl e
            have hk4 := KeptR.add (n := n) (mti := mti) (hown3.read.keep (fun _ _ => rfl) fun _ e => .inr e) (Nat.le_trans (sz_keep_le _ l) HS.out) hk3 (by simpa using Q3.out)
            have hk5 := hk4.keep (w' := w4) (G' := fun i => G i ∨ i ∈ S3) (fun i hi => hf4.block i (by
              rcases hi with hi | hi
              · have := h2d.lt i hi
                omega
              · exact (hlt3 i hi).2) (hSb i hi)) fun _ e => e
            have hfin : SavePost w G g b f c xs ms n mti l (.returned (.int .i64 0)) w4 := by
              refine ⟨by rw [HE.out], ⟨fun i => G i ∨ i ∈ S3, ?_, ?_⟩, ((hf02.drew.trans hf3).mono fun _ _ e => e.elim).trans hf4⟩
              · rw [saveM, if_pos HE.out]
                refine ⟨(h2d.blk.fr0 hf3).fr hf4 h.gb, (h2d.nums.fr0 hf3).fr hf4 (fun i e => by rw [e]; exact fun e => h.bf e.symm), h.len, ⟨_, hm4, hk5⟩, ?_, ?_, h.gb, h.gf, h.bf, ?_, fun hi => hSb b hi rfl, ?_⟩
                · rintro i (hi | hi)
                  · have := h2d.lt i hi
                    have := hf4.size
                    omega
                  · have := (hlt3 i hi).2
                    have := hf4.size
                    omega
                · have := hf4.size
                  omega
                · rintro (hi | hi)
                  · exact h.Gg hi
                  · have := (hlt3 _ hi).1
                    omega
                · rintro (hi | hi)
                  · exact h.Gf hi
                  · have := (hlt3 _ hi).1
                    omega
              · rintro i (hi | hi)
                · exact .inl hi
                · have := (hlt3 _ hi).1
                  exact .inr (by omega)
            have HFIN := Lib.hid hfin
            clear hfin hk5 hk4 hk3 hSb
            go_wp2_with fail
            go_ret
            exact HFIN.out
end Go.Proofs.Ytgeiimifhbiklaa
