/- Echo.Restore: its contract, proved by a walk. -/
import Derived.Test.YtgeiimifhbiklaaEch2
namespace Go.Proofs.Ytgeiimifhbiklaa
open Go.RowKit

def foldWith : Ns → ByteArray × Ns → ByteArray × Ns
  | .nil, p => p
  | .cons t v k r, p => foldWith r ((withF p.1 p.2 t v k).1, (withF p.1 p.2 t v k).2.1)
theorem foldWith_app : ∀ (a b : Ns) (p : ByteArray × Ns), foldWith (a.app b) p = foldWith b (foldWith a p)
  | .nil, _, _ => rfl
  | .cons t v k r, b, p => by rw [Ns.app, foldWith, foldWith_app r b, foldWith]
theorem sz_lo_hi (n : Int) (l : Ns) : (l.lo n).sz + (l.hi n).sz = l.sz := by
  rw [← Ns.sz_app, Ns.lo_hi]
theorem sz_rest_le (n : Int) (l : Ns) : (l.rest n).sz ≤ (l.hi n).sz := by
  unfold Ns.rest
  cases l.hi n with
  | nil => exact Nat.le_refl _
  | cons t v k r =>
    show (if t = n then r else Ns.cons t v k r).sz ≤ _
    split <;> simp only [Ns.sz] <;> omega
theorem sz_putF_le (l : Ns) (t : Int) (v : ByteArray) (k : Ns) : (l.putF t v k).sz ≤ l.sz + k.sz + 1 := by
  have h1 := sz_lo_hi t l
  have h2 := sz_rest_le t l
  rw [Ns.putF, Ns.sz_app]
  simp only [Ns.sz]
  omega
theorem sz_withF_le (m : ByteArray) (l : Ns) (t : Int) (v : ByteArray) (k : Ns) : (withF m l t v k).2.1.sz ≤ l.sz + k.sz + 1 := by
  have := sz_putF_le l t v k
  unfold withF
  repeat' split
  all_goals simp only [Ns.sz]; omega
theorem sz_foldWith_le : ∀ (a : Ns) (p : ByteArray × Ns), (foldWith a p).2.sz ≤ p.2.sz + a.sz
  | .nil, p => by simp [foldWith, Ns.sz]
  | .cons t v k r, p => by
    have := sz_foldWith_le r ((withF p.1 p.2 t v k).1, (withF p.1 p.2 t v k).2.1)
    have := sz_withF_le p.1 p.2 t v k
    simp only [foldWith, Ns.sz] at *
    omega
def restF (xs : List Int) (ms : List Kept) (n : Int) (mti : ByteArray) (l : Ns) : ByteArray × Ns × Bool :=
  match lookM ms n with
  | none => (mti, l, false)
  | some (_, kl) => if wholeB mti l = false then (mti, l, false) else ((foldWith kl (mti, l.keep (memWithout xs))).1, (foldWith kl (mti, l.keep (memWithout xs))).2, true)
def RestPost (w : World) (r : ByteArray × Ns × Bool) (e : Ending) (w' : World) : Prop :=
  ∃ A c S, e = .returned (.tuple #[.agg #[.string r.1, .slice A r.2.1.len c], .bool r.2.2]) ∧ Own w' w.heap.size 76 0 (.slice A r.2.1.len c) r.2.1 S ∧ S.Nodup ∧ Fr0 w w'
theorem field_msg (m : ByteArray) (A : Option Addr) (n c : Nat) (w : World) : (Instr.field 37 (.agg #[.string m, .slice A n c]) 1).run Try.prog w = .ok (.slice A n c) w := by kernel_rfl
set_option maxRecDepth 100000 in
set_option maxHeartbeats 1600000 in
theorem restore_any {w : World} {G : Nat → Prop} {g b f c : Nat} {xs : List Int} {ms : List Kept} (h : EchoW w G g b f c xs ms) (n : Int) {ok : Nat → Prop} {mti : ByteArray} {l : Ns} {u : Value} (hr : Rd w ok u l)
    (hs : l.sz ≤ 1099511627776) (hs2 : ∀ m kl, lookM ms n = some (m, kl) → l.sz + kl.sz ≤ 1099511627776) :
    Calls Try.prog 27 #[.pointer (some ⟨g, 0, none⟩), .int .i64 n, .agg #[.string mti, u]] w (RestPost w (restF xs ms n mti l)) := by
  obtain ⟨A0, c0, rfl, _, _⟩ := id hr
  have HS := Lib.hid hs
  have HS2 := Lib.hid hs2
  clear hs hs2
  obtain ⟨W0, hW0⟩ : ∃ W0, W0 = (w.alloc (.cells #[.string mti, .slice A0 l.len c0] 37)).alloc (.cells #[.string ⟨#[]⟩, .slice none 0 0] 37) := ⟨_, rfl⟩
  have hf0 : Fr0 w W0 := by rw [hW0]; exact ((Fr.refl _ w).alloc _).alloc _
  have b5 : Blk W0 w.heap.size 37 #[.string mti, .slice A0 l.len c0] := by rw [hW0]; exact (Blk.new w _ _).alloc _
  have b6 : Blk W0 (w.heap.size + 1) 37 #[.string ⟨#[]⟩, .slice none 0 0] := by
    rw [hW0]
    have := Blk.new (w.alloc (.cells #[.string mti, .slice A0 l.len c0] 37)) 37 #[.string ⟨#[]⟩, .slice none 0 0]
    simpa only [World.size_alloc] using this
  have hz0 : W0.heap.size = w.heap.size + 2 := by rw [hW0]; simp
  have hH := has_any (h.fr0 hf0) n
  -- with none: a copy, and false
  have copied : ∀ W, Fr0 W0 W → restF xs ms n mti l = (mti, l, false) → Calls Try.prog 57 #[.agg #[.string mti, .slice A0 l.len c0]] W fun e W' => ∃ A c S, e = .returned (.agg #[.string mti, .slice A l.len c]) ∧ Fr0 W W' ∧
      RestPost w (restF xs ms n mti l) (.returned (.tuple #[.agg #[.string mti, .slice A l.len c], .bool false])) ((W'.setCell ⟨w.heap.size + 1, 0, none⟩ (.string mti)).setCell ⟨w.heap.size + 1, 1, none⟩ (.slice A l.len c)) := fun W hf he => by
    refine (copy_any (mti := mti) ((hr.fr0 hf0).fr0 hf) HS.out).mono ?_
    rintro e w1 ⟨A1, c1, S1, rfl, hown, hnd, hfr⟩
    have hz := hf.size
    have hg : Fr (fun x => x = w.heap.size + 1) w1 ((w1.setCell ⟨w.heap.size + 1, 0, none⟩ (.string mti)).setCell ⟨w.heap.size + 1, 1, none⟩ (.slice A1 l.len c1)) :=
      ((Fr.refl (fun x => x = w.heap.size + 1) w1).setCell (p := ⟨w.heap.size + 1, 0, none⟩) (.inr rfl) _).setCell (p := ⟨w.heap.size + 1, 1, none⟩) (.inr rfl) _
    refine ⟨A1, c1, S1, rfl, hfr, ?_⟩
    rw [he]
    exact ⟨A1, c1, S1, rfl, (hown.mono (by omega)).fr hg (fun g hs => by have := (hown.lt g hs).1; omega), hnd, ((hf0.trans hf).trans hfr).trans' hg fun i hi h => by omega⟩
  have CP := Lib.hid copied
  clear copied
  have HZ0 := Lib.hid hz0
  have hW0' := hW0.symm
  clear hz0 hW0
  rcases hlk : lookM ms n with _ | ⟨mk, kl⟩
  · rw [hlk] at hH
    have HH := Lib.hid hH
    have HE := Lib.hid (show restF xs ms n mti l = (mti, l, false) by rw [restF, hlk])
    clear hH hlk
    go_enter Try.func27, Try.ntmps27
    go_wp2_with fail
    refine HH.out.mono ?_
    rintro e W1 ⟨rfl, hf1⟩
    have x5 := (b5.fr0 hf1).cell 0
    have y5 := (b5.fr0 hf1).cell 1
    go_wp2_with fail
    refine (CP.out W1 hf1 HE.out).mono ?_
    rintro e W2 ⟨A, c, S, rfl, hf2, hpost⟩
    obtain ⟨x6, y6, z6, v6⟩ := agg_msg (b6.fr0 (hf1.trans hf2))
    have HP := Lib.hid hpost
    clear hpost
    go_wp2_with fail
    exact bodyPost_ret (v := .tuple #[.agg #[.string mti, .slice A l.len c], .bool false]) (by simp [results, Try.results27, go_sem, x6, y6, z6, v6]) rfl HP.out
  · rw [hlk] at hH
    have HH := Lib.hid hH
    have HLK := Lib.hid hlk
    clear hH hlk
    go_enter Try.func27, Try.ntmps27
    go_wp2_with fail
    refine HH.out.mono ?_
    rintro e W1 ⟨rfl, hf1⟩
    have hf01 := hf0.trans hf1
    have x5 := (b5.fr0 hf1).cell 0
    have y5 := (b5.fr0 hf1).cell 1
    have hW := whole_any (mti := mti) (hr.fr0 hf01) HS.out
    cases hwb : wholeB mti l with
    | false =>
      rw [hwb] at hW
      have HW := Lib.hid hW
      have HE := Lib.hid (show restF xs ms n mti l = (mti, l, false) by rw [restF, HLK.out]; simp [hwb])
      clear hW hwb
      go_wp2_with fail
      refine HW.out.mono ?_
      rintro e W2 ⟨rfl, hf2⟩
      have x5 := (b5.fr0 (hf1.trans hf2)).cell 0
      have y5 := (b5.fr0 (hf1.trans hf2)).cell 1
      go_wp2_with fail
      refine (CP.out W2 (hf1.trans hf2) HE.out).mono ?_
      rintro e W3 ⟨A, c, S, rfl, hf3, hpost⟩
      obtain ⟨x6, y6, z6, v6⟩ := agg_msg (b6.fr0 ((hf1.trans hf2).trans hf3))
      have HP := Lib.hid hpost
      clear hpost
      go_wp2_with fail
      exact bodyPost_ret (v := .tuple #[.agg #[.string mti, .slice A l.len c], .bool false]) (by simp [results, Try.results27, go_sem, x6, y6, z6, v6]) rfl HP.out
    | true =>
      rw [hwb] at hW
      have HW := Lib.hid hW
      have HE := Lib.hid (show restF xs ms n mti l = ((foldWith kl (mti, l.keep (memWithout xs))).1, (foldWith kl (mti, l.keep (memWithout xs))).2, true) by rw [restF, HLK.out]; simp [hwb])
      clear hW hwb
      go_wp2_with fail
      refine HW.out.mono ?_
      rintro e W2 ⟨rfl, hf2⟩
      have hf12 := hf1.trans hf2
      have x5 := (b5.fr0 hf12).cell 0
      have y5 := (b5.fr0 hf12).cell 1
      have h2 := (h.fr0 hf0).fr0 hf12
      have e0 := h2.blk.cell 0
      have hr2 := (hr.fr0 hf0).fr0 hf12
      have HK := Lib.hid (show ∀ W, Fr0 W2 W → Calls Try.prog 58 #[.agg #[.string mti, .slice A0 l.len c0], .slice (some ⟨f, 0, none⟩) xs.length c] W (ThosePost W mti (l.keep (memWithout xs))) from
        fun W hf => Without_any (mti := mti) (hr2.fr0 hf) HS.out (h2.nums.fr0 hf) (by have := h2.len; omega))
      have hal : Fr0 W2 (W2.alloc (.cells #[.string ⟨#[]⟩, .slice none 0 0] 37)) := (Fr.refl _ _).alloc _
      have hal1 : (W2.alloc (.cells #[.string ⟨#[]⟩, .slice none 0 0] 37)).drew.heap.size = W2.heap.size + 1 := by
        show (W2.alloc _).heap.size = _
        simp
      have hALS := Lib.hid hal1
      clear hal1
      have x5a := ((b5.fr0 hf12).fr0 hal).cell 0
      have y5a := ((b5.fr0 hf12).fr0 hal).cell 1
      have e0a := (h2.fr0 hal).blk.cell 0
      go_wp2_with fail
      go_region_law (go_simp; go_at_call 58; refine (HK.out _ (by first | exact (Fr.refl _ _).drew | exact ((Fr.refl _ _).alloc _).drew)).mono ?_; rintro e w3 ⟨A3, c3, S3, rfl, hown3, hnd3, hf3⟩; first | (have hb8 : Blk w3 W2.heap.size 37 #[.string ⟨#[]⟩, .slice none 0 0] := (Blk.new W2 _ _).drew.fr0 hf3; obtain ⟨x8, y8, z8, v8⟩ := agg_msg hb8) | skip)
      all_goals
        have hsz2 := hf12.size
        have hz2 := HZ0.out
        first
        | (have hlt := hown3.lt
           rw [hALS.out] at hlt
           obtain ⟨W4, hW4⟩ : ∃ W4, W4 = (w3.setCell ⟨W2.heap.size, 0, none⟩ (.string mti)).setCell ⟨W2.heap.size, 1, none⟩ (.slice A3 (l.keep (memWithout xs)).len c3) := ⟨_, rfl⟩
           have hg : Fr (fun x => x = W2.heap.size) w3 W4 := by
             rw [hW4]
             exact ((Fr.refl (fun x => x = W2.heap.size) w3).setCell (p := ⟨W2.heap.size, 0, none⟩) (.inr rfl) _).setCell (p := ⟨W2.heap.size, 1, none⟩) (.inr rfl) _
           have hB : Blk W4 W2.heap.size 37 #[.string mti, (.slice A3 (l.keep (memWithout xs)).len c3)] := by rw [hW4]; exact (hb8.set_ 0 (.string mti)).set_ 1 (.slice A3 (l.keep (memWithout xs)).len c3)
           have hO : Own W4 W2.heap.size 76 0 (.slice A3 (l.keep (memWithout xs)).len c3) (l.keep (memWithout xs)) S3 := (hown3.mono (by rw [hALS.out]; omega)).fr hg fun i hi e => by have := (hlt i hi).1; omega
           have hN8 : W2.heap.size ∉ S3 := fun hi => by
             have := (hlt _ hi).1
             omega
           have hF4 : Fr0 W2 W4 := by rw [hW4]; exact ((hal.drew.trans hf3).setCell (p := ⟨W2.heap.size, 0, none⟩) (.inl (Nat.le_refl _)) _).setCell (p := ⟨W2.heap.size, 1, none⟩) (.inl (Nat.le_refl _)) _
           obtain ⟨B8, hB8⟩ : ∃ B8, B8 = W2.heap.size := ⟨_, rfl⟩
           have hL8 : W2.heap.size ≤ B8 := by omega
           rw [← hW4, ← hB8]
           rw [← hB8] at hN8 hB
           clear hW4 hg hlt)
        | (have hs3 : W2.heap.size ≤ w3.heap.size := hf3.size
           obtain ⟨W4, hW4⟩ : ∃ W4, W4 = w3.alloc (.cells #[.string mti, (.slice A3 (l.keep (memWithout xs)).len c3)] 37) := ⟨_, rfl⟩
           have hB : Blk W4 w3.heap.size 37 #[.string mti, (.slice A3 (l.keep (memWithout xs)).len c3)] := by rw [hW4]; exact Blk.new w3 _ _
           have hO : Own W4 W2.heap.size 76 0 (.slice A3 (l.keep (memWithout xs)).len c3) (l.keep (memWithout xs)) S3 := by rw [hW4]; exact (hown3.mono (Nat.le_refl _)).fr0 ((Fr.refl _ _).alloc _)
           have hN8 : w3.heap.size ∉ S3 := fun hi => by
             have := (hown3.lt _ hi).2
             omega
           have hF4 : Fr0 W2 W4 := by rw [hW4]; exact ((Fr.refl (fun _ => False) W2).drew.trans hf3).alloc _
           obtain ⟨B8, hB8⟩ : ∃ B8, B8 = w3.heap.size := ⟨_, rfl⟩
           rw [← hW4, ← hB8]
           rw [← hB8] at hN8 hB
           have hL8 : W2.heap.size ≤ B8 := by omega
           clear hW4)
        clear HK hal hALS x5a y5a e0a hB8
        have HE' := HE
        have h4 := h2.fr0 hF4
        have d1 := h4.blk.cell 1
        obtain ⟨es, hm4, hk4⟩ := h4.map
        rcases hk4.look n with ⟨q, _⟩ | ⟨mk', kl', Ak, ck, q1, q2, hrk, hks⟩
        · exact absurd (HLK.out.symm.trans q) (by simp)
        · obtain ⟨rfl, rfl⟩ : mk = mk' ∧ kl = kl' := by simpa using HLK.out.symm.trans q1
          have hv : (look es n).getD zeroMsg = .agg #[.string mk, .slice Ak kl.len ck] := by rw [q2]; rfl
          have HV := Lib.hid hv
          have HB := Lib.hid hB
          have HO := Lib.hid hO
          clear hv q1 q2 hB hO
          go_wp2_with (at_lookup; refine wpList_lookup_int rfl _ _ _ _ rfl undMM undI2 (zeroM _) rfl hm4 _ rfl HV.out ?_)
          refine (copy_any (mti := mk) hrk hks).mono ?_
          rintro e W5 ⟨A5, c5, S5, rfl, hown5, hnd5, hf5⟩
          have hfld := field_msg mk A5 kl.len c5 W5
          go_wp2_with fail
          have hf45 := hF4.trans hf5
          have hs5 := hf5.size
          have hlt5 := Lib.hid hown5.lt
          have hOl := HO.out.lt
          have hBl := HB.out.lt
          have hkb : kl.len < 9223372036854775807 := by have := kl.len_le_sz; omega
          have hsum := Lib.hid (HS2.out _ _ HLK.out)
          have b6' := (b6.fr0 hf12).fr0 hf45
          have hR5 := Lib.hid hown5.read
          have H5 := Lib.hid (And.intro hnd5 hown5)
          obtain ⟨p0, hp0⟩ : ∃ p0 : ByteArray × Ns, p0 = (mti, l.keep (memWithout xs)) := ⟨_, rfl⟩
          have HP0 := Lib.hid hp0
          have hsz6 : w.heap.size + 2 ≤ W2.heap.size := by omega
          have HF5 := Lib.hid hf5
          have HF45 := Lib.hid hf45
          clear hown5 hnd5 hp0 hf45
          go_loopw [37] (fun i wr => ∃ (done rest : Ns) (A : Option Addr) (cc : Nat) (S : List Nat), kl = done.app rest ∧ i = .int .i64 done.len ∧ Blk wr B8 37 #[.string (foldWith done p0).1, .slice A (foldWith done p0).2.len cc] ∧
            Own wr W2.heap.size 76 0 (.slice A (foldWith done p0).2.len cc) (foldWith done p0).2 S ∧ S.Nodup ∧ B8 ∉ S ∧ Fr (fun x => x = B8) W5 wr) (fun i _ => kl.len - (intOf i).toNat)
          case atStart =>
            refine ⟨.nil, kl, A3, c3, S3, rfl, rfl, ?_, ?_, hnd3, hN8, Fr.refl _ _⟩
            · rw [HP0.out]
              exact HB.out.fr0 HF5.out
            · rw [HP0.out]
              exact HO.out.fr0 HF5.out
          case round =>
            obtain ⟨done, rest, A, cc, S, rfl, rfl, hb8, hown, hnd, hn8, hfr⟩ := hrel
            cases rest with
            | nil =>
              rw [Ns.app_nil] at HE ⊢
              obtain ⟨x8, y8, z8, v8⟩ := agg_msg hb8
              obtain ⟨x6, y6, z6, v6⟩ := agg_msg (b6'.fr hfr (by omega))
              have hFIN : RestPost w (restF xs ms n mti l) (.returned (.tuple #[.agg #[.string (foldWith done p0).1, .slice A (foldWith done p0).2.len cc], .bool true])) ((wr.setCell ⟨w.heap.size + 1, 0, none⟩ (.string (foldWith done p0).1)).setCell ⟨w.heap.size + 1, 1, none⟩ (.slice A (foldWith done p0).2.len cc)) := by
                have hg : Fr (fun x => x = w.heap.size + 1) wr ((wr.setCell ⟨w.heap.size + 1, 0, none⟩ (.string (foldWith done p0).1)).setCell ⟨w.heap.size + 1, 1, none⟩ (.slice A (foldWith done p0).2.len cc)) :=
                  ((Fr.refl (fun x => x = w.heap.size + 1) wr).setCell (p := ⟨w.heap.size + 1, 0, none⟩) (.inr rfl) _).setCell (p := ⟨w.heap.size + 1, 1, none⟩) (.inr rfl) _
                rw [HE.out, ← HP0.out]
                refine ⟨A, cc, S, rfl, (hown.mono (by omega)).fr hg fun i hs e => by have := (hown.lt i hs).1; omega, hnd, (((hf0.trans hf12).trans HF45.out).trans' hfr fun i hi e => by omega).trans' hg fun i hi e => by omega⟩
              have HFIN := Lib.hid hFIN
              clear hFIN
              go_wp2_with fail
              exact bodyPost_ret (v := .tuple #[.agg #[.string (foldWith done p0).1, .slice A (foldWith done p0).2.len cc], .bool true]) (by simp [results, Try.results27, go_sem, x6, y6, z6, v6]) rfl HFIN.out
            | cons t v k r =>
              have hll := Lib.hid (Ns.len_app done (.cons t v k r))
              have hsz := Lib.hid (Ns.sz_app done (.cons t v k r))
              have hlt : (done.len : Int) < ((done.app (.cons t v k r)).len : Int) := by rw [hll.out]; simp only [Ns.len]; omega
              have hlt' : done.len < (done.app (.cons t v k r)).len := by omega
              have hne8 : ∀ x, x ∈ S5 → ¬ x = B8 := fun x hx e => by have := (hlt5.out x hx).1; omega
              obtain ⟨A', c', h1, _, h3⟩ := hR5.out.fr hfr hne8
              injection h1 with h1a h1b h1c
              subst h1a h1c
              have h3' : ∃ b' o', A5 = some ⟨b', o', none⟩ ∧ RdFrom wr (· ∈ S5) (done.app (.cons t v k r)) b' o' := by
                rcases h3 with h3 | h3
                · have : (done.app (.cons t v k r)).len = 0 := by rw [h3]; rfl
                  omega
                · exact h3
              obtain ⟨b', o', rfl, hrd⟩ := h3'
              have hrd' := RdFrom.app done (.cons t v k r) b' o' hrd
              have q1 := hrd'.2.1
              have q2 := hrd'.2.2.1
              obtain ⟨Ak', ck', q3, hk⟩ := hrd'.kids
              have hfa : Fr0 wr (wr.alloc (Obj.cells #[.int .i64 t, .string v, .slice Ak' k.len ck'] 76)) := (Fr.refl _ _).alloc _
              obtain ⟨x8, y8, z8, v8⟩ := agg_msg (hb8.fr0 hfa)
              have HWI := Lib.hid (with_any (mti := (foldWith done p0).1) (l := (foldWith done p0).2) (t := t) (v := v) (k := k) (hown.read.fr0 hfa) (by
                have h1 := sz_foldWith_le done p0
                have h2 := hsum.out
                have h3 := hsz.out
                have h4 := sz_keep_le (memWithout xs) l
                rw [HP0.out] at h1 ⊢
                simp only at h1
                omega) (hk.fr0 hfa) (by
                have h2 := hsum.out
                have h3 := hsz.out
                simp only [Ns.sz] at h3
                omega))
              clear hrd hrd' hk h3
              go_wp2_with fail
              refine HWI.out.mono ?_
              rintro e W6 ⟨A6, c6, S6, rfl, hown6, hnd6, hf6⟩
              have hfa6 := hfa.trans hf6
              have hb6 := hb8.fr0 hfa6
              obtain ⟨x8, y8, z8, v8⟩ := agg_msg hb6
              have hft : foldWith (done.app (.one t v k)) p0 = ((withF (foldWith done p0).1 (foldWith done p0).2 t v k).1, (withF (foldWith done p0).1 (foldWith done p0).2 t v k).2.1) := by
                rw [foldWith_app]; rfl
              obtain ⟨fw, hfw⟩ : ∃ fw, fw = withF (foldWith done p0).1 (foldWith done p0).2 t v k := ⟨_, rfl⟩
              rw [← hfw] at hown6 hft ⊢
              have hB8' := (hb6.set_ 0 (.string fw.1)).set_ 1 (.slice A6 fw.2.1.len c6)
              have hg : Fr (fun x => x = B8) W6 ((W6.setCell ⟨B8, 0, none⟩ (.string fw.1)).setCell ⟨B8, 1, none⟩ (.slice A6 fw.2.1.len c6)) :=
                ((Fr.refl (fun x => x = B8) W6).setCell (p := ⟨B8, 0, none⟩) (.inr rfl) _).setCell (p := ⟨B8, 1, none⟩) (.inr rfl) _
              have hsw := hfr.size
              have hsa := hfa.size
              have hlt6 := hown6.lt
              have hbwr := hb8.lt
              have HFT := Lib.hid hft
              have HREL := Lib.hid (show (∃ (done' rest : Ns) (A : Option Addr) (cc : Nat) (S : List Nat), done.app (.cons t v k r) = done'.app rest ∧ Value.int .i64 ((done.len : Int) + 1) = .int .i64 done'.len ∧ Blk ((W6.setCell ⟨B8, 0, none⟩ (.string fw.1)).setCell ⟨B8, 1, none⟩ (.slice A6 fw.2.1.len c6)) B8 37 #[.string (foldWith done' p0).1, .slice A (foldWith done' p0).2.len cc] ∧
                Own ((W6.setCell ⟨B8, 0, none⟩ (.string fw.1)).setCell ⟨B8, 1, none⟩ (.slice A6 fw.2.1.len c6)) W2.heap.size 76 0 (.slice A (foldWith done' p0).2.len cc) (foldWith done' p0).2 S ∧ S.Nodup ∧ B8 ∉ S ∧ Fr (fun x => x = B8) W5 ((W6.setCell ⟨B8, 0, none⟩ (.string fw.1)).setCell ⟨B8, 1, none⟩ (.slice A6 fw.2.1.len c6))) from by
                refine ⟨done.app (.one t v k), r, A6, c6, S6, by simp [Ns.app_assoc, Ns.one, Ns.app], by simp [Ns.len_app, Ns.one, Ns.len], ?_, ?_, hnd6, fun hi => ?_, (hfr.trans0 hfa6).trans hg⟩
                · rw [HFT.out]
                  exact hB8'
                · rw [HFT.out]
                  exact (hown6.mono (by omega)).fr hg fun i hi e => by have := (hlt6 i hi).1; omega
                · have := (hlt6 _ hi).1
                  omega)
              clear hB8' hg hft hfw hown6 hnd6 hlt6 hf6 hfa6
              go_wp2_with fail
              go_roundw
              case rel => exact HREL.out
              case measure => simp [intOf]; omega
end Go.Proofs.Ytgeiimifhbiklaa
