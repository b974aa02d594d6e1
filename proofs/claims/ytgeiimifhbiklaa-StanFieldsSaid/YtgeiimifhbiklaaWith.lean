/- With: its contract, proved by a walk. -/
import Derived.Test.YtgeiimifhbiklaaPut
namespace Go.Proofs.Ytgeiimifhbiklaa
open Go.RowKit

theorem wholeF_asc : ∀ (l : Ns) (last : Int), wholeF l last = true → l.asc last
  | .nil, _, _ => trivial
  | .cons t v k r, last, h => by
    simp only [wholeF] at h
    split at h
    · simp at h
    · rename_i hle
      split at h
      · rename_i hf
        have hn : numberB t = true := by
          simp only [fsoundB, Bool.and_eq_true] at hf
          exact hf.1.1
        simp only [numberB, decide_eq_true_eq] at hn
        exact ⟨by omega, hn.2.1, wholeF_asc r t h⟩
      · simp at h
theorem whole_asc {mti : ByteArray} {l : Ns} (h : wholeB mti l = true) : l.asc 0 := by
  simp only [wholeB, Bool.and_eq_true] at h
  exact wholeF_asc l 0 h.1
theorem fsound_num {t : Int} {v : ByteArray} {k : Ns} (h : fsoundB t v k = true) : 2 ≤ t ∧ t ≤ 128 := by
  simp only [fsoundB, Bool.and_eq_true] at h
  have hn := h.1.1
  simp only [numberB, decide_eq_true_eq] at hn
  exact ⟨hn.1, hn.2.1⟩
/-- With, as a function: type, fields, error. -/
def withF (mti : ByteArray) (l : Ns) (t : Int) (v : ByteArray) (k : Ns) : ByteArray × Ns × Int :=
  if rightB mti = false then (⟨#[]⟩, .nil, 110) else if wholeB mti l = false then (⟨#[]⟩, .nil, 111) else if numberB t = false then (⟨#[]⟩, .nil, 102) else if fsoundB t v k = false then (⟨#[]⟩, .nil, 107)
  else (mti, l.putF t v k, 0)
def MsgPost (w : World) (r : ByteArray × Ns × Int) (e : Ending) (w' : World) : Prop :=
  ∃ A c S, e = .returned (.tuple #[.agg #[.string r.1, .slice A r.2.1.len c], .int .i64 r.2.2]) ∧ Own w' w.heap.size 76 0 (.slice A r.2.1.len c) r.2.1 S ∧ S.Nodup ∧ Fr0 w w'
theorem agg_msg {w : World} {g : Nat} {m : ByteArray} {u : Value} (h : Blk w g 37 #[.string m, u]) : w.cell? ⟨g, 0, none⟩ = some (.string m) ∧ w.cell? ⟨g, 1, none⟩ = some u ∧ w.frozen? ⟨g, 0, none⟩ = false ∧ w.frozen? ⟨g, 1, none⟩ = false :=
  ⟨h.cell 0, h.cell 1, h.frozen 0, h.frozen 1⟩
set_option maxRecDepth 100000 in
set_option maxHeartbeats 1600000 in
theorem with_any {mti : ByteArray} {l : Ns} {t : Int} {v : ByteArray} {k : Ns} {w : World} {ok ok' : Nat → Prop} {u : Value} {A1 : Option Addr} {c1 : Nat}
    (hr : Rd w ok u l) (hs0 : l.sz ≤ 1099511627776) (hk : Rd w ok' (.slice A1 k.len c1) k) (hks : k.sz ≤ 1099511627776) :
    Calls Try.prog 59 #[.agg #[.string mti, u], .agg #[.int .i64 t, .string v, .slice A1 k.len c1]] w (MsgPost w (withF mti l t v k)) := by
  obtain ⟨A, c, rfl, _, _⟩ := id hr
  have hS := Lib.hid hs0
  have hK := Lib.hid hks
  clear hs0 hks
  obtain ⟨W1, hW1⟩ : ∃ W1, W1 = ((w.alloc (Obj.cells #[.string mti, .slice A l.len c] 37)).alloc (Obj.cells #[.int .i64 t, .string v, .slice A1 k.len c1] 76)).alloc (Obj.cells #[.string ⟨#[]⟩, .slice none 0 0] 37) := ⟨_, rfl⟩
  have hf1 : Fr0 w W1 := by rw [hW1]; exact (((Fr.refl _ _).alloc _).alloc _).alloc _
  have b0 : Blk W1 w.heap.size 37 #[.string mti, .slice A l.len c] := by rw [hW1]; exact ((Blk.new _ _ _).alloc _).alloc _
  have b1 : Blk W1 (w.heap.size + 1) 76 #[.int .i64 t, .string v, .slice A1 k.len c1] := by
    rw [hW1]
    have := Blk.new (w.alloc (Obj.cells #[.string mti, .slice A l.len c] 37)) 76 #[.int .i64 t, .string v, .slice A1 k.len c1]
    simp only [World.size_alloc] at this
    exact this.alloc _
  have b2 : Blk W1 (w.heap.size + 1 + 1) 37 #[.string ⟨#[]⟩, .slice none 0 0] := by
    rw [hW1]
    have := Blk.new ((w.alloc (Obj.cells #[.string mti, .slice A l.len c] 37)).alloc (Obj.cells #[.int .i64 t, .string v, .slice A1 k.len c1] 76)) 37 #[.string ⟨#[]⟩, .slice none 0 0]
    simpa only [World.size_alloc] using this
  have hz1 : W1.heap.size = w.heap.size + 3 := by rw [hW1]; simp
  -- the four ways out with an error
  have bad : ∀ (W : World) (n : Int), Fr0 w W → Blk W (w.heap.size + 1 + 1) 37 #[.string ⟨#[]⟩, .slice none 0 0] → withF mti l t v k = (⟨#[]⟩, .nil, n) →
      MsgPost w (withF mti l t v k) (.returned (.tuple #[.agg #[.string ⟨#[]⟩, .slice none 0 0], .int .i64 n])) ((W.setCell ⟨w.heap.size + 1 + 1, 0, none⟩ (.string ⟨#[]⟩)).setCell ⟨w.heap.size + 1 + 1, 1, none⟩ (.slice none 0 0)) := fun W n hf hb he => by
    rw [he]
    exact ⟨none, 0, [], rfl, Own.nil _ _ _, List.nodup_nil, (hf.setCell (p := ⟨w.heap.size + 1 + 1, 0, none⟩) (.inl (by show _ ≤ w.heap.size + 1 + 1; omega)) _).setCell (p := ⟨w.heap.size + 1 + 1, 1, none⟩) (.inl (by show _ ≤ w.heap.size + 1 + 1; omega)) _⟩
  have Bad := Lib.hid bad
  clear bad
  go_enter Try.func59, Try.ntmps59
  go_wp2_with fail
  rw [← hW1]
  clear hW1
  have HZ1 := Lib.hid hz1
  clear hz1
  obtain ⟨x1, x2, x3, x4⟩ := agg_msg b0
  refine (m_right mti W1).mono ?_
  rintro e W2 ⟨rfl, hf2⟩
  obtain ⟨x1, x2, x3, x4⟩ := agg_msg (b0.fr0 hf2)
  obtain ⟨y1, y2, y3, y4⟩ := agg_msg (b2.fr0 hf2)
  cases hrt : rightB mti with
  | false =>
    have HR := Lib.hid (show withF mti l t v k = (⟨#[]⟩, .nil, 110) by simp only [withF, hrt, if_true])
    go_wp2_with fail
    refine bodyPost_ret (v := .tuple #[.agg #[.string ⟨#[]⟩, .slice none 0 0], .int .i64 110]) (by simp [results, Try.results59, go_sem, y1, y2]) rfl (Bad.out W2 110 (hf1.trans hf2) (b2.fr0 hf2) HR.out)
  | true =>
    go_wp2_with fail
    refine (whole_any (mti := mti) ((hr.fr0 hf1).fr0 hf2) hS.out).mono ?_
    rintro e W3 ⟨rfl, hf3⟩
    have hf23 := hf2.trans hf3
    have z1 := (b1.fr0 hf23).cell 0
    obtain ⟨x1, x2, x3, x4⟩ := agg_msg (b0.fr0 hf23)
    obtain ⟨y1, y2, y3, y4⟩ := agg_msg (b2.fr0 hf23)
    cases hwh : wholeB mti l with
    | false =>
      have HR := Lib.hid (show withF mti l t v k = (⟨#[]⟩, .nil, 111) by simp [withF, hrt, hwh])
      go_wp2_with fail
      refine bodyPost_ret (v := .tuple #[.agg #[.string ⟨#[]⟩, .slice none 0 0], .int .i64 111]) (by simp [results, Try.results59, go_sem, y1, y2]) rfl (Bad.out W3 111 (hf1.trans hf23) (b2.fr0 hf23) HR.out)
    | true =>
      go_wp2_with fail
      refine (number_any t W3).mono ?_
      rintro e W3' ⟨rfl, rfl⟩
      cases hnu : numberB t with
      | false =>
        have HR := Lib.hid (show withF mti l t v k = (⟨#[]⟩, .nil, 102) by simp [withF, hrt, hwh, hnu])
        go_wp2_with fail
        refine bodyPost_ret (v := .tuple #[.agg #[.string ⟨#[]⟩, .slice none 0 0], .int .i64 102]) (by simp [results, Try.results59, go_sem, y1, y2]) rfl (Bad.out W3 102 (hf1.trans hf23) (b2.fr0 hf23) HR.out)
      | true =>
        have z2 := (b1.fr0 hf23).cell 1
        have z3 := (b1.fr0 hf23).cell 2
        go_wp2_with fail
        refine (fieldSound_any (t := t) (v := v) hK.out ((hk.fr0 hf1).fr0 hf23)).mono ?_
        rintro e W4 ⟨rfl, hf4⟩
        have hf24 := hf23.trans hf4
        have z1 := (b1.fr0 hf24).cell 0
        have z2 := (b1.fr0 hf24).cell 1
        have z3 := (b1.fr0 hf24).cell 2
        obtain ⟨x1, x2, x3, x4⟩ := agg_msg (b0.fr0 hf24)
        obtain ⟨y1, y2, y3, y4⟩ := agg_msg (b2.fr0 hf24)
        cases hfs : fsoundB t v k with
        | false =>
          have HR := Lib.hid (show withF mti l t v k = (⟨#[]⟩, .nil, 107) by simp [withF, hrt, hwh, hnu, hfs])
          go_wp2_with fail
          refine bodyPost_ret (v := .tuple #[.agg #[.string ⟨#[]⟩, .slice none 0 0], .int .i64 107]) (by simp [results, Try.results59, go_sem, y1, y2]) rfl (Bad.out W4 107 (hf1.trans hf24) (b2.fr0 hf24) HR.out)
        | true =>
          have HR := Lib.hid (show withF mti l t v k = (mti, l.putF t v k, 0) by simp [withF, hrt, hwh, hnu, hfs])
          have hN := Lib.hid (fsound_num hfs)
          have hAsc := Lib.hid (whole_asc hwh)
          go_wp2_with fail
          refine (copy_any (mti := mti) ((hr.fr0 hf1).fr0 hf24) hS.out).mono ?_
          rintro e W5 ⟨A5, c5, S5, rfl, hown5, hnd5, hf5⟩
          have hf25 := hf24.trans hf5
          have z1 := (b1.fr0 hf25).cell 0
          have z2 := (b1.fr0 hf25).cell 1
          have z3 := (b1.fr0 hf25).cell 2
          have hf6 : Fr0 W5 (W5.alloc (Obj.cells #[.string mti, .slice A5 l.len c5] 37)) := (Fr.refl _ _).alloc _
          have hz5 := (b1.fr0 hf25).lt
          have q1 := ((b1.fr0 hf25).fr0 hf6).cell 0
          have q2 := ((b1.fr0 hf25).fr0 hf6).cell 1
          have q3 := ((b1.fr0 hf25).fr0 hf6).cell 2
          go_wp2_with fail
          refine (field_any hK.out (((hk.fr0 hf1).fr0 hf25).fr0 hf6)).mono ?_
          rintro e W7 ⟨A7, c7, S7, rfl, hown7, hnd7, hf7⟩
          have hf67 := hf6.trans hf7
          have hz7 := hf7.size
          simp only [World.size_alloc] at hz7 hown7
          go_wp2_with fail
          have hbm : Blk W7 W5.heap.size 37 #[.string mti, .slice A5 l.len c5] := (Blk.new _ _ _).fr0 hf7
          have hl5 := hown5.lt
          have hl7 := hown7.lt
          have hz24 := hf24.size
          have hzN : W4.heap.size ≤ W5.heap.size := hf5.size
          have hz1 := HZ1.out
          refine (put_any (B := W4.heap.size) (S := S5) (S1 := S7) (v := v) hbm (hown5.fr0 hf67) (by omega) hnd5 (fun h => by have := (hl5 _ h).2; omega) (fun h => by have := (hl7 _ h).1; omega) hAsc.out hS.out (hown7.mono (by omega)) hnd7
            (fun x hx h => by have := (hl5 _ hx).2; have := (hl7 _ h).1; omega) (by have := hN.out; omega) (by have := hN.out; omega)).mono ?_
          rintro e W8 ⟨A8, c8, S8, rfl, hbm8, hown8, hnd8, hsub8, hf8⟩
          have ho : ∀ i, i < W4.heap.size → ¬ (i = W5.heap.size ∨ i ∈ S5) := fun i hi h => h.elim (fun h => by omega) fun h => by have := (hl5 _ h).1; omega
          have hb2z : Blk W8 (w.heap.size + 1 + 1) 37 #[.string ⟨#[]⟩, .slice none 0 0] := ((b2.fr0 hf25).fr0 hf67).fr hf8 (ho _ (by omega))
          obtain ⟨x1, x2, x3, x4⟩ := agg_msg hbm8
          obtain ⟨y1, y2, y3, y4⟩ := agg_msg hb2z
          go_wp2_with fail
          have hg : Fr (fun x => x = w.heap.size + 1 + 1) W8 ((W8.setCell ⟨w.heap.size + 1 + 1, 0, none⟩ (.string mti)).setCell ⟨w.heap.size + 1 + 1, 1, none⟩ (.slice A8 (l.putF t v k).len c8)) :=
            ((Fr.refl (fun x => x = w.heap.size + 1 + 1) W8).setCell (p := ⟨w.heap.size + 1 + 1, 0, none⟩) (.inr rfl) _).setCell (p := ⟨w.heap.size + 1 + 1, 1, none⟩) (.inr rfl) _
          refine bodyPost_ret (v := .tuple #[.agg #[.string mti, .slice A8 (l.putF t v k).len c8], .int .i64 0]) (by simp [results, Try.results59, go_sem, y1, y2]) rfl ?_
          rw [HR.out]
          exact ⟨A8, c8, S8, rfl, (hown8.mono (by omega)).fr hg (fun x hx e => by have := (hown8.lt x hx).1; omega), hnd8,
            ((((hf1.trans hf25).trans hf67).trans' hf8 fun i hi h => absurd h (ho i (by omega))).trans' hg fun i hi h => by omega)⟩
end Go.Proofs.Ytgeiimifhbiklaa
