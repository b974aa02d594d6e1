/- The document's numbers: New, Take, Taken, Free: their contracts, proved by walks. -/
import Derived.Test.YtaeneoenihonkaaNew
import Derived.Test.YtaeneoenihonkaaOne
namespace Go.Proofs.Ytaeneoenihonkaa
open Go.RowKit

theorem infoB : (Try.prog.info? 4).map (fun i => (i.zero, i.size, i.bytes)) = some (some (.bool false), 1, 1) := by kernel_rfl
theorem undB : Try.prog.underlying 43 = some (.slice 4) := by kernel_rfl
/-- Which are out, as a row of bools. -/
structure BitsW (w : World) (o : Nat) (m : Int) (ks : List Int) (cs : Array Value) : Prop where
  blk : Blk w o 4 cs
  at_ : ∀ i : Nat, (i : Int) ≤ m → cs[i]? = some (.bool (decide ((i : Int) ∈ ks)))
structure RefW (w : World) (g o : Nat) (m last : Int) (ks : List Int) : Prop where
  blk : Blk w g 87 #[.int .i64 m, .int .i64 last, .slice (some ⟨o, 0, none⟩) (m + 1).toNat (m + 1).toNat, .int .i64 ks.length]
  bits : ∃ cs, BitsW w o m ks cs
  ne : g ≠ o
theorem RefW.fr {w w' : World} {G : Nat → Prop} {g o : Nat} {m last : Int} {ks : List Int} (h : RefW w g o m last ks) (hf : Fr G w w') (h1 : ¬ G g) (h2 : ¬ G o) : RefW w' g o m last ks :=
  ⟨h.blk.fr hf h1, h.bits.imp fun _ b => ⟨b.blk.fr hf h2, b.at_⟩, h.ne⟩
theorem RefW.fr0 {w w' : World} {g o : Nat} {m last : Int} {ks : List Int} (h : RefW w g o m last ks) (hf : Fr0 w w') : RefW w' g o m last ks := h.fr hf id id
theorem BitsW.cell {w : World} {o : Nat} {m : Int} {ks : List Int} {cs : Array Value} (h : BitsW w o m ks cs) {k : Int} (h0 : 0 ≤ k) (h1 : k ≤ m) : w.cell? ⟨o, k.toNat, none⟩ = some (.bool (decide (k ∈ ks))) := by
  have := h.at_ k.toNat (by omega)
  rw [Int.toNat_of_nonneg h0] at this
  exact (h.blk.cell _).trans this
/-- A bool set. -/
theorem BitsW.put {w : World} {o : Nat} {m : Int} {ks ks' : List Int} {cs : Array Value} (h : BitsW w o m ks cs) {k : Int} (h0 : 0 ≤ k) (h1 : k ≤ m) (b : Bool)
    (hb : decide (k ∈ ks') = b) (hr : ∀ x, x ≠ k → (x ∈ ks' ↔ x ∈ ks)) : BitsW (w.setCell ⟨o, k.toNat, none⟩ (.bool b)) o m ks' (cs.setIfInBounds k.toNat (.bool b)) := by
  refine ⟨h.blk.set_ _ _, fun i hi => ?_⟩
  have hlt : ∀ j : Nat, (j : Int) ≤ m → j < cs.size := fun j hj => (Array.getElem?_eq_some_iff.1 (h.at_ j hj)).1
  rw [Array.getElem?_setIfInBounds]
  by_cases e : k.toNat = i
  · subst e
    rw [if_pos rfl, if_pos (hlt _ hi), Int.toNat_of_nonneg h0, hb]
  · rw [if_neg e, h.at_ i hi]
    have hk : (i : Int) ≠ k := by omega
    simp only [hr _ hk]

def RNewPost (w : World) (m : Int) (e : Ending) (w' : World) : Prop :=
  if 1 ≤ m ∧ m ≤ 999999 then ∃ g o, e = .returned (.tuple #[.pointer (some ⟨g, 0, none⟩), .int .i64 0]) ∧ RefW w' g o m 0 [] ∧ w.heap.size ≤ g ∧ w.heap.size ≤ o ∧ Fr0 w w'
  else e = .returned (.tuple #[.pointer none, .int .i64 1]) ∧ Fr0 w w'
theorem rnew_any (m : Int) (w : World) : Calls Try.prog 11 #[.int .i64 m] w (RNewPost w m) := by
  by_cases h1 : m < 1
  · have h2 : ¬ (1 ≤ m ∧ m ≤ 999999) := by omega
    have H2 := Lib.hid h2
    clear h2
    go_enter Try.func11, Try.ntmps11
    go_wp2_with fail
    exact bodyPost_ret (v := .tuple #[.pointer none, .int .i64 1]) (by simp [results, Try.results11, go_sem]) rfl (by unfold RNewPost; rw [if_neg H2.out]; exact ⟨rfl, Fr.refl _ _⟩)
  · by_cases h3 : m ≤ 999999
    · have h2 : 1 ≤ m ∧ m ≤ 999999 := by omega
      have H2 := Lib.hid h2
      clear h2
      obtain ⟨n, hn⟩ : ∃ n, n = (m + 1).toNat := ⟨_, rfl⟩
      obtain ⟨C, hC⟩ : ∃ C, C = Array.replicate (m + 1).toNat (Value.bool false) := ⟨_, rfl⟩
      obtain ⟨m1, hm1⟩ : ∃ m1, m1 = m + 1 := ⟨_, rfl⟩
      have hw : IntKind.i64.wrap (m + 1) = m1 := by rw [hm1]; exact IntWalk.i64_in _ (by omega)
      have b0 : 0 ≤ m1 ∧ m1 ≤ 17592186044416 := by omega
      rw [← hm1] at hn hC
      have HM := Lib.hid hm1
      have HN := Lib.hid hn
      have HC := Lib.hid hC
      clear hn hC hm1
      go_enter Try.func11, Try.ntmps11
      go_wp2_with (at_make; refine wpList_make1 rfl _ _ rfl undB infoB rfl b0.1 b0.2 (by omega) HN.out HC.out rfl rfl ?_)
      refine bodyPost_ret (v := .tuple #[.pointer (some ⟨w.heap.size + 1, 0, none⟩), .int .i64 0]) (by simp [results, Try.results11, go_sem]) rfl ?_
      unfold RNewPost
      rw [if_pos H2.out]
      rw [HN.out, HC.out, HM.out]
      refine ⟨w.heap.size + 1, w.heap.size, rfl, ⟨?_, ⟨_, ⟨(Blk.new w _ _).alloc _, ?_⟩⟩, by omega⟩, by omega, by omega, ((Fr.refl _ _).alloc _).alloc _⟩
      · have := Blk.new (w.alloc (.cells (Array.replicate (m + 1).toNat (.bool false)) 4)) 87 #[.int .i64 m, .int .i64 0, .slice (some ⟨w.heap.size, 0, none⟩) (m + 1).toNat (m + 1).toNat, .int .i64 0]
        rwa [show (w.alloc (.cells (Array.replicate (m + 1).toNat (.bool false)) 4)).heap.size = w.heap.size + 1 by simp] at this
      · intro i hi
        rw [Array.getElem?_eq_getElem (by simp; omega)]
        simp
    · have h2 : ¬ (1 ≤ m ∧ m ≤ 999999) := by omega
      have H2 := Lib.hid h2
      clear h2
      go_enter Try.func11, Try.ntmps11
      go_wp2_with fail
      exact bodyPost_ret (v := .tuple #[.pointer none, .int .i64 1]) (by simp [results, Try.results11, go_sem]) rfl (by unfold RNewPost; rw [if_neg H2.out]; exact ⟨rfl, Fr.refl _ _⟩)
/-- Those that are out: each once, each between 1 and the most. -/
structure KsOk (m : Int) (ks : List Int) : Prop where
  nd : ks.Nodup
  in_ : ∀ x ∈ ks, 1 ≤ x ∧ x ≤ m
theorem rtaken_any {w : World} {g o : Nat} {m last : Int} {ks : List Int} (h : RefW w g o m last ks) (hk : KsOk m ks) (hm : m ≤ 999999) (x : Int) :
    Calls Try.prog 40 #[.pointer (some ⟨g, 0, none⟩), .int .i64 x] w fun e w' => e = .returned (.bool (decide (x ∈ ks))) ∧ w = w' := by
  obtain ⟨cs, hb⟩ := h.bits
  have c0 := h.blk.cell 0
  have c2 := h.blk.cell 2
  by_cases h1 : 1 ≤ x
  · by_cases h2 : x ≤ m
    · have c := hb.cell (k := x) (by omega) h2
      have hn : x.toNat < (m + 1).toNat := by omega
      go_enter Try.func40, Try.ntmps40
      go_wp2_with fail
      go_ret
      exact ⟨rfl, rfl⟩
    · have hx : decide (x ∈ ks) = false := decide_eq_false fun e => h2 (hk.in_ x e).2
      have HX := Lib.hid hx
      clear hx
      go_enter Try.func40, Try.ntmps40
      go_wp2_with fail
      go_ret
      rw [HX.out]
      exact ⟨rfl, rfl⟩
  · have hx : decide (x ∈ ks) = false := decide_eq_false fun e => h1 (hk.in_ x e).1
    have HX := Lib.hid hx
    clear hx
    go_enter Try.func40, Try.ntmps40
    go_wp2_with fail
    go_ret
    rw [HX.out]
    exact ⟨rfl, rfl⟩
end Go.Proofs.Ytaeneoenihonkaa
