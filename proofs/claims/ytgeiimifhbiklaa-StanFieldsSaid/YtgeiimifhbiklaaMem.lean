/- Rows of nodes (fields) in memory, read and owned: words and laws for the walks of the message package; plain, nothing is claimed of the program here. -/
import Derived.Test.YtgeiimifhbiklaaProg
import Derived.WalkKit
import Derived.KernelRfl
import Derived.Maps.AppendAt
import Derived.Deep.AppendLies
import Derived.Deep.Draws
import Derived.Lib.Hide
namespace Go.Proofs.Ytgeiimifhbiklaa
open Go.RowKit

/-- Nodes, or fields, in a row: number, value, kids, and the rest of the row. -/
inductive Ns where
  | nil
  | cons (tag : Int) (value : ByteArray) (kids rest : Ns)
namespace Ns
def len : Ns → Nat
  | nil => 0
  | cons _ _ _ r => r.len + 1
def sz : Ns → Nat
  | nil => 0
  | cons _ _ k r => k.sz + r.sz + 1
def app : Ns → Ns → Ns
  | nil, m => m
  | cons t v k r, m => cons t v k (r.app m)
def keep (p : Int → Bool) : Ns → Ns
  | nil => nil
  | cons t v k r => if p t then cons t v k (r.keep p) else r.keep p
def one (t : Int) (v : ByteArray) (k : Ns) : Ns := cons t v k nil
/-- numbers are of int, values are strings that memory can hold -/
def wf : Ns → Prop
  | nil => True
  | cons t v k r => -9223372036854775808 ≤ t ∧ t ≤ 9223372036854775807 ∧ v.size ≤ 140737488355328 ∧ k.len ≤ 9223372036854775807 ∧ k.wf ∧ r.wf
theorem app_nil : ∀ l : Ns, l.app nil = l
  | nil => rfl
  | cons t v k r => by rw [app, app_nil r]
theorem app_assoc : ∀ a b c : Ns, (a.app b).app c = a.app (b.app c)
  | nil, _, _ => rfl
  | cons t v k r, b, c => by simp only [app, app_assoc r b c]
theorem len_app : ∀ a b : Ns, (a.app b).len = a.len + b.len
  | nil, b => by simp [app, len]
  | cons t v k r, b => by simp only [app, len, len_app r b]; omega
theorem sz_app : ∀ a b : Ns, (a.app b).sz = a.sz + b.sz
  | nil, b => by simp [app, sz]
  | cons t v k r, b => by simp only [app, sz, sz_app r b]; omega
theorem wf_app : ∀ a b : Ns, (a.app b).wf ↔ a.wf ∧ b.wf
  | nil, b => by simp [app, wf]
  | cons t v k r, b => by simp only [app, wf, wf_app r b, and_assoc]
theorem keep_app (p : Int → Bool) : ∀ a b : Ns, (a.app b).keep p = (a.keep p).app (b.keep p)
  | nil, b => rfl
  | cons t v k r, b => by
    simp only [app, keep, keep_app p r b]
    split <;> rfl
theorem len_keep_le (p : Int → Bool) : ∀ a : Ns, (a.keep p).len ≤ a.len
  | nil => Nat.le_refl _
  | cons t v k r => by
    have := len_keep_le p r
    simp only [keep]
    split <;> simp only [len] <;> omega
theorem len_le_sz : ∀ a : Ns, a.len ≤ a.sz
  | nil => Nat.le_refl _
  | cons t v k r => by have := len_le_sz r; simp only [len, sz]; omega
end Ns

/-- What a store or an allocation may have turned: blocks that G lets, and new ones. -/
structure Fr (G : Nat → Prop) (w w' : World) : Prop where
  os : w'.os = w.os
  tape : w'.tape = w.tape
  output : w'.output = w.output
  size : w.heap.size ≤ w'.heap.size
  block : ∀ k, k < w.heap.size → ¬ G k → w'.heap[k]? = w.heap[k]?
abbrev Fr0 : World → World → Prop := Fr (fun _ => False)
namespace Fr
variable {G G' : Nat → Prop} {a b c w w' : World}
theorem refl (G : Nat → Prop) (w : World) : Fr G w w := ⟨rfl, rfl, rfl, Nat.le_refl _, fun _ _ _ => rfl⟩
theorem trans' (h : Fr G a b) (k : Fr G' b c) (hg : ∀ i, i < a.heap.size → G' i → G i) : Fr G a c :=
  ⟨k.os.trans h.os, k.tape.trans h.tape, k.output.trans h.output, Nat.le_trans h.size k.size,
    fun i hi hn => (k.block i (Nat.lt_of_lt_of_le hi h.size) (fun e => hn (hg i hi e))).trans (h.block i hi hn)⟩
theorem trans (h : Fr G a b) (k : Fr G b c) : Fr G a c := h.trans' k fun _ _ e => e
theorem trans0 (h : Fr G a b) (k : Fr0 b c) : Fr G a c := h.trans' k fun _ _ e => e.elim
theorem mono (h : Fr G a b) (hg : ∀ i, i < a.heap.size → G i → G' i) : Fr G' a b :=
  ⟨h.os, h.tape, h.output, h.size, fun i hi hn => h.block i hi fun e => hn (hg i hi e)⟩
theorem drew (h : Fr G a b) : Fr G a b.drew := ⟨h.os, h.tape, h.output, h.size, h.block⟩
theorem drewN (h : Fr G a b) (n : Nat) : Fr G a (b.drewN n) := ⟨h.os, h.tape, h.output, h.size, h.block⟩
theorem alloc (h : Fr G a b) (o : Obj) : Fr G a (b.alloc o) :=
  ⟨h.os, h.tape, h.output, Nat.le_trans h.size (by simp), fun i hi hn => (Below.heap_alloc b o i (Nat.lt_of_lt_of_le hi h.size)).trans (h.block i hi hn)⟩
theorem setCell (h : Fr G a b) {p : Addr} (hp : a.heap.size ≤ p.block ∨ G p.block) (u : Value) : Fr G a (b.setCell p u) :=
  ⟨h.os, h.tape, h.output, by simpa [World.setCell] using h.size, fun i hi hn => (Below.heap_setCell b p u i (by
    rintro rfl
    rcases hp with hp | hp
    · omega
    · exact hn hp)).trans (h.block i hi hn)⟩
theorem grown (h : Fr G a b) {row : Option Nat} (hg : b.grownBy c row) (hr : ∀ k, row = some k → a.heap.size ≤ k ∨ G k) : Fr G a c :=
  ⟨hg.os.trans h.os, hg.tape.trans h.tape, hg.output.trans h.output, Nat.le_trans h.size hg.size,
    fun i hi hn => (hg.block i (Nat.lt_of_lt_of_le hi h.size) (fun e => by
      rcases hr i e.symm with h1 | h1
      · omega
      · exact hn h1)).trans (h.block i hi hn)⟩
theorem below (h : Fr0 a b) : Below a.heap.size a b := ⟨h.os, h.tape, h.output, h.size, fun k hk => h.block k hk id⟩
theorem of_below (h : Below a.heap.size a b) : Fr0 a b := ⟨h.os, h.tape, h.output, h.size, fun k hk _ => h.block k hk⟩
theorem cell (h : Fr G a b) {p : Addr} (hp : p.block < a.heap.size) (hg : ¬ G p.block) : b.cell? p = a.cell? p :=
  World.cell?_of_block (w := a) (h.block p.block hp hg)
theorem cell_some (h : Fr G a b) {p : Addr} {v : Value} (hc : a.cell? p = some v) (hg : ¬ G p.block) : b.cell? p = some v :=
  (h.cell (World.block_lt_of_cell? a p hc) hg).trans hc
theorem cell0 (h : Fr0 a b) {p : Addr} {v : Value} (hc : a.cell? p = some v) : b.cell? p = some v := h.cell_some hc id
theorem frozen (h : Fr G a b) {p : Addr} (hp : p.block < a.heap.size) (hg : ¬ G p.block) : b.frozen? p = a.frozen? p :=
  World.frozen?_of_block (w := a) (h.block p.block hp hg)
end Fr

/-! ### A block that is known whole -/
def Blk (w : World) (g : Nat) (t : TypeId) (cs : Array Value) : Prop := w.heap[g]? = some (.cells cs t (0, 0))
section
variable {w w' : World} {g : Nat} {t : TypeId} {cs : Array Value}
theorem Blk.lt (h : Blk w g t cs) : g < w.heap.size := (Array.getElem?_eq_some_iff.1 h).1
theorem Blk.cell (h : Blk w g t cs) (i : Nat) : w.cell? ⟨g, i, none⟩ = cs[i]? := cell_of_row w g i cs t (0, 0) h
theorem Blk.frozen (h : Blk w g t cs) (i : Nat) : w.frozen? ⟨g, i, none⟩ = false := by
  unfold Blk at h
  simp [World.frozen?, h]
theorem Blk.new (w : World) (t : TypeId) (cs : Array Value) : Blk (w.alloc (.cells cs t)) w.heap.size t cs := heap_alloc_new w _
theorem Blk.drew (h : Blk w g t cs) : Blk w.drew g t cs := h
theorem Blk.drewN (h : Blk w g t cs) (n : Nat) : Blk (w.drewN n) g t cs := h
theorem Blk.alloc (h : Blk w g t cs) (o : Obj) : Blk (w.alloc o) g t cs := (Below.heap_alloc w o g h.lt).trans h
theorem Blk.set_ (h : Blk w g t cs) (i : Nat) (u : Value) : Blk (w.setCell ⟨g, i, none⟩ u) g t (cs.setIfInBounds i u) := by
  unfold Blk at h ⊢
  simp [World.setCell, Array.getElem?_modify, h]
theorem Blk.far (h : Blk w g t cs) {p : Addr} (hp : g ≠ p.block) (u : Value) : Blk (w.setCell p u) g t cs := (Below.heap_setCell w p u g hp).trans h
theorem Blk.fr {G : Nat → Prop} (h : Blk w g t cs) (hf : Fr G w w') (hg : ¬ G g) : Blk w' g t cs := (hf.block g h.lt hg).trans h
theorem Blk.fr0 (h : Blk w g t cs) (hf : Fr0 w w') : Blk w' g t cs := h.fr hf id
end

/-! ### Reading -/
/-- From cell o of block b on the row l can be read; each block that it leads to is one that ok lets. -/
def RdFrom (w : World) (ok : Nat → Prop) : Ns → Nat → Nat → Prop
  | .nil, _, _ => True
  | .cons t v k r, b, o => ok b ∧ w.cell? ⟨b, o, none⟩ = some (.int .i64 t) ∧ w.cell? ⟨b, o + 1, none⟩ = some (.string v) ∧
      (∃ A c, w.cell? ⟨b, o + 2, none⟩ = some (.slice A k.len c) ∧ k.len ≤ c ∧ (k = .nil ∨ ∃ b' o', A = some ⟨b', o', none⟩ ∧ RdFrom w ok k b' o')) ∧
      RdFrom w ok r b (o + 3)
/-- The slice v reads as the row l. -/
def Rd (w : World) (ok : Nat → Prop) (v : Value) (l : Ns) : Prop :=
  ∃ A c, v = .slice A l.len c ∧ l.len ≤ c ∧ (l = .nil ∨ ∃ b o, A = some ⟨b, o, none⟩ ∧ RdFrom w ok l b o)
theorem RdFrom.keep {w w' : World} {ok ok' : Nat → Prop} (hk : ∀ g, ok g → w'.heap[g]? = w.heap[g]?) (ho : ∀ g, ok g → ok' g) :
    ∀ (l : Ns) (b o : Nat), RdFrom w ok l b o → RdFrom w' ok' l b o
  | .nil, _, _, _ => trivial
  | .cons t v k r, b, o, h => by
    obtain ⟨h0, h1, h2, ⟨A, c, h3, h4, h5⟩, h6⟩ := h
    have e : ∀ p : Addr, p.block = b → w'.cell? p = w.cell? p := fun p hp => World.cell?_of_block (w := w) (by rw [hp]; exact hk b h0)
    refine ⟨ho _ h0, (e _ rfl).trans h1, (e _ rfl).trans h2, ⟨A, c, (e _ rfl).trans h3, h4, ?_⟩, RdFrom.keep hk ho r b (o + 3) h6⟩
    rcases h5 with h5 | ⟨b', o', h5, h7⟩
    · exact .inl h5
    · exact .inr ⟨b', o', h5, RdFrom.keep hk ho k b' o' h7⟩
theorem Rd.keep {w w' : World} {ok ok' : Nat → Prop} {v : Value} {l : Ns} (h : Rd w ok v l) (hk : ∀ g, ok g → w'.heap[g]? = w.heap[g]?) (ho : ∀ g, ok g → ok' g) : Rd w' ok' v l := by
  obtain ⟨A, c, h1, h2, h3⟩ := h
  refine ⟨A, c, h1, h2, ?_⟩
  rcases h3 with h3 | ⟨b, o, h3, h4⟩
  · exact .inl h3
  · exact .inr ⟨b, o, h3, RdFrom.keep hk ho l b o h4⟩
/-- Each block that is read is one of the heap's. -/
theorem RdFrom.bound {w : World} {ok : Nat → Prop} : ∀ (l : Ns) (b o : Nat), RdFrom w ok l b o → RdFrom w (fun g => ok g ∧ g < w.heap.size) l b o
  | .nil, _, _, _ => trivial
  | .cons t v k r, b, o, h => by
    obtain ⟨h0, h1, h2, ⟨A, c, h3, h4, h5⟩, h6⟩ := h
    refine ⟨⟨h0, World.block_lt_of_cell? w _ h1⟩, h1, h2, ⟨A, c, h3, h4, ?_⟩, RdFrom.bound r b (o + 3) h6⟩
    rcases h5 with h5 | ⟨b', o', h5, h7⟩
    · exact .inl h5
    · exact .inr ⟨b', o', h5, RdFrom.bound k b' o' h7⟩
theorem Rd.bound {w : World} {ok : Nat → Prop} {v : Value} {l : Ns} (h : Rd w ok v l) : Rd w (fun g => ok g ∧ g < w.heap.size) v l := by
  obtain ⟨A, c, h1, h2, h3⟩ := h
  refine ⟨A, c, h1, h2, ?_⟩
  rcases h3 with h3 | ⟨b, o, h3, h4⟩
  · exact .inl h3
  · exact .inr ⟨b, o, h3, RdFrom.bound l b o h4⟩
theorem Rd.fr {w w' : World} {ok G : Nat → Prop} {v : Value} {l : Ns} (h : Rd w ok v l) (hf : Fr G w w') (hg : ∀ g, ok g → ¬ G g) : Rd w' ok v l :=
  h.bound.keep (fun g hh => hf.block g hh.2 (hg g hh.1)) fun _ hh => hh.1
theorem Rd.fr0 {w w' : World} {ok : Nat → Prop} {v : Value} {l : Ns} (h : Rd w ok v l) (hf : Fr0 w w') : Rd w' ok v l := h.fr hf fun _ _ e => e
theorem RdFrom.fr0 {w w' : World} {ok : Nat → Prop} {l : Ns} {b o : Nat} (h : RdFrom w ok l b o) (hf : Fr0 w w') : RdFrom w' ok l b o :=
  RdFrom.keep (fun g hh => hf.block g hh.2 id) (fun _ hh => hh.1) l b o (RdFrom.bound l b o h)
theorem RdFrom.fr {w w' : World} {ok G : Nat → Prop} {l : Ns} {b o : Nat} (h : RdFrom w ok l b o) (hf : Fr G w w') (hg : ∀ g, ok g → ¬ G g) : RdFrom w' ok l b o :=
  RdFrom.keep (fun g hh => hf.block g hh.2 (hg g hh.1)) (fun _ hh => hh.1) l b o (RdFrom.bound l b o h)
theorem Rd.any {w : World} {ok : Nat → Prop} {v : Value} {l : Ns} (h : Rd w ok v l) : Rd w (fun _ => True) v l := h.keep (fun _ _ => rfl) fun _ _ => trivial
/-- The rest of a row, behind k of its nodes. -/
theorem RdFrom.app {w : World} {ok : Nat → Prop} : ∀ (a c : Ns) (b o : Nat), RdFrom w ok (a.app c) b o → RdFrom w ok c b (o + a.len * 3)
  | .nil, c, b, o, h => by simpa [Ns.len, Ns.app] using h
  | .cons t v k r, c, b, o, h => by
    have := RdFrom.app r c b (o + 3) h.2.2.2.2
    simp only [Ns.len]
    rw [show o + (r.len + 1) * 3 = o + 3 + r.len * 3 from by omega]
    exact this
/-- The slice of the kids, out of a cell. -/
theorem RdFrom.kids {w : World} {ok : Nat → Prop} {t : Int} {v : ByteArray} {k r : Ns} {b o : Nat} (h : RdFrom w ok (.cons t v k r) b o) :
    ∃ A c, w.cell? ⟨b, o + 2, none⟩ = some (.slice A k.len c) ∧ Rd w ok (.slice A k.len c) k := by
  obtain ⟨_, _, _, ⟨A, c, h3, h4, h5⟩, _⟩ := h
  exact ⟨A, c, h3, A, c, rfl, h4, h5⟩

/-! ### Owning: each row in a block of its own, m marks behind it -/
def mark : List Value := [.int .i64 (-77), .string ⟨#[109, 97, 114, 107]⟩, .slice none 0 0]
def marks : Nat → List Value
  | 0 => []
  | m + 1 => mark ++ marks m
def cellsOf : Ns → List Value → List Value
  | .cons t v _ r, vk :: ks => .int .i64 t :: .string v :: vk :: cellsOf r ks
  | _, _ => []
def blk : Option Addr → List Nat
  | some a => [a.block]
  | none => []
/-- The kids of a row, whose slices are ks, own the blocks S, one behind the other. -/
def KOwn (w : World) (base m : Nat) : Ns → List Value → List Nat → Prop
  | .nil, ks, S => ks = [] ∧ S = []
  | .cons _ _ k r, ks, S => ∃ A c ks1 S1 ks2 S2, ks = .slice A k.len c :: ks2 ∧ S = (blk A ++ S1) ++ S2 ∧
      w.ownsRow base 114 3 (.slice A (k.len + m) c) (k.len + m) (cellsOf k ks1 ++ marks m) ∧ KOwn w base m k ks1 S1 ∧ KOwn w base m r ks2 S2
/-- The slice v (of element type e) owns the row l: the blocks S. -/
def Own (w : World) (base e m : Nat) (v : Value) (l : Ns) (S : List Nat) : Prop :=
  ∃ A c ks S', v = .slice A l.len c ∧ S = blk A ++ S' ∧ w.ownsRow base e 3 (.slice A (l.len + m) c) (l.len + m) (cellsOf l ks ++ marks m) ∧ KOwn w base m l ks S'

theorem length_marks : ∀ m, (marks m).length = m * 3
  | 0 => rfl
  | m + 1 => by simp only [marks, List.length_append, length_marks m]; simp [mark]; omega
theorem ownsRow_keep {w w' : World} {base e size : Nat} {A : Option Addr} {c n : Nat} {xs : List Value} (h : w.ownsRow base e size (.slice A n c) n xs)
    (hk : ∀ g ∈ blk A, w'.heap[g]? = w.heap[g]?) : w'.ownsRow base e size (.slice A n c) n xs := by
  refine ⟨h.1, ?_⟩
  rcases h.2 with h2 | ⟨g, cap, cur, hv, hg, hh, r⟩
  · exact .inl h2
  · refine .inr ⟨g, cap, cur, hv, hg, ?_, r⟩
    injection hv with hA
    rw [hk g (by simp [hA, blk])]
    exact hh
theorem KOwn.keep {w w' : World} {base m : Nat} : ∀ (l : Ns) (ks : List Value) (S : List Nat), KOwn w base m l ks S → (∀ g ∈ S, w'.heap[g]? = w.heap[g]?) → KOwn w' base m l ks S
  | .nil, _, _, h, _ => h
  | .cons t v k r, ks, S, h, hk => by
    obtain ⟨A, c, ks1, S1, ks2, S2, h1, h2, h3, h4, h5⟩ := h
    subst h2
    exact ⟨A, c, ks1, S1, ks2, S2, h1, rfl, ownsRow_keep h3 (fun g hg => hk g (by simp [hg])), KOwn.keep k ks1 S1 h4 (fun g hg => hk g (by simp [hg])),
      KOwn.keep r ks2 S2 h5 (fun g hg => hk g (by simp [hg]))⟩
theorem Own.keep {w w' : World} {base e m : Nat} {v : Value} {l : Ns} {S : List Nat} (h : Own w base e m v l S) (hk : ∀ g ∈ S, w'.heap[g]? = w.heap[g]?) : Own w' base e m v l S := by
  obtain ⟨A, c, ks, S', h1, h2, h3, h4⟩ := h
  subst h2
  exact ⟨A, c, ks, S', h1, rfl, ownsRow_keep h3 (fun g hg => hk g (by simp [hg])), KOwn.keep l ks S' h4 fun g hg => hk g (by simp [hg])⟩
theorem ownsRow_lt {w : World} {base e size : Nat} {A : Option Addr} {c n : Nat} {xs : List Value} (h : w.ownsRow base e size (.slice A n c) n xs) : ∀ g ∈ blk A, base ≤ g ∧ g < w.heap.size := by
  intro g hg
  cases A with
  | none => simp [blk] at hg
  | some a =>
    simp [blk] at hg
    exact h.lt g (by simp [Value.ownBlock, hg])
theorem KOwn.lt {w : World} {base m : Nat} : ∀ (l : Ns) (ks : List Value) (S : List Nat), KOwn w base m l ks S → ∀ g ∈ S, base ≤ g ∧ g < w.heap.size
  | .nil, _, _, h, g, hg => by rw [h.2] at hg; simp at hg
  | .cons t v k r, ks, S, h, g, hg => by
    obtain ⟨A, c, ks1, S1, ks2, S2, h1, h2, h3, h4, h5⟩ := h
    subst h2
    simp only [List.mem_append] at hg
    rcases hg with (hg | hg) | hg
    · exact ownsRow_lt h3 g hg
    · exact KOwn.lt k ks1 S1 h4 g hg
    · exact KOwn.lt r ks2 S2 h5 g hg
theorem Own.lt {w : World} {base e m : Nat} {v : Value} {l : Ns} {S : List Nat} (h : Own w base e m v l S) : ∀ g ∈ S, base ≤ g ∧ g < w.heap.size := by
  obtain ⟨A, c, ks, S', h1, h2, h3, h4⟩ := h
  subst h2
  intro g hg
  simp only [List.mem_append] at hg
  rcases hg with hg | hg
  · exact ownsRow_lt h3 g hg
  · exact KOwn.lt l ks S' h4 g hg
theorem Own.fr {w w' : World} {G : Nat → Prop} {base e m : Nat} {v : Value} {l : Ns} {S : List Nat} (h : Own w base e m v l S) (hf : Fr G w w') (hg : ∀ g ∈ S, ¬ G g) : Own w' base e m v l S :=
  h.keep fun g hs => hf.block g (h.lt g hs).2 (hg g hs)
theorem Own.fr0 {w w' : World} {base e m : Nat} {v : Value} {l : Ns} {S : List Nat} (h : Own w base e m v l S) (hf : Fr0 w w') : Own w' base e m v l S := h.fr hf fun _ _ e => e
theorem KOwn.fr {w w' : World} {G : Nat → Prop} {base m : Nat} {l : Ns} {ks : List Value} {S : List Nat} (h : KOwn w base m l ks S) (hf : Fr G w w') (hg : ∀ g ∈ S, ¬ G g) : KOwn w' base m l ks S :=
  h.keep _ _ _ fun g hs => hf.block g (KOwn.lt _ _ _ h g hs).2 (hg g hs)
theorem Own.nil (w : World) (base e : Nat) : Own w base e 0 (.slice none 0 0) .nil [] :=
  ⟨none, 0, [], [], rfl, rfl, World.ownsRow_nil w base e 3, rfl, rfl⟩
theorem ownsRow_mono {w : World} {base base' e size : Nat} {v : Value} {n : Nat} {xs : List Value} (h : w.ownsRow base e size v n xs) (hb : base' ≤ base) : w.ownsRow base' e size v n xs := by
  refine ⟨h.1, ?_⟩
  rcases h.2 with h2 | ⟨g, cap, cur, hv, hg, r⟩
  · exact .inl h2
  · exact .inr ⟨g, cap, cur, hv, Nat.le_trans hb hg, r⟩
theorem KOwn.mono {w : World} {base base' m : Nat} (hb : base' ≤ base) : ∀ (l : Ns) (ks : List Value) (S : List Nat), KOwn w base m l ks S → KOwn w base' m l ks S
  | .nil, _, _, h => h
  | .cons t v k r, ks, S, h => by
    obtain ⟨A, c, ks1, S1, ks2, S2, h1, h2, h3, h4, h5⟩ := h
    exact ⟨A, c, ks1, S1, ks2, S2, h1, h2, ownsRow_mono h3 hb, KOwn.mono hb k ks1 S1 h4, KOwn.mono hb r ks2 S2 h5⟩
theorem Own.mono {w : World} {base base' e m : Nat} {v : Value} {l : Ns} {S : List Nat} (h : Own w base e m v l S) (hb : base' ≤ base) : Own w base' e m v l S := by
  obtain ⟨A, c, ks, S', h1, h2, h3, h4⟩ := h
  exact ⟨A, c, ks, S', h1, h2, ownsRow_mono h3 hb, KOwn.mono hb l ks S' h4⟩
theorem KOwn.length {w : World} {base m : Nat} : ∀ (l : Ns) (ks : List Value) (S : List Nat), KOwn w base m l ks S → ks.length = l.len
  | .nil, _, _, h => by rw [h.1]; rfl
  | .cons t v k r, ks, S, h => by
    obtain ⟨A, c, ks1, S1, ks2, S2, h1, _, _, _, h5⟩ := h
    subst h1
    simp only [List.length_cons, Ns.len, KOwn.length r ks2 S2 h5]
theorem length_cellsOf : ∀ (l : Ns) (ks : List Value), ks.length = l.len → (cellsOf l ks).length = l.len * 3
  | .nil, _, _ => by simp [cellsOf, Ns.len]
  | .cons t v k r, [], h => by simp [Ns.len] at h
  | .cons t v k r, vk :: ks, h => by
    simp only [List.length_cons, Ns.len] at h
    simp only [cellsOf, List.length_cons, Ns.len, length_cellsOf r ks (by omega)]
    omega
theorem cellsOf_app : ∀ (a b : Ns) (ka kb : List Value), ka.length = a.len → cellsOf (a.app b) (ka ++ kb) = cellsOf a ka ++ cellsOf b kb
  | .nil, b, ka, kb, h => by
    have : ka = [] := List.eq_nil_of_length_eq_zero (by simpa [Ns.len] using h)
    subst this
    simp [Ns.app, cellsOf]
  | .cons t v k r, b, [], kb, h => by simp [Ns.len] at h
  | .cons t v k r, b, vk :: ka, kb, h => by
    simp only [List.length_cons, Ns.len] at h
    simp only [Ns.app, List.cons_append, cellsOf, cellsOf_app r b ka kb (by omega)]
theorem KOwn.app {w : World} {base m : Nat} : ∀ (a b : Ns) (ka kb : List Value) (Sa Sb : List Nat), KOwn w base m a ka Sa → KOwn w base m b kb Sb → KOwn w base m (a.app b) (ka ++ kb) (Sa ++ Sb)
  | .nil, b, ka, kb, Sa, Sb, h, h' => by rw [h.1, h.2]; exact h'
  | .cons t v k r, b, ka, kb, Sa, Sb, h, h' => by
    obtain ⟨A, c, ks1, S1, ks2, S2, h1, h2, h3, h4, h5⟩ := h
    subst h1 h2
    exact ⟨A, c, ks1, S1, ks2 ++ kb, S2 ++ Sb, by simp, by simp, h3, h4, KOwn.app r b ks2 kb S2 Sb h5 h'⟩
/-- What is owned can be read. -/
theorem KOwn.read {w : World} {base m g : Nat} : ∀ (l : Ns) (ks : List Value) (S : List Nat) (o : Nat) (ys : List Value),
    (∀ j u, (cellsOf l ks ++ ys)[j]? = some u → w.cell? ⟨g, o + j, none⟩ = some u) → KOwn w base m l ks S → RdFrom w (fun b => b = g ∨ b ∈ S) l g o
  | .nil, _, _, _, _, _, _ => trivial
  | .cons t v k r, ks, S, o, ys, hc, h => by
    obtain ⟨A, c', ks1, S1, ks2, S2, h1, h2, h3, h4, h5⟩ := h
    subst h1 h2
    have c0 := hc 0 (.int .i64 t) rfl
    have c1 := hc 1 (.string v) rfl
    have c2 := hc 2 (.slice A k.len c') rfl
    refine ⟨.inl rfl, c0, c1, ⟨A, c', c2, ?_, ?_⟩, ?_⟩
    · rcases h3.2 with ⟨h6, h7⟩ | ⟨g', cap, cur, hv, _, _, h8, _⟩
      · omega
      · injection hv with _ _ hcap
        omega
    · by_cases hk : k = .nil
      · exact .inl hk
      · right
        have hlen : 0 < k.len + m := by
          cases k with
          | nil => exact absurd rfl hk
          | cons => simp only [Ns.len]; omega
        obtain ⟨g', cap, hv, hb', hg'⟩ := h3.form hlen
        injection hv with hA
        subst hA
        refine ⟨g', 0, rfl, RdFrom.keep (fun _ _ => rfl) (fun b hb => ?_) k g' 0 (KOwn.read k ks1 S1 0 (marks m) (fun j u hu => ?_) h4)⟩
        · rcases hb with rfl | hb
          · exact .inr (by simp [blk])
          · exact .inr (by simp [hb])
        · have := h3.cells (g := g') rfl j u hu
          simpa [Addr.add_lit] using this
    · exact RdFrom.keep (fun _ _ => rfl) (fun b hb => hb.imp id fun hb => by simp [hb]) r g (o + 3) (KOwn.read r ks2 S2 (o + 3) ys (fun j u hu => by
        have := hc (j + 3) u (by simpa [cellsOf] using hu)
        rwa [show o + 3 + j = o + (j + 3) from by omega]) h5)
theorem Own.read {w : World} {base e m : Nat} {v : Value} {l : Ns} {S : List Nat} (h : Own w base e m v l S) : Rd w (· ∈ S) v l := by
  obtain ⟨A, c, ks, S', h1, h2, h3, h4⟩ := h
  subst h1 h2
  refine ⟨A, c, rfl, ?_, ?_⟩
  · rcases h3.2 with ⟨h6, h7⟩ | ⟨g', cap, cur, hv, _, _, h8, _⟩
    · omega
    · injection hv with _ _ hcap
      omega
  · by_cases hk : l = .nil
    · exact .inl hk
    · right
      have hlen : 0 < l.len + m := by
        cases l with
        | nil => exact absurd rfl hk
        | cons => simp only [Ns.len]; omega
      obtain ⟨g', cap, hv, hb', hg'⟩ := h3.form hlen
      injection hv with hA
      subst hA
      refine ⟨g', 0, rfl, RdFrom.keep (fun _ _ => rfl) (fun b hb => ?_) l g' 0 (KOwn.read l ks S' 0 (marks m) (fun j u hu => ?_) h4)⟩
      · rcases hb with rfl | hb
        · simp [blk]
        · simp [hb]
      · have := h3.cells (g := g') rfl j u hu
        simpa [Addr.add_lit] using this

/-! ### append of one element -/
theorem infoN : (Try.prog.info? 114).map (fun i => (i.zero, i.size, i.bytes)) = some (some (.agg #[.int .i64 0, .string ⟨#[]⟩, .slice none 0 0]), 3, 48) := by kernel_rfl
theorem infoF : (Try.prog.info? 76).map (fun i => (i.zero, i.size, i.bytes)) = some (some (.agg #[.int .i64 0, .string ⟨#[]⟩, .slice none 0 0]), 3, 48) := by kernel_rfl
theorem undN : Try.prog.underlying 74 = some (.slice 114) := by kernel_rfl
theorem undF : Try.prog.underlying 35 = some (.slice 76) := by kernel_rfl

/-- An operation that is an append, by what its run comes to. -/
theorem wpList_append_run {P : Program} {w : World} {ops : Array Oper} {rest : List Oper} {o : Oper} {a : Act} {Q : Exit → Act → World → Prop} {R : Value → World → Prop} {v u : Value}
    (hgd : o.guard = none) (s x : Operand) (t : TypeId) (ho : o.op = .call { callee := .builtin .append, args := #[s, x], argTypes := #[t, t] }) (hs : a.eval s = v) (hx : a.eval x = u)
    (hrun : ∃ v' w', (Builtin.append_ #[t, t] o.type #[v, u]).run P w = .ok v' w' ∧ R v' w') (h : ∀ v' w', R v' w' → wpList P ops Q rest (a.put o.dst v') w') : wpList P ops Q (o :: rest) a w :=
  wpList_plain hgd fun K hK => by
    obtain ⟨v', w', hr, hR⟩ := hrun
    unfold Oper.wp execOp
    simp only [ho, resolve, invoke, builtin, Sem.run_bind, Sem.run_pure, Result.andThen_ok, List.map_toArray, List.map_cons, List.map_nil, hs, hx, hr]
    exact hK _ _ (h v' w' hR)

theorem step_append_run {P : Program} {w : World} {ops : Array Oper} {o : Oper} {a : Act} {K : Act → World → Prop} {Q : Exit → Act → World → Prop} {E : Prop} {R : Value → World → Prop} {v u : Value}
    (hgd : o.guard = none) (s x : Operand) (t : TypeId) (ho : o.op = .call { callee := .builtin .append, args := #[s, x], argTypes := #[t, t] }) (hs : a.eval s = v) (hx : a.eval x = u)
    (hrun : ∃ v' w', (Builtin.append_ #[t, t] o.type #[v, u]).run P w = .ok v' w' ∧ R v' w') (h : ∀ v' w', R v' w' → K (a.put o.dst v') w') :
    if Region.wanted o (yielded ops a.tmps) = true then Oper.wp P o a w K Q else E := by
  have hw : Region.wanted o (yielded ops a.tmps) = true := by simp [Region.wanted, hgd]
  rw [if_pos hw]
  obtain ⟨v', w', hr, hR⟩ := hrun
  unfold Oper.wp execOp
  simp only [ho, resolve, invoke, builtin, Sem.run_bind, Sem.run_pure, Result.andThen_ok, List.map_toArray, List.map_cons, List.map_nil, hs, hx, hr]
  exact h v' w' hR

theorem blk_own (A : Option Addr) (n c : Nat) : ∀ g, g ∈ blk A ↔ (Value.slice A n c).ownBlock = some g := by
  intro g
  cases A with
  | none => simp [blk, Value.ownBlock]
  | some a => simp [blk, Value.ownBlock, eq_comm]
theorem blk_nodup (A : Option Addr) : (blk A).Nodup := by cases A <;> simp [blk]
theorem ownsRow_form {w : World} {base e size n : Nat} {v : Value} {xs : List Value} (h : w.ownsRow base e size v n xs) : ∃ A c, v = .slice A n c ∧ n ≤ c := by
  rcases h.2 with ⟨rfl, rfl⟩ | ⟨g, cap, cur, rfl, _, _, h, _⟩
  · exact ⟨none, 0, rfl, Nat.le_refl _⟩
  · exact ⟨_, cap, rfl, h⟩
/-- What an append of the element (tag, val, k) to the row l leaves. -/
def Pushed (w : World) (B e : Nat) (l : Ns) (tag : Int) (val : ByteArray) (k : Ns) (S S1 : List Nat) (v' : Value) (w' : World) : Prop :=
  ∃ A c S', v' = .slice A (l.len + 1) c ∧ Own w' B e 0 (.slice A (l.len + 1) c) (l.app (.one tag val k)) S' ∧ S'.Nodup ∧ (∀ g ∈ S', g ∈ S ∨ g ∈ S1 ∨ g = w.heap.size) ∧ Fr (· ∈ S) w w'
theorem push_run {w : World} {B e : Nat} {v : Value} {l : Ns} {S : List Nat} {X : Nat} {tag : Int} {val : ByteArray} {A1 : Option Addr} {c1 : Nat} {k : Ns} {S1 : List Nat} (t ty : TypeId)
    (ht : Try.prog.underlying t = some (.slice e)) (hinf : (Try.prog.info? e).map (fun i => (i.zero, i.size, i.bytes)) = some (some (.agg #[.int .i64 0, .string ⟨#[]⟩, .slice none 0 0]), 3, 48))
    (hown : Own w B e 0 v l S) (hB : B ≤ w.heap.size) (hnd : S.Nodup)
    (hx0 : w.cell? ⟨X, 0, none⟩ = some (.int .i64 tag)) (hx1 : w.cell? ⟨X, 1, none⟩ = some (.string val)) (hx2 : w.cell? ⟨X, 2, none⟩ = some (.slice A1 k.len c1))
    (hk : Own w B 114 0 (.slice A1 k.len c1) k S1) (hnd1 : S1.Nodup) (hdis : ∀ g ∈ S, g ∉ S1) (hlen : l.len ≤ 1099511627776) :
    ∃ v' w', (Builtin.append_ #[t, t] ty #[v, .slice (some ⟨X, 0, none⟩) 1 1]).run Try.prog w = .ok v' w' ∧ Pushed w B e l tag val k S S1 v' w' := by
  obtain ⟨i0, hi, hz0, hz1, hz2⟩ := info_parts hinf
  obtain ⟨A, c, ks, S', rfl, rfl, hrow, hkids⟩ := hown
  obtain ⟨A1', c1', ks1, S1', h1, rfl, hrow1, hkids1⟩ := hk
  simp only [Value.slice.injEq, true_and] at h1
  obtain ⟨rfl, rfl⟩ := h1
  simp only [marks, List.append_nil, Nat.add_zero] at hrow hrow1
  have hks := KOwn.length _ _ _ hkids
  obtain ⟨v', w', hr, hrow', hg, _, hblk⟩ := run_append_own_at (P := Try.prog) w B t ty e i0 _ 3 48 ht hi hz0 hz1 hz2 rfl (by decide) _ l.len (cellsOf l ks) hrow ⟨X, 0, none⟩ 1 1
    [.int .i64 tag, .string val, .slice A1 k.len c1] rfl (by
      intro j u hu
      rcases j with _ | _ | _ | j
      · simp at hu; subst hu; exact hx0
      · simp at hu; subst hu; simpa [Addr.add_lit] using hx1
      · simp at hu; subst hu; simpa [Addr.add_lit] using hx2
      · simp at hu) (by simp [Value.oneCell']) (by simp only [maxLen]; omega) (by omega) hB
  obtain ⟨A2, c2, rfl, _⟩ := ownsRow_form hrow'
  have hfr : Fr (· ∈ blk A ++ S') w w' := (Fr.refl _ w).grown hg fun g hg => .inr (by simp [(blk_own A l.len c g).2 hg])
  have hAl := ownsRow_lt hrow
  have hSl := KOwn.lt _ _ _ hkids
  have hA1l := ownsRow_lt hrow1
  have hS1l := KOwn.lt _ _ _ hkids1
  simp only [List.nodup_append] at hnd hnd1
  have hdA : ∀ g ∈ S', g ∉ blk A := fun g h1 h2 => hnd.2.2 g h2 g h1 rfl
  refine ⟨_, w', hr, A2, c2, blk A2 ++ (S' ++ (blk A1 ++ S1')), rfl, ⟨A2, c2, ks ++ [.slice A1 k.len c1], S' ++ (blk A1 ++ S1'), ?_, rfl, ?_, ?_⟩, ?_, ?_, hfr⟩
  · simp only [Ns.len_app, Ns.one, Ns.len]
  · rw [cellsOf_app _ _ _ _ hks]
    simp only [Ns.len_app, Ns.one, Ns.len, marks, List.append_nil]
    exact hrow'
  · refine KOwn.app _ _ _ _ _ _ (hkids.keep _ _ _ fun g hgs => hg.block g (hSl g hgs).2 fun e => hdA g hgs ((blk_own A l.len c g).2 e.symm)) ?_
    have hfar : ∀ g, g ∈ blk A1 ++ S1' → g < w.heap.size → w'.heap[g]? = w.heap[g]? := fun g hgs hlt => hg.block g hlt fun e => hdis g (by simp [(blk_own A l.len c g).2 e.symm]) hgs
    exact ⟨A1, c1, ks1, S1', [], [], rfl, by simp, by simpa [marks] using ownsRow_keep hrow1 (fun g hgs => hfar g (by simp [hgs]) (hA1l g hgs).2), hkids1.keep _ _ _ (fun g hgs => hfar g (by simp [hgs]) (hS1l g hgs).2), rfl, rfl⟩
  · have hnew : ∀ g ∈ blk A2, g ∉ S' ++ (blk A1 ++ S1') := by
      intro g hg2 hgs
      rw [blk_own A2 (l.len + 1) c2 g] at hg2
      simp only [List.mem_append] at hgs
      rcases hblk with h | h
      · rw [h, ← blk_own] at hg2
        rcases hgs with hgs | hgs | hgs
        · exact hdA g hgs hg2
        · exact hdis g (by simp [hg2]) (by simp [hgs])
        · exact hdis g (by simp [hg2]) (by simp [hgs])
      · rw [h] at hg2
        injection hg2 with hg2
        subst hg2
        rcases hgs with hgs | hgs | hgs
        · exact absurd (hSl _ hgs).2 (by omega)
        · exact absurd (hA1l _ hgs).2 (by omega)
        · exact absurd (hS1l _ hgs).2 (by omega)
    simp only [List.nodup_append]
    refine ⟨blk_nodup _, ⟨hnd.2.1, hnd1, fun a ha b hb e => ?_⟩, fun a ha b hb e => ?_⟩
    · subst e; exact hdis a (by simp [ha]) hb
    · subst e; exact hnew a ha (by simpa using hb)
  · intro g hgs
    simp only [List.mem_append] at hgs
    rcases hgs with hgs | hgs | hgs
    · rw [blk_own A2 (l.len + 1) c2 g] at hgs
      rcases hblk with h | h
      · rw [h, ← blk_own] at hgs
        exact .inl (by simp [hgs])
      · rw [h] at hgs
        injection hgs with hgs
        exact .inr (.inr hgs.symm)
    · exact .inl (by simp [hgs])
    · exact .inr (.inl (by simpa using hgs))
end Go.Proofs.Ytgeiimifhbiklaa
