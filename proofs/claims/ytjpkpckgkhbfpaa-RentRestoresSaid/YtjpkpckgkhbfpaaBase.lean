/- Words of our own for memory: a block known whole, a call that changes only some blocks, a slice that reads as a list. No program stands in this text. -/
import Derived.WalkKit
import Derived.WalkSpells
import Derived.WalkLawsBesides
import Derived.BigQuiet
import Derived.Deep.QuietTactic
import Derived.Lib.Hide
import Derived.Deep.RegionHeld3
import Derived.Deep.AppendLies
import Derived.Deep.DrawnRows
import Derived.Deep.RegionLaw
namespace Go.Proofs.Ytjpkpckgkhbfpaa
open Go.RowKit

/-- What lies in none of the blocks F, and lay there before, lies as it lay. -/
structure Chg (F : Nat → Prop) (w w' : World) : Prop where
  os : w'.os = w.os
  tape : w'.tape = w.tape
  output : w'.output = w.output
  size : w.heap.size ≤ w'.heap.size
  block : ∀ k, k < w.heap.size → ¬ F k → w'.heap[k]? = w.heap[k]?

def NoF : Nat → Prop := fun _ => False
/-- Only new blocks. -/
abbrev Grew (w w' : World) : Prop := Chg NoF w w'

section
variable {F G : Nat → Prop} {w w' a b c : World}
theorem Chg.refl (F : Nat → Prop) (w : World) : Chg F w w := ⟨rfl, rfl, rfl, Nat.le_refl _, fun _ _ _ => rfl⟩
theorem Chg.trans (h : Chg F a b) (k : Chg G b c) (hG : ∀ i, i < a.heap.size → G i → F i) : Chg F a c :=
  ⟨k.os.trans h.os, k.tape.trans h.tape, k.output.trans h.output, Nat.le_trans h.size k.size,
   fun i hi hf => (k.block i (Nat.lt_of_lt_of_le hi h.size) (fun g => hf (hG i hi g))).trans (h.block i hi hf)⟩
theorem Chg.mono (h : Chg F a b) (hG : ∀ i, i < a.heap.size → F i → G i) : Chg G a b :=
  ⟨h.os, h.tape, h.output, h.size, fun i hi hg => h.block i hi (fun f => hg (hG i hi f))⟩
theorem Grew.chg (h : Grew a b) : Chg F a b := h.mono fun _ _ f => f.elim
theorem Grew.trans (h : Grew a b) (k : Grew b c) : Grew a c := Chg.trans h k fun _ _ f => f.elim
theorem Chg.grew (h : Chg F a b) (k : Grew b c) : Chg F a c := Chg.trans h k fun _ _ f => f.elim
theorem Grew.then (h : Grew a b) (k : Chg F b c) : Chg F a c := Chg.trans h.chg k fun _ _ f => f
theorem Grew.below (h : Grew a b) : Below a.heap.size a b := ⟨h.os, h.tape, h.output, h.size, fun k hk => h.block k hk id⟩
theorem Grew.of_below (h : Below a.heap.size a b) : Grew a b := ⟨h.os, h.tape, h.output, h.size, fun k hk _ => h.block k hk⟩
theorem Chg.drew (h : Chg F a b) : Chg F a b.drew := ⟨h.os, h.tape, h.output, h.size, h.block⟩
theorem Chg.drewN (h : Chg F a b) (n : Nat) : Chg F a (b.drewN n) := ⟨h.os, h.tape, h.output, h.size, h.block⟩
theorem Chg.alloc (h : Chg F a b) (o : Obj) : Chg F a (b.alloc o) :=
  ⟨h.os, h.tape, h.output, Nat.le_trans h.size (by simp), fun i hi hf => (Below.heap_alloc b o i (Nat.lt_of_lt_of_le hi h.size)).trans (h.block i hi hf)⟩
theorem Chg.setCell (h : Chg F a b) {p : Addr} (hp : p.block < a.heap.size → F p.block) (u : Value) : Chg F a (b.setCell p u) :=
  ⟨h.os, h.tape, h.output, by simpa [World.setCell] using h.size, fun i hi hf => (Below.heap_setCell b p u i (by
    rintro rfl
    exact hf (hp hi))).trans (h.block i hi hf)⟩
theorem Chg.grown {row : Option Nat} (h : Chg F a b) (hg : b.grownBy c row) (hr : ∀ k, row = some k → k < a.heap.size → F k) : Chg F a c :=
  ⟨hg.os.trans h.os, hg.tape.trans h.tape, hg.output.trans h.output, Nat.le_trans h.size hg.size, fun i hi hf =>
    (hg.block i (Nat.lt_of_lt_of_le hi h.size) (fun e => hf (hr i e.symm hi))).trans (h.block i hi hf)⟩
theorem Chg.cell (h : Chg F w w') {p : Addr} (hp : p.block < w.heap.size) (hf : ¬ F p.block) : w'.cell? p = w.cell? p := World.cell?_of_block (h.block p.block hp hf)
theorem Chg.frozen (h : Chg F w w') {p : Addr} (hp : p.block < w.heap.size) (hf : ¬ F p.block) : w'.frozen? p = w.frozen? p := World.frozen?_of_block (h.block p.block hp hf)
end

/-- Block g is just these cells, none frozen. -/
def Blk (w : World) (g : Nat) (t : TypeId) (cs : Array Value) : Prop := w.heap[g]? = some (.cells cs t (0, 0))

section
variable {w w' : World} {g : Nat} {t : TypeId} {cs : Array Value} {F : Nat → Prop}
theorem Blk.lt (h : Blk w g t cs) : g < w.heap.size := by
  rcases Nat.lt_or_ge g w.heap.size with hlt | hge
  · exact hlt
  · unfold Blk at h; rw [Array.getElem?_eq_none hge] at h; cases h
theorem Blk.cell (h : Blk w g t cs) (i : Nat) : w.cell? ⟨g, i, none⟩ = cs[i]? := cell_of_row w g i cs t (0, 0) h
theorem Blk.frozen (h : Blk w g t cs) (i : Nat) : w.frozen? ⟨g, i, none⟩ = false := by
  unfold Blk at h
  simp [World.frozen?, h]
theorem Blk.facts (h : Blk w g t cs) : (∀ i, w.cell? ⟨g, i, none⟩ = cs[i]?) ∧ (∀ i, w.frozen? ⟨g, i, none⟩ = false) ∧ g < w.heap.size := ⟨h.cell, h.frozen, h.lt⟩
theorem Blk.new (w : World) (t : TypeId) (cs : Array Value) : Blk (w.alloc (.cells cs t)) w.heap.size t cs := heap_alloc_new w _
theorem Blk.drew (h : Blk w g t cs) : Blk w.drew g t cs := h
theorem Blk.drewN (h : Blk w g t cs) (n : Nat) : Blk (w.drewN n) g t cs := h
theorem Blk.alloc (h : Blk w g t cs) (o : Obj) : Blk (w.alloc o) g t cs := (Below.heap_alloc w o g h.lt).trans h
theorem Blk.put (h : Blk w g t cs) (i : Nat) (u : Value) : Blk (w.setCell ⟨g, i, none⟩ u) g t (cs.setIfInBounds i u) := by
  unfold Blk at h ⊢
  simp [World.setCell, Array.getElem?_modify, h]
theorem Blk.far (h : Blk w g t cs) {p : Addr} (hp : g ≠ p.block) (u : Value) : Blk (w.setCell p u) g t cs := (Below.heap_setCell w p u g hp).trans h
theorem Blk.chg (h : Blk w g t cs) (hb : Chg F w w') (hg : ¬ F g) : Blk w' g t cs := (hb.block g h.lt hg).trans h
theorem Blk.grew (h : Blk w g t cs) (hb : Grew w w') : Blk w' g t cs := h.chg hb id
theorem Blk.grown {row : Option Nat} (h : Blk w g t cs) (hb : w.grownBy w' row) (hg : some g ≠ row) : Blk w' g t cs := (hb.block g h.lt hg).trans h
theorem Blk.ne_ {g' : Nat} {t' : TypeId} {cs' : Array Value} (h : Blk w g t cs) (h' : Blk w g' t' cs') (hne : t ≠ t') : g ≠ g' := by
  rintro rfl
  unfold Blk at h h'
  rw [h] at h'
  injection h' with h'
  injection h' with _ ht
  exact hne ht
end

/-- A slice value that reads as cells: for reading alone. -/
def Sl (w : World) (s : Nat) (A : Option Addr) (n : Nat) (xs : List Value) : Prop :=
  xs.length = n * s ∧ (0 < n → ∃ b off, A = some ⟨b, off, none⟩ ∧ b < w.heap.size ∧ ∀ j u, xs[j]? = some u → w.cell? ⟨b, off + j, none⟩ = some u)

section
variable {w w' : World} {s n : Nat} {A : Option Addr} {xs : List Value} {F : Nat → Prop}
theorem Sl.nil (w : World) (s : Nat) (A : Option Addr) : Sl w s A 0 [] := ⟨by simp, fun h => absurd h (by omega)⟩
theorem Sl.chg (h : Sl w s A n xs) (hc : Chg F w w') (hF : ∀ a, A = some a → ¬ F a.block) : Sl w' s A n xs :=
  ⟨h.1, fun hn => by
    obtain ⟨b, off, e, hb, hx⟩ := h.2 hn
    exact ⟨b, off, e, Nat.lt_of_lt_of_le hb hc.size, fun j u hu => (hc.cell (p := ⟨b, off + j, none⟩) hb (fun f => hF _ e f)).trans (hx j u hu)⟩⟩
theorem Sl.grew (h : Sl w s A n xs) (hc : Grew w w') : Sl w' s A n xs := h.chg hc fun _ _ => id
theorem Sl.of_own {base : Nat} {e : TypeId} {c : Nat} (h : w.ownsRow base e s (.slice A n c) n xs) : Sl w s A n xs := by
  refine ⟨h.1, fun hn => ?_⟩
  rcases h.2 with ⟨hv, h0⟩ | ⟨g, cap, cur, hv, _, hg, _⟩
  · omega
  · have hA : A = some ⟨g, 0, none⟩ := by injection hv
    subst hA
    refine ⟨g, 0, rfl, (Array.getElem?_eq_some_iff.1 hg).1, fun j u hu => ?_⟩
    have := h.cells (g := g) rfl j u hu
    rw [Addr.add_lit] at this
    simpa using this
end

/-- A call that hands back a slice of new memory, or one that it was handed, somewhere in its answer. -/
def SlOut (w w' : World) (s n : Nat) (xs : List Value) (mk : Option Addr → Nat → Value) (e : Ending) : Prop := ∃ A c, e = .returned (mk A c) ∧ Sl w' s A n xs ∧ Grew w w'
theorem SlOut.mk {w w' : World} {s n : Nat} {xs : List Value} {f : Option Addr → Nat → Value} {e : Ending} (A : Option Addr) (c : Nat) (he : e = .returned (f A c)) (hs : Sl w' s A n xs) (hg : Grew w w') : SlOut w w' s n xs f e := ⟨A, c, he, hs, hg⟩

theorem SlOut.same {w w' : World} {s n : Nat} {xs : List Value} {f : Option Addr → Nat → Value} {e : Ending} (A : Option Addr) (c : Nat) (he : e = .returned (f A c)) (hs : Sl w s A n xs) (hg : Grew w w') : SlOut w w' s n xs f e := ⟨A, c, he, hs.grew hg, hg⟩

/-- A call that hands back a slice that it made itself. -/
def OwnOut (w w' : World) (t : TypeId) (s n : Nat) (xs : List Value) (mk : Option Addr → Nat → Value) (e : Ending) : Prop := ∃ A c, e = .returned (mk A c) ∧ w'.ownsRow w.heap.size t s (.slice A n c) n xs ∧ Grew w w'
theorem OwnOut.mk {w w' : World} {t s n : Nat} {xs : List Value} {f : Option Addr → Nat → Value} {e : Ending} (A : Option Addr) (c : Nat) (he : e = .returned (f A c)) (hs : w'.ownsRow w.heap.size t s (.slice A n c) n xs) (hg : Grew w w') : OwnOut w w' t s n xs f e := ⟨A, c, he, hs, hg⟩
theorem own_base {w : World} {base base' : Nat} {e : TypeId} {s n : Nat} {v : Value} {xs : List Value} (h : w.ownsRow base e s v n xs) (hb : base' ≤ base) : w.ownsRow base' e s v n xs := by
  refine ⟨h.1, ?_⟩
  rcases h.2 with hn | ⟨g, cap, cur, hv, hg, r⟩
  · exact .inl hn
  · exact .inr ⟨g, cap, cur, hv, Nat.le_trans hb hg, r⟩
theorem own_none {w : World} {base : Nat} {e : TypeId} {s n c : Nat} {xs : List Value} (h : w.ownsRow base e s (.slice none n c) n xs) : n = 0 ∧ c = 0 := by
  rcases h.2 with ⟨h', _⟩ | ⟨g, cap, cur, h', _⟩
  · cases h'; exact ⟨rfl, rfl⟩
  · cases h'
theorem own_some {w : World} {base : Nat} {e : TypeId} {s n c : Nat} {a : Addr} {xs : List Value} (h : w.ownsRow base e s (.slice (some a) n c) n xs) : ∃ g, a = ⟨g, 0, none⟩ ∧ g < w.heap.size := by
  rcases h.2 with ⟨h', _⟩ | ⟨g, cap, cur, h', _, hg, _⟩
  · cases h'
  · simp at h'; exact ⟨g, h'.1, (Array.getElem?_eq_some_iff.1 hg).1⟩

/-- What is owned stays owned where its block is none of those that change. -/
theorem own_chg {w w' : World} {base : Nat} {e : TypeId} {s n : Nat} {v : Value} {xs : List Value} {F : Nat → Prop} (h : w.ownsRow base e s v n xs) (hc : Chg F w w')
    (hF : ∀ g, v.ownBlock = some g → ¬ F g) : w'.ownsRow base e s v n xs := by
  refine ⟨h.1, ?_⟩
  rcases h.2 with hn | ⟨g, cap, cur, rfl, hb, hgg, rest⟩
  · exact .inl hn
  · refine .inr ⟨g, cap, cur, rfl, hb, ?_, rest⟩
    rw [hc.block g (Array.getElem?_eq_some_iff.1 hgg).1 (hF g rfl)]
    exact hgg
theorem own_blk_ne {w : World} {base : Nat} {e t : TypeId} {s n g : Nat} {v : Value} {xs : List Value} {cs : Array Value} (h : w.ownsRow base e s v n xs) (hg : Blk w g t cs) (hne : e ≠ t) : v.ownBlock ≠ some g := by
  rcases h.2 with ⟨rfl, _⟩ | ⟨g', cap, cur, rfl, _, hh, _⟩
  · simp [Value.ownBlock]
  · intro he
    have : g' = g := by simpa [Value.ownBlock] using he
    subst this
    exact Blk.ne_ (t := e) hh hg hne rfl
theorem own_block {w : World} {base : Nat} {e : TypeId} {s n c : Nat} {A : Option Addr} {xs : List Value} (h : w.ownsRow base e s (.slice A n c) n xs) (hn : 0 < n) : ∃ g, A = some ⟨g, 0, none⟩ ∧ g < w.heap.size := by
  rcases h.2 with ⟨hv, h0⟩ | ⟨g, cap, cur, hv, _, hg, _⟩
  · omega
  · refine ⟨g, by injection hv, (Array.getElem?_eq_some_iff.1 hg).1⟩
theorem own_shape {w : World} {base : Nat} {e : TypeId} {s n : Nat} {v : Value} {xs : List Value} (h : w.ownsRow base e s v n xs) : ∃ A c, v = .slice A n c ∧ n ≤ c := by
  rcases h.2 with ⟨rfl, rfl⟩ | ⟨g, cap, cur, rfl, _, _, hc, _⟩
  · exact ⟨_, _, rfl, Nat.le_refl _⟩
  · exact ⟨_, _, rfl, hc⟩

end Go.Proofs.Ytjpkpckgkhbfpaa
