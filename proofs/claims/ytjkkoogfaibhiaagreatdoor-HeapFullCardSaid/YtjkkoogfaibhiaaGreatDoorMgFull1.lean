/- Texts 1 of 8 that the proof of Full stands on. -/
import Derived.WalkKit
import Derived.WalkSpells
import Derived.WalkLawsBesides
import Derived.BigQuiet
import Derived.Deep.QuietTactic
import Derived.Lib.Hide
import Derived.Deep.RegionHeld3
import Derived.Deep.AppendLies
import Derived.Deep.DrawnRows
import Derived.Deep.RegionLaw
import Derived.Maps.OwnSet
import Derived.Maps.Views
import Derived.WideKeyEntry
import Derived.Carry
import Derived.Test.YtjkkoogfaibhiaaGreatDoorRows
import Derived.RangeFuncNested
import Derived.RangeFuncBound
import Derived.RangeFuncCalls
import Derived.RangeFuncLeaves
import Derived.Shelf.Abstract
import Derived.Shelf.RegionOpen
import Derived.OwnWalkIn
import Derived.TacticsInMore
import Derived.LoopNIn
import Derived.LoopIn
import Derived.Sort.BigQuietIn
import Derived.Deep.RegionHeld
import Derived.OrdersHeld
import Derived.Lib.TrailingZeros
import Derived.Shelf.Spec.TrailingZeros
import Derived.Laws.Bits64b
import Derived.Maps.AppendAt
set_option linter.unusedSimpArgs false
set_option linter.unusedVariables false

/- Words of our own for memory: a block known whole, a call that changes only some blocks, a slice that reads as a list. No program stands in this text. -/
namespace Go.Proofs.YtjkkoogfaibhiaaGreatDoor
open Go.RowKit

/-- What lies in none of the blocks F, and lay there before, lies as it lay. -/
structure Chg (F : Nat → Prop) (w w' : World) : Prop where
  os : w'.os = w.os
  tape : w'.tape = w.tape
  output : w'.output = w.output
  size : w.heap.size ≤ w'.heap.size
  block : ∀ k, k < w.heap.size → ¬ F k → w'.heap[k]? = w.heap[k]?

def NoF : Nat → Prop := fun _ => False
/-- Only new blocks. -/
abbrev Grew (w w' : World) : Prop := Chg NoF w w'

section
variable {F G : Nat → Prop} {w w' a b c : World}
theorem Chg.refl (F : Nat → Prop) (w : World) : Chg F w w := ⟨rfl, rfl, rfl, Nat.le_refl _, fun _ _ _ => rfl⟩
theorem Chg.trans (h : Chg F a b) (k : Chg G b c) (hG : ∀ i, i < a.heap.size → G i → F i) : Chg F a c :=
  ⟨k.os.trans h.os, k.tape.trans h.tape, k.output.trans h.output, Nat.le_trans h.size k.size,
   fun i hi hf => (k.block i (Nat.lt_of_lt_of_le hi h.size) (fun g => hf (hG i hi g))).trans (h.block i hi hf)⟩
theorem Chg.mono (h : Chg F a b) (hG : ∀ i, i < a.heap.size → F i → G i) : Chg G a b :=
  ⟨h.os, h.tape, h.output, h.size, fun i hi hg => h.block i hi (fun f => hg (hG i hi f))⟩
theorem Grew.chg (h : Grew a b) : Chg F a b := h.mono fun _ _ f => f.elim
theorem Grew.trans (h : Grew a b) (k : Grew b c) : Grew a c := Chg.trans h k fun _ _ f => f.elim
theorem Chg.grew (h : Chg F a b) (k : Grew b c) : Chg F a c := Chg.trans h k fun _ _ f => f.elim
theorem Grew.then (h : Grew a b) (k : Chg F b c) : Chg F a c := Chg.trans h.chg k fun _ _ f => f
theorem Grew.below (h : Grew a b) : Below a.heap.size a b := ⟨h.os, h.tape, h.output, h.size, fun k hk => h.block k hk id⟩
theorem Grew.of_below (h : Below a.heap.size a b) : Grew a b := ⟨h.os, h.tape, h.output, h.size, fun k hk _ => h.block k hk⟩
theorem Chg.drew (h : Chg F a b) : Chg F a b.drew := ⟨h.os, h.tape, h.output, h.size, h.block⟩
theorem Chg.drewN (h : Chg F a b) (n : Nat) : Chg F a (b.drewN n) := ⟨h.os, h.tape, h.output, h.size, h.block⟩
theorem Chg.alloc (h : Chg F a b) (o : Obj) : Chg F a (b.alloc o) :=
  ⟨h.os, h.tape, h.output, Nat.le_trans h.size (by simp), fun i hi hf => (Below.heap_alloc b o i (Nat.lt_of_lt_of_le hi h.size)).trans (h.block i hi hf)⟩
theorem Chg.setCell (h : Chg F a b) {p : Addr} (hp : p.block < a.heap.size → F p.block) (u : Value) : Chg F a (b.setCell p u) :=
  ⟨h.os, h.tape, h.output, by simpa [World.setCell] using h.size, fun i hi hf => (Below.heap_setCell b p u i (by
    rintro rfl
    exact hf (hp hi))).trans (h.block i hi hf)⟩
theorem Chg.grown {row : Option Nat} (h : Chg F a b) (hg : b.grownBy c row) (hr : ∀ k, row = some k → k < a.heap.size → F k) : Chg F a c :=
  ⟨hg.os.trans h.os, hg.tape.trans h.tape, hg.output.trans h.output, Nat.le_trans h.size hg.size, fun i hi hf =>
    (hg.block i (Nat.lt_of_lt_of_le hi h.size) (fun e => hf (hr i e.symm hi))).trans (h.block i hi hf)⟩
theorem Chg.cell (h : Chg F w w') {p : Addr} (hp : p.block < w.heap.size) (hf : ¬ F p.block) : w'.cell? p = w.cell? p := World.cell?_of_block (h.block p.block hp hf)
theorem Chg.frozen (h : Chg F w w') {p : Addr} (hp : p.block < w.heap.size) (hf : ¬ F p.block) : w'.frozen? p = w.frozen? p := World.frozen?_of_block (h.block p.block hp hf)
end

/-- Block g is just these cells, none frozen. -/
def Blk (w : World) (g : Nat) (t : TypeId) (cs : Array Value) : Prop := w.heap[g]? = some (.cells cs t (0, 0))

section
variable {w w' : World} {g : Nat} {t : TypeId} {cs : Array Value} {F : Nat → Prop}
theorem Blk.lt (h : Blk w g t cs) : g < w.heap.size := by
  rcases Nat.lt_or_ge g w.heap.size with hlt | hge
  · exact hlt
  · unfold Blk at h; rw [Array.getElem?_eq_none hge] at h; cases h
theorem Blk.cell (h : Blk w g t cs) (i : Nat) : w.cell? ⟨g, i, none⟩ = cs[i]? := cell_of_row w g i cs t (0, 0) h
theorem Blk.frozen (h : Blk w g t cs) (i : Nat) : w.frozen? ⟨g, i, none⟩ = false := by
  unfold Blk at h
  simp [World.frozen?, h]
theorem Blk.facts (h : Blk w g t cs) : (∀ i, w.cell? ⟨g, i, none⟩ = cs[i]?) ∧ (∀ i, w.frozen? ⟨g, i, none⟩ = false) ∧ g < w.heap.size := ⟨h.cell, h.frozen, h.lt⟩
theorem Blk.new (w : World) (t : TypeId) (cs : Array Value) : Blk (w.alloc (.cells cs t)) w.heap.size t cs := heap_alloc_new w _
theorem Blk.drew (h : Blk w g t cs) : Blk w.drew g t cs := h
theorem Blk.drewN (h : Blk w g t cs) (n : Nat) : Blk (w.drewN n) g t cs := h
theorem Blk.alloc (h : Blk w g t cs) (o : Obj) : Blk (w.alloc o) g t cs := (Below.heap_alloc w o g h.lt).trans h
theorem Blk.put (h : Blk w g t cs) (i : Nat) (u : Value) : Blk (w.setCell ⟨g, i, none⟩ u) g t (cs.setIfInBounds i u) := by
  unfold Blk at h ⊢
  simp [World.setCell, Array.getElem?_modify, h]
theorem Blk.far (h : Blk w g t cs) {p : Addr} (hp : g ≠ p.block) (u : Value) : Blk (w.setCell p u) g t cs := (Below.heap_setCell w p u g hp).trans h
theorem Blk.chg (h : Blk w g t cs) (hb : Chg F w w') (hg : ¬ F g) : Blk w' g t cs := (hb.block g h.lt hg).trans h
theorem Blk.grew (h : Blk w g t cs) (hb : Grew w w') : Blk w' g t cs := h.chg hb id
theorem Blk.grown {row : Option Nat} (h : Blk w g t cs) (hb : w.grownBy w' row) (hg : some g ≠ row) : Blk w' g t cs := (hb.block g h.lt hg).trans h
theorem Blk.ne_ {g' : Nat} {t' : TypeId} {cs' : Array Value} (h : Blk w g t cs) (h' : Blk w g' t' cs') (hne : t ≠ t') : g ≠ g' := by
  rintro rfl
  unfold Blk at h h'
  rw [h] at h'
  injection h' with h'
  injection h' with _ ht
  exact hne ht
end

/-- A slice value that reads as cells: for reading alone. -/
def Sl (w : World) (s : Nat) (A : Option Addr) (n : Nat) (xs : List Value) : Prop :=
  xs.length = n * s ∧ (0 < n → ∃ b off, A = some ⟨b, off, none⟩ ∧ b < w.heap.size ∧ ∀ j u, xs[j]? = some u → w.cell? ⟨b, off + j, none⟩ = some u)

section
variable {w w' : World} {s n : Nat} {A : Option Addr} {xs : List Value} {F : Nat → Prop}
theorem Sl.nil (w : World) (s : Nat) (A : Option Addr) : Sl w s A 0 [] := ⟨by simp, fun h => absurd h (by omega)⟩
theorem Sl.chg (h : Sl w s A n xs) (hc : Chg F w w') (hF : ∀ a, A = some a → ¬ F a.block) : Sl w' s A n xs :=
  ⟨h.1, fun hn => by
    obtain ⟨b, off, e, hb, hx⟩ := h.2 hn
    exact ⟨b, off, e, Nat.lt_of_lt_of_le hb hc.size, fun j u hu => (hc.cell (p := ⟨b, off + j, none⟩) hb (fun f => hF _ e f)).trans (hx j u hu)⟩⟩
theorem Sl.grew (h : Sl w s A n xs) (hc : Grew w w') : Sl w' s A n xs := h.chg hc fun _ _ => id
theorem Sl.of_own {base : Nat} {e : TypeId} {c : Nat} (h : w.ownsRow base e s (.slice A n c) n xs) : Sl w s A n xs := by
  refine ⟨h.1, fun hn => ?_⟩
  rcases h.2 with ⟨hv, h0⟩ | ⟨g, cap, cur, hv, _, hg, _⟩
  · omega
  · have hA : A = some ⟨g, 0, none⟩ := by injection hv
    subst hA
    refine ⟨g, 0, rfl, (Array.getElem?_eq_some_iff.1 hg).1, fun j u hu => ?_⟩
    have := h.cells (g := g) rfl j u hu
    rw [Addr.add_lit] at this
    simpa using this
end

/-- A call that hands back a slice of new memory, or one that it was handed, somewhere in its answer. -/
def SlOut (w w' : World) (s n : Nat) (xs : List Value) (mk : Option Addr → Nat → Value) (e : Ending) : Prop := ∃ A c, e = .returned (mk A c) ∧ Sl w' s A n xs ∧ Grew w w'
theorem SlOut.mk {w w' : World} {s n : Nat} {xs : List Value} {f : Option Addr → Nat → Value} {e : Ending} (A : Option Addr) (c : Nat) (he : e = .returned (f A c)) (hs : Sl w' s A n xs) (hg : Grew w w') : SlOut w w' s n xs f e := ⟨A, c, he, hs, hg⟩

theorem SlOut.same {w w' : World} {s n : Nat} {xs : List Value} {f : Option Addr → Nat → Value} {e : Ending} (A : Option Addr) (c : Nat) (he : e = .returned (f A c)) (hs : Sl w s A n xs) (hg : Grew w w') : SlOut w w' s n xs f e := ⟨A, c, he, hs.grew hg, hg⟩

/-- A call that hands back a slice that it made itself. -/
def OwnOut (w w' : World) (t : TypeId) (s n : Nat) (xs : List Value) (mk : Option Addr → Nat → Value) (e : Ending) : Prop := ∃ A c, e = .returned (mk A c) ∧ w'.ownsRow w.heap.size t s (.slice A n c) n xs ∧ Grew w w'
theorem OwnOut.mk {w w' : World} {t s n : Nat} {xs : List Value} {f : Option Addr → Nat → Value} {e : Ending} (A : Option Addr) (c : Nat) (he : e = .returned (f A c)) (hs : w'.ownsRow w.heap.size t s (.slice A n c) n xs) (hg : Grew w w') : OwnOut w w' t s n xs f e := ⟨A, c, he, hs, hg⟩
theorem own_base {w : World} {base base' : Nat} {e : TypeId} {s n : Nat} {v : Value} {xs : List Value} (h : w.ownsRow base e s v n xs) (hb : base' ≤ base) : w.ownsRow base' e s v n xs := by
  refine ⟨h.1, ?_⟩
  rcases h.2 with hn | ⟨g, cap, cur, hv, hg, r⟩
  · exact .inl hn
  · exact .inr ⟨g, cap, cur, hv, Nat.le_trans hb hg, r⟩
theorem own_none {w : World} {base : Nat} {e : TypeId} {s n c : Nat} {xs : List Value} (h : w.ownsRow base e s (.slice none n c) n xs) : n = 0 ∧ c = 0 := by
  rcases h.2 with ⟨h', _⟩ | ⟨g, cap, cur, h', _⟩
  · cases h'; exact ⟨rfl, rfl⟩
  · cases h'
theorem own_some {w : World} {base : Nat} {e : TypeId} {s n c : Nat} {a : Addr} {xs : List Value} (h : w.ownsRow base e s (.slice (some a) n c) n xs) : ∃ g, a = ⟨g, 0, none⟩ ∧ g < w.heap.size := by
  rcases h.2 with ⟨h', _⟩ | ⟨g, cap, cur, h', _, hg, _⟩
  · cases h'
  · simp at h'; exact ⟨g, h'.1, (Array.getElem?_eq_some_iff.1 hg).1⟩

/-- What is owned stays owned where its block is none of those that change. -/
theorem own_chg {w w' : World} {base : Nat} {e : TypeId} {s n : Nat} {v : Value} {xs : List Value} {F : Nat → Prop} (h : w.ownsRow base e s v n xs) (hc : Chg F w w')
    (hF : ∀ g, v.ownBlock = some g → ¬ F g) : w'.ownsRow base e s v n xs := by
  refine ⟨h.1, ?_⟩
  rcases h.2 with hn | ⟨g, cap, cur, rfl, hb, hgg, rest⟩
  · exact .inl hn
  · refine .inr ⟨g, cap, cur, rfl, hb, ?_, rest⟩
    rw [hc.block g (Array.getElem?_eq_some_iff.1 hgg).1 (hF g rfl)]
    exact hgg
theorem own_blk_ne {w : World} {base : Nat} {e t : TypeId} {s n g : Nat} {v : Value} {xs : List Value} {cs : Array Value} (h : w.ownsRow base e s v n xs) (hg : Blk w g t cs) (hne : e ≠ t) : v.ownBlock ≠ some g := by
  rcases h.2 with ⟨rfl, _⟩ | ⟨g', cap, cur, rfl, _, hh, _⟩
  · simp [Value.ownBlock]
  · intro he
    have : g' = g := by simpa [Value.ownBlock] using he
    subst this
    exact Blk.ne_ (t := e) hh hg hne rfl
theorem own_block {w : World} {base : Nat} {e : TypeId} {s n c : Nat} {A : Option Addr} {xs : List Value} (h : w.ownsRow base e s (.slice A n c) n xs) (hn : 0 < n) : ∃ g, A = some ⟨g, 0, none⟩ ∧ g < w.heap.size := by
  rcases h.2 with ⟨hv, h0⟩ | ⟨g, cap, cur, hv, _, hg, _⟩
  · omega
  · refine ⟨g, by injection hv, (Array.getElem?_eq_some_iff.1 hg).1⟩
theorem own_shape {w : World} {base : Nat} {e : TypeId} {s n : Nat} {v : Value} {xs : List Value} (h : w.ownsRow base e s v n xs) : ∃ A c, v = .slice A n c ∧ n ≤ c := by
  rcases h.2 with ⟨rfl, rfl⟩ | ⟨g, cap, cur, rfl, _, _, hc, _⟩
  · exact ⟨_, _, rfl, Nat.le_refl _⟩
  · exact ⟨_, _, rfl, hc⟩

end Go.Proofs.YtjkkoogfaibhiaaGreatDoor

/- Rows of an owned slice: append within the row, clear within it, cut it short. No program stands in this text. -/
namespace Go.Proofs.YtjkkoogfaibhiaaGreatDoor
open Go.RowKit

/-- A call that hands back a slice of memory that it made itself, for reading. -/
def NewOut (w w' : World) (s n : Nat) (xs : List Value) (mk : Option Addr → Nat → Value) (e : Ending) : Prop := ∃ A c, e = .returned (mk A c) ∧ Sl w' s A n xs ∧ Grew w w' ∧ ∀ a, A = some a → w.heap.size ≤ a.block
theorem NewOut.mk {w w' : World} {s n : Nat} {xs : List Value} {f : Option Addr → Nat → Value} {e : Ending} (A : Option Addr) (c : Nat) (he : e = .returned (f A c)) (hs : Sl w' s A n xs) (hg : Grew w w') (hn : ∀ a, A = some a → w.heap.size ≤ a.block) : NewOut w w' s n xs f e := ⟨A, c, he, hs, hg, hn⟩

theorem own_row {w : World} {base : Nat} {e : TypeId} {s n cap g : Nat} {xs : List Value} (h : w.ownsRow base e s (.slice (some ⟨g, 0, none⟩) n cap) n xs) :
    ∃ cur, base ≤ g ∧ w.heap[g]? = some (.cells cur e (0, 0)) ∧ n ≤ cap ∧ cap ≤ maxLen ∧ cur.size = cap * s ∧ cur.toList.take (n * s) = xs ∧ xs.length = n * s := by
  rcases h.2 with ⟨h', _⟩ | ⟨g', cap', cur, h', hb, hg, hnc, hcm, hcs, htake⟩
  · cases h'
  · simp only [Value.slice.injEq, Option.some.injEq, Addr.mk.injEq, and_true, true_and] at h'
    obtain ⟨rfl, rfl⟩ := h'
    exact ⟨cur, hb, hg, hnc, hcm, hcs, htake, h.1⟩

/-- What the row holds when some cells of it are laid over. -/
theorem own_over {w : World} {base : Nat} {e : TypeId} {s n cap g p : Nat} {xs cur news : List Value} (hb : base ≤ g) (hg : w.heap[g]? = some (.cells cur.toArray e (0, 0))) (hnc : n ≤ cap) (hcm : cap ≤ maxLen) (hcs : cur.length = cap * s)
    (htake : cur.take (n * s) = xs) (hl : p + news.length ≤ n * s) :
    (w.setRow g (cur.take p ++ news ++ cur.drop (p + news.length)).toArray).ownsRow base e s (.slice (some ⟨g, 0, none⟩) n cap) n (xs.take p ++ news ++ xs.drop (p + news.length)) ∧
      w.grownBy (w.setRow g (cur.take p ++ news ++ cur.drop (p + news.length)).toArray) (some g) := by
  have hns : n * s ≤ cap * s := Nat.mul_le_mul_right _ hnc
  have hx : xs.length = n * s := by rw [← htake, List.length_take]; omega
  refine ⟨⟨?_, .inr ⟨g, cap, _, rfl, hb, setRow_heap w g _ _ e _ hg, hnc, hcm, ?_, ?_⟩⟩, ⟨rfl, rfl, rfl, by simp, fun k _ hk => setRow_other w g k _ (fun e => hk (by simp [e]))⟩⟩
  · simp only [List.length_append, List.length_take, List.length_drop]; omega
  · simp only [List.size_toArray, List.length_append, List.length_take, List.length_drop]; omega
  · apply List.ext_getElem?
    intro i
    rw [← htake]
    simp only [List.getElem?_take, List.getElem?_append, List.length_append, List.length_take, List.getElem?_drop]
    by_cases h1 : i < p
    · simp [h1, show i < n * s by omega, show i < min p cur.length by omega, show i < min p (min (n * s) cur.length) by omega, show i < min p cur.length + news.length by omega, show i < min p (min (n * s) cur.length) + news.length by omega]
    · by_cases h2 : i < p + news.length
      · simp [h1, h2, show i < n * s by omega, show ¬ i < min p cur.length by omega, show ¬ i < min p (min (n * s) cur.length) by omega, show i < min p cur.length + news.length by omega, show i < min p (min (n * s) cur.length) + news.length by omega, show min p cur.length = p by omega, show min p (min (n * s) cur.length) = p by omega]
      · by_cases h3 : i < n * s
        · have e1 : p + news.length + (i - (p + news.length)) = i := by omega
          simp [h3, show ¬ i < min p cur.length + news.length by omega, show ¬ i < min p (min (n * s) cur.length) + news.length by omega, show min p cur.length = p by omega, show min p (min (n * s) cur.length) = p by omega, e1]
        · have e1 : p + news.length + (i - (p + news.length)) = i := by omega
          simp [h3, show ¬ i < min p (min (n * s) cur.length) + news.length by omega, show min p (min (n * s) cur.length) = p by omega, e1]
          try omega

section
variable {P : Program} {w : World}
/-- append(s[:i], ..) where what is appended stays within s. -/
theorem run_append_within {base : Nat} {t ty e : TypeId} {i : TypeInfo} {s n cap g p m c : Nat} {xs news : List Value} {a : Addr} (ht : P.underlying t = some (.slice e)) (hi : P.info? e = some i) (hs : i.size = s)
    (h : w.ownsRow base e s (.slice (some ⟨g, 0, none⟩) n cap) n xs) (hl : news.length = m * s) (hnews : ∀ j u, news[j]? = some u → w.cell? (a.add j) = some u) (h1 : ∀ u ∈ news, u.oneCell' = true) (hp : p + m ≤ n) :
    ∃ w', (Builtin.append_ #[t, t] ty #[.slice (some ⟨g, 0, none⟩) p cap, .slice (some a) m c]).run P w = .ok (.slice (some ⟨g, 0, none⟩) (p + m) cap) w' ∧
      w'.ownsRow base e s (.slice (some ⟨g, 0, none⟩) n cap) n (xs.take (p * s) ++ news ++ xs.drop (p * s + news.length)) ∧ w.grownBy w' (some g) := by
  subst hs
  obtain ⟨cur, hb, hg, hnc, hcm, hcs, htake, hxl⟩ := own_row h
  have hpm : p * i.size + m * i.size ≤ n * i.size := by rw [← Nat.add_mul]; exact Nat.mul_le_mul_right _ hp
  have hns : n * i.size ≤ cap * i.size := Nat.mul_le_mul_right _ hnc
  have hr := run_append_room (P := P) w t ty e i ht hi g p cap cur hg a m c news hl hnews h1 (by omega) (by rw [hl]; omega)
  obtain ⟨h2, h3⟩ := own_over (w := w) (s := i.size) (cur := cur.toList) (news := news) (p := p * i.size) hb (by simpa using hg) hnc hcm (by simpa using hcs) htake (by rw [hl]; omega)
  exact ⟨_, hr, h2, h3⟩

/-- clear(s[p:]) within s. -/
theorem run_clear_within {base : Nat} {t ty e : TypeId} {i : TypeInfo} {z : Value} {s n cap g p m c : Nat} {xs : List Value} (ht : P.underlying t = some (.slice e)) (hi : P.info? e = some i) (hz : i.zero = some z) (hzs : z.cells.size = s) (hz1 : ∀ u ∈ z.cells.toList, u.oneCell' = true)
    (h : w.ownsRow base e s (.slice (some ⟨g, 0, none⟩) n cap) n xs) (hp : p + m ≤ n) (hm : 0 < m) :
    ∃ w', (Builtin.clear_ #[t] ty #[.slice (some ⟨g, p * s, none⟩) m c]).run P w = .ok (.tuple #[]) w' ∧
      w'.ownsRow base e s (.slice (some ⟨g, 0, none⟩) n cap) n (xs.take (p * s) ++ (Builtin.zeroCells z.cells m).toList ++ xs.drop (p * s + m * s)) ∧ w.grownBy w' (some g) := by
  obtain ⟨cur, hb, hg, hnc, hcm, hcs, htake, hxl⟩ := own_row h
  have hpm : p * s + m * s ≤ n * s := by rw [← Nat.add_mul]; exact Nat.mul_le_mul_right _ hp
  have hns : n * s ≤ cap * s := Nat.mul_le_mul_right _ hnc
  have hlz : (Builtin.zeroCells z.cells m).toList.length = m * s := by simp [Builtin.zeroCells, hzs]
  have h1 : ∀ v ∈ (Builtin.zeroCells z.cells m).toList, v.oneCell' = true := by
    intro v hv
    obtain ⟨q, hq, rfl⟩ := List.getElem_of_mem hv
    have hq' : q < m * s := by rw [hlz] at hq; exact hq
    simp only [Builtin.zeroCells, Array.getElem_toList, Array.getElem_map, Array.getElem_range]
    have hlt : q % z.cells.size < z.cells.size := Nat.mod_lt _ (by
      rcases Nat.eq_zero_or_pos z.cells.size with h0 | h0
      · rw [← hzs, h0] at hq'; omega
      · exact h0)
    rw [getElem!_pos z.cells _ hlt]
    exact hz1 _ (by simp)
  have hst := run_storeCells_at P g (p * s) e (Builtin.zeroCells z.cells m).toList 0 cur w hg (by rw [hlz]; omega) h1
  obtain ⟨h2, h3⟩ := own_over (w := w) (s := s) (cur := cur.toList) (news := (Builtin.zeroCells z.cells m).toList) (p := p * s) hb (by simpa using hg) hnc hcm (by simpa using hcs) htake (by rw [hlz]; omega)
  rw [hlz] at h2 h3
  simp only [Nat.add_zero, hlz] at hst
  refine ⟨_, ?_, h2, h3⟩
  obtain ⟨m', rfl⟩ : ∃ m', m = m' + 1 := ⟨m - 1, by omega⟩
  simp [Builtin.clear_, run_underlying ht, zeroValue, typeInfo, hi, hz, hst]

/-- A builtin of two operands whose run is known, at a step of a region that draws and in a list. -/
theorem step_append_run {ops : Array Oper} {o : Oper} {a : Act} {K : Act → World → Prop} {Q : Exit → Act → World → Prop} {E : Prop} (hgd : o.guard = none) (s x : Operand) (t : TypeId)
    (ho : o.op = .call { callee := .builtin .append, args := #[s, x], argTypes := #[t, t] }) {sv xv v : Value} {w' : World} (hs : a.eval s = sv) (hx : a.eval x = xv)
    (hrun : (Builtin.append_ #[t, t] o.type #[sv, xv]).run P w = .ok v w') (h : K (a.put o.dst v) w') : if Region.wanted o (yielded ops a.tmps) = true then Oper.wp P o a w K Q else E := by
  have hw : Region.wanted o (yielded ops a.tmps) = true := by simp [Region.wanted, hgd]
  rw [if_pos hw]
  unfold Oper.wp execOp
  simp only [ho, resolve, invoke, builtin, Sem.run_bind, Sem.run_pure, Result.andThen_ok, List.map_toArray, List.map_cons, List.map_nil, hs, hx, hrun]
  exact h
theorem wpList_append_run {ops : Array Oper} {rest : List Oper} {o : Oper} {a : Act} {Q : Exit → Act → World → Prop} (hgd : o.guard = none) (s x : Operand) (t : TypeId)
    (ho : o.op = .call { callee := .builtin .append, args := #[s, x], argTypes := #[t, t] }) {sv xv v : Value} {w' : World} (hs : a.eval s = sv) (hx : a.eval x = xv)
    (hrun : (Builtin.append_ #[t, t] o.type #[sv, xv]).run P w = .ok v w') (h : wpList P ops Q rest (a.put o.dst v) w') : wpList P ops Q (o :: rest) a w :=
  wpList_plain hgd fun _ hK => by
    unfold Oper.wp execOp
    simp only [ho, resolve, invoke, builtin, Sem.run_bind, Sem.run_pure, Result.andThen_ok, List.map_toArray, List.map_cons, List.map_nil, hs, hx, hrun]
    exact hK _ _ h
theorem wpList_clear_run {ops : Array Oper} {rest : List Oper} {o : Oper} {a : Act} {Q : Exit → Act → World → Prop} (hgd : o.guard = none) (s : Operand) (t : TypeId)
    (ho : o.op = .call { callee := .builtin .clear, args := #[s], argTypes := #[t] }) {sv v : Value} {w' : World} (hs : a.eval s = sv)
    (hrun : (Builtin.clear_ #[t] o.type #[sv]).run P w = .ok v w') (h : wpList P ops Q rest (a.put o.dst v) w') : wpList P ops Q (o :: rest) a w :=
  wpList_plain hgd fun _ hK => by
    unfold Oper.wp execOp
    simp only [ho, resolve, invoke, builtin, Sem.run_bind, Sem.run_pure, Result.andThen_ok, List.map_toArray, List.map_cons, List.map_nil, hs, hrun]
    exact hK _ _ h

/-- The same row, known to a lesser length. -/
theorem own_short {base : Nat} {e : TypeId} {s n m cap g : Nat} {xs : List Value} (h : w.ownsRow base e s (.slice (some ⟨g, 0, none⟩) n cap) n xs) (hm : m ≤ n) :
    w.ownsRow base e s (.slice (some ⟨g, 0, none⟩) m cap) m (xs.take (m * s)) := by
  obtain ⟨cur, hb, hg, hnc, hcm, hcs, htake, hxl⟩ := own_row h
  have hns : m * s ≤ n * s := Nat.mul_le_mul_right _ hm
  refine ⟨by rw [List.length_take]; omega, .inr ⟨g, cap, cur, rfl, hb, hg, by omega, hcm, hcs, ?_⟩⟩
  rw [← htake, List.take_take]
  congr 1
  omega
end

theorem del_row {α : Type} (xs q z r : List α) (k n s : Nat) (hx : xs.length = n * s) (hk : k < n) :
    ((xs.take (k * s) ++ xs.drop ((k + 1) * s) ++ q).take ((n - 1) * s) ++ z ++ r).take ((n - 1) * s) = xs.take (k * s) ++ xs.drop ((k + 1) * s) := by
  have hA : (xs.take (k * s) ++ xs.drop ((k + 1) * s)).length = (n - 1) * s := by
    obtain ⟨m, rfl⟩ : ∃ m, n = k + 1 + m := ⟨n - (k + 1), by omega⟩
    have e : k + 1 + m - 1 = k + m := by omega
    have e2 : (k + 1 + m) * s = k * s + s + m * s := by rw [Nat.add_mul, Nat.add_mul, Nat.one_mul]
    have e3 : (k + 1) * s = k * s + s := by rw [Nat.add_mul, Nat.one_mul]
    have e4 : (k + m) * s = k * s + m * s := by rw [Nat.add_mul]
    rw [e, List.length_append, List.length_take, List.length_drop, hx, e2, e3, e4]
    omega
  rw [List.take_left' hA, List.append_assoc, List.take_left' hA]

/-- A row of memory made since w0 grows: w0 is as it was. -/
theorem grew_row {w0 W W1 : World} {e : TypeId} {s n : Nat} {v : Value} {xs : List Value} (hw : Grew w0 W) (ho : W.ownsRow w0.heap.size e s v n xs) (hg : W.grownBy W1 v.ownBlock) : Grew w0 W1 :=
  hw.grown hg fun k hk hlt => by have := (ho.lt k hk).1; omega

end Go.Proofs.YtjkkoogfaibhiaaGreatDoor

/- A map whose keys are ints, as a function. -/
namespace Go.Proofs.YtjkkoogfaibhiaaGreatDoor
open Go.RowKit Go.Maps
open Go.WideElems (rg)
open Go.ChangeMaps (setBlock)

/-- Each element reads as itself. -/
def rdV (v : Value) : Option (DataW Value × List MemPlace) := some (.held v, [])

/-- What a datum tells of its int keys. -/
structure Vw (D : DataW Value) (m : Int → Option Value) : Prop where
  no : ∀ i, m i = none → Maps.has D (.int .i64 i) = false
  yes : ∀ i v, m i = some v → Maps.has D (.int .i64 i) = true ∧ ∀ z, D.atKey (.int .i64 i) z = .held v

/-- Block b is a map of s entries, that is m. -/
def IMap (P : Program) (k : TypeId) (w : World) (b : Nat) (m : Int → Option Value) (s : Nat) : Prop :=
  ∃ D, w.ownsMap P k rdV b s D ∧ Maps.size D = s ∧ Vw D m

def upd (m : Int → Option Value) (i : Int) (o : Option Value) : Int → Option Value := fun j => if j = i then o else m j
theorem upd_same (m : Int → Option Value) (i : Int) (o : Option Value) : upd m i o i = o := by simp [upd]
theorem upd_other {m : Int → Option Value} {i j : Int} {o : Option Value} (h : j ≠ i) : upd m i o j = m j := by simp [upd, h]

theorem keyLit (i : Int) : WideAt.IsKeyLit (.int .i64 i) := by simp [WideAt.IsKeyLit]
theorem wfInt {i : Int} (h0 : -9223372036854775808 ≤ i) (h1 : i ≤ 9223372036854775807) : (Lit.int .i64 i).wf = true := by
  have e0 : IntKind.i64.min = -9223372036854775808 := by decide
  have e1 : IntKind.i64.max = 9223372036854775807 := by decide
  simp [Lit.wf, e0, e1]
  omega

theorem wrap_nat {n : Nat} (h : n ≤ 9223372036854775807) : IntKind.i64.wrap (n : Int) = (n : Int) := by
  have e : IntKind.i64.min = -9223372036854775808 := by decide
  have e1 : IntKind.i64.max = 9223372036854775807 := by decide
  simp [IntKind.wrap, IntKind.bits, IntKind.signed]
  omega

theorem own_tight {P : Program} {k : TypeId} {R : Value → Option (DataW Value × List MemPlace)} {w : World} {b n n' : Nat} {D : DataW Value} (h : w.ownsMap P k R b n D) (hn : Maps.size D ≤ n') : w.ownsMap P k R b n' D := by
  obtain ⟨es, clock, hb, F, hs, rfl⟩ := h
  refine ⟨es, clock, hb, F, ?_, rfl⟩
  have : Maps.size (DataW.map ((es.toList.map (rg P k R)).foldr DataW.insert [])) = es.size := by simp [Maps.size, length_sorted]
  omega

section
variable {P : Program} {k t e : TypeId} {w w' : World} {b s : Nat} {m : Int → Option Value}

theorem IMap.made (P : Program) (k : TypeId) (w : World) : IMap P k (w.alloc (.map #[] 0)) w.heap.size (fun _ => none) 0 :=
  ⟨_, World.ownsMap_made w P k rdV, rfl, ⟨fun _ _ => rfl, fun _ _ h => by cases h⟩⟩
theorem IMap.lt (h : IMap P k w b m s) : b < w.heap.size := by obtain ⟨D, ho, _⟩ := h; exact ho.lt
theorem IMap.chg {F : Nat → Prop} (h : IMap P k w b m s) (hc : Chg F w w') (hF : ¬ F b) : IMap P k w' b m s := by
  obtain ⟨D, ⟨es, clock, hb, r⟩, hs, hv⟩ := h
  exact ⟨D, ⟨es, clock, (hc.block b (Array.getElem?_eq_some_iff.1 hb).1 hF).trans hb, r⟩, hs, hv⟩
theorem IMap.grew (h : IMap P k w b m s) (hc : Grew w w') : IMap P k w' b m s := h.chg hc id

theorem IMap.look (h : IMap P k w b m s) (K : Keyed P k) (hk : P.underlying k = some (.int .i64)) (ht : P.underlying t = some (.map k e)) {z : Value} (hz : (zeroValue e).run P w = .ok z w) {i : Int} (hi : (Lit.int .i64 i).wf = true) :
    (Instr.lookup t (.map (some b)) (.int .i64 i) false).run P w = .ok ((m i).getD z) w := by
  obtain ⟨D, ho, -, hv⟩ := h
  obtain ⟨v, ps, hr, hR⟩ := ho.lookup K ht hz (zd := .held z) (zp := []) rfl (keyOf_int_mk hk hi)
  rw [hr]
  simp only [rdV, Option.some.injEq, Prod.mk.injEq] at hR
  cases hm : m i with
  | none =>
    rw [atKey_of_not_has (hv.no i hm)] at hR
    injection hR.1 with e
    rw [e]; rfl
  | some x =>
    rw [(hv.yes i x hm).2] at hR
    injection hR.1 with e
    rw [e]; rfl
theorem IMap.look_ok (h : IMap P k w b m s) (K : Keyed P k) (hk : P.underlying k = some (.int .i64)) (ht : P.underlying t = some (.map k e)) {z : Value} (hz : (zeroValue e).run P w = .ok z w) {i : Int} (hi : (Lit.int .i64 i).wf = true) :
    (Instr.lookup t (.map (some b)) (.int .i64 i) true).run P w = .ok (.tuple #[(m i).getD z, .bool (m i).isSome]) w := by
  obtain ⟨D, ho, -, hv⟩ := h
  obtain ⟨v, ps, hr, hR⟩ := ho.look_ok K ht hz (zd := .held z) (zp := []) rfl (keyOf_int_mk hk hi)
  rw [hr]
  simp only [rdV, Option.some.injEq, Prod.mk.injEq] at hR
  cases hm : m i with
  | none =>
    rw [atKey_of_not_has (hv.no i hm)] at hR
    injection hR.1 with e
    rw [e, hv.no i hm]; rfl
  | some x =>
    rw [(hv.yes i x hm).2] at hR
    injection hR.1 with e
    rw [e, (hv.yes i x hm).1]; rfl
theorem IMap.len (h : IMap P k w b m s) (ht : P.underlying t = some (.map k e)) (ty : TypeId) : (Builtin.len_ #[t] ty #[.map (some b)]).run P w = .ok (.int .i64 s) w := by
  obtain ⟨D, ho, hs, -⟩ := h
  rw [ho.len ht, hs]
theorem turned_chg (h : w.mapTurned w' b) : Chg (fun j => j = b) w w' :=
  (Chg.refl (fun j => j = b) w).grown h.grown fun j hj _ => by injection hj with hj; exact hj.symm
theorem IMap.putD {n : Nat} {D : DataW Value} {i : Int} {v : Value} (hv : Vw D m) (hs : Maps.size D = s) (ht : Tidy D) (hM : IsMap D) (ho : w'.ownsMap P k rdV b n (D.put (.int .i64 i) (.held v))) :
    IMap P k w' b (upd m i (some v)) (if (m i).isSome then s else s + 1) := by
  have hsz : Maps.size (D.put (.int .i64 i) (.held v)) = if (m i).isSome then s else s + 1 := by
    rw [Maps.size_put ht, hs]
    cases hm : m i with
    | none => rw [hv.no i hm]; rfl
    | some x => rw [(hv.yes i x hm).1]; rfl
  refine ⟨_, own_tight ho (by omega), hsz, ⟨fun j hj => ?_, fun j x hj => ?_⟩⟩
  · by_cases e : j = i
    · subst e; rw [upd_same] at hj; cases hj
    · rw [upd_other e] at hj
      rw [Maps.has_put_other (by simpa using e)]
      exact hv.no j hj
  · by_cases e : j = i
    · subst e
      rw [upd_same] at hj
      cases hj
      exact ⟨Maps.has_put_same hM (keyLit j) _, fun z => Maps.atKey_put_same hM (keyLit j) _ z⟩
    · rw [upd_other e] at hj
      rw [Maps.has_put_other (by simpa using e)]
      exact ⟨(hv.yes j x hj).1, fun z => by rw [Maps.atKey_put_other (by simpa using e)]; exact (hv.yes j x hj).2 z⟩
theorem IMap.put (h : IMap P k w b m s) (K : Keyed P k) (hk : P.underlying k = some (.int .i64)) (ht : P.underlying t = some (.map k e)) (hn : s < maxLen) {i : Int} (hi : (Lit.int .i64 i).wf = true) (v : Value) :
    ∃ w', (Instr.mapUpdate t (.map (some b)) (.int .i64 i) v).run P w = .ok () w' ∧ IMap P k w' b (upd m i (some v)) (if (m i).isSome then s else s + 1) ∧ Chg (fun j => j = b) w w' := by
  obtain ⟨D, ho, hs, hv⟩ := h
  obtain ⟨w', hr, ho', ht'⟩ := ho.store K ht hn (keyOf_int_mk hk hi) (d := .held v) (ps := []) rfl
  exact ⟨w', hr, IMap.putD hv hs (ho.tidy K) ho.isMap ho', turned_chg ht'⟩
theorem IMap.delD {n : Nat} {D : DataW Value} {i : Int} (hv : Vw D m) (hs : Maps.size D = s) (ht : Tidy D) (ho : w'.ownsMap P k rdV b n (D.del (.int .i64 i))) :
    IMap P k w' b (upd m i none) (if (m i).isSome then s - 1 else s) := by
  have hsz : Maps.size (D.del (.int .i64 i)) = if (m i).isSome then s - 1 else s := by
    have := Maps.size_del ht (k := .int .i64 i)
    rw [hs] at this
    cases hm : m i with
    | none => rw [hv.no i hm] at this; simpa using this
    | some x => rw [(hv.yes i x hm).1] at this; simp at this ⊢; omega
  refine ⟨_, own_tight ho (by omega), hsz, ⟨fun j hj => ?_, fun j x hj => ?_⟩⟩
  · by_cases e : j = i
    · subst e; exact Maps.has_del_same
    · rw [upd_other e] at hj
      rw [Maps.has_del_other (by simpa using e)]
      exact hv.no j hj
  · by_cases e : j = i
    · subst e; rw [upd_same] at hj; cases hj
    · rw [upd_other e] at hj
      rw [Maps.has_del_other (by simpa using e)]
      exact ⟨(hv.yes j x hj).1, fun z => by rw [Maps.atKey_del_other (by simpa using e)]; exact (hv.yes j x hj).2 z⟩
theorem IMap.del (h : IMap P k w b m s) (K : Keyed P k) (hk : P.underlying k = some (.int .i64)) (ht : P.underlying t = some (.map k e)) {i : Int} (hi : (Lit.int .i64 i).wf = true) (ty : TypeId) :
    ∃ w', (Builtin.delete_ #[t, k] ty #[.map (some b), .int .i64 i]).run P w = .ok (.tuple #[]) w' ∧ IMap P k w' b (upd m i none) (if (m i).isSome then s - 1 else s) ∧ Chg (fun j => j = b) w w' := by
  obtain ⟨D, ho, hs, hv⟩ := h
  obtain ⟨w', hr, ho', ht'⟩ := ho.drop K ht (keyOf_int_mk hk hi) ty
  exact ⟨w', hr, IMap.delD hv hs (ho.tidy K) ho', turned_chg ht'⟩
end

section
variable {P : Program} {k e : TypeId} {b s : Nat} {m : Int → Option Value} (w : World) {ops : Array Oper} {rest : List Oper} {o : Oper} {a : Act} {Q : Exit → Act → World → Prop}
/-- 'm[k] = v' at the operation. -/
theorem wpList_put_im (hg : o.guard = none) (mo x vo : Operand) (t : TypeId) (hop : o.op = Op.mapUpdate t mo x vo) (h : IMap P k w b m s) (K : Keyed P k) (hk : P.underlying k = some (.int .i64)) (ht : P.underlying t = some (.map k e)) (hn : s < maxLen) (i : Int) (hi : (Lit.int .i64 i).wf = true) (v : Value)
    (hm : a.eval mo = .map (some b)) (hx : a.eval x = .int .i64 i) (hv : a.eval vo = v)
    (hK : ∀ w', IMap P k w' b (upd m i (some v)) (if (m i).isSome then s else s + 1) → Chg (fun j => j = b) w w' → wpList P ops Q rest (a.put o.dst undef) w') :
    wpList P ops Q (o :: rest) a w := by
  refine wpList_plain hg fun K' hK' => ?_
  obtain ⟨w', hrun, r1, r2⟩ := h.put K hk ht hn hi v
  unfold Oper.wp
  simp [execOp, hop, hm, hx, hv, hrun, Result.andThen]
  exact hK' _ _ (hK w' r1 r2)
/-- 'delete(m, k)' at the operation. -/
theorem wpList_del_im (hg : o.guard = none) (mo x : Operand) (t : TypeId) (hop : o.op = Op.call { callee := Callee.builtin Builtin.delete, args := #[mo, x], argTypes := #[t, k] }) (h : IMap P k w b m s) (K : Keyed P k) (hk : P.underlying k = some (.int .i64)) (ht : P.underlying t = some (.map k e)) (i : Int) (hi : (Lit.int .i64 i).wf = true)
    (hm : a.eval mo = .map (some b)) (hx : a.eval x = .int .i64 i)
    (hK : ∀ w', IMap P k w' b (upd m i none) (if (m i).isSome then s - 1 else s) → Chg (fun j => j = b) w w' → wpList P ops Q rest (a.put o.dst (.tuple #[])) w') :
    wpList P ops Q (o :: rest) a w := by
  refine wpList_plain hg fun K' hK' => ?_
  obtain ⟨w', hrun, r1, r2⟩ := h.del K hk ht hi o.type
  unfold Oper.wp
  simp [execOp, hop, resolve, invoke, builtin, hm, hx, hrun, Result.andThen]
  exact hK' _ _ (hK w' r1 r2)
end

/-- 'm[k]' laid ahead, and stored later: the two halves of a store in a list of assignments. -/
theorem IMap.entry {P : Program} {k t e : TypeId} {w : World} {b s : Nat} {m : Int → Option Value} (h : IMap P k w b m s) (K : Keyed P k) (hk : P.underlying k = some (.int .i64)) (ht : P.underlying t = some (.map k e)) (hn : s < maxLen) {z : Value} (hz : ∀ u : World, (zeroValue e).run P u = .ok z u) {i : Int} (hi : (Lit.int .i64 i).wf = true) :
    ∃ (v0 : Value) (st : Nat) (o1 : Obj), (Instr.mapEntry t (.map (some b)) (.int .i64 i)).run P w = .ok (.tuple #[v0, goInt st]) (setBlock w b o1) ∧
      ∀ (w2 : World) (val : Value), w2.heap[b]? = some o1 → ∃ o2, (Instr.entryStore t (.map (some b)) (goInt st) val).run P w2 = .ok () (setBlock w2 b o2) ∧ IMap P k (setBlock w2 b o2) b (upd m i (some val)) (if (m i).isSome then s else s + 1) := by
  obtain ⟨D, ho, hs, hv⟩ := h
  have hT := ho.tidy K
  have hMp := ho.isMap
  obtain ⟨es, clock, hb, F, hle, hD⟩ := ho
  have hkey := keyOf_int_mk hk hi
  obtain ⟨s1, s2, _⟩ := F.stamped
  -- what a plain store would leave
  have fin : ∀ (es' : Array MapEntry) (clock' : Nat) (val : Value), (Instr.mapUpdate t (.map (some b)) (.int .i64 i) val).run P w = .ok () (setBlock w b (.map es' clock')) → ∀ w2 : World, b < w2.heap.size →
      IMap P k (setBlock w2 b (.map es' clock')) b (upd m i (some val)) (if (m i).isSome then s else s + 1) := by
    intro es' clock' val hr w2 hb2
    have ho : w.ownsMap P k rdV b s D := ⟨es, clock, hb, F, hle, hD⟩
    obtain ⟨w', hr', ho', -⟩ := ho.store K ht hn hkey (d := .held val) (ps := []) rfl
    rw [hr] at hr'
    injection hr' with _ e
    subst e
    obtain ⟨es1, clock1, hb1, r⟩ := ho'
    have hbw : b < w.heap.size := (Array.getElem?_eq_some_iff.1 hb).1
    have e1 : (setBlock w b (.map es' clock')).heap[b]? = some (.map es' clock') := by simp [setBlock, hbw]
    rw [e1] at hb1
    injection hb1 with hb1
    injection hb1 with h1 h2
    subst h1 h2
    refine IMap.putD hv hs hT hMp (n := s + 1) ⟨_, _, ?_, r⟩
    simp [setBlock, hb2]
  rcases K.find w hkey es.toList F.keys with ⟨h1, h2⟩ | ⟨j, e0, h1, h2, h3⟩
  · refine ⟨z, clock, .map (es.push ⟨.int .i64 i, z, clock⟩) (clock + 1), ?_, fun w2 val hw2 => ⟨.map (es.push ⟨.int .i64 i, val, clock⟩) (clock + 1), ?_, fin _ _ val ?_ w2 (Array.getElem?_eq_some_iff.1 hw2).1⟩⟩
    · simp [Instr.mapEntry, run_underlying ht, MapKept.run_getObj_map hb, K.check w false hkey, h1, hz, MapKept.run_setObj_map _ hb, Result.andThen, setBlock]
    · have hidx : (es.push ⟨.int .i64 i, z, clock⟩).findIdx? (fun e => ((e.born : Nat) : Int) == ((clock : Nat) : Int)) = some es.size := by
        rw [WideElems.findIdx_arr]
        have hl : (es.push ⟨.int .i64 i, z, clock⟩).toList = es.toList ++ [⟨.int .i64 i, z, clock⟩] := Array.toList_push ..
        have hnd : ((es.push ⟨.int .i64 i, z, clock⟩).toList.map (·.born)).Nodup := by
          rw [hl, List.map_append]
          refine List.nodup_append.2 ⟨s2, by simp, ?_⟩
          intro a ha c hc e1
          simp only [List.map_cons, List.map_nil, List.mem_singleton] at hc
          obtain ⟨x, hx, hxb⟩ := List.mem_map.1 ha
          have := s1 x hx
          omega
        exact WideElems.findIdx_born hnd (j := es.size) (e0 := ⟨.int .i64 i, z, clock⟩) (by rw [hl]; simp)
      have hmod : (es.push ⟨.int .i64 i, z, clock⟩).modify es.size (fun e => { e with val := val }) = es.push ⟨.int .i64 i, val, clock⟩ := by
        apply Array.ext'
        rw [Array.toList_modify, Array.toList_push, Array.toList_push, ← Array.length_toList, WideElems.modify_last]
      simp [Instr.entryStore, MapKept.run_getObj_map hw2, asInt, asIntOf, goInt, hidx, hmod, MapKept.run_setObj_map _ hw2, Result.andThen, setBlock]
    · simp [Instr.mapUpdate, run_underlying ht, MapKept.run_getObj_map hb, K.check w false hkey, h1, MapKept.run_setObj_map _ hb, Result.andThen, setBlock]
  · have hj : es[j]? = some e0 := by simpa using h2
    have hsame : es.modify j (fun e => { e with key := .int .i64 i }) = es := by
      apply Array.ext'
      rw [Array.toList_modify, ChangeMaps.modify_eq_set _ _ _ _ h2]
      exact WideElems.set_self _ _ _ (by rw [h2, ← h3])
    refine ⟨e0.val, e0.born, .map es clock, ?_, fun w2 val hw2 => ⟨.map (es.modify j (fun e' => { e' with key := .int .i64 i, val := val })) clock, ?_, fin _ _ val ?_ w2 (Array.getElem?_eq_some_iff.1 hw2).1⟩⟩
    · simp [Instr.mapEntry, run_underlying ht, MapKept.run_getObj_map hb, K.check w false hkey, h1, hj, h3, K.stays w hkey, hsame, MapKept.run_setObj_map _ hb, Result.andThen, setBlock]
    · have hidx : es.findIdx? (fun e => ((e.born : Nat) : Int) == ((e0.born : Nat) : Int)) = some j := by
        rw [WideElems.findIdx_arr]
        exact WideElems.findIdx_born s2 h2
      have hmod : es.modify j (fun e => { e with val := val }) = es.modify j (fun e' => { e' with key := .int .i64 i, val := val }) := by
        apply Array.ext'
        rw [Array.toList_modify, Array.toList_modify, ChangeMaps.modify_eq_set _ _ _ _ h2, ChangeMaps.modify_eq_set _ _ _ _ h2, ← h3]
      simp [Instr.entryStore, MapKept.run_getObj_map hw2, asInt, asIntOf, goInt, hidx, hmod, MapKept.run_setObj_map _ hw2, Result.andThen, setBlock]
    · simp [Instr.mapUpdate, run_underlying ht, MapKept.run_getObj_map hb, K.check w false hkey, h1, hj, h3, K.stays w hkey, MapKept.run_setObj_map _ hb, Result.andThen, setBlock]

end Go.Proofs.YtjkkoogfaibhiaaGreatDoor

/- Where a call's own things lie. -/
namespace Go.Proofs.YtjkkoogfaibhiaaGreatDoor
open Go.RowKit

/-- Where a call's own things lie: in F, or in what is new since w; G: what may have changed since w. -/
structure Bs where
  w : World
  F : Nat → Prop
  G : Nat → Prop
  up : ∀ k, w.heap.size ≤ k → F k
  sub : ∀ k, F k → G k
def Bs.of (w : World) : Bs := ⟨w, fun k => w.heap.size ≤ k, fun k => w.heap.size ≤ k, fun _ h => h, fun _ h => h⟩
instance : Coe World Bs := ⟨Bs.of⟩
theorem Bs.of_grew {w W : World} (h : Chg (Bs.of w).G (Bs.of w).w W) : Grew w W := Chg.mono (G := NoF) h fun i hi e => absurd (show w.heap.size ≤ i from e) (by omega)
/-- The same things, seen from a world on the way. -/
def Bs.at_ (B : Bs) (W : World) (h : B.w.heap.size ≤ W.heap.size) : Bs := ⟨W, B.F, B.F, fun k hk => B.up k (Nat.le_trans h hk), fun _ h => h⟩
/-- What is new since w0, but for some boxes. -/
def Bs.but2 (w0 : World) (N : Nat → Prop) (W : World) (hv : ∀ k, N k → k < W.heap.size) (h0 : w0.heap.size ≤ W.heap.size) : Bs :=
  ⟨W, fun k => w0.heap.size ≤ k ∧ ¬ N k, fun k => w0.heap.size ≤ k ∧ ¬ N k, fun k h => ⟨by omega, fun hn => by have := hv k hn; omega⟩, fun _ h => h⟩
theorem Bs.but2_grew {w0 W W' : World} {N : Nat → Prop} {hv : ∀ k, N k → k < W.heap.size} {h0 : w0.heap.size ≤ W.heap.size} (hg : Grew w0 W) (hc : Chg (Bs.but2 w0 N W hv h0).G (Bs.but2 w0 N W hv h0).w W') : Grew w0 W' :=
  Chg.mono (Grew.then hg hc) fun i hi e => absurd e.1 (by omega)
/-- The base of a range: own blocks are the old ones below n, and what is new; those of X may change, too. -/
def Bs.rngX (B : Bs) (n : Nat) (X : Nat → Prop) (W : World) : Bs := ⟨W, fun k => (B.F k ∧ k < n) ∨ W.heap.size ≤ k, fun k => ((B.F k ∧ k < n) ∨ W.heap.size ≤ k) ∨ X k, fun _ h => .inr h, fun _ h => .inl h⟩
end Go.Proofs.YtjkkoogfaibhiaaGreatDoor

/- Bytes: cloned; the disk in memory. -/
namespace Go.Proofs.YtjkkoogfaibhiaaGreatDoor
open Go.RowKit Go.Maps

/-- A row of bytes, as values. -/
def bv (bs : List Int) : List Value := bs.map (.int .u8)
theorem bv_len (bs : List Int) : (bv bs).length = bs.length := by simp [bv]
theorem bv_one (bs : List Int) : ∀ u ∈ bv bs, u.oneCell' = true := by
  intro u hu
  obtain ⟨x, -, rfl⟩ := List.mem_map.1 hu
  rfl
theorem u8Info : (Tryz.prog.info? 5).map (fun i => (i.zero, i.size, i.bytes)) = some (some (.int .u8 0), 1, 1) := by kernel_rfl

theorem bclone_any (A : Option Addr) (hA : A ≠ none) (bs : List Int) (c : Nat) (w : World) (hl : bs.length ≤ 1000000) (hs : Sl w 1 A bs.length (bv bs)) :
    Calls Tryz.prog 97 #[.slice A bs.length c] w fun e w' => OwnOut w w' 5 1 bs.length (bv bs) (fun A c => .slice A bs.length c) e := by
  obtain ⟨i0, hi0, hz0, hz1, hz2⟩ := info_parts u8Info
  cases A with
  | none => exact absurd rfl hA
  | some a =>
    have hsl := fun (w : World) => Lib.run_eql_slice_nil (P := Tryz.prog) w 34 5 (some a) bs.length c 0 0 Tryz.underlying34
    have H := Lib.hid hs
    have hcells : ∀ (w1 : World), Grew w w1 → ∀ j u, (bv bs)[j]? = some u → w1.cell? (Addr.add a j) = some u := by
      intro w1 hg j u hu
      have hj : j < bs.length := by have := (List.getElem?_eq_some_iff.1 hu).1; rwa [bv_len] at this
      obtain ⟨b, off, e, hb, hx⟩ := hs.2 (by omega)
      cases e
      rw [Addr.add_lit]
      exact (hg.cell (p := ⟨b, off + j, none⟩) hb id).trans (hx j u hu)
    have HC := Lib.hid hcells
    clear hs hA hcells
    go_enter Tryz.func97, Tryz.ntmps97
    go_wp2_with (at_builtin; refine wpList_append_own _ rfl _ _ _ rfl w.heap.size 5 i0 _ 1 1 Tryz.underlying34 hi0 hz0 hz1 hz2 rfl (by omega) (.slice (some ⟨w.heap.size, 0, none⟩) 0 0) 0 [] rfl (World.ownsRow_lit w #[] 0 (Nat.le_refl _) (by simp [maxLen]) (by simp)) a bs.length c (bv bs) rfl (by simp [bv]) (HC.out _ ((Chg.refl _ _).alloc _)) (bv_one bs) (by simp only [maxLen]; omega) (by omega) (by simp) ?_; intro v1 w1 hown1 hgrow hnil; have HO := Lib.hid hown1; have HG := Lib.hid hgrow; clear hown1 hgrow hnil)
    go_ret
    obtain ⟨A', c', rfl, -⟩ := own_shape HO.out
    refine OwnOut.mk A' c' ?_ ?_ ?_
    · have := HO.out; simp
    · simpa using HO.out
    · exact ((Chg.refl NoF w).alloc _).grown HG.out (fun k hk hlt => by simp [Value.ownBlock] at hk; omega)

end Go.Proofs.YtjkkoogfaibhiaaGreatDoor

/- A range over a function, at the wide fence: our own laws of the statement, of a round, and of a function that leaves with marks. No program stands in this text. -/
namespace Go.Proofs.YtjkkoogfaibhiaaGreatDoor
open Go.RowKit

/-- The book-keeping's blocks: a loop's record, a block for deferred calls, an iterator over a map. -/
def isBook : Obj → Bool | .loop _ => true | .deferred _ => true | .mapIter .. => true | _ => false
def Book (W : World) : Nat → Prop := fun k => ∃ o, W.heap[k]? = some o ∧ isBook o = true

section
variable {w w' W W' : World} {g l D : Nat} {t : TypeId} {cs : Array Value} {F : Nat → Prop} {r : Loop}

theorem Blk.noBook (h : Blk w g t cs) : ¬ Book w g := by
  rintro ⟨o, ho, hb⟩
  unfold Blk at h
  rw [h] at ho
  cases ho
  cases hb
theorem Blk.putTo {i : Nat} {u : Value} {cs' : Array Value} (h : Blk w g t cs) (e : cs.setIfInBounds i u = cs') : Blk (w.setCell ⟨g, i, none⟩ u) g t cs' := e ▸ h.put i u
theorem noBook_of_cell {a : Addr} {v : Value} (h : w.cell? a = some v) : ¬ Book w a.block := by
  rintro ⟨o, ho, hb⟩
  cases o <;> simp [isBook] at hb <;> simp [World.cell?, ho] at h
theorem own_noBook {base : Nat} {e : TypeId} {s n : Nat} {v : Value} {xs : List Value} (h : w.ownsRow base e s v n xs) {g : Nat} (hg : v.ownBlock = some g) : ¬ Book w g := by
  rintro ⟨o, ho, hb⟩
  rcases h.2 with ⟨rfl, _⟩ | ⟨g', cap, cur, rfl, _, hh, _⟩
  · simp [Value.ownBlock] at hg
  · have : g' = g := by simpa [Value.ownBlock] using hg
    subst this
    rw [hh] at ho
    cases ho
    cases hb
theorem Sl.noBook {s n : Nat} {A : Option Addr} {xs : List Value} (h : Sl w s A n xs) (hs : 0 < s) (hn : 0 < n) : ∀ a, A = some a → ¬ Book w a.block := by
  obtain ⟨b, off, rfl, hb, hx⟩ := h.2 hn
  rintro a ha
  cases ha
  have h0 : 0 < xs.length := by rw [h.1]; exact Nat.mul_pos hn hs
  exact noBook_of_cell (a := ⟨b, off + 0, none⟩) (hx 0 _ (List.getElem?_eq_getElem h0))

theorem own_grew {base : Nat} {e : TypeId} {s n : Nat} {v : Value} {xs : List Value} (h : w.ownsRow base e s v n xs) (hc : Grew w w') : w'.ownsRow base e s v n xs := own_chg h hc fun _ _ h => h
/-- The record of a loop lies at l. -/
def Rec (W : World) (l : Nat) (r : Loop) : Prop := W.heap[l]? = some (.loop r)
/-- The block for the rounds' deferred calls: it holds none. -/
def Dfr (W : World) (D : Nat) : Prop := W.heap[D]? = some (.deferred (some []))
theorem Rec.lt (h : Rec W l r) : l < W.heap.size := (Array.getElem?_eq_some_iff.1 h).1
theorem Dfr.lt (h : Dfr W D) : D < W.heap.size := (Array.getElem?_eq_some_iff.1 h).1
theorem Rec.chg (h : Rec W l r) (hc : Chg F W W') (hf : ¬ F l) : Rec W' l r := (hc.block l h.lt hf).trans h
theorem Dfr.chg (h : Dfr W D) (hc : Chg F W W') (hf : ¬ F D) : Dfr W' D := (hc.block D h.lt hf).trans h
theorem Rec.grew (h : Rec W l r) (hc : Grew W W') : Rec W' l r := h.chg hc id
theorem Dfr.grew (h : Dfr W D) (hc : Grew W W') : Dfr W' D := h.chg hc id
theorem Rec.isBook (h : Rec W l r) : Book W l := ⟨_, h, rfl⟩
theorem Dfr.isBook (h : Dfr W D) : Book W D := ⟨_, h, rfl⟩
theorem Rec.ne_blk (h : Rec W l r) (hb : Blk W g t cs) : l ≠ g := by rintro rfl; exact hb.noBook h.isBook
theorem Dfr.ne_blk (h : Dfr W D) (hb : Blk W g t cs) : D ≠ g := by rintro rfl; exact hb.noBook h.isBook
theorem Rec.ne_dfr (h : Rec W l r) (hb : Dfr W D) : l ≠ D := by
  rintro rfl
  unfold Rec Dfr at *
  rw [h] at hb
  cases hb
theorem Chg.putObj (h : Chg F w W) (hl : l < w.heap.size → F l) (o : Obj) : Chg F w (W.putObj l o) :=
  ⟨h.os, h.tape, h.output, by simpa using h.size, fun k hk hf => (World.putObj_heap_other (by rintro rfl; exact hf (hl hk))).trans (h.block k hk hf)⟩
theorem Chg.putBook (h : Book W l) (o : Obj) : Chg (Book W) W (W.putObj l o) := (Chg.refl _ _).putObj (fun _ => h) o
/-- Block l, of the book-keeping, has turned; nothing else. -/
structure Kept (l : Nat) (W W' : World) : Prop where
  chg : Chg (fun j => j = l) W W'
  book : Book W l
theorem Kept.putObj (h : Book W l) (o : Obj) : Kept l W (W.putObj l o) := ⟨(Chg.refl (fun j => j = l) W).putObj (fun _ => rfl) o, h⟩
theorem Blk.kept (h : Blk W g t cs) (hk : Kept l W W') : Blk W' g t cs := h.chg hk.chg (by rintro rfl; exact h.noBook hk.book)
theorem Sl.kept {s n : Nat} {A : Option Addr} {xs : List Value} (h : Sl W s A n xs) (hk : Kept l W W') : Sl W' s A n xs :=
  ⟨h.1, fun hn => by
    obtain ⟨b, off, e, hb, hx⟩ := h.2 hn
    refine ⟨b, off, e, Nat.lt_of_lt_of_le hb hk.chg.size, fun j u hu => ?_⟩
    have := hx j u hu
    exact (hk.chg.cell (p := ⟨b, off + j, none⟩) hb (by intro e; exact noBook_of_cell this (e ▸ hk.book))).trans this⟩
theorem own_kept {base : Nat} {e : TypeId} {s n : Nat} {v : Value} {xs : List Value} (h : W.ownsRow base e s v n xs) (hk : Kept l W W') : W'.ownsRow base e s v n xs :=
  own_chg h hk.chg fun _ hg => by rintro rfl; exact own_noBook h hg hk.book
theorem Dfr.kept (h : Dfr W D) (hk : Kept l W W') (hl : D ≠ l) : Dfr W' D := h.chg hk.chg hl
theorem Rec.kept {l' : Nat} (h : Rec W l' r) (hk : Kept l W W') (hl : l' ≠ l) : Rec W' l' r := h.chg hk.chg hl
/-- What changed only blocks of F, beside the book-keeping's block l, not there before. -/
theorem Chg.kept (h : Chg F w W) (hk : Kept l W W') (hl : w.heap.size ≤ l) : Chg F w W' := Chg.trans h hk.chg fun i hi e => by omega
/-- Whatever block of cells was known is as it was. -/
def Pres (w W : World) : Prop := ∀ g t cs, Blk w g t cs → Blk W g t cs
theorem Pres.refl (w : World) : Pres w w := fun _ _ _ h => h
theorem Pres.trans {a b c : World} (h : Pres a b) (k : Pres b c) : Pres a c := fun g t cs hb => k g t cs (h g t cs hb)
theorem Grew.pres {a b : World} (h : Grew a b) : Pres a b := fun _ _ _ hb => hb.grew h
theorem Kept.pres (h : Kept l W W') : Pres W W' := fun _ _ _ hb => hb.kept h
theorem Rec.alloc (h : Rec W l r) (o : Obj) : Rec (W.alloc o) l r := h.grew ((Chg.refl _ _).alloc _)
theorem Dfr.alloc (h : Dfr W D) (o : Obj) : Dfr (W.alloc o) D := h.grew ((Chg.refl _ _).alloc _)
theorem Rec.put (h : Rec W l r) (r' : Loop) : Rec (W.putObj l (.loop r')) l r' := World.putObj_heap_same h.lt
theorem Dfr.putOther (h : Dfr W D) (o : Obj) (hl : D ≠ l) : Dfr (W.putObj l o) D := (World.putObj_heap_other hl).trans h
end

section
variable {P : Program}

/-- The record of a loop, in a state. -/
def Loop.at_ (r : Loop) (s : LoopState) (p : Option Code) : Loop := { r with state := s, pending := p }

/-- What is asked when the function that was ranged over has returned. -/
def rangeEnd (P : Program) (l : Nat) (r : Loop) (Q : Exit → Act → World → Prop) (a : Act) (w3 : World) : Prop :=
  (Rec w3 l (Loop.at_ r .ready none) ∧ ∀ w4, Kept l w3 w4 → Q .normal a w4) ∨
  ∃ c, Rec w3 l (Loop.at_ r .done (some c)) ∧ ∀ w4, Kept l w3 w4 → c.wp P Q a w4

/-- The statement: the iterator's contract, with the loop's record laid. -/
theorem wp_range {g : Operand} {ps : Array Tmp} {assign body : Code} {Q : Exit → Act → World → Prop} {a : Act} {w : World} {gf : FuncId} {lb : Array Value}
    (hg : a.eval g = .func (.func gf) #[] lb) (eg : ∀ args w, (callFunc gf args).run P w = .ok (.enter gf args) w)
    (h : ∀ (r : Loop) (W1 : World) (D L : Nat), (r.tmps = a.tmps ∧ r.params = ps ∧ r.assign = assign ∧ r.body = body) → Grew w W1 → w.heap.size ≤ D → w.heap.size ≤ L → Dfr W1 D → Rec W1 L (Loop.at_ r .ready none) →
      Calls P gf (#[.func (.yield L) #[] #[]] ++ lb) W1 fun e w3 => (∃ v, e = .returned v) ∧
        rangeEnd P L r Q { a with defers := { target := .collected D, args := #[] } :: a.defers } w3) :
    (Code.rangeFunc g ps assign body).wp P Q a w := by
  refine (wpIn_wide (n := 0)).1 (wpIn_rangeFunc ?_)
  intro fn _
  let r : Loop := { state := .ready, pending := none, fn, tmps := a.tmps, params := ps, assign, body, defers := w.heap.size }
  obtain ⟨W1, hW1⟩ : ∃ W1, (w.alloc (.deferred (some []))).alloc (.loop r) = W1 := ⟨_, rfl⟩
  have hL1 : W1.heap[w.heap.size + 1]? = some (.loop r) := by
    rw [← hW1]; have := World.alloc_heap_new (w.alloc (.deferred (some []))) (.loop r); rwa [World.size_alloc] at this
  have hK1 : W1.heap[w.heap.size]? = some (.deferred (some [])) := by
    rw [← hW1]; exact (Below.heap_alloc _ _ _ (by simp)).trans (World.alloc_heap_new w _)
  refine ⟨w.heap.size + 1, [{ target := .collected w.heap.size, args := #[] }], W1, { target := .fn (.func gf) lb, args := #[.func (.yield (w.heap.size + 1)) #[] #[]] }, W1, gf,
    #[.func (.yield (w.heap.size + 1)) #[] #[]] ++ lb, W1, ?_, ?_, fun _ _ => trivial, ?_, (fun h => by cases h), ?_⟩
  · rw [← hW1]; exact run_enterLoop_outer _ _ _ _ _
  · simp only [resolve, hg]
    simp [go_sem]
  · simp [invoke, go_sem, eg]
  · refine callsIn_wide.2 ((h r W1 w.heap.size (w.heap.size + 1) ⟨rfl, rfl, rfl, rfl⟩ (by rw [← hW1]; exact ((Chg.refl _ _).alloc _).alloc _) (Nat.le_refl _) (Nat.le_succ _) hK1 hL1).mono ?_)
    rintro e w3 ⟨⟨v, rfl⟩, ⟨hr, hq⟩ | ⟨c, hr, hq⟩⟩
    · exact ⟨none, _, run_endLoop hr (by simp [Loop.at_]), hq _ (Kept.putObj hr.isBook _)⟩
    · exact ⟨some c, _, run_endLoop hr (by simp [Loop.at_]), wpIn_wide.2 (hq _ (Kept.putObj hr.isBook _))⟩

/-- How a round may end. -/
def roundEnd (l : Nat) (r : Loop) (R : Ending → World → Prop) : Exit → Act → World → Prop
  | .normal, _, w => Rec w l (Loop.at_ r .busy none) ∧ ∀ w', Kept l w w' → Rec w' l (Loop.at_ r .ready none) → R (.returned (.bool true)) w'
  | .ret, _, w => Rec w l (Loop.at_ r .busy none) ∧ ∀ w', Kept l w w' → Rec w' l (Loop.at_ r .done (some .ret)) → R (.returned (.bool false)) w'
  | .exit id, _, w => Rec w l (Loop.at_ r .busy none) ∧ ∀ w', Kept l w w' → Rec w' l (Loop.at_ r .done (some (.exit id))) → R (.returned (.bool false)) w'
  | .goto t, _, w => Rec w l (Loop.at_ r .busy none) ∧ ∀ w', Kept l w w' → Rec w' l (Loop.at_ r .done (some (.goto t))) → R (.returned (.bool false)) w'
  | .panic _, _, _ => False
  | .outgrown, _, _ => False

/-- A round, out of the walk of its assignment and its body. -/
theorem yield_wide {l n : Nat} {r : Loop} {W : World} {args : Array Value} {R : Ending → World → Prop} (hl : Rec W l (Loop.at_ r .ready none)) (hs : args.size = r.params.size)
    (h : ∀ K : Act → World → Prop, (∀ a1 W1, Rec W1 l (Loop.at_ r .ready none) → (∀ (W2 : World) (Q : Exit → Act → World → Prop), Kept l W1 W2 → Rec W2 l (Loop.at_ r .busy none) → (∀ e a w, roundEnd l r R e a w → Q e a w) →
        r.body.wpIn (Fence.wide.inRound l) n P Q a1 W2) → K a1 W1) → r.assign.wpIn (Fence.wide.inRound l) n P (Exit.then K (fun _ _ _ => False))
      { tmps := (r.params.zip args).foldl (fun t (p, v) => t.setIfInBounds p v) r.tmps, defers := [] } W) :
    YieldAt Fence.wide n P l args W R := by
  refine ⟨_, _, _, _, run_yield hl hs, roundIn_of_wpIn trivial (h _ fun a1 W1 hl1 hb => ?_)⟩
  refine ⟨_, run_beginRound hl1 rfl, hb _ _ (Kept.putObj hl1.isBook _) (hl1.put _) ?_⟩
  intro e a2 W3 hq3
  cases e with
  | normal => exact ⟨_, _, run_endRound none hq3.1, hq3.2 _ (Kept.putObj hq3.1.isBook _) (hq3.1.put _)⟩
  | ret => exact ⟨_, _, run_endRound (some .ret) hq3.1, hq3.2 _ (Kept.putObj hq3.1.isBook _) (hq3.1.put _)⟩
  | exit id => exact ⟨_, _, run_endRound (some (.exit id)) hq3.1, hq3.2 _ (Kept.putObj hq3.1.isBook _) (hq3.1.put _)⟩
  | goto t => exact ⟨_, _, run_endRound (some (.goto t)) hq3.1, hq3.2 _ (Kept.putObj hq3.1.isBook _) (hq3.1.put _)⟩
  | panic ch => exact hq3.elim
  | outgrown => exact hq3.elim

/-- The marks of the loops that were entered, taken off. -/
def Marks : List Deferred → World → World → Prop
  | [], w, w' => w = w'
  | d :: ds, w, w' => ∃ D, d.target = .collected D ∧ Dfr w D ∧ Marks ds (w.putObj D (.deferred none)) w'

/-- What the body of a function must achieve that holds ranges over functions. -/
def postM (P : Program) (fn : Func) (R : Ending → World → Prop) : Exit → Act → World → Prop
  | .normal, a, w | .ret, a, w => ∃ w', Marks a.defers w w' ∧ ∃ v, (results fn a.tmps).run P w' = .ok v w' ∧ R (.returned v) w'
  | .outgrown, _, w => R .outgrown w
  | _, _, _ => False

theorem leavesM {fn : Func} {tmps : Array Value} {R : Ending → World → Prop} : ∀ (ds : List Deferred) (w w' : World), Marks ds w w' → (∃ v, (results fn tmps).run P w' = .ok v w' ∧ R (.returned v) w') → LeavesInM Fence.wide 0 P fn tmps R ds .returning w
  | [], w, w', h, hr => by obtain rfl := h; exact hr
  | d :: ds, w, w', ⟨D, ht, hd, hm⟩, hr => ⟨by simp, .inl ⟨D, _, ht, run_takeDeferred hd, leavesM ds _ w' hm hr⟩⟩

theorem calls_of_marks {f : FuncId} {fn : Func} {c : Code} {args : Array Value} {w : World} {R : Ending → World → Prop}
    (hf : P.funcs[f]? = some fn) (hb : fn.body = some c)
    (h : c.wp P (postM P fn R) { tmps := args ++ Array.replicate (fn.ntmps - args.size) undef, defers := [] } w) : Calls P f args w R := by
  refine callsIn_wide.1 (callsIn_of_wp_marks (n := 0) hf hb trivial (wpIn_wide.2 (wp_mono h ?_)) rfl)
  intro e a w1 hq
  cases e with
  | normal => obtain ⟨w', hm, hv⟩ := hq; exact leavesM _ _ _ hm hv
  | ret => obtain ⟨w', hm, hv⟩ := hq; exact leavesM _ _ _ hm hv
  | exit id => exact hq.elim
  | goto t => exact hq.elim
  | panic ch => exact hq.elim
  | outgrown => exact hq

/-- The function returns, having entered no loop. -/
theorem postM_ret0 {fn : Func} {R : Ending → World → Prop} {a : Act} {w : World} {v : Value} (hr : (results fn a.tmps).run P w = .ok v w) (hd : a.defers = []) (hR : R (.returned v) w) : postM P fn R .ret a w :=
  ⟨w, by rw [hd]; exact rfl, v, hr, hR⟩
/-- The function returns, having entered one. -/
theorem postM_ret1 {fn : Func} {R : Ending → World → Prop} {a : Act} {w : World} {v : Value} {D : Nat} (hD : Dfr w D) (hd : a.defers = [{ target := .collected D, args := #[] }]) (hr : ∀ w', Kept D w w' → (results fn a.tmps).run P w' = .ok v w' ∧ R (.returned v) w') : postM P fn R .ret a w :=
  ⟨_, by rw [hd]; exact ⟨D, rfl, hD, rfl⟩, v, hr _ (Kept.putObj hD.isBook _)⟩
end

/-- No operation defers. -/
def noDefer (ops : Array Oper) : Bool := ops.all fun o => match o.op with | .defer _ => false | _ => true

section
variable {P : Program} {n L : Nat} {ops : Array Oper} {Q : Exit → Act → World → Prop} {md : Region.Mode}

theorem wpIn_inRound {o : Oper} {a : Act} {w : World} {K : Act → World → Prop} (ho : ∀ c, o.op ≠ .defer c) (h : o.wpIn Fence.wide n P a w K Q) : o.wpIn (Fence.wide.inRound L) n P a w K Q := by
  unfold Oper.wpIn at h ⊢
  refine ⟨fun f hf => trivial, ?_⟩
  have h2 := h.2
  rw [show (Fence.wide).round = none from rfl, Oper.semAt_none] at h2
  rw [show (Fence.wide.inRound L).round = some L from rfl, Oper.semAt_eq _ _ _ ho]
  generalize (execOp a.eval o).run P w = r at h2
  cases r with
  | ok x w' => cases x <;> exact h2
  | halt x w' => cases x <;> exact h2

theorem wpAnyIn_inRound (hnd : noDefer ops = true) : ∀ (fuel : Nat) (listed : Array Bool) (a : Act) (w : World), wpAnyIn Fence.wide n P md ops Q fuel listed a w → wpAnyIn (Fence.wide.inRound L) n P md ops Q fuel listed a w
  | 0, _, _, _, h => h
  | fuel + 1, listed, a, w, h => by
    refine ⟨h.1, fun i hi => ?_⟩
    have h2 := wpOpIn_mono (fun a w => wpAnyIn_inRound hnd fuel (listed.setIfInBounds i true) a w) (h.2 i hi)
    unfold wpOpIn at h2 ⊢
    cases ho : ops[i]? with
    | none => simpa [ho] using h2
    | some o =>
      simp only [ho] at h2 ⊢
      split
      · rename_i hw
        simp only [hw, if_true] at h2
        refine wpIn_inRound ?_ h2
        intro c hc
        have := Array.all_eq_true_iff_forall_mem.1 hnd o (Array.mem_of_getElem? ho)
        simp [hc] at this
      · rename_i hw
        simp only [hw] at h2
        exact ⟨fun f hf => trivial, h2.2⟩

/-- A region of a round that only reads and makes quiet calls: one walk in the order of the text. -/
theorem wpIn_region_quiet_round {id : Nat} {a : Act} {w : World} {l : List Oper} (hm : P.follows .mixedOrders = true) (hB : Region.lexB .any l.toArray = true) (hnd : noDefer l.toArray = true)
    (h : wpQuietIn Fence.wide n P l.toArray (fun w' => ∃ n, w' = w.drewN n) (fun a' => ∀ w', (∃ n, w' = w.drewN n) → Q .normal a' w') l a) : (Code.region id l.toArray true).wpIn (Fence.wide.inRound L) n P Q a w := by
  simp only [Region.lexB, Bool.and_eq_true] at hB
  refine wpIn_region_any hm (wpAnyIn_inRound hnd _ _ _ _ (wpAnyIn_of_quiet (F := Fence.wide) (C := fun w' => ∃ n, w' = w.drewN n) (Q := fun a' => ∀ w', (∃ n, w' = w.drewN n) → Q .normal a' w') rfl (fun _ w' hw' h => h w' hw') _ _ _ _ ⟨1, rfl⟩ ?_))
  have := wpAnyQIn_lex (F := Fence.wide) (n := n) (P := P) (C := fun w' => ∃ n, w' = w.drewN n) (md := .any) hB.1 l.toArray.toList 0 (Array.replicate l.toArray.size false) a (by simp) (by simpa using hB.2) (by simpa using h)
  simpa using this
end

end Go.Proofs.YtjkkoogfaibhiaaGreatDoor

/- The disk: what lies in memory; check, command, Sectors, Size. -/
namespace Go.Proofs.YtjkkoogfaibhiaaGreatDoor
open Go.RowKit Go.Maps

theorem imap_ne {w : World} {M g s : Nat} {t : TypeId} {cs : Array Value} {m : Int → Option Value} {P : Program} {k : TypeId} (h : IMap P k w M m s) (hb : Blk w g t cs) : M ≠ g := by
  rintro rfl
  obtain ⟨D, ⟨es, clock, he, -⟩, -⟩ := h
  unfold Blk at hb
  rw [he] at hb
  cases hb

/-- A disk: what is in its sectors, and in its cache. -/
structure Dk where
  n : Nat
  sz : Nat
  data : Nat → List Int
  cache : Int → Option (List Int)
  armed : Bool
  left : Int
  down : Bool
  done : Int
  id : Nat
/-- How many of the first n are there. -/
def cntC : Nat → (Int → Option (List Int)) → Nat
  | 0, _ => 0
  | n + 1, f => cntC n f + if (f n).isSome then 1 else 0
theorem cntC_le : ∀ n f, cntC n f ≤ n
  | 0, _ => Nat.le_refl _
  | n + 1, f => by have := cntC_le n f; unfold cntC; split <;> omega
theorem cntC_put (f : Int → Option (List Int)) (i : Int) (bs : List Int) : ∀ n, cntC n (fun j => if j = i then some bs else f j) = cntC n f + if 0 ≤ i ∧ i < n ∧ f i = none then 1 else 0
  | 0 => by simp [cntC]; intro h1 h2; omega
  | n + 1 => by
    have ih := cntC_put f i bs n
    unfold cntC
    rw [ih]
    by_cases e : (n : Int) = i
    · subst e
      cases hf : f n <;> simp [hf] <;> omega
    · simp only [if_neg e]
      have h1 : (0 ≤ i ∧ i < ((n + 1 : Nat) : Int) ∧ f i = none) ↔ (0 ≤ i ∧ i < (n : Int) ∧ f i = none) := ⟨fun h => ⟨h.1, by omega, h.2.2⟩, fun h => ⟨h.1, by omega, h.2.2⟩⟩
      simp only [h1]
      omega
theorem cntC_none : ∀ n, cntC n (fun _ => none) = 0
  | 0 => rfl
  | n + 1 => by unfold cntC; rw [cntC_none n]; rfl

/-- A slice of just these bytes, whose block lies in F. -/
def BRow (w : World) (F : Nat → Prop) (v : Value) (bs : List Int) : Prop := w.ownsRow 0 5 1 v bs.length (bv bs) ∧ ∀ g, v.ownBlock = some g → F g
/-- At g lies no row of bytes. -/
def NotB (w : World) (g : Nat) : Prop := ∀ cs fr, w.heap[g]? ≠ some (.cells cs 5 fr)
/-- The disk d, in blocks of F. -/
structure DIn (w : World) (d : Nat) (F : Nat → Prop) (D : Dk) (A : Option Addr) (c M s : Nat) (vs : List Value) (cm : Int → Option Value) : Prop where
  blk : Blk w d 96 #[.int .i64 D.sz, .slice A D.n c, .map (some M), .bool D.armed, .int .i64 D.left, .bool D.down, .int .i64 D.done]
  row : w.ownsRow 0 34 1 (.slice A D.n c) D.n vs
  map : IMap Tryz.prog 3 w M cm s
  dat : ∀ i, i < D.n → ∃ v, vs[i]? = some v ∧ BRow w F v (D.data i) ∧ (D.data i).length = D.sz
  no : ∀ i, D.cache i = none → cm i = none
  has : ∀ i bs, D.cache i = some bs → ∃ v, cm i = some v ∧ BRow w F v bs ∧ bs.length = D.sz ∧ 0 ≤ i ∧ i < D.n
  inF : F d ∧ F M ∧ ∀ a, A = some a → F a.block
  sml : 1 ≤ D.n ∧ D.n ≤ 4096 ∧ 16 ≤ D.sz ∧ D.sz ≤ 4096 ∧ s ≤ cntC D.n D.cache
  id : D.id = d
/-- A disk in blocks of F. -/
def DS (w : World) (d : Nat) (F : Nat → Prop) (D : Dk) : Prop := (∃ A c M s vs cm, DIn w d F D A c M s vs cm) ∧ ∀ j, F j → j < w.heap.size
/-- What a call leaves. -/
def DTo (w w' : World) (d : Nat) (F : Nat → Prop) (D : Dk) : Prop := ∃ F', DS w' d F' D ∧ Chg F w w' ∧ ∀ j, F' j → F j ∨ w.heap.size ≤ j

section
variable {w w' w2 : World} {d : Nat} {F F' G : Nat → Prop} {D D' : Dk} {A : Option Addr} {c M s : Nat} {vs : List Value} {cm : Int → Option Value} {v : Value} {bs : List Int}
theorem BRow.chg (h : BRow w F v bs) (hc : Chg G w w') (hG : ∀ j, F j → ¬ G j) : BRow w' F v bs := ⟨own_chg h.1 hc fun g hg => hG _ (h.2 g hg), h.2⟩
theorem BRow.mono (h : BRow w F v bs) (hF : ∀ j, F j → F' j) : BRow w F' v bs := ⟨h.1, fun g hg => hF _ (h.2 g hg)⟩
theorem BRow.open (h : BRow w F v bs) (hn : 0 < bs.length) : ∃ a c, v = .slice (some a) bs.length c ∧ Sl w 1 (some a) bs.length (bv bs) ∧ F a.block ∧ a.block < w.heap.size := by
  obtain ⟨A, c, rfl, -⟩ := own_shape h.1
  obtain ⟨g, rfl, hg⟩ := own_block h.1 hn
  exact ⟨_, c, rfl, Sl.of_own h.1, h.2 g rfl, hg⟩
theorem own_notB {base s n : Nat} {xs : List Value} {e : TypeId} (h : w.ownsRow base e s v n xs) (he : e ≠ 5) {g : Nat} (hg : v.ownBlock = some g) : NotB w g := by
  intro cs fr hh
  rcases h.2 with ⟨rfl, _⟩ | ⟨g', cap, cur, rfl, _, hb, _⟩
  · simp [Value.ownBlock] at hg
  · have : g' = g := by simpa [Value.ownBlock] using hg
    subst this
    rw [hb] at hh
    cases hh
    exact he rfl
theorem Blk.notB {g : Nat} {t : TypeId} {cs : Array Value} (h : Blk w g t cs) (ht : t ≠ 5) : NotB w g := by
  intro cs' fr hh
  unfold Blk at h
  rw [h] at hh
  cases hh
  exact ht rfl
/-- .. other blocks alone have turned. -/
theorem BRow.past (h : BRow w F v bs) (hc : Chg G w w') (hg : ∀ g, G g → NotB w g) : BRow w' F v bs := by
  refine ⟨own_chg h.1 hc fun g hv hG => ?_, h.2⟩
  rcases h.1.2 with ⟨rfl, _⟩ | ⟨g', cap, cur, rfl, _, hb, _⟩
  · simp [Value.ownBlock] at hv
  · have : g' = g := by simpa [Value.ownBlock] using hv
    subst this
    exact hg _ hG _ _ hb
theorem DIn.chg (h : DIn w d F D A c M s vs cm) (hc : Chg G w w') (hG : ∀ j, F j → ¬ G j) : DIn w' d F D A c M s vs cm :=
  ⟨h.blk.chg hc (hG _ h.inF.1), own_chg h.row hc (fun g hg => hG _ (by cases A with | none => simp [Value.ownBlock] at hg | some a => simp [Value.ownBlock] at hg; subst hg; exact h.inF.2.2 a rfl)), h.map.chg hc (hG _ h.inF.2.1),
    fun i hi => by obtain ⟨v, h1, h2, h3⟩ := h.dat i hi; exact ⟨v, h1, h2.chg hc hG, h3⟩, h.no, fun i bs hi => by obtain ⟨v, h1, h2, h3⟩ := h.has i bs hi; exact ⟨v, h1, h2.chg hc hG, h3⟩, h.inF, h.sml, h.id⟩
theorem DS.chg (h : DS w d F D) (hc : Chg G w w') (hG : ∀ j, F j → ¬ G j) : DS w' d F D := by
  obtain ⟨⟨A, c, M, s, vs, cm, h⟩, hl⟩ := h
  exact ⟨⟨A, c, M, s, vs, cm, h.chg hc hG⟩, fun j hj => Nat.lt_of_lt_of_le (hl j hj) hc.size⟩
theorem DS.grew (h : DS w d F D) (hc : Grew w w') : DS w' d F D := h.chg hc fun _ _ => id
theorem DS.lt (h : DS w d F D) : ∀ j, F j → j < w.heap.size := h.2
theorem DS.sml (h : DS w d F D) : 1 ≤ D.n ∧ D.n ≤ 4096 ∧ 16 ≤ D.sz ∧ D.sz ≤ 4096 := by
  obtain ⟨⟨A, c, M, s, vs, cm, h⟩, hl⟩ := h
  exact ⟨h.sml.1, h.sml.2.1, h.sml.2.2.1, h.sml.2.2.2.1⟩
theorem DS.id (h : DS w d F D) : D.id = d := by
  obtain ⟨⟨A, c, M, s, vs, cm, h⟩, hl⟩ := h
  exact h.id
theorem DTo.chg (h : DTo w w' d F D) : Chg F w w' := by obtain ⟨F', -, h, -⟩ := h; exact h
theorem DS.to (h : DS w d F D) (hc : Grew w w') : DTo w w' d F D := ⟨F, h.grew hc, hc.chg, fun _ hj => .inl hj⟩
theorem DTo.grew (h : DTo w w' d F D) (hc : Grew w' w2) : DTo w w2 d F D := by
  obtain ⟨F', h1, h2, h3⟩ := h
  exact ⟨F', h1.grew hc, h2.grew hc, h3⟩
theorem DTo.ahead (hc : Grew w w') (h : DTo w' w2 d F D) : DTo w w2 d F D := by
  obtain ⟨F', h1, h2, h3⟩ := h
  exact ⟨F', h1, hc.then h2, fun j hj => (h3 j hj).imp id fun e => Nat.le_trans hc.size e⟩
theorem DTo.and (h : DTo w w' d F D) (k : ∀ F', DS w' d F' D → DTo w' w2 d F' D') : DTo w w2 d F D' := by
  obtain ⟨F', h1, h2, h3⟩ := h
  obtain ⟨F2, k1, k2, k3⟩ := k F' h1
  refine ⟨F2, k1, Chg.trans h2 k2 fun i hi hf => ?_, fun j hj => ?_⟩
  · rcases h3 i hf with e | e
    · exact e
    · omega
  · rcases k3 j hj with e | e
    · exact h3 j e
    · exact .inr (Nat.le_trans h2.size e)
theorem map_notB {b s : Nat} {m : Int → Option Value} (h : IMap Tryz.prog 3 w b m s) : NotB w b := by
  intro cs fr hh
  obtain ⟨D, ⟨es, cl, hb, r⟩, _⟩ := h
  rw [hb] at hh
  cases hh
/-- The disk's own block alone turns: what it says of itself. -/
theorem DIn.flags (h : DIn w d F D A c M s vs cm) {ar dn : Bool} {lf dd : Int} (hc : Chg (fun j => j = d) w w')
    (hb : Blk w' d 96 #[.int .i64 D.sz, .slice A D.n c, .map (some M), .bool ar, .int .i64 lf, .bool dn, .int .i64 dd]) : DIn w' d F { D with armed := ar, left := lf, down := dn, done := dd } A c M s vs cm :=
  ⟨hb, own_chg h.row hc (fun g hg e => own_blk_ne h.row h.blk (by decide) (by rw [hg, e])), h.map.chg hc (imap_ne h.map h.blk),
    fun i hi => by obtain ⟨v, h1, h2, h3⟩ := h.dat i hi; exact ⟨v, h1, h2.past hc (fun g hg => hg ▸ h.blk.notB (by decide)), h3⟩, h.no,
    fun i bs hi => by obtain ⟨v, h1, h2, h3⟩ := h.has i bs hi; exact ⟨v, h1, h2.past hc (fun g hg => hg ▸ h.blk.notB (by decide)), h3⟩, h.inF, h.sml, h.id⟩
end

theorem dcheck_ok (d : Nat) (i : Int) (F : Nat → Prop) (D : Dk) (w : World) (h : DS w d F D) (hd : D.down = false) (h0 : 0 ≤ i) (h1 : i < D.n) :
    Calls Tryz.prog 104 #[.pointer (some ⟨d, 0, none⟩), .int .i64 i] w fun e w' => e = .returned (.int .i64 0) ∧ w = w' := by
  obtain ⟨⟨A, c, M, s, vs, cm, h⟩, hl⟩ := h
  obtain ⟨c0, f0, s0⟩ := h.blk.facts
  rw [hd] at c0
  have t1 : decide (i < 0) = false := decide_eq_false (by omega)
  have t2 : decide ((D.n : Int) ≤ i) = false := decide_eq_false (by omega)
  clear h hl
  go_enter Tryz.func104, Tryz.ntmps104
  go_wp2
  go_ret
  exact ⟨rfl, rfl⟩

end Go.Proofs.YtjkkoogfaibhiaaGreatDoor

/- The disk: command, Read, Write, Sectors, Size. -/
namespace Go.Proofs.YtjkkoogfaibhiaaGreatDoor
open Go.RowKit Go.Maps

theorem kInt : Keyed Tryz.prog 3 := int_keyed Tryz.underlying3
theorem zBytes (w : World) : (zeroValue 34).run Tryz.prog w = .ok (.slice none 0 0) w := by kernel_rfl

theorem dsectors_any (d : Nat) (F : Nat → Prop) (D : Dk) (w : World) (h : DS w d F D) :
    Calls Tryz.prog 51 #[.pointer (some ⟨d, 0, none⟩)] w fun e w' => e = .returned (.int .i64 D.n) ∧ w = w' := by
  obtain ⟨⟨A, c, M, s, vs, cm, h⟩, hl⟩ := h
  obtain ⟨c0, f0, s0⟩ := h.blk.facts
  clear h hl
  go_enter Tryz.func51, Tryz.ntmps51
  go_wp2
  go_ret
  exact ⟨rfl, rfl⟩
theorem dsize_any (d : Nat) (F : Nat → Prop) (D : Dk) (w : World) (h : DS w d F D) :
    Calls Tryz.prog 52 #[.pointer (some ⟨d, 0, none⟩)] w fun e w' => e = .returned (.int .i64 D.sz) ∧ w = w' := by
  obtain ⟨⟨A, c, M, s, vs, cm, h⟩, hl⟩ := h
  obtain ⟨c0, f0, s0⟩ := h.blk.facts
  clear h hl
  go_enter Tryz.func52, Tryz.ntmps52
  go_wp2
  go_ret
  exact ⟨rfl, rfl⟩

theorem dcommand_ok (d : Nat) (F : Nat → Prop) (D : Dk) (w : World) (h : DS w d F D) (ha : D.armed = false) :
    Calls Tryz.prog 81 #[.pointer (some ⟨d, 0, none⟩)] w fun e w' => e = .returned (.int .i64 0) ∧ DTo w w' d F { D with done := wrap64 (D.done + 1) } := by
  obtain ⟨⟨A, c, M, s, vs, cm, h⟩, hl⟩ := h
  obtain ⟨c0, f0, s0⟩ := h.blk.facts
  rw [ha] at c0
  have H := Lib.hid (And.intro h hl)
  clear h hl
  go_enter Tryz.func81, Tryz.ntmps81
  go_wp2
  go_ret
  refine ⟨rfl, F, ⟨⟨A, c, M, s, vs, cm, ?_⟩, fun j hj => by simpa using H.out.2 j hj⟩, (Chg.refl F w).setCell (p := ⟨d, 6, none⟩) (fun _ => H.out.1.inF.1) _, fun _ hj => .inl hj⟩
  have := H.out.1.flags (ar := D.armed) (lf := D.left) (dn := D.down) (dd := wrap64 (D.done + 1)) ((Chg.refl (fun j => j = d) w).setCell (p := ⟨d, 6, none⟩) (fun _ => rfl) (.int .i64 (wrap64 (D.done + 1)))) (by have := H.out.1.blk.put 6 (.int .i64 (wrap64 (D.done + 1))); simpa using this)
  exact this

/-- What is read. -/
def Dk.rd (D : Dk) (i : Int) : List Int := (D.cache i).getD (D.data i.toNat)
theorem Dk.rd_none {D : Dk} {i : Int} (h : D.cache i = none) : D.rd i = D.data i.toNat := by unfold Dk.rd; rw [h]; rfl
theorem Dk.rd_some {D : Dk} {i : Int} {bs : List Int} (h : D.cache i = some bs) : D.rd i = bs := by unfold Dk.rd; rw [h]; rfl
theorem DS.rd_len {w : World} {d : Nat} {F : Nat → Prop} {D : Dk} (h : DS w d F D) {i : Int} (h0 : 0 ≤ i) (h1 : i < D.n) : (D.rd i).length = D.sz := by
  obtain ⟨⟨A, c, M, s, vs, cm, h⟩, hl⟩ := h
  cases hc : D.cache i with
  | none => rw [Dk.rd_none hc]; obtain ⟨v, -, -, h3⟩ := h.dat i.toNat (by omega); exact h3
  | some bs => rw [Dk.rd_some hc]; obtain ⟨v, -, -, h3, -⟩ := h.has i bs hc; exact h3

set_option maxRecDepth 100000 in
set_option maxHeartbeats 800000 in
theorem dread_ok (d : Nat) (i : Int) (F : Nat → Prop) (D : Dk) (w : World) (h : DS w d F D) (hd : D.down = false) (h0 : 0 ≤ i) (h1 : i < D.n) :
    Calls Tryz.prog 87 #[.pointer (some ⟨d, 0, none⟩), .int .i64 i] w fun e w' => OwnOut w w' 5 1 D.sz (bv (D.rd i)) (fun A c => .tuple #[.slice A D.sz c, .int .i64 0]) e := by
  have hrl := h.rd_len h0 h1
  have hsm := h.sml
  obtain ⟨⟨A, c, M, s, vs, cm, hi⟩, hl⟩ := h
  obtain ⟨c0, f0, s0⟩ := hi.blk.facts
  have HD := Lib.hid (show DS w d F D from ⟨⟨A, c, M, s, vs, cm, hi⟩, hl⟩)
  have hwf : (Lit.int .i64 i).wf = true := wfInt (by omega) (by omega)
  have hlk := hi.map.look_ok (t := 93) kInt Tryz.underlying3 Tryz.underlying93 (zBytes _) hwf
  cases hc : D.cache i with
  | some bs =>
    obtain ⟨v, hv, hbr, hbl, -⟩ := hi.has i bs hc
    obtain ⟨a, cv, rfl, hs, -, -⟩ := hbr.open (by omega)
    clear hbr
    rw [hv] at hlk
    simp only [Option.getD_some, Option.isSome_some] at hlk
    rw [Dk.rd_some hc] at hrl ⊢
    have HS := Lib.hid (And.intro hs hrl)
    have hbl' : bs.length ≤ 1000000 := by omega
    clear hi hl hv hs hc hrl hbl
    go_enter Tryz.func87, Tryz.ntmps87
    go_wp2_with (first
      | (go_at_call 104; refine (dcheck_ok d i F D _ HD.out hd h0 h1).mono ?_; rintro e w1 ⟨rfl, rfl⟩)
      | (go_at_call 97; refine (bclone_any (some a) (by simp) bs cv _ hbl' HS.out.1).mono ?_; rintro e w2 ⟨A2, c2, rfl, ho2, hg2⟩; have HO := Lib.hid (And.intro ho2 hg2); clear ho2 hg2))
    go_ret2
    rw [← HS.out.2]
    exact OwnOut.mk A2 c2 rfl HO.out.1 HO.out.2
  | none =>
    rw [hi.no i hc] at hlk
    simp only [Option.getD_none, Option.isSome_none] at hlk
    obtain ⟨v, hv, hbr, hbl⟩ := hi.dat i.toNat (by omega)
    obtain ⟨a, cv, rfl, hs, -, -⟩ := hbr.open (by omega)
    clear hbr
    rw [Dk.rd_none hc] at hrl ⊢
    obtain ⟨g, rfl, hg⟩ := own_block hi.row (by omega)
    obtain ⟨bb, off, e, hb, hx⟩ := (Sl.of_own hi.row).2 (by omega)
    cases e
    have hcell := hx i.toNat _ hv
    rw [Nat.zero_add] at hcell
    have HS := Lib.hid (And.intro hs hrl)
    have hbl' : (D.data i.toNat).length ≤ 1000000 := by omega
    obtain ⟨k, rfl⟩ : ∃ k : Nat, i = (k : Int) := ⟨i.toNat, by omega⟩
    simp only [Int.toNat_natCast] at hcell HS hbl' ⊢
    have u1 : (k : Int) < (D.n : Int) := h1
    clear hi hl hv hs hc hrl hx hbl
    go_enter Tryz.func87, Tryz.ntmps87
    go_wp2_with (first
      | (go_at_call 104; refine (dcheck_ok d k F D _ HD.out hd h0 h1).mono ?_; rintro e w1 ⟨rfl, rfl⟩)
      | (go_at_call 97; refine (bclone_any (some a) (by simp) (D.data k) cv _ hbl' HS.out.1).mono ?_; rintro e w2 ⟨A2, c2, rfl, ho2, hg2⟩; have HO := Lib.hid (And.intro ho2 hg2); clear ho2 hg2))
    go_ret2
    rw [← HS.out.2]
    exact OwnOut.mk A2 c2 rfl HO.out.1 HO.out.2

/-- A sector written. -/
def Dk.wr (D : Dk) (i : Int) (bs : List Int) : Dk := { D with cache := fun j => if j = i then some bs else D.cache j, done := wrap64 (D.done + 1) }

set_option maxRecDepth 100000 in
set_option maxHeartbeats 1600000 in
theorem dwrite_ok (d : Nat) (i : Int) (bs : List Int) (A : Option Addr) (hA : A ≠ none) (c : Nat) (F : Nat → Prop) (D : Dk) (w : World) (h : DS w d F D) (hd : D.down = false) (ha : D.armed = false) (h0 : 0 ≤ i) (h1 : i < D.n) (hb : bs.length = D.sz) (hs : Sl w 1 A bs.length (bv bs)) :
    Calls Tryz.prog 75 #[.pointer (some ⟨d, 0, none⟩), .int .i64 i, .slice A bs.length c] w fun e w' => e = .returned (.int .i64 0) ∧ DTo w w' d F (D.wr i bs) := by
  have hsm := h.sml
  have HD := Lib.hid h
  obtain ⟨⟨Ad, cd, M, s, vs, cm, hi⟩, hl0⟩ := h
  obtain ⟨c0, f0, s0⟩ := hi.blk.facts
  obtain ⟨W0, rfl⟩ : ∃ W0 : World, W0 = w := ⟨_, rfl⟩
  have HS := Lib.hid hs
  have HI := Lib.hid (And.intro hi hl0)
  have hl : bs.length ≤ 1000000 := by omega
  have Hb := Lib.hid hb
  have t1 : ((bs.length : Int) != (D.sz : Int)) = false := by simp [hb]
  clear hi hl0 hs hb
  go_enter Tryz.func75, Tryz.ntmps75
  go_wp2_with (go_at_call 104; refine (dcheck_ok d i F D _ HD.out hd h0 h1).mono ?_; rintro e w1 ⟨rfl, rfl⟩)
  have c02 := c0 2
  simp only [List.getElem?_toArray, List.getElem?_cons_zero, List.getElem?_cons_succ] at c02
  clear c0 f0
  refine wp_region_held_drew (S := fun w' => w'.cell? ⟨d, 2, none⟩ = some (.map (some M))) (by kernel_rfl) c02 (fun hHeld => ?_)
  refine wpAnyH_take (i := 0) (v := ?_) rfl (by kernel_rfl) (by kernel_rfl) (by kernel_rfl) (fun _ _ _ h => h) (Or.inl ⟨by rfl, ?_⟩) hHeld ?_
  rotate_left
  · (intro w hSw; (try dsimp only at hSw); go_simp) <;> with_reducible rfl
  (try simp only [Act.put, List.setIfInBounds_toArray, List.set_cons_zero, List.set_cons_succ])
  refine wpAnyH_take (i := 1) (v := ?_) rfl (by kernel_rfl) (by kernel_rfl) (by kernel_rfl) (fun _ _ _ h => h) (Or.inl ⟨by rfl, ?_⟩) hHeld ?_
  rotate_left
  · (intro w hSw; (try dsimp only at hSw); go_simp) <;> with_reducible rfl
  (try simp only [Act.put, List.setIfInBounds_toArray, List.set_cons_zero, List.set_cons_succ])
  refine wpAnyH_take (i := 2) (v := ?_) rfl (by kernel_rfl) (by kernel_rfl) (by kernel_rfl) (fun _ _ _ h => h) (Or.inl ⟨by rfl, ?_⟩) hHeld ?_
  rotate_left
  · (intro w hSw; (try dsimp only at hSw); go_simp) <;> with_reducible rfl
  (try simp only [Act.put, List.setIfInBounds_toArray, List.set_cons_zero, List.set_cons_succ])
  refine wpAnyH_take (i := 3) (v := ?_) rfl (by kernel_rfl) (by kernel_rfl) (by kernel_rfl) (fun _ _ _ h => h) (Or.inl ⟨by rfl, ?_⟩) hHeld ?_
  rotate_left
  · (intro w hSw; (try dsimp only at hSw); go_simp) <;> with_reducible rfl
  (try simp only [Act.put, List.setIfInBounds_toArray, List.set_cons_zero, List.set_cons_succ])
  refine wpAnyH_take (i := 4) (v := ?_) rfl (by kernel_rfl) (by kernel_rfl) (by kernel_rfl) (fun _ _ _ h => h) (Or.inl ⟨by rfl, ?_⟩) hHeld ?_
  rotate_left
  · (intro w hSw; (try dsimp only at hSw); go_simp) <;> with_reducible rfl
  (try simp only [Act.put, List.setIfInBounds_toArray, List.set_cons_zero, List.set_cons_succ])
  refine wpAnyH_take (i := 5) (v := ?_) rfl (by kernel_rfl) (by kernel_rfl) (by kernel_rfl) (fun _ _ _ h => h) (Or.inl ⟨by rfl, ?_⟩) hHeld ?_
  rotate_left
  · (intro w hSw; (try dsimp only at hSw); go_simp) <;> with_reducible rfl
  (try simp only [Act.put, List.setIfInBounds_toArray, List.set_cons_zero, List.set_cons_succ])
  refine wpAnyH_ready (rs := [6]) (by kernel_rfl) (by simp) ?_
  refine AllReadyH.cons rfl (fun K hK => ?_) AllReadyH.nil
  go_simp
  refine (bclone_any A hA bs c _ hl (HS.out.grew ((Chg.refl _ _).drew))).mono ?_
  rintro e w4 ⟨A4, c4, rfl, ho4, hg4⟩
  have HO := Lib.hid (And.intro ho4 (show Grew W0 w4 from Grew.trans ((Chg.refl NoF W0).drew) hg4))
  have hHel2 : w4.cell? ⟨d, 2, none⟩ = some (.map (some M)) := (hg4.cell (p := ⟨d, 2, none⟩) s0 id).trans hHeld
  clear ho4 hg4
  refine hK.out _ _ hHel2 (fun _ => ?_)
  clear hK K
  (try simp only [Act.put, List.setIfInBounds_toArray, List.set_cons_zero, List.set_cons_succ])
  obtain ⟨w5, hr5, hm5, hc5⟩ := (HI.out.1.map.grew HO.out.2).put (t := 93) kInt Tryz.underlying3 Tryz.underlying93 (by have h1 := HI.out.1.sml; have h2 := cntC_le D.n D.cache; simp only [maxLen]; omega) (i := i) (wfInt (by omega) (by omega)) (.slice A4 bs.length c4)
  have HU := Lib.hid (And.intro hm5 hc5)
  have hHel5 : w5.cell? ⟨d, 2, none⟩ = some (.map (some M)) := (hc5.cell (p := ⟨d, 2, none⟩) (Nat.lt_of_lt_of_le s0 HO.out.2.size) (by simpa using Ne.symm (imap_ne HI.out.1.map HI.out.1.blk))).trans hHel2
  clear hm5 hc5
  refine wpAnyH_ready (rs := [7]) (by kernel_rfl) (by simp) ?_
  refine AllReadyH.cons rfl (fun K hK => ?_) AllReadyH.nil
  go_simp
  refine hK.out _ _ hHel5 (fun _ => ?_)
  clear hK K
  (try simp only [Act.put, List.setIfInBounds_toArray, List.set_cons_zero, List.set_cons_succ])
  refine wpAnyH_done (by kernel_rfl) ?_ _
  have hF6 : ∃ F6, DS w5 d F6 { D with cache := fun j => if j = i then some bs else D.cache j } ∧ Chg F W0 w5 ∧ ∀ j, F6 j → F j ∨ W0.heap.size ≤ j := by
    obtain ⟨hi, hl0⟩ := HI.out
    have hi4 := hi.chg HO.out.2 (fun _ _ => id)
    have hM : M ≠ d := imap_ne hi.map hi.blk
    have hsub : ∀ j, F j → F j ∨ W0.heap.size ≤ j ∧ j < w4.heap.size := fun _ h => .inl h
    have hpast : ∀ {v bs'}, BRow w4 F v bs' → bs'.length = D.sz → BRow w5 (fun j => F j ∨ W0.heap.size ≤ j ∧ j < w4.heap.size) v bs' := fun h _ => (h.past HU.out.2 (fun g hg => hg ▸ map_notB hi4.map)).mono hsub
    have hnew : BRow w4 (fun j => F j ∨ W0.heap.size ≤ j ∧ j < w4.heap.size) (.slice A4 bs.length c4) bs := by
      refine ⟨own_base HO.out.1 (Nat.zero_le _), fun g hg => .inr ?_⟩
      have h1 := (HO.out.1.lt g hg).1
      have h2 := (HO.out.1.lt g hg).2
      exact ⟨h1, h2⟩
    refine ⟨fun j => F j ∨ W0.heap.size ≤ j ∧ j < w4.heap.size, ⟨⟨Ad, cd, M, _, vs, _, ⟨hi4.blk.chg HU.out.2 (Ne.symm hM), own_chg hi4.row HU.out.2 (fun g hg e => ?_), HU.out.1, fun k hk => ?_, fun k hk => ?_, fun k bs' hk => ?_, ⟨.inl hi.inF.1, .inl hi.inF.2.1, fun a ha => .inl (hi.inF.2.2 a ha)⟩, ⟨hi.sml.1, hi.sml.2.1, hi.sml.2.2.1, hi.sml.2.2.2.1, ?_⟩, hi.id⟩⟩, fun j hj => ?_⟩, ?_, fun j hj => hj.imp id fun e => e.1⟩
    · subst e
      obtain ⟨E, ⟨es, cl, hb, -⟩, -⟩ := hi4.map
      obtain ⟨cur, -, hg', -⟩ := own_row (show w4.ownsRow 0 34 1 (.slice (some ⟨g, 0, none⟩) D.n cd) D.n vs from by
        rcases hi4.row.2 with ⟨e1, -⟩ | ⟨g', cp, cr, e1, -⟩
        · rw [e1] at hg; simp [Value.ownBlock] at hg
        · have : g' = g := by rw [e1] at hg; simpa [Value.ownBlock] using hg
          subst this
          injection e1 with e1 e2 e3
          rw [e1] at hi4
          exact hi4.row)
      rw [hb] at hg'
      cases hg'
    · obtain ⟨v, h1, h2, h3⟩ := hi4.dat k hk
      exact ⟨v, h1, hpast h2 h3, h3⟩
    · dsimp only at hk
      split at hk
      · cases hk
      · rename_i hki
        rw [upd_other hki]
        exact hi4.no k hk
    · dsimp only at hk
      split at hk
      · rename_i hki
        subst hki
        cases hk
        refine ⟨_, upd_same _ _ _, hnew.past HU.out.2 (fun g hg => hg ▸ map_notB hi4.map), Hb.out, h0, h1⟩
      · rename_i hki
        obtain ⟨v, h1, h2, h3, h4⟩ := hi4.has k bs' hk
        exact ⟨v, by rw [upd_other hki]; exact h1, hpast h2 h3, h3, h4⟩
    · dsimp only
      rw [cntC_put]
      have hs := hi.sml.2.2.2.2
      cases hc : D.cache i with
      | none => rw [hi.no i hc]; simp; rw [if_pos ⟨h0, h1⟩]; omega
      | some b' => obtain ⟨v, hv, -⟩ := hi.has i b' hc; rw [hv]; simp; omega
    · rcases hj with e | e
      · exact Nat.lt_of_lt_of_le (hl0 j e) (Nat.le_trans HO.out.2.size HU.out.2.size)
      · exact Nat.lt_of_lt_of_le e.2 HU.out.2.size
    · exact Chg.trans HO.out.2.chg HU.out.2 fun k _ e => e ▸ hi.inF.2.1
  obtain ⟨F6, hD6, hc6, hF6⟩ := hF6
  have H6 := Lib.hid (And.intro hD6 (And.intro hc6 hF6))
  clear hD6 hc6 hF6 hHel5 hr5 c02 s0
  go_wp2_with fail
  refine (dcommand_ok d F6 _ _ H6.out.1 ha).mono ?_
  rintro e w7 ⟨rfl, h7⟩
  have H7 := Lib.hid h7
  clear h7
  go_wp2_with fail
  go_ret
  refine ⟨rfl, ?_⟩
  obtain ⟨F7, k1, k2, k3⟩ := H7.out
  refine ⟨F7, k1, Chg.trans H6.out.2.1 k2 fun j hj e => ?_, fun j hj => ?_⟩
  · rcases H6.out.2.2 j e with h | h
    · exact h
    · omega
  · rcases k3 j hj with h | h
    · exact H6.out.2.2 j h
    · exact .inr (Nat.le_trans H6.out.2.1.size h)

end Go.Proofs.YtjkkoogfaibhiaaGreatDoor

/- Bits of a number, counted and parted into bytes: the plain law behind math/bits.OnesCount64. No program stands in this text. -/
namespace Go.Proofs.YtjkkoogfaibhiaaGreatDoor

/-- The number of the first n bits of f. -/
def bitsN (f : Nat → Bool) : Nat → Nat
  | 0 => 0
  | n + 1 => bitsN f n + if f n then 2 ^ n else 0
theorem bitsN_succ (f : Nat → Bool) (n : Nat) : bitsN f (n + 1) = bitsN f n + if f n then 2 ^ n else 0 := rfl
theorem bitsN_lt (f : Nat → Bool) : ∀ n, bitsN f n < 2 ^ n
  | 0 => by simp [bitsN]
  | n + 1 => by
    have := bitsN_lt f n
    unfold bitsN
    rw [Nat.pow_succ]
    split <;> omega
theorem bitsN_bit (f : Nat → Bool) : ∀ (n j : Nat), (bitsN f n).testBit j = (decide (j < n) && f j)
  | 0, j => by simp [bitsN]
  | n + 1, j => by
    have h := Nat.testBit_two_pow_mul_add (if f n then 1 else 0) (bitsN_lt f n) j
    have e : bitsN f (n + 1) = 2 ^ n * (if f n then 1 else 0) + bitsN f n := by
      rw [bitsN_succ]
      split <;> simp [Nat.add_comm]
    rw [e, h, bitsN_bit f n j]
    by_cases h1 : j < n
    · simp [h1]; omega
    · by_cases h2 : j = n
      · subst h2; cases f j <;> simp
      · have h3 : ¬ j < n + 1 := by omega
        rw [if_neg h1]
        simp only [h3, decide_false, Bool.false_and]
        have : j - n = (j - n - 1) + 1 := by omega
        rw [this]
        split <;> simp [Nat.testBit_succ]
theorem bitsN_ext {f g : Nat → Bool} {n : Nat} (h : ∀ j, j < n → f j = g j) : bitsN f n = bitsN g n := by
  apply Nat.eq_of_testBit_eq
  intro j
  rw [bitsN_bit, bitsN_bit]
  by_cases hj : j < n
  · rw [h j hj]
  · simp [hj]
theorem bitsN_of {x n : Nat} (h : x < 2 ^ n) : bitsN x.testBit n = x := by
  apply Nat.eq_of_testBit_eq
  intro j
  rw [bitsN_bit]
  by_cases hj : j < n
  · simp [hj]
  · have : x.testBit j = false := Nat.testBit_lt_two_pow (Nat.lt_of_lt_of_le h (Nat.pow_le_pow_right (by decide) (by omega)))
    simp [hj, this]
/-- How many of the first n are set. -/
def cntN (f : Nat → Bool) : Nat → Nat
  | 0 => 0
  | n + 1 => cntN f n + if f n then 1 else 0
theorem cntN_succ (f : Nat → Bool) (n : Nat) : cntN f (n + 1) = cntN f n + if f n then 1 else 0 := rfl
theorem cntN_add (f : Nat → Bool) (a : Nat) : ∀ b, cntN f (a + b) = cntN f a + cntN (fun j => f (a + j)) b
  | 0 => rfl
  | b + 1 => by rw [← Nat.add_assoc, cntN_succ, cntN_succ, cntN_add f a b]; omega
theorem bitsN_add (f : Nat → Bool) (a : Nat) : ∀ b, bitsN f (a + b) = bitsN f a + 2 ^ a * bitsN (fun j => f (a + j)) b
  | 0 => by simp [bitsN]
  | b + 1 => by
    rw [← Nat.add_assoc, bitsN_succ, bitsN_succ, bitsN_add f a b]
    split
    · rw [Nat.mul_add, Nat.pow_add]; omega
    · simp
theorem and_split {a b c M : Nat} (ha : a < 256) (hc : c < 256) : (256 * b + a) &&& (256 * M + c) = 256 * (b &&& M) + (a &&& c) := by
  have hac : a &&& c < 2 ^ 8 := Nat.and_lt_two_pow _ (by omega)
  apply Nat.eq_of_testBit_eq
  intro j
  rw [Nat.testBit_and]
  have e := fun (q : Nat) {r : Nat} (h : r < 2 ^ 8) => Nat.testBit_two_pow_mul_add q h j
  have e8 : (256 : Nat) = 2 ^ 8 := by decide
  rw [e8, e b (by omega), e M (by omega), e (b &&& M) hac]
  by_cases hj : j < 8 <;> simp [hj]
/-- The first two steps over n bytes. -/
def s1 (b : Nat) : Nat := (b / 2 &&& 85) + (b &&& 85)
def s2 (b : Nat) : Nat := (s1 b / 4 &&& 51) + (s1 b &&& 51)
def msk (c : Nat) : Nat → Nat
  | 0 => 0
  | n + 1 => 256 * msk c n + c
theorem lo1 : ∀ b : Fin 256, ∀ q : Fin 2, ((b.val / 2 + 128 * q.val) &&& 85) = (b.val / 2 &&& 85) ∧ s1 b.val < 256 := by decide +kernel
theorem lo2 : ∀ b : Fin 256, ∀ q : Fin 4, ((b.val / 4 + 64 * q.val) &&& 51) = (b.val / 4 &&& 51) := by decide +kernel
theorem lo3 : ∀ b : Fin 256, s2 b.val < 256 ∧ s2 b.val % 16 ≤ 4 ∧ s2 b.val / 16 ≤ 4 ∧ s1 b.val < 256 := by decide +kernel
theorem lo4 : ∀ a : Fin 5, ∀ b : Fin 5, ∀ q : Fin 5, ((16 * a.val + b.val) / 16 + (16 * a.val + b.val) + 16 * q.val) &&& 15 = a.val + b.val := by decide +kernel
theorem st1 (b y n : Nat) (hb : b < 256) : ((256 * y + b) / 2 &&& msk 85 (n + 1)) + ((256 * y + b) &&& msk 85 (n + 1)) = 256 * ((y / 2 &&& msk 85 n) + (y &&& msk 85 n)) + s1 b := by
  have e : (256 * y + b) / 2 = 256 * (y / 2) + (b / 2 + 128 * (y % 2)) := by omega
  have h := (lo1 ⟨b, hb⟩ ⟨y % 2, by omega⟩).1
  simp only [] at h
  rw [e, msk, and_split (by omega) (by omega), and_split hb (by omega), h]
  unfold s1
  omega
theorem st2 (b y n : Nat) (hb : b < 256) : ((256 * y + b) / 4 &&& msk 51 (n + 1)) + ((256 * y + b) &&& msk 51 (n + 1)) = 256 * ((y / 4 &&& msk 51 n) + (y &&& msk 51 n)) + ((b / 4 &&& 51) + (b &&& 51)) := by
  have e : (256 * y + b) / 4 = 256 * (y / 4) + (b / 4 + 64 * (y % 4)) := by omega
  have h := lo2 ⟨b, hb⟩ ⟨y % 4, by omega⟩
  simp only [] at h
  rw [e, msk, and_split (by omega) (by omega), and_split hb (by omega), h]
  omega
theorem st3 (p q y n : Nat) (hp : p ≤ 4) (hq : q ≤ 4) (hy : y % 16 ≤ 4) : ((256 * y + (16 * p + q)) / 16 + (256 * y + (16 * p + q)) &&& msk 15 (n + 1)) = 256 * (y / 16 + y &&& msk 15 n) + (p + q) := by
  have e : (256 * y + (16 * p + q)) / 16 + (256 * y + (16 * p + q)) = 256 * (y / 16 + y) + ((16 * p + q) / 16 + (16 * p + q) + 16 * (y % 16)) := by omega
  have h := lo4 ⟨p, by omega⟩ ⟨q, by omega⟩ ⟨y % 16, by omega⟩
  simp only [] at h
  rw [e, msk, and_split (by omega) (by omega), h]
/-- The three steps over bytes. -/
def byt : List Nat → Nat
  | [] => 0
  | b :: l => 256 * byt l + b
theorem step1 : ∀ l : List Nat, (∀ b ∈ l, b < 256) → (byt l / 2 &&& msk 85 l.length) + (byt l &&& msk 85 l.length) = byt (l.map s1)
  | [], _ => rfl
  | b :: l, h => by
    rw [List.length_cons, byt, st1 b _ _ (h b (by simp)), step1 l fun c hc => h c (by simp [hc])]
    rfl
theorem step2 : ∀ l : List Nat, (∀ b ∈ l, b < 256) → (byt l / 4 &&& msk 51 l.length) + (byt l &&& msk 51 l.length) = byt (l.map fun b => (b / 4 &&& 51) + (b &&& 51))
  | [], _ => rfl
  | b :: l, h => by
    rw [List.length_cons, byt, st2 b _ _ (h b (by simp)), step2 l fun c hc => h c (by simp [hc])]
    rfl
theorem step3 : ∀ l : List Nat, (∀ b ∈ l, b % 16 ≤ 4 ∧ b / 16 ≤ 4) → (byt l / 16 + byt l &&& msk 15 l.length) = byt (l.map fun b => b / 16 + b % 16)
  | [], _ => rfl
  | b :: l, h => by
    have hb := h b (by simp)
    have hl : byt l % 16 ≤ 4 := by
      cases l with
      | nil => simp [byt]
      | cons c l => have := (h c (by simp)).1; unfold byt; omega
    have e : b = 16 * (b / 16) + b % 16 := by omega
    rw [List.length_cons, byt]
    rw [show (256 * byt l + b) = 256 * byt l + (16 * (b / 16) + b % 16) by omega, st3 _ _ _ _ hb.2 hb.1 hl, step3 l fun c hc => h c (by simp [hc])]
    simp only [List.map_cons, byt]
theorem steps (l : List Nat) (h : ∀ b ∈ l, b < 256) :
    let a1 := (byt l / 2 &&& msk 85 l.length) + (byt l &&& msk 85 l.length)
    let a2 := (a1 / 4 &&& msk 51 l.length) + (a1 &&& msk 51 l.length)
    (a2 / 16 + a2 &&& msk 15 l.length) = byt (l.map fun b => s2 b / 16 + s2 b % 16) := by
  intro a1 a2
  have h1 : a1 = byt (l.map s1) := step1 l h
  have h2 : a2 = byt (l.map s2) := by
    show (a1 / 4 &&& msk 51 l.length) + (a1 &&& msk 51 l.length) = _
    have := step2 (l.map s1) (by
      intro b hb
      obtain ⟨c, hc, rfl⟩ := List.mem_map.1 hb
      exact (lo3 ⟨c, h c hc⟩).2.2.2)
    rw [List.length_map, ← h1] at this
    rw [this, List.map_map]
    rfl
  have := step3 (l.map s2) (by
    intro b hb
    obtain ⟨c, hc, rfl⟩ := List.mem_map.1 hb
    exact ⟨(lo3 ⟨c, h c hc⟩).2.1, (lo3 ⟨c, h c hc⟩).2.2.1⟩)
  rw [List.length_map, ← h2] at this
  rw [this, List.map_map]
  rfl
theorem pop8 : ∀ b0 b1 b2 b3 b4 b5 b6 b7 : Bool, s2 (bitsN (fun j => [b0, b1, b2, b3, b4, b5, b6, b7].getD j false) 8) / 16 + s2 (bitsN (fun j => [b0, b1, b2, b3, b4, b5, b6, b7].getD j false) 8) % 16 = cntN (fun j => [b0, b1, b2, b3, b4, b5, b6, b7].getD j false) 8 := by decide +kernel
theorem cntN_ext {f g : Nat → Bool} : ∀ {n : Nat}, (∀ j, j < n → f j = g j) → cntN f n = cntN g n
  | 0, _ => rfl
  | n + 1, h => by unfold cntN; rw [cntN_ext fun j hj => h j (by omega), h n (by omega)]
theorem pop_byte (f : Nat → Bool) : s2 (bitsN f 8) / 16 + s2 (bitsN f 8) % 16 = cntN f 8 := by
  have h := pop8 (f 0) (f 1) (f 2) (f 3) (f 4) (f 5) (f 6) (f 7)
  have e : ∀ j, j < 8 → f j = [f 0, f 1, f 2, f 3, f 4, f 5, f 6, f 7].getD j false := by
    intro j hj
    match j, hj with
    | 0, _ => rfl
    | 1, _ => rfl
    | 2, _ => rfl
    | 3, _ => rfl
    | 4, _ => rfl
    | 5, _ => rfl
    | 6, _ => rfl
    | 7, _ => rfl
  rw [bitsN_ext e, cntN_ext e]
  exact h
theorem cntN_le (f : Nat → Bool) : ∀ n, cntN f n ≤ n
  | 0 => Nat.le_refl _
  | n + 1 => by have := cntN_le f n; unfold cntN; split <;> omega
/-- The sum of eight bytes. -/
theorem sum8 {p0 p1 p2 p3 p4 p5 p6 p7 : Nat} (h0 : p0 ≤ 8) (h1 : p1 ≤ 8) (h2 : p2 ≤ 8) (h3 : p3 ≤ 8) (h4 : p4 ≤ 8) (h5 : p5 ≤ 8) (h6 : p6 ≤ 8) (h7 : p7 ≤ 8) (a3 a4 a5 a6 : Nat)
    (e3 : a3 = byt [p0, p1, p2, p3, p4, p5, p6, p7]) (e4 : a4 = a3 + a3 / 256) (e5 : a5 = a4 + a4 / 65536) (e6 : a6 = a5 + a5 / 4294967296) : a3 < 18446744073709551616 ∧ a4 < 18446744073709551616 ∧ a5 < 18446744073709551616 ∧ a6 < 18446744073709551616 ∧ a6 % 128 = p0 + p1 + p2 + p3 + p4 + p5 + p6 + p7 := by
  simp only [byt] at e3
  have d3 : a3 / 256 = 256 * (256 * (256 * (256 * (256 * (256 * p7 + p6) + p5) + p4) + p3) + p2) + p1 := by omega
  rw [d3] at e4
  have d4 : a4 / 65536 = 256 * (256 * (256 * (256 * (256 * p7 + (p6 + p7)) + (p5 + p6)) + (p4 + p5)) + (p3 + p4)) + (p2 + p3) := by omega
  rw [d4] at e5
  have d5 : a5 / 4294967296 = 256 * (256 * (256 * p7 + (p6 + p7)) + (p5 + p6 + p7)) + (p4 + p5 + p6 + p7) := by omega
  rw [d5] at e6
  have b3 : a3 < 18446744073709551616 := by clear d3 d4 d5 e4 e5 e6; omega
  have b4 : a4 < 18446744073709551616 := by clear d3 d4 d5 e5 e6; omega
  have f5 : a5 = 256 * (256 * (256 * (256 * (256 * (256 * (256 * p7 + (p6 + p7)) + (p5 + p6 + p7)) + (p4 + p5 + p6 + p7)) + (p3 + p4 + p5 + p6)) + (p2 + p3 + p4 + p5)) + (p1 + p2 + p3 + p4)) + (p0 + p1 + p2 + p3) := by
    clear d3 d4 d5 e6 b3 b4; omega
  clear d3 d4 d5 e3 e4 e5
  have b5 : a5 < 18446744073709551616 := by clear e6 b3 b4; omega
  have f6 : ∃ X, X < 72057594037927936 - 1 ∧ a6 = 256 * X + (p0 + p1 + p2 + p3 + p4 + p5 + p6 + p7) := by
    refine ⟨256 * (256 * (256 * (256 * (256 * (256 * p7 + (p6 + p7)) + (p5 + p6 + p7)) + (p4 + p5 + p6 + p7)) + (p3 + p4 + p5 + p6 + p7)) + (p2 + p3 + p4 + p5 + p6 + p7)) + (p1 + p2 + p3 + p4 + p5 + p6 + p7), ?_, ?_⟩
    · clear e6 f5 b3 b4 b5; omega
    · clear b3 b4 b5; omega
  clear e6 f5
  obtain ⟨X, hX, rfl⟩ := f6
  exact ⟨b3, b4, b5, by omega, by omega⟩
theorem byt_bd (m : Nat) : ∀ l : List Nat, (∀ b ∈ l, b ≤ m) → 255 * byt l + m ≤ m * 256 ^ l.length
  | [], _ => by simp [byt]
  | b :: l, h => by
    have h1 := byt_bd m l fun c hc => h c (by simp [hc])
    have h2 := h b (by simp)
    rw [List.length_cons, Nat.pow_succ, ← Nat.mul_assoc]
    unfold byt
    omega
theorem byt8 (f : Nat → Bool) : bitsN f 64 = byt [bitsN f 8, bitsN (fun j => f (8 + j)) 8, bitsN (fun j => f (16 + j)) 8, bitsN (fun j => f (24 + j)) 8, bitsN (fun j => f (32 + j)) 8, bitsN (fun j => f (40 + j)) 8, bitsN (fun j => f (48 + j)) 8, bitsN (fun j => f (56 + j)) 8] := by
  rw [show (64 : Nat) = 56 + 8 from rfl, bitsN_add, show (56 : Nat) = 48 + 8 from rfl, bitsN_add, show (48 : Nat) = 40 + 8 from rfl, bitsN_add, show (40 : Nat) = 32 + 8 from rfl, bitsN_add, show (32 : Nat) = 24 + 8 from rfl, bitsN_add, show (24 : Nat) = 16 + 8 from rfl, bitsN_add, show (16 : Nat) = 8 + 8 from rfl, bitsN_add]
  simp only [byt, Nat.reduceAdd, Nat.reducePow]
  omega
theorem cnt8 (f : Nat → Bool) : cntN f 64 = cntN f 8 + cntN (fun j => f (8 + j)) 8 + cntN (fun j => f (16 + j)) 8 + cntN (fun j => f (24 + j)) 8 + cntN (fun j => f (32 + j)) 8 + cntN (fun j => f (40 + j)) 8 + cntN (fun j => f (48 + j)) 8 + cntN (fun j => f (56 + j)) 8 := by
  rw [show (64 : Nat) = 56 + 8 from rfl, cntN_add, show (56 : Nat) = 48 + 8 from rfl, cntN_add, show (48 : Nat) = 40 + 8 from rfl, cntN_add, show (40 : Nat) = 32 + 8 from rfl, cntN_add, show (32 : Nat) = 24 + 8 from rfl, cntN_add, show (24 : Nat) = 16 + 8 from rfl, cntN_add, show (16 : Nat) = 8 + 8 from rfl, cntN_add]
theorem ones_law (f : Nat → Bool) (x a1 a2 a3 a4 a5 a6 : Nat) (hx : x = bitsN f 64) (e1 : a1 = (x / 2 &&& 6148914691236517205) + (x &&& 6148914691236517205)) (e2 : a2 = (a1 / 4 &&& 3689348814741910323) + (a1 &&& 3689348814741910323))
    (e3 : a3 = (a2 / 16 + a2 &&& 1085102592571150095)) (e4 : a4 = a3 + a3 / 256) (e5 : a5 = a4 + a4 / 65536) (e6 : a6 = a5 + a5 / 4294967296) :
    a1 < 18446744073709551616 ∧ a2 < 18446744073709551616 ∧ a2 / 16 + a2 < 18446744073709551616 ∧ a3 < 18446744073709551616 ∧ a4 < 18446744073709551616 ∧ a5 < 18446744073709551616 ∧ a6 < 18446744073709551616 ∧ a6 % 128 = cntN f 64 := by
  obtain ⟨l, hl⟩ : ∃ l, [bitsN f 8, bitsN (fun j => f (8 + j)) 8, bitsN (fun j => f (16 + j)) 8, bitsN (fun j => f (24 + j)) 8, bitsN (fun j => f (32 + j)) 8, bitsN (fun j => f (40 + j)) 8, bitsN (fun j => f (48 + j)) 8, bitsN (fun j => f (56 + j)) 8] = l := ⟨_, rfl⟩
  have hlen : l.length = 8 := by rw [← hl]; rfl
  have hb : ∀ b ∈ l, b < 256 := by
    intro b hb
    rw [← hl] at hb
    simp only [List.mem_cons, List.not_mem_nil, or_false] at hb
    rcases hb with rfl | rfl | rfl | rfl | rfl | rfl | rfl | rfl <;> exact bitsN_lt _ 8
  rw [byt8 f, hl] at hx
  have hm1 : msk 85 l.length = 6148914691236517205 := by rw [hlen]; decide +kernel
  have hm2 : msk 51 l.length = 3689348814741910323 := by rw [hlen]; decide +kernel
  have hm3 : msk 15 l.length = 1085102592571150095 := by rw [hlen]; decide +kernel
  have h1 := step1 l hb
  rw [hm1, ← hx, ← e1] at h1
  have h2 := step2 (l.map s1) (by
      intro b hb'
      obtain ⟨c, hc, rfl⟩ := List.mem_map.1 hb'
      exact (lo3 ⟨c, hb c hc⟩).2.2.2)
  rw [List.length_map, hm2, ← h1, ← e2, List.map_map] at h2
  have h2' : a2 = byt (l.map s2) := h2
  have h3 := step3 (l.map s2) (by
    intro b hb'
    obtain ⟨c, hc, rfl⟩ := List.mem_map.1 hb'
    exact ⟨(lo3 ⟨c, hb c hc⟩).2.1, (lo3 ⟨c, hb c hc⟩).2.2.1⟩)
  rw [List.length_map, hm3, ← h2', ← e3, List.map_map] at h3
  have b1 := byt_bd 255 (l.map s1) (by
      intro b hb'
      obtain ⟨c, hc, rfl⟩ := List.mem_map.1 hb'
      have := (lo3 ⟨c, hb c hc⟩).2.2.2
      simp only [] at this
      omega)
  rw [← h1, List.length_map, hlen] at b1
  have b2 := byt_bd 68 (l.map s2) (by
      intro b hb'
      obtain ⟨c, hc, rfl⟩ := List.mem_map.1 hb'
      have := lo3 ⟨c, hb c hc⟩
      simp only [] at this
      omega)
  rw [← h2', List.length_map, hlen] at b2
  have h3' : a3 = byt [cntN f 8, cntN (fun j => f (8 + j)) 8, cntN (fun j => f (16 + j)) 8, cntN (fun j => f (24 + j)) 8, cntN (fun j => f (32 + j)) 8, cntN (fun j => f (40 + j)) 8, cntN (fun j => f (48 + j)) 8, cntN (fun j => f (56 + j)) 8] := by
    rw [h3, ← hl]
    simp only [List.map_cons, List.map_nil, Function.comp, pop_byte]
  obtain ⟨r3, r4, r5, r6, r7⟩ := sum8 (cntN_le _ 8) (cntN_le _ 8) (cntN_le _ 8) (cntN_le _ 8) (cntN_le _ 8) (cntN_le _ 8) (cntN_le _ 8) (cntN_le _ 8) a3 a4 a5 a6 h3' e4 e5 e6
  rw [cnt8 f]
  exact ⟨by omega, by omega, by omega, r3, r4, r5, r6, r7⟩

end Go.Proofs.YtjkkoogfaibhiaaGreatDoor

/- A list of bools in words of 64 bits. No program stands in this text. -/
namespace Go.Proofs.YtjkkoogfaibhiaaGreatDoor

theorem getD_set (x : List Bool) (i m : Nat) (b : Bool) (hi : i < x.length) : (x.set i b).getD m false = if m = i then b else x.getD m false := by
  rw [List.getD_eq_getElem?_getD, List.getD_eq_getElem?_getD, List.getElem?_set]
  by_cases h : i = m
  · subst h; simp [hi]
  · simp [h, Ne.symm h]

/-- Word k. -/
def wd (x : List Bool) (k : Nat) : Nat := bitsN (fun j => x.getD (64 * k + j) false) 64
/-- How many words. -/
def nw (x : List Bool) : Nat := (x.length + 63) / 64
def wds (x : List Bool) : List Value := (List.range (nw x)).map fun k => .int .u64 (wd x k)

theorem wd_lt (x : List Bool) (k : Nat) : wd x k < 18446744073709551616 := bitsN_lt _ 64
theorem wd_bit (x : List Bool) (k j : Nat) : (wd x k).testBit j = (decide (j < 64) && x.getD (64 * k + j) false) := bitsN_bit _ 64 j
theorem wds_len (x : List Bool) : (wds x).length = nw x := by simp [wds]
theorem wds_at {x : List Bool} {k : Nat} (hk : k < nw x) : (wds x)[k]? = some (.int .u64 (wd x k)) := by simp [wds, hk]
theorem nw_le (x : List Bool) : nw x ≤ x.length := by unfold nw; omega
theorem in_nw {x : List Bool} {i : Nat} (hi : i < x.length) : i / 64 < nw x := by unfold nw; omega
theorem nw_set (x : List Bool) (i : Nat) (b : Bool) : nw (x.set i b) = nw x := by unfold nw; simp

theorem wd_turn {x : List Bool} {i : Nat} (hi : i < x.length) (k : Nat) : wd (x.set i (!x.getD i false)) k = if k = i / 64 then wd x k ^^^ 2 ^ (i % 64) else wd x k := by
  apply Nat.eq_of_testBit_eq
  intro j
  by_cases hk : k = i / 64
  · rw [if_pos hk, wd_bit, Nat.testBit_xor, wd_bit, Nat.testBit_two_pow, getD_set _ _ _ _ hi]
    by_cases hj : j < 64
    · by_cases he : 64 * k + j = i
      · have : i % 64 = j := by omega
        simp [hj, he, this]
      · have : ¬ i % 64 = j := by omega
        simp [hj, he, this]
    · have : ¬ i % 64 = j := by omega
      simp [hj, this]
  · rw [if_neg hk, wd_bit, wd_bit, getD_set _ _ _ _ hi]
    by_cases hj : j < 64
    · rw [if_neg (by omega)]
    · simp [hj]
theorem wds_turn {x : List Bool} {i : Nat} (hi : i < x.length) : (wds x).set (i / 64) (.int .u64 ((wd x (i / 64) ^^^ 2 ^ (i % 64) : Nat) : Int)) = wds (x.set i (!x.getD i false)) := by
  apply List.ext_getElem?
  intro k
  rw [List.getElem?_set]
  by_cases hk : k < nw x
  · rw [wds_at (x := x.set i (!x.getD i false)) (by rw [nw_set]; exact hk), wd_turn hi]
    by_cases h : i / 64 = k
    · subst h
      rw [if_pos rfl, if_pos (by rw [wds_len]; exact hk), if_pos rfl]
    · rw [if_neg h, if_neg (Ne.symm h), wds_at hk]
  · have h1 : (wds (x.set i (!x.getD i false)))[k]? = none := by rw [List.getElem?_eq_none]; rw [wds_len, nw_set]; omega
    have h2 : (wds x)[k]? = none := by rw [List.getElem?_eq_none]; rw [wds_len]; omega
    have := in_nw hi
    rw [if_neg (by omega), h1, h2]
theorem wd_has {x : List Bool} {i : Nat} : wd x (i / 64) / 2 ^ (i % 64) % 2 = if x.getD i false then 1 else 0 := by
  have h := wd_bit x (i / 64) (i % 64)
  rw [Nat.testBit_eq_decide_div_mod_eq] at h
  have e : 64 * (i / 64) + i % 64 = i := by omega
  have hlt : i % 64 < 64 := by omega
  rw [e] at h
  simp only [hlt, decide_true, Bool.true_and] at h
  cases hx : x.getD i false with
  | true => rw [hx] at h; simpa using h
  | false => rw [hx] at h; simp only [decide_eq_false_iff_not] at h; rw [if_neg (by simp)]; omega

/-- The least number from i on that is set. -/
def nxt (x : List Bool) (i : Nat) : Option Nat := (List.range x.length).find? fun j => decide (i ≤ j) && x.getD j false
theorem nxt_some {x : List Bool} {i j : Nat} : nxt x i = some j ↔ i ≤ j ∧ j < x.length ∧ x.getD j false = true ∧ ∀ m, i ≤ m → m < j → x.getD m false = false := by
  unfold nxt
  rw [List.find?_range_eq_some]
  simp only [Bool.and_eq_true, decide_eq_true_eq, List.mem_range, Bool.not_eq_eq_eq_not, Bool.not_true, Bool.and_eq_false_imp]
  constructor
  · rintro ⟨⟨h1, h2⟩, h3, h4⟩
    exact ⟨h1, h3, h2, fun m h5 h6 => h4 m h6 h5⟩
  · rintro ⟨h1, h2, h3, h4⟩
    exact ⟨⟨h1, h3⟩, h2, fun m h5 h6 => h4 m h6 h5⟩
theorem nxt_none {x : List Bool} {i : Nat} : nxt x i = none ↔ ∀ m, i ≤ m → x.getD m false = false := by
  unfold nxt
  rw [List.find?_eq_none]
  simp only [List.mem_range, Bool.and_eq_true, decide_eq_true_eq, not_and, Bool.not_eq_true]
  constructor
  · intro h m hm
    by_cases hx : m < x.length
    · exact h m hx hm
    · rw [List.getD_eq_getElem?_getD, List.getElem?_eq_none (by omega)]; rfl
  · intro h m _ hm
    exact h m hm

theorem ctz_bits {w : Nat} (h0 : w ≠ 0) (h : w < 18446744073709551616) : Lib.ctz 64 w < 64 ∧ w.testBit (Lib.ctz 64 w) = true ∧ ∀ j, j < Lib.ctz 64 w → w.testBit j = false := by
  obtain ⟨m, hm, hlt⟩ := Lib.ctzFrom_spec 64 w (by omega) h
  have e : Lib.ctz 64 w = Lib.ctzFrom 64 w := by unfold Lib.ctz; rw [if_neg h0]
  rw [e]
  generalize Lib.ctzFrom 64 w = c at *
  rw [Nat.mul_comm] at hm
  refine ⟨hlt, ?_, fun j hj => ?_⟩
  · rw [hm, Nat.testBit_mul_two_pow]
    simp [Nat.testBit_zero]
  · rw [hm, Nat.testBit_mul_two_pow]
    have : ¬ c ≤ j := by omega
    simp [this]
theorem zero_bits {w : Nat} (h : w = 0) (j : Nat) : w.testBit j = false := by subst h; simp

/-- A word, from its bit s on. -/
theorem low_off {w s : Nat} (j : Nat) : (w / 2 ^ s * 2 ^ s).testBit j = (decide (s ≤ j) && w.testBit j) := by
  rw [Nat.testBit_mul_two_pow, Nat.testBit_div_two_pow]
  by_cases h : s ≤ j
  · simp only [h, decide_true, Bool.true_and]
    congr 1
    omega
  · simp [h]
theorem low_off_lt {w s : Nat} (h : w < 18446744073709551616) : w / 2 ^ s * 2 ^ s < 18446744073709551616 := Nat.lt_of_le_of_lt (Nat.div_mul_le_self _ _) h

/-- Where the search stands: nothing is set from i up to word k; the word that is looked at, and what it tells. -/
theorem nxt_hit {x : List Bool} {i k w : Nat} (hno : ∀ m, i ≤ m → m < 64 * k → x.getD m false = false) (hik : i / 64 ≤ k) (hk : k < nw x) (hw : w = if k = i / 64 then wd x k / 2 ^ (i % 64) * 2 ^ (i % 64) else wd x k) (h0 : w ≠ 0) :
    w < 18446744073709551616 ∧ nxt x i = some (64 * k + Lib.ctz 64 w) := by
  have hlt : w < 18446744073709551616 := by
    rw [hw]; split
    · exact low_off_lt (wd_lt _ _)
    · exact wd_lt _ _
  obtain ⟨c1, c2, c3⟩ := ctz_bits h0 hlt
  have hb : ∀ j, w.testBit j = (decide (i ≤ 64 * k + j) && (decide (j < 64) && x.getD (64 * k + j) false)) := by
    intro j
    rw [hw]
    split
    · rename_i e
      rw [low_off, wd_bit]
      have : decide (i % 64 ≤ j) = decide (i ≤ 64 * k + j) := decide_eq_decide.2 (by omega)
      rw [this]
    · rename_i e
      rw [wd_bit]
      have : i ≤ 64 * k + j := by omega
      simp [this]
  rw [hb] at c2
  simp only [Bool.and_eq_true, decide_eq_true_eq] at c2
  refine ⟨hlt, nxt_some.2 ⟨c2.1, ?_, c2.2.2, fun m h1 h2 => ?_⟩⟩
  · apply Nat.lt_of_not_le
    intro h
    have := c2.2.2
    rw [List.getD_eq_getElem?_getD, List.getElem?_eq_none h] at this
    cases this
  · by_cases hm : m < 64 * k
    · exact hno m h1 hm
    · have h3 := c3 (m - 64 * k) (by omega)
      rw [hb] at h3
      have e : 64 * k + (m - 64 * k) = m := by omega
      rw [e] at h3
      have e2 : m - 64 * k < 64 := by omega
      simpa [h1, e2] using h3
theorem nxt_miss {x : List Bool} {i k w : Nat} (hno : ∀ m, i ≤ m → m < 64 * k → x.getD m false = false) (hik : i / 64 ≤ k) (hw : w = if k = i / 64 then wd x k / 2 ^ (i % 64) * 2 ^ (i % 64) else wd x k) (h0 : w = 0) :
    ∀ m, i ≤ m → m < 64 * (k + 1) → x.getD m false = false := by
  intro m h1 h2
  by_cases hm : m < 64 * k
  · exact hno m h1 hm
  · have e : 64 * k + (m - 64 * k) = m := by omega
    have e2 : m - 64 * k < 64 := by omega
    have h3 : (wd x k).testBit (m - 64 * k) = x.getD m false := by rw [wd_bit, e]; simp [e2]
    rw [← h3]
    split at hw
    · rename_i ek
      have h4 := zero_bits h0 (m - 64 * k)
      rw [hw, low_off] at h4
      have e3 : i % 64 ≤ m - 64 * k := by omega
      simpa [e3] using h4
    · rw [← hw]; exact zero_bits h0 _
theorem nxt_end {x : List Bool} {i k : Nat} (hno : ∀ m, i ≤ m → m < 64 * k → x.getD m false = false) (hk : nw x ≤ k) : nxt x i = none := by
  rw [nxt_none]
  intro m hm
  by_cases hx : m < 64 * k
  · exact hno m hm hx
  · rw [List.getD_eq_getElem?_getD, List.getElem?_eq_none]
    · rfl
    · unfold nw at hk; omega

/-- How many are set. -/
def cnt (x : List Bool) : Nat := cntN (fun j => x.getD j false) x.length
theorem cntN_false {f : Nat → Bool} : ∀ {n : Nat}, (∀ j, j < n → f j = false) → cntN f n = 0
  | 0, _ => rfl
  | n + 1, h => by rw [cntN_succ, cntN_false fun j hj => h j (by omega), h n (by omega)]; rfl
theorem cnt_words (x : List Bool) : cntN (fun j => x.getD j false) (64 * nw x) = cnt x := by
  have e : 64 * nw x = x.length + (64 * nw x - x.length) := by unfold nw; omega
  rw [e, cntN_add]
  unfold cnt
  rw [cntN_false (n := 64 * nw x - x.length)]
  · rfl
  · intro j _
    rw [List.getD_eq_getElem?_getD, List.getElem?_eq_none (by omega)]
    rfl
theorem cnt_word (x : List Bool) (k : Nat) : cntN (fun j => x.getD j false) (64 * (k + 1)) = cntN (fun j => x.getD j false) (64 * k) + cntN (fun j => x.getD (64 * k + j) false) 64 := by
  rw [show 64 * (k + 1) = 64 * k + 64 by omega, cntN_add]

end Go.Proofs.YtjkkoogfaibhiaaGreatDoor

/- math/bits: OnesCount64, TrailingZeros64. -/
namespace Go.Proofs.YtjkkoogfaibhiaaGreatDoor
open Go.RowKit

set_option maxHeartbeats 800000 in
theorem tz_core (x k idx : Nat) (w : World) (hx0 : ((x : Int) == 0) = false)
    (key : IntKind.u64.wrap (bits BinOp.and IntKind.u64 (x : Int) (IntKind.u64.wrap (-(x : Int))) * 285870213051353865) / 288230376151711744 = (idx : Int))
    (hi : idx < 64) (hk : k < 64) (hcell : w.cell? ⟨0, idx, none⟩ = some (.int .u8 k)) :
    Calls Tryz.prog 128 #[.int .u64 x] w fun e w' => e = .returned (.int .i64 k) ∧ w = w' := by
  go_enter Tryz.func128, Tryz.ntmps128
  go_wp2_with (simp only [key])
  go_ret
  exact ⟨rfl, rfl⟩

theorem tz_any (x : Nat) (hx : x < 18446744073709551616) (hx0 : x ≠ 0) (w : World) (hT : TabAt 0 Lib.deBruijn64tab w) :
    Calls Tryz.prog 128 #[.int .u64 x] w fun e w' => e = .returned (.int .i64 (Lib.ctz 64 x)) ∧ w = w' := by
  obtain ⟨hlow, hk⟩ := Lib.lowest_bit 64 x hx0 hx
  obtain ⟨hi, htab⟩ := Lib.deBruijn64_at _ hk
  have hcell := hT _ hi
  rw [htab] at hcell
  exact tz_core x _ _ w (by simp; omega) (tz64_key x _ hx hx0 hlow) hi hk hcell

def on1 (x : Int) : Int := IntKind.u64.wrap (bits BinOp.and IntKind.u64 (x / 2) 6148914691236517205 + bits BinOp.and IntKind.u64 x 6148914691236517205)
def on2 (x : Int) : Int := IntKind.u64.wrap (bits BinOp.and IntKind.u64 (x / 4) 3689348814741910323 + bits BinOp.and IntKind.u64 x 3689348814741910323)
def on3 (x : Int) : Int := bits BinOp.and IntKind.u64 (IntKind.u64.wrap (x / 16 + x)) 1085102592571150095
def on4 (x : Int) : Int := IntKind.u64.wrap (x + x / 256)
def on5 (x : Int) : Int := IntKind.u64.wrap (x + x / 65536)
def on6 (x : Int) : Int := IntKind.u64.wrap (x + x / 4294967296)
def on7 (x : Int) : Int := bits BinOp.and IntKind.i64 (wrap64 x) 127

theorem wrapU {n : Nat} (h : n < 18446744073709551616) : IntKind.u64.wrap (n : Int) = n := by rw [IntKind.wrap_u64]; omega
theorem on1_eq {x a : Nat} (hx : x < 18446744073709551616) (ha : a = (x / 2 &&& 6148914691236517205) + (x &&& 6148914691236517205)) (hl : a < 18446744073709551616) : on1 (x : Int) = a := by
  have h1 := bits_and_u64_nat (x / 2) 6148914691236517205 (by omega) (by decide)
  have h2 := bits_and_u64_nat x 6148914691236517205 hx (by decide)
  unfold on1
  rw [show (x : Int) / 2 = ((x / 2 : Nat) : Int) by omega]
  rw [show (6148914691236517205 : Int) = ((6148914691236517205 : Nat) : Int) from rfl, h1, h2, ← Int.natCast_add, ← ha, wrapU hl]
theorem on2_eq {x a : Nat} (hx : x < 18446744073709551616) (ha : a = (x / 4 &&& 3689348814741910323) + (x &&& 3689348814741910323)) (hl : a < 18446744073709551616) : on2 (x : Int) = a := by
  have h1 := bits_and_u64_nat (x / 4) 3689348814741910323 (by omega) (by decide)
  have h2 := bits_and_u64_nat x 3689348814741910323 hx (by decide)
  unfold on2
  rw [show (x : Int) / 4 = ((x / 4 : Nat) : Int) by omega]
  rw [show (3689348814741910323 : Int) = ((3689348814741910323 : Nat) : Int) from rfl, h1, h2, ← Int.natCast_add, ← ha, wrapU hl]
theorem on3_eq {x a : Nat} (hx : x / 16 + x < 18446744073709551616) (ha : a = (x / 16 + x &&& 1085102592571150095)) : on3 (x : Int) = a := by
  have h1 := bits_and_u64_nat (x / 16 + x) 1085102592571150095 hx (by decide)
  unfold on3
  rw [show (x : Int) / 16 + x = ((x / 16 + x : Nat) : Int) by omega, wrapU hx]
  rw [show (1085102592571150095 : Int) = ((1085102592571150095 : Nat) : Int) from rfl, h1, ← ha]
theorem on4_eq {x a : Nat} (ha : a = x + x / 256) (hl : a < 18446744073709551616) : on4 (x : Int) = a := by
  unfold on4
  rw [show (x : Int) + x / 256 = ((a : Nat) : Int) by omega, wrapU hl]
theorem on5_eq {x a : Nat} (ha : a = x + x / 65536) (hl : a < 18446744073709551616) : on5 (x : Int) = a := by
  unfold on5
  rw [show (x : Int) + x / 65536 = ((a : Nat) : Int) by omega, wrapU hl]
theorem on6_eq {x a : Nat} (ha : a = x + x / 4294967296) (hl : a < 18446744073709551616) : on6 (x : Int) = a := by
  unfold on6
  rw [show (x : Int) + x / 4294967296 = ((a : Nat) : Int) by omega, wrapU hl]
theorem on7_eq {x : Nat} : on7 (x : Int) = ((x % 128 : Nat) : Int) := by
  unfold on7
  rw [← IntWalk.i64_left]
  have h1 : (BitVec.ofInt 64 (IntKind.i64.wrap (x : Int))).toNat % 128 = x % 128 := by
    rw [IntKind.wrap_i64, BitVec.toNat_ofInt]
    omega
  have h3 : (BitVec.ofInt 64 127).toNat = 127 := by decide
  show IntKind.i64.wrap ((BitVec.ofInt 64 (IntKind.i64.wrap (x : Int)) &&& BitVec.ofInt 64 127).toNat : Int) = _
  rw [BitVec.toNat_and, h3]
  have h4 := Nat.and_two_pow_sub_one_eq_mod (BitVec.ofInt 64 (IntKind.i64.wrap (x : Int))).toNat 7
  rw [show (2 ^ 7 - 1 : Nat) = 127 from rfl, show (2 ^ 7 : Nat) = 128 from rfl] at h4
  rw [h4, h1, IntKind.wrap_i64]
  omega

theorem on_all (f : Nat → Bool) : on7 (on6 (on5 (on4 (on3 (on2 (on1 (bitsN f 64 : Nat))))))) = (cntN f 64 : Nat) := by
  obtain ⟨b1, b2, b2', b3, b4, b5, b6, h⟩ := ones_law f (bitsN f 64) _ _ _ _ _ _ rfl rfl rfl rfl rfl rfl rfl
  rw [on1_eq (bitsN_lt f 64) rfl b1, on2_eq b1 rfl b2, on3_eq b2' rfl, on4_eq rfl b4, on5_eq rfl b5, on6_eq rfl b6, on7_eq, h]

set_option maxHeartbeats 800000 in
theorem ones_core (x : Nat) (w : World) (h0 : (x : Int) < 18446744073709551616) :
    Calls Tryz.prog 152 #[.int .u64 x] w fun e w' => e = .returned (.int .i64 (on7 (on6 (on5 (on4 (on3 (on2 (on1 x)))))))) ∧ w = w' := by
  go_enter Tryz.func152, Tryz.ntmps152
  go_wp2
  go_ret
  exact ⟨rfl, rfl⟩
theorem ones_any (f : Nat → Bool) (w : World) :
    Calls Tryz.prog 152 #[.int .u64 (bitsN f 64 : Nat)] w fun e w' => e = .returned (.int .i64 (cntN f 64 : Nat)) ∧ w = w' := by
  have h := ones_core (bitsN f 64) w (by have := bitsN_lt f 64; omega)
  rw [on_all] at h
  exact h

end Go.Proofs.YtjkkoogfaibhiaaGreatDoor

/- The pool: what lies in memory; Len, in, Has, turn. -/
namespace Go.Proofs.YtjkkoogfaibhiaaGreatDoor
open Go.RowKit

/-- A pool of some numbers, in memory. -/
structure PIn (w : World) (b : Nat) (x : List Bool) (A : Option Addr) (c : Nat) : Prop where
  blk : Blk w b 129 #[.int .i64 x.length, .slice A (nw x) c]
  own : w.ownsRow 0 130 1 (.slice A (nw x) c) (nw x) (wds x)

/-- The blocks of a pool. -/
def PF (b : Nat) (A : Option Addr) : Nat → Prop := fun k => k = b ∨ ∃ a, A = some a ∧ k = a.block

section
variable {w w' : World} {b c : Nat} {x : List Bool} {A : Option Addr}
theorem PIn.chg {G : Nat → Prop} (h : PIn w b x A c) (hc : Chg G w w') (hG : ∀ k, PF b A k → ¬ G k) : PIn w' b x A c :=
  ⟨h.blk.chg hc (hG _ (.inl rfl)), own_chg h.own hc (fun g hg => hG _ (.inr (by cases A with | none => simp [Value.ownBlock] at hg | some a => simp [Value.ownBlock] at hg; exact ⟨a, rfl, hg.symm⟩)))⟩
theorem PIn.grew (h : PIn w b x A c) (hc : Grew w w') : PIn w' b x A c := h.chg hc fun _ _ => id
theorem PIn.lt (h : PIn w b x A c) : ∀ j, PF b A j → j < w.heap.size := by
  rintro j (rfl | ⟨a, rfl, rfl⟩)
  · exact h.blk.lt
  · obtain ⟨g, rfl, hg⟩ := own_some h.own
    exact hg
/-- A word's cell. -/
theorem PIn.word (h : PIn w b x A c) {k : Nat} (hk : k < nw x) : ∃ g, A = some ⟨g, 0, none⟩ ∧ g < w.heap.size ∧ g ≠ b ∧ w.cell? ⟨g, k, none⟩ = some (.int .u64 (wd x k)) ∧ w.frozen? ⟨g, k, none⟩ = false := by
  obtain ⟨g, rfl, hg⟩ := own_block h.own (by omega)
  obtain ⟨cur, -, hgc, hnc, hcm, hcs, htake, -⟩ := own_row h.own
  refine ⟨g, rfl, hg, fun e => own_blk_ne h.own h.blk (by decide) (by simp [Value.ownBlock, e]), ?_, (show Blk w g _ cur from hgc).frozen _⟩
  have := h.own.cells (g := g) rfl k _ (wds_at hk)
  rw [Addr.add_lit] at this
  simpa using this
end

theorem pin_yes (b i : Nat) (x : List Bool) (A : Option Addr) (c : Nat) (w : World) (h : PIn w b x A c) (hi : i < x.length) :
    Calls Tryz.prog 114 #[.pointer (some ⟨b, 0, none⟩), .int .i64 i] w fun e w' => e = .returned (.bool true) ∧ w = w' := by
  obtain ⟨c0, f0, s0⟩ := h.blk.facts
  have t1 : decide ((0 : Int) ≤ (i : Int)) = true := decide_eq_true (by omega)
  have t2 : decide ((i : Int) < (x.length : Int)) = true := decide_eq_true (by omega)
  have t3 : decide (i < x.length) = true := decide_eq_true hi
  clear h
  go_enter Tryz.func114, Tryz.ntmps114
  go_wp2
  go_ret
  exact ⟨rfl, rfl⟩
theorem pin_no (b : Nat) (i : Int) (x : List Bool) (A : Option Addr) (c : Nat) (w : World) (h : PIn w b x A c) (hi : i < 0 ∨ x.length ≤ i) :
    Calls Tryz.prog 114 #[.pointer (some ⟨b, 0, none⟩), .int .i64 i] w fun e w' => e = .returned (.bool false) ∧ w = w' := by
  obtain ⟨c0, f0, s0⟩ := h.blk.facts
  clear h
  by_cases h1 : i < 0
  · have t1 : decide ((0 : Int) ≤ i) = false := decide_eq_false (by omega)
    clear hi
    go_enter Tryz.func114, Tryz.ntmps114
    go_wp2
    go_ret
    exact ⟨rfl, rfl⟩
  · have t1 : decide ((0 : Int) ≤ i) = true := decide_eq_true (by omega)
    have t2 : decide (i < (x.length : Int)) = false := decide_eq_false (by omega)
    clear hi
    go_enter Tryz.func114, Tryz.ntmps114
    go_wp2
    go_ret
    exact ⟨rfl, rfl⟩

theorem shr_nat (w s : Nat) : (w : Int) / 2 ^ s = ((w / 2 ^ s : Nat) : Int) := by
  rw [Int.natCast_ediv, Int.natCast_pow]; rfl
theorem has_eq {x : List Bool} {i : Nat} : (bits BinOp.and IntKind.u64 ((wd x (i / 64) : Nat) / 2 ^ (i % 64) : Int) 1 == 1) = x.getD i false := by
  have h1 : wd x (i / 64) / 2 ^ (i % 64) < 18446744073709551616 := Nat.lt_of_le_of_lt (Nat.div_le_self _ _) (wd_lt _ _)
  have h2 := bits_and_u64_nat (wd x (i / 64) / 2 ^ (i % 64)) 1 h1 (by decide)
  rw [shr_nat]
  have h3 : bits BinOp.and IntKind.u64 ((wd x (i / 64) / 2 ^ (i % 64) : Nat) : Int) 1 = ((wd x (i / 64) / 2 ^ (i % 64) &&& 1 : Nat) : Int) := h2
  rw [h3, Nat.and_one_is_mod, wd_has]
  cases x.getD i false <;> rfl
theorem bits_xor_u64_nat (a b : Nat) (ha : a < 18446744073709551616) (hb : b < 18446744073709551616) : bits BinOp.xor IntKind.u64 (a : Int) (b : Int) = ((a ^^^ b : Nat) : Int) := by
  have hx : a ^^^ b < 2 ^ 64 := Nat.xor_lt_two_pow (by omega) (by omega)
  have h1 : (BitVec.ofInt 64 (a : Int)).toNat = a := by
    rw [BitVec.ofInt_natCast, BitVec.toNat_ofNat]; exact Nat.mod_eq_of_lt (by omega)
  have h2 : (BitVec.ofInt 64 (b : Int)).toNat = b := by
    rw [BitVec.ofInt_natCast, BitVec.toNat_ofNat]; exact Nat.mod_eq_of_lt (by omega)
  show IntKind.u64.wrap ((BitVec.ofInt 64 (a : Int) ^^^ BitVec.ofInt 64 (b : Int)).toNat : Int) = _
  rw [BitVec.toNat_xor, h1, h2, IntKind.wrap_u64]
  omega
theorem pow_lt64 {s : Nat} (h : s < 64) : 2 ^ s < 18446744073709551616 := by
  have : 2 ^ s < 2 ^ 64 := Nat.pow_lt_pow_right (by decide) h
  simpa using this

theorem phas_no (b : Nat) (i : Int) (x : List Bool) (A : Option Addr) (c : Nat) (w : World) (h : PIn w b x A c) (hi : i < 0 ∨ x.length ≤ i) :
    Calls Tryz.prog 115 #[.pointer (some ⟨b, 0, none⟩), .int .i64 i] w fun e w' => e = .returned (.bool false) ∧ w = w' := by
  have H := Lib.hid (And.intro h hi)
  clear h hi
  go_enter Tryz.func115, Tryz.ntmps115
  go_wp2_with (go_at_call 114; refine (pin_no b i x A c _ H.out.1 H.out.2).mono ?_; rintro e w1 ⟨rfl, rfl⟩)
  go_ret
  exact ⟨rfl, rfl⟩

set_option maxHeartbeats 800000 in
theorem phas_yes (b i : Nat) (x : List Bool) (A : Option Addr) (c : Nat) (w : World) (h : PIn w b x A c) (hi : i < x.length) (hl : x.length ≤ 65536) :
    Calls Tryz.prog 115 #[.pointer (some ⟨b, 0, none⟩), .int .i64 i] w fun e w' => e = .returned (.bool (x.getD i false)) ∧ w = w' := by
  obtain ⟨c0, f0, s0⟩ := h.blk.facts
  have hnw := in_nw hi
  have hnl := nw_le x
  obtain ⟨g, rfl, hg, hgb, d0, fr⟩ := h.word hnw
  have t1 : (0 : Int) ≤ ((i / 64 : Nat) : Int) := by omega
  have H := Lib.hid (And.intro h hi)
  clear h
  go_enter Tryz.func115, Tryz.ntmps115
  go_wp2_with (go_at_call 114; refine (pin_yes b i x _ c _ H.out.1 H.out.2).mono ?_; rintro e w1 ⟨rfl, rfl⟩)
  go_ret
  exact ⟨congrArg (fun v => Ending.returned (.bool v)) has_eq, rfl⟩

theorem own_word {w : World} {base g c n s j : Nat} {e : TypeId} {xs : List Value} (h : w.ownsRow base e s (.slice (some ⟨g, 0, none⟩) n c) n xs) (u : Value) :
    (w.setCell ⟨g, j, none⟩ u).ownsRow base e s (.slice (some ⟨g, 0, none⟩) n c) n (xs.set j u) := by
  obtain ⟨cur, hb, hgc, hnc, hcm, hcs, htake, hxl⟩ := own_row h
  refine ⟨by rw [List.length_set]; exact h.1, .inr ⟨g, c, cur.setIfInBounds j u, rfl, hb, ?_, hnc, hcm, by simpa using hcs, ?_⟩⟩
  · simp [World.setCell, Array.getElem?_modify, hgc]
  · rw [← htake]
    simp [List.take_set]

/-- The pool in which a number has turned. -/
def trn (x : List Bool) (i : Nat) : List Bool := x.set i (!x.getD i false)

set_option maxHeartbeats 800000 in
theorem pturn_any (b i : Nat) (x : List Bool) (A : Option Addr) (c : Nat) (w : World) (h : PIn w b x A c) (hi : i < x.length) (hl : x.length ≤ 65536) :
    Calls Tryz.prog 103 #[.pointer (some ⟨b, 0, none⟩), .int .i64 i] w fun e w' => e = .returned (.tuple #[]) ∧ PIn w' b (trn x i) A c ∧ Chg (PF b A) w w' := by
  obtain ⟨c0, f0, s0⟩ := h.blk.facts
  have hnw := in_nw hi
  have hnl := nw_le x
  obtain ⟨g, rfl, hg, hgb, d0, fr⟩ := h.word hnw
  have t1 : (0 : Int) ≤ ((i / 64 : Nat) : Int) := by omega
  have H := Lib.hid (And.intro h hi)
  clear h
  go_enter Tryz.func103, Tryz.ntmps103
  go_wp2
  go_region
  refine bodyPost_end (results_none rfl _ _ _) rfl ?_
  have e1 : bits BinOp.xor IntKind.u64 ((wd x (i / 64) : Nat) : Int) (IntKind.u64.wrap (2 ^ (i % 64))) = ((wd x (i / 64) ^^^ 2 ^ (i % 64) : Nat) : Int) := by
    have hp := pow_lt64 (s := i % 64) (by omega)
    rw [show (2 : Int) ^ (i % 64) = ((2 ^ (i % 64) : Nat) : Int) from (Int.natCast_pow 2 (i % 64)).symm, wrapU hp, bits_xor_u64_nat _ _ (wd_lt _ _) hp]
  rw [e1]
  obtain ⟨W, hW⟩ : ∃ W, (w.setCell ⟨g, i / 64, none⟩ (.int .u64 ((wd x (i / 64) ^^^ 2 ^ (i % 64) : Nat) : Int))).drew = W := ⟨_, rfl⟩
  rw [hW]
  have hc : Chg (fun j => j = g) w W := hW ▸ ((Chg.refl (fun j => j = g) w).setCell (p := ⟨g, i / 64, none⟩) (fun _ => rfl) _).drew
  have ho := own_word (j := i / 64) H.out.1.own (.int .u64 ((wd x (i / 64) ^^^ 2 ^ (i % 64) : Nat) : Int))
  rw [wds_turn hi] at ho
  have ho2 := own_chg (F := NoF) ho ((Chg.refl NoF _).drew) (fun _ _ => id)
  rw [hW] at ho2
  have hn : nw (trn x i) = nw x := nw_set _ _ _
  refine ⟨rfl, ⟨?_, by rw [hn]; exact ho2⟩, hc.mono fun j _ e => .inr ⟨_, rfl, e⟩⟩
  rw [hn, show (trn x i).length = x.length from List.length_set]
  exact H.out.1.blk.chg hc (Ne.symm hgb)

end Go.Proofs.YtjkkoogfaibhiaaGreatDoor

/- The pool: Next, Free, Take. -/
namespace Go.Proofs.YtjkkoogfaibhiaaGreatDoor
open Go.RowKit

/-- What Next tells. -/
def oI : Option Nat → Int
  | some j => j
  | none => 0
def oB : Option Nat → Bool
  | some _ => true
  | none => false

def tab : List Nat := Lib.deBruijn64tab

set_option maxRecDepth 100000 in
set_option maxHeartbeats 1600000 in
theorem pnext_nat (b i : Nat) (x : List Bool) (A : Option Addr) (c : Nat) (w : World) (h : PIn w b x A c) (hl : x.length ≤ 65536) (hi : (i : Int) ≤ 9223372036854775807) (hT : TabAt 0 tab w) :
    Calls Tryz.prog 102 #[.pointer (some ⟨b, 0, none⟩), .int .i64 i] w fun e w' => e = .returned (.tuple #[.int .i64 (oI (nxt x i)), .bool (oB (nxt x i))]) ∧ w = w' := by
  obtain ⟨v, hv⟩ : ∃ v, nxt x i = v := ⟨_, rfl⟩
  rw [hv]
  have HV := Lib.hid hv
  obtain ⟨c0, f0, s0⟩ := h.blk.facts
  have hnl := nw_le x
  have H := Lib.hid (And.intro h hT)
  have t0 : (0 : Int) ≤ (i : Int) := by omega
  clear h hT hv
  go_enter Tryz.func102, Tryz.ntmps102
  go_wp2
  go_loop [6] (fun v => ∃ k : Nat, v = .int .i64 k ∧ i / 64 ≤ k ∧ (k ≤ nw x ∨ k = i / 64) ∧ ∀ m, i ≤ m → m < 64 * k → x.getD m false = false) (fun v => nw x - (intOf v).toNat)
  case atStart => exact ⟨i / 64, by simp, Nat.le_refl _, .inr rfl, fun m h1 h2 => absurd h1 (by omega)⟩
  case round =>
    obtain ⟨k, rfl, hik, hk, hno⟩ := hrel
    have HN := Lib.hid hno
    clear hno hk
    by_cases hlt : k < nw x
    · obtain ⟨g, rfl, hg, hgb, d0, fr⟩ := H.out.1.word hlt
      by_cases he : k = i / 64
      · subst he
        obtain ⟨W, hW⟩ : ∃ W, wd x (i / 64) / 2 ^ (i % 64) * 2 ^ (i % 64) = W := ⟨_, rfl⟩
        have hWl : W < 18446744073709551616 := hW ▸ low_off_lt (wd_lt _ _)
        have key : IntKind.u64.wrap ((wd x (i / 64) : Nat) / 2 ^ (i % 64) * 2 ^ (i % 64) : Int) = (W : Int) := by
          rw [shr_nat, show (2 : Int) ^ (i % 64) = ((2 ^ (i % 64) : Nat) : Int) from (Int.natCast_pow 2 (i % 64)).symm, ← Int.natCast_mul, hW, wrapU hWl]
        have hw : W = if i / 64 = i / 64 then wd x (i / 64) / 2 ^ (i % 64) * 2 ^ (i % 64) else wd x (i / 64) := by rw [if_pos rfl, hW]
        by_cases h0 : W = 0
        · have t2 : ((W : Int) != 0) = false := by simp [h0]
          have hn2 := Lib.hid (nxt_miss HN.out (Nat.le_refl _) hw h0)
          clear h0 hw hW HN
          go_wp2
          exact ⟨⟨i / 64 + 1, by simp, by omega, .inl (by omega), hn2.out⟩, by simp [intOf]; omega⟩
        · have t2 : ((W : Int) != 0) = true := by rw [bne_iff_ne]; omega
          obtain ⟨-, hn2⟩ := nxt_hit HN.out (Nat.le_refl _) hlt hw h0
          have hc := ctz_bits h0 hWl
          have c1 : Lib.ctz 64 W < 64 := hc.1
          have H0 := Lib.hid h0
          have H2 := Lib.hid hn2
          clear h0 hw hW HN hn2 hc
          go_wp2_with (go_at_call 128; refine (tz_any W hWl H0.out _ H.out.2).mono ?_; rintro e w1 ⟨rfl, rfl⟩)
          go_ret2
          refine ⟨?_, rfl⟩
          rw [← HV.out, H2.out]
          simp [oI, oB]
          omega
      · have t1 : ((k : Int) == (i : Int) / 64) = false := by rw [beq_eq_false_iff_ne]; omega
        obtain ⟨W, hW⟩ : ∃ W, wd x k = W := ⟨_, rfl⟩
        have hWl : W < 18446744073709551616 := hW ▸ wd_lt _ _
        have hw : W = if k = i / 64 then wd x k / 2 ^ (i % 64) * 2 ^ (i % 64) else wd x k := by rw [if_neg he, hW]
        rw [hW] at d0
        by_cases h0 : W = 0
        · have t2 : ((W : Int) != 0) = false := by simp [h0]
          have hn2 := Lib.hid (nxt_miss HN.out hik hw h0)
          clear h0 hw hW HN he
          go_wp2
          exact ⟨⟨k + 1, by simp, by omega, .inl (by omega), hn2.out⟩, by simp [intOf]; omega⟩
        · have t2 : ((W : Int) != 0) = true := by rw [bne_iff_ne]; omega
          obtain ⟨-, hn2⟩ := nxt_hit HN.out hik hlt hw h0
          have hc := ctz_bits h0 hWl
          have c1 : Lib.ctz 64 W < 64 := hc.1
          have H0 := Lib.hid h0
          have H2 := Lib.hid hn2
          clear h0 hw hW HN hn2 hc he
          go_wp2_with (go_at_call 128; refine (tz_any W hWl H0.out _ H.out.2).mono ?_; rintro e w1 ⟨rfl, rfl⟩)
          go_ret2
          refine ⟨?_, rfl⟩
          rw [← HV.out, H2.out]
          simp [oI, oB]
          omega
    · have hn2 := Lib.hid (nxt_end HN.out (by omega : nw x ≤ k))
      have t1 : decide ((k : Int) < (nw x : Int)) = false := decide_eq_false (by omega)
      clear HN
      go_wp2
      go_ret2
      refine ⟨?_, rfl⟩
      rw [← HV.out, hn2.out]
      rfl

end Go.Proofs.YtjkkoogfaibhiaaGreatDoor

/- The pool: Free, Take, Mark, Give. -/
namespace Go.Proofs.YtjkkoogfaibhiaaGreatDoor
open Go.RowKit

theorem ones_wd (x : List Bool) (k : Nat) (w : World) :
    Calls Tryz.prog 152 #[.int .u64 (wd x k)] w fun e w' => e = .returned (.int .i64 (cntN (fun j => x.getD (64 * k + j) false) 64 : Nat)) ∧ w = w' := ones_any (fun j => x.getD (64 * k + j) false) w

set_option maxHeartbeats 800000 in
theorem pfree_any (b : Nat) (x : List Bool) (A : Option Addr) (c : Nat) (w : World) (h : PIn w b x A c) (hl : x.length ≤ 65536) :
    Calls Tryz.prog 127 #[.pointer (some ⟨b, 0, none⟩)] w fun e w' => e = .returned (.int .i64 (cnt x)) ∧ w = w' := by
  obtain ⟨c0, f0, s0⟩ := h.blk.facts
  have hnl := nw_le x
  have H := Lib.hid h
  clear h
  go_enter Tryz.func127, Tryz.ntmps127
  go_wp2
  go_loop [3, 11] (fun n i => ∃ k : Nat, k ≤ nw x ∧ i = .int .i64 k ∧ n = .int .i64 (cntN (fun j => x.getD j false) (64 * k) : Nat)) (fun _ i => nw x - (intOf i).toNat)
  case atStart => exact ⟨0, by omega, rfl, rfl⟩
  case round =>
    obtain ⟨k, hk, rfl, rfl⟩ := hrel
    by_cases hlt : k < nw x
    · obtain ⟨g, rfl, hg, hgb, d0, fr⟩ := H.out.word hlt
      have b1 := cntN_le (fun j => x.getD j false) (64 * k)
      have b2 := cntN_le (fun j => x.getD (64 * k + j) false) 64
      have hst := Lib.hid (cnt_word x k)
      obtain ⟨n1, hn1⟩ : ∃ n1, cntN (fun j => x.getD j false) (64 * k) = n1 := ⟨_, rfl⟩
      have Hn1 := Lib.hid hn1
      rw [hn1] at b1 ⊢
      obtain ⟨n2, hn2⟩ : ∃ n2, cntN (fun j => x.getD (64 * k + j) false) 64 = n2 := ⟨_, rfl⟩
      have ho := ones_wd x k
      rw [hn2] at b2 ho
      have Ho := Lib.hid ho
      have Hn2 := Lib.hid hn2
      clear hn1 hn2 ho
      go_wp2_with (go_at_call 152; refine (Ho.out _).mono ?_; rintro e w1 ⟨rfl, rfl⟩)
      exact ⟨⟨k + 1, by omega, by simp, by rw [hst.out, Hn1.out, Hn2.out]; simp⟩, by simp [intOf]; omega⟩
    · obtain rfl : k = nw x := by omega
      have hst := Lib.hid (cnt_words x)
      rw [hst.out]
      go_wp2
      go_ret
      exact ⟨rfl, rfl⟩

set_option maxHeartbeats 800000 in
theorem ptake_none (b : Nat) (x : List Bool) (A : Option Addr) (c : Nat) (w : World) (h : PIn w b x A c) (hl : x.length ≤ 65536) (hT : TabAt 0 tab w) (hx : nxt x 0 = none) :
    Calls Tryz.prog 73 #[.pointer (some ⟨b, 0, none⟩)] w fun e w' => e = .returned (.tuple #[.int .i64 0, .int .i64 21]) ∧ w = w' := by
  have hn := pnext_nat b 0 x A c w h hl (by omega) hT
  rw [hx] at hn
  have Hn := Lib.hid hn
  clear hn h hT hx
  go_enter Tryz.func73, Tryz.ntmps73
  go_wp2_with (go_at_call 102; refine Hn.out.mono ?_; rintro e w1 ⟨rfl, rfl⟩; simp only [oI, oB])
  go_ret2
  exact ⟨rfl, rfl⟩
set_option maxHeartbeats 800000 in
theorem ptake_some (b j : Nat) (x : List Bool) (A : Option Addr) (c : Nat) (w : World) (h : PIn w b x A c) (hl : x.length ≤ 65536) (hT : TabAt 0 tab w) (hx : nxt x 0 = some j) :
    Calls Tryz.prog 73 #[.pointer (some ⟨b, 0, none⟩)] w fun e w' => e = .returned (.tuple #[.int .i64 j, .int .i64 0]) ∧ PIn w' b (trn x j) A c ∧ Chg (PF b A) w w' := by
  have hn := pnext_nat b 0 x A c w h hl (by omega) hT
  rw [hx] at hn
  have hj := (nxt_some.1 hx).2.1
  have H := Lib.hid (And.intro h (And.intro hn hj))
  clear hn h hT hx
  go_enter Tryz.func73, Tryz.ntmps73
  go_wp2_with (first
    | (go_at_call 102; refine H.out.2.1.mono ?_; rintro e w1 ⟨rfl, rfl⟩; simp only [oI, oB])
    | (go_at_call 103; refine (pturn_any b j x A c _ H.out.1 H.out.2.2 hl).mono ?_; rintro e w2 ⟨rfl, hp2, hc2⟩; have H2 := Lib.hid (And.intro hp2 hc2); clear hp2 hc2))
  go_ret2
  exact ⟨rfl, H2.out.1, H2.out.2⟩

set_option maxHeartbeats 800000 in
theorem pto_out (b : Nat) (i : Int) (v : Bool) (x : List Bool) (A : Option Addr) (c : Nat) (w : World) (h : PIn w b x A c) (hi : i < 0 ∨ x.length ≤ i) :
    Calls Tryz.prog 84 #[.pointer (some ⟨b, 0, none⟩), .int .i64 i, .bool v] w fun e w' => e = .returned (.int .i64 11) ∧ w = w' := by
  have H := Lib.hid (And.intro h hi)
  clear h hi
  go_enter Tryz.func84, Tryz.ntmps84
  go_wp2_with (go_at_call 114; refine (pin_no b i x A c _ H.out.1 H.out.2).mono ?_; rintro e w1 ⟨rfl, rfl⟩)
  go_ret
  exact ⟨rfl, rfl⟩
set_option maxHeartbeats 800000 in
theorem pto_state (b i : Nat) (v : Bool) (x : List Bool) (A : Option Addr) (c : Nat) (w : World) (h : PIn w b x A c) (hl : x.length ≤ 65536) (hi : i < x.length) (hx : x.getD i false = v) :
    Calls Tryz.prog 84 #[.pointer (some ⟨b, 0, none⟩), .int .i64 i, .bool v] w fun e w' => e = .returned (.int .i64 23) ∧ w = w' := by
  have hh := phas_yes b i x A c w h hi hl
  rw [hx] at hh
  have H := Lib.hid (And.intro h (And.intro hi hh))
  have t1 : (v == v) = true := by simp
  clear h hi hx hh
  go_enter Tryz.func84, Tryz.ntmps84
  go_wp2_with (first
    | (go_at_call 114; refine (pin_yes b i x A c _ H.out.1 H.out.2.1).mono ?_; rintro e w1 ⟨rfl, rfl⟩)
    | (go_at_call 115; refine H.out.2.2.mono ?_; rintro e w1 ⟨rfl, rfl⟩))
  go_ret
  exact ⟨rfl, rfl⟩
set_option maxHeartbeats 800000 in
theorem pto_turn (b i : Nat) (v : Bool) (x : List Bool) (A : Option Addr) (c : Nat) (w : World) (h : PIn w b x A c) (hl : x.length ≤ 65536) (hi : i < x.length) (hx : x.getD i false = !v) :
    Calls Tryz.prog 84 #[.pointer (some ⟨b, 0, none⟩), .int .i64 i, .bool v] w fun e w' => e = .returned (.int .i64 0) ∧ PIn w' b (trn x i) A c ∧ Chg (PF b A) w w' := by
  have hh := phas_yes b i x A c w h hi hl
  rw [hx] at hh
  have H := Lib.hid (And.intro h (And.intro hi hh))
  have t1 : ((!v) == v) = false := by cases v <;> rfl
  clear h hi hx hh
  go_enter Tryz.func84, Tryz.ntmps84
  go_wp2_with (first
    | (go_at_call 114; refine (pin_yes b i x A c _ H.out.1 H.out.2.1).mono ?_; rintro e w1 ⟨rfl, rfl⟩)
    | (go_at_call 115; refine H.out.2.2.mono ?_; rintro e w1 ⟨rfl, rfl⟩)
    | (go_at_call 103; refine (pturn_any b i x A c _ H.out.1 H.out.2.1 hl).mono ?_; rintro e w2 ⟨rfl, hp2, hc2⟩; have H2 := Lib.hid (And.intro hp2 hc2); clear hp2 hc2))
  go_ret
  exact ⟨rfl, H2.out.1, H2.out.2⟩

/-- What Mark, Give make of a pool, and their answer. -/
def toL (x : List Bool) (i : Int) (v : Bool) : List Bool × Int :=
  if i < 0 ∨ x.length ≤ i then (x, 11) else if x.getD i.toNat false = v then (x, 23) else (trn x i.toNat, 0)

theorem pto_any (b : Nat) (i : Int) (v : Bool) (x : List Bool) (A : Option Addr) (c : Nat) (w : World) (h : PIn w b x A c) (hl : x.length ≤ 65536) :
    Calls Tryz.prog 84 #[.pointer (some ⟨b, 0, none⟩), .int .i64 i, .bool v] w fun e w' => e = .returned (.int .i64 (toL x i v).2) ∧ PIn w' b (toL x i v).1 A c ∧ Chg (PF b A) w w' := by
  unfold toL
  by_cases h1 : i < 0 ∨ x.length ≤ i
  · rw [if_pos h1]
    exact (pto_out b i v x A c w h h1).mono fun e w' ⟨he, hw⟩ => ⟨he, hw ▸ h, hw ▸ Chg.refl _ _⟩
  · obtain ⟨k, rfl⟩ := Int.eq_ofNat_of_zero_le (show 0 ≤ i by omega)
    rw [if_neg h1, Int.toNat_natCast]
    by_cases h2 : x.getD k false = v
    · rw [if_pos h2]
      exact (pto_state b k v x A c w h hl (by omega) h2).mono fun e w' ⟨he, hw⟩ => ⟨he, hw ▸ h, hw ▸ Chg.refl _ _⟩
    · rw [if_neg h2]
      exact pto_turn b k v x A c w h hl (by omega) (by revert h2; cases x.getD k false <;> cases v <;> simp)
theorem pmark_any (b : Nat) (i : Int) (x : List Bool) (A : Option Addr) (c : Nat) (w : World) (h : PIn w b x A c) (hl : x.length ≤ 65536) :
    Calls Tryz.prog 55 #[.pointer (some ⟨b, 0, none⟩), .int .i64 i] w fun e w' => e = .returned (.int .i64 (toL x i false).2) ∧ PIn w' b (toL x i false).1 A c ∧ Chg (PF b A) w w' := by
  have H := Lib.hid h
  clear h
  go_enter Tryz.func55, Tryz.ntmps55
  go_wp2_with (go_at_call 84; refine (pto_any b i false x A c _ H.out hl).mono ?_; rintro e w1 ⟨rfl, h1, h2⟩; have H2 := Lib.hid (And.intro h1 h2); clear h1 h2)
  go_ret
  exact ⟨rfl, H2.out.1, H2.out.2⟩
theorem pgive_any (b : Nat) (i : Int) (x : List Bool) (A : Option Addr) (c : Nat) (w : World) (h : PIn w b x A c) (hl : x.length ≤ 65536) :
    Calls Tryz.prog 48 #[.pointer (some ⟨b, 0, none⟩), .int .i64 i] w fun e w' => e = .returned (.int .i64 (toL x i true).2) ∧ PIn w' b (toL x i true).1 A c ∧ Chg (PF b A) w w' := by
  have H := Lib.hid h
  clear h
  go_enter Tryz.func48, Tryz.ntmps48
  go_wp2_with (go_at_call 84; refine (pto_any b i true x A c _ H.out hl).mono ?_; rintro e w1 ⟨rfl, h1, h2⟩; have H2 := Lib.hid (And.intro h1 h2); clear h1 h2)
  go_ret
  exact ⟨rfl, H2.out.1, H2.out.2⟩

end Go.Proofs.YtjkkoogfaibhiaaGreatDoor

/- The pool: New. -/
namespace Go.Proofs.YtjkkoogfaibhiaaGreatDoor
open Go.RowKit

/-- All free. -/
def full (n : Nat) : List Bool := List.replicate n true
theorem full_len (n : Nat) : (full n).length = n := List.length_replicate
theorem full_at (n i : Nat) : (full n).getD i false = decide (i < n) := by
  unfold full
  rw [List.getD_eq_getElem?_getD, List.getElem?_replicate]
  by_cases h : i < n <;> simp [h]
theorem wd_full {n k m : Nat} (h : m = if n - 64 * k < 64 then n - 64 * k else 64) : wd (full n) k = 2 ^ m - 1 := by
  apply Nat.eq_of_testBit_eq
  intro j
  rw [wd_bit, full_at, Nat.testBit_two_pow_sub_one]
  by_cases hj : j < 64
  · simp only [hj, decide_true, Bool.true_and]
    refine decide_eq_decide.2 ?_
    split at h <;> omega
  · have : ¬ j < m := by split at h <;> omega
    simp [hj, this]
theorem wds_take {x : List Bool} {k : Nat} (hk : k < nw x) : (wds x).take (k + 1) = (wds x).take k ++ [.int .u64 (wd x k)] := by
  rw [List.take_add_one, wds_at hk]; rfl

theorem u64Info : (Tryz.prog.info? 130).map (fun i => (i.zero, i.size, i.bytes)) = some (some (.int .u64 0), 1, 8) := by kernel_rfl

theorem pnew_nil (n : Int) (w : World) (h : n < 0 ∨ 65536 < n) :
    Calls Tryz.prog 54 #[.int .i64 n] w fun e w' => e = .returned (.pointer none) ∧ w = w' := by
  by_cases h1 : n < 0
  · clear h
    go_enter Tryz.func54, Tryz.ntmps54
    go_wp2
    go_ret
    exact ⟨rfl, rfl⟩
  · have h2 : 65536 < n := by omega
    clear h
    go_enter Tryz.func54, Tryz.ntmps54
    go_wp2
    go_ret
    exact ⟨rfl, rfl⟩

/-- What New leaves. -/
def PMade (w w' : World) (n : Nat) (e : Ending) : Prop := ∃ A c, e = .returned (.pointer (some ⟨w.heap.size, 0, none⟩)) ∧ PIn w' w.heap.size (full n) A c ∧ Grew w w' ∧ ∀ j, PF w.heap.size A j → w.heap.size ≤ j

set_option maxRecDepth 100000 in
set_option maxHeartbeats 1600000 in
theorem pnew_any (n : Nat) (w : World) (h : n ≤ 65536) :
    Calls Tryz.prog 54 #[.int .i64 n] w fun e w' => PMade w w' n e := by
  obtain ⟨i0, hi0, hz0, hz1, hz2⟩ := info_parts u64Info
  obtain ⟨x, hx⟩ : ∃ x, full n = x := ⟨_, rfl⟩
  have hxl : x.length = n := hx ▸ full_len n
  have hnw : nw x = (n + 63) / 64 := by unfold nw; rw [hxl]
  have HX := Lib.hid (And.intro hx (And.intro hxl hnw))
  have hB := Lib.hid (Blk.new w 129 #[.int .i64 n, .slice none 0 0])
  clear hx hxl hnw
  go_enter Tryz.func54, Tryz.ntmps54
  go_wp2
  go_loopw [4] (fun at_ wr => ∃ (k : Nat) (A : Option Addr) (c : Nat), at_ = .int .i64 (64 * (k : Int)) ∧ k ≤ (n + 63) / 64 ∧ Blk wr w.heap.size 129 #[.int .i64 n, .slice A k c] ∧ wr.ownsRow (w.heap.size + 1) 130 1 (.slice A k c) k ((wds x).take k) ∧ Grew w wr) (fun at_ _ => n - (intOf at_).toNat)
  case atStart => exact ⟨0, none, 0, rfl, by omega, hB.out, World.ownsRow_nil _ _ _ _, (Chg.refl _ _).alloc _⟩
  case round =>
    obtain ⟨k, A1, c1, rfl, hk, hb, hown, hg⟩ := hrel
    obtain ⟨c0, f0, s0⟩ := hb.facts
    have hsz := hg.size
    have HB := Lib.hid (And.intro hb (And.intro hown hg))
    clear hb hown hg
    by_cases hlt : 64 * k < n
    · have t1 : decide (64 * (k : Int) < (n : Int)) = true := decide_eq_true (by omega)
      obtain ⟨m, hm⟩ : ∃ m, n - 64 * k = m := ⟨_, rfl⟩
      have hmi : (n : Int) - 64 * (k : Int) = (m : Int) := by omega
      have hkn : k < nw x := by rw [HX.out.2.2]; omega
      by_cases hm64 : m < 64
      · have t2 : decide ((m : Int) < 64) = true := decide_eq_true (by omega)
        have hw := wd_full (n := n) (k := k) (m := m) (by rw [hm, if_pos hm64])
        rw [HX.out.1] at hw
        have hp := pow_lt64 hm64
        have hp1 : 1 ≤ 2 ^ m := Nat.one_le_two_pow
        have key : IntKind.u64.wrap (IntKind.u64.wrap ((2 : Int) ^ m) - 1) = (wd x k : Int) := by
          rw [show (2 : Int) ^ m = ((2 ^ m : Nat) : Int) from (Int.natCast_pow 2 m).symm, wrapU hp, show ((2 ^ m : Nat) : Int) - 1 = ((2 ^ m - 1 : Nat) : Int) by omega, wrapU (by omega), hw]
        have Hw := Lib.hid (And.intro hw (And.intro hp (And.intro hp1 hm)))
        clear hw hp hp1 hm
        have hb1 := HB.out.1.lt
        go_wp2_with (at_builtin; refine wpList_append_lies _ rfl _ _ _ rfl (w.heap.size + 1) 130 i0 _ 1 8 Tryz.underlying127 hi0 hz0 hz1 hz2 rfl (by omega) (.slice A1 k c1) k ((wds x).take k) rfl (HB.out.2.1.alloc _) ⟨wr.heap.size, 0, none⟩ 1 1 [.int .u64 (wd x k)] rfl rfl (World.news_of_block (cs := #[.int .u64 (wd x k)]) (t := 130) (fr := (0, 0)) (heap_alloc_new wr _)) (by simp [Value.oneCell']) (by omega) (by simp only [maxLen]; omega) (by omega) (by simp; omega) (wr.heap.size + 1) (by simp) ?_; intro g cap w1 hown1 hgrow hat hlt1; have HO1 := Lib.hid hown1; have HG1 := Lib.hid (And.intro hgrow hat); have hbw := (HB.out.1.alloc _).grown hgrow (fun e => by have := (HB.out.2.1.lt _ e.symm).1; omega); clear hown1 hgrow hat c0 f0 s0; obtain ⟨c0, f0, s0⟩ := hbw.facts; have HBW := Lib.hid hbw; clear hbw)
        have hg1 : Grew w w1 := (HB.out.2.2.alloc _).grown HG1.out.1 (fun j hj hlt => by have := (HB.out.2.1.lt j hj).1; omega)
        have hO := HO1.out
        rw [← wds_take hkn] at hO
        have hgb : g ≠ w.heap.size := fun e => by have := (hO.lt g rfl).1; omega
        have hcw : Chg (fun j => j = w.heap.size) w1 (w1.setCell ⟨w.heap.size, 1, none⟩ (.slice (some ⟨g, 0, none⟩) (k + 1) cap)) := (Chg.refl (fun j => j = w.heap.size) w1).setCell (p := ⟨w.heap.size, 1, none⟩) (fun _ => rfl) _
        refine ⟨⟨k + 1, some ⟨g, 0, none⟩, cap, by simp; omega, by omega, ?_, own_chg hO hcw (fun j hj e => hgb (by simp [Value.ownBlock] at hj; omega)), Chg.trans hg1 hcw fun i hi e => by omega⟩, by simp [intOf]; omega⟩
        have := HBW.out.put 1 (.slice (some ⟨g, 0, none⟩) (k + 1) cap)
        simpa using this
      · have t2 : decide ((m : Int) < 64) = false := decide_eq_false (by omega)
        have hw := Lib.hid (show wd x k = 18446744073709551615 by rw [← HX.out.1]; exact wd_full (n := n) (k := k) (m := 64) (by rw [hm, if_neg hm64]))
        clear hm64
        have hb1 := HB.out.1.lt
        go_wp2_with (at_builtin; refine wpList_append_lies _ rfl _ _ _ rfl (w.heap.size + 1) 130 i0 _ 1 8 Tryz.underlying127 hi0 hz0 hz1 hz2 rfl (by omega) (.slice A1 k c1) k ((wds x).take k) rfl (HB.out.2.1.alloc _) ⟨wr.heap.size, 0, none⟩ 1 1 [.int .u64 18446744073709551615] rfl rfl (World.news_of_block (cs := #[.int .u64 18446744073709551615]) (t := 130) (fr := (0, 0)) (heap_alloc_new wr _)) (by simp [Value.oneCell']) (by omega) (by simp only [maxLen]; omega) (by omega) (by simp; omega) (wr.heap.size + 1) (by simp) ?_; intro g cap w1 hown1 hgrow hat hlt1; have HO1 := Lib.hid hown1; have HG1 := Lib.hid (And.intro hgrow hat); have hbw := (HB.out.1.alloc _).grown hgrow (fun e => by have := (HB.out.2.1.lt _ e.symm).1; omega); clear hown1 hgrow hat c0 f0 s0; obtain ⟨c0, f0, s0⟩ := hbw.facts; have HBW := Lib.hid hbw; clear hbw)
        have hg1 : Grew w w1 := (HB.out.2.2.alloc _).grown HG1.out.1 (fun j hj hlt => by have := (HB.out.2.1.lt j hj).1; omega)
        have hO := HO1.out
        rw [show ([Value.int IntKind.u64 18446744073709551615] : List Value) = [.int .u64 (wd x k : Int)] by rw [hw.out]; rfl, ← wds_take hkn] at hO
        have hgb : g ≠ w.heap.size := fun e => by have := (hO.lt g rfl).1; omega
        have hcw : Chg (fun j => j = w.heap.size) w1 (w1.setCell ⟨w.heap.size, 1, none⟩ (.slice (some ⟨g, 0, none⟩) (k + 1) cap)) := (Chg.refl (fun j => j = w.heap.size) w1).setCell (p := ⟨w.heap.size, 1, none⟩) (fun _ => rfl) _
        refine ⟨⟨k + 1, some ⟨g, 0, none⟩, cap, by simp; omega, by omega, ?_, own_chg hO hcw (fun j hj e => hgb (by simp [Value.ownBlock] at hj; omega)), Chg.trans hg1 hcw fun i hi e => by omega⟩, by simp [intOf]; omega⟩
        have := HBW.out.put 1 (.slice (some ⟨g, 0, none⟩) (k + 1) cap)
        simpa using this
    · have t1 : decide (64 * (k : Int) < (n : Int)) = false := decide_eq_false (by omega)
      go_wp2
      go_ret
      have hke : k = nw x := by rw [HX.out.2.2]; omega
      have hB2 := HB.out.1
      have hO := HB.out.2.1
      have hxl := HX.out.2.1
      rw [List.take_of_length_le (by rw [wds_len]; omega)] at hO
      rw [hke] at hB2 hO
      refine ⟨A1, c1, rfl, ?_, HB.out.2.2, ?_⟩
      · rw [HX.out.1]
        exact ⟨by rw [hxl]; exact hB2, own_base hO (Nat.zero_le _)⟩
      · rintro j (rfl | ⟨a, rfl, rfl⟩)
        · omega
        · obtain ⟨g, rfl, -⟩ := own_some hO
          have := (hO.lt g rfl).1
          simp only []
          omega

end Go.Proofs.YtjkkoogfaibhiaaGreatDoor

/- The table that is laid, in a later world. -/
namespace Go.Proofs.YtjkkoogfaibhiaaGreatDoor
open Go.RowKit

theorem tab_chg {F : Nat → Prop} {w w' : World} (h : TabAt 0 tab w) (hc : Chg F w w') (hF : ¬ F 0) : TabAt 0 tab w' := by
  intro j hj
  have h1 := h j hj
  have hlt : 0 < w.heap.size := World.block_lt_of_cell? w _ h1
  exact (hc.cell (p := ⟨0, j, none⟩) hlt hF).trans h1
theorem tab_pos {w : World} (h : TabAt 0 tab w) : 0 < w.heap.size := World.block_lt_of_cell? w _ (h 0 (by decide))


end Go.Proofs.YtjkkoogfaibhiaaGreatDoor

/- A row that is appended to: what changes. No program stands in this text. -/
namespace Go.Proofs.YtjkkoogfaibhiaaGreatDoor
open Go.RowKit

/-- The row v has become v': v's own block alone has changed; where v' lies. -/
structure Ap (w w' : World) (v v' : Value) : Prop where
  chg : Chg (fun j => v.ownBlock = some j) w w'
  at_ : ∀ j, v'.ownBlock = some j → v.ownBlock = some j ∨ w.heap.size ≤ j
theorem Ap.refl (w : World) (v : Value) : Ap w w v v := ⟨Chg.refl _ _, fun _ h => .inl h⟩
theorem Ap.trans {w w1 w2 : World} {v v1 v2 : Value} (h : Ap w w1 v v1) (k : Ap w1 w2 v1 v2) : Ap w w2 v v2 :=
  ⟨Chg.trans h.chg k.chg fun i hi e => (h.at_ i e).resolve_right (by omega), fun j hj => (k.at_ j hj).elim (h.at_ j) fun e => .inr (Nat.le_trans h.chg.size e)⟩
theorem Ap.grew {w w1 w2 : World} {v v1 : Value} (h : Ap w w1 v v1) (k : Grew w1 w2) : Ap w w2 v v1 := ⟨h.chg.grew k, h.at_⟩
theorem Ap.push {w wr W w1 : World} {v v1 v2 : Value} (h : Ap w wr v v1) (hg : Grew wr W) (hb : W.grownBy w1 v1.ownBlock) (ha : v2.ownBlock = v1.ownBlock ∨ v2.ownBlock = some W.heap.size) : Ap w w1 v v2 := by
  have hs := h.chg.size
  have hs1 := hg.size
  refine ⟨(h.chg.grew hg).grown hb fun k hk hlt => (h.at_ k hk).resolve_right (by omega), fun j hj => ?_⟩
  rcases ha with e | e
  · exact h.at_ j (e ▸ hj)
  · rw [e] at hj; cases hj; exact .inr (by omega)
/-- In memory made since w0: all is as it was. -/
theorem Ap.grow {w0 w w' : World} {v v' : Value} (h : Ap w w' v v') (hg : Grew w0 w) (hv : ∀ j, v.ownBlock = some j → w0.heap.size ≤ j) : Grew w0 w' := Chg.trans hg h.chg fun i hi e => by have := hv i e; omega
theorem Ap.new {w0 w w' : World} {v v' : Value} (h : Ap w w' v v') (hg : Grew w0 w) (hv : ∀ j, v.ownBlock = some j → w0.heap.size ≤ j) : ∀ j, v'.ownBlock = some j → w0.heap.size ≤ j := fun j hj => (h.at_ j hj).elim (hv j) fun e => Nat.le_trans hg.size e
end Go.Proofs.YtjkkoogfaibhiaaGreatDoor

/- A drawn region whose last operations may write what its loads read: such an operation, if it waits for a load, owes nothing to it. No program stands in this text. -/
namespace Go.Proofs.YtjkkoogfaibhiaaGreatDoor
open Go.RowKit

section
variable {P : Program} {ops : Array Oper} {Q : Exit → Act → World → Prop} {md : Region.Mode} {S : World → Prop} {X : List Nat}

/-- Every order; S holds behind each operation but those of X. -/
def wpAnyX (P : Program) (md : Region.Mode) (ops : Array Oper) (Q : Exit → Act → World → Prop) (S : World → Prop) (X : List Nat) : Nat → Array Bool → Act → World → Prop
  | 0, listed, a, w => Region.ready md ops listed = [] ∧ Q .normal a w
  | fuel + 1, listed, a, w =>
    (Region.ready md ops listed = [] → Q .normal a w) ∧
    ∀ i ∈ Region.ready md ops listed, wpOp P ops Q i (fun a' w' => (X.contains i = false → S w') ∧ wpAnyX P md ops Q S X fuel (listed.setIfInBounds i true) a' w') a w

theorem wpAnyX_any : ∀ (fuel : Nat) (listed : Array Bool) (a : Act) (w : World), wpAnyX P md ops Q S X fuel listed a w → wpAny P md ops Q fuel listed a w
  | 0, _, _, _, h => h
  | fuel + 1, _, _, _, h => ⟨h.1, fun i hi => wpOp_mono (fun a' w' h' => wpAnyX_any fuel _ a' w' h'.2) (h.2 i hi)⟩

/-- All of X wait for i. -/
def waitsB (md : Region.Mode) (ops : Array Oper) (X : List Nat) (i : Nat) : Bool := X.all fun j => match ops[j]? with
  | some o => o.after.any fun e => Region.binds md e && e.on == i
  | none => true
theorem waits_no {i j : Nat} {oj : Oper} (h : waitsB md ops X i = true) (hj : ops[j]? = some oj) (hno : ∀ e ∈ oj.after, Region.binds md e = true → e.on ≠ i) : X.contains j = false := by
  cases hc : X.contains j with
  | false => rfl
  | true =>
    have hm : j ∈ X := by simpa using hc
    have h1 := List.all_eq_true.1 h j hm
    rw [hj] at h1
    obtain ⟨e, he, hb⟩ := Array.any_eq_true'.1 h1
    simp only [Bool.and_eq_true, beq_iff_eq] at hb
    exact absurd hb.2 (hno e he hb.1)

theorem wpAnyX_first {i : Nat} {oi : Oper} {v : Value} (hi : ops[i]? = some oi) (hsel : ∀ (j : Nat) (o : Oper) cs b, ops[j]? = some o → o.op ≠ .select cs b)
    (hQ : ∀ c a w, Q (.panic c) (a.put oi.dst v) w → Q (.panic c) a w) (hX : waitsB md ops X i = true) (fuel : Nat) : ∀ (listed : Array Bool) (a : Act) (w : World),
      (∀ j oj, ops[j]? = some oj → j ≠ i → listed.getD j true = false → (∀ e ∈ oj.after, Region.binds md e = true → e.on ≠ i) → oi.apart ops oj = true) →
      i ∈ Region.ready md ops listed → YieldsIf P ops S oi v a → S w →
      wpAnyX P md ops Q S X fuel (listed.setIfInBounds i true) (a.put oi.dst v) w → wpAnyX P md ops Q S X (fuel + 1) listed a w := by
  induction fuel with
  | zero =>
    intro listed a w _ hr hy hS H
    refine ⟨fun h => absurd hr (by rw [h]; simp), fun j hj => ?_⟩
    rcases Nat.decEq j i with hji | hji
    · have := ready_mono hj hji
      rw [H.1] at this
      cases this
    · subst hji
      exact hy.wpOp hi hS ⟨fun _ => hS, H⟩
  | succ fuel ih =>
    intro listed a w hfree hr hy hS H
    refine ⟨fun h => absurd hr (by rw [h]; simp), fun j hj => ?_⟩
    rcases Nat.decEq j i with hji | hji
    · obtain ⟨hun, oj, hoj, hall⟩ := mem_ready.1 hj
      have hiun := (mem_ready.1 hr).1
      have hnot : ∀ e ∈ oj.after, Region.binds md e = true → e.on ≠ i := by
        intro e he hb heq
        have hl := hall e he hb
        rw [heq] at hl
        by_cases hsz : i < listed.size
        · simp [hsz] at hiun hl; rw [hiun] at hl; cases hl
        · simp [Array.getElem?_eq_none (Nat.le_of_not_lt hsz)] at hl
      have step := wpOp_putIf hoj (hfree j oj hoj hji hun hnot) (fun cs b => hsel i oi cs b hi) (fun cs b => hsel j oj cs b hoj) hQ hy (H.2 j (ready_mono hj hji))
      have hnx := waits_no (X := X) hX hoj hnot
      refine wpOp_mono (fun a' w' h3 => ?_) step
      have hS' := h3.2.1 hnx
      refine ⟨fun _ => hS', ih (listed.setIfInBounds j true) a' w' (fun k ok hk hki hkun hno => hfree k ok hk hki ?_ hno) (ready_mono hr (Ne.symm hji)) h3.1 hS' (by rw [Array.setIfInBounds_comm _ _ hji]; exact h3.2.2)⟩
      rcases Nat.decEq j k with hjk | hjk
      · rwa [getD_set_ne true hjk] at hkun
      · exact hjk ▸ hun
    · subst hji
      exact hy.wpOp hi hS ⟨fun _ => hS, H⟩

theorem wpAnyX_take {i : Nat} {oi : Oper} {v : Value} {fuel : Nat} {listed : Array Bool} {a : Act} {w : World} (hi : ops[i]? = some oi)
    (hs : Region.noSelect ops = true) (hf : Region.free md ops listed i = true) (hr : (Region.ready md ops listed).contains i = true) (hX : waitsB md ops X i = true)
    (hQ : ∀ c a w, Q (.panic c) (a.put oi.dst v) w → Q (.panic c) a w) (hy : YieldsIf P ops S oi v a) (hS : S w)
    (h : wpAnyX P md ops Q S X fuel (listed.setIfInBounds i true) (a.put oi.dst v) w) : wpAnyX P md ops Q S X (fuel + 1) listed a w :=
  wpAnyX_first hi (Region.noSelect_spec hs) hQ hX fuel listed a w (Region.free_spec hi hf) (by simpa using hr) hy hS h

def AllReadyX (P : Program) (md : Region.Mode) (ops : Array Oper) (Q : Exit → Act → World → Prop) (S : World → Prop) (X : List Nat) (fuel : Nat) (listed : Array Bool) (a : Act) (w : World) (rs : List Nat) : Prop :=
  ∀ i ∈ rs, wpOp P ops Q i (fun a' w' => (X.contains i = false → S w') ∧ wpAnyX P md ops Q S X fuel (listed.setIfInBounds i true) a' w') a w
theorem AllReadyX.nil {fuel : Nat} {listed : Array Bool} {a : Act} {w : World} : AllReadyX P md ops Q S X fuel listed a w [] := fun _ h => absurd h (by simp)
theorem AllReadyX.cons {fuel : Nat} {listed : Array Bool} {a : Act} {w : World} {i : Nat} {o : Oper} {rs : List Nat} (ho : ops[i]? = some o)
    (h : ∀ K' : Act → World → Prop, Shut (∀ a w, (X.contains i = false → S w) → wpAnyX P md ops Q S X fuel (listed.setIfInBounds i true) a w → K' a w) → if Region.wanted o (yielded ops a.tmps) = true then Oper.wp P o a w K' Q else K' (a.put o.dst undef) w)
    (hs : AllReadyX P md ops Q S X fuel listed a w rs) : AllReadyX P md ops Q S X fuel listed a w (i :: rs) := fun j hj => by
  rcases List.mem_cons.1 hj with rfl | hj
  · exact wpOp_step ho (fun K' hK => h K' (fun a w hS hW => hK a w ⟨hS, hW⟩))
  · exact hs j hj
theorem wpAnyX_ready {rs : List Nat} {fuel : Nat} {listed : Array Bool} {a : Act} {w : World} (hr : Region.ready md ops listed = rs) (hne : rs ≠ [])
    (h : AllReadyX P md ops Q S X fuel listed a w rs) : wpAnyX P md ops Q S X (fuel + 1) listed a w := ⟨fun h0 => absurd (hr ▸ h0) hne, hr ▸ h⟩
theorem wpAnyX_done {listed : Array Bool} {a : Act} {w : World} (hr : Region.ready md ops listed = []) (h : Q .normal a w) : ∀ fuel, wpAnyX P md ops Q S X fuel listed a w
  | 0 => ⟨hr, h⟩
  | _ + 1 => ⟨fun _ => h, by rw [hr]; simp⟩

/-- The beginning. -/
theorem wp_region_x (X : List Nat) {id : Nat} {a : Act} {w : World} (hm : P.follows .mixedOrders = true) (hS : S w.drew)
    (h : S w.drew → wpAnyX P .any ops Q S X ops.size (Array.replicate ops.size false) a w.drew) : (Code.region id ops true).wp P Q a w :=
  wp_region_any hm (wpAnyX_any _ _ _ _ (h hS))
end

end Go.Proofs.YtjkkoogfaibhiaaGreatDoor

/- Numbers in few bytes: turned, appended; Out. -/
namespace Go.Proofs.YtjkkoogfaibhiaaGreatDoor
open Go.RowKit

/-- A number's groups. -/
def grp (u : Nat) : List Int := if h : u < 128 then [(u : Int)] else ((u % 128 + 128 : Nat) : Int) :: grp (u / 128)
termination_by u
decreasing_by omega
theorem grp_small {u : Nat} (h : u < 128) : grp u = [(u : Int)] := by rw [grp]; simp [h]
theorem grp_more {u : Nat} (h : 128 ≤ u) : grp u = ((u % 128 + 128 : Nat) : Int) :: grp (u / 128) := by rw [grp]; simp [show ¬ u < 128 by omega]
theorem grp_byte : ∀ (n u : Nat), u ≤ n → ∀ x ∈ grp u, 0 ≤ x ∧ x ≤ 255
  | 0, u, h, x, hx => by rw [grp_small (by omega)] at hx; simp at hx; omega
  | n + 1, u, h, x, hx => by
    by_cases h1 : u < 128
    · rw [grp_small h1] at hx; simp at hx; omega
    · rw [grp_more (by omega)] at hx
      simp only [List.mem_cons] at hx
      rcases hx with rfl | hx
      · omega
      · exact grp_byte n (u / 128) (by omega) x hx
theorem grp_len : ∀ (n u : Nat), u < 128 ^ n → 0 < n → (grp u).length ≤ n
  | 0, u, h, h0 => by omega
  | n + 1, u, h, _ => by
    by_cases h1 : u < 128
    · rw [grp_small h1]; simp
    · rw [grp_more (by omega), List.length_cons]
      have hn : 0 < n := by
        rcases Nat.eq_zero_or_pos n with rfl | h'
        · simp at h; omega
        · exact h'
      have := grp_len n (u / 128) (by rw [Nat.pow_succ] at h; omega) hn
      omega

theorem turned_any (n : Nat) (w : World) (h : n < 4611686018427387904) :
    Calls Tryz.prog 145 #[.int .i64 n] w fun e w' => e = .returned (.int .u64 ((2 * n : Nat) : Int)) ∧ w = w' := by
  have hx : bits BinOp.xor IntKind.u64 ((n : Int) * 2) ((n : Int) / 9223372036854775808) = ((2 * n : Nat) : Int) := by
    have e0 : (n : Int) / 9223372036854775808 = ((0 : Nat) : Int) := by omega
    have e1 : (n : Int) * 2 = ((2 * n : Nat) : Int) := by omega
    rw [e0, e1, bits_xor_u64_nat _ _ (by omega) (by omega), Nat.xor_zero]
  have HX := Lib.hid hx
  clear hx
  go_enter Tryz.func145, Tryz.ntmps145
  go_wp2
  rw [HX.out]
  go_ret
  exact ⟨rfl, rfl⟩

theorem or_more : ∀ k : Fin 256, bits BinOp.or IntKind.u8 ((k.1 : Nat) : Int) 128 = ((k.1 % 128 + 128 : Nat) : Int) := by decide +kernel
theorem or_byte (u : Nat) : bits BinOp.or IntKind.u8 ((u : Int) % 256) 128 = (u : Int) % 128 + 128 := by
  have := or_more ⟨u % 256, by omega⟩
  rw [show (u : Int) % 256 = ((u % 256 : Nat) : Int) from by omega]
  rw [this]; simp only; omega

/-- What appending a number's groups leaves. -/
def AppOut (w w' : World) (base : Nat) (v : Value) (n : Nat) (xs : List Value) (e : Ending) : Prop := ∃ v', e = .returned v' ∧ w'.ownsRow base 5 1 v' n xs ∧ Ap w w' v v'

set_option maxRecDepth 100000 in
set_option maxHeartbeats 1600000 in
theorem appended_any (base : Nat) (v : Value) (n : Nat) (xs : List Value) (u : Nat) (w : World) (hb : base ≤ w.heap.size) (ho : w.ownsRow base 5 1 v n xs) (hn : n ≤ 1000000) (hu : u < 9223372036854775808) :
    Calls Tryz.prog 144 #[v, .int .u64 u] w fun e w' => AppOut w w' base v (n + (grp u).length) (xs ++ bv (grp u)) e := by
  obtain ⟨i0, hi0, hz0, hz1, hz2⟩ := info_parts u8Info
  have HO := Lib.hid ho
  have hgl := grp_len 10 u (by omega) (by omega)
  obtain ⟨w0, rfl⟩ : ∃ w0 : World, w0 = w := ⟨_, rfl⟩
  clear ho
  go_enter Tryz.func144, Tryz.ntmps144
  go_wp2
  go_loopw [0, 1] (fun b i wr => ∃ (k : Nat) (v' : Value) (pre : List Int), k ≤ u ∧ i = .int .u64 k ∧ v' = b ∧ grp u = pre ++ grp k ∧ wr.ownsRow base 5 1 v' (n + pre.length) (xs ++ bv pre) ∧ Ap w0 wr v v') (fun _ i _ => (intOf i).toNat)
  case atStart => exact ⟨u, v, [], Nat.le_refl _, rfl, rfl, rfl, by simpa [bv] using HO.out, Ap.refl _ _⟩
  case round =>
    obtain ⟨k, v', pre, hk, rfl, rfl, hg, hown, hap⟩ := hrel
    have hpl : pre.length ≤ 10 := by have := congrArg List.length hg; rw [List.length_append] at this; omega
    have H := Lib.hid (And.intro hg (And.intro hown hap))
    have hbs : base ≤ wr.heap.size := by have := hap.chg.size; omega
    have hor := or_byte k
    clear hg hown hap
    by_cases hlt : 128 ≤ k
    · have a1 : (128 : Int) ≤ (k : Int) := by omega
      have h1 : n + pre.length + 1 ≤ maxLen := by simp only [maxLen]; omega
      have h2 : (n + pre.length + 1) * 1 ≤ 140737488355328 := by omega
      have h3 : base ≤ (wr.alloc (.cells #[.int .u8 ((k : Int) % 128 + 128)] 5)).heap.size := by simp; omega
      have h4 : ∀ j q, ([Value.int .u8 ((k : Int) % 128 + 128)])[j]? = some q → (wr.alloc (.cells #[.int .u8 ((k : Int) % 128 + 128)] 5)).cell? ((⟨wr.heap.size, 0, none⟩ : Addr).add j) = some q := by
        intro j q hq
        have := (Blk.new wr 5 #[.int .u8 ((k : Int) % 128 + 128)]).cell j
        rw [Addr.add_lit, Nat.zero_add]
        rw [this]
        simpa using hq
      have K := Lib.hid (And.intro h1 (And.intro h2 (And.intro h3 h4)))
      clear h1 h2 h3 h4
      go_wp2_with (at_builtin; (refine wpList_append_own_at _ rfl _ _ _ rfl base 5 i0 _ 1 1 Tryz.underlying34 hi0 hz0 hz1 hz2 rfl (by omega) v' (n + pre.length) (xs ++ bv pre) rfl (own_grew H.out.2.1 ((Chg.refl _ _).alloc _)) ⟨wr.heap.size, 0, none⟩ 1 1 [.int .u8 ((k : Int) % 128 + 128)] rfl rfl K.out.2.2.2 (by simp [Value.oneCell']) K.out.1 K.out.2.1 K.out.2.2.1 ?_); intro v1 w1 hown1 hgrow hnil hat; have HR := Lib.hid (And.intro hown1 (And.intro hgrow hat)); clear hown1 hgrow hnil hat)
      obtain ⟨A1, c1, rfl, -⟩ := own_shape HR.out.1
      go_wp2
      refine ⟨⟨k / 128, _, pre ++ [(k : Int) % 128 + 128], by omega, by simp, rfl, ?_, ?_, H.out.2.2.push ((Chg.refl _ _).alloc _) HR.out.2.1 HR.out.2.2⟩, by simp [intOf]; omega⟩
      · rw [H.out.1, grp_more hlt]; simp
      · have := HR.out.1
        simpa [bv, Nat.add_assoc] using this
    · have a1 : decide ((128 : Int) ≤ (k : Int)) = false := decide_eq_false (by omega)
      have h1 : n + pre.length + 1 ≤ maxLen := by simp only [maxLen]; omega
      have h2 : (n + pre.length + 1) * 1 ≤ 140737488355328 := by omega
      have h3 : base ≤ (wr.alloc (.cells #[.int .u8 k] 5)).heap.size := by simp; omega
      have h4 : ∀ j q, ([Value.int .u8 k])[j]? = some q → (wr.alloc (.cells #[.int .u8 k] 5)).cell? ((⟨wr.heap.size, 0, none⟩ : Addr).add j) = some q := by
        intro j q hq
        have := (Blk.new wr 5 #[.int .u8 k]).cell j
        rw [Addr.add_lit, Nat.zero_add]
        rw [this]
        simpa using hq
      have K := Lib.hid (And.intro h1 (And.intro h2 (And.intro h3 h4)))
      have hk2 : (k : Int) % 256 = (k : Int) := by omega
      clear h1 h2 h3 h4
      go_wp2_with (at_builtin; (refine wpList_append_own_at _ rfl _ _ _ rfl base 5 i0 _ 1 1 Tryz.underlying34 hi0 hz0 hz1 hz2 rfl (by omega) v' (n + pre.length) (xs ++ bv pre) rfl (own_grew H.out.2.1 ((Chg.refl _ _).alloc _)) ⟨wr.heap.size, 0, none⟩ 1 1 [.int .u8 k] rfl rfl K.out.2.2.2 (by simp [Value.oneCell']) K.out.1 K.out.2.1 K.out.2.2.1 ?_); intro v1 w1 hown1 hgrow hnil hat; have HR := Lib.hid (And.intro hown1 (And.intro hgrow hat)); clear hown1 hgrow hnil hat)
      go_ret
      refine ⟨_, rfl, ?_, H.out.2.2.push ((Chg.refl _ _).alloc _) HR.out.2.1 HR.out.2.2⟩
      have := HR.out.1
      have hg := H.out.1
      rw [grp_small (show k < 128 by omega)] at hg
      rw [hg]
      simpa [bv, Nat.add_assoc] using this

/-- An Out in memory made since w0: its bytes. -/
structure OutS (w0 w : World) (o : Nat) (bs : List Int) (A : Option Addr) (c : Nat) : Prop where
  blk : Blk w o 146 #[.slice A bs.length c]
  own : w.ownsRow w0.heap.size 5 1 (.slice A bs.length c) bs.length (bv bs)
  grew : Grew w0 w
  new : w0.heap.size ≤ o
def OutIs (w0 w : World) (o : Nat) (bs : List Int) : Prop := ∃ A c, OutS w0 w o bs A c
theorem OutIs.on {w0 w w' : World} {o : Nat} {bs : List Int} (h : OutIs w0 w o bs) (hg : Grew w w') : OutIs w0 w' o bs := by
  obtain ⟨A, c, h⟩ := h
  exact ⟨A, c, h.blk.grew hg, own_grew h.own hg, Grew.trans h.grew hg, h.new⟩
theorem OutIs.grew {w0 w : World} {o : Nat} {bs : List Int} (h : OutIs w0 w o bs) : Grew w0 w := by
  obtain ⟨A, c, h⟩ := h
  exact h.grew
theorem OutIs.made (w0 w : World) (h : Grew w0 w) : OutIs w0 (w.alloc (.cells #[.slice none 0 0] 146)) w.heap.size [] :=
  ⟨none, 0, Blk.new _ _ _, World.ownsRow_nil _ _ _ _, h.alloc _, h.size⟩

set_option maxRecDepth 100000 in
set_option maxHeartbeats 1600000 in
theorem oint_any (w0 : World) (o : Nat) (bs : List Int) (n : Nat) (w : World) (h : OutIs w0 w o bs) (hb : bs.length ≤ 900000) (hn : n < 4611686018427387904) :
    Calls Tryz.prog 111 #[.pointer (some ⟨o, 0, none⟩), .int .i64 n] w fun e w' => e = .returned (.pointer (some ⟨o, 0, none⟩)) ∧ OutIs w0 w' o (bs ++ grp (2 * n)) := by
  obtain ⟨A, c, h⟩ := h
  obtain ⟨c0, f0, s0⟩ := h.blk.facts
  have c00 := c0 0
  have f00 := f0 0
  simp only [List.getElem?_toArray, List.getElem?_cons_zero, List.getElem?_cons_succ] at c00
  have H := Lib.hid h
  clear c0 f0 h
  go_enter Tryz.func111, Tryz.ntmps111
  go_wp2
  refine wp_region_x [10] (S := fun w' => w'.cell? ⟨o, 0, none⟩ = some (.slice A bs.length c)) (by kernel_rfl) c00 (fun hHeld => ?_)
  refine wpAnyX_take (i := 0) (v := ?_) rfl (by kernel_rfl) (by kernel_rfl) (by kernel_rfl) (by kernel_rfl) (fun _ _ _ h => h) (Or.inl ⟨by rfl, ?_⟩) hHeld ?_
  rotate_left
  · (intro w hSw; (try dsimp only at hSw); go_simp) <;> with_reducible rfl
  (try simp only [Act.put, List.setIfInBounds_toArray, List.set_cons_zero, List.set_cons_succ, List.getElem_toArray, List.getElem_cons_zero, List.getElem_cons_succ])
  refine wpAnyX_take (i := 1) (v := ?_) rfl (by kernel_rfl) (by kernel_rfl) (by kernel_rfl) (by kernel_rfl) (fun _ _ _ h => h) (Or.inl ⟨by rfl, ?_⟩) hHeld ?_
  rotate_left
  · (intro w hSw; (try dsimp only at hSw); go_simp) <;> with_reducible rfl
  (try simp only [Act.put, List.setIfInBounds_toArray, List.set_cons_zero, List.set_cons_succ, List.getElem_toArray, List.getElem_cons_zero, List.getElem_cons_succ])
  refine wpAnyX_take (i := 2) (v := ?_) rfl (by kernel_rfl) (by kernel_rfl) (by kernel_rfl) (by kernel_rfl) (fun _ _ _ h => h) (Or.inl ⟨by rfl, ?_⟩) hHeld ?_
  rotate_left
  · (intro w hSw; (try dsimp only at hSw); go_simp) <;> with_reducible rfl
  (try simp only [Act.put, List.setIfInBounds_toArray, List.set_cons_zero, List.set_cons_succ, List.getElem_toArray, List.getElem_cons_zero, List.getElem_cons_succ])
  refine wpAnyX_take (i := 3) (v := ?_) rfl (by kernel_rfl) (by kernel_rfl) (by kernel_rfl) (by kernel_rfl) (fun _ _ _ h => h) (Or.inl ⟨by rfl, ?_⟩) hHeld ?_
  rotate_left
  · (intro w hSw; (try dsimp only at hSw); go_simp) <;> with_reducible rfl
  (try simp only [Act.put, List.setIfInBounds_toArray, List.set_cons_zero, List.set_cons_succ, List.getElem_toArray, List.getElem_cons_zero, List.getElem_cons_succ])
  refine wpAnyX_take (i := 4) (v := ?_) rfl (by kernel_rfl) (by kernel_rfl) (by kernel_rfl) (by kernel_rfl) (fun _ _ _ h => h) (Or.inl ⟨by rfl, ?_⟩) hHeld ?_
  rotate_left
  · (intro w hSw; (try dsimp only at hSw); go_simp) <;> with_reducible rfl
  (try simp only [Act.put, List.setIfInBounds_toArray, List.set_cons_zero, List.set_cons_succ, List.getElem_toArray, List.getElem_cons_zero, List.getElem_cons_succ])
  refine wpAnyX_take (i := 5) (v := ?_) rfl (by kernel_rfl) (by kernel_rfl) (by kernel_rfl) (by kernel_rfl) (fun _ _ _ h => h) (Or.inl ⟨by rfl, ?_⟩) hHeld ?_
  rotate_left
  · (intro w hSw; (try dsimp only at hSw); go_simp) <;> with_reducible rfl
  (try simp only [Act.put, List.setIfInBounds_toArray, List.set_cons_zero, List.set_cons_succ, List.getElem_toArray, List.getElem_cons_zero, List.getElem_cons_succ])
  refine wpAnyX_ready (rs := [6]) (by kernel_rfl) (by simp) ?_
  refine AllReadyX.cons rfl (fun K hK => ?_) AllReadyX.nil
  go_simp
  refine (turned_any n _ hn).mono ?_
  rintro e w1 ⟨rfl, rfl⟩
  refine hK.out _ _ (fun _ => hHeld) ?_
  clear hK K
  (try simp only [Act.put, List.setIfInBounds_toArray, List.set_cons_zero, List.set_cons_succ, List.getElem_toArray, List.getElem_cons_zero, List.getElem_cons_succ])
  refine wpAnyX_ready (rs := [7]) (by kernel_rfl) (by simp) ?_
  refine AllReadyX.cons rfl (fun K hK => ?_) AllReadyX.nil
  go_simp
  refine (appended_any w0.heap.size _ bs.length _ (2 * n) _ ?_ (own_grew H.out.own ((Chg.refl _ _).drew)) (by omega) (by omega)).mono ?_
  · simpa using H.out.grew.size
  rintro e w2 ⟨v', rfl, ho2, ha2⟩
  obtain ⟨A', c', rfl, -⟩ := own_shape ho2
  have hne : ∀ j, (Value.slice A bs.length c).ownBlock = some j → j ≠ o := fun j hj e => own_blk_ne H.out.own H.out.blk (by decide) (e ▸ hj)
  have hB2 := (H.out.blk.drew).chg ha2.chg (fun e => hne o e rfl)
  have HR := Lib.hid (And.intro ho2 (And.intro ha2 hB2))
  have hHel2 : w2.cell? ⟨o, 0, none⟩ = some (.slice A bs.length c) := hB2.cell 0
  have f2 := hB2.frozen 0
  have s2 := hB2.lt
  clear ho2 ha2 hB2
  refine hK.out _ _ (fun _ => hHel2) ?_
  clear hK K
  (try simp only [Act.put, List.setIfInBounds_toArray, List.set_cons_zero, List.set_cons_succ, List.getElem_toArray, List.getElem_cons_zero, List.getElem_cons_succ])
  refine wpAnyX_ready (rs := [8]) (by kernel_rfl) (by simp) ?_
  refine AllReadyX.cons rfl (fun K hK => ?_) AllReadyX.nil
  go_simp
  refine hK.out _ _ (fun _ => hHel2) ?_
  clear hK K
  (try simp only [Act.put, List.setIfInBounds_toArray, List.set_cons_zero, List.set_cons_succ, List.getElem_toArray, List.getElem_cons_zero, List.getElem_cons_succ])
  refine wpAnyX_take (i := 9) (v := ?_) rfl (by kernel_rfl) (by kernel_rfl) (by kernel_rfl) (by kernel_rfl) (fun _ _ _ h => h) (Or.inl ⟨by rfl, ?_⟩) hHel2 ?_
  rotate_left
  · (intro w hSw; (try dsimp only at hSw); go_simp) <;> with_reducible rfl
  (try simp only [Act.put, List.setIfInBounds_toArray, List.set_cons_zero, List.set_cons_succ, List.getElem_toArray, List.getElem_cons_zero, List.getElem_cons_succ])
  refine wpAnyX_ready (rs := [10]) (by kernel_rfl) (by simp) ?_
  refine AllReadyX.cons rfl (fun K hK => ?_) AllReadyX.nil
  go_simp
  refine hK.out _ _ (fun h => by cases h) ?_
  clear hK K
  (try simp only [Act.put, List.setIfInBounds_toArray, List.set_cons_zero, List.set_cons_succ, List.getElem_toArray, List.getElem_cons_zero, List.getElem_cons_succ])
  refine wpAnyX_done (by kernel_rfl) ?_ _
  go_wp2
  go_ret
  refine ⟨rfl, A', c', ?_⟩
  have e : (bs ++ grp (2 * n)).length = bs.length + (grp (2 * n)).length := List.length_append
  have hv := HR.out.2.1.new (H.out.grew.drew) (fun j hj => (H.out.own.lt j hj).1)
  refine ⟨?_, ?_, ?_, H.out.new⟩
  · rw [e]; have := HR.out.2.2.put 0 (.slice A' (bs.length + (grp (2 * n)).length) c'); simpa using this
  · rw [e]
    have := HR.out.1
    refine own_chg (F := fun j => j = o) (by simpa [bv] using this) ((Chg.refl (fun j => j = o) _).setCell (p := ⟨o, 0, none⟩) (fun _ => rfl) _) (fun g hg hgo => ?_)
    exact own_blk_ne this HR.out.2.2 (by decide) (hgo ▸ hg)
  · exact (HR.out.2.1.grow (H.out.grew.drew) (fun j hj => (H.out.own.lt j hj).1)).setCell (p := ⟨o, 0, none⟩) (fun hlt => absurd hlt (by have := H.out.new; simp only; omega)) _

end Go.Proofs.YtjkkoogfaibhiaaGreatDoor

/- Numbers in few bytes: Out.Ints, Out.All. -/
namespace Go.Proofs.YtjkkoogfaibhiaaGreatDoor
open Go.RowKit

/-- Numbers as values. -/
def nv (l : List Nat) : List Value := l.map fun n : Nat => .int .i64 (n : Int)
theorem nv_len (l : List Nat) : (nv l).length = l.length := by simp [nv]
theorem nv_one (l : List Nat) : ∀ u ∈ nv l, u.oneCell' = true := by
  intro u hu
  obtain ⟨x, -, rfl⟩ := List.mem_map.1 hu
  rfl
/-- Some numbers' groups. -/
def grps (l : List Nat) : List Int := l.flatMap fun n => grp (2 * n)
theorem grps_len (l : List Nat) (h : ∀ n ∈ l, n < 4611686018427387904) : (grps l).length ≤ 10 * l.length := by
  induction l with
  | nil => simp [grps]
  | cons n l ih =>
    have h1 := grp_len 10 (2 * n) (by have := h n (by simp); omega) (by omega)
    have h2 := ih fun k hk => h k (by simp [hk])
    simp only [grps, List.flatMap_cons, List.length_append, List.length_cons] at *
    omega
theorem grps_snoc {l : List Nat} {k n : Nat} (h : l[k]? = some n) : grps (l.take (k + 1)) = grps (l.take k) ++ grp (2 * n) := by
  rw [List.take_add_one, h]
  simp [grps]

set_option maxRecDepth 100000 in
set_option maxHeartbeats 1600000 in
theorem oints_any (w0 : World) (o : Nat) (bs : List Int) (l : List Nat) (A : Option Addr) (c : Nat) (w : World) (h : OutIs w0 w o bs) (hs : Sl w0 1 A l.length (nv l)) (hb : bs.length ≤ 10000) (hl : l.length ≤ 1000) (hn : ∀ n ∈ l, n < 4611686018427387904) :
    Calls Tryz.prog 112 #[.pointer (some ⟨o, 0, none⟩), .slice A l.length c] w fun e w' => e = .returned (.pointer (some ⟨o, 0, none⟩)) ∧ OutIs w0 w' o (bs ++ grp (2 * l.length) ++ grps l) := by
  have hg1 := grp_len 10 (2 * l.length) (by omega) (by omega)
  have H := Lib.hid (And.intro h (And.intro hs hn))
  clear h hs hn
  go_enter Tryz.func112, Tryz.ntmps112
  go_wp2_with (go_at_call 111; refine (oint_any w0 o bs l.length _ H.out.1 (by omega) (by omega)).mono ?_; rintro e w1 ⟨rfl, h1⟩; have H1 := Lib.hid h1; clear h1)
  go_loopw [6, 13] (fun x i wr => ∃ k : Nat, k ≤ l.length ∧ i = .int .i64 k ∧ OutIs w0 wr o (bs ++ grp (2 * l.length) ++ grps (l.take k))) (fun _ i _ => l.length - (intOf i).toNat)
  case atStart => exact ⟨0, Nat.zero_le _, rfl, by simpa [grps] using H1.out⟩
  case round =>
    obtain ⟨k, hk, rfl, hr⟩ := hrel
    have HR := Lib.hid hr
    have hgr := hr.grew
    clear hr
    by_cases hlt : k < l.length
    · obtain ⟨n, hnk⟩ : ∃ n, l[k]? = some n := ⟨_, List.getElem?_eq_getElem hlt⟩
      have hn4 := H.out.2.2 n (List.mem_of_getElem? hnk)
      obtain ⟨b, off, rfl, hblt, hx⟩ := (H.out.2.1.grew hgr).2 (by omega)
      have hc := hx k (.int .i64 n) (by simp [nv, hnk])
      have hgl := grps_len (l.take k) (fun n hn => H.out.2.2 n (List.mem_of_mem_take hn))
      rw [List.length_take, Nat.min_eq_left hk] at hgl
      have HN := Lib.hid hnk
      clear hx hnk hgr
      go_wp2_with (go_at_call 111; (refine (oint_any w0 o _ n _ HR.out (by simp only [List.length_append]; omega) hn4).mono ?_); rintro e w2 ⟨rfl, h2⟩; have H2 := Lib.hid h2; clear h2)
      exact ⟨⟨k + 1, by omega, by simp, by have := H2.out; rw [grps_snoc HN.out, ← List.append_assoc]; exact this⟩, by simp [intOf]; omega⟩
    · obtain rfl : k = l.length := by omega
      clear hgr
      go_wp2
      go_ret
      exact ⟨rfl, by have := HR.out; rwa [List.take_length] at this⟩

set_option maxHeartbeats 800000 in
theorem oall_any (w0 : World) (o : Nat) (bs : List Int) (w : World) (h : OutIs w0 w o bs) (h0 : 0 < bs.length) (hb : bs.length ≤ 100000) :
    Calls Tryz.prog 113 #[.pointer (some ⟨o, 0, none⟩)] w fun e w' => OwnOut w w' 5 1 bs.length (bv bs) (fun A c => .slice A bs.length c) e := by
  obtain ⟨A, c, h⟩ := h
  obtain ⟨c0, f0, s0⟩ := h.blk.facts
  have H := Lib.hid h
  have hA : A ≠ none := by
    rintro rfl
    obtain ⟨g, e, -⟩ := own_block h.own h0
    cases e
  clear h
  go_enter Tryz.func113, Tryz.ntmps113
  go_wp2_with (go_at_call 97; refine (bclone_any A hA bs c _ (by omega) (Sl.of_own (own_base H.out.own (Nat.zero_le _)))).mono ?_; rintro e w2 ⟨A2, c2, rfl, ho2, hg2⟩; have HO := Lib.hid (And.intro ho2 hg2); clear ho2 hg2)
  go_ret
  exact OwnOut.mk A2 c2 rfl HO.out.1 HO.out.2

end Go.Proofs.YtjkkoogfaibhiaaGreatDoor

/- The pager: what lies in memory. -/
namespace Go.Proofs.YtjkkoogfaibhiaaGreatDoor
open Go.RowKit Go.Maps

/-- What a call leaves of a thing that lies in F. -/
def To (S : World → (Nat → Prop) → Prop) (w w' : World) (F : Nat → Prop) : Prop := ∃ F', S w' F' ∧ Chg F w w' ∧ ∀ j, F' j → F j ∨ w.heap.size ≤ j
section
variable {S S' : World → (Nat → Prop) → Prop} {w w' w2 : World} {F : Nat → Prop}
theorem To.chg (h : To S w w' F) : Chg F w w' := by obtain ⟨_, -, h, -⟩ := h; exact h
theorem To.and (h : To S w w' F) (k : ∀ F', S w' F' → To S' w' w2 F') : To S' w w2 F := by
  obtain ⟨F', h1, h2, h3⟩ := h
  obtain ⟨F2, k1, k2, k3⟩ := k F' h1
  refine ⟨F2, k1, Chg.trans h2 k2 fun i hi hf => (h3 i hf).resolve_right (by omega), fun j hj => ?_⟩
  rcases k3 j hj with e | e
  · exact h3 j e
  · exact .inr (Nat.le_trans h2.size e)
theorem To.then {F1 : Nat → Prop} (hc : Chg F w w') (hn : ∀ j, F1 j → F j ∨ w.heap.size ≤ j) (k : To S' w' w2 F1) : To S' w w2 F := by
  obtain ⟨F2, k1, k2, k3⟩ := k
  refine ⟨F2, k1, Chg.trans hc k2 fun i hi hf => (hn i hf).resolve_right (by omega), fun j hj => ?_⟩
  rcases k3 j hj with e | e
  · exact hn j e
  · exact .inr (Nat.le_trans hc.size e)
theorem To.ahead (hc : Grew w w') (h : To S w' w2 F) : To S w w2 F := by
  obtain ⟨F', h1, h2, h3⟩ := h
  exact ⟨F', h1, hc.then h2, fun j hj => (h3 j hj).imp id fun e => Nat.le_trans hc.size e⟩
theorem To.imp (h : To S w w' F) (k : ∀ F', S w' F' → S' w' F') : To S' w w' F := by
  obtain ⟨F', h1, h2, h3⟩ := h
  exact ⟨F', k F' h1, h2, h3⟩
theorem To.grew (h : To S w w' F) (hc : Grew w' w2) (k : ∀ F', S w' F' → S w2 F') : To S w w2 F := by
  obtain ⟨F', h1, h2, h3⟩ := h
  exact ⟨F', k F' h1, h2.grew hc, h3⟩
theorem To.of (h : S w' F) (hc : Chg F w w') : To S w w' F := ⟨F, h, hc, fun _ e => .inl e⟩
end

/-- A set of numbers as a map to true. -/
def mB (f : Nat → Bool) : Int → Option Value := fun i => if 0 ≤ i ∧ f i.toNat = true then some (.bool true) else none
/-- An open change. -/
structure Cg where
  was : List Nat
  fresh : Nat → Bool
  left : List Nat
  touched : Nat → Bool
/-- A pager. -/
structure Gp where
  D : Dk
  epoch : Nat
  row : Nat
  pages : List Nat
  table : List Nat
  free : List Bool
  op : Option Cg
  down : Bool

/-- What is labelled k has turned, and nothing else. -/
structure Trn (w w' : World) (L L' : Nat → Nat) (k : Nat) : Prop where
  chg : Chg (fun j => L j = k) w w'
  same : ∀ j m, m ≠ 0 → m ≠ k → (L' j = m ↔ L j = m)
  new : ∀ j, L' j = k → L j = k ∨ w.heap.size ≤ j
  lt : ∀ j, L' j = k → j < w'.heap.size
theorem Trn.keep {w w' : World} {L : Nat → Nat} {k : Nat} (h : Chg (fun j => L j = k) w w') (hl : ∀ j, L j ≠ 0 → j < w.heap.size) (hk : k ≠ 0) : Trn w w' L L k :=
  ⟨h, fun _ _ _ _ => Iff.rfl, fun _ e => .inl e, fun j e => Nat.lt_of_lt_of_le (hl j (by omega)) h.size⟩
/-- .. with new blocks of F'. -/
theorem Trn.more {w w' : World} {L : Nat → Nat} {k : Nat} {F' : Nat → Prop} (h : Chg (fun j => L j = k) w w') (hl : ∀ j, L j ≠ 0 → j < w.heap.size) (hk : k ≠ 0) (hF : ∀ j, F' j → L j = k ∨ w.heap.size ≤ j) (hlt : ∀ j, F' j → j < w'.heap.size) :
    ∃ L', Trn w w' L L' k ∧ (∀ j, L' j = k ↔ F' j) := by
  classical
  have hne : ∀ j m, m ≠ 0 → m ≠ k → L j = m → ¬ F' j := fun j m hm hmk e hf => by
    rcases hF j hf with e1 | e1
    · omega
    · have := hl j (by omega); omega
  have hiff : ∀ j, (if F' j then k else if L j = k then 0 else L j) = k ↔ F' j := fun j => by
    by_cases hf : F' j
    · simp [hf]
    · by_cases hj : L j = k
      · simp only [hf, hj, if_false, if_true, iff_false]; omega
      · simp [hf, hj]
  refine ⟨fun j => if F' j then k else if L j = k then 0 else L j, ⟨h, fun j m hm hmk => ?_, fun j hj => hF j ((hiff j).1 hj), fun j hj => hlt j ((hiff j).1 hj)⟩, hiff⟩
  by_cases hf : F' j
  · simp only [hf, if_true]
    exact ⟨fun e => absurd e.symm hmk, fun e => absurd hf (hne j m hm hmk e)⟩
  · simp only [hf, if_false]
    by_cases hj : L j = k
    · simp only [hj, if_true]
      exact ⟨fun e => absurd e.symm hm, fun e => absurd e.symm hmk⟩
    · simp [hj]

/-- An open change in memory. -/
structure ChIn (w : World) (L : Nat → Nat) (o : Cg) (c : Nat) (vw : Value) (M1 s1 : Nat) (vl : Value) (M2 s2 : Nat) : Prop where
  blk : Blk w c 80 #[vw, .map (some M1), vl, .map (some M2)]
  lc : L c = 6
  was : w.ownsRow 0 3 1 vw o.was.length (nv o.was)
  lw : ∀ j, vw.ownBlock = some j → L j = 7
  fr : IMap Tryz.prog 3 w M1 (mB o.fresh) s1
  lf : L M1 = 8
  lft : w.ownsRow 0 3 1 vl o.left.length (nv o.left)
  ll : ∀ j, vl.ownBlock = some j → L j = 9
  tch : IMap Tryz.prog 3 w M2 (mB o.touched) s2
  lt : L M2 = 10
  n1 : s1 = cntN o.fresh 4096 ∧ ∀ j, o.fresh j = true → j < 4096
  n2 : s2 = cntN o.touched 64 ∧ ∀ j, o.touched j = true → j < 64
def OpnIn (w : World) (L : Nat → Nat) (vo : Option Addr) : Option Cg → Prop
  | none => vo = none
  | some o => ∃ c vw M1 s1 vl M2 s2, vo = some ⟨c, 0, none⟩ ∧ ChIn w L o c vw M1 s1 vl M2 s2
/-- A pager in memory. -/
structure GIn (w : World) (L : Nat → Nat) (p : Nat) (X : Gp) (d b : Nat) (A : Option Addr) (ca : Nat) (vp vt : Value) (vo : Option Addr) : Prop where
  blk : Blk w p 84 #[.pointer (some ⟨d, 0, none⟩), .int .i64 X.epoch, .int .i64 X.row, vp, vt, .pointer (some ⟨b, 0, none⟩), .pointer vo, .bool X.down]
  lp : L p = 1
  dsk : DS w d (fun j => L j = 2) X.D
  pol : PIn w b X.free A ca
  lo : ∀ j, PF b A j → L j = 3
  pgs : w.ownsRow 0 3 1 vp X.pages.length (nv X.pages)
  lg : ∀ j, vp.ownBlock = some j → L j = 4
  tbl : w.ownsRow 0 3 1 vt X.table.length (nv X.table)
  lb : ∀ j, vt.ownBlock = some j → L j = 5
  opn : OpnIn w L vo X.op
  lt : ∀ j, L j ≠ 0 → j < w.heap.size
  l0 : L 0 = 0
  tab : TabAt 0 tab w
/-- A pager whose blocks are those of F. -/
def GS (w : World) (p : Nat) (F : Nat → Prop) (X : Gp) : Prop := ∃ L d b A ca vp vt vo, GIn w L p X d b A ca vp vt vo ∧ ∀ j, F j ↔ L j ≠ 0
def GTo (w w' : World) (p : Nat) (F : Nat → Prop) (X : Gp) : Prop := To (fun w F => GS w p F X) w w' F

section
variable {w w' w2 : World} {L L' : Nat → Nat} {p d b ca c M1 s1 M2 s2 k : Nat} {X X' : Gp} {o : Cg} {A : Option Addr} {vp vt vw vl : Value} {vo : Option Addr} {F : Nat → Prop}
theorem own_lab {base s n m : Nat} {e : TypeId} {v : Value} {xs : List Value} (h : w.ownsRow base e s v n xs) (hl : ∀ j, v.ownBlock = some j → L j = m) (hc : Chg (fun j => L j = k) w w') (hk : m ≠ k) : w'.ownsRow base e s v n xs :=
  own_chg h hc fun g hg e => hk ((hl g hg).symm.trans e)
theorem ChIn.keep (h : ChIn w L o c vw M1 s1 vl M2 s2) (ht : Trn w w' L L' k) (hk : k ≠ 6 ∧ k ≠ 7 ∧ k ≠ 8 ∧ k ≠ 9 ∧ k ≠ 10) : ChIn w' L' o c vw M1 s1 vl M2 s2 :=
  ⟨h.blk.chg ht.chg (by rw [h.lc]; omega), (ht.same _ 6 (by omega) (by omega)).2 h.lc, own_lab h.was h.lw ht.chg (by omega), fun j hj => (ht.same _ 7 (by omega) (by omega)).2 (h.lw j hj),
   h.fr.chg ht.chg (by rw [h.lf]; omega), (ht.same _ 8 (by omega) (by omega)).2 h.lf, own_lab h.lft h.ll ht.chg (by omega), fun j hj => (ht.same _ 9 (by omega) (by omega)).2 (h.ll j hj),
   h.tch.chg ht.chg (by rw [h.lt]; omega), (ht.same _ 10 (by omega) (by omega)).2 h.lt, h.n1, h.n2⟩
theorem OpnIn.keep {oo : Option Cg} (h : OpnIn w L vo oo) (ht : Trn w w' L L' k) (hk : k ≠ 6 ∧ k ≠ 7 ∧ k ≠ 8 ∧ k ≠ 9 ∧ k ≠ 10) : OpnIn w' L' vo oo := by
  cases oo with
  | none => exact h
  | some o =>
    obtain ⟨c, vw, M1, s1, vl, M2, s2, e, hi⟩ := h
    exact ⟨c, vw, M1, s1, vl, M2, s2, e, hi.keep ht hk⟩
theorem lab_set (ht : Trn w w' L L' k) {m : Nat} (hm : m ≠ 0) (hk : m ≠ k) : (fun j => L' j = m) = (fun j => L j = m) := funext fun j => propext (ht.same j m hm hk)
theorem dsk_keep {D : Dk} (h : DS w d (fun j => L j = 2) D) (ht : Trn w w' L L' k) (hk : k ≠ 2) : DS w' d (fun j => L' j = 2) D := by
  rw [lab_set ht (by omega) (Ne.symm hk)]
  exact h.chg ht.chg fun j hj e => hk (e.symm.trans hj)
theorem lab_lt (hl : ∀ j, L j ≠ 0 → j < w.heap.size) (ht : Trn w w' L L' k) : ∀ j, L' j ≠ 0 → j < w'.heap.size := fun j hj => by
  by_cases e : L' j = k
  · exact ht.lt j e
  · exact Nat.lt_of_lt_of_le (hl j (by have := (ht.same j (L' j) hj e).1 rfl; omega)) ht.chg.size
theorem lab_zero (h0 : L 0 = 0) (ht : Trn w w' L L' k) (hk : k ≠ 0) (hs : 0 < w.heap.size) : L' 0 = 0 := by
  by_cases e : L' 0 = k
  · rcases ht.new 0 e with e1 | e1 <;> omega
  · by_cases e0 : L' 0 = 0
    · exact e0
    · have := (ht.same 0 (L' 0) e0 e).1 rfl; omega
/-- What turns outside. -/
theorem GIn.chg {G : Nat → Prop} (h : GIn w L p X d b A ca vp vt vo) (hc : Chg G w w') (hG : ∀ j, L j ≠ 0 → ¬ G j) (hG0 : ¬ G 0) : GIn w' L p X d b A ca vp vt vo := by
  have hl : ∀ j m, m ≠ 0 → L j = m → ¬ G j := fun j m hm e => hG j (by omega)
  refine ⟨h.blk.chg hc (hl _ 1 (by omega) h.lp), h.lp, h.dsk.chg hc fun j hj => hl j 2 (by omega) hj, h.pol.chg hc fun j hj => hl j 3 (by omega) (h.lo j hj), h.lo,
    own_chg h.pgs hc fun j hj => hl j 4 (by omega) (h.lg j hj), h.lg, own_chg h.tbl hc fun j hj => hl j 5 (by omega) (h.lb j hj), h.lb, ?_, fun j hj => Nat.lt_of_lt_of_le (h.lt j hj) hc.size, h.l0, tab_chg h.tab hc hG0⟩
  have ho := h.opn
  revert ho
  cases X.op with
  | none => exact id
  | some o =>
    rintro ⟨c, vw, M1, s1, vl, M2, s2, e, hi⟩
    exact ⟨c, vw, M1, s1, vl, M2, s2, e, hi.blk.chg hc (hl _ 6 (by omega) hi.lc), hi.lc, own_chg hi.was hc fun j hj => hl j 7 (by omega) (hi.lw j hj), hi.lw, hi.fr.chg hc (hl _ 8 (by omega) hi.lf), hi.lf,
      own_chg hi.lft hc fun j hj => hl j 9 (by omega) (hi.ll j hj), hi.ll, hi.tch.chg hc (hl _ 10 (by omega) hi.lt), hi.lt, hi.n1, hi.n2⟩
theorem GIn.grew (h : GIn w L p X d b A ca vp vt vo) (hc : Grew w w') : GIn w' L p X d b A ca vp vt vo := h.chg hc (fun _ _ => id) id
theorem GS.chg {G : Nat → Prop} (h : GS w p F X) (hc : Chg G w w') (hG : ∀ j, F j → ¬ G j) (hG0 : ¬ G 0) : GS w' p F X := by
  obtain ⟨L, d, b, A, ca, vp, vt, vo, h, hF⟩ := h
  exact ⟨L, d, b, A, ca, vp, vt, vo, h.chg hc (fun j hj => hG j ((hF j).2 hj)) hG0, hF⟩
theorem GS.grew (h : GS w p F X) (hc : Grew w w') : GS w' p F X := h.chg hc (fun _ _ => id) id
theorem GS.lt (h : GS w p F X) : ∀ j, F j → j < w.heap.size := by
  obtain ⟨L, d, b, A, ca, vp, vt, vo, h, hF⟩ := h
  exact fun j hj => h.lt j ((hF j).1 hj)
theorem GS.zero (h : GS w p F X) : ¬ F 0 := by
  obtain ⟨L, d, b, A, ca, vp, vt, vo, h, hF⟩ := h
  exact fun e => (hF 0).1 e h.l0
theorem GS.tab (h : GS w p F X) : TabAt 0 tab w := by
  obtain ⟨L, d, b, A, ca, vp, vt, vo, h, hF⟩ := h
  exact h.tab
theorem GTo.grew (h : GTo w w' p F X) (hc : Grew w' w2) : GTo w w2 p F X := To.grew h hc fun _ k => k.grew hc
theorem GS.to (h : GS w p F X) (hc : Grew w w') : GTo w w' p F X := To.of (h.grew hc) hc.chg
theorem GIn.gs (h : GIn w L p X d b A ca vp vt vo) : GS w p (fun j => L j ≠ 0) X := ⟨L, d, b, A, ca, vp, vt, vo, h, fun _ => Iff.rfl⟩
/-- A step within. -/
theorem GIn.to (h : GIn w' L' p X d b A ca vp vt vo) (ht : Trn w w' L L' k) (hk : k ≠ 0) (hF : ∀ j, F j ↔ L j ≠ 0) : GTo w w' p F X :=
  ⟨fun j => L' j ≠ 0, h.gs, ht.chg.mono fun i _ e => (hF i).2 (by omega), fun j hj => by
    by_cases e : L' j = k
    · exact (ht.new j e).imp (fun e1 => (hF j).2 (by omega)) id
    · exact .inl ((hF j).2 (by have := (ht.same j (L' j) hj e).1 rfl; omega))⟩
end

end Go.Proofs.YtjkkoogfaibhiaaGreatDoor

/- The pager: Size, ready, used, note, Room, touch. -/
namespace Go.Proofs.YtjkkoogfaibhiaaGreatDoor
open Go.RowKit Go.Maps

theorem gsize_any (p : Nat) (F : Nat → Prop) (X : Gp) (w : World) (h : GS w p F X) :
    Calls Tryz.prog 26 #[.pointer (some ⟨p, 0, none⟩)] w fun e w' => e = .returned (.int .i64 X.D.sz) ∧ w = w' := by
  obtain ⟨L, d, b, A, ca, vp, vt, vo, h, hF⟩ := h
  obtain ⟨c0, f0, s0⟩ := h.blk.facts
  have H := Lib.hid h
  clear h hF
  go_enter Tryz.func26, Tryz.ntmps26
  go_wp2_with (go_at_call 52; (refine (dsize_any d _ _ _ H.out.dsk).mono ?_); rintro e w1 ⟨rfl, rfl⟩)
  go_ret
  exact ⟨rfl, rfl⟩

/-- What ready answers. -/
def Gp.rdy (X : Gp) : Int := if X.down then 20 else match X.op with | none => 23 | some _ => 0
theorem gready_any (p : Nat) (F : Nat → Prop) (X : Gp) (w : World) (h : GS w p F X) :
    Calls Tryz.prog 43 #[.pointer (some ⟨p, 0, none⟩)] w fun e w' => e = .returned (.int .i64 X.rdy) ∧ w = w' := by
  obtain ⟨L, d, b, A, ca, vp, vt, vo, h, hF⟩ := h
  obtain ⟨c0, f0, s0⟩ := h.blk.facts
  have ho := h.opn
  cases hd : X.down with
  | true =>
    have hr : X.rdy = 20 := by unfold Gp.rdy; rw [hd]; rfl
    rw [hr]
    rw [hd] at c0
    clear h hF hd hr ho
    go_enter Tryz.func43, Tryz.ntmps43
    go_wp2
    go_ret
    exact ⟨rfl, rfl⟩
  | false =>
    rw [hd] at c0
    cases hx : X.op with
    | none =>
      rw [hx] at ho
      obtain rfl : vo = none := ho
      have hr : X.rdy = 23 := by unfold Gp.rdy; rw [hd, hx]; rfl
      rw [hr]
      clear h hF hd hr hx
      go_enter Tryz.func43, Tryz.ntmps43
      go_wp2
      go_ret
      exact ⟨rfl, rfl⟩
    | some o =>
      rw [hx] at ho
      obtain ⟨c, vw, M1, s1, vl, M2, s2, rfl, -⟩ := ho
      have hr : X.rdy = 0 := by unfold Gp.rdy; rw [hd, hx]; rfl
      rw [hr]
      clear h hF hd hr hx
      go_enter Tryz.func43, Tryz.ntmps43
      go_wp2
      go_ret
      exact ⟨rfl, rfl⟩

/-- Is a page used? -/
def Gp.usedB (X : Gp) (i : Int) : Bool := decide (0 ≤ i) && (X.table.getD i.toNat 0 != 0)
theorem gused_no (p : Nat) (i : Int) (F : Nat → Prop) (X : Gp) (w : World) (h : GS w p F X) (hl : X.table.length ≤ 1000000) (hi : i < 0 ∨ X.table.length ≤ i) :
    Calls Tryz.prog 71 #[.pointer (some ⟨p, 0, none⟩), .int .i64 i] w fun e w' => e = .returned (.bool false) ∧ w = w' := by
  obtain ⟨L, d, b, A, ca, vp, vt, vo, h, hF⟩ := h
  obtain ⟨c0, f0, s0⟩ := h.blk.facts
  obtain ⟨At, ct, rfl, -⟩ := own_shape h.tbl
  by_cases h0 : i < 0
  · have a1 : decide (0 ≤ i) = false := decide_eq_false (by omega)
    clear h hF hi h0
    go_enter Tryz.func71, Tryz.ntmps71
    go_wp2
    go_ret
    exact ⟨rfl, rfl⟩
  · have a1 : decide (0 ≤ i) = true := decide_eq_true (by omega)
    have a2 : decide (i < (X.table.length : Int)) = false := decide_eq_false (by omega)
    clear h hF hi h0
    go_enter Tryz.func71, Tryz.ntmps71
    go_wp2
    go_ret
    exact ⟨rfl, rfl⟩
/-- A page's entry. -/
theorem GIn.entry {w : World} {L : Nat → Nat} {p : Nat} {X : Gp} {d b : Nat} {A : Option Addr} {ca : Nat} {vp vt : Value} {vo : Option Addr} (h : GIn w L p X d b A ca vp vt vo) {i s : Nat} (hs : X.table[i]? = some s) :
    ∃ g ct, vt = .slice (some ⟨g, 0, none⟩) X.table.length ct ∧ g < w.heap.size ∧ L g = 5 ∧ w.cell? ⟨g, i, none⟩ = some (.int .i64 s) ∧ w.frozen? ⟨g, i, none⟩ = false := by
  have hi : i < X.table.length := (List.getElem?_eq_some_iff.1 hs).1
  obtain ⟨At, ct, rfl, -⟩ := own_shape h.tbl
  obtain ⟨g, rfl, hg⟩ := own_block h.tbl (by omega)
  obtain ⟨cur, -, hgc, -, -, hcs, htake, -⟩ := own_row h.tbl
  refine ⟨g, ct, rfl, hg, h.lb g rfl, ?_, (show Blk w g _ cur from hgc).frozen _⟩
  have := h.tbl.cells (g := g) rfl i (.int .i64 s) (by simp [nv, hs])
  rwa [Addr.add_lit, Nat.zero_add] at this
theorem gused_in (p i s : Nat) (F : Nat → Prop) (X : Gp) (w : World) (h : GS w p F X) (hl : X.table.length ≤ 1000000) (hs : X.table[i]? = some s) :
    Calls Tryz.prog 71 #[.pointer (some ⟨p, 0, none⟩), .int .i64 i] w fun e w' => e = .returned (.bool (s != 0)) ∧ w = w' := by
  obtain ⟨L, d, b, A, ca, vp, vt, vo, h, hF⟩ := h
  obtain ⟨c0, f0, s0⟩ := h.blk.facts
  have hi : i < X.table.length := (List.getElem?_eq_some_iff.1 hs).1
  obtain ⟨g, ct, rfl, hg, -, hc, -⟩ := h.entry hs
  have a1 : decide ((0 : Int) ≤ (i : Int)) = true := decide_eq_true (by omega)
  have a2 : decide ((i : Int) < (X.table.length : Int)) = true := decide_eq_true (by omega)
  clear h hF hs
  by_cases h0 : s = 0
  · subst h0
    go_enter Tryz.func71, Tryz.ntmps71
    go_wp2
    go_ret
    exact ⟨rfl, rfl⟩
  · have e1 : (s != 0) = true := by simpa using h0
    have e2 : ((s : Int) != 0) = true := by simpa using h0
    rw [e1]
    clear h0 e1
    go_enter Tryz.func71, Tryz.ntmps71
    go_wp2
    go_ret
    exact ⟨rfl, rfl⟩

end Go.Proofs.YtjkkoogfaibhiaaGreatDoor

/- The pager: note, Room, touch. -/
namespace Go.Proofs.YtjkkoogfaibhiaaGreatDoor
open Go.RowKit Go.Maps

theorem zBool (w : World) : (zeroValue 4).run Tryz.prog w = .ok (.bool false) w := by kernel_rfl
theorem mB_nat (f : Nat → Bool) (k : Nat) : mB f (k : Int) = if f k then some (.bool true) else none := by
  unfold mB
  simp
theorem mB_getD (f : Nat → Bool) (k : Nat) : (mB f (k : Int)).getD (.bool false) = .bool (f k) := by
  rw [mB_nat]
  cases f k <;> rfl
def setB (f : Nat → Bool) (k : Nat) (v : Bool) : Nat → Bool := fun j => if j = k then v else f j
theorem mB_put (f : Nat → Bool) (k : Nat) : upd (mB f) (k : Int) (some (.bool true)) = mB (setB f k true) := by
  funext i
  by_cases h : i = (k : Int)
  · subst h; rw [upd_same, mB_nat]; simp [setB]
  · rw [upd_other h]
    unfold mB setB
    by_cases h0 : 0 ≤ i
    · rw [if_neg (show ¬ i.toNat = k by omega)]
    · simp [h0]
theorem mB_del (f : Nat → Bool) (k : Nat) : upd (mB f) (k : Int) none = mB (setB f k false) := by
  funext i
  by_cases h : i = (k : Int)
  · subst h; rw [upd_same, mB_nat]; simp [setB]
  · rw [upd_other h]
    unfold mB setB
    by_cases h0 : 0 ≤ i
    · rw [if_neg (show ¬ i.toNat = k by omega)]
    · simp [h0]
theorem cntN_set (f : Nat → Bool) (k : Nat) (v : Bool) : ∀ n, k < n → cntN (setB f k v) n + (if f k then 1 else 0) = cntN f n + (if v then 1 else 0)
  | 0, h => by omega
  | n + 1, h => by
    rw [cntN_succ, cntN_succ]
    by_cases e : k = n
    · subst e
      have : cntN (setB f k v) k = cntN f k := cntN_ext fun j hj => by unfold setB; rw [if_neg (by omega)]
      rw [this]
      have : setB f k v k = v := by simp [setB]
      rw [this]
      omega
    · have ih := cntN_set f k v n (by omega)
      have : setB f k v n = f n := by unfold setB; rw [if_neg (by omega)]
      rw [this]
      omega
theorem cntN_yes (f : Nat → Bool) {k n : Nat} (h : k < n) (hf : f k = false) : cntN (setB f k true) n = cntN f n + 1 := by
  have := cntN_set f k true n h
  rw [hf] at this
  simpa using this
theorem cntN_drop (f : Nat → Bool) {k n : Nat} (h : k < n) (hf : f k = true) : cntN (setB f k false) n + 1 = cntN f n := by
  have := cntN_set f k false n h
  rw [hf] at this
  simpa using this

section
variable {w w' : World} {L L' : Nat → Nat} {p d b ca : Nat} {X X' : Gp} {A : Option Addr} {vp vt vp' vt' : Value} {vo vo' : Option Addr}
/-- The pager's own block turns. -/
theorem GIn.re (h : GIn w L p X d b A ca vp vt vo) (ht : Trn w w' L L' 1) (hl : L' p = 1) (hX : X'.D = X.D ∧ X'.free = X.free ∧ X'.pages = X.pages ∧ X'.table = X.table)
    (hb : Blk w' p 84 #[.pointer (some ⟨d, 0, none⟩), .int .i64 X'.epoch, .int .i64 X'.row, vp, vt, .pointer (some ⟨b, 0, none⟩), .pointer vo', .bool X'.down]) (ho : OpnIn w' L' vo' X'.op) : GIn w' L' p X' d b A ca vp vt vo' := by
  obtain ⟨e1, e2, e3, e4⟩ := hX
  have h0 := tab_pos h.tab
  refine ⟨hb, hl, by rw [e1]; exact dsk_keep h.dsk ht (by omega), by rw [e2]; exact h.pol.chg ht.chg fun j hj e => by have := h.lo j hj; omega, fun j hj => (ht.same j 3 (by omega) (by omega)).2 (h.lo j hj),
    by rw [e3]; exact own_lab h.pgs h.lg ht.chg (by omega), fun j hj => (ht.same j 4 (by omega) (by omega)).2 (h.lg j hj), by rw [e4]; exact own_lab h.tbl h.lb ht.chg (by omega), fun j hj => (ht.same j 5 (by omega) (by omega)).2 (h.lb j hj), ho,
    lab_lt h.lt ht, lab_zero h.l0 ht (by omega) h0, tab_chg h.tab ht.chg (by rw [h.l0]; omega)⟩
end

theorem gnote_ok (p : Nat) (e : Int) (F : Nat → Prop) (X : Gp) (w : World) (h : GS w p F X) (hd : X.down = false) (he : (e == 20) = false) :
    Calls Tryz.prog 47 #[.pointer (some ⟨p, 0, none⟩), .int .i64 e] w fun e' w' => e' = .returned (.int .i64 e) ∧ GTo w w' p F X := by
  obtain ⟨L, d, b, A, ca, vp, vt, vo, h, hF⟩ := h
  obtain ⟨c0, f0, s0⟩ := h.blk.facts
  rw [hd] at c0
  have H := Lib.hid (And.intro h (And.intro hF hd))
  clear h hF hd
  go_enter Tryz.func47, Tryz.ntmps47
  go_wp2
  go_ret
  refine ⟨rfl, ?_⟩
  have hc : Chg (fun j => L j = 1) w (w.setCell ⟨p, 7, none⟩ (.bool false)) := (Chg.refl _ _).setCell (p := ⟨p, 7, none⟩) (fun _ => H.out.1.lp) _
  have ht := Trn.keep hc H.out.1.lt (by omega)
  have hb := H.out.1.blk.put 7 (.bool false)
  exact (H.out.1.re (X' := X) ht H.out.1.lp ⟨rfl, rfl, rfl, rfl⟩ (by rw [H.out.2.2]; simpa [H.out.2.2] using hb) (H.out.1.opn.keep ht (by omega))).to ht (by omega) H.out.2.1
theorem gnote_down (p : Nat) (F : Nat → Prop) (X : Gp) (w : World) (h : GS w p F X) (hd : X.down = false) :
    Calls Tryz.prog 47 #[.pointer (some ⟨p, 0, none⟩), .int .i64 20] w fun e' w' => e' = .returned (.int .i64 20) ∧ GTo w w' p F { X with down := true } := by
  obtain ⟨L, d, b, A, ca, vp, vt, vo, h, hF⟩ := h
  obtain ⟨c0, f0, s0⟩ := h.blk.facts
  rw [hd] at c0
  have H := Lib.hid (And.intro h (And.intro hF hd))
  clear h hF hd
  go_enter Tryz.func47, Tryz.ntmps47
  go_wp2
  go_ret
  refine ⟨rfl, ?_⟩
  have hc : Chg (fun j => L j = 1) w (w.setCell ⟨p, 7, none⟩ (.bool true)) := (Chg.refl _ _).setCell (p := ⟨p, 7, none⟩) (fun _ => H.out.1.lp) _
  have ht := Trn.keep hc H.out.1.lt (by omega)
  have hb := H.out.1.blk.put 7 (.bool true)
  exact (H.out.1.re (X' := { X with down := true }) ht H.out.1.lp ⟨rfl, rfl, rfl, rfl⟩ (by simpa using hb) (H.out.1.opn.keep ht (by omega))).to ht (by omega) H.out.2.1

/-- How many sectors are free, and not kept back. -/
def Gp.room (X : Gp) : Int := match X.op with | none => (cnt X.free : Int) | some o => (cnt X.free : Int) - (cntN o.touched 64 : Int)
set_option maxRecDepth 100000 in
set_option maxHeartbeats 800000 in
theorem groom_any (p : Nat) (F : Nat → Prop) (X : Gp) (w : World) (h : GS w p F X) (hl : X.free.length ≤ 65536) :
    Calls Tryz.prog 101 #[.pointer (some ⟨p, 0, none⟩)] w fun e' w' => e' = .returned (.int .i64 X.room) ∧ Grew w w' := by
  obtain ⟨L, d, b, A, ca, vp, vt, vo, h, hF⟩ := h
  obtain ⟨c0, f0, s0⟩ := h.blk.facts
  have hcl : cnt X.free ≤ 65536 := Nat.le_trans (cntN_le _ _) hl
  have ho := h.opn
  have H := Lib.hid h
  cases hx : X.op with
  | none =>
    rw [hx] at ho
    obtain rfl : vo = none := ho
    have hr : X.room = (cnt X.free : Int) := by unfold Gp.room; rw [hx]
    rw [hr]
    clear h hF hr hx
    go_enter Tryz.func101, Tryz.ntmps101
    go_wp2_with (go_at_call 127; (refine (pfree_any b X.free A ca _ H.out.pol hl).mono ?_); rintro e w1 ⟨rfl, rfl⟩)
    go_ret
    exact ⟨rfl, Chg.refl _ _⟩
  | some o =>
    rw [hx] at ho
    obtain ⟨c, vw, M1, s1, vl, M2, s2, rfl, hi⟩ := ho
    obtain ⟨c1, f1, s1'⟩ := hi.blk.facts
    have hlen : ∀ n : Nat, (Builtin.len_ #[58] 3 #[.map (some M2)]).run Tryz.prog (w.drewN n) = .ok (.int .i64 s2) (w.drewN n) := fun n => (hi.tch.grew ((Chg.refl _ _).drewN n)).len Tryz.underlying58 _
    have h2 := hi.n2.1
    have hle : s2 ≤ 64 := by rw [h2]; exact cntN_le _ _
    have hr : X.room = (cnt X.free : Int) - (s2 : Int) := by unfold Gp.room; rw [hx, h2]
    rw [hr]
    clear h hF hr hx hi h2
    go_enter Tryz.func101, Tryz.ntmps101
    go_wp2
    go_quiet ((go_at_call 127; exact Calls.quiet_of_same ((pfree_any b X.free A ca _ (H.out.pol.grew ((Chg.refl _ _).drewN _)) hl).mono fun _ _ h => ⟨h.1, h.2.symm⟩)))
    go_wp2
    go_ret
    exact ⟨rfl, (Chg.refl _ _).drewN _⟩

/-- A table page is touched. -/
def Gp.touch (X : Gp) (o : Cg) (k : Nat) : Gp := { X with op := some { o with touched := setB o.touched k true } }
/-- How many sectors are asked for. -/
def Cg.more (o : Cg) (k m : Nat) : Nat := m + if o.touched k then 0 else 1
section
variable {w w' : World} {L L' : Nat → Nat} {p d b ca c M1 s1 M2 s2 : Nat} {X : Gp} {o o' : Cg} {A : Option Addr} {vp vt vw vl : Value} {vo : Option Addr}
/-- What belongs to the open change turns. -/
theorem GIn.opn_ (h : GIn w L p X d b A ca vp vt vo) {k : Nat} (ht : Trn w w' L L' k) (hk : 6 ≤ k) (ho : OpnIn w' L' vo (some o')) : GIn w' L' p { X with op := some o' } d b A ca vp vt vo := by
  have h0 := tab_pos h.tab
  refine ⟨h.blk.chg ht.chg (by rw [h.lp]; omega), (ht.same p 1 (by omega) (by omega)).2 h.lp, dsk_keep h.dsk ht (by omega), h.pol.chg ht.chg fun j hj e => by have := h.lo j hj; omega, fun j hj => (ht.same j 3 (by omega) (by omega)).2 (h.lo j hj),
    own_lab h.pgs h.lg ht.chg (by omega), fun j hj => (ht.same j 4 (by omega) (by omega)).2 (h.lg j hj), own_lab h.tbl h.lb ht.chg (by omega), fun j hj => (ht.same j 5 (by omega) (by omega)).2 (h.lb j hj), ho,
    lab_lt h.lt ht, lab_zero h.l0 ht (by omega) h0, tab_chg h.tab ht.chg (by rw [h.l0]; omega)⟩
end

set_option maxRecDepth 100000 in
set_option maxHeartbeats 1600000 in
theorem gtouch_full (p i k m : Nat) (F : Nat → Prop) (X : Gp) (o : Cg) (w : World) (h : GS w p F X) (hx : X.op = some o) (hl : X.free.length ≤ 65536) (hr : 0 < X.row) (hk : i / X.row = k) (hi : i ≤ 1000000) (hm : m ≤ 10) (hf : X.room < (o.more k m : Nat)) :
    Calls Tryz.prog 72 #[.pointer (some ⟨p, 0, none⟩), .int .i64 i, .int .i64 m] w fun e' w' => e' = .returned (.int .i64 21) ∧ Grew w w' := by
  have HG := Lib.hid h
  obtain ⟨L, d, b, A, ca, vp, vt, vo, h, hF⟩ := h
  obtain ⟨c0, f0, s0⟩ := h.blk.facts
  have ho := h.opn
  rw [hx] at ho
  obtain ⟨c, vw, M1, s1, vl, M2, s2, rfl, hi2⟩ := ho
  obtain ⟨c1, f1, s1'⟩ := hi2.blk.facts
  have hkd : (i : Int) / (X.row : Int) = (k : Int) := by rw [← hk]; simp
  have hki : k ≤ i := hk ▸ Nat.div_le_self _ _
  have hlk := hi2.tch.look (t := 58) kInt Tryz.underlying3 Tryz.underlying58 (zBool w) (i := (k : Int)) (wfInt (by omega) (by omega))
  rw [mB_getD] at hlk
  have hrow : (X.row : Int) ≠ 0 := by omega
  have hrow1 : (0 : Int) < (X.row : Int) := by omega
  have hroom := fun u hu => groom_any p F X u (HG.out.grew hu) hl
  have HR := Lib.hid hroom
  clear h hF hk hi2 hroom
  cases ht : o.touched k with
  | true =>
    have hmm : o.more k m = m := by unfold Cg.more; rw [ht]; rfl
    have a1 : decide (X.room < (m : Int)) = true := decide_eq_true (by rw [hmm] at hf; exact hf)
    rw [ht] at hlk
    clear hf hmm ht
    go_enter Tryz.func72, Tryz.ntmps72
    go_wp2_with (go_at_call 101; (refine (HR.out _ (Chg.refl _ _)).mono ?_); rintro e w1 ⟨rfl, hg1⟩; have HG1 := Lib.hid hg1; clear hg1)
    go_ret
    exact ⟨rfl, HG1.out⟩
  | false =>
    have hmm : o.more k m = m + 1 := by unfold Cg.more; rw [ht]; rfl
    have a1 : decide (X.room < (m : Int) + 1) = true := decide_eq_true (by rw [hmm] at hf; omega)
    rw [ht] at hlk
    clear hf hmm ht
    go_enter Tryz.func72, Tryz.ntmps72
    go_wp2_with (go_at_call 101; (refine (HR.out _ (Chg.refl _ _)).mono ?_); rintro e w1 ⟨rfl, hg1⟩; have HG1 := Lib.hid hg1; clear hg1)
    go_ret
    exact ⟨rfl, HG1.out⟩

set_option maxRecDepth 100000 in
set_option maxHeartbeats 1600000 in
theorem gtouch_ok (p i k m : Nat) (F : Nat → Prop) (X : Gp) (o : Cg) (w : World) (h : GS w p F X) (hx : X.op = some o) (hl : X.free.length ≤ 65536) (hr : 0 < X.row) (hk : i / X.row = k) (hk64 : k < 64) (hi : i ≤ 1000000) (hm : m ≤ 10) (hf : (o.more k m : Nat) ≤ X.room) :
    Calls Tryz.prog 72 #[.pointer (some ⟨p, 0, none⟩), .int .i64 i, .int .i64 m] w fun e' w' => e' = .returned (.int .i64 0) ∧ GTo w w' p F (X.touch o k) := by
  have HG := Lib.hid h
  obtain ⟨L, d, b, A, ca, vp, vt, vo, h, hF⟩ := h
  obtain ⟨c0, f0, s0⟩ := h.blk.facts
  have ho := h.opn
  rw [hx] at ho
  obtain ⟨c, vw, M1, s1, vl, M2, s2, rfl, hi2⟩ := ho
  obtain ⟨c1, f1, s1'⟩ := hi2.blk.facts
  have hkd : (i : Int) / (X.row : Int) = (k : Int) := by rw [← hk]; simp
  have hki : k ≤ i := hk ▸ Nat.div_le_self _ _
  have hlk := hi2.tch.look (t := 58) kInt Tryz.underlying3 Tryz.underlying58 (zBool w) (i := (k : Int)) (wfInt (by omega) (by omega))
  rw [mB_getD] at hlk
  have hrow : (X.row : Int) ≠ 0 := by omega
  have hrow1 : (0 : Int) < (X.row : Int) := by omega
  have hroom : ∀ u, Grew w u → Calls Tryz.prog 101 #[.pointer (some ⟨p, 0, none⟩)] u fun e' w' => e' = .returned (.int .i64 X.room) ∧ ∃ W, (Instr.mapUpdate 58 (.map (some M2)) (.int .i64 k) (.bool true)).run Tryz.prog w' = .ok () W ∧ Grew w w' ∧ GTo w W p F (X.touch o k) := fun u hu => by
    refine (groom_any p F X u (HG.out.grew hu) hl).mono ?_
    rintro e w1 ⟨rfl, hg⟩
    have hg1 := Grew.trans hu hg
    obtain ⟨W, hr, hm2, hc⟩ := (hi2.tch.grew hg1).put (t := 58) kInt Tryz.underlying3 Tryz.underlying58 (by have := hi2.n2.1; have := cntN_le o.touched 64; simp only [maxLen]; omega) (i := (k : Int)) (wfInt (by omega) (by omega)) (.bool true)
    refine ⟨rfl, W, hr, hg1, ?_⟩
    have hcl : Chg (fun j => L j = 10) w W := Grew.then hg1 (hc.mono fun i _ e => e ▸ hi2.lt)
    have ht := Trn.keep hcl h.lt (by omega)
    have hi3 := hi2
    refine (h.opn_ (o' := { o with touched := setB o.touched k true }) ht (by omega) ⟨c, vw, M1, s1, vl, M2, _, rfl, ⟨hi2.blk.chg hcl (by rw [hi2.lc]; omega), hi2.lc, own_lab hi2.was hi2.lw hcl (by omega), hi2.lw, hi2.fr.chg hcl (by rw [hi2.lf]; omega), hi2.lf, own_lab hi2.lft hi2.ll hcl (by omega), hi2.ll, by rw [mB_put] at hm2; exact hm2, hi2.lt, hi2.n1, ?_, fun j hj => ?_⟩⟩).to ht (by omega) hF
    · rw [mB_nat]
      cases hq : o.touched k with
      | true =>
        have e : setB o.touched k true = o.touched := by funext j; unfold setB; split <;> simp_all
        simp [e, hi2.n2.1]
      | false => simp [cntN_yes o.touched hk64 hq, hi2.n2.1]
    · by_cases e : j = k
      · omega
      · exact hi2.n2.2 j (by simpa [setB, e] using hj)
  have HR := Lib.hid (And.intro hroom hi2.blk)
  have HB := Lib.hid h.blk
  clear h hF hk hi2 hroom
  cases ht : o.touched k with
  | true =>
    have hmm : o.more k m = m := by unfold Cg.more; rw [ht]; rfl
    have a1 : decide (X.room < (m : Int)) = false := decide_eq_false (by rw [hmm] at hf; omega)
    rw [ht] at hlk
    clear hf hmm ht
    go_enter Tryz.func72, Tryz.ntmps72
    go_wp2_with (go_at_call 101; (refine (HR.out.1 _ (Chg.refl _ _)).mono ?_); rintro e w1 ⟨rfl, W, hr1, hg1, hto⟩; obtain ⟨c2, f2, s2'⟩ := (HB.out.grew hg1).facts; obtain ⟨c3, f3, s3'⟩ := (HR.out.2.grew hg1).facts; have HT := Lib.hid hto; clear hto hg1)
    go_ret
    exact ⟨rfl, HT.out⟩
  | false =>
    have hmm : o.more k m = m + 1 := by unfold Cg.more; rw [ht]; rfl
    have a1 : decide (X.room < (m : Int) + 1) = false := decide_eq_false (by rw [hmm] at hf; omega)
    rw [ht] at hlk
    clear hf hmm ht
    go_enter Tryz.func72, Tryz.ntmps72
    go_wp2_with (go_at_call 101; (refine (HR.out.1 _ (Chg.refl _ _)).mono ?_); rintro e w1 ⟨rfl, W, hr1, hg1, hto⟩; obtain ⟨c2, f2, s2'⟩ := (HB.out.grew hg1).facts; obtain ⟨c3, f3, s3'⟩ := (HR.out.2.grew hg1).facts; have HT := Lib.hid hto; clear hto hg1)
    go_ret
    exact ⟨rfl, HT.out⟩

end Go.Proofs.YtjkkoogfaibhiaaGreatDoor

/- The pager: slices.Index, Alloc. -/
namespace Go.Proofs.YtjkkoogfaibhiaaGreatDoor
open Go.RowKit Go.Maps

set_option maxHeartbeats 800000 in
theorem index_hit (l : List Nat) (v j : Nat) (A : Option Addr) (c : Nat) (w : World) (hs : Sl w 1 A l.length (nv l)) (hl : l.length ≤ 1000000) (hj : l[j]? = some v) (h : ∀ (k s : Nat), k < j → l[k]? = some s → s ≠ v) :
    Calls Tryz.prog 90 #[.slice A l.length c, .int .i64 v] w fun e w' => e = .returned (.int .i64 j) ∧ w = w' := by
  have H := Lib.hid (And.intro hs (And.intro h hj))
  have hjl : j < l.length := (List.getElem?_eq_some_iff.1 hj).1
  clear hs h hj
  go_enter Tryz.func90, Tryz.ntmps90
  go_wp2
  go_loop [5, 8] (fun x i => ∃ k : Nat, k ≤ j ∧ i = .int .i64 k) (fun _ i => l.length - (intOf i).toNat)
  case atStart => exact ⟨0, Nat.zero_le _, rfl⟩
  case round =>
    obtain ⟨k, hk, rfl⟩ := hrel
    have hlt : k < l.length := by omega
    obtain ⟨n, hnk⟩ : ∃ n, l[k]? = some n := ⟨_, List.getElem?_eq_getElem hlt⟩
    obtain ⟨b, off, rfl, hblt, hx⟩ := H.out.1.2 (by omega)
    have hc := hx k (.int .i64 n) (by simp [nv, hnk])
    by_cases hkj : k < j
    · have hne := H.out.2.1 k n hkj hnk
      have a1 : ((v : Int) == (n : Int)) = false := by simp; omega
      clear hx hnk hne
      go_wp2
      exact ⟨⟨k + 1, by omega, by simp⟩, by simp [intOf]; omega⟩
    · obtain rfl : k = j := by omega
      obtain rfl : n = v := by have := H.out.2.2; rw [hnk] at this; injection this
      clear hx hnk
      go_wp2
      go_ret
      exact ⟨rfl, rfl⟩
set_option maxHeartbeats 800000 in
theorem index_miss (l : List Nat) (v : Nat) (A : Option Addr) (c : Nat) (w : World) (hs : Sl w 1 A l.length (nv l)) (hl : l.length ≤ 1000000) (h : ∀ s ∈ l, s ≠ v) :
    Calls Tryz.prog 90 #[.slice A l.length c, .int .i64 v] w fun e w' => e = .returned (.int .i64 (-1)) ∧ w = w' := by
  have H := Lib.hid (And.intro hs h)
  clear hs h
  go_enter Tryz.func90, Tryz.ntmps90
  go_wp2
  go_loop [5, 8] (fun x i => ∃ k : Nat, k ≤ l.length ∧ i = .int .i64 k) (fun _ i => l.length - (intOf i).toNat)
  case atStart => exact ⟨0, Nat.zero_le _, rfl⟩
  case round =>
    obtain ⟨k, hk, rfl⟩ := hrel
    by_cases hlt : k < l.length
    · obtain ⟨n, hnk⟩ : ∃ n, l[k]? = some n := ⟨_, List.getElem?_eq_getElem hlt⟩
      obtain ⟨b, off, rfl, hblt, hx⟩ := H.out.1.2 (by omega)
      have hc := hx k (.int .i64 n) (by simp [nv, hnk])
      have hne := H.out.2 n (List.mem_of_getElem? hnk)
      have a1 : ((v : Int) == (n : Int)) = false := by simp; omega
      clear hx hnk hne
      go_wp2
      exact ⟨⟨k + 1, by omega, by simp⟩, by simp [intOf]; omega⟩
    · obtain rfl : k = l.length := by omega
      go_wp2
      go_ret
      exact ⟨rfl, rfl⟩

section
variable {w w' : World} {L L' : Nat → Nat} {p d b ca c M1 s1 M2 s2 : Nat} {X : Gp} {o o' : Cg} {A : Option Addr} {vp vt vw vl : Value} {vo : Option Addr}
theorem nv_set (l : List Nat) (i s : Nat) : nv (l.set i s) = (nv l).set i (.int .i64 s) := by simp [nv, List.map_set]
/-- An entry of the table turns. -/
theorem GIn.tset (h : GIn w L p X d b A ca vp vt vo) {g ct : Nat} (hv : vt = .slice (some ⟨g, 0, none⟩) X.table.length ct) (i s : Nat) :
    GIn (w.setCell ⟨g, i, none⟩ (.int .i64 s)) L p { X with table := X.table.set i s } d b A ca vp vt vo ∧ Trn w (w.setCell ⟨g, i, none⟩ (.int .i64 s)) L L 5 := by
  have hg : L g = 5 := h.lb g (by rw [hv]; rfl)
  have hc : Chg (fun j => L j = 5) w (w.setCell ⟨g, i, none⟩ (.int .i64 s)) := (Chg.refl _ _).setCell (p := ⟨g, i, none⟩) (fun _ => hg) _
  have ht := Trn.keep hc h.lt (by omega)
  refine ⟨⟨h.blk.chg ht.chg (by rw [h.lp]; omega), h.lp, dsk_keep h.dsk ht (by omega), h.pol.chg ht.chg fun j hj e => by have := h.lo j hj; omega, h.lo, own_lab h.pgs h.lg ht.chg (by omega), h.lg, ?_, h.lb, h.opn.keep ht (by omega),
    lab_lt h.lt ht, h.l0, tab_chg h.tab ht.chg (by rw [h.l0]; omega)⟩, ht⟩
  subst hv
  have := own_word (j := i) h.tbl (.int .i64 (s : Int))
  rw [← nv_set] at this
  simpa using this
end

/-- A page is taken. -/
def Gp.alloc (X : Gp) (o : Cg) (i : Nat) : Gp := { X.touch o (i / X.row) with table := X.table.set i 1 }
/-- What holds of a pager's sizes. -/
structure Gp.Sz (X : Gp) : Prop where
  free : X.free.length = X.D.n
  row : X.row = X.D.sz / 2 ∧ 64 ≤ X.D.sz
  tab : X.table.length ≤ X.pages.length * X.row ∧ X.table.length ≤ 4096
  pgs : X.pages.length ≤ 64
theorem Gp.Sz.k64 {X : Gp} (h : X.Sz) {i : Nat} (hi : i < X.table.length) : i / X.row < 64 := by
  have h1 := h.row
  have h2 := h.tab.1
  have h3 := h.pgs
  have h4 : 0 < X.row := by omega
  have : i < X.pages.length * X.row := by omega
  have := (Nat.div_lt_iff_lt_mul h4).2 this
  omega

set_option maxHeartbeats 800000 in
theorem galloc_none (p : Nat) (F : Nat → Prop) (X : Gp) (w : World) (h : GS w p F X) (hr : X.rdy = 0) (hl : X.table.length ≤ 4096) (hf : ∀ s ∈ X.table, s ≠ 0) :
    Calls Tryz.prog 59 #[.pointer (some ⟨p, 0, none⟩)] w fun e' w' => e' = .returned (.tuple #[.int .i64 0, .int .i64 21]) ∧ w = w' := by
  have hrd := gready_any p F X w h
  rw [hr] at hrd
  obtain ⟨L, d, b, A, ca, vp, vt, vo, h, hF⟩ := h
  obtain ⟨c0, f0, s0⟩ := h.blk.facts
  obtain ⟨At, ct, rfl, -⟩ := own_shape h.tbl
  have H := Lib.hid (And.intro hrd (And.intro (Sl.of_own h.tbl) hf))
  clear h hF hr hrd hf
  go_enter Tryz.func59, Tryz.ntmps59
  go_wp2_with (first
    | (go_at_call 43; (refine H.out.1.mono ?_); rintro e w1 ⟨rfl, rfl⟩)
    | (go_at_call 90; (refine (index_miss X.table 0 At ct _ H.out.2.1 (by omega) H.out.2.2).mono ?_); rintro e w1 ⟨rfl, rfl⟩))
  go_ret2
  exact ⟨rfl, rfl⟩

set_option maxRecDepth 100000 in
set_option maxHeartbeats 800000 in
theorem galloc_full (p i : Nat) (F : Nat → Prop) (X : Gp) (o : Cg) (w : World) (h : GS w p F X) (hr : X.rdy = 0) (hx : X.op = some o) (hz : X.Sz) (hn : X.D.n ≤ 4096) (hi : X.table[i]? = some 0) (hf : ∀ (k s : Nat), k < i → X.table[k]? = some s → s ≠ 0) (hm : X.room < (o.more (i / X.row) 0 : Nat)) :
    Calls Tryz.prog 59 #[.pointer (some ⟨p, 0, none⟩)] w fun e' w' => e' = .returned (.tuple #[.int .i64 0, .int .i64 21]) ∧ Grew w w' := by
  have hil : i < X.table.length := (List.getElem?_eq_some_iff.1 hi).1
  have hrd := gready_any p F X w h
  rw [hr] at hrd
  have htf := gtouch_full p i (i / X.row) 0 F X o w h hx (by have := hz.free; omega) (by have := hz.row; omega) rfl (by have := hz.tab.2; omega) (by omega) hm
  obtain ⟨L, d, b, A, ca, vp, vt, vo, h, hF⟩ := h
  obtain ⟨c0, f0, s0⟩ := h.blk.facts
  obtain ⟨At, ct, rfl, -⟩ := own_shape h.tbl
  have ht4 := hz.tab.2
  have H := Lib.hid (And.intro hrd (And.intro (index_hit X.table 0 i At ct w (Sl.of_own h.tbl) (by omega) hi hf) htf))
  clear h hF hr hrd hf hi htf hx hz hm
  go_enter Tryz.func59, Tryz.ntmps59
  go_wp2_with (first
    | (go_at_call 43; (refine H.out.1.mono ?_); rintro e w1 ⟨rfl, rfl⟩)
    | (go_at_call 90; (refine H.out.2.1.mono ?_); rintro e w1 ⟨rfl, rfl⟩)
    | (go_at_call 72; (refine H.out.2.2.mono ?_); rintro e w1 ⟨rfl, hg1⟩; have HG1 := Lib.hid hg1; clear hg1))
  go_ret2
  exact ⟨rfl, HG1.out⟩

set_option maxRecDepth 100000 in
set_option maxHeartbeats 800000 in
theorem galloc_ok (p i : Nat) (F : Nat → Prop) (X : Gp) (o : Cg) (w : World) (h : GS w p F X) (hr : X.rdy = 0) (hx : X.op = some o) (hz : X.Sz) (hn : X.D.n ≤ 4096) (hi : X.table[i]? = some 0) (hf : ∀ (k s : Nat), k < i → X.table[k]? = some s → s ≠ 0) (hm : (o.more (i / X.row) 0 : Nat) ≤ X.room) :
    Calls Tryz.prog 59 #[.pointer (some ⟨p, 0, none⟩)] w fun e' w' => e' = .returned (.tuple #[.int .i64 i, .int .i64 0]) ∧ GTo w w' p F (X.alloc o i) := by
  have hil : i < X.table.length := (List.getElem?_eq_some_iff.1 hi).1
  have hrd := gready_any p F X w h
  rw [hr] at hrd
  have htf := gtouch_ok p i (i / X.row) 0 F X o w h hx (by have := hz.free; omega) (by have := hz.row; omega) rfl (hz.k64 hil) (by have := hz.tab.2; omega) (by omega) hm
  obtain ⟨L, d, b, A, ca, vp, vt, vo, h, hF⟩ := h
  obtain ⟨c0, f0, s0⟩ := h.blk.facts
  obtain ⟨At, ct, rfl, -⟩ := own_shape h.tbl
  have ht4 := hz.tab.2
  have H := Lib.hid (And.intro hrd (And.intro (index_hit X.table 0 i At ct w (Sl.of_own h.tbl) (by omega) hi hf) htf))
  have HI := Lib.hid hi
  have u1 : (0 : Int) ≤ (i : Int) := by omega
  have u2 : (i : Int) < (X.table.length : Int) := by omega
  clear h hF hr hrd hf hi htf hx hz hm
  go_enter Tryz.func59, Tryz.ntmps59
  go_wp2_with (first
    | (go_at_call 43; (refine H.out.1.mono ?_); rintro e w1 ⟨rfl, rfl⟩)
    | (go_at_call 90; (refine H.out.2.1.mono ?_); rintro e w1 ⟨rfl, rfl⟩)
    | (go_at_call 72; (refine H.out.2.2.mono ?_); rintro e w1 ⟨rfl, F1, ⟨L1, d1, b1, A1, ca1, vp1, vt1, vo1, hg, hF1⟩, hc1, hn1⟩; obtain ⟨c9, f9, s9⟩ := hg.blk.facts; obtain ⟨g, ct1, rfl, hgl, hlg, hce, hfe⟩ := hg.entry (i := i) (s := 0) HI.out; have HT := Lib.hid (And.intro hg (And.intro hF1 (And.intro hc1 hn1))); clear hg hF1 hc1 hn1))
  go_ret2
  refine ⟨rfl, ?_⟩
  have := HT.out.1.tset rfl i 1
  exact To.then HT.out.2.2.1 HT.out.2.2.2 (this.1.to this.2 (by omega) HT.out.2.1)

end Go.Proofs.YtjkkoogfaibhiaaGreatDoor

/- Append of one byte, one int, to a row of the call's own. -/
namespace Go.Proofs.YtjkkoogfaibhiaaGreatDoor
open Go.RowKit

theorem news_one (w : World) (x : Value) (t : TypeId) : ∀ j u, ([x] : List Value)[j]? = some u → (w.alloc (.cells #[x] t)).cell? ((⟨w.heap.size, 0, none⟩ : Addr).add j) = some u := by
  intro j u hu
  have := (Blk.new w t #[x]).cell j
  rw [Addr.add_lit, Nat.zero_add]
  rw [this]
  simpa using hu

theorem u8Info_ : (Tryz.prog.info? 5).map (fun i => (i.zero, i.size, i.bytes)) = some (some (.int .u8 0), 1, 1) := by kernel_rfl
theorem app_byte {w : World} {ops : Array Oper} {rest : List Oper} {o : Oper} {a : Act} {Q : Exit → Act → World → Prop} (hgd : o.guard = none) (s x : Operand)
    (ho : o.op = .call { callee := .builtin .append, args := #[s, x], argTypes := #[34, 34] }) (base : Nat) (v : Value) (n : Nat) (xs : List Value) (hs : a.eval s = v) (hown : w.ownsRow base 5 1 v n xs)
    (e : Int) (hx : a.eval x = .slice (some ⟨w.heap.size, 0, none⟩) 1 1) (hn : n ≤ 1000000) (hb : base ≤ w.heap.size)
    (h : ∀ v' w', w'.ownsRow base 5 1 v' (n + 1) (xs ++ [.int .u8 e]) → Ap w w' v v' → wpList Tryz.prog ops Q rest (a.put o.dst v') w') :
    wpList Tryz.prog ops Q (o :: rest) a (w.alloc (.cells #[.int .u8 e] 5)) := by
  obtain ⟨i0, hi0, hz0, hz1, hz2⟩ := info_parts u8Info_
  refine wpList_append_own_at _ hgd s x 34 ho base 5 i0 _ 1 1 Tryz.underlying34 hi0 hz0 hz1 hz2 rfl (by omega) v n xs hs (own_grew hown ((Chg.refl _ _).alloc _)) ⟨w.heap.size, 0, none⟩ 1 1 [.int .u8 e] hx rfl (news_one _ _ _) (by simp [Value.oneCell']) (by simp only [maxLen]; omega) (by omega) (by simp; omega) ?_
  intro v1 w1 h1 h2 _ h4
  exact h v1 w1 h1 ((Ap.refl _ _).push ((Chg.refl _ _).alloc _) h2 h4)
theorem step_app_byte {w : World} {ops : Array Oper} {o : Oper} {a : Act} {K : Act → World → Prop} {Q : Exit → Act → World → Prop} {E : Prop} (hgd : o.guard = none) (s x : Operand)
    (ho : o.op = .call { callee := .builtin .append, args := #[s, x], argTypes := #[34, 34] }) (base : Nat) (v : Value) (n : Nat) (xs : List Value) (hs : a.eval s = v) (hown : w.ownsRow base 5 1 v n xs)
    (e : Int) (hx : a.eval x = .slice (some ⟨w.heap.size, 0, none⟩) 1 1) (hn : n ≤ 1000000) (hb : base ≤ w.heap.size)
    (h : ∀ v' w', w'.ownsRow base 5 1 v' (n + 1) (xs ++ [.int .u8 e]) → Ap w w' v v' → K (a.put o.dst v') w') :
    if Region.wanted o (yielded ops a.tmps) = true then Oper.wp Tryz.prog o a (w.alloc (.cells #[.int .u8 e] 5)) K Q else E := by
  obtain ⟨i0, hi0, hz0, hz1, hz2⟩ := info_parts u8Info_
  obtain ⟨v1, w1, hr, h1, h2, _, h4⟩ := run_append_own_at (P := Tryz.prog) (w.alloc (.cells #[.int .u8 e] 5)) base 34 o.type 5 i0 _ 1 1 Tryz.underlying34 hi0 hz0 hz1 hz2 rfl (by omega) v n xs (own_grew hown ((Chg.refl _ _).alloc _)) ⟨w.heap.size, 0, none⟩ 1 1 [.int .u8 e] rfl (news_one _ _ _) (by simp [Value.oneCell']) (by simp only [maxLen]; omega) (by omega) (by simp; omega)
  exact step_append_run hgd s x 34 ho hs hx hr (h v1 w1 h1 ((Ap.refl _ _).push ((Chg.refl _ _).alloc _) h2 h4))

theorem i64Info_ : (Tryz.prog.info? 3).map (fun i => (i.zero, i.size, i.bytes)) = some (some (.int .i64 0), 1, 8) := by kernel_rfl
theorem app_int {w : World} {ops : Array Oper} {rest : List Oper} {o : Oper} {a : Act} {Q : Exit → Act → World → Prop} (hgd : o.guard = none) (s x : Operand)
    (ho : o.op = .call { callee := .builtin .append, args := #[s, x], argTypes := #[39, 39] }) (base : Nat) (v : Value) (n : Nat) (xs : List Value) (hs : a.eval s = v) (hown : w.ownsRow base 3 1 v n xs)
    (e : Int) (hx : a.eval x = .slice (some ⟨w.heap.size, 0, none⟩) 1 1) (hn : n ≤ 1000000) (hb : base ≤ w.heap.size)
    (h : ∀ v' w', w'.ownsRow base 3 1 v' (n + 1) (xs ++ [.int .i64 e]) → Ap w w' v v' → wpList Tryz.prog ops Q rest (a.put o.dst v') w') :
    wpList Tryz.prog ops Q (o :: rest) a (w.alloc (.cells #[.int .i64 e] 3)) := by
  obtain ⟨i0, hi0, hz0, hz1, hz2⟩ := info_parts i64Info_
  refine wpList_append_own_at _ hgd s x 39 ho base 3 i0 _ 1 8 Tryz.underlying39 hi0 hz0 hz1 hz2 rfl (by omega) v n xs hs (own_grew hown ((Chg.refl _ _).alloc _)) ⟨w.heap.size, 0, none⟩ 1 1 [.int .i64 e] hx rfl (news_one _ _ _) (by simp [Value.oneCell']) (by simp only [maxLen]; omega) (by omega) (by simp; omega) ?_
  intro v1 w1 h1 h2 _ h4
  exact h v1 w1 h1 ((Ap.refl _ _).push ((Chg.refl _ _).alloc _) h2 h4)
theorem step_app_int {w : World} {ops : Array Oper} {o : Oper} {a : Act} {K : Act → World → Prop} {Q : Exit → Act → World → Prop} {E : Prop} (hgd : o.guard = none) (s x : Operand)
    (ho : o.op = .call { callee := .builtin .append, args := #[s, x], argTypes := #[39, 39] }) (base : Nat) (v : Value) (n : Nat) (xs : List Value) (hs : a.eval s = v) (hown : w.ownsRow base 3 1 v n xs)
    (e : Int) (hx : a.eval x = .slice (some ⟨w.heap.size, 0, none⟩) 1 1) (hn : n ≤ 1000000) (hb : base ≤ w.heap.size)
    (h : ∀ v' w', w'.ownsRow base 3 1 v' (n + 1) (xs ++ [.int .i64 e]) → Ap w w' v v' → K (a.put o.dst v') w') :
    if Region.wanted o (yielded ops a.tmps) = true then Oper.wp Tryz.prog o a (w.alloc (.cells #[.int .i64 e] 3)) K Q else E := by
  obtain ⟨i0, hi0, hz0, hz1, hz2⟩ := info_parts i64Info_
  obtain ⟨v1, w1, hr, h1, h2, _, h4⟩ := run_append_own_at (P := Tryz.prog) (w.alloc (.cells #[.int .i64 e] 3)) base 39 o.type 3 i0 _ 1 8 Tryz.underlying39 hi0 hz0 hz1 hz2 rfl (by omega) v n xs (own_grew hown ((Chg.refl _ _).alloc _)) ⟨w.heap.size, 0, none⟩ 1 1 [.int .i64 e] rfl (news_one _ _ _) (by simp [Value.oneCell']) (by simp only [maxLen]; omega) (by omega) (by simp; omega)
  exact step_append_run hgd s x 39 ho hs hx hr (h v1 w1 h1 ((Ap.refl _ _).push ((Chg.refl _ _).alloc _) h2 h4))

end Go.Proofs.YtjkkoogfaibhiaaGreatDoor
