/- The queue: one that is a call's own; the fixed answer (awake) is in QueU. -/
import Derived.Test.YtjpkpckgkhbfpaaQueS
namespace Go.Proofs.Ytjpkpckgkhbfpaa
open Go.RowKit Go.Maps

/-- A queue that lies wholly in blocks that are new since w. -/
structure QMine (w W : World) (b : Nat) (l : List Itm) (A : Option Addr) (c M : Nat) (added : Int) : Prop where
  q : Q W b l A c M added
  grew : Grew w W
  new : ∀ k, QF b A M k → w.heap.size ≤ k

theorem QMine.more {w W W' : World} {b c M : Nat} {l : List Itm} {A : Option Addr} {added : Int} (h : QMine w W b l A c M added) (hg : Grew W W') : QMine w W' b l A c M added := ⟨h.q.grew hg, Grew.trans h.grew hg, h.new⟩
theorem QMine.same {w W W' : World} {b c M : Nat} {l l' : List Itm} {A : Option Addr} {added : Int} (h : QMine w W b l A c M added) (hq : Q W' b l' A c M added) (hc : Chg (QF b A M) W W') : QMine w W' b l' A c M added :=
  ⟨hq, Chg.trans h.grew hc fun i hi hb => absurd (h.new i hb) (by omega), h.new⟩
theorem QMine.to {w W W' : World} {b c M : Nat} {l l' : List Itm} {A : Option Addr} {added added' : Int} (h : QMine w W b l A c M added) (ht : QTo W W' b A M l' added') : ∃ A' c', QMine w W' b l' A' c' M added' := by
  obtain ⟨A', c', hq, hc, hn⟩ := ht
  refine ⟨A', c', hq, Chg.trans h.grew hc fun i hi hb => absurd (h.new i hb) (by omega), fun k hk => ?_⟩
  rcases hn k hk with h1 | h1
  · exact h.new k h1
  · have := h.grew.size; omega
theorem QMine.made (w : World) : QMine w ((w.alloc (.map #[] 0)).alloc (.cells #[.slice none 0 0, .map (some w.heap.size), .int .i64 0] 80)) (w.heap.size + 1) [] none 0 w.heap.size 0 := by
  refine ⟨⟨⟨?_, World.ownsRow_nil _ _ _ _, ?_⟩, by simp, fun x hx => by cases hx⟩, ((Chg.refl _ _).alloc _).alloc _, ?_⟩
  · have := Blk.new (w.alloc (.map #[] 0)) 80 #[.slice none 0 0, .map (some w.heap.size), .int .i64 0]
    simpa using this
  · exact (IMap.made Try.prog 3 w).grew ((Chg.refl _ _).alloc _)
  · rintro k (rfl | rfl | ⟨a, ha, _⟩)
    · omega
    · omega
    · cases ha

end Go.Proofs.Ytjpkpckgkhbfpaa
