/- Where a call's own things lie. -/
import Derived.Test.YtjpkpckgkhbfpaaBase
namespace Go.Proofs.Ytjpkpckgkhbfpaa
open Go.RowKit

/-- Where a call's own things lie: in F, or in what is new since w; G: what may have changed since w. -/
structure Bs where
  w : World
  F : Nat → Prop
  G : Nat → Prop
  up : ∀ k, w.heap.size ≤ k → F k
  sub : ∀ k, F k → G k
def Bs.of (w : World) : Bs := ⟨w, fun k => w.heap.size ≤ k, fun k => w.heap.size ≤ k, fun _ h => h, fun _ h => h⟩
instance : Coe World Bs := ⟨Bs.of⟩
theorem Bs.of_grew {w W : World} (h : Chg (Bs.of w).G (Bs.of w).w W) : Grew w W := Chg.mono (G := NoF) h fun i hi e => absurd (show w.heap.size ≤ i from e) (by omega)
/-- The same things, seen from a world on the way. -/
def Bs.at_ (B : Bs) (W : World) (h : B.w.heap.size ≤ W.heap.size) : Bs := ⟨W, B.F, B.F, fun k hk => B.up k (Nat.le_trans h hk), fun _ h => h⟩
/-- What is new since w0, but for some boxes. -/
def Bs.but2 (w0 : World) (N : Nat → Prop) (W : World) (hv : ∀ k, N k → k < W.heap.size) (h0 : w0.heap.size ≤ W.heap.size) : Bs :=
  ⟨W, fun k => w0.heap.size ≤ k ∧ ¬ N k, fun k => w0.heap.size ≤ k ∧ ¬ N k, fun k h => ⟨by omega, fun hn => by have := hv k hn; omega⟩, fun _ h => h⟩
theorem Bs.but2_grew {w0 W W' : World} {N : Nat → Prop} {hv : ∀ k, N k → k < W.heap.size} {h0 : w0.heap.size ≤ W.heap.size} (hg : Grew w0 W) (hc : Chg (Bs.but2 w0 N W hv h0).G (Bs.but2 w0 N W hv h0).w W') : Grew w0 W' :=
  Chg.mono (Grew.then hg hc) fun i hi e => absurd e.1 (by omega)
/-- The base of a range: own blocks are the old ones below n, and what is new; those of X may change, too. -/
def Bs.rngX (B : Bs) (n : Nat) (X : Nat → Prop) (W : World) : Bs := ⟨W, fun k => (B.F k ∧ k < n) ∨ W.heap.size ≤ k, fun k => ((B.F k ∧ k < n) ∨ W.heap.size ≤ k) ∨ X k, fun _ h => .inr h, fun _ h => .inl h⟩
end Go.Proofs.Ytjpkpckgkhbfpaa
