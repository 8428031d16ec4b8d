/- A function that calls a yield, and itself ranges over a function. No program stands in this text. -/
import Derived.Test.YtenmilemdkhijaaDoorRange
namespace Go.Proofs.YtenmilemdkhijaaDoor
open Go.RowKit

theorem calls_of_marksW {P : Program} {n : Nat} {f : FuncId} {fn : Func} {c : Code} {args : Array Value} {w : World} {R : Ending → World → Prop}
    (hf : P.funcs[f]? = some fn) (hb : fn.body = some c)
    (h : c.wpIn Fence.wide n P (postM P fn R) { tmps := args ++ Array.replicate (fn.ntmps - args.size) undef, defers := [] } w) : Calls P f args w R :=
  calls_of_marks hf hb (wpIn_wide.1 h)

/-- The function runs to its end, having entered one range. -/
theorem postM_end1 {P : Program} {fn : Func} {R : Ending → World → Prop} {a : Act} {w : World} {v : Value} {D : Nat} (hD : Dfr w D) (hd : a.defers = [{ target := .collected D, args := #[] }]) (hr : ∀ w', Kept D w w' → (results fn a.tmps).run P w' = .ok v w' ∧ R (.returned v) w') : postM P fn R .normal a w :=
  ⟨_, by rw [hd]; exact ⟨D, rfl, hD, rfl⟩, v, hr _ (Kept.putObj hD.isBook _)⟩

end Go.Proofs.YtenmilemdkhijaaDoor
