/- A drawn region of a round, walked as one outside of it: one way, with what is held (program-free). -/
import Derived.Test.YtjpkpckgkhbfpaaRange
import Derived.OrdersHeld
import Derived.Deep.RegionHeld
namespace Go.Proofs.Ytjpkpckgkhbfpaa
open Go.RowKit

section
variable {P : Program} {n L : Nat} {ops : Array Oper} {Q : Exit → Act → World → Prop} {md : Region.Mode} {S : World → Prop}

theorem rowsIn_wide {n : Nat} {row : String} {args : Array Value} {w : World} {R : Value → World → Prop} (h : Rows P row args w R) : RowsIn Fence.wide n P row args w R :=
  fun c cs _ => let ⟨v, w', r, s⟩ := h c cs; ⟨v, w', r, stepsIn_wide.2 s⟩

theorem wpIn_of_wp {o : Oper} {a : Act} {w : World} {K : Act → World → Prop} (h : o.wp P a w K Q) : o.wpIn Fence.wide n P a w K Q := by
  unfold Oper.wp at h
  unfold Oper.wpIn
  refine ⟨fun f hf => trivial, ?_⟩
  rw [show (Fence.wide).round = none from rfl, Oper.semAt_none]
  generalize (execOp a.eval o).run P w = r at h ⊢
  cases r with
  | ok x w' =>
    cases x <;> simp only [Oper.upon, Oper.uponIn] at h ⊢
    all_goals first
      | exact h
      | exact ⟨fun hd => (by cases hd), callsIn_wide.2 h⟩
      | exact ⟨fun hd => (by cases hd), rowsIn_wide h⟩
      | exact h.elim
  | halt x w' => cases x <;> exact h

theorem wpOpIn_of_wpOp (hO : ∀ a w, Q .outgrown a w → False) {i : Nat} {a : Act} {w : World} {K : Act → World → Prop} (h : wpOp P ops Q i K a w) : wpOpIn Fence.wide n P ops Q i K a w := by
  unfold wpOp at h
  unfold wpOpIn
  cases ho : ops[i]? with
  | none => simpa [ho] using h
  | some o =>
    simp only [ho] at h ⊢
    split
    · rename_i hw
      simp only [hw, if_true] at h
      rcases h with h | ⟨_, a', w', h⟩
      · exact wpIn_of_wp h
      · exact (hO _ _ h).elim
    · rename_i hw
      simp only [hw] at h
      exact ⟨fun f hf => trivial, h⟩

theorem wpAnyIn_of_any (hO : ∀ a w, Q .outgrown a w → False) : ∀ (fuel : Nat) (listed : Array Bool) (a : Act) (w : World), wpAny P md ops Q fuel listed a w → wpAnyIn Fence.wide n P md ops Q fuel listed a w
  | 0, _, _, _, h => h
  | fuel + 1, _, _, _, h => ⟨h.1, fun i hi => wpOpIn_mono (fun a w => wpAnyIn_of_any hO fuel _ a w) (wpOpIn_of_wpOp hO (h.2 i hi))⟩

/-- A drawn region of a round that holds S. -/
theorem wpIn_region_held_round {id : Nat} {a : Act} {w : World} (hO : ∀ a w, Q .outgrown a w → False) (hm : P.follows .mixedOrders = true) (hnd : noDefer ops = true) (hS : S w.drew)
    (h : S w.drew → wpAnyH P .any ops Q S ops.size (Array.replicate ops.size false) a w.drew) : (Code.region id ops true).wpIn (Fence.wide.inRound L) n P Q a w :=
  wpIn_region_any hm (wpAnyIn_inRound hnd _ _ _ _ (wpAnyIn_of_any hO _ _ _ _ (wpAny_of_held _ _ _ _ (h hS))))
/-- .. and one of a fenced call. -/
theorem wpIn_region_held_wide {id : Nat} {a : Act} {w : World} (hO : ∀ a w, Q .outgrown a w → False) (hm : P.follows .mixedOrders = true) (hS : S w.drew)
    (h : S w.drew → wpAnyH P .any ops Q S ops.size (Array.replicate ops.size false) a w.drew) : (Code.region id ops true).wpIn Fence.wide n P Q a w :=
  wpIn_region_any hm (wpAnyIn_of_any hO _ _ _ _ (wpAny_of_held _ _ _ _ (h hS)))
end

end Go.Proofs.Ytjpkpckgkhbfpaa
