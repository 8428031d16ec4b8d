/- What a law's arguments are, opened: a slice of whatever element, record by record. No program stands in this text. -/
import Derived.Test.YtjpkpckgkhbfpaaBase
import Derived.ProofKit
import Derived.OpenShut
import Derived.ShutString
import Derived.ChangeOld
import Derived.Deep.Slices
import Derived.Deep.Fields
namespace Go.Proofs.Ytjpkpckgkhbfpaa
open Go.ChangeShapes Go.WideShapes Go.ChangeAt Go.RowKit Go.Deep

theorem choose_list {α : Type} (P : Nat → α → Prop) : ∀ (n : Nat), (∀ i, i < n → ∃ x, P i x) → ∃ l : List α, l.length = n ∧ ∀ i x, l[i]? = some x → P i x
  | 0, _ => ⟨[], rfl, fun i x h => by simp at h⟩
  | n + 1, h => by
    obtain ⟨l, hl, hp⟩ := choose_list P n (fun i hi => h i (by omega))
    obtain ⟨x, hx⟩ := h n (by omega)
    refine ⟨l ++ [x], by simp [hl], fun i y hy => ?_⟩
    by_cases hi : i < l.length
    · rw [List.getElem?_append_left hi] at hy
      exact hp i y hy
    · rw [List.getElem?_append_right (by omega)] at hy
      have h0 : i - l.length = 0 := by
        rcases Nat.eq_zero_or_pos (i - l.length) with h0 | h0
        · exact h0
        · rw [List.getElem?_eq_none (by simp; omega)] at hy; cases hy
      rw [h0] at hy
      simp at hy
      subst hy
      obtain rfl : i = n := by omega
      exact hx

theorem wf_bounds {n : Int} (h : (Lit.int .i64 n).wf = true) : -9223372036854775808 ≤ n ∧ n ≤ 9223372036854775807 := by
  simpa [Lit.wf, IntKind.min, IntKind.max, IntKind.signed, IntKind.bits] using h

section
variable {H : Type} {enc : TypeId × Value → H} {P : Program} {w : World} {base : Nat} {spare : Nat → Bool} {held : Bool}

/-- A slice whose elements have s cells each: for each element its cells, and that they read. -/
theorem open_elems {t e : TypeId} {fuel s len cap : Nat} {A : Option Addr} {x : DataW H × List MemPlace} (ht : P.underlying t = some (.slice e)) (hC : P.cellsOf e = s) (hs : 0 < s)
    (h : DataW.trod enc P w base spare held fuel t [.slice A len cap] = some x) :
    len ≤ maxLen ∧ (len = 0 ∨ ∃ b off, A = some ⟨b, off, none⟩ ∧ b < w.heap.size ∧ ∀ i, i < len → ∃ (cs : List Value) (n : Nat) (y : DataW H × List MemPlace), cs.length = s ∧ (∀ j, j < s → w.cell? ⟨b, off + (i * s + j), none⟩ = cs[j]?) ∧ DataW.trod enc P w base spare held n e cs = some y) := by
  rcases open_slice ht h with ⟨hcs, _⟩ | ⟨a, len', cap', m, n, D, Pl, hcs, hb, hl, hm, hmm, hx, hi⟩
  · simp at hcs
    obtain ⟨rfl, rfl, rfl⟩ := hcs
    exact ⟨Nat.zero_le _, .inl rfl⟩
  · simp at hcs
    obtain ⟨rfl, rfl, rfl⟩ := hcs
    refine ⟨Nat.le_trans hl hm, ?_⟩
    rcases Nat.eq_zero_or_pos len with h0 | h0
    · exact .inl h0
    right
    have hlm : len ≤ m := by rw [hmm]; split <;> omega
    obtain ⟨b, off, spot⟩ := a
    have cellAt : ∀ i, i < len → ∃ cs' y, cs'.length = s ∧ (∀ j, j < s → w.cell? (Addr.add ⟨b, off, spot⟩ (i * s + j)) = cs'[j]?) ∧ DataW.trod enc P w base spare held n e cs' = some y := by
      intro i hil
      obtain ⟨cs', hc, ht'⟩ := hi i (by omega)
      rw [hC] at hc
      obtain ⟨_, hcl, hat⟩ := World.cells?_some hc
      refine ⟨cs', _, hcl, fun j hj => ?_, ht'⟩
      rw [← hat j hj]
      congr 1
      unfold Addr.add
      by_cases h1 : i * s = 0 <;> by_cases h2 : j = 0 <;> simp [h1, h2, Nat.add_assoc]
    have hspot : spot = none := by
      obtain ⟨cs', y, hcl, hat, _⟩ := cellAt 0 h0
      have := hat 0 hs
      have h0' : cs'[0]? = some (cs'[0]'(by omega)) := List.getElem?_eq_getElem (by omega)
      rw [h0'] at this
      simpa [Addr.add] using World.cell?_spot this
    subst hspot
    refine ⟨b, off, rfl, ?_, fun i hil => ?_⟩
    · obtain ⟨cs', y, hcl, hat, _⟩ := cellAt 0 h0
      have := hat 0 hs
      have h0' : cs'[0]? = some (cs'[0]'(by omega)) := List.getElem?_eq_getElem (by omega)
      rw [h0'] at this
      simpa [Addr.add] using World.block_lt_of_cell? w _ this
    · obtain ⟨cs', y, hcl, hat, ht'⟩ := cellAt i hil
      refine ⟨cs', n, y, hcl, fun j hj => ?_, ht'⟩
      have := hat j hj
      rw [Addr.add_lit] at this
      exact this
end

end Go.Proofs.Ytjpkpckgkhbfpaa
