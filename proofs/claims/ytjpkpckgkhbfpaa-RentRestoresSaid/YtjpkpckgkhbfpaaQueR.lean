/- The plain law of the heap: down. -/
import Derived.Test.YtjpkpckgkhbfpaaQueP
namespace Go.Proofs.Ytjpkpckgkhbfpaa

theorem bst_spec {l : List Itm} {i : Nat} (hi : i < l.length) : ∀ (t : Nat) (y : Itm), l[bst l i t]? = some y → (∀ x, l[i]? = some x → ¬ x.lt y) ∧ ∀ (s : Nat) (c : Itm), s < t → l[2 * i + 1 + s]? = some c → ¬ c.lt y
  | 0, y, hy => ⟨fun x hx => by
      have : l[i]? = some y := hy
      rw [hx] at this
      cases this
      exact Itm.lt_irrefl _, fun s c hs => absurd hs (by omega)⟩
  | t + 1, y, hy => by
    obtain ⟨y0, hy0⟩ : ∃ y0, l[bst l i t]? = some y0 := ⟨_, List.getElem?_eq_getElem (bst_lt hi t)⟩
    have ih := bst_spec hi t y0 hy0
    cases hc : l[2 * i + 1 + t]? with
    | none =>
      have e : bst l i (t + 1) = bst l i t := by rw [bst, hc]
      rw [e, hy0] at hy
      cases hy
      refine ⟨ih.1, fun s c hs hsc => ?_⟩
      by_cases h : s = t
      · subst h; rw [hc] at hsc; cases hsc
      · exact ih.2 s c (by omega) hsc
    | some c0 =>
      by_cases hlt : c0.lt y0
      · rw [bst_yes hc hy0 hlt, hc] at hy
        cases hy
        refine ⟨fun x hx => Itm.le_trans (Itm.lt_asymm hlt) (ih.1 x hx), fun s c hs hsc => ?_⟩
        by_cases h : s = t
        · subst h; rw [hc] at hsc; cases hsc; exact Itm.lt_irrefl _
        · exact Itm.le_trans (Itm.lt_asymm hlt) (ih.2 s c (by omega) hsc)
      · rw [bst_no hc hy0 hlt, hy0] at hy
        cases hy
        refine ⟨ih.1, fun s c hs hsc => ?_⟩
        by_cases h : s = t
        · subst h; rw [hc] at hsc; cases hsc; exact hlt
        · exact ih.2 s c (by omega) hsc

theorem bst_is (l : List Itm) (i : Nat) : bst l i 2 = i ∨ bst l i 2 = 2 * i + 1 ∨ bst l i 2 = 2 * i + 2 := by
  have h : ∀ t, bst l i (t + 1) = bst l i t ∨ bst l i (t + 1) = 2 * i + 1 + t := fun t => by
    rw [bst]
    split
    · split
      · exact .inr rfl
      · exact .inl rfl
    · exact .inl rfl
  rcases h 1 with h1 | h1
  · rcases h 0 with h0 | h0
    · exact .inl (h1.trans (h0.trans rfl))
    · exact .inr (.inl (h1.trans h0))
  · exact .inr (.inr (by rw [h1]))

/-- No one is ahead of the one above it but the children of i, which stand to the one above i. -/
structure hpDn (l : List Itm) (i : Nat) : Prop where
  but : ∀ (k : Nat) (x p : Itm), 0 < k → (k - 1) / 2 ≠ i → l[k]? = some x → l[(k - 1) / 2]? = some p → ¬ x.lt p
  grand : ∀ (k : Nat) (x g : Itm), 0 < i → 0 < k → (k - 1) / 2 = i → l[k]? = some x → l[(i - 1) / 2]? = some g → ¬ x.lt g

theorem hpDn_stop {l : List Itm} {i : Nat} (hi : i < l.length) (h : hpDn l i) (hb : bst l i 2 = i) : hp l := by
  intro k a b hk ha hpb
  by_cases e : (k - 1) / 2 = i
  · rw [e] at hpb
    have hs := (bst_spec hi 2 b (by rw [hb]; exact hpb)).2 (k - (2 * i + 1)) a (by omega)
    rw [show 2 * i + 1 + (k - (2 * i + 1)) = k by omega] at hs
    exact hs ha
  · exact h.but k a b hk e ha hpb

theorem hpDn_swp {l : List Itm} {i q : Nat} {x y : Itm} (hi : i < l.length) (h : hpDn l i) (hq : bst l i 2 = q) (hne : q ≠ i) (hx : l[i]? = some x) (hy : l[q]? = some y) : hpDn (swp l i q) q := by
  have hg := swp_get hx hy
  have hsp := bst_spec hi 2 y (by rw [hq]; exact hy)
  have hqi : 0 < q ∧ (q - 1) / 2 = i ∧ i < q := by rcases bst_is l i with e | e | e <;> omega
  refine ⟨fun k a b hk hkp ha hb => ?_, fun k a b h0 hk hkk ha hb => ?_⟩
  · rw [hg] at ha hb
    rw [if_neg hkp] at hb
    by_cases h1 : k = q
    · rw [if_pos h1] at ha
      cases ha
      rw [if_pos (by rw [h1]; exact hqi.2.1)] at hb
      cases hb
      exact hsp.1 x hx
    · rw [if_neg h1] at ha
      by_cases h2 : k = i
      · rw [if_pos h2] at ha
        cases ha
        rw [if_neg (by omega)] at hb
        exact h.grand q y b (by omega) hqi.1 hqi.2.1 hy (by rw [← h2]; exact hb)
      · rw [if_neg h2] at ha
        by_cases h3 : (k - 1) / 2 = i
        · rw [if_pos h3] at hb
          cases hb
          have hs := hsp.2 (k - (2 * i + 1)) a (by omega)
          rw [show 2 * i + 1 + (k - (2 * i + 1)) = k by omega] at hs
          exact hs ha
        · rw [if_neg h3] at hb
          exact h.but k a b hk h3 ha hb
  · rw [hg] at ha hb
    rw [if_neg (by omega), if_pos hqi.2.1] at hb
    cases hb
    rw [if_neg (by omega), if_neg (by omega)] at ha
    exact h.but k a y hk (by omega) ha (by rw [hkk]; exact hy)

theorem downL_heap (l : List Itm) (i : Nat) (hi : i < l.length) (h : hpDn l i) : hp (downL l i) := by
  fun_induction downL l i with
  | case1 l i hc ih =>
    obtain ⟨x, hx⟩ : ∃ x, l[i]? = some x := ⟨_, List.getElem?_eq_getElem hi⟩
    obtain ⟨y, hy⟩ : ∃ y, l[bst l i 2]? = some y := ⟨_, List.getElem?_eq_getElem hc.2⟩
    exact ih (by rw [swp_len]; exact hc.2) (hpDn_swp hi h rfl (by omega) hx hy)
  | case2 l i hc => exact hpDn_stop hi h (by have := bst_ge l i 2; have := bst_lt hi 2; omega)

end Go.Proofs.Ytjpkpckgkhbfpaa
