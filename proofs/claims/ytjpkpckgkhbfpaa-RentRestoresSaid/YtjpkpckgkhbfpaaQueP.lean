/- The plain law of the heap: no program. -/
import Derived.Test.YtjpkpckgkhbfpaaQueH
namespace Go.Proofs.Ytjpkpckgkhbfpaa

theorem Itm.le_trans {x y z : Itm} (h1 : ¬ y.lt x) (h2 : ¬ z.lt y) : ¬ z.lt x := by
  unfold Itm.lt at *
  omega
theorem Itm.lt_asymm {x y : Itm} (h : x.lt y) : ¬ y.lt x := by
  unfold Itm.lt at *
  omega
theorem Itm.lt_irrefl (x : Itm) : ¬ x.lt x := by
  unfold Itm.lt
  omega

/-- No one is ahead of the one above it. -/
def hp (l : List Itm) : Prop := ∀ (k : Nat) (x p : Itm), 0 < k → l[k]? = some x → l[(k - 1) / 2]? = some p → ¬ x.lt p

/-- .. but at place i, whose children stand to the one above it. -/
structure hpUp (l : List Itm) (i : Nat) : Prop where
  but : ∀ (k : Nat) (x p : Itm), 0 < k → k ≠ i → l[k]? = some x → l[(k - 1) / 2]? = some p → ¬ x.lt p
  grand : ∀ (k : Nat) (x g : Itm), 0 < i → 0 < k → (k - 1) / 2 = i → l[k]? = some x → l[(i - 1) / 2]? = some g → ¬ x.lt g

theorem hpUp_swp {l : List Itm} {i : Nat} {x p : Itm} (h : hpUp l i) (hi : 0 < i) (hx : l[i]? = some x) (hpp : l[(i - 1) / 2]? = some p) (hlt : x.lt p) : hpUp (swp l i ((i - 1) / 2)) ((i - 1) / 2) := by
  have hg := swp_get hx hpp
  refine ⟨fun k a b hk hne ha hb => ?_, fun k a b h0 hk hkk ha hb => ?_⟩
  · rw [hg] at ha hb
    rw [if_neg hne] at ha
    by_cases hki : k = i
    · subst hki
      rw [if_pos rfl] at ha hb
      cases ha; cases hb
      exact Itm.lt_asymm hlt
    · rw [if_neg hki] at ha
      by_cases h1 : (k - 1) / 2 = (i - 1) / 2
      · rw [if_pos h1] at hb
        cases hb
        exact Itm.le_trans (Itm.lt_asymm hlt) (h.but k a p hk hki ha (by rw [h1]; exact hpp))
      · rw [if_neg h1] at hb
        by_cases h2 : (k - 1) / 2 = i
        · rw [if_pos h2] at hb
          cases hb
          exact h.grand k a p hi hk h2 ha hpp
        · rw [if_neg h2] at hb
          exact h.but k a b hk hki ha hb
  · rw [hg] at ha hb
    rw [if_neg (by omega), if_neg (by omega)] at hb
    have hpb : ¬ p.lt b := h.but ((i - 1) / 2) p b h0 (by omega) hpp hb
    by_cases h1 : k = (i - 1) / 2
    · omega
    · rw [if_neg h1] at ha
      by_cases h2 : k = i
      · rw [if_pos h2] at ha
        cases ha
        exact hpb
      · rw [if_neg h2] at ha
        exact Itm.le_trans hpb (h.but k a p hk h2 ha (by rw [hkk]; exact hpp))

theorem upL_heap (l : List Itm) (i : Nat) (hi : i < l.length) (h : hpUp l i) : hp (upL l i) := by
  fun_induction upL l i with
  | case1 l i h0 x p hx hpp hlt ih => exact ih (by rw [swp_len]; omega) (hpUp_swp h h0 (by first | exact hx | exact hpp) (by first | exact hpp | exact hx) hlt)
  | case2 l i h0 x p hx hpp hlt =>
    intro k a b hk ha hb
    by_cases e : k = i
    · subst e
      first
        | (rw [hx] at ha; rw [hpp] at hb; cases ha; cases hb; exact hlt)
        | (rw [hpp] at ha; rw [hx] at hb; cases ha; cases hb; exact hlt)
    · exact h.but k a b hk e ha hb
  | case3 l i h0 hno =>
    exact (hno _ _ (List.getElem?_eq_getElem hi) (List.getElem?_eq_getElem (by omega))).elim
  | case4 l i h0 =>
    intro k a b hk ha hb
    exact h.but k a b hk (by omega) ha hb

theorem add_heap {l : List Itm} (x : Itm) (h : hp l) : hp (upL (l ++ [x]) l.length) := by
  refine upL_heap _ _ (by simp) ⟨fun k a p hk hne ha hb => ?_, fun k a g h0 hk hkk ha hb => ?_⟩
  · have hkl : k < l.length := by
      have := (List.getElem?_eq_some_iff.1 ha).1
      simp at this
      omega
    rw [List.getElem?_append_left hkl] at ha
    rw [List.getElem?_append_left (by omega)] at hb
    exact h k a p hk ha hb
  · have := (List.getElem?_eq_some_iff.1 ha).1
    simp at this
    omega

theorem hp_least {l : List Itm} (h : hp l) {m : Itm} (hm : l[0]? = some m) : ∀ (k : Nat) (x : Itm), l[k]? = some x → ¬ x.lt m := by
  intro k
  induction k using Nat.strongRecOn with
  | ind k ih =>
    intro x hx
    by_cases hk : k = 0
    · subst hk
      rw [hm] at hx
      cases hx
      exact Itm.lt_irrefl _
    · have hkl := (List.getElem?_eq_some_iff.1 hx).1
      obtain ⟨p, hpp⟩ : ∃ p, l[(k - 1) / 2]? = some p := ⟨_, List.getElem?_eq_getElem (by omega)⟩
      exact Itm.le_trans (ih ((k - 1) / 2) (by omega) p hpp) (h k x p (by omega) hx hpp)

end Go.Proofs.Ytjpkpckgkhbfpaa
