/- The plain law of the heap: the first is taken. -/
import Derived.Test.YtjpkpckgkhbfpaaQueR
namespace Go.Proofs.Ytjpkpckgkhbfpaa

theorem downL_perm (l : List Itm) (i : Nat) (hi : i < l.length) : (downL l i).Perm l := by
  fun_induction downL l i with
  | case1 l i hc ih => exact (ih (by rw [swp_len]; exact hc.2)).trans (swp_perm hi hc.2)
  | case2 => exact List.Perm.refl _

theorem cut_split {l : List Itm} {i : Nat} {x : Itm} (hx : l[i]? = some x) : swp l i (l.length - 1) = (swp l i (l.length - 1)).dropLast ++ [x] := by
  have hi : i < l.length := (List.getElem?_eq_some_iff.1 hx).1
  obtain ⟨y, hy⟩ : ∃ y, l[l.length - 1]? = some y := ⟨_, List.getElem?_eq_getElem (by omega)⟩
  have hne : swp l i (l.length - 1) ≠ [] := fun e => by have := swp_len l i (l.length - 1); rw [e] at this; simp at this; omega
  have hlast : (swp l i (l.length - 1)).getLast hne = x := by
    rw [List.getLast_eq_getElem]
    have h := swp_get hx hy (l.length - 1)
    rw [if_pos rfl] at h
    have := (List.getElem?_eq_some_iff.1 h).2
    simpa [swp_len] using this
  have := (List.dropLast_concat_getLast hne).symm
  rw [hlast] at this
  exact this

theorem pop_perm {l : List Itm} {x : Itm} (hx : l[0]? = some x) : l.Perm (x :: remL l 0) := by
  have hl : 0 < l.length := (List.getElem?_eq_some_iff.1 hx).1
  have h1 := cut_split hx
  have h2 : (swp l 0 (l.length - 1)).Perm l := swp_perm hl (by omega)
  have h3 : (x :: (swp l 0 (l.length - 1)).dropLast).Perm l := by
    refine List.Perm.trans ?_ h2
    rw [h1]
    simpa using (List.perm_append_comm (l₁ := [x]) (l₂ := (swp l 0 (l.length - 1)).dropLast))
  refine h3.symm.trans (List.Perm.cons x ?_)
  unfold remL
  simp only []
  split
  · rw [upL_zero]
    exact (downL_perm _ _ (by rw [List.length_dropLast, swp_len]; omega)).symm
  · exact List.Perm.refl _

theorem pop_heap {l : List Itm} {x : Itm} (h : hp l) (hx : l[0]? = some x) : hp (remL l 0) := by
  have hl : 0 < l.length := (List.getElem?_eq_some_iff.1 hx).1
  obtain ⟨y, hy⟩ : ∃ y, l[l.length - 1]? = some y := ⟨_, List.getElem?_eq_getElem (by omega)⟩
  have hm : ∀ (k : Nat) (a : Itm), (swp l 0 (l.length - 1)).dropLast[k]? = some a → 0 < k → l[k]? = some a := by
    intro k a ha hk
    have hkl := (List.getElem?_eq_some_iff.1 ha).1
    rw [List.length_dropLast, swp_len] at hkl
    rw [List.getElem?_dropLast, if_pos (by rw [swp_len]; omega), swp_get hx hy, if_neg (by omega), if_neg (by omega)] at ha
    exact ha
  unfold remL
  simp only []
  split
  · rw [upL_zero]
    refine downL_heap _ _ (by rw [List.length_dropLast, swp_len]; omega) ⟨fun k a b hk hne ha hb => ?_, fun _ _ _ h0 => absurd h0 (by omega)⟩
    exact h k a b hk (hm k a ha hk) (hm _ b hb (by omega))
  · intro k a b hk ha hb
    have hkl := (List.getElem?_eq_some_iff.1 ha).1
    rw [List.length_dropLast, swp_len] at hkl
    omega

end Go.Proofs.Ytjpkpckgkhbfpaa
