/- The plain law of the queue: one at any place is taken, or moved; a list in order. -/
import Derived.Test.YtjpkpckgkhbfpaaQueS
import Derived.Test.YtjpkpckgkhbfpaaQueK
namespace Go.Proofs.Ytjpkpckgkhbfpaa
open Go.Maps

theorem Itm.lt_trans {x y z : Itm} (h1 : x.lt y) (h2 : y.lt z) : x.lt z := by
  unfold Itm.lt at *
  omega
theorem Itm.lt_total {x y : Itm} (h : ¬ x.lt y) (hn : y.n ≠ x.n) : y.lt x := by
  unfold Itm.lt at *
  omega

/-- No one is ahead of the one above it, but place i and its children, which stand to the one above i. -/
structure hpAt (l : List Itm) (i : Nat) : Prop where
  but : ∀ (k : Nat) (x p : Itm), 0 < k → k ≠ i → (k - 1) / 2 ≠ i → l[k]? = some x → l[(k - 1) / 2]? = some p → ¬ x.lt p
  grand : ∀ (k : Nat) (x g : Itm), 0 < i → 0 < k → (k - 1) / 2 = i → l[k]? = some x → l[(i - 1) / 2]? = some g → ¬ x.lt g

theorem hp.dn {l : List Itm} {i : Nat} (h : hp l) : hpDn l i :=
  ⟨fun k x p hk _ hx hpp => h k x p hk hx hpp, fun k x g h0 hk hkk hx hg => by
    obtain ⟨m, hm⟩ : ∃ m, l[i]? = some m := ⟨_, List.getElem?_eq_getElem (by have := (List.getElem?_eq_some_iff.1 hx).1; omega)⟩
    exact Itm.le_trans (h i m g h0 hm hg) (h k x m hk hx (by rw [hkk]; exact hm))⟩

theorem up_or {l : List Itm} {i : Nat} (hi : i < l.length) (h : hpAt l i) : hp (upL l i) ∨ (upL l i = l ∧ hpDn l i) := by
  obtain ⟨x, hx⟩ : ∃ x, l[i]? = some x := ⟨_, List.getElem?_eq_getElem hi⟩
  by_cases h0 : 0 < i
  · obtain ⟨p, hpp⟩ : ∃ p, l[(i - 1) / 2]? = some p := ⟨_, List.getElem?_eq_getElem (by omega)⟩
    by_cases hlt : x.lt p
    · refine .inl (upL_heap l i hi ⟨fun k a b hk hne ha hb => ?_, h.grand⟩)
      by_cases e : (k - 1) / 2 = i
      · rw [e, hx] at hb
        cases hb
        exact fun hax => h.grand k a p h0 hk e ha hpp (Itm.lt_trans hax hlt)
      · exact h.but k a b hk hne e ha hb
    · refine .inr ⟨upL_stop hx hpp hlt, fun k a b hk hne ha hb => ?_, h.grand⟩
      by_cases e : k = i
      · subst e
        rw [hx] at ha
        rw [hpp] at hb
        cases ha; cases hb
        exact hlt
      · exact h.but k a b hk e hne ha hb
  · obtain rfl : i = 0 := by omega
    exact .inr ⟨upL_zero l, fun k a b hk hne ha hb => h.but k a b hk (by omega) hne ha hb, fun _ _ _ h => absurd h (by omega)⟩

theorem mend_heap {l : List Itm} {i : Nat} (hi : i < l.length) (h : hpAt l i) : hp (downL (upL l i) i) := by
  rcases up_or hi h with h1 | ⟨h1, h2⟩
  · exact downL_heap _ _ (by rw [upL_len]; exact hi) h1.dn
  · rw [h1]; exact downL_heap _ _ hi h2

theorem cut_at {l : List Itm} {i k : Nat} {a x : Itm} (hx : l[i]? = some x) (h : (swp l i (l.length - 1)).dropLast[k]? = some a) (hk : k ≠ i) : l[k]? = some a := by
  have hi : i < l.length := (List.getElem?_eq_some_iff.1 hx).1
  obtain ⟨y, hy⟩ : ∃ y, l[l.length - 1]? = some y := ⟨_, List.getElem?_eq_getElem (by omega)⟩
  have hkl := (List.getElem?_eq_some_iff.1 h).1
  rw [List.length_dropLast, swp_len] at hkl
  rw [List.getElem?_dropLast, if_pos (by rw [swp_len]; omega), swp_get hx hy, if_neg (by omega), if_neg hk] at h
  exact h

theorem rem_perm {l : List Itm} {i : Nat} {x : Itm} (hx : l[i]? = some x) : l.Perm (x :: remL l i) := by
  have hi : i < l.length := (List.getElem?_eq_some_iff.1 hx).1
  have h1 := cut_split hx
  have h2 : (swp l i (l.length - 1)).Perm l := swp_perm hi (by omega)
  have h3 : (x :: (swp l i (l.length - 1)).dropLast).Perm l := by
    refine List.Perm.trans ?_ h2
    rw [h1]
    simpa using (List.perm_append_comm (l₁ := [x]) (l₂ := (swp l i (l.length - 1)).dropLast))
  refine h3.symm.trans (List.Perm.cons x ?_)
  unfold remL
  simp only []
  split
  · exact ((downL_perm _ _ (by rw [upL_len, List.length_dropLast, swp_len]; omega)).trans (upL_perm _ _)).symm
  · exact List.Perm.refl _

theorem rem_heap {l : List Itm} {i : Nat} {x : Itm} (h : hp l) (hx : l[i]? = some x) : hp (remL l i) := by
  have hi : i < l.length := (List.getElem?_eq_some_iff.1 hx).1
  unfold remL
  simp only []
  split
  · refine mend_heap (by rw [List.length_dropLast, swp_len]; omega) ⟨fun k a b hk hne hnp ha hb => ?_, fun k a g h0 hk hkk ha hg => ?_⟩
    · exact h k a b hk (cut_at hx ha hne) (cut_at hx hb hnp)
    · exact (h.dn (i := i)).grand k a g h0 hk hkk (cut_at hx ha (by omega)) (cut_at hx hg (by omega))
  · intro k a b hk ha hb
    have hkl := (List.getElem?_eq_some_iff.1 ha).1
    rw [List.length_dropLast, swp_len] at hkl
    exact h k a b hk (cut_at hx ha (by omega)) (cut_at hx hb (by omega))

theorem find_at {l : List Itm} (hn : (l.map Itm.n).Nodup) {i : Nat} {x : Itm} (hx : l[i]? = some x) : l.findIdx? (fun y => y.n == x.n) = some i := by
  have h := ixm_at hn hx
  unfold ixm at h
  cases hj : l.findIdx? (fun y => y.n == x.n) with
  | none => rw [hj] at h; cases h
  | some j =>
    rw [hj] at h
    simp at h
    have : j = i := by omega
    rw [this]

theorem mov_heap {l : List Itm} {i : Nat} {x : Itm} (hn : (l.map Itm.n).Nodup) (h : hp l) (hx : l[i]? = some x) (d : Int) : hp (movL l i x d) := by
  have hi : i < l.length := (List.getElem?_eq_some_iff.1 hx).1
  have hi' : i < (l.set i { x with due := d }).length := by rw [List.length_set]; exact hi
  have hg : (l.set i { x with due := d })[i]? = some { x with due := d } := List.getElem?_set_self hi
  have ho : ∀ (k : Nat) (a : Itm), k ≠ i → (l.set i { x with due := d })[k]? = some a → l[k]? = some a := fun k a hk ha => by
    rwa [List.getElem?_set_ne (Ne.symm hk)] at ha
  have hat : hpAt (l.set i { x with due := d }) i :=
    ⟨fun k a b hk hne hnp ha hb => h k a b hk (ho k a hne ha) (ho _ b hnp hb), fun k a g h0 hk hkk ha hgg => (h.dn (i := i)).grand k a g h0 hk hkk (ho k a (by omega) ha) (ho _ g (by omega) hgg)⟩
  unfold movL
  simp only []
  rcases up_or hi' hat with h1 | ⟨h1, h2⟩
  · obtain ⟨j, y, hj, hy, hyn⟩ := at_of_n (l := upL (l.set i { x with due := d }) i) (n := x.n) ⟨{ x with due := d }, (upL_perm _ _).mem_iff.2 (List.mem_of_getElem? hg), rfl⟩
    rw [hj]
    exact downL_heap _ _ (List.getElem?_eq_some_iff.1 hy).1 h1.dn
  · rw [h1, find_at (x := { x with due := d }) (by rw [set_n hx]; exact hn) hg]
    exact downL_heap _ _ hi' h2

/-- A list in order. -/
def ordd (l : List Itm) : Prop := l.Pairwise Itm.lt
/-- An item in its place. -/
def putS : List Itm → Itm → List Itm
  | [], x => [x]
  | y :: l, x => if x.lt y then x :: y :: l else y :: putS l x

theorem putS_perm (l : List Itm) (x : Itm) : (putS l x).Perm (x :: l) := by
  induction l with
  | nil => exact List.Perm.refl _
  | cons y l ih =>
    unfold putS
    split
    · exact List.Perm.refl _
    · exact (List.Perm.cons y ih).trans (List.Perm.swap x y l)
theorem putS_len (l : List Itm) (x : Itm) : (putS l x).length = l.length + 1 := (putS_perm l x).length_eq
theorem putS_ord {l : List Itm} {x : Itm} (h : ordd l) (hx : ∀ y ∈ l, y.n ≠ x.n) : ordd (putS l x) := by
  induction l with
  | nil => simp [putS, ordd]
  | cons y l ih =>
    unfold ordd at h ih ⊢
    rw [List.pairwise_cons] at h
    unfold putS
    split
    · rename_i hlt
      rw [List.pairwise_cons]
      refine ⟨fun z hz => ?_, List.pairwise_cons.2 h⟩
      rcases List.mem_cons.1 hz with rfl | hz
      · exact hlt
      · exact Itm.lt_trans hlt (h.1 z hz)
    · rename_i hlt
      rw [List.pairwise_cons]
      refine ⟨fun z hz => ?_, ih h.2 fun z hz => hx z (by simp [hz])⟩
      rcases List.mem_cons.1 ((putS_perm l x).mem_iff.1 hz) with rfl | hz
      · exact Itm.lt_total hlt (hx y (by simp))
      · exact h.1 z hz

theorem ordd_uniq : ∀ {a b : List Itm}, ordd a → ordd b → a.Perm b → a = b
  | [], b, _, _, h => h.nil_eq
  | x :: a, [], _, _, h => (h.length_eq |> fun e => by simp at e)
  | x :: a, y :: b, ha, hb, h => by
    unfold ordd at ha hb
    rw [List.pairwise_cons] at ha hb
    have e : x = y := by
      have h1 : x ∈ y :: b := h.mem_iff.1 (by simp)
      have h2 : y ∈ x :: a := h.mem_iff.2 (by simp)
      rcases List.mem_cons.1 h1 with e | h1
      · exact e
      · rcases List.mem_cons.1 h2 with e | h2
        · exact e.symm
        · exact absurd (hb.1 x h1) (Itm.lt_asymm (ha.1 y h2))
    subst e
    rw [ordd_uniq ha.2 hb.2 (h.cons_inv)]

/-- The list that stands for a queue's items. -/
structure QL (l s : List Itm) : Prop where
  p : s.Perm l
  o : ordd s

theorem QL.len {l s : List Itm} (h : QL l s) : s.length = l.length := h.p.length_eq
theorem QL.nil : QL [] [] := ⟨List.Perm.refl _, List.Pairwise.nil⟩
theorem QL.uniq {l l' s s' : List Itm} (h : QL l s) (h' : QL l' s') (hp : l.Perm l') : s = s' := ordd_uniq h.o h'.o (h.p.trans (hp.trans h'.p.symm))
theorem QL.first {l s : List Itm} (h : QL l s) (hh : hp l) : l[0]? = s[0]? := by
  cases s with
  | nil => have : l = [] := h.p.nil_eq.symm; subst this; rfl
  | cons a s =>
    have hl : 0 < l.length := by have := h.len; simp at this; omega
    obtain ⟨m, hm⟩ : ∃ m, l[0]? = some m := ⟨_, List.getElem?_eq_getElem hl⟩
    have ho : ordd (a :: s) := h.o
    unfold ordd at ho
    rw [List.pairwise_cons] at ho
    rw [hm]
    have h1 : m ∈ a :: s := h.p.mem_iff.2 (List.mem_of_getElem? hm)
    rcases List.mem_cons.1 h1 with rfl | h1
    · rfl
    · exfalso
      have h2 : a ∈ l := h.p.mem_iff.1 (by simp)
      obtain ⟨k, hk⟩ := List.mem_iff_getElem?.1 h2
      exact hp_least hh hm k a hk (ho.1 m h1)
theorem erase_perm {s : List Itm} {k : Nat} {x : Itm} (hx : s[k]? = some x) : s.Perm (x :: s.eraseIdx k) := by
  induction s generalizing k with
  | nil => simp at hx
  | cons y s ih =>
    cases k with
    | zero => simp at hx; subst hx; exact List.Perm.refl _
    | succ k =>
      simp at hx
      exact (List.Perm.cons y (ih hx)).trans (List.Perm.swap x y _)
theorem QL.erase {l l' s : List Itm} {k : Nat} {x : Itm} (h : QL l s) (hx : s[k]? = some x) (hl : l.Perm (x :: l')) : QL l' (s.eraseIdx k) :=
  ⟨((erase_perm hx).symm.trans (h.p.trans hl)).cons_inv, List.Pairwise.sublist (List.eraseIdx_sublist s k) h.o⟩
theorem QL.put {l l' s : List Itm} {x : Itm} (h : QL l s) (hn : ∀ y ∈ l, y.n ≠ x.n) (hl : l'.Perm (x :: l)) : QL l' (putS s x) :=
  ⟨(putS_perm s x).trans ((List.Perm.cons x h.p).trans hl.symm), putS_ord h.o fun y hy => hn y (h.p.mem_iff.1 hy)⟩
theorem set_perm {l : List Itm} {i : Nat} {x y : Itm} (hx : l[i]? = some x) : (l.set i y).Perm (y :: l.eraseIdx i) := by
  have hi : i < l.length := (List.getElem?_eq_some_iff.1 hx).1
  have := erase_perm (s := l.set i y) (k := i) (x := y) (List.getElem?_set_self hi)
  rwa [List.eraseIdx_set_eq] at this

end Go.Proofs.Ytjpkpckgkhbfpaa
