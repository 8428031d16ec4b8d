/- The auctions: the plain law. What a list of auctions may be, and that each call keeps it so. -/
import Derived.Test.YtbmogbbenfpmiaaBidD
namespace Go.Proofs.Ytbmogbbenfpmiaa

def Auc.one (x : Auc) (nx : Int) : Prop :=
  1 ≤ x.id ∧ x.id < nx ∧ 1 ≤ x.deed ∧ 1 ≤ x.seller ∧ 0 ≤ x.least ∧ x.least ≤ 1099511627776 ∧ 0 ≤ x.ends ∧ x.ends ≤ 4398046511104 ∧
    ((x.bidder = 0 ∧ x.best = 0) ∨ (1 ≤ x.bidder ∧ x.bidder ≠ x.seller ∧ 0 ≤ x.best ∧ x.best ≤ 1099511627776 ∧ x.least ≤ x.best))

def Auc.apart (x y : Auc) : Prop := x.id < y.id ∧ x.deed ≠ y.deed

structure Rt (l : List Auc) (nx : Int) : Prop where
  pos : 1 ≤ nx
  len : l.length ≤ 64
  one : ∀ x ∈ l, x.one nx
  pw : l.Pairwise Auc.apart

theorem Rt.nil : Rt [] 1 := ⟨by omega, by simp, by simp, List.Pairwise.nil⟩

theorem chk_zero {x : Auc} (h : x.chk = 0) : 1 ≤ x.deed ∧ 1 ≤ x.seller ∧ 0 ≤ x.least ∧ x.least ≤ 1099511627776 ∧ 0 ≤ x.ends ∧ x.ends ≤ 4398046511104 := by
  unfold Auc.chk at h
  by_cases q1 : x.deed < 1 ∨ x.seller < 1
  · rw [if_pos q1] at h; omega
  rw [if_neg q1] at h
  by_cases q2 : ¬ amt x.least ∨ x.ends < 0 ∨ x.ends > 4398046511104
  · rw [if_pos q2] at h; omega
  simp [amt] at q2
  omega

theorem fidx_no {α : Type} {p : α → Bool} {l : List α} (h : fidx p l = -1) : ∀ x ∈ l, p x = false := by
  unfold fidx at h
  cases hf : l.findIdx? p with
  | none => exact List.findIdx?_eq_none_iff.1 hf
  | some k => rw [hf] at h; simp at h

theorem Rt.opened {l : List Auc} {nx deed seller least ends : Int} (h : Rt l nx) (hc : Auc.chk ⟨nx, deed, seller, least, 0, 0, ends⟩ = 0) (hf : fidx (fun x : Auc => x.deed == deed) l = -1) (hl : l.length < 64) :
    Rt (l ++ [⟨nx, deed, seller, least, 0, 0, ends⟩]) (nx + 1) := by
  have hn := h.pos
  have hk := chk_zero hc
  simp only [] at hk
  refine ⟨by omega, by simp; omega, ?_, ?_⟩
  · intro x hx
    rcases List.mem_append.1 hx with hx | hx
    · have := h.one x hx
      unfold Auc.one at this ⊢
      omega
    · simp only [List.mem_singleton] at hx
      subst hx
      exact ⟨by show 1 ≤ nx; omega, by show nx < nx + 1; omega, hk.1, hk.2.1, hk.2.2.1, hk.2.2.2.1, hk.2.2.2.2.1, hk.2.2.2.2.2, .inl ⟨rfl, rfl⟩⟩
  · rw [List.pairwise_append]
    refine ⟨h.pw, List.pairwise_singleton _ _, ?_⟩
    intro x hx y hy
    simp only [List.mem_singleton] at hy
    subst hy
    have h1 := h.one x hx
    have h2 := fidx_no hf x hx
    unfold Auc.one at h1
    exact ⟨by simp only []; omega, by simpa using h2⟩

theorem Rt.bid {l : List Auc} {nx who n : Int} {k : Nat} {x : Auc} (h : Rt l nx) (hx : l[k]? = some x) (h1 : 1 ≤ who) (h2 : who ≠ x.seller) (h3 : 0 ≤ n) (h4 : n ≤ 1099511627776) (h5 : x.least ≤ n) :
    Rt (l.set k { x with best := n, bidder := who }) nx := by
  have hk : k < l.length := (List.getElem?_eq_some_iff.1 hx).1
  have hxe : l[k] = x := (List.getElem?_eq_some_iff.1 hx).2
  refine ⟨h.pos, by simpa using h.len, ?_, ?_⟩
  · intro y hy
    rcases List.mem_or_eq_of_mem_set hy with hy | rfl
    · exact h.one y hy
    · have := h.one x (List.mem_of_getElem? hx)
      unfold Auc.one at this ⊢
      simp only [] at this ⊢
      refine ⟨this.1, this.2.1, this.2.2.1, this.2.2.2.1, this.2.2.2.2.1, this.2.2.2.2.2.1, this.2.2.2.2.2.2.1, this.2.2.2.2.2.2.2.1, .inr ⟨h1, h2, h3, h4, h5⟩⟩
  · have hp := h.pw
    rw [List.pairwise_iff_getElem] at hp ⊢
    intro i j hi hj hij
    have hi' : i < l.length := by simpa using hi
    have hj' : j < l.length := by simpa using hj
    have := hp i j hi' hj' hij
    unfold Auc.apart at this ⊢
    rw [List.getElem_set, List.getElem_set]
    by_cases e1 : k = i <;> by_cases e2 : k = j
    · omega
    · subst e1; rw [hxe] at this; simp only [if_true, e2, if_false]; exact this
    · subst e2; rw [hxe] at this; simp only [if_true, e1, if_false]; exact this
    · simp only [e1, e2, if_false]; exact this

theorem Rt.closed {l : List Auc} {nx : Int} (h : Rt l nx) (k : Nat) : Rt (l.eraseIdx k) nx :=
  ⟨h.pos, Nat.le_trans (List.length_eraseIdx_le ..) h.len, fun x hx => h.one x ((List.eraseIdx_sublist l k).subset hx), h.pw.sublist (List.eraseIdx_sublist l k)⟩

theorem Rt.find {l : List Auc} {nx : Int} {k : Nat} {x : Auc} (h : Rt l nx) (hx : l[k]? = some x) : fidx (fun y : Auc => y.id == x.id) l = k := by
  refine fidx_hit (fun j y hj hy => ?_) hx (by simp)
  have hp := h.pw
  rw [List.pairwise_iff_getElem] at hp
  obtain ⟨h1, rfl⟩ := List.getElem?_eq_some_iff.1 hx
  obtain ⟨h2, rfl⟩ := List.getElem?_eq_some_iff.1 hy
  have := (hp j k h2 h1 hj).1
  simp; omega

theorem Rt.of {l : List Auc} {nx : Int} {k : Nat} {x : Auc} (h : Rt l nx) (hx : l[k]? = some x) : fidx (fun y : Auc => y.deed == x.deed) l = k := by
  refine fidx_hit (fun j y hj hy => ?_) hx (by simp)
  have hp := h.pw
  rw [List.pairwise_iff_getElem] at hp
  obtain ⟨h1, rfl⟩ := List.getElem?_eq_some_iff.1 hx
  obtain ⟨h2, rfl⟩ := List.getElem?_eq_some_iff.1 hy
  have := (hp j k h2 h1 hj).2
  simpa using this

theorem Rt.best {l : List Auc} {nx : Int} (h : Rt l nx) : ∀ x ∈ l, 0 ≤ x.best ∧ x.best ≤ 1099511627776 := by
  intro x hx
  have := h.one x hx
  unfold Auc.one at this
  omega

end Go.Proofs.Ytbmogbbenfpmiaa
