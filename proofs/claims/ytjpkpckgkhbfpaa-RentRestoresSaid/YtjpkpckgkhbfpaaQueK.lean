/- The queue: Move. -/
import Derived.Test.YtjpkpckgkhbfpaaQueJ
import Derived.Test.YtjpkpckgkhbfpaaQueS
namespace Go.Proofs.Ytjpkpckgkhbfpaa
open Go.RowKit Go.Maps

/-- What Move leaves: one is due at another time; it goes up, and then down. -/
def movL (l : List Itm) (i : Nat) (x : Itm) (d : Int) : List Itm :=
  let l1 := upL (l.set i { x with due := d }) i
  downL l1 ((l1.findIdx? fun y => y.n == x.n).getD 0)

theorem set_n {l : List Itm} {i : Nat} {x : Itm} (hx : l[i]? = some x) (d : Int) : (l.set i { x with due := d }).map Itm.n = l.map Itm.n := by
  apply List.ext_getElem?
  intro j
  rw [List.getElem?_map, List.getElem?_map, List.getElem?_set]
  by_cases h : i = j
  · subst h
    obtain ⟨hi, he⟩ := List.getElem?_eq_some_iff.1 hx
    simp [hi, he]
  · simp [h]
theorem ixm_n {l l' : List Itm} (h : l'.map Itm.n = l.map Itm.n) : ixm l' = ixm l := by
  funext n
  unfold ixm
  have : ∀ (a b : List Itm), a.map Itm.n = b.map Itm.n → a.findIdx? (fun x => x.n == n) = b.findIdx? (fun x => x.n == n) := by
    intro a
    induction a with
    | nil => intro b hb; cases b with | nil => rfl | cons y b => simp at hb
    | cons x a ih =>
      intro b hb
      cases b with
      | nil => simp at hb
      | cons y b =>
        simp only [List.map_cons, List.cons.injEq] at hb
        simp only [List.findIdx?_cons, hb.1, ih b hb.2]
  rw [this _ _ h]

theorem at_of_n {l : List Itm} {n : Int} (h : ∃ x ∈ l, x.n = n) : ∃ (j : Nat) (x : Itm), l.findIdx? (fun y => y.n == n) = some j ∧ l[j]? = some x ∧ x.n = n := by
  obtain ⟨x, hx, rfl⟩ := h
  cases hj : l.findIdx? (fun y => y.n == x.n) with
  | none => rw [List.findIdx?_eq_none_iff] at hj; have := hj x hx; simp at this
  | some j =>
    obtain ⟨hjl, hjn, -⟩ := List.findIdx?_eq_some_iff_getElem.1 hj
    exact ⟨j, l[j], rfl, List.getElem?_eq_getElem hjl, by simpa using hjn⟩

theorem movL_perm {l : List Itm} {i : Nat} {x : Itm} (hx : l[i]? = some x) (d : Int) : (movL l i x d).Perm (l.set i { x with due := d }) := by
  unfold movL
  obtain ⟨j, y, hj, hy, hyn⟩ := at_of_n (l := upL (l.set i { x with due := d }) i) (n := x.n) ⟨{ x with due := d }, (upL_perm _ _).mem_iff.2 (List.mem_of_getElem? (by rw [List.getElem?_set_self (List.getElem?_eq_some_iff.1 hx).1])), rfl⟩
  simp only [hj, Option.getD_some]
  exact (downL_perm _ _ (List.getElem?_eq_some_iff.1 hy).1).trans (upL_perm _ _)

set_option maxHeartbeats 800000 in
theorem move_none (b : Nat) (n d : Int) (l : List Itm) (A : Option Addr) (c M : Nat) (added : Int) (w : World) (h : Q w b l A c M added) (hn : (Lit.int .i64 n).wf = true) (hno : ∀ x ∈ l, x.n ≠ n) :
    Calls Try.prog 43 #[.pointer (some ⟨b, 0, none⟩), .int .i64 n, .int .i64 d] w fun e w' => e = .returned (.int .i64 14) ∧ w = w' := by
  obtain ⟨c0, f0, s0⟩ := h.isIn.blk.facts
  have hr := ixm_none_of hno M h.isIn.mp hn
  clear h hno
  go_enter Try.func43, Try.ntmps43
  go_wp2
  go_ret
  exact ⟨rfl, rfl⟩

set_option maxHeartbeats 1600000 in
theorem move_some (b i : Nat) (x : Itm) (d : Int) (l : List Itm) (A : Option Addr) (c M : Nat) (added : Int) (w : World) (h : Q w b l A c M added) (hx : l[i]? = some x) (hl : l.length ≤ 1000000) :
    Calls Try.prog 43 #[.pointer (some ⟨b, 0, none⟩), .int .i64 x.n, .int .i64 d] w fun e w' => e = .returned (.int .i64 0) ∧ Q w' b (movL l i x d) A c M added ∧ Chg (QF b A M) w w' := by
  have hi : i < l.length := (List.getElem?_eq_some_iff.1 hx).1
  obtain ⟨g, rfl, hg⟩ := own_block h.isIn.own (by omega)
  obtain ⟨g', off, hA, hgb, x0, x1, x2⟩ := (Sl.of_own h.isIn.own).atItm hx
  cases hA
  simp only [Nat.zero_add] at x0 x1 x2
  obtain ⟨c0, f0, s0⟩ := h.isIn.blk.facts
  have hr := ixm_some_of h.nd hx M h.isIn.mp (h.ok x (List.mem_of_getElem? hx))
  have t1 : (0 : Int) ≤ (i : Int) := Int.natCast_nonneg _
  have t2 : (i : Int) < (l.length : Int) := by omega
  obtain ⟨cur, -, hgc, hnc, hcm, hcs, -⟩ := own_row h.isIn.own
  have f1 : w.frozen? ⟨g, i * 3 + 1, none⟩ = false := (show Blk w g _ cur from hgc).frozen _
  have hbg : b ≠ g := fun e => own_blk_ne h.isIn.own h.isIn.blk (by decide) (by simp [Value.ownBlock, e])
  have hMg : M ≠ g := map_ne h.isIn.mp (show Blk w g _ cur from hgc)
  obtain ⟨W0, hW0⟩ : ∃ W0, w.setCell ⟨g, i * 3 + 1, none⟩ (.int .i64 d) = W0 := ⟨_, rfl⟩
  have hc0 : Chg (fun j => j = g) w W0 := hW0 ▸ (Chg.refl (fun j => j = g) w).setCell (p := ⟨g, i * 3 + 1, none⟩) (fun _ => rfl) _
  have hq0 : Q W0 b (l.set i { x with due := d }) (some ⟨g, 0, none⟩) c M added := by
    refine ⟨⟨?_, ?_, ?_⟩, ?_, ?_⟩
    · rw [List.length_set]; exact h.isIn.blk.chg hc0 hbg
    · have h2 := own_cell (j := i * 3 + 1) h.isIn.own (.int .i64 d)
      rw [Itm.set_due _ d i x hx, hW0] at h2
      rw [List.length_set]
      exact h2
    · rw [ixm_n (set_n hx d), List.length_set]; exact h.isIn.mp.chg hc0 hMg
    · rw [set_n hx d]; exact h.nd
    · intro y hy
      rcases List.mem_or_eq_of_mem_set hy with hy | rfl
      · exact h.ok y hy
      · exact h.ok x (List.mem_of_getElem? hx)
  have hlen0 : (l.set i { x with due := d }).length = l.length := by simp
  obtain ⟨l0, hl0⟩ : ∃ l0, l.set i { x with due := d } = l0 := ⟨_, rfl⟩
  have hin : ∃ y ∈ l0, y.n = x.n := ⟨{ x with due := d }, hl0 ▸ List.mem_of_getElem? (by rw [List.getElem?_set_self hi]), rfl⟩
  have hmv : movL l i x d = downL (upL l0 i) (((upL l0 i).findIdx? fun y => y.n == x.n).getD 0) := by unfold movL; rw [hl0]
  rw [hl0] at hq0 hlen0
  have HW0 := Lib.hid hW0
  have HQ0 := Lib.hid (And.intro hq0 (And.intro hc0 (And.intro hin (And.intro hmv hlen0))))
  have hi0 : i < l0.length := by omega
  have hl0' : l0.length ≤ 1000000 := by omega
  clear h hx hW0 hq0 hc0 hin hmv hlen0 hgc hcs hl0
  go_enter Try.func43, Try.ntmps43
  go_wp2_with (first
    | (rw [HW0.out])
    | (go_at_call 55; refine (up_any b i l0 (some ⟨g, 0, none⟩) c M added _ HQ0.out.1 hi0 hl0').mono ?_; rintro e w8 ⟨rfl, hq8, hc8⟩; have HQ8 := Lib.hid (And.intro hq8 hc8); clear hq8 hc8 c0 f0 s0 hr x0 x1 x2 f1; obtain ⟨j, y, hj, hy, hyn⟩ := at_of_n (l := upL l0 i) (n := x.n) (by obtain ⟨y, hy, hyn⟩ := HQ0.out.2.2.1; exact ⟨y, (upL_perm _ _).mem_iff.2 hy, hyn⟩); have hr := ixm_look_of HQ8.out.1.nd hy M HQ8.out.1.isIn.mp (HQ8.out.1.ok y (List.mem_of_getElem? hy)); rw [hyn] at hr; obtain ⟨c0, f0, s0⟩ := HQ8.out.1.isIn.blk.facts; have HJ := Lib.hid (And.intro hj hy); have hjl := (List.getElem?_eq_some_iff.1 hy).1; have hul : (upL l0 i).length ≤ 1000000 := (by rw [upL_len]; exact hl0'); clear hj hy hyn)
    | (go_at_call 56; refine (down_any b j (upL l0 i) (some ⟨g, 0, none⟩) c M added _ HQ8.out.1 hjl hul).mono ?_; rintro e w9 ⟨rfl, hq9, hc9⟩; have HQ9 := Lib.hid (And.intro hq9 hc9); clear hq9 hc9))
  go_ret
  have hj := HJ.out.1
  refine ⟨rfl, ?_, ?_⟩
  · rw [HQ0.out.2.2.2.1, hj]; exact HQ9.out.1
  · exact Chg.trans (Chg.mono HQ0.out.2.1 fun _ _ e => .inr (.inr ⟨_, rfl, e⟩)) (Chg.trans HQ8.out.2 HQ9.out.2 fun _ _ e => e) fun _ _ e => e

end Go.Proofs.Ytjpkpckgkhbfpaa
