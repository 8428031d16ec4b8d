/- Texts 3 of 7 that the proof of BtreeOrders stands on. -/
import Derived.Test.YtpkkcicaeldodaaGreatDoorMgBtreeOrders2
import Derived.Lib.AppendZerosOnto
import Derived.Test.YtpkkcicaeldodaaGreatDoorRows
import Derived.Shelf.Slices.SearchI
import Derived.Shelf.Spec.SlicesInsertGrow
import Derived.Shelf.Slices.Delete
import Derived.Sort.LoopGhostIn
import Derived.Shelf.Slices.Empties
set_option linter.unusedSimpArgs false
set_option linter.unusedVariables false

/- The pager: what holds between its sectors, and what its pages are (plain). -/
namespace Go.Proofs.YtpkkcicaeldodaaGreatDoor
open Go.RowKit Go.Maps

/-- What a page is: not used, noughts, the bytes of a sector that the root leads to, those of one that the change took. -/
inductive Pk where
  | no
  | zero
  | old (bs : List Int)
  | new (bs : List Int)
def Pk.used : Pk → Bool
  | .no => false
  | _ => true
def Pk.isNew : Pk → Bool
  | .new _ => true
  | _ => false
def Pk.isOld : Pk → Bool
  | .old _ => true
  | _ => false
def Pk.bytes (sz : Nat) : Pk → List Int
  | .no => []
  | .zero => List.replicate sz 0
  | .old bs => bs
  | .new bs => bs
/-- What an entry is. -/
def pk (D : Dk) (fr : Nat → Bool) (s : Nat) : Pk := if s = 0 then .no else if s = 1 then .zero else if fr s then .new (D.rd s) else .old (D.rd s)

/-- A root that is right. -/
def GoodR (ep : Nat) (pg : List Nat) : Prop := 1 ≤ ep ∧ ep ≤ 1099511627776 ∧ pg.length ≤ 64 ∧ ∀ s ∈ pg, s < 4096
/-- The bytes of a table page. -/
def tabL (tb : List Nat) (row sz k : Nat) : List Int :=
  ((List.range row).flatMap fun i => [((tb.getD (k * row + i) 0 % 256 : Nat) : Int), ((tb.getD (k * row + i) 0 / 256 % 256 : Nat) : Int)]) ++ List.replicate (sz - 2 * row) 0
/-- What is on the disk leads to these pages. -/
structure Dur (D : Dk) (ep : Nat) (pg tb : List Nat) : Prop where
  root : 1 ≤ ep → D.rd ((ep % 2 : Nat) : Int) = rootL ep pg D.sz
  other : ∀ (i e' : Nat) pg', i < 2 → GoodR e' pg' → e' % 2 = i → D.rd (i : Int) = rootL e' pg' D.sz → e' ≤ ep ∧ (e' = ep → pg' = pg)
  zero : ep = 0 → ∀ s ∈ pg, s = 0
  tab0 : ∀ k, pg[k]? = some 0 → ∀ i, i < D.sz / 2 → tb.getD (k * (D.sz / 2) + i) 0 = 0
  tabs : ∀ (k s : Nat), pg[k]? = some s → s ≠ 0 → D.rd (s : Int) = tabL tb (D.sz / 2) D.sz k
  tab1 : ∀ (k s : Nat), pg[k]? = some s → s ≠ 0 → ∃ i, i < D.sz / 2 ∧ tb.getD (k * (D.sz / 2) + i) 0 ≠ 0
theorem Dur.congr {D D' : Dk} {ep : Nat} {pg tb : List Nat} (h : Dur D ep pg tb) (hs : D'.sz = D.sz) (hr : ∀ s : Nat, (s < 2 ∨ (s ≠ 0 ∧ ∃ k : Nat, pg[k]? = some s)) → D'.rd (s : Int) = D.rd (s : Int)) : Dur D' ep pg tb := by
  refine ⟨fun h1 => ?_, fun i e' pg' hi hg he hd => ?_, h.zero, fun k hk => ?_, fun k s hk hs0 => ?_, fun k s hk hs0 => ?_⟩
  · rw [hr _ (.inl (Nat.mod_lt _ (by omega))), hs]; exact h.root h1
  · rw [hr _ (.inl hi), hs] at hd; exact h.other i e' pg' hi hg he hd
  · rw [hs]; exact h.tab0 k hk
  · rw [hr _ (.inr ⟨hs0, k, hk⟩), hs]; exact h.tabs k s hk hs0
  · rw [hs]; exact h.tab1 k s hk hs0

/-- What holds between a pager's sectors: its table pages', its pages', those that its pages had, those that are free, fresh, left, and the table pages that are touched. -/
structure Inv (D : Dk) (ep : Nat) (pg tb old : List Nat) (fe : List Bool) (fr : Nat → Bool) (lf : List Nat) (tc : Nat → Bool) : Prop where
  sz : 8 ≤ D.n ∧ D.n ≤ 4096 ∧ 64 ≤ D.sz ∧ D.sz ≤ 4096
  lens : fe.length = D.n ∧ pg.length = tabN D.n D.sz ∧ tb.length = capN D.n D.sz ∧ old.length = capN D.n D.sz
  rO : ∀ i s : Nat, old[i]? = some s → s < D.n
  rP : ∀ k s : Nat, pg[k]? = some s → s ≠ 0 → 2 ≤ s ∧ s < D.n
  jO : ∀ i j s : Nat, old[i]? = some s → old[j]? = some s → 2 ≤ s → i = j
  jP : ∀ i j s : Nat, pg[i]? = some s → pg[j]? = some s → s ≠ 0 → i = j
  dis : ∀ k i s : Nat, pg[k]? = some s → old[i]? = some s → s < 2
  acct : ∀ s, s < D.n → (fe.getD s false = false ↔ s < 2 ∨ (∃ k : Nat, pg[k]? = some s) ∨ (∃ i : Nat, old[i]? = some s) ∨ fr s = true)
  frr : ∀ s, fr s = true → 2 ≤ s ∧ s < D.n ∧ (∀ k : Nat, pg[k]? ≠ some s) ∧ (∀ i : Nat, old[i]? ≠ some s) ∧ ∃ i : Nat, tb[i]? = some s
  cur : ∀ i s : Nat, tb[i]? = some s → 2 ≤ s → fr s = true ∨ old[i]? = some s
  jT : ∀ i j s : Nat, tb[i]? = some s → tb[j]? = some s → 2 ≤ s → i = j
  lf : lf.Nodup ∧ ∀ s, s ∈ lf ↔ 2 ≤ s ∧ ∃ i : Nat, old[i]? = some s ∧ tb[i]? ≠ some s
  tcd : ∀ i : Nat, tb[i]? ≠ old[i]? → tc (i / (D.sz / 2)) = true
  tc6 : ∀ k, tc k = true → k < pg.length
  room : cntN tc 64 ≤ cnt fe
  cln : ∀ s : Nat, s < D.n → (s < 2 ∨ (∃ k : Nat, pg[k]? = some s) ∨ ∃ i : Nat, old[i]? = some s) → D.cache (s : Int) = none
  dur : Dur D ep pg old
  byt : ∀ s : Nat, s < D.n → ∀ x ∈ D.rd (s : Int), 0 ≤ x ∧ x ≤ 255
  epo : ep ≤ 1099511627776

theorem cnt_trn_no {fe : List Bool} {j : Nat} (h : fe.getD j false = true) : cnt (trn fe j) + 1 = cnt fe := by
  have hj : j < fe.length := by
    by_cases e : j < fe.length
    · exact e
    · rw [List.getD_eq_getElem?_getD, List.getElem?_eq_none (by omega)] at h; simp at h
  unfold cnt
  have e : (fun m => (trn fe j).getD m false) = setB (fun m => fe.getD m false) j false := by
    funext m
    unfold trn setB
    rw [getD_set _ _ _ _ hj, h]
    rfl
  have hl : (trn fe j).length = fe.length := List.length_set
  rw [e, hl]
  exact cntN_drop (fun m => fe.getD m false) hj h
theorem cnt_trn_yes {fe : List Bool} {j : Nat} (hj : j < fe.length) (h : fe.getD j false = false) : cnt (trn fe j) = cnt fe + 1 := by
  unfold cnt
  have e : (fun m => (trn fe j).getD m false) = setB (fun m => fe.getD m false) j true := by
    funext m
    unfold trn setB
    rw [getD_set _ _ _ _ hj, h]
    rfl
  have hl : (trn fe j).length = fe.length := List.length_set
  rw [e, hl]
  exact cntN_yes (fun m => fe.getD m false) hj h
theorem trn_getD {fe : List Bool} {j : Nat} (hj : j < fe.length) (s : Nat) : (trn fe j).getD s false = if s = j then !fe.getD j false else fe.getD s false := by
  unfold trn
  rw [getD_set _ _ _ _ hj]
theorem take_there {fe : List Bool} (h : 1 ≤ cnt fe) : ∃ j, nxt fe 0 = some j ∧ j < fe.length ∧ fe.getD j false = true := by
  cases hn : nxt fe 0 with
  | none =>
    have h1 := nxt_none.1 hn
    have : cnt fe = 0 := cntN_false fun j _ => h1 j (Nat.zero_le _)
    omega
  | some j => exact ⟨j, rfl, (nxt_some.1 hn).2.1, (nxt_some.1 hn).2.2.1⟩
theorem Dk.wr_rd (D : Dk) (j s : Nat) (bs : List Int) : (D.wr j bs).rd (s : Int) = if s = j then bs else D.rd (s : Int) := by
  unfold Dk.rd Dk.wr
  by_cases e : s = j
  · subst e; simp
  · have : ¬ (s : Int) = (j : Int) := by omega
    simp [e, this]
theorem Dk.wr_cache (D : Dk) (j s : Nat) (bs : List Int) (h : s ≠ j) : (D.wr j bs).cache (s : Int) = D.cache (s : Int) := by
  unfold Dk.wr
  have : ¬ (s : Int) = (j : Int) := by omega
  simp [this]
theorem set_at {α : Type} {tb : List α} {i k : Nat} {v : α} (hi : i < tb.length) : (tb.set i v)[k]? = if k = i then some v else tb[k]? := by
  rw [List.getElem?_set]
  by_cases e : i = k
  · subst e; simp [hi]
  · simp [e, Ne.symm e]

section
variable {D D' : Dk} {ep i j k s : Nat} {pg tb old lf : List Nat} {fe : List Bool} {fr tc : Nat → Bool} {bs : List Int}
theorem Inv.row (h : Inv D ep pg tb old fe fr lf tc) : 32 ≤ D.sz / 2 := by have := h.sz; omega
theorem Inv.tch (h : Inv D ep pg tb old fe fr lf tc) (hk : k < pg.length) (hr : cntN (setB tc k true) 64 ≤ cnt fe) : Inv D ep pg tb old fe fr lf (setB tc k true) :=
  ⟨h.sz, h.lens, h.rO, h.rP, h.jO, h.jP, h.dis, h.acct, h.frr, h.cur, h.jT, h.lf, fun i hi => by unfold setB; by_cases e : i / (D.sz / 2) = k <;> simp only [e, if_true, if_false]; exact h.tcd i hi, fun m hm => by
    unfold setB at hm
    split at hm
    · omega
    · exact h.tc6 m hm, hr, h.cln, h.dur, h.byt, h.epo⟩
theorem Inv.fr0 (h : Inv D ep pg tb old fe fr lf tc) (hs : s < 2) : fr s = false := by
  cases e : fr s with
  | false => rfl
  | true => have := (h.frr s e).1; omega
/-- An entry turns from one that is none of a sector's to another such. -/
theorem Inv.zero (h : Inv D ep pg tb old fe fr lf tc) {v : Nat} (hi : tb[i]? = some s) (hs : s < 2) (hv : v < 2) (ht : tc (i / (D.sz / 2)) = true) : Inv D ep pg (tb.set i v) old fe fr lf tc := by
  have hil : i < tb.length := (List.getElem?_eq_some_iff.1 hi).1
  refine ⟨h.sz, by simpa using h.lens, h.rO, h.rP, h.jO, h.jP, h.dis, h.acct, fun m hm => ?_, fun m q hm hq => ?_, fun a b q ha hb hq => ?_, ⟨h.lf.1, fun m => ?_⟩, fun m hm => ?_, h.tc6, h.room, h.cln, h.dur, h.byt, h.epo⟩
  · obtain ⟨h1, h2, h3, h4, q, h5⟩ := h.frr m hm
    refine ⟨h1, h2, h3, h4, q, ?_⟩
    rw [set_at hil, if_neg]
    · exact h5
    · rintro rfl
      rw [hi] at h5
      injection h5 with h5
      omega
  · rw [set_at hil] at hm
    split at hm
    · injection hm with hm; omega
    · exact h.cur m q hm hq
  · rw [set_at hil] at ha hb
    split at ha
    · injection ha with ha; omega
    · split at hb
      · injection hb with hb; omega
      · exact h.jT a b q ha hb hq
  · rw [h.lf.2]
    refine and_congr_right fun hm => exists_congr fun a => and_congr_right fun ha => ?_
    rw [set_at hil]
    by_cases e : a = i
    · subst e
      rw [if_pos rfl, hi]
      simp only [ne_eq, Option.some.injEq]
      omega
    · rw [if_neg e]
  · by_cases e : m = i
    · subst e; exact ht
    · rw [set_at hil, if_neg e] at hm
      exact h.tcd m hm
/-- A sector that is free is none that counts. -/
theorem Inv.free (h : Inv D ep pg tb old fe fr lf tc) (hj : fe.getD j false = true) : 2 ≤ j ∧ j < D.n ∧ (∀ k : Nat, pg[k]? ≠ some j) ∧ (∀ i : Nat, old[i]? ≠ some j) ∧ fr j = false ∧ ∀ i : Nat, tb[i]? ≠ some j := by
  have hjn : j < D.n := by
    by_cases e : j < fe.length
    · have := h.lens.1; omega
    · rw [List.getD_eq_getElem?_getD, List.getElem?_eq_none (by omega)] at hj; simp at hj
  have hn : ¬ (j < 2 ∨ (∃ k : Nat, pg[k]? = some j) ∨ (∃ i : Nat, old[i]? = some j) ∨ fr j = true) := fun e => by
    have := (h.acct j hjn).2 e
    rw [hj] at this
    cases this
  simp only [not_or, not_exists] at hn
  have hf : fr j = false := by cases e : fr j with | false => rfl | true => exact absurd e hn.2.2.2
  refine ⟨by omega, hjn, hn.2.1, hn.2.2.1, hf, fun i hi => ?_⟩
  rcases h.cur i j hi (by omega) with e | e
  · rw [hf] at e; cases e
  · exact hn.2.2.1 i e
/-- Only a sector that does not count yet is written. -/
theorem Inv.write (h : Inv D ep pg tb old fe fr lf tc) (hj : j < D.n ∧ 2 ≤ j ∧ (∀ k : Nat, pg[k]? ≠ some j) ∧ ∀ i : Nat, old[i]? ≠ some j) (hb : ∀ x ∈ bs, 0 ≤ x ∧ x ≤ 255) : Inv (D.wr j bs) ep pg tb old fe fr lf tc := by
  refine ⟨h.sz, h.lens, h.rO, h.rP, h.jO, h.jP, h.dis, h.acct, h.frr, h.cur, h.jT, h.lf, h.tcd, h.tc6, h.room, fun s hs hk => ?_, ?_, fun s hs => ?_, h.epo⟩
  · rw [Dk.wr_cache]
    · exact h.cln s hs hk
    · rintro rfl
      rcases hk with e | ⟨k, e⟩ | ⟨i, e⟩
      · omega
      · exact hj.2.2.1 k e
      · exact hj.2.2.2 i e
  · refine h.dur.congr rfl fun s hs => ?_
    rw [Dk.wr_rd, if_neg]
    rintro rfl
    rcases hs with e | ⟨-, k, e⟩
    · omega
    · exact hj.2.2.1 k e
  · rw [Dk.wr_rd]
    split
    · exact hb
    · exact h.byt s hs
/-- A page gets a sector that was free. -/
theorem Inv.fill (h : Inv D ep pg tb old fe fr lf tc) (hi : tb[i]? = some s) (hf : fr s = false) (hj : fe.getD j false = true) (ht : tc (i / (D.sz / 2)) = true) (hr : cntN tc 64 + 1 ≤ cnt fe) :
    Inv D ep pg (tb.set i j) old (trn fe j) (setB fr j true) (if s ≤ 1 then lf else lf ++ [s]) tc := by
  have hil : i < tb.length := (List.getElem?_eq_some_iff.1 hi).1
  obtain ⟨j1, j2, j3, j4, j5, j6⟩ := h.free hj
  have hjl : j < fe.length := by rw [h.lens.1]; exact j2
  refine ⟨h.sz, by simpa [trn] using h.lens, h.rO, h.rP, h.jO, h.jP, h.dis, fun m hm => ?_, fun m hm => ?_, fun m q hm hq => ?_, fun a b q ha hb hq => ?_, ?_, fun m hm => ?_, h.tc6, by have := cnt_trn_no hj; omega, h.cln, h.dur, h.byt, h.epo⟩
  · rw [trn_getD hjl]
    unfold setB
    by_cases e : m = j
    · subst e; rw [if_pos rfl, hj]; simp
    · simp only [e, if_false]
      exact h.acct m hm
  · unfold setB at hm
    by_cases e : m = j
    · subst e
      exact ⟨j1, j2, j3, j4, i, by rw [set_at hil, if_pos rfl]⟩
    · simp only [e, if_false] at hm
      obtain ⟨h1, h2, h3, h4, q, h5⟩ := h.frr m hm
      refine ⟨h1, h2, h3, h4, q, ?_⟩
      rw [set_at hil, if_neg]
      · exact h5
      · rintro rfl
        rw [hi] at h5
        injection h5 with h5
        rw [h5] at hf
        rw [hf] at hm
        cases hm
  · rw [set_at hil] at hm
    unfold setB
    split at hm
    · injection hm with hm; subst hm; simp
    · rcases h.cur m q hm hq with e | e
      · left; by_cases e2 : q = j <;> simp only [e2, if_true, if_false]; exact e
      · exact .inr e
  · rw [set_at hil] at ha hb
    split at ha
    · split at hb
      · omega
      · injection ha with ha; subst ha; exact absurd hb (j6 b)
    · split at hb
      · injection hb with hb; subst hb; exact absurd ha (j6 a)
      · exact h.jT a b q ha hb hq
  · have key : ∀ a m : Nat, old[a]? = some m → ((tb.set i j)[a]? ≠ some m ↔ tb[a]? ≠ some m ∨ a = i) := fun a m ha => by
      rw [set_at hil]
      by_cases e : a = i
      · subst e
        rw [if_pos rfl]
        have : j ≠ m := fun e => j4 a (e ▸ ha)
        simp [this]
      · rw [if_neg e]; simp [e]
    by_cases hs : s ≤ 1
    · rw [if_pos hs]
      refine ⟨h.lf.1, fun m => ?_⟩
      rw [h.lf.2]
      refine and_congr_right fun hm => exists_congr fun a => and_congr_right fun ha => ?_
      rw [key a m ha]
      refine ⟨.inl, fun e => e.elim id ?_⟩
      rintro rfl
      rw [hi]
      simp only [ne_eq, Option.some.injEq]
      omega
    · rw [if_neg hs]
      have hos : old[i]? = some s := (h.cur i s hi (by omega)).resolve_left (by rw [hf]; simp)
      have hsl : s ∉ lf := fun e => by
        obtain ⟨-, a, ha, hb⟩ := (h.lf.2 s).1 e
        obtain rfl := h.jO a i s ha hos (by omega)
        exact hb hi
      refine ⟨List.nodup_append.2 ⟨h.lf.1, by simp, fun a ha b hb => ?_⟩, fun m => ?_⟩
      · simp only [List.mem_singleton] at hb
        subst hb
        rintro rfl
        exact hsl ha
      · rw [List.mem_append, h.lf.2, List.mem_singleton]
        constructor
        · rintro (⟨h1, a, ha, hb⟩ | rfl)
          · exact ⟨h1, a, ha, (key a m ha).2 (.inl hb)⟩
          · exact ⟨by omega, i, hos, (key i m hos).2 (.inr rfl)⟩
        · rintro ⟨h1, a, ha, hb⟩
          rcases (key a m ha).1 hb with e | rfl
          · exact .inl ⟨h1, a, ha, e⟩
          · rw [hos] at ha; injection ha with ha; exact .inr ha.symm
  · by_cases e : m = i
    · subst e; exact ht
    · rw [set_at hil, if_neg e] at hm
      exact h.tcd m hm
/-- A fresh page is used no more. -/
theorem Inv.give (h : Inv D ep pg tb old fe fr lf tc) (hi : tb[i]? = some s) (hf : fr s = true) (ht : tc (i / (D.sz / 2)) = true) : Inv D ep pg (tb.set i 0) old (trn fe s) (setB fr s false) lf tc := by
  have hil : i < tb.length := (List.getElem?_eq_some_iff.1 hi).1
  obtain ⟨s1, s2, s3, s4, -⟩ := h.frr s hf
  have hsl : s < fe.length := by rw [h.lens.1]; exact s2
  have hfe : fe.getD s false = false := (h.acct s s2).2 (.inr (.inr (.inr hf)))
  refine ⟨h.sz, by simpa [trn] using h.lens, h.rO, h.rP, h.jO, h.jP, h.dis, fun m hm => ?_, fun m hm => ?_, fun m q hm hq => ?_, fun a b q ha hb hq => ?_, ⟨h.lf.1, fun m => ?_⟩, fun m hm => ?_, h.tc6, by have := cnt_trn_yes hsl hfe; have := h.room; omega, h.cln, h.dur, h.byt, h.epo⟩
  · rw [trn_getD hsl]
    unfold setB
    by_cases e : m = s
    · subst e
      simp only [if_true, hfe, Bool.not_false, Bool.true_eq_false, false_iff, not_or, not_exists, Bool.false_eq_true, not_false_eq_true, and_true]
      exact ⟨by omega, s3, s4⟩
    · simp only [e, if_false]
      exact h.acct m hm
  · unfold setB at hm
    by_cases e : m = s
    · simp [e] at hm
    · simp only [e, if_false] at hm
      obtain ⟨h1, h2, h3, h4, q, h5⟩ := h.frr m hm
      refine ⟨h1, h2, h3, h4, q, ?_⟩
      rw [set_at hil, if_neg]
      · exact h5
      · rintro rfl
        rw [hi] at h5
        injection h5 with h5
        exact e h5.symm
  · rw [set_at hil] at hm
    unfold setB
    split at hm
    · injection hm with hm; omega
    · rename_i hmi
      rcases h.cur m q hm hq with e | e
      · left
        rw [if_neg]
        · exact e
        · rintro rfl
          exact hmi (h.jT m i q hm hi hq)
      · exact .inr e
  · rw [set_at hil] at ha hb
    split at ha
    · injection ha with ha; omega
    · split at hb
      · injection hb with hb; omega
      · exact h.jT a b q ha hb hq
  · rw [h.lf.2]
    refine and_congr_right fun hm => exists_congr fun a => and_congr_right fun ha => ?_
    rw [set_at hil]
    by_cases e : a = i
    · subst e
      rw [if_pos rfl, hi]
      simp only [ne_eq, Option.some.injEq]
      have : s ≠ m := fun e => s4 a (e ▸ ha)
      omega
    · rw [if_neg e]
  · by_cases e : m = i
    · subst e; exact ht
    · rw [set_at hil, if_neg e] at hm
      exact h.tcd m hm
/-- A page that the root leads to is used no more. -/
theorem Inv.left (h : Inv D ep pg tb old fe fr lf tc) (hi : tb[i]? = some s) (hs : 2 ≤ s) (hf : fr s = false) (ht : tc (i / (D.sz / 2)) = true) : Inv D ep pg (tb.set i 0) old fe fr (lf ++ [s]) tc := by
  have hil : i < tb.length := (List.getElem?_eq_some_iff.1 hi).1
  have hos : old[i]? = some s := (h.cur i s hi hs).resolve_left (by rw [hf]; simp)
  have hsl : s ∉ lf := fun e => by
    obtain ⟨-, a, ha, hb⟩ := (h.lf.2 s).1 e
    obtain rfl := h.jO a i s ha hos (by omega)
    exact hb hi
  refine ⟨h.sz, by simpa using h.lens, h.rO, h.rP, h.jO, h.jP, h.dis, h.acct, fun m hm => ?_, fun m q hm hq => ?_, fun a b q ha hb hq => ?_, ⟨List.nodup_append.2 ⟨h.lf.1, by simp, fun a ha b hb => ?_⟩, fun m => ?_⟩, fun m hm => ?_, h.tc6, h.room, h.cln, h.dur, h.byt, h.epo⟩
  · obtain ⟨h1, h2, h3, h4, q, h5⟩ := h.frr m hm
    refine ⟨h1, h2, h3, h4, q, ?_⟩
    rw [set_at hil, if_neg]
    · exact h5
    · rintro rfl
      rw [hi] at h5
      injection h5 with h5
      rw [h5] at hf
      rw [hf] at hm
      cases hm
  · rw [set_at hil] at hm
    split at hm
    · injection hm with hm; omega
    · exact h.cur m q hm hq
  · rw [set_at hil] at ha hb
    split at ha
    · injection ha with ha; omega
    · split at hb
      · injection hb with hb; omega
      · exact h.jT a b q ha hb hq
  · simp only [List.mem_singleton] at hb
    subst hb
    rintro rfl
    exact hsl ha
  · rw [List.mem_append, h.lf.2, List.mem_singleton]
    constructor
    · rintro (⟨h1, a, ha, hb⟩ | rfl)
      · refine ⟨h1, a, ha, ?_⟩
        rw [set_at hil]
        split
        · simp only [ne_eq, Option.some.injEq]; omega
        · exact hb
      · refine ⟨hs, i, hos, ?_⟩
        rw [set_at hil, if_pos rfl]
        simp only [ne_eq, Option.some.injEq]; omega
    · rintro ⟨h1, a, ha, hb⟩
      rw [set_at hil] at hb
      by_cases e : a = i
      · subst e; rw [hos] at ha; injection ha with ha; exact .inr ha.symm
      · rw [if_neg e] at hb; exact .inl ⟨h1, a, ha, hb⟩
  · by_cases e : m = i
    · subst e; exact ht
    · rw [set_at hil, if_neg e] at hm
      exact h.tcd m hm
/-- How many sectors are left. -/
theorem Inv.lfle (h : Inv D ep pg tb old fe fr lf tc) : lf.length ≤ 4096 := by
  have := List.Nodup.length_le_of_subset h.lf.1 (l₂ := List.range D.n) fun s hs => by
    obtain ⟨-, i, hi, -⟩ := (h.lf.2 s).1 hs
    exact List.mem_range.2 (h.rO i s hi)
  rw [List.length_range] at this
  have := h.sz
  omega
theorem Inv.part (h : Inv D ep pg tb old fe fr lf tc) (hi : i < tb.length) : i / (D.sz / 2) < pg.length := by
  have h1 := h.lens
  have h2 := h.row
  rw [Nat.div_lt_iff_lt_mul (by omega), h1.2.1]
  rw [h1.2.2.1] at hi
  unfold capN at hi
  split at hi <;> omega
theorem Inv.pg64 (h : Inv D ep pg tb old fe fr lf tc) : pg.length ≤ 64 := by
  rw [h.lens.2.1]
  have := tabs_le (D.sz / 2) (D.n - 2) D.sz 64 0
  unfold tabN
  omega
theorem Inv.tb4 (h : Inv D ep pg tb old fe fr lf tc) : tb.length ≤ 4096 ∧ tb.length ≤ pg.length * (D.sz / 2) := by
  have h1 := h.lens
  have h2 := h.sz
  rw [h1.2.2.1, h1.2.1]
  unfold capN
  split <;> omega
end

end Go.Proofs.YtpkkcicaeldodaaGreatDoor

/- The pager: its pages, as a list; how many sectors are free (plain). -/
namespace Go.Proofs.YtpkkcicaeldodaaGreatDoor
open Go.RowKit Go.Maps

def Gp.old (X : Gp) : List Nat := match X.op with | none => X.table | some o => o.was
def Gp.fr (X : Gp) : Nat → Bool := match X.op with | none => fun _ => false | some o => o.fresh
def Gp.lf (X : Gp) : List Nat := match X.op with | none => [] | some o => o.left
def Gp.tc (X : Gp) : Nat → Bool := match X.op with | none => fun _ => false | some o => o.touched
/-- A pager all right, whose disk is up. -/
structure Gp.Ok (X : Gp) : Prop where
  inv : Inv X.D X.epoch X.pages X.table X.old X.free X.fr X.lf X.tc
  row : X.row = X.D.sz / 2
  up : X.down = false ∧ X.D.down = false ∧ X.D.armed = false

/-- A pager, as its pages are. -/
structure Rp where
  n : Nat
  sz : Nat
  now : List Pk
  was : Option (List Pk)
  touched : Nat → Bool
  epoch : Nat
def Gp.view (X : Gp) : Rp := { n := X.D.n, sz := X.D.sz, now := X.table.map (pk X.D X.fr), was := X.op.map fun o => o.was.map (pk X.D fun _ => false), touched := X.tc, epoch := X.epoch }
def Rp.base (x : Rp) : List Pk := x.was.getD x.now
/-- Has a table page used pages? -/
def partUsed (row : Nat) (l : List Pk) (k : Nat) : Bool := (List.range row).any fun i => (l.getD (k * row + i) .no).used
def tabsUsed (n sz : Nat) (l : List Pk) : Nat := (List.range (tabN n sz)).countP (partUsed (sz / 2) l)
/-- How many sectors are free, and how many of them are not kept back. -/
def Rp.free (x : Rp) : Int := (x.n : Int) - 2 - tabsUsed x.n x.sz x.base - x.base.countP Pk.isOld - x.now.countP Pk.isNew
def Rp.room (x : Rp) : Int := x.free - cntN x.touched 64
def Rp.need (x : Rp) (k m : Nat) : Nat := m + if x.touched k then 0 else 1
def Rp.row (x : Rp) : Nat := x.sz / 2
/-- A page becomes something. -/
def Rp.put (x : Rp) (i : Nat) (c : Pk) : Rp := { x with now := x.now.set i c, touched := setB x.touched (i / x.row) true }
def Rp.begun (x : Rp) : Rp := { x with was := some x.now, touched := fun _ => false }

theorem cntN_countP (f : Nat → Bool) : ∀ n, cntN f n = (List.range n).countP f
  | 0 => rfl
  | n + 1 => by
    rw [cntN_succ, List.range_succ, List.countP_append, cntN_countP f n]
    simp [List.countP_cons]
theorem nodup_filter {l : List Nat} {p : Nat → Bool} (h : ∀ i j s : Nat, l[i]? = some s → l[j]? = some s → p s = true → i = j) : (l.filter p).Nodup := by
  induction l with
  | nil => simp
  | cons a t ih =>
    have ht : (t.filter p).Nodup := ih fun i j s hi hj hp => by have := h (i + 1) (j + 1) s (by simpa using hi) (by simpa using hj) hp; omega
    rw [List.filter_cons]
    split
    · rename_i hp
      refine List.nodup_cons.2 ⟨fun hm => ?_, ht⟩
      obtain ⟨hm, -⟩ := List.mem_filter.1 hm
      obtain ⟨k, hk, e⟩ := List.mem_iff_getElem.1 hm
      have := h 0 (k + 1) a (by simp) (by simp [List.getElem?_eq_getElem hk, e]) hp
      omega
    · exact ht
theorem countP_range (l : List Nat) (p : Nat → Bool) : l.countP p = (List.range l.length).countP fun k => p (l.getD k 0) := by
  induction l with
  | nil => rfl
  | cons a t ih =>
    rw [List.length_cons, List.range_succ_eq_map, List.countP_cons, List.countP_cons, List.countP_map, ih]
    rfl
theorem pk_used (D : Dk) (fr : Nat → Bool) (s : Nat) : (pk D fr s).used = (s != 0) := by
  unfold pk
  by_cases h0 : s = 0
  · simp [h0, Pk.used]
  · by_cases h1 : s = 1
    · simp [h1, Pk.used]
    · rw [if_neg h0, if_neg h1]
      cases fr s <;> simp [Pk.used, h0]
theorem pk_isOld (D : Dk) (s : Nat) : (pk D (fun _ => false) s).isOld = decide (2 ≤ s) := by
  unfold pk
  by_cases h0 : s = 0
  · simp [h0, Pk.isOld]
  · by_cases h1 : s = 1
    · simp [h1, Pk.isOld]
    · rw [if_neg h0, if_neg h1]; simp [Pk.isOld]; omega
theorem pk_isNew (D : Dk) (fr : Nat → Bool) (s : Nat) (h : fr s = true → 2 ≤ s) : (pk D fr s).isNew = fr s := by
  unfold pk
  cases hf : fr s with
  | true => have := h hf; rw [if_neg (by omega), if_neg (by omega)]; simp [Pk.isNew]
  | false => split <;> (try split) <;> simp [Pk.isNew]

section
variable {D : Dk} {ep : Nat} {pg tb old lf : List Nat} {fe : List Bool} {fr tc : Nat → Bool}
/-- All sectors are told apart. -/
theorem Inv.count (h : Inv D ep pg tb old fe fr lf tc) : cnt fe + 2 + pg.countP (fun s => s != 0) + old.countP (fun s => decide (2 ≤ s)) + tb.countP fr = D.n := by
  have hn := h.sz.1
  have h1 : ((pg.filter fun s => s != 0) ++ ((old.filter fun s => decide (2 ≤ s)) ++ tb.filter fr)).Perm ((List.range D.n).filter fun s => !fe.getD s false && decide (2 ≤ s)) := by
    refine (List.perm_ext_iff_of_nodup ?_ (List.nodup_range.filter _)).2 fun s => ?_
    · refine List.nodup_append.2 ⟨nodup_filter fun i j s hi hj hp => h.jP i j s hi hj (by simpa using hp), List.nodup_append.2 ⟨nodup_filter fun i j s hi hj hp => h.jO i j s hi hj (by simpa using hp), nodup_filter fun i j s hi hj hp => h.jT i j s hi hj (h.frr s hp).1, ?_⟩, ?_⟩
      · intro a ha b hb e
        subst e
        obtain ⟨ha, -⟩ := List.mem_filter.1 ha
        obtain ⟨-, hb⟩ := List.mem_filter.1 hb
        obtain ⟨i, hi⟩ := List.mem_iff_getElem?.1 ha
        exact (h.frr a hb).2.2.2.1 i hi
      · intro a ha b hb e
        subst e
        obtain ⟨ha, h0⟩ := List.mem_filter.1 ha
        obtain ⟨k, hk⟩ := List.mem_iff_getElem?.1 ha
        rcases List.mem_append.1 hb with hb | hb
        · obtain ⟨hb, h2⟩ := List.mem_filter.1 hb
          obtain ⟨i, hi⟩ := List.mem_iff_getElem?.1 hb
          have := h.dis k i a hk hi
          simp at h2
          omega
        · obtain ⟨-, hb⟩ := List.mem_filter.1 hb
          exact (h.frr a hb).2.2.1 k hk
    · simp only [List.mem_append, List.mem_filter, List.mem_range, Bool.and_eq_true, Bool.not_eq_true', decide_eq_true_eq, bne_iff_ne, ne_eq]
      constructor
      · rintro (⟨hm, h0⟩ | ⟨hm, h2⟩ | ⟨hm, hf⟩)
        · obtain ⟨k, hk⟩ := List.mem_iff_getElem?.1 hm
          obtain ⟨e1, e2⟩ := h.rP k s hk h0
          exact ⟨e2, (h.acct s e2).2 (.inr (.inl ⟨k, hk⟩)), e1⟩
        · obtain ⟨k, hk⟩ := List.mem_iff_getElem?.1 hm
          have e2 := h.rO k s hk
          exact ⟨e2, (h.acct s e2).2 (.inr (.inr (.inl ⟨k, hk⟩))), h2⟩
        · obtain ⟨e1, e2, -⟩ := h.frr s hf
          exact ⟨e2, (h.acct s e2).2 (.inr (.inr (.inr hf))), e1⟩
      · rintro ⟨e1, e2, e3⟩
        rcases (h.acct s e1).1 e2 with e | ⟨k, hk⟩ | ⟨k, hk⟩ | e
        · omega
        · exact .inl ⟨List.mem_iff_getElem?.2 ⟨k, hk⟩, by omega⟩
        · exact .inr (.inl ⟨List.mem_iff_getElem?.2 ⟨k, hk⟩, e3⟩)
        · obtain ⟨i, hi⟩ := (h.frr s e).2.2.2.2
          exact .inr (.inr ⟨List.mem_iff_getElem?.2 ⟨i, hi⟩, e⟩)
  have h2 := h1.length_eq
  simp only [List.length_append, ← List.countP_eq_length_filter] at h2
  have h3 : cnt fe = (List.range D.n).countP fun s => fe.getD s false := by unfold cnt; rw [h.lens.1]; exact cntN_countP _ _
  have h4 := List.length_eq_countP_add_countP (fun s => fe.getD s false) (l := List.range D.n)
  have h5 : (List.range D.n).countP (fun a => decide (¬ fe.getD a false = true)) = 2 + (List.range D.n).countP (fun s => !fe.getD s false && decide (2 ≤ s)) := by
    obtain ⟨m, hm⟩ : ∃ m, D.n = 2 + m := ⟨D.n - 2, by omega⟩
    have e0 : fe.getD 0 false = false := (h.acct 0 (by omega)).2 (.inl (by omega))
    have e1 : fe.getD 1 false = false := (h.acct 1 (by omega)).2 (.inl (by omega))
    rw [hm, List.range_add, List.countP_append, List.countP_append, show List.range 2 = [0, 1] from rfl]
    simp only [List.countP_cons, List.countP_nil, e0, e1, List.countP_map]
    have : (List.range m).countP ((fun a => decide (¬ fe.getD a false = true)) ∘ fun x => 2 + x) = (List.range m).countP ((fun s => !fe.getD s false && decide (2 ≤ s)) ∘ fun x => 2 + x) := List.countP_congr fun k _ => by
      simp only [Function.comp]
      cases fe.getD (2 + k) false <;> simp
    rw [this]
    simp
  rw [List.length_range] at h4
  omega
end
theorem getD_map_pk (D : Dk) (fr : Nat → Bool) (l : List Nat) (i : Nat) : (l.map (pk D fr)).getD i .no = pk D fr (l.getD i 0) := by
  rw [List.getD_eq_getElem?_getD, List.getD_eq_getElem?_getD, List.getElem?_map]
  cases l[i]? <;> simp [pk]
theorem Gp.base_eq (X : Gp) : X.view.base = X.old.map (pk X.D fun _ => false) := by
  unfold Rp.base Gp.view Gp.old
  cases h : X.op with
  | none => simp [Gp.fr, h]
  | some o => simp
theorem Gp.Ok.free {X : Gp} (h : X.Ok) : (cnt X.free : Int) = X.view.free := by
  have hc := h.inv.count
  have h1 : X.pages.countP (fun s => s != 0) = tabsUsed X.D.n X.D.sz (X.old.map (pk X.D fun _ => false)) := by
    unfold tabsUsed
    rw [countP_range, h.inv.lens.2.1]
    refine List.countP_congr fun k hk => ?_
    have hk' : k < X.pages.length := by rw [h.inv.lens.2.1]; exact List.mem_range.1 hk
    have hp : X.pages[k]? = some (X.pages.getD k 0) := by rw [List.getD_eq_getElem?_getD, List.getElem?_eq_getElem hk']; rfl
    have hpu : partUsed (X.D.sz / 2) (X.old.map (pk X.D fun _ => false)) k = true ↔ ∃ i, i < X.D.sz / 2 ∧ X.old.getD (k * (X.D.sz / 2) + i) 0 ≠ 0 := by
      unfold partUsed
      simp only [List.any_eq_true, List.mem_range, getD_map_pk, pk_used, bne_iff_ne]
    rw [hpu]
    simp only [bne_iff_ne]
    constructor
    · exact fun e => h.inv.dur.tab1 k _ hp e
    · rintro ⟨i, hi, e⟩ e0
      rw [e0] at hp
      exact e (h.inv.dur.tab0 k hp i hi)
  have h2 : X.view.base.countP Pk.isOld = X.old.countP fun s => decide (2 ≤ s) := by
    rw [Gp.base_eq, List.countP_map]
    refine List.countP_congr fun s _ => ?_
    simp only [Function.comp, pk_isOld]
  have h3 : X.view.now.countP Pk.isNew = X.table.countP X.fr := by
    show (X.table.map (pk X.D X.fr)).countP Pk.isNew = _
    rw [List.countP_map]
    refine List.countP_congr fun s _ => ?_
    simp only [Function.comp, pk_isNew X.D X.fr s fun e => (h.inv.frr s e).1]
  have h4 : X.view.n = X.D.n ∧ X.view.sz = X.D.sz := ⟨rfl, rfl⟩
  unfold Rp.free
  rw [h2, h3, Gp.base_eq, h4.1, h4.2, ← h1]
  omega
theorem Gp.Ok.room {X : Gp} (h : X.Ok) : X.room = X.view.room := by
  have hf := h.free
  unfold Gp.room Rp.room
  rw [← hf]
  show _ = _ - (cntN X.tc 64 : Int)
  cases hx : X.op with
  | none => simp only [Gp.tc, hx]; rw [show cntN (fun _ => false) 64 = 0 from cntN_false fun _ _ => rfl]; simp
  | some o => simp only [Gp.tc, hx]
theorem Gp.Ok.sz {X : Gp} (h : X.Ok) : X.Sz := ⟨h.inv.lens.1, ⟨h.row, h.inv.sz.2.2.1⟩, ⟨by rw [h.row]; exact h.inv.tb4.2, h.inv.tb4.1⟩, h.inv.pg64⟩

end Go.Proofs.YtpkkcicaeldodaaGreatDoor

/- A new disk. -/
namespace Go.Proofs.YtpkkcicaeldodaaGreatDoor
open Go.RowKit Go.Maps

theorem make_bytes (n : Nat) (w : World) (hn : n ≤ 1000000) : ∃ w', (Instr.makeSlice 49 (.int .i64 n) (.int .i64 n)).run Tryz.prog w = .ok (.slice (some ⟨w.heap.size, 0, none⟩) n n) w' ∧ w'.ownsRow w.heap.size 5 1 (.slice (some ⟨w.heap.size, 0, none⟩) n n) n (bv (List.replicate n 0)) ∧ Grew w w' ∧ w'.heap.size = w.heap.size + 1 := by
  obtain ⟨i0, hi0, hz0, hz1, hz2⟩ := info_parts u8Info
  have hr := run_makeSlice (P := Tryz.prog) w 49 5 i0 (.int .u8 0) Tryz.underlying49 hi0 hz0 .i64 .i64 n n (by omega) (by omega) (by rw [hz1]; simp; omega) (by rw [hz2]; omega) (by omega)
  obtain ⟨w3, hr3, hown3, hg3⟩ := run_make_full (P := Tryz.prog) w w.heap.size 49 5 i0 (.int .u8 0) 1 Tryz.underlying49 hi0 hz0 hz1 .i64 .i64 n (by rw [hz2]; omega) (by simp only [maxLen]; omega) (Nat.le_refl _)
  rw [hr3] at hr
  injection hr with hr1 hr2
  refine ⟨w3, hr3, ?_, (Chg.refl NoF w).grown hg3 (fun j hj _ => by cases hj), by rw [hr2]; simp⟩
  have := hown3
  rw [show (Value.int .u8 0).cells = #[.int .u8 0] from rfl, Nat.mul_one, toList_madeCells_one] at this
  simpa [bv] using this

theorem rowInfo : (Tryz.prog.info? 49).map (fun i => (i.zero, i.size, i.bytes)) = some (some (.slice none 0 0), 1, 24) := by kernel_rfl

/-- A disk of k sectors, on the way. -/
structure NewJ (w wr : World) (d sz k : Nat) (A : Option Addr) (c M : Nat) (vs : List Value) : Prop where
  blk : Blk wr d 120 #[.int .i64 sz, .slice A k c, .map (some M), .bool false, .int .i64 0, .bool false, .int .i64 0]
  row : wr.ownsRow w.heap.size 49 1 (.slice A k c) k vs
  map : IMap Tryz.prog 3 wr M (fun _ => none) 0
  dat : ∀ i, i < k → ∃ v, vs[i]? = some v ∧ BRow wr (fun j => w.heap.size ≤ j ∧ j < wr.heap.size) v (List.replicate sz 0)
  grew : Grew w wr
  new : w.heap.size ≤ d ∧ w.heap.size ≤ M ∧ M < wr.heap.size

theorem NewJ.more {w wr w3 W4 w5 w6 : World} {d sz k c M g cap : Nat} {A : Option Addr} {vs : List Value} (h : NewJ w wr d sz k A c M vs) (hm : w3.ownsRow wr.heap.size 5 1 (.slice (some ⟨wr.heap.size, 0, none⟩) sz sz) sz (bv (List.replicate sz 0))) (hg3 : Grew wr w3) (hg34 : Grew w3 W4) (hg4 : Grew wr W4)
    (ho : w5.ownsRow w.heap.size 49 1 (.slice (some ⟨g, 0, none⟩) (k + 1) cap) (k + 1) (vs ++ [.slice (some ⟨wr.heap.size, 0, none⟩) sz sz])) (hg5 : W4.grownBy w5 (Value.slice A k c).ownBlock) (hne : d ≠ g ∧ ∀ j, (Value.slice A k c).ownBlock = some j → j ≠ d)
    (hW : w5.setCell ⟨d, 1, none⟩ (.slice (some ⟨g, 0, none⟩) (k + 1) cap) = w6) : NewJ w w6 d sz (k + 1) (some ⟨g, 0, none⟩) cap M (vs ++ [.slice (some ⟨wr.heap.size, 0, none⟩) sz sz]) := by
  have hc56 : Chg (fun j => j = d) w5 w6 := hW ▸ (Chg.refl (fun j => j = d) w5).setCell (p := ⟨d, 1, none⟩) (fun _ => rfl) _
  have hc4 : Chg (fun j => some j = (Value.slice A k c).ownBlock ∨ j = d) W4 w6 := Chg.trans ((Chg.refl (fun j => some j = (Value.slice A k c).ownBlock ∨ j = d) W4).grown hg5 fun j hj _ => .inl hj.symm) hc56 fun j _ e => .inr e
  have hc : Chg (fun j => some j = (Value.slice A k c).ownBlock ∨ j = d) wr w6 := hg4.then hc4
  have hnB : ∀ {u : World}, Grew wr u → ∀ j, (some j = (Value.slice A k c).ownBlock ∨ j = d) → NotB u j := fun hg j hj => by
    rcases hj with e | rfl
    · exact own_notB (own_grew h.row hg) (by decide) e.symm
    · exact (h.blk.grew hg).notB (by decide)
  have hb5 : Blk w5 d 120 #[.int .i64 sz, .slice A k c, .map (some M), .bool false, .int .i64 0, .bool false, .int .i64 0] := (h.blk.grew hg4).grown hg5 (fun e => hne.2 _ e.symm rfl)
  have hsz := h.grew.size
  have hszc := hc.size
  have hvl : vs.length = k := by have := h.row.1; simpa using this
  refine ⟨?_, ?_, h.map.chg hc ?_, fun i hi => ?_, ?_, h.new.1, h.new.2.1, Nat.lt_of_lt_of_le h.new.2.2 hszc⟩
  · subst hW
    have := hb5.put 1 (.slice (some ⟨g, 0, none⟩) (k + 1) cap)
    simpa using this
  · exact own_chg ho hc56 fun j hj e => by simp [Value.ownBlock] at hj; omega
  · rintro (e | e)
    · rcases h.row.2 with ⟨e1, _⟩ | ⟨g', cp, cr, e1, _, hb, _⟩
      · rw [e1] at e; simp [Value.ownBlock] at e
      · have : M = g' := by rw [e1] at e; simpa [Value.ownBlock] using e
        subst this
        obtain ⟨E, ⟨es, cl, hm', -⟩, -⟩ := h.map
        rw [hb] at hm'
        cases hm'
    · exact imap_ne h.map h.blk e
  · by_cases hik : i < k
    · obtain ⟨v, h1, h2⟩ := h.dat i hik
      exact ⟨v, by rw [List.getElem?_append_left (by omega)]; exact h1, (h2.past hc (hnB (Chg.refl _ _))).mono fun j hj => ⟨hj.1, by omega⟩⟩
    · obtain rfl : i = k := by omega
      refine ⟨.slice (some ⟨wr.heap.size, 0, none⟩) sz sz, by rw [List.getElem?_append_right (by omega), hvl]; simp, ?_, fun j hj => ?_⟩
      · have h3 : BRow w3 (fun _ => True) (.slice (some ⟨wr.heap.size, 0, none⟩) sz sz) (List.replicate sz 0) := ⟨by have := own_base hm (Nat.zero_le _); simpa using this, fun _ _ => trivial⟩
        exact (h3.past (hg34.then hc4) (hnB hg3)).1
      · have : j = wr.heap.size := by simp [Value.ownBlock] at hj; omega
        subst this
        have := (hm.lt wr.heap.size rfl).2
        have := hg34.size
        have := hc4.size
        exact ⟨hsz, by omega⟩
  · refine Chg.mono (h.grew.then hc) fun i hi e => ?_
    rcases e with e | e
    · have := (h.row.lt i e.symm).1; omega
    · have := h.new.1; omega

set_option maxRecDepth 100000 in
set_option maxHeartbeats 3200000 in
theorem dnew_any (n sz : Nat) (w : World) (h1 : 1 ≤ n) (h2 : n ≤ 4096) (h3 : 16 ≤ sz) (h4 : sz ≤ 4096) :
    Calls Tryz.prog 34 #[.int .i64 n, .int .i64 sz] w fun e w' => ∃ d F, e = .returned (.pointer (some ⟨d, 0, none⟩)) ∧ DS w' d F ⟨n, sz, fun _ => List.replicate sz 0, fun _ => none, false, 0, false, 0⟩ ∧ Grew w w' ∧ ∀ j, F j → w.heap.size ≤ j := by
  obtain ⟨i0, hi0, hz0, hz1, hz2⟩ := info_parts rowInfo
  have qm : ∀ u : World, (Instr.makeMap 118 none).run Tryz.prog u = .ok (.map (some u.heap.size)) (u.alloc (.map #[] 0)) := fun u => run_makeMap _ u
  have a1 : decide ((n : Int) < 1) = false := decide_eq_false (by omega)
  have a2 : decide ((4096 : Int) < n) = false := decide_eq_false (by omega)
  have a3 : decide ((sz : Int) < 16) = false := decide_eq_false (by omega)
  have a4 : decide ((4096 : Int) < sz) = false := decide_eq_false (by omega)
  obtain ⟨d, hd⟩ : ∃ d, w.heap.size + 1 = d := ⟨_, rfl⟩
  obtain ⟨W1, hW1⟩ : ∃ W1, (w.alloc (.map #[] 0)).alloc (.cells #[.int .i64 sz, .slice none 0 0, .map (some w.heap.size), .bool false, .int .i64 0, .bool false, .int .i64 0] 120) = W1 := ⟨_, rfl⟩
  have HJ0 := Lib.hid (show NewJ w W1 d sz 0 none 0 w.heap.size [] from hW1 ▸ hd ▸ ⟨by have := Blk.new (w.alloc (.map #[] 0)) 120 #[.int .i64 sz, .slice none 0 0, .map (some w.heap.size), .bool false, .int .i64 0, .bool false, .int .i64 0]; simpa using this, World.ownsRow_nil _ _ _ _, (IMap.made _ _ _).grew ((Chg.refl _ _).alloc _), fun i hi => by omega, ((Chg.refl _ _).alloc _).alloc _, by simp; omega⟩)
  have HW := Lib.hid (And.intro hW1 hd)
  clear hW1 hd
  go_enter Tryz.func34, Tryz.ntmps34
  go_wp2
  rw [HW.out.1, HW.out.2]
  go_loopw [25] (fun i wr => ∃ (k : Nat) (A : Option Addr) (c M : Nat) (vs : List Value), k ≤ n ∧ i = .int .i64 k ∧ NewJ w wr d sz k A c M vs) (fun i _ => n - (intOf i).toNat)
  case atStart => exact ⟨0, none, 0, _, [], Nat.zero_le _, rfl, HJ0.out⟩
  case round =>
    obtain ⟨k, A, c, M, vs, hk, rfl, hJ⟩ := hrel
    have HN := Lib.hid hJ
    obtain ⟨c0, f0, s0⟩ := hJ.blk.facts
    clear hJ
    by_cases hlt : k < n
    · have hvl : vs.length = k := by have := HN.out.row.1; simpa using this
      go_wp2
      obtain ⟨w3, hr3, ho3, hg3, hz3⟩ := make_bytes sz wr.drew (by omega)
      have HM := Lib.hid (And.intro ho3 (show Grew wr w3 from Grew.trans ((Chg.refl NoF wr).drew) hg3))
      have hz3' : w3.heap.size = wr.heap.size + 1 := by simpa using hz3
      have hr3' : (Instr.makeSlice 49 (.int .i64 sz) (.int .i64 sz)).run Tryz.prog wr.drew = .ok (.slice (some ⟨wr.heap.size, 0, none⟩) sz sz) w3 := by simpa using hr3
      have hnc : (w3.alloc (.cells #[.slice (some ⟨wr.heap.size, 0, none⟩) sz sz] 49)).cell? ⟨wr.heap.size + 1, 0 + 0, none⟩ = some (.slice (some ⟨wr.heap.size, 0, none⟩) sz sz) := by rw [← hz3']; exact ((Blk.new w3 49 #[.slice (some ⟨wr.heap.size, 0, none⟩) sz sz]).cell 0).trans rfl
      have HG34 := Lib.hid (show Grew wr (w3.alloc (.cells #[.slice (some ⟨wr.heap.size, 0, none⟩) sz sz] 49)) from HM.out.2.alloc _)
      have HS34 := Lib.hid (show Grew w3 (w3.alloc (.cells #[.slice (some ⟨wr.heap.size, 0, none⟩) sz sz] 49)) from (Chg.refl _ _).alloc _)
      have HOw := Lib.hid (own_grew HN.out.row HG34.out)
      have c01 := c0 1
      simp only [List.getElem?_toArray, List.getElem?_cons_zero, List.getElem?_cons_succ] at c01
      have c31 := (HM.out.2.cell (p := ⟨d, 1, none⟩) s0 id).trans c01
      have s3 := Nat.lt_of_lt_of_le s0 HM.out.2.size
      clear ho3 hg3 hr3 hz3 c0 f0
      refine wp_region_held_drew (S := fun _ => True) (by kernel_rfl) trivial (fun _ => ?_)
      refine wpAnyH_take (i := 0) (v := ?_) rfl (by kernel_rfl) (by kernel_rfl) (by kernel_rfl) (fun _ _ _ h => h) (Or.inl ⟨by rfl, ?_⟩) trivial ?_
      rotate_left
      · (intro w hSw; (try dsimp only at hSw); go_simp) <;> with_reducible rfl
      (try simp only [Act.put, List.setIfInBounds_toArray, List.set_cons_zero, List.set_cons_succ])
      refine wpAnyH_take (i := 1) (v := ?_) rfl (by kernel_rfl) (by kernel_rfl) (by kernel_rfl) (fun _ _ _ h => h) (Or.inl ⟨by rfl, ?_⟩) trivial ?_
      rotate_left
      · (intro w hSw; (try dsimp only at hSw); go_simp) <;> with_reducible rfl
      (try simp only [Act.put, List.setIfInBounds_toArray, List.set_cons_zero, List.set_cons_succ])
      refine wpAnyH_take (i := 2) (v := ?_) rfl (by kernel_rfl) (by kernel_rfl) (by kernel_rfl) (fun _ _ _ h => h) (Or.inl ⟨by rfl, ?_⟩) trivial ?_
      rotate_left
      · (intro w hSw; (try dsimp only at hSw); go_simp) <;> with_reducible rfl
      (try simp only [Act.put, List.setIfInBounds_toArray, List.set_cons_zero, List.set_cons_succ])
      refine wpAnyH_take (i := 3) (v := ?_) rfl (by kernel_rfl) (by kernel_rfl) (by kernel_rfl) (fun _ _ _ h => h) (Or.inl ⟨by rfl, ?_⟩) trivial ?_
      rotate_left
      · (intro w hSw; (try dsimp only at hSw); go_simp) <;> with_reducible rfl
      (try simp only [Act.put, List.setIfInBounds_toArray, List.set_cons_zero, List.set_cons_succ])
      refine wpAnyH_take (i := 5) (v := ?_) rfl (by kernel_rfl) (by kernel_rfl) (by kernel_rfl) (fun _ _ _ h => h) (Or.inl ⟨by rfl, ?_⟩) trivial ?_
      rotate_left
      · (intro w hSw; (try dsimp only at hSw); go_simp) <;> with_reducible rfl
      (try simp only [Act.put, List.setIfInBounds_toArray, List.set_cons_zero, List.set_cons_succ])
      refine wpAnyH_ready (rs := [4, 6]) (by kernel_rfl) (by simp) ?_
      refine (AllReadyH.cons rfl (fun K hK => ?_) (AllReadyH.cons rfl (fun K hK => ?_) AllReadyH.nil))
      · go_simp
        refine hK.out _ _ trivial (fun _ => ?_)
        clear hK K
        (try simp only [Act.put, List.setIfInBounds_toArray, List.set_cons_zero, List.set_cons_succ])
        refine wpAnyH_ready (rs := [6]) (by kernel_rfl) (by simp) ?_
        refine (AllReadyH.cons rfl (fun K hK => ?_) AllReadyH.nil)
        · go_simp
          refine hK.out _ _ trivial (fun _ => ?_)
          clear hK K
          (try simp only [Act.put, List.setIfInBounds_toArray, List.set_cons_zero, List.set_cons_succ])
          refine wpAnyH_ready (rs := [7]) (by kernel_rfl) (by simp) ?_
          refine (AllReadyH.cons rfl (fun K hK => ?_) AllReadyH.nil)
          · go_simp
            refine hK.out _ _ trivial (fun _ => ?_)
            clear hK K
            (try simp only [Act.put, List.setIfInBounds_toArray, List.set_cons_zero, List.set_cons_succ])
            refine wpAnyH_ready (rs := [8]) (by kernel_rfl) (by simp) ?_
            refine (AllReadyH.cons rfl (fun K hK => ?_) AllReadyH.nil)
            · refine step_append_lies _ (by rfl) _ _ _ (by rfl) w.heap.size 49 i0 _ 1 24 Tryz.underlying117 hi0 hz0 hz1 hz2 rfl (by omega) (.slice A k c) k vs (by rfl) HOw.out ⟨wr.heap.size + 1, 0, none⟩ 1 1 [.slice (some ⟨wr.heap.size, 0, none⟩) sz sz] (by rfl) (by rfl) (by intro j u hu; cases j with | zero => rw [Addr.add_lit]; cases hu; exact hnc | succ j => simp at hu) (by simp [Value.oneCell']) (by omega) (by simp only [maxLen]; omega) (by omega) (by have := HN.out.grew.size; simp [hz3']; omega) (wr.heap.size + 1 + 1) (by simp [hz3']) ?_
              intro g cap w5 ho5 hg5 hlie hlt5
              have hne : d ≠ g ∧ ∀ j, (Value.slice A k c).ownBlock = some j → j ≠ d := by
                refine ⟨fun e => ?_, fun j hj e => own_blk_ne (own_grew HN.out.row HG34.out) (HN.out.blk.grew HG34.out) (by decide) (e ▸ hj)⟩
                rcases hlie with h | h
                · exact own_blk_ne (own_grew HN.out.row HG34.out) (HN.out.blk.grew HG34.out) (by decide) (e ▸ h)
                · have := HN.out.blk.lt; omega
              have HO5 := Lib.hid (And.intro ho5 (And.intro hg5 hne))
              have HB5 := Lib.hid (show Blk w5 d 120 #[.int .i64 sz, .slice A k c, .map (some M), .bool false, .int .i64 0, .bool false, .int .i64 0] from (HN.out.blk.grew HG34.out).grown hg5 (fun e => hne.2 _ e.symm rfl))
              have f5 := HB5.out.frozen 1
              have c5 := HB5.out.cell 1
              have s5 := HB5.out.lt
              clear ho5 hg5 hlie hne
              refine hK.out _ _ trivial (fun _ => ?_)
              clear hK K
              (try simp only [Act.put, List.setIfInBounds_toArray, List.set_cons_zero, List.set_cons_succ])
              refine wpAnyH_take (i := 9) (v := ?_) rfl (by kernel_rfl) (by kernel_rfl) (by kernel_rfl) (fun _ _ _ h => h) (Or.inl ⟨by rfl, ?_⟩) trivial ?_
              rotate_left
              · (intro w hSw; (try dsimp only at hSw); go_simp) <;> with_reducible rfl
              (try simp only [Act.put, List.setIfInBounds_toArray, List.set_cons_zero, List.set_cons_succ])
              refine wpAnyH_take (i := 10) (v := ?_) rfl (by kernel_rfl) (by kernel_rfl) (by kernel_rfl) (fun _ _ _ h => h) (Or.inl ⟨by rfl, ?_⟩) trivial ?_
              rotate_left
              · (intro w hSw; (try dsimp only at hSw); go_simp) <;> with_reducible rfl
              (try simp only [Act.put, List.setIfInBounds_toArray, List.set_cons_zero, List.set_cons_succ])
              refine wpAnyH_ready (rs := [11]) (by kernel_rfl) (by simp) ?_
              refine AllReadyH.cons rfl (fun K hK => ?_) AllReadyH.nil
              go_simp
              refine hK.out _ _ trivial (fun _ => ?_)
              clear hK K
              (try simp only [Act.put, List.setIfInBounds_toArray, List.set_cons_zero, List.set_cons_succ])
              refine wpAnyH_done (by kernel_rfl) ?_ _
              go_wp2
              exact ⟨⟨k + 1, _, cap, M, _, by omega, by simp, HN.out.more HM.out.1 HM.out.2 HS34.out HG34.out HO5.out.1 HO5.out.2.1 HO5.out.2.2 rfl⟩, by simp [intOf]; omega⟩
      · go_simp
        refine hK.out _ _ trivial (fun _ => ?_)
        clear hK K
        (try simp only [Act.put, List.setIfInBounds_toArray, List.set_cons_zero, List.set_cons_succ])
        refine wpAnyH_ready (rs := [4, 7]) (by kernel_rfl) (by simp) ?_
        refine (AllReadyH.cons rfl (fun K hK => ?_) (AllReadyH.cons rfl (fun K hK => ?_) AllReadyH.nil))
        · go_simp
          refine hK.out _ _ trivial (fun _ => ?_)
          clear hK K
          (try simp only [Act.put, List.setIfInBounds_toArray, List.set_cons_zero, List.set_cons_succ])
          refine wpAnyH_ready (rs := [7]) (by kernel_rfl) (by simp) ?_
          refine (AllReadyH.cons rfl (fun K hK => ?_) AllReadyH.nil)
          · go_simp
            refine hK.out _ _ trivial (fun _ => ?_)
            clear hK K
            (try simp only [Act.put, List.setIfInBounds_toArray, List.set_cons_zero, List.set_cons_succ])
            refine wpAnyH_ready (rs := [8]) (by kernel_rfl) (by simp) ?_
            refine (AllReadyH.cons rfl (fun K hK => ?_) AllReadyH.nil)
            · refine step_append_lies _ (by rfl) _ _ _ (by rfl) w.heap.size 49 i0 _ 1 24 Tryz.underlying117 hi0 hz0 hz1 hz2 rfl (by omega) (.slice A k c) k vs (by rfl) HOw.out ⟨wr.heap.size + 1, 0, none⟩ 1 1 [.slice (some ⟨wr.heap.size, 0, none⟩) sz sz] (by rfl) (by rfl) (by intro j u hu; cases j with | zero => rw [Addr.add_lit]; cases hu; exact hnc | succ j => simp at hu) (by simp [Value.oneCell']) (by omega) (by simp only [maxLen]; omega) (by omega) (by have := HN.out.grew.size; simp [hz3']; omega) (wr.heap.size + 1 + 1) (by simp [hz3']) ?_
              intro g cap w5 ho5 hg5 hlie hlt5
              have hne : d ≠ g ∧ ∀ j, (Value.slice A k c).ownBlock = some j → j ≠ d := by
                refine ⟨fun e => ?_, fun j hj e => own_blk_ne (own_grew HN.out.row HG34.out) (HN.out.blk.grew HG34.out) (by decide) (e ▸ hj)⟩
                rcases hlie with h | h
                · exact own_blk_ne (own_grew HN.out.row HG34.out) (HN.out.blk.grew HG34.out) (by decide) (e ▸ h)
                · have := HN.out.blk.lt; omega
              have HO5 := Lib.hid (And.intro ho5 (And.intro hg5 hne))
              have HB5 := Lib.hid (show Blk w5 d 120 #[.int .i64 sz, .slice A k c, .map (some M), .bool false, .int .i64 0, .bool false, .int .i64 0] from (HN.out.blk.grew HG34.out).grown hg5 (fun e => hne.2 _ e.symm rfl))
              have f5 := HB5.out.frozen 1
              have c5 := HB5.out.cell 1
              have s5 := HB5.out.lt
              clear ho5 hg5 hlie hne
              refine hK.out _ _ trivial (fun _ => ?_)
              clear hK K
              (try simp only [Act.put, List.setIfInBounds_toArray, List.set_cons_zero, List.set_cons_succ])
              refine wpAnyH_take (i := 9) (v := ?_) rfl (by kernel_rfl) (by kernel_rfl) (by kernel_rfl) (fun _ _ _ h => h) (Or.inl ⟨by rfl, ?_⟩) trivial ?_
              rotate_left
              · (intro w hSw; (try dsimp only at hSw); go_simp) <;> with_reducible rfl
              (try simp only [Act.put, List.setIfInBounds_toArray, List.set_cons_zero, List.set_cons_succ])
              refine wpAnyH_take (i := 10) (v := ?_) rfl (by kernel_rfl) (by kernel_rfl) (by kernel_rfl) (fun _ _ _ h => h) (Or.inl ⟨by rfl, ?_⟩) trivial ?_
              rotate_left
              · (intro w hSw; (try dsimp only at hSw); go_simp) <;> with_reducible rfl
              (try simp only [Act.put, List.setIfInBounds_toArray, List.set_cons_zero, List.set_cons_succ])
              refine wpAnyH_ready (rs := [11]) (by kernel_rfl) (by simp) ?_
              refine AllReadyH.cons rfl (fun K hK => ?_) AllReadyH.nil
              go_simp
              refine hK.out _ _ trivial (fun _ => ?_)
              clear hK K
              (try simp only [Act.put, List.setIfInBounds_toArray, List.set_cons_zero, List.set_cons_succ])
              refine wpAnyH_done (by kernel_rfl) ?_ _
              go_wp2
              exact ⟨⟨k + 1, _, cap, M, _, by omega, by simp, HN.out.more HM.out.1 HM.out.2 HS34.out HG34.out HO5.out.1 HO5.out.2.1 HO5.out.2.2 rfl⟩, by simp [intOf]; omega⟩
        · go_simp
          refine hK.out _ _ trivial (fun _ => ?_)
          clear hK K
          (try simp only [Act.put, List.setIfInBounds_toArray, List.set_cons_zero, List.set_cons_succ])
          refine wpAnyH_ready (rs := [4]) (by kernel_rfl) (by simp) ?_
          refine (AllReadyH.cons rfl (fun K hK => ?_) AllReadyH.nil)
          · go_simp
            refine hK.out _ _ trivial (fun _ => ?_)
            clear hK K
            (try simp only [Act.put, List.setIfInBounds_toArray, List.set_cons_zero, List.set_cons_succ])
            refine wpAnyH_ready (rs := [8]) (by kernel_rfl) (by simp) ?_
            refine (AllReadyH.cons rfl (fun K hK => ?_) AllReadyH.nil)
            · refine step_append_lies _ (by rfl) _ _ _ (by rfl) w.heap.size 49 i0 _ 1 24 Tryz.underlying117 hi0 hz0 hz1 hz2 rfl (by omega) (.slice A k c) k vs (by rfl) HOw.out ⟨wr.heap.size + 1, 0, none⟩ 1 1 [.slice (some ⟨wr.heap.size, 0, none⟩) sz sz] (by rfl) (by rfl) (by intro j u hu; cases j with | zero => rw [Addr.add_lit]; cases hu; exact hnc | succ j => simp at hu) (by simp [Value.oneCell']) (by omega) (by simp only [maxLen]; omega) (by omega) (by have := HN.out.grew.size; simp [hz3']; omega) (wr.heap.size + 1 + 1) (by simp [hz3']) ?_
              intro g cap w5 ho5 hg5 hlie hlt5
              have hne : d ≠ g ∧ ∀ j, (Value.slice A k c).ownBlock = some j → j ≠ d := by
                refine ⟨fun e => ?_, fun j hj e => own_blk_ne (own_grew HN.out.row HG34.out) (HN.out.blk.grew HG34.out) (by decide) (e ▸ hj)⟩
                rcases hlie with h | h
                · exact own_blk_ne (own_grew HN.out.row HG34.out) (HN.out.blk.grew HG34.out) (by decide) (e ▸ h)
                · have := HN.out.blk.lt; omega
              have HO5 := Lib.hid (And.intro ho5 (And.intro hg5 hne))
              have HB5 := Lib.hid (show Blk w5 d 120 #[.int .i64 sz, .slice A k c, .map (some M), .bool false, .int .i64 0, .bool false, .int .i64 0] from (HN.out.blk.grew HG34.out).grown hg5 (fun e => hne.2 _ e.symm rfl))
              have f5 := HB5.out.frozen 1
              have c5 := HB5.out.cell 1
              have s5 := HB5.out.lt
              clear ho5 hg5 hlie hne
              refine hK.out _ _ trivial (fun _ => ?_)
              clear hK K
              (try simp only [Act.put, List.setIfInBounds_toArray, List.set_cons_zero, List.set_cons_succ])
              refine wpAnyH_take (i := 9) (v := ?_) rfl (by kernel_rfl) (by kernel_rfl) (by kernel_rfl) (fun _ _ _ h => h) (Or.inl ⟨by rfl, ?_⟩) trivial ?_
              rotate_left
              · (intro w hSw; (try dsimp only at hSw); go_simp) <;> with_reducible rfl
              (try simp only [Act.put, List.setIfInBounds_toArray, List.set_cons_zero, List.set_cons_succ])
              refine wpAnyH_take (i := 10) (v := ?_) rfl (by kernel_rfl) (by kernel_rfl) (by kernel_rfl) (fun _ _ _ h => h) (Or.inl ⟨by rfl, ?_⟩) trivial ?_
              rotate_left
              · (intro w hSw; (try dsimp only at hSw); go_simp) <;> with_reducible rfl
              (try simp only [Act.put, List.setIfInBounds_toArray, List.set_cons_zero, List.set_cons_succ])
              refine wpAnyH_ready (rs := [11]) (by kernel_rfl) (by simp) ?_
              refine AllReadyH.cons rfl (fun K hK => ?_) AllReadyH.nil
              go_simp
              refine hK.out _ _ trivial (fun _ => ?_)
              clear hK K
              (try simp only [Act.put, List.setIfInBounds_toArray, List.set_cons_zero, List.set_cons_succ])
              refine wpAnyH_done (by kernel_rfl) ?_ _
              go_wp2
              exact ⟨⟨k + 1, _, cap, M, _, by omega, by simp, HN.out.more HM.out.1 HM.out.2 HS34.out HG34.out HO5.out.1 HO5.out.2.1 HO5.out.2.2 rfl⟩, by simp [intOf]; omega⟩
    · obtain rfl : k = n := by omega
      go_wp2
      go_ret
      have hN := HN.out
      refine ⟨d, fun j => w.heap.size ≤ j ∧ j < wr.heap.size, rfl, ⟨⟨A, c, M, 0, vs, fun _ => none, hN.blk, own_base hN.row (Nat.zero_le _), hN.map, fun i hi => ?_, fun _ _ => rfl, (fun i bs h => (by cases h)), ⟨⟨hN.new.1, hN.blk.lt⟩, ⟨hN.new.2.1, hN.new.2.2⟩, fun a ha => ?_⟩, h1, h2, h3, h4, Nat.zero_le _⟩, fun j hj => hj.2⟩, hN.grew, fun j hj => hj.1⟩
      · obtain ⟨v, g1, g2⟩ := hN.dat i hi
        exact ⟨v, g1, g2, by simp⟩
      · subst ha
        obtain ⟨g, rfl, hg⟩ := own_some hN.row
        exact ⟨(hN.row.lt g rfl).1, hg⟩

end Go.Proofs.YtpkkcicaeldodaaGreatDoor

/- The pager: Write with no room; Read. -/
namespace Go.Proofs.YtpkkcicaeldodaaGreatDoor
open Go.RowKit Go.Maps

set_option maxRecDepth 100000 in
set_option maxHeartbeats 6400000 in
theorem gwrite_full (p i s : Nat) (nb : Nat) (Ab : Option Addr) (cb : Nat) (F : Nat → Prop) (X : Gp) (o : Cg) (w : World) (h : GS w p F X) (hr : X.rdy = 0) (hx : X.op = some o) (hz : X.Sz) (hi : X.table[i]? = some s) (hs : s ≠ 0) (hf : o.fresh s = false) (hsn : s < 4096) (hn : X.D.n ≤ 4096) (hm : X.room < (o.more (i / X.row) 1 : Nat)) (hb : nb = X.D.sz) :
    Calls Tryz.prog 21 #[.pointer (some ⟨p, 0, none⟩), .int .i64 i, .slice Ab nb cb] w fun e' w' => e' = .returned (.int .i64 21) ∧ Grew w w' := by
  have hrd := gready_any p F X w h
  rw [hr] at hrd
  have hus := gused_in p i s F X w h (by have := hz.tab.2; omega) hi
  rw [show (s != 0) = true from by simpa using hs] at hus
  have hsz := gsize_any p F X w h
  have hil : i < X.table.length := (List.getElem?_eq_some_iff.1 hi).1
  obtain ⟨k, hk⟩ : ∃ k, i / X.row = k := ⟨_, rfl⟩
  have HFL := Lib.hid h
  obtain ⟨L, d, b, A, ca, vp, vt, vo, h, hF⟩ := h
  obtain ⟨c0, f0, s0⟩ := h.blk.facts
  have ho := h.opn
  rw [hx] at ho
  obtain ⟨c, vw, M1, s1, vl, M2, s2, rfl, hi2⟩ := ho
  obtain ⟨g, ct, rfl, hgl, hlg, hce, hfe⟩ := h.entry hi
  have hdz := h.dsk.sml
  have htf := fun u (hu : Grew w u) => gtouch_full p i k 1 F X o u (HFL.out.grew hu) hx (by have := hz.free; omega) (by have := hz.row; omega) hk (by have := hz.tab.2; omega) (by omega) (by rw [← hk]; exact hm)
  have u1 : (0 : Int) ≤ (i : Int) := by omega
  have u2 : (i : Int) < (X.table.length : Int) := by omega
  have hlk : (Instr.lookup 103 (.map (some M1)) (.int .i64 s) false).run Tryz.prog w.drew = .ok (.bool false) w.drew := by
    have := (hi2.fr.grew ((Chg.refl _ w).drew)).look (t := 103) kInt Tryz.underlying3 Tryz.underlying103 (zBool w.drew) (i := (s : Int)) (wfInt (by omega) (by omega))
    rwa [mB_getD, hf] at this
  have hp4 : w.drew.cell? ⟨p, 4, none⟩ = some (.slice (some ⟨g, 0, none⟩) X.table.length ct) := (h.blk.drew).cell 4
  have hp6 : w.drew.cell? ⟨p, 6, none⟩ = some (.pointer (some ⟨c, 0, none⟩)) := (h.blk.drew).cell 6
  have hc1 : w.drew.cell? ⟨c, 1, none⟩ = some (.map (some M1)) := (hi2.blk.drew).cell 1
  have hgi : w.drew.cell? ⟨g, i, none⟩ = some (.int .i64 s) := hce
  have e3 : ((nb : Int) != (X.D.sz : Int)) = false := by simp [hb]
  have H := Lib.hid (And.intro hrd (And.intro hus (And.intro hsz htf)))
  clear h hr hrd hus hsz hx hz hi hs hf hi2 htf hF c0 f0 hce hm hk hb
  go_enter Tryz.func21, Tryz.ntmps21
  go_wp2_with (first
    | (go_at_call 54; (refine H.out.1.mono ?_); rintro e w1 ⟨rfl, rfl⟩)
    | (go_at_call 57; (refine H.out.2.1.mono ?_); rintro e w1 ⟨rfl, rfl⟩)
    | (go_at_call 58; (refine H.out.2.2.1.mono ?_); rintro e w1 ⟨rfl, rfl⟩))
  refine wp_region_held_drew (S := fun w' => w'.cell? ⟨p, 4, none⟩ = some (.slice (some ⟨g, 0, none⟩) X.table.length ct) ∧ w'.cell? ⟨p, 6, none⟩ = some (.pointer (some ⟨c, 0, none⟩)) ∧ w'.cell? ⟨c, 1, none⟩ = some (.map (some M1)) ∧ w'.cell? ⟨g, i, none⟩ = some (.int .i64 s) ∧ (Instr.lookup 103 (.map (some M1)) (.int .i64 s) false).run Tryz.prog w' = .ok (.bool false) w') (by kernel_rfl) ⟨hp4, hp6, hc1, hgi, hlk⟩ (fun hHeld => ?_)
  refine wpAnyH_take (i := 0) (v := ?_) rfl (by kernel_rfl) (by kernel_rfl) (by kernel_rfl) (fun _ _ _ h => h) (Or.inl ⟨by rfl, ?_⟩) hHeld ?_
  rotate_left
  · (intro w hSw; (try dsimp only at hSw); go_simp) <;> with_reducible rfl
  (try simp only [Act.put, List.setIfInBounds_toArray, List.set_cons_zero, List.set_cons_succ, List.getElem_toArray, List.getElem_cons_zero, List.getElem_cons_succ])
  refine wpAnyH_take (i := 1) (v := ?_) rfl (by kernel_rfl) (by kernel_rfl) (by kernel_rfl) (fun _ _ _ h => h) (Or.inl ⟨by rfl, ?_⟩) hHeld ?_
  rotate_left
  · (intro w hSw; (try dsimp only at hSw); go_simp) <;> with_reducible rfl
  (try simp only [Act.put, List.setIfInBounds_toArray, List.set_cons_zero, List.set_cons_succ, List.getElem_toArray, List.getElem_cons_zero, List.getElem_cons_succ])
  refine wpAnyH_take (i := 2) (v := ?_) rfl (by kernel_rfl) (by kernel_rfl) (by kernel_rfl) (fun _ _ _ h => h) (Or.inl ⟨by rfl, ?_⟩) hHeld ?_
  rotate_left
  · (intro w hSw; (try dsimp only at hSw); go_simp) <;> with_reducible rfl
  (try simp only [Act.put, List.setIfInBounds_toArray, List.set_cons_zero, List.set_cons_succ, List.getElem_toArray, List.getElem_cons_zero, List.getElem_cons_succ])
  refine wpAnyH_take (i := 3) (v := ?_) rfl (by kernel_rfl) (by kernel_rfl) (by kernel_rfl) (fun _ _ _ h => h) (Or.inl ⟨by rfl, ?_⟩) hHeld ?_
  rotate_left
  · (intro w hSw; (try dsimp only at hSw); go_simp) <;> with_reducible rfl
  (try simp only [Act.put, List.setIfInBounds_toArray, List.set_cons_zero, List.set_cons_succ, List.getElem_toArray, List.getElem_cons_zero, List.getElem_cons_succ])
  refine wpAnyH_take (i := 4) (v := ?_) rfl (by kernel_rfl) (by kernel_rfl) (by kernel_rfl) (fun _ _ _ h => h) (Or.inl ⟨by rfl, ?_⟩) hHeld ?_
  rotate_left
  · (intro w hSw; (try dsimp only at hSw); go_simp) <;> with_reducible rfl
  (try simp only [Act.put, List.setIfInBounds_toArray, List.set_cons_zero, List.set_cons_succ, List.getElem_toArray, List.getElem_cons_zero, List.getElem_cons_succ])
  refine wpAnyH_take (i := 5) (v := ?_) rfl (by kernel_rfl) (by kernel_rfl) (by kernel_rfl) (fun _ _ _ h => h) (Or.inl ⟨by rfl, ?_⟩) hHeld ?_
  rotate_left
  · (intro w hSw; (try dsimp only at hSw); go_simp) <;> with_reducible rfl
  (try simp only [Act.put, List.setIfInBounds_toArray, List.set_cons_zero, List.set_cons_succ, List.getElem_toArray, List.getElem_cons_zero, List.getElem_cons_succ])
  refine wpAnyH_take (i := 6) (v := ?_) rfl (by kernel_rfl) (by kernel_rfl) (by kernel_rfl) (fun _ _ _ h => h) (Or.inl ⟨by rfl, ?_⟩) hHeld ?_
  rotate_left
  · (intro w hSw; (try dsimp only at hSw); go_simp) <;> with_reducible rfl
  (try simp only [Act.put, List.setIfInBounds_toArray, List.set_cons_zero, List.set_cons_succ, List.getElem_toArray, List.getElem_cons_zero, List.getElem_cons_succ])
  refine wpAnyH_take (i := 7) (v := ?_) rfl (by kernel_rfl) (by kernel_rfl) (by kernel_rfl) (fun _ _ _ h => h) (Or.inl ⟨by rfl, ?_⟩) hHeld ?_
  rotate_left
  · (intro w hSw; (try dsimp only at hSw); go_simp) <;> with_reducible rfl
  (try simp only [Act.put, List.setIfInBounds_toArray, List.set_cons_zero, List.set_cons_succ, List.getElem_toArray, List.getElem_cons_zero, List.getElem_cons_succ])
  refine wpAnyH_take (i := 8) (v := ?_) rfl (by kernel_rfl) (by kernel_rfl) (by kernel_rfl) (fun _ _ _ h => h) (Or.inl ⟨by rfl, ?_⟩) hHeld ?_
  rotate_left
  · (intro w hSw; (try dsimp only at hSw); go_simp) <;> with_reducible rfl
  (try simp only [Act.put, List.setIfInBounds_toArray, List.set_cons_zero, List.set_cons_succ, List.getElem_toArray, List.getElem_cons_zero, List.getElem_cons_succ])
  refine wpAnyH_take (i := 9) (v := ?_) rfl (by kernel_rfl) (by kernel_rfl) (by kernel_rfl) (fun _ _ _ h => h) (Or.inl ⟨by rfl, ?_⟩) hHeld ?_
  rotate_left
  · (intro w hSw; (try dsimp only at hSw); go_simp) <;> with_reducible rfl
  (try simp only [Act.put, List.setIfInBounds_toArray, List.set_cons_zero, List.set_cons_succ, List.getElem_toArray, List.getElem_cons_zero, List.getElem_cons_succ])
  refine wpAnyH_take (i := 10) (v := ?_) rfl (by kernel_rfl) (by kernel_rfl) (by kernel_rfl) (fun _ _ _ h => h) (Or.inl ⟨by rfl, ?_⟩) hHeld ?_
  rotate_left
  · (intro w hSw; (try dsimp only at hSw); go_simp) <;> with_reducible rfl
  (try simp only [Act.put, List.setIfInBounds_toArray, List.set_cons_zero, List.set_cons_succ, List.getElem_toArray, List.getElem_cons_zero, List.getElem_cons_succ])
  refine wpAnyH_take (i := 11) (v := ?_) rfl (by kernel_rfl) (by kernel_rfl) (by kernel_rfl) (fun _ _ _ h => h) (Or.inl ⟨by rfl, ?_⟩) hHeld ?_
  rotate_left
  · (intro w hSw; (try dsimp only at hSw); go_simp) <;> with_reducible rfl
  (try simp only [Act.put, List.setIfInBounds_toArray, List.set_cons_zero, List.set_cons_succ, List.getElem_toArray, List.getElem_cons_zero, List.getElem_cons_succ])
  refine wpAnyH_take (i := 12) (v := ?_) rfl (by kernel_rfl) (by kernel_rfl) (by kernel_rfl) (fun _ _ _ h => h) (Or.inl ⟨by rfl, ?_⟩) hHeld ?_
  rotate_left
  · (intro w hSw; (try dsimp only at hSw); go_simp) <;> with_reducible rfl
  (try simp only [Act.put, List.setIfInBounds_toArray, List.set_cons_zero, List.set_cons_succ, List.getElem_toArray, List.getElem_cons_zero, List.getElem_cons_succ])
  refine wpAnyH_take (i := 13) (v := ?_) rfl (by kernel_rfl) (by kernel_rfl) (by kernel_rfl) (fun _ _ _ h => h) (Or.inl ⟨by rfl, ?_⟩) hHeld ?_
  rotate_left
  · (intro w hSw; (try dsimp only at hSw); go_simp) <;> with_reducible rfl
  (try simp only [Act.put, List.setIfInBounds_toArray, List.set_cons_zero, List.set_cons_succ, List.getElem_toArray, List.getElem_cons_zero, List.getElem_cons_succ])
  refine wpAnyH_take (i := 14) (v := ?_) rfl (by kernel_rfl) (by kernel_rfl) (by kernel_rfl) (fun _ _ _ h => h) (Or.inl ⟨by rfl, ?_⟩) hHeld ?_
  rotate_left
  · (intro w hSw; (try dsimp only at hSw); go_simp) <;> with_reducible rfl
  (try simp only [Act.put, List.setIfInBounds_toArray, List.set_cons_zero, List.set_cons_succ, List.getElem_toArray, List.getElem_cons_zero, List.getElem_cons_succ])
  refine wpAnyH_ready (rs := [15]) (by kernel_rfl) (by simp) ?_
  refine AllReadyH.cons rfl (fun K hK => ?_) AllReadyH.nil
  go_simp
  refine hK.out _ _ hHeld (fun _ => ?_)
  clear hK K
  (try simp only [Act.put, List.setIfInBounds_toArray, List.set_cons_zero, List.set_cons_succ, List.getElem_toArray, List.getElem_cons_zero, List.getElem_cons_succ])
  refine wpAnyH_done (by kernel_rfl) ?_ _
  clear hHeld hlk hp4 hp6 hc1 hgi hgl hlg hfe s0
  go_wp2_with fail
  refine (H.out.2.2.2 _ ((Chg.refl _ _).drew)).mono ?_
  rintro e w1 ⟨rfl, hg1⟩
  have HG1 := Lib.hid (Grew.trans ((Chg.refl NoF w).drew) hg1)
  clear hg1
  go_wp2_with fail
  go_ret
  exact ⟨rfl, HG1.out⟩

theorem gread_none (p : Nat) (i : Int) (F : Nat → Prop) (X : Gp) (w : World) (h : GS w p F X) (hd : X.down = false) (hl : X.table.length ≤ 4096) (hu : X.usedB i = false) :
    Calls Tryz.prog 84 #[.pointer (some ⟨p, 0, none⟩), .int .i64 i] w fun e' w' => e' = .returned (.tuple #[.slice none 0 0, .int .i64 14]) ∧ w = w' := by
  have hus := gused_any p i F X w h (by omega)
  rw [hu] at hus
  obtain ⟨L, d, b, A, ca, vp, vt, vo, h, hF⟩ := h
  obtain ⟨c0, f0, s0⟩ := h.blk.facts
  rw [hd] at c0
  have H := Lib.hid hus
  clear h hF hd hu hus
  go_enter Tryz.func84, Tryz.ntmps84
  go_wp2_with (go_at_call 57; (refine H.out.mono ?_); rintro e w1 ⟨rfl, rfl⟩)
  go_ret2
  exact ⟨rfl, rfl⟩

set_option maxRecDepth 100000 in
set_option maxHeartbeats 800000 in
theorem gread_one (p i : Nat) (F : Nat → Prop) (X : Gp) (w : World) (h : GS w p F X) (hd : X.down = false) (hl : X.table.length ≤ 4096) (hi : X.table[i]? = some 1) :
    Calls Tryz.prog 84 #[.pointer (some ⟨p, 0, none⟩), .int .i64 i] w fun e' w' => OwnOut w w' 5 1 X.D.sz (bv (List.replicate X.D.sz 0)) (fun A c => .tuple #[.slice A X.D.sz c, .int .i64 0]) e' := by
  have hus := gused_in p i 1 F X w h (by omega) hi
  have hsz := gsize_any p F X w h
  obtain ⟨L, d, b, A, ca, vp, vt, vo, h, hF⟩ := h
  obtain ⟨c0, f0, s0⟩ := h.blk.facts
  rw [hd] at c0
  obtain ⟨g, ct, rfl, hgl, hlg, hce, hfe⟩ := h.entry hi
  have hil : i < X.table.length := (List.getElem?_eq_some_iff.1 hi).1
  have hdz := h.dsk.sml
  have u1 : (0 : Int) ≤ (i : Int) := by omega
  have u2 : (i : Int) < (X.table.length : Int) := by omega
  obtain ⟨w3, hr3, ho3, hg3, hz3⟩ := make_bytes X.D.sz w (by omega)
  have H := Lib.hid (And.intro hus (And.intro hsz (And.intro ho3 hg3)))
  clear h hF hd hus hsz ho3 hg3 hz3 hi
  go_enter Tryz.func84, Tryz.ntmps84
  go_wp2_with (first
    | (go_at_call 57; (refine H.out.1.mono ?_); rintro e w1 ⟨rfl, rfl⟩)
    | (go_at_call 58; (refine H.out.2.1.mono ?_); rintro e w1 ⟨rfl, rfl⟩))
  go_ret2
  exact OwnOut.mk _ _ rfl H.out.2.2.1 H.out.2.2.2

/-- What reading a page leaves. -/
def ReadOut (w w' : World) (p : Nat) (F : Nat → Prop) (X : Gp) (n : Nat) (xs : List Value) (e : Ending) : Prop :=
  ∃ A c, e = .returned (.tuple #[.slice A n c, .int .i64 0]) ∧ w'.ownsRow w.heap.size 5 1 (.slice A n c) n xs ∧ GS w' p F X ∧ Chg F w w' ∧ ∀ a, A = some a → ¬ F a.block

set_option maxRecDepth 100000 in
set_option maxHeartbeats 1600000 in
theorem gread_sec (p i s : Nat) (F : Nat → Prop) (X : Gp) (w : World) (h : GS w p F X) (hd : X.down = false) (hdd : X.D.down = false) (hl : X.table.length ≤ 4096) (hi : X.table[i]? = some s) (hs : 2 ≤ s) (hsn : s < X.D.n) :
    Calls Tryz.prog 84 #[.pointer (some ⟨p, 0, none⟩), .int .i64 i] w fun e' w' => ReadOut w w' p F X X.D.sz (bv (X.D.rd s)) e' := by
  have HGS := Lib.hid h
  have hus := gused_in p i s F X w h (by omega) hi
  rw [show (s != 0) = true from by simp; omega] at hus
  obtain ⟨L, d, b, A, ca, vp, vt, vo, h, hF⟩ := h
  obtain ⟨c0, f0, s0⟩ := h.blk.facts
  rw [hd] at c0
  obtain ⟨g, ct, rfl, hgl, hlg, hce, hfe⟩ := h.entry hi
  have hil : i < X.table.length := (List.getElem?_eq_some_iff.1 hi).1
  have u1 : (0 : Int) ≤ (i : Int) := by omega
  have u2 : (i : Int) < (X.table.length : Int) := by omega
  have e1 : ((s : Int) == 1) = false := by simp; omega
  have hp0 : w.drew.cell? ⟨p, 0, none⟩ = some (.pointer (some ⟨d, 0, none⟩)) := (h.blk.drew).cell 0
  have hp4 : w.drew.cell? ⟨p, 4, none⟩ = some (.slice (some ⟨g, 0, none⟩) X.table.length ct) := (h.blk.drew).cell 4
  have hgi : w.drew.cell? ⟨g, i, none⟩ = some (.int .i64 s) := hce
  have hdz := h.dsk.sml
  have hrd : Calls Tryz.prog 113 #[.pointer (some ⟨d, 0, none⟩), .int .i64 (s : Int)] w.drew fun e w2 => OwnOut w.drew w2 5 1 X.D.sz (bv (X.D.rd s)) (fun A c => .tuple #[.slice A X.D.sz c, .int .i64 0]) e := dread_ok d s _ X.D _ (h.dsk.grew ((Chg.refl _ _).drew)) hdd (by omega) (by omega)
  have H := Lib.hid (And.intro hus (And.intro hrd (And.intro h (And.intro hF hd))))
  clear h hF hd hus hrd hi
  go_enter Tryz.func84, Tryz.ntmps84
  go_wp2_with (go_at_call 57; (refine H.out.1.mono ?_); rintro e w1 ⟨rfl, rfl⟩)
  refine wp_region_held_drew (S := fun w' => w'.cell? ⟨p, 0, none⟩ = some (.pointer (some ⟨d, 0, none⟩)) ∧ w'.cell? ⟨p, 4, none⟩ = some (.slice (some ⟨g, 0, none⟩) X.table.length ct) ∧ w'.cell? ⟨g, i, none⟩ = some (.int .i64 s)) (by kernel_rfl) ⟨hp0, hp4, hgi⟩ (fun hHeld => ?_)
  refine wpAnyH_take (i := 0) (v := ?_) rfl (by kernel_rfl) (by kernel_rfl) (by kernel_rfl) (fun _ _ _ h => h) (Or.inl ⟨by rfl, ?_⟩) hHeld ?_
  rotate_left
  · (intro w hSw; (try dsimp only at hSw); go_simp) <;> with_reducible rfl
  (try simp only [Act.put, List.setIfInBounds_toArray, List.set_cons_zero, List.set_cons_succ, List.getElem_toArray, List.getElem_cons_zero, List.getElem_cons_succ])
  refine wpAnyH_take (i := 1) (v := ?_) rfl (by kernel_rfl) (by kernel_rfl) (by kernel_rfl) (fun _ _ _ h => h) (Or.inl ⟨by rfl, ?_⟩) hHeld ?_
  rotate_left
  · (intro w hSw; (try dsimp only at hSw); go_simp) <;> with_reducible rfl
  (try simp only [Act.put, List.setIfInBounds_toArray, List.set_cons_zero, List.set_cons_succ, List.getElem_toArray, List.getElem_cons_zero, List.getElem_cons_succ])
  refine wpAnyH_take (i := 2) (v := ?_) rfl (by kernel_rfl) (by kernel_rfl) (by kernel_rfl) (fun _ _ _ h => h) (Or.inl ⟨by rfl, ?_⟩) hHeld ?_
  rotate_left
  · (intro w hSw; (try dsimp only at hSw); go_simp) <;> with_reducible rfl
  (try simp only [Act.put, List.setIfInBounds_toArray, List.set_cons_zero, List.set_cons_succ, List.getElem_toArray, List.getElem_cons_zero, List.getElem_cons_succ])
  refine wpAnyH_take (i := 3) (v := ?_) rfl (by kernel_rfl) (by kernel_rfl) (by kernel_rfl) (fun _ _ _ h => h) (Or.inl ⟨by rfl, ?_⟩) hHeld ?_
  rotate_left
  · (intro w hSw; (try dsimp only at hSw); go_simp) <;> with_reducible rfl
  (try simp only [Act.put, List.setIfInBounds_toArray, List.set_cons_zero, List.set_cons_succ, List.getElem_toArray, List.getElem_cons_zero, List.getElem_cons_succ])
  refine wpAnyH_take (i := 4) (v := ?_) rfl (by kernel_rfl) (by kernel_rfl) (by kernel_rfl) (fun _ _ _ h => h) (Or.inl ⟨by rfl, ?_⟩) hHeld ?_
  rotate_left
  · (intro w hSw; (try dsimp only at hSw); go_simp) <;> with_reducible rfl
  (try simp only [Act.put, List.setIfInBounds_toArray, List.set_cons_zero, List.set_cons_succ, List.getElem_toArray, List.getElem_cons_zero, List.getElem_cons_succ])
  refine wpAnyH_take (i := 5) (v := ?_) rfl (by kernel_rfl) (by kernel_rfl) (by kernel_rfl) (fun _ _ _ h => h) (Or.inl ⟨by rfl, ?_⟩) hHeld ?_
  rotate_left
  · (intro w hSw; (try dsimp only at hSw); go_simp) <;> with_reducible rfl
  (try simp only [Act.put, List.setIfInBounds_toArray, List.set_cons_zero, List.set_cons_succ, List.getElem_toArray, List.getElem_cons_zero, List.getElem_cons_succ])
  refine wpAnyH_take (i := 6) (v := ?_) rfl (by kernel_rfl) (by kernel_rfl) (by kernel_rfl) (fun _ _ _ h => h) (Or.inl ⟨by rfl, ?_⟩) hHeld ?_
  rotate_left
  · (intro w hSw; (try dsimp only at hSw); go_simp) <;> with_reducible rfl
  (try simp only [Act.put, List.setIfInBounds_toArray, List.set_cons_zero, List.set_cons_succ, List.getElem_toArray, List.getElem_cons_zero, List.getElem_cons_succ])
  refine wpAnyH_take (i := 7) (v := ?_) rfl (by kernel_rfl) (by kernel_rfl) (by kernel_rfl) (fun _ _ _ h => h) (Or.inl ⟨by rfl, ?_⟩) hHeld ?_
  rotate_left
  · (intro w hSw; (try dsimp only at hSw); go_simp) <;> with_reducible rfl
  (try simp only [Act.put, List.setIfInBounds_toArray, List.set_cons_zero, List.set_cons_succ, List.getElem_toArray, List.getElem_cons_zero, List.getElem_cons_succ])
  refine wpAnyH_take (i := 8) (v := ?_) rfl (by kernel_rfl) (by kernel_rfl) (by kernel_rfl) (fun _ _ _ h => h) (Or.inl ⟨by rfl, ?_⟩) hHeld ?_
  rotate_left
  · (intro w hSw; (try dsimp only at hSw); go_simp) <;> with_reducible rfl
  (try simp only [Act.put, List.setIfInBounds_toArray, List.set_cons_zero, List.set_cons_succ, List.getElem_toArray, List.getElem_cons_zero, List.getElem_cons_succ])
  refine wpAnyH_take (i := 9) (v := ?_) rfl (by kernel_rfl) (by kernel_rfl) (by kernel_rfl) (fun _ _ _ h => h) (Or.inl ⟨by rfl, ?_⟩) hHeld ?_
  rotate_left
  · (intro w hSw; (try dsimp only at hSw); go_simp) <;> with_reducible rfl
  (try simp only [Act.put, List.setIfInBounds_toArray, List.set_cons_zero, List.set_cons_succ, List.getElem_toArray, List.getElem_cons_zero, List.getElem_cons_succ])
  refine wpAnyH_take (i := 10) (v := ?_) rfl (by kernel_rfl) (by kernel_rfl) (by kernel_rfl) (fun _ _ _ h => h) (Or.inl ⟨by rfl, ?_⟩) hHeld ?_
  rotate_left
  · (intro w hSw; (try dsimp only at hSw); go_simp) <;> with_reducible rfl
  (try simp only [Act.put, List.setIfInBounds_toArray, List.set_cons_zero, List.set_cons_succ, List.getElem_toArray, List.getElem_cons_zero, List.getElem_cons_succ])
  refine wpAnyH_ready (rs := [11]) (by kernel_rfl) (by simp) ?_
  refine AllReadyH.cons rfl (fun K hK => ?_) AllReadyH.nil
  go_simp
  refine H.out.2.1.mono ?_
  rintro e w3 ⟨A3, c3, rfl, ho3, hg3⟩
  have hHeld3 : w3.cell? ⟨p, 0, none⟩ = some (.pointer (some ⟨d, 0, none⟩)) ∧ w3.cell? ⟨p, 4, none⟩ = some (.slice (some ⟨g, 0, none⟩) X.table.length ct) ∧ w3.cell? ⟨g, i, none⟩ = some (.int .i64 s) :=
    ⟨(hg3.cell (p := ⟨p, 0, none⟩) s0 id).trans hp0, (hg3.cell (p := ⟨p, 4, none⟩) s0 id).trans hp4, (hg3.cell (p := ⟨g, i, none⟩) hgl id).trans hgi⟩
  have HR := Lib.hid (And.intro ho3 (Grew.trans ((Chg.refl NoF w).drew) hg3))
  clear ho3 hg3
  refine hK.out _ _ hHeld3 (fun _ => ?_)
  clear hK K
  (try simp only [Act.put, List.setIfInBounds_toArray, List.set_cons_zero, List.set_cons_succ, List.getElem_toArray, List.getElem_cons_zero, List.getElem_cons_succ])
  refine wpAnyH_take (i := 12) (v := ?_) rfl (by kernel_rfl) (by kernel_rfl) (by kernel_rfl) (fun _ _ _ h => h) (Or.inl ⟨by rfl, ?_⟩) hHeld3 ?_
  rotate_left
  · (intro w hSw; (try dsimp only at hSw); go_simp) <;> with_reducible rfl
  (try simp only [Act.put, List.setIfInBounds_toArray, List.set_cons_zero, List.set_cons_succ, List.getElem_toArray, List.getElem_cons_zero, List.getElem_cons_succ])
  refine wpAnyH_take (i := 13) (v := ?_) rfl (by kernel_rfl) (by kernel_rfl) (by kernel_rfl) (fun _ _ _ h => h) (Or.inl ⟨by rfl, ?_⟩) hHeld3 ?_
  rotate_left
  · (intro w hSw; (try dsimp only at hSw); go_simp) <;> with_reducible rfl
  (try simp only [Act.put, List.setIfInBounds_toArray, List.set_cons_zero, List.set_cons_succ, List.getElem_toArray, List.getElem_cons_zero, List.getElem_cons_succ])
  refine wpAnyH_take (i := 14) (v := ?_) rfl (by kernel_rfl) (by kernel_rfl) (by kernel_rfl) (fun _ _ _ h => h) (Or.inl ⟨by rfl, ?_⟩) hHeld3 ?_
  rotate_left
  · (intro w hSw; (try dsimp only at hSw); go_simp) <;> with_reducible rfl
  (try simp only [Act.put, List.setIfInBounds_toArray, List.set_cons_zero, List.set_cons_succ, List.getElem_toArray, List.getElem_cons_zero, List.getElem_cons_succ])
  refine wpAnyH_take (i := 15) (v := ?_) rfl (by kernel_rfl) (by kernel_rfl) (by kernel_rfl) (fun _ _ _ h => h) (Or.inl ⟨by rfl, ?_⟩) hHeld3 ?_
  rotate_left
  · (intro w hSw; (try dsimp only at hSw); go_simp) <;> with_reducible rfl
  (try simp only [Act.put, List.setIfInBounds_toArray, List.set_cons_zero, List.set_cons_succ, List.getElem_toArray, List.getElem_cons_zero, List.getElem_cons_succ])
  refine wpAnyH_ready (rs := [16]) (by kernel_rfl) (by simp) ?_
  refine AllReadyH.cons rfl (fun K hK => ?_) AllReadyH.nil
  go_simp
  refine hK.out _ _ hHeld3 (fun _ => ?_)
  clear hK K
  (try simp only [Act.put, List.setIfInBounds_toArray, List.set_cons_zero, List.set_cons_succ, List.getElem_toArray, List.getElem_cons_zero, List.getElem_cons_succ])
  refine wpAnyH_done (by kernel_rfl) ?_ _
  clear hHeld hHeld3 hp0 hp4 hgi c0 f0 s0 hgl hce hfe
  go_wp2_with fail
  refine (gnote_at p 0 _ _ (H.out.2.2.1.grew HR.out.2).blk (by show _ = some (Value.bool false); rw [← H.out.2.2.2.2]; rfl) rfl).mono ?_
  rintro e w4 ⟨rfl, hw4⟩
  have HW4 := Lib.hid hw4
  clear hw4
  go_wp2
  go_ret2
  have hG := H.out.2.2.1.grew HR.out.2
  have hfl := hG.flag false
  rw [HW4.out] at hfl
  have hc : Chg (fun j => L j = 1) w w4 := Grew.then HR.out.2 hfl.2.chg
  refine ⟨A3, c3, rfl, ?_, ⟨L, d, b, A, ca, vp, .slice (some ⟨g, 0, none⟩) X.table.length ct, vo, ?_, H.out.2.2.2.1⟩, hc.mono fun j _ e => (H.out.2.2.2.1 j).2 (by omega), fun a ha hf => ?_⟩
  · refine own_chg HR.out.1 hfl.2.chg fun j hj e => ?_
    have h1 := (HR.out.1.lt j hj).1
    have h2 := H.out.2.2.1.lt j (by omega)
    have h1' : w.heap.size ≤ j := h1
    omega
  · have e : ({ X with down := false } : Gp) = X := by rw [← H.out.2.2.2.2]
    rw [← e]
    exact hfl.1
  · subst ha
    have h1 := (HR.out.1.lt a.block rfl).1
    have h2 := H.out.2.2.1.lt a.block ((H.out.2.2.2.1 _).1 hf)
    have h1' : w.heap.size ≤ a.block := h1
    omega

end Go.Proofs.YtpkkcicaeldodaaGreatDoor

/- The pager, as its pages are: Begin, Alloc, Write, Read. -/
namespace Go.Proofs.YtpkkcicaeldodaaGreatDoor
open Go.RowKit Go.Maps

theorem setB_same {f : Nat → Bool} {k : Nat} (h : f k = true) : setB f k true = f := by
  funext j
  unfold setB
  by_cases e : j = k
  · subst e; rw [if_pos rfl, h]
  · rw [if_neg e]
section
variable {X : Gp} {o : Cg} {i j s : Nat} {bs : List Int}
theorem Gp.Ok.tcroom (h : X.Ok) (hx : X.op = some o) {k m : Nat} (hk : k < X.pages.length) (hm : (o.more k m : Nat) ≤ X.room) : cntN (setB X.tc k true) 64 + m ≤ cnt X.free := by
  have e : X.tc = o.touched := by simp only [Gp.tc, hx]
  have hr : X.room = (cnt X.free : Int) - (cntN o.touched 64 : Int) := by simp only [Gp.room, hx]
  rw [hr] at hm
  rw [e]
  unfold Cg.more at hm
  cases ht : o.touched k with
  | true => rw [ht] at hm; rw [setB_same ht]; simp at hm; omega
  | false =>
    rw [ht] at hm
    rw [cntN_yes _ (by have := h.inv.pg64; omega) ht]
    simp at hm
    omega
theorem Gp.Ok.tch (h : X.Ok) (hx : X.op = some o) (hi : i < X.table.length) {m : Nat} (hm : (o.more (i / X.row) m : Nat) ≤ X.room) :
    Inv X.D X.epoch X.pages X.table o.was X.free o.fresh o.left (setB o.touched (i / (X.D.sz / 2)) true) ∧ cntN (setB o.touched (i / (X.D.sz / 2)) true) 64 + m ≤ cnt X.free := by
  have hk := h.inv.part hi
  rw [h.row] at hm
  have hr := h.tcroom hx hk hm
  have hv := h.inv.tch hk (by omega)
  simp only [Gp.old, Gp.fr, Gp.lf, Gp.tc, hx] at hv hr
  exact ⟨hv, hr⟩
theorem Gp.view_was (hx : X.op = some o) : X.view.was = some (o.was.map (pk X.D fun _ => false)) := by simp [Gp.view, hx]
theorem Gp.Ok.alloc (h : X.Ok) (hx : X.op = some o) (hi : X.table[i]? = some 0) (hm : (o.more (i / X.row) 0 : Nat) ≤ X.room) : (X.alloc o i).Ok ∧ (X.alloc o i).view = X.view.put i .zero := by
  obtain ⟨h1, -⟩ := h.tch hx (List.getElem?_eq_some_iff.1 hi).1 hm
  have h2 := h1.zero (v := 1) hi (by omega) (by omega) (by simp [setB])
  have hr := h.row
  refine ⟨⟨?_, h.row, h.up⟩, ?_⟩
  · rw [← h.row] at h2
    exact h2
  · unfold Gp.view Rp.put Gp.alloc Gp.touch
    simp only [Gp.fr, Gp.tc, hx, Option.map_some, Rp.row]
    rw [List.map_set, show pk X.D o.fresh 1 = .zero from rfl, hr]
theorem pk_wr {D : Dk} {fr fr' : Nat → Bool} {j s : Nat} {bs : List Int} (hs : s ≠ j) (hf : fr' s = fr s) : pk (D.wr j bs) fr' s = pk D fr s := by
  unfold pk
  rw [Dk.wr_rd, if_neg hs, hf]
theorem Gp.Ok.fill (h : X.Ok) (hx : X.op = some o) (hi : X.table[i]? = some s) (hf : o.fresh s = false) (hj : X.free.getD j false = true) (hm : (o.more (i / X.row) 1 : Nat) ≤ X.room) (hb : ∀ x ∈ bs, 0 ≤ x ∧ x ≤ 255) :
    (X.fill o i s j bs).Ok ∧ (X.fill o i s j bs).view = X.view.put i (.new bs) := by
  obtain ⟨h1, h3⟩ := h.tch hx (List.getElem?_eq_some_iff.1 hi).1 hm
  obtain ⟨j1, j2, j3, j4, j5, j6⟩ := h1.free hj
  have h2 := (h1.write ⟨j2, j1, j3, j4⟩ hb).fill hi hf hj (by simp [setB, Dk.wr]) h3
  refine ⟨⟨?_, h.row, h.up⟩, ?_⟩
  · have e : (X.fill o i s j bs).tc = setB o.touched (i / (X.D.sz / 2)) true := by simp only [Gp.fill, Gp.tc, Cg.fill, h.row]
    rw [e]
    exact h2
  · unfold Gp.view Rp.put Gp.fill
    simp only [Gp.fr, Gp.tc, hx, Option.map_some, Rp.row, Cg.fill]
    have e1 : X.table.map (pk (X.D.wr j bs) (setB o.fresh j true)) = X.table.map (pk X.D o.fresh) := List.map_congr_left fun s hs => by
      obtain ⟨k, hk⟩ := List.mem_iff_getElem?.1 hs
      have hsj : s ≠ j := fun e => j6 k (e ▸ hk)
      exact pk_wr hsj (by simp [setB, hsj])
    have e2 : o.was.map (pk (X.D.wr j bs) fun _ => false) = o.was.map (pk X.D fun _ => false) := List.map_congr_left fun s hs => by
      obtain ⟨k, hk⟩ := List.mem_iff_getElem?.1 hs
      exact pk_wr (fun e => j4 k (e ▸ hk)) rfl
    have e3 : pk (X.D.wr j bs) (setB o.fresh j true) j = .new bs := by
      unfold pk
      rw [Dk.wr_rd, if_pos rfl, if_neg (by omega), if_neg (by omega)]
      simp [setB]
    rw [List.map_set, e1, e2, e3, h.row]
    rfl
theorem Gp.Ok.put (h : X.Ok) (hx : X.op = some o) (hi : X.table[i]? = some s) (hf : o.fresh s = true) (hb : ∀ x ∈ bs, 0 ≤ x ∧ x ≤ 255) : (X.put s bs).Ok ∧ (X.put s bs).view = X.view.put i (.new bs) := by
  have hv := h.inv
  simp only [Gp.old, Gp.fr, Gp.lf, Gp.tc, hx] at hv
  obtain ⟨j1, j2, j3, j4, -⟩ := hv.frr s hf
  have h2 := hv.write ⟨j2, j1, j3, j4⟩ hb
  have hil : i < X.table.length := (List.getElem?_eq_some_iff.1 hi).1
  have ht : o.touched (i / (X.D.sz / 2)) = true := hv.tcd i fun e => j4 i (e ▸ hi)
  refine ⟨⟨?_, h.row, h.up⟩, ?_⟩
  · simp only [Gp.put, Gp.old, Gp.fr, Gp.lf, Gp.tc, hx]
    exact h2
  · unfold Gp.view Rp.put Gp.put
    simp only [Gp.fr, Gp.tc, hx, Option.map_some, Rp.row]
    rw [setB_same ht]
    have e2 : o.was.map (pk (X.D.wr s bs) fun _ => false) = o.was.map (pk X.D fun _ => false) := List.map_congr_left fun q hq => by
      obtain ⟨k, hk⟩ := List.mem_iff_getElem?.1 hq
      exact pk_wr (fun e => j4 k (e ▸ hk)) rfl
    have e1 : X.table.map (pk (X.D.wr s bs) o.fresh) = (X.table.map (pk X.D o.fresh)).set i (.new bs) := by
      apply List.ext_getElem?
      intro k
      rw [set_at (by simpa using hil), List.getElem?_map, List.getElem?_map]
      by_cases e : k = i
      · subst e
        rw [if_pos rfl, hi]
        simp only [Option.map_some, Option.some.injEq]
        unfold pk
        rw [Dk.wr_rd, if_pos rfl, if_neg (by omega), if_neg (by omega), if_pos hf]
      · rw [if_neg e]
        cases hk : X.table[k]? with
        | none => rfl
        | some q =>
          simp only [Option.map_some, Option.some.injEq]
          exact pk_wr (fun e' => e (hv.jT k i q hk (e' ▸ hi) (by omega))) rfl
    rw [e1, e2]
    rfl
end

/-- A pager whose pages are these. -/
def GP (w : World) (p : Nat) (F : Nat → Prop) (x : Rp) : Prop := ∃ X, GS w p F X ∧ X.Ok ∧ X.view = x
def GPTo (w w' : World) (p : Nat) (F : Nat → Prop) (x : Rp) : Prop := To (fun w F => GP w p F x) w w' F
section
variable {w w' w2 : World} {p : Nat} {F : Nat → Prop} {X : Gp} {x : Rp}
theorem GP.chg {G : Nat → Prop} (h : GP w p F x) (hc : Chg G w w') (hG : ∀ j, F j → ¬ G j) (hG0 : ¬ G 0) : GP w' p F x := by
  obtain ⟨X, h1, h2⟩ := h
  exact ⟨X, h1.chg hc hG hG0, h2⟩
theorem GP.grew (h : GP w p F x) (hc : Grew w w') : GP w' p F x := h.chg hc (fun _ _ => id) id
theorem GP.lt (h : GP w p F x) : ∀ j, F j → j < w.heap.size := by
  obtain ⟨X, h1, -⟩ := h
  exact h1.lt
theorem GP.zero (h : GP w p F x) : ¬ F 0 := by
  obtain ⟨X, h1, -⟩ := h
  exact h1.zero
theorem GP.tab (h : GP w p F x) : TabAt 0 tab w := by
  obtain ⟨X, h1, -⟩ := h
  exact h1.tab
theorem GP.to (h : GP w p F x) (hc : Grew w w') : GPTo w w' p F x := To.of (h.grew hc) hc.chg
theorem GPTo.grew (h : GPTo w w' p F x) (hc : Grew w' w2) : GPTo w w2 p F x := To.grew h hc fun _ k => k.grew hc
theorem GTo.gp (h : GTo w w' p F X) (ho : X.Ok) (hv : X.view = x) : GPTo w w' p F x := To.imp h fun _ k => ⟨X, k, ho, hv⟩
theorem GP.szs (h : GP w p F x) : 8 ≤ x.n ∧ x.n ≤ 4096 ∧ 64 ≤ x.sz ∧ x.sz ≤ 4096 ∧ x.now.length = capN x.n x.sz ∧ x.now.length ≤ 4096 := by
  obtain ⟨X, -, h2, rfl⟩ := h
  have := h2.inv.sz
  have e : X.view.now.length = X.table.length := by simp [Gp.view]
  have h4 := h2.inv.tb4.1
  exact ⟨this.1, this.2.1, this.2.2.1, this.2.2.2, by rw [e]; exact h2.inv.lens.2.2.1, by rw [e]; exact h4⟩
end
/-- A page's entry. -/
theorem Gp.entry_no {X : Gp} {i : Nat} : X.view.now[i]? = some .no ↔ X.table[i]? = some 0 := by
  simp only [Gp.view, List.getElem?_map]
  cases h : X.table[i]? with
  | none => simp
  | some s =>
    simp only [Option.map_some, Option.some.injEq]
    constructor
    · intro e
      by_cases h0 : s = 0
      · exact h0
      · have := pk_used X.D X.fr s
        rw [e] at this
        simp [Pk.used, h0] at this
    · rintro rfl; rfl
theorem Gp.entry_used {X : Gp} {i : Nat} {c : Pk} (h : X.view.now[i]? = some c) (hu : c.used = true) : ∃ s, X.table[i]? = some s ∧ s ≠ 0 ∧ c = pk X.D X.fr s := by
  simp only [Gp.view, List.getElem?_map] at h
  cases ht : X.table[i]? with
  | none => rw [ht] at h; cases h
  | some s =>
    rw [ht] at h
    simp only [Option.map_some, Option.some.injEq] at h
    subst h
    rw [pk_used] at hu
    exact ⟨s, rfl, by simpa using hu, rfl⟩
theorem Gp.Ok.rdy {X : Gp} {o : Cg} (h : X.Ok) (hx : X.op = some o) : X.rdy = 0 := by
  unfold Gp.rdy
  rw [h.up.1, hx]
  rfl
theorem Gp.view_op {X : Gp} (h : X.view.was ≠ none) : ∃ o, X.op = some o := by
  cases hx : X.op with
  | none => simp [Gp.view, hx] at h
  | some o => exact ⟨o, rfl⟩
theorem Gp.more_need {X : Gp} {o : Cg} (h : X.Ok) (hx : X.op = some o) (i m : Nat) : o.more (i / X.row) m = X.view.need (i / X.view.row) m := by
  unfold Cg.more Rp.need Rp.row
  rw [h.row]
  simp only [Gp.view, Gp.tc, hx]

section
variable (p i : Nat) (F : Nat → Prop) (x : Rp) (w : World)
theorem gp_begin (h : GP w p F x) (ho : x.was = none) :
    Calls Tryz.prog 27 #[.pointer (some ⟨p, 0, none⟩)] w fun e' w' => e' = .returned (.int .i64 0) ∧ GPTo w w' p F x.begun := by
  obtain ⟨X, h1, h2, rfl⟩ := h
  have hx : X.op = none := by
    cases hx : X.op with
    | none => rfl
    | some o => simp [Gp.view, hx] at ho
  refine (gbegin_ok p F X w h1 h2.up.1 hx h2.inv.tb4.1).mono ?_
  rintro e w1 ⟨rfl, h3⟩
  refine ⟨rfl, h3.gp ⟨?_, h2.row, h2.up⟩ ?_⟩
  · have := h2.inv
    simp only [Gp.old, Gp.fr, Gp.lf, Gp.tc, hx] at this
    exact this
  · simp [Gp.view, Rp.begun, Gp.begun, Gp.fr, Gp.tc, hx]
theorem gp_alloc_none (h : GP w p F x) (ho : x.was ≠ none) (hf : ∀ c ∈ x.now, c ≠ .no) :
    Calls Tryz.prog 20 #[.pointer (some ⟨p, 0, none⟩)] w fun e' w' => e' = .returned (.tuple #[.int .i64 0, .int .i64 21]) ∧ w = w' := by
  obtain ⟨X, h1, h2, rfl⟩ := h
  obtain ⟨o, hx⟩ := Gp.view_op ho
  refine galloc_none p F X w h1 (h2.rdy hx) h2.inv.tb4.1 fun s hs => ?_
  rintro rfl
  exact hf .no (List.mem_map.2 ⟨0, hs, rfl⟩) rfl
theorem Gp.entry_before {X : Gp} {i : Nat} (hf : ∀ (k : Nat) c, k < i → X.view.now[k]? = some c → c ≠ .no) : ∀ (k s : Nat), k < i → X.table[k]? = some s → s ≠ 0 := by
  rintro k s hk hs rfl
  exact hf k .no hk (Gp.entry_no.2 hs) rfl
theorem gp_alloc_full (h : GP w p F x) (ho : x.was ≠ none) (hi : x.now[i]? = some .no) (hf : ∀ (k : Nat) c, k < i → x.now[k]? = some c → c ≠ .no) (hm : x.room < (x.need (i / x.row) 0 : Nat)) :
    Calls Tryz.prog 20 #[.pointer (some ⟨p, 0, none⟩)] w fun e' w' => e' = .returned (.tuple #[.int .i64 0, .int .i64 21]) ∧ Grew w w' := by
  obtain ⟨X, h1, h2, rfl⟩ := h
  obtain ⟨o, hx⟩ := Gp.view_op ho
  exact galloc_full p i F X o w h1 (h2.rdy hx) hx h2.sz h2.inv.sz.2.1 (Gp.entry_no.1 hi) (Gp.entry_before hf) (by rw [h2.room, Gp.more_need h2 hx]; exact hm)
theorem gp_alloc_ok (h : GP w p F x) (ho : x.was ≠ none) (hi : x.now[i]? = some .no) (hf : ∀ (k : Nat) c, k < i → x.now[k]? = some c → c ≠ .no) (hm : (x.need (i / x.row) 0 : Nat) ≤ x.room) :
    Calls Tryz.prog 20 #[.pointer (some ⟨p, 0, none⟩)] w fun e' w' => e' = .returned (.tuple #[.int .i64 i, .int .i64 0]) ∧ GPTo w w' p F (x.put i .zero) := by
  obtain ⟨X, h1, h2, rfl⟩ := h
  obtain ⟨o, hx⟩ := Gp.view_op ho
  have hm' : (o.more (i / X.row) 0 : Nat) ≤ X.room := by rw [h2.room, Gp.more_need h2 hx]; exact hm
  refine (galloc_ok p i F X o w h1 (h2.rdy hx) hx h2.sz h2.inv.sz.2.1 (Gp.entry_no.1 hi) (Gp.entry_before hf) hm').mono ?_
  rintro e w1 ⟨rfl, h3⟩
  have := h2.alloc hx (Gp.entry_no.1 hi) hm'
  exact ⟨rfl, h3.gp this.1 this.2⟩

variable (bs : List Int) (Ab : Option Addr) (cb : Nat)
theorem gp_write (c : Pk) (h : GP w p F x) (ho : x.was ≠ none) (hi : x.now[i]? = some c) (hu : c.used = true) (hm : c.isNew = true ∨ (x.need (i / x.row) 1 : Nat) ≤ x.room)
    (hb : bs.length = x.sz) (hby : ∀ q ∈ bs, 0 ≤ q ∧ q ≤ 255) (hA : Ab ≠ none) (hsl : Sl w 1 Ab bs.length (bv bs)) (hsF : ∀ a, Ab = some a → ¬ F a.block) :
    Calls Tryz.prog 21 #[.pointer (some ⟨p, 0, none⟩), .int .i64 i, .slice Ab bs.length cb] w fun e' w' => e' = .returned (.int .i64 0) ∧ GPTo w w' p F (x.put i (.new bs)) := by
  obtain ⟨X, h1, h2, rfl⟩ := h
  obtain ⟨o, hx⟩ := Gp.view_op ho
  obtain ⟨s, hs, h0, rfl⟩ := Gp.entry_used hi hu
  have hv := h2.inv
  simp only [Gp.old, Gp.fr, Gp.lf, Gp.tc, hx] at hv
  have hfr : X.fr = o.fresh := by simp only [Gp.fr, hx]
  rw [hfr, pk_isNew X.D o.fresh s fun e => (hv.frr s e).1] at hm
  cases hf : o.fresh s with
  | true =>
    have := h2.put (bs := bs) hx hs hf hby
    refine (gwrite_fresh p i s bs Ab cb F X o w h1 (h2.rdy hx) hx h2.sz hs h0 hf (hv.frr s hf).2.1 h2.up.2.1 h2.up.2.2 h2.up.1 hb hA hsl hsF).mono ?_
    rintro e w1 ⟨rfl, h3⟩
    exact ⟨rfl, h3.gp this.1 this.2⟩
  | false =>
    rw [hf] at hm
    have hm' : (o.more (i / X.row) 1 : Nat) ≤ X.room := by
      rw [h2.room, Gp.more_need h2 hx]
      exact hm.resolve_left (by simp)
    have hr : X.room = (cnt X.free : Int) - (cntN o.touched 64 : Int) := by simp only [Gp.room, hx]
    have hm1 : 1 ≤ o.more (i / X.row) 1 := by unfold Cg.more; omega
    obtain ⟨j, hj, -, hjt⟩ := take_there (fe := X.free) (by omega)
    have := h2.fill (bs := bs) hx hs hf hjt hm' hby
    have hfree := hv.free hjt
    have hsn : s ≤ 1 ∨ s < X.D.n := by
      by_cases e : s ≤ 1
      · exact .inl e
      · refine .inr ?_
        rcases hv.cur i s hs (by omega) with e1 | e1
        · rw [hf] at e1; cases e1
        · exact hv.rO i s e1
    refine (gwrite_new p i s j bs Ab cb F X o w h1 (h2.rdy hx) hx h2.sz hs h0 hf hsn hj hfree.2.2.2.2.1 (by have := hv.lfle; omega) hm' h2.up.2.1 h2.up.2.2 h2.up.1 hb hA hsl hsF).mono ?_
    rintro e w1 ⟨rfl, h3⟩
    exact ⟨rfl, h3.gp this.1 this.2⟩
theorem gp_write_full (nb : Nat) (c : Pk) (h : GP w p F x) (ho : x.was ≠ none) (hi : x.now[i]? = some c) (hu : c.used = true) (hn : c.isNew = false) (hm : x.room < (x.need (i / x.row) 1 : Nat)) (hb : nb = x.sz) :
    Calls Tryz.prog 21 #[.pointer (some ⟨p, 0, none⟩), .int .i64 i, .slice Ab nb cb] w fun e' w' => e' = .returned (.int .i64 21) ∧ Grew w w' := by
  obtain ⟨X, h1, h2, rfl⟩ := h
  obtain ⟨o, hx⟩ := Gp.view_op ho
  obtain ⟨s, hs, h0, rfl⟩ := Gp.entry_used hi hu
  have hv := h2.inv
  simp only [Gp.old, Gp.fr, Gp.lf, Gp.tc, hx] at hv
  have hfr : X.fr = o.fresh := by simp only [Gp.fr, hx]
  rw [hfr, pk_isNew X.D o.fresh s fun e => (hv.frr s e).1] at hn
  have hsz := hv.sz
  have hsn : s < 4096 := by
    by_cases e : s ≤ 1
    · omega
    · rcases hv.cur i s hs (by omega) with e1 | e1
      · rw [hn] at e1; cases e1
      · have := hv.rO i s e1; omega
  exact gwrite_full p i s nb Ab cb F X o w h1 (h2.rdy hx) hx h2.sz hs h0 hn hsn hsz.2.1 (by rw [h2.room, Gp.more_need h2 hx]; exact hm) hb

/-- What reading a page leaves. -/
def RdOut (w w' : World) (p : Nat) (F : Nat → Prop) (x : Rp) (bs : List Int) (e : Ending) : Prop :=
  ∃ A c, e = .returned (.tuple #[.slice A x.sz c, .int .i64 0]) ∧ w'.ownsRow w.heap.size 5 1 (.slice A x.sz c) x.sz (bv bs) ∧ bs.length = x.sz ∧ (∀ q ∈ bs, 0 ≤ q ∧ q ≤ 255) ∧ GP w' p F x ∧ Chg F w w' ∧ ∀ a, A = some a → ¬ F a.block
theorem gp_read_none (i : Int) (h : GP w p F x) (hu : i < 0 ∨ x.now.length ≤ i ∨ x.now[i.toNat]? = some .no) :
    Calls Tryz.prog 84 #[.pointer (some ⟨p, 0, none⟩), .int .i64 i] w fun e' w' => e' = .returned (.tuple #[.slice none 0 0, .int .i64 14]) ∧ w = w' := by
  obtain ⟨X, h1, h2, rfl⟩ := h
  refine gread_none p i F X w h1 h2.up.1 h2.inv.tb4.1 ?_
  unfold Gp.usedB
  rcases hu with e | e | e
  · rw [decide_eq_false (by omega)]; rfl
  · have e2 : X.view.now.length = X.table.length := by simp [Gp.view]
    rw [e2] at e
    rw [List.getD_eq_getElem?_getD, List.getElem?_eq_none (by omega)]; simp
  · rw [List.getD_eq_getElem?_getD, Gp.entry_no.1 e]; simp
theorem gp_read (c : Pk) (h : GP w p F x) (hi : x.now[i]? = some c) (hu : c.used = true) :
    Calls Tryz.prog 84 #[.pointer (some ⟨p, 0, none⟩), .int .i64 i] w fun e' w' => RdOut w w' p F x (c.bytes x.sz) e' := by
  obtain ⟨X, h1, h2, rfl⟩ := h
  obtain ⟨s, hs, h0, rfl⟩ := Gp.entry_used hi hu
  have hv := h2.inv
  by_cases e1 : s = 1
  · subst e1
    refine (gread_one p i F X w h1 h2.up.1 hv.tb4.1 hs).mono ?_
    rintro e w1 ⟨A, c, rfl, ho, hg⟩
    refine ⟨A, c, rfl, ho, by simp [pk, Pk.bytes, Gp.view], fun q hq => by simp [pk, Pk.bytes] at hq; omega, ⟨X, h1.grew hg, h2, rfl⟩, hg.chg, fun a ha hf => ?_⟩
    subst ha
    have := (ho.lt a.block rfl).1
    have h3 := h1.lt _ hf
    omega
  · have hsn : s < X.D.n := by
      rcases hv.cur i s hs (by omega) with e | e
      · exact (hv.frr s e).2.1
      · exact hv.rO i s e
    have hb : (pk X.D X.fr s).bytes X.view.sz = X.D.rd (s : Int) := by
      unfold pk
      rw [if_neg h0, if_neg e1]
      split <;> rfl
    rw [hb]
    have hlen : (X.D.rd (s : Int)).length = X.D.sz := by
      obtain ⟨L, d, b, A, ca, vp, vt, vo, hG, -⟩ := h1
      exact hG.dsk.rd_len (by omega) (by omega)
    refine (gread_sec p i s F X w h1 h2.up.1 h2.up.2.1 hv.tb4.1 hs (by omega) hsn).mono ?_
    rintro e w1 ⟨A, c, rfl, ho, hg, hc, ha⟩
    exact ⟨A, c, rfl, ho, hlen, hv.byt s hsn, ⟨X, hg, h2, rfl⟩, hc, ha⟩
end

end Go.Proofs.YtpkkcicaeldodaaGreatDoor

/- The pager: Alloc, Write, Free in all cases; how much slack there is. -/
namespace Go.Proofs.YtpkkcicaeldodaaGreatDoor
open Go.RowKit Go.Maps

/-- How many sectors may be taken at any rate. -/
def Rp.slack (x : Rp) : Int := x.free - tabN x.n x.sz
theorem countP_set' {α : Type} (p : α → Bool) (a b : α) : ∀ (l : List α) (i : Nat), l[i]? = some b → (l.set i a).countP p + (if p b then 1 else 0) = l.countP p + (if p a then 1 else 0)
  | [], i, h => by simp at h
  | c :: t, 0, h => by
    simp only [List.getElem?_cons_zero, Option.some.injEq] at h
    subst h
    simp only [List.set_cons_zero, List.countP_cons]
    omega
  | c :: t, i + 1, h => by
    simp only [List.getElem?_cons_succ] at h
    have := countP_set' p a b t i h
    simp only [List.set_cons_succ, List.countP_cons]
    omega
theorem Rp.put_slack {x : Rp} {i : Nat} {c c0 : Pk} (hw : x.was ≠ none) (hi : x.now[i]? = some c0) : (x.put i c).slack + (if c.isNew then 1 else 0) = x.slack + (if c0.isNew then 1 else 0) := by
  have h1 := countP_set' Pk.isNew c c0 x.now i hi
  have hb : (x.put i c).base = x.base := by
    unfold Rp.base Rp.put
    cases hx : x.was with
    | none => exact absurd hx hw
    | some b => rfl
  unfold Rp.slack Rp.free
  rw [hb, show (x.put i c).n = x.n from rfl, show (x.put i c).sz = x.sz from rfl, show (x.put i c).now = x.now.set i c from rfl]
  split at h1 <;> split at h1 <;> simp_all <;> omega
theorem Rp.put_used {x : Rp} {i : Nat} {c c0 : Pk} (hi : x.now[i]? = some c0) : (x.put i c).now.countP Pk.used + (if c0.used then 1 else 0) = x.now.countP Pk.used + (if c.used then 1 else 0) := countP_set' Pk.used c c0 x.now i hi
theorem Rp.put_at {x : Rp} {i k : Nat} {c : Pk} (hi : i < x.now.length) : (x.put i c).now[k]? = if k = i then some c else x.now[k]? := set_at hi
theorem Rp.put_len (x : Rp) (i : Nat) (c : Pk) : (x.put i c).now.length = x.now.length := List.length_set
/-- The same disk, and the same pages when the change began. -/
structure Rp.like (x y : Rp) : Prop where
  n : y.n = x.n
  sz : y.sz = x.sz
  was : y.was = x.was
  epoch : y.epoch = x.epoch
  len : y.now.length = x.now.length
theorem Rp.like.refl (x : Rp) : x.like x := ⟨rfl, rfl, rfl, rfl, rfl⟩
theorem Rp.like.trans {x y z : Rp} (h : x.like y) (k : y.like z) : x.like z := ⟨k.n.trans h.n, k.sz.trans h.sz, k.was.trans h.was, k.epoch.trans h.epoch, k.len.trans h.len⟩
theorem Rp.put_like (x : Rp) (i : Nat) (c : Pk) : x.like (x.put i c) := ⟨rfl, rfl, rfl, rfl, List.length_set⟩

theorem cntN_bnd {f : Nat → Bool} {T : Nat} (h : ∀ k, f k = true → k < T) : ∀ n, cntN f n ≤ T
  | 0 => Nat.zero_le _
  | n + 1 => by
    rw [cntN_succ]
    by_cases hn : n < T
    · have := cntN_le f n; split <;> omega
    · have : f n = false := by cases e : f n with | false => rfl | true => exact absurd (h n e) hn
      rw [this]
      simpa using cntN_bnd h n
section
variable {w w' : World} {p i : Nat} {F : Nat → Prop} {x : Rp}
theorem GP.part (h : GP w p F x) (hi : i < x.now.length) : i / x.row < tabN x.n x.sz := by
  obtain ⟨X, -, h2, rfl⟩ := h
  have := h2.inv.part (i := i) (by simpa [Gp.view] using hi)
  rw [h2.inv.lens.2.1] at this
  exact this
theorem GP.need (h : GP w p F x) {k m : Nat} (hk : k < tabN x.n x.sz) (hm : (m : Int) ≤ x.slack) : (x.need k m : Int) ≤ x.room := by
  obtain ⟨X, -, h2, rfl⟩ := h
  have h3 : ∀ q, X.tc q = true → q < tabN X.D.n X.D.sz := fun q hq => by have := h2.inv.tc6 q hq; rw [h2.inv.lens.2.1] at this; exact this
  have h64 : tabN X.D.n X.D.sz ≤ 64 := by have := h2.inv.pg64; rw [h2.inv.lens.2.1] at this; exact this
  have hk' : k < tabN X.D.n X.D.sz := hk
  unfold Rp.room Rp.need
  have e1 : X.view.touched = X.tc := rfl
  have e2 : X.view.slack = X.view.free - tabN X.D.n X.D.sz := rfl
  rw [e1]
  cases ht : X.tc k with
  | true => have := cntN_bnd h3 64; simp; omega
  | false =>
    have h4 := cntN_bnd (f := setB X.tc k true) (T := tabN X.D.n X.D.sz) (fun q hq => by
      unfold setB at hq
      split at hq
      · omega
      · exact h3 q hq) 64
    rw [cntN_yes X.tc (by omega) ht] at h4
    simp
    omega
/-- Table pages that are touched are kept back at most. -/
theorem GP.room (h : GP w p F x) : x.slack ≤ x.room ∧ x.room ≤ x.free ∧ 0 ≤ x.room := by
  obtain ⟨X, -, h2, rfl⟩ := h
  have h3 : ∀ q, X.tc q = true → q < tabN X.D.n X.D.sz := fun q hq => by have := h2.inv.tc6 q hq; rw [h2.inv.lens.2.1] at this; exact this
  have h4 := cntN_bnd h3 64
  have h5 := h2.inv.room
  have h6 := h2.free
  have e1 : X.view.touched = X.tc := rfl
  have e2 : X.view.slack = X.view.free - tabN X.D.n X.D.sz := rfl
  unfold Rp.room
  rw [e1]
  omega
end
theorem least_no : ∀ (l : List Pk), Pk.no ∈ l → ∃ i, l[i]? = some .no ∧ ∀ (k : Nat) c, k < i → l[k]? = some c → c ≠ .no
  | [], h => by simp at h
  | c :: t, h => by
    by_cases hc : c = .no
    · subst hc; exact ⟨0, rfl, fun k c hk => by omega⟩
    · obtain ⟨i, h1, h2⟩ := least_no t ((List.mem_cons.1 h).resolve_left (Ne.symm hc))
      refine ⟨i + 1, by simpa using h1, fun k c' hk hk2 => ?_⟩
      cases k with
      | zero => simp at hk2; subst hk2; exact hc
      | succ k => exact h2 k c' (by omega) (by simpa using hk2)

section
variable (p : Nat) (F : Nat → Prop) (x : Rp) (w : World)
theorem gp_alloc_any (h : GP w p F x) (ho : x.was ≠ none) :
    Calls Tryz.prog 20 #[.pointer (some ⟨p, 0, none⟩)] w fun e' w' =>
      (∃ i : Nat, x.now[i]? = some .no ∧ (∀ (k : Nat) c, k < i → x.now[k]? = some c → c ≠ .no) ∧ e' = .returned (.tuple #[.int .i64 i, .int .i64 0]) ∧ GPTo w w' p F (x.put i .zero)) ∨
      (¬ (0 ≤ x.slack ∧ Pk.no ∈ x.now) ∧ e' = .returned (.tuple #[.int .i64 0, .int .i64 21]) ∧ Grew w w') := by
  by_cases hn : Pk.no ∈ x.now
  · obtain ⟨i, h1, h2⟩ := least_no x.now hn
    by_cases hm : (x.need (i / x.row) 0 : Nat) ≤ x.room
    · refine (gp_alloc_ok p i F x w h ho h1 h2 hm).mono ?_
      rintro e w' ⟨rfl, h3⟩
      exact .inl ⟨i, h1, h2, rfl, h3⟩
    · refine (gp_alloc_full p i F x w h ho h1 h2 (by omega)).mono ?_
      rintro e w' ⟨rfl, h3⟩
      refine .inr ⟨fun hs => hm (h.need (h.part (List.getElem?_eq_some_iff.1 h1).1) (by simpa using hs.1)), rfl, h3⟩
  · refine (gp_alloc_none p F x w h ho fun c hc e => hn (e ▸ hc)).mono ?_
    rintro e w' ⟨rfl, rfl⟩
    exact .inr ⟨fun hs => hn hs.2, rfl, Chg.refl _ _⟩
theorem gp_write_any (i : Nat) (bs : List Int) (Ab : Option Addr) (cb : Nat) (c : Pk) (h : GP w p F x) (ho : x.was ≠ none) (hi : x.now[i]? = some c) (hu : c.used = true)
    (hb : bs.length = x.sz) (hby : ∀ q ∈ bs, 0 ≤ q ∧ q ≤ 255) (hA : Ab ≠ none) (hsl : Sl w 1 Ab bs.length (bv bs)) (hsF : ∀ a, Ab = some a → ¬ F a.block) :
    Calls Tryz.prog 21 #[.pointer (some ⟨p, 0, none⟩), .int .i64 i, .slice Ab bs.length cb] w fun e' w' =>
      (e' = .returned (.int .i64 0) ∧ GPTo w w' p F (x.put i (.new bs))) ∨ (¬ (1 ≤ x.slack) ∧ c.isNew = false ∧ e' = .returned (.int .i64 21) ∧ Grew w w') := by
  by_cases hm : c.isNew = true ∨ (x.need (i / x.row) 1 : Nat) ≤ x.room
  · exact (gp_write p i F x w bs Ab cb c h ho hi hu hm hb hby hA hsl hsF).mono fun e w' k => .inl k
  · have hn : c.isNew = false := by cases e : c.isNew with | false => rfl | true => exact absurd (.inl e) hm
    have hr : x.room < (x.need (i / x.row) 1 : Nat) := by
      have : ¬ ((x.need (i / x.row) 1 : Nat) : Int) ≤ x.room := fun e => hm (.inr e)
      omega
    refine (gp_write_full p i F x w Ab cb bs.length c h ho hi hu hn hr hb).mono ?_
    rintro e w' ⟨rfl, h3⟩
    exact .inr ⟨fun hs => by have := h.need (h.part (List.getElem?_eq_some_iff.1 hi).1) (m := 1) (by simpa using hs); omega, hn, rfl, h3⟩
end

end Go.Proofs.YtpkkcicaeldodaaGreatDoor

/- The pager, as its pages are: Size. -/
namespace Go.Proofs.YtpkkcicaeldodaaGreatDoor
open Go.RowKit Go.Maps

section
variable (p i : Nat) (F : Nat → Prop) (x : Rp) (w : World)
theorem gp_size (h : GP w p F x) :
    Calls Tryz.prog 58 #[.pointer (some ⟨p, 0, none⟩)] w fun e' w' => e' = .returned (.int .i64 x.sz) ∧ w = w' := by
  obtain ⟨X, h1, h2, rfl⟩ := h
  exact gsize_any p F X w h1
end

end Go.Proofs.YtpkkcicaeldodaaGreatDoor

/- The tree: a node in memory; leaf, most, half, full, load. -/
namespace Go.Proofs.YtpkkcicaeldodaaGreatDoor
open Go.RowKit Go.Maps

/-- A tree's handle, and its pager. -/
structure BT (W : World) (t p root : Nat) (F : Nat → Prop) (x : Rp) : Prop where
  gp : GP W p F x
  blk : Blk W t 78 #[.pointer (some ⟨p, 0, none⟩), .int .i64 root]
  nf : ¬ F t
def BTTo (w w' : World) (t p root : Nat) (F : Nat → Prop) (x : Rp) : Prop := To (fun w F => BT w t p root F x) w w' F
/-- A node that reads; its blocks are of N. -/
def NdAt (W : World) (N : Nat → Prop) (b q : Nat) (nd : Nd) : Prop :=
  ∃ Ak ck Av cv Ac cc, Blk W b 73 #[.int .i64 q, .slice Ak nd.keys.length ck, .slice Av nd.vals.length cv, .slice Ac nd.kids.length cc] ∧
    Sl W 1 Ak nd.keys.length (iv nd.keys) ∧ Sl W 1 Av nd.vals.length (iv nd.vals) ∧ Sl W 1 Ac nd.kids.length (nv nd.kids) ∧
    N b ∧ (∀ a, Ak = some a → N a.block) ∧ (∀ a, Av = some a → N a.block) ∧ (∀ a, Ac = some a → N a.block) ∧ (∀ j, N j → j < W.heap.size)
/-- A node whose rows are its own. -/
def NdOwn (W : World) (N : Nat → Prop) (b q : Nat) (nd : Nd) : Prop :=
  ∃ Ak ck Av cv Ac cc, Blk W b 73 #[.int .i64 q, .slice Ak nd.keys.length ck, .slice Av nd.vals.length cv, .slice Ac nd.kids.length cc] ∧
    W.ownsRow 1 3 1 (.slice Ak nd.keys.length ck) nd.keys.length (iv nd.keys) ∧ W.ownsRow 1 3 1 (.slice Av nd.vals.length cv) nd.vals.length (iv nd.vals) ∧ W.ownsRow 1 3 1 (.slice Ac nd.kids.length cc) nd.kids.length (nv nd.kids) ∧
    N b ∧ (∀ a, Ak = some a → N a.block) ∧ (∀ a, Av = some a → N a.block) ∧ (∀ a, Ac = some a → N a.block) ∧ (∀ j, N j → j < W.heap.size) ∧
    (∀ a a', Ak = some a → Av = some a' → a.block ≠ a'.block) ∧ (∀ a a', Ak = some a → Ac = some a' → a.block ≠ a'.block) ∧ (∀ a a', Av = some a → Ac = some a' → a.block ≠ a'.block)
section
variable {w w' W W' : World} {t p root b q : Nat} {F F' G N : Nat → Prop} {x y : Rp} {nd : Nd}
theorem NdOwn.at (h : NdOwn W N b q nd) : NdAt W N b q nd := by
  obtain ⟨Ak, ck, Av, cv, Ac, cc, h1, h2, h3, h4, h5, h6, h7, h8, h9, -⟩ := h
  exact ⟨Ak, ck, Av, cv, Ac, cc, h1, Sl.of_own h2, Sl.of_own h3, Sl.of_own h4, h5, h6, h7, h8, h9⟩
theorem NdAt.chg (h : NdAt W N b q nd) (hc : Chg G W W') (hG : ∀ j, N j → ¬ G j) : NdAt W' N b q nd := by
  obtain ⟨Ak, ck, Av, cv, Ac, cc, h1, h2, h3, h4, h5, h6, h7, h8, h9⟩ := h
  exact ⟨Ak, ck, Av, cv, Ac, cc, h1.chg hc (hG _ h5), h2.chg hc fun a ha => hG _ (h6 a ha), h3.chg hc fun a ha => hG _ (h7 a ha), h4.chg hc fun a ha => hG _ (h8 a ha), h5, h6, h7, h8, fun j hj => Nat.lt_of_lt_of_le (h9 j hj) hc.size⟩
theorem own_at {A : Option Addr} {n c g : Nat} (h : (Value.slice A n c).ownBlock = some g) : ∃ a, A = some a ∧ a.block = g := by
  cases A with
  | none => simp [Value.ownBlock] at h
  | some a => simp [Value.ownBlock] at h; exact ⟨a, rfl, by first | exact h | (obtain ⟨h, -⟩ := h; exact h)⟩
theorem NdOwn.chg (h : NdOwn W N b q nd) (hc : Chg G W W') (hG : ∀ j, N j → ¬ G j) : NdOwn W' N b q nd := by
  obtain ⟨Ak, ck, Av, cv, Ac, cc, h1, h2, h3, h4, h5, h6, h7, h8, h9, h10⟩ := h
  refine ⟨Ak, ck, Av, cv, Ac, cc, h1.chg hc (hG _ h5), own_chg h2 hc fun g hg => ?_, own_chg h3 hc fun g hg => ?_, own_chg h4 hc fun g hg => ?_, h5, h6, h7, h8, fun j hj => Nat.lt_of_lt_of_le (h9 j hj) hc.size, h10⟩
  · obtain ⟨a, ha, rfl⟩ := own_at hg; exact hG _ (h6 a ha)
  · obtain ⟨a, ha, rfl⟩ := own_at hg; exact hG _ (h7 a ha)
  · obtain ⟨a, ha, rfl⟩ := own_at hg; exact hG _ (h8 a ha)
theorem NdAt.grew (h : NdAt W N b q nd) (hc : Grew W W') : NdAt W' N b q nd := h.chg hc fun _ _ => id
theorem NdOwn.grew (h : NdOwn W N b q nd) (hc : Grew W W') : NdOwn W' N b q nd := h.chg hc fun _ _ => id
theorem NdAt.lt (h : NdAt W N b q nd) : ∀ j, N j → j < W.heap.size := by obtain ⟨_, _, _, _, _, _, -, -, -, -, -, -, -, -, h⟩ := h; exact h
theorem BT.chg (h : BT W t p root F x) (hc : Chg G W W') (hG : ∀ j, F j → ¬ G j) (hG0 : ¬ G 0) (hGt : ¬ G t) : BT W' t p root F x := ⟨h.gp.chg hc hG hG0, h.blk.chg hc hGt, h.nf⟩
theorem BT.grew (h : BT W t p root F x) (hc : Grew W W') : BT W' t p root F x := h.chg hc (fun _ _ => id) id id
theorem BT.far (h : BT W t p root F x) (hc : Chg F W W') (hg : GP W' p F x) : BT W' t p root F x := ⟨hg, h.blk.chg hc h.nf, h.nf⟩
theorem BT.to (h : BT W t p root F x) (hg : GPTo W W' p F y) : BTTo W W' t p root F y := by
  obtain ⟨F', h1, h2, h3⟩ := hg
  exact ⟨F', ⟨h1, h.blk.chg h2 h.nf, fun e => (h3 t e).elim h.nf fun e => by have := h.blk.lt; omega⟩, h2, h3⟩
end
theorem leaf_val (n : Nat) : ((n : Int) == 0) = decide (n = 0) := by
  by_cases h : n = 0
  · simp [h]
  · simp [h]
theorem leaf_any (b q : Nat) (nd : Nd) (N : Nat → Prop) (w : World) (h : NdAt w N b q nd) :
    Calls Tryz.prog 41 #[.pointer (some ⟨b, 0, none⟩)] w fun e w' => e = .returned (.bool (decide (nd.kids.length = 0))) ∧ w = w' := by
  obtain ⟨Ak, ck, Av, cv, Ac, cc, h1, -⟩ := h
  obtain ⟨c0, f0, s0⟩ := h1.facts
  have hv := leaf_val nd.kids.length
  go_enter Tryz.func41, Tryz.ntmps41
  go_wp2
  go_ret
  exact ⟨by simp [← hv], rfl⟩
theorem most_val (sz : Nat) (h : 64 ≤ sz) : ((sz : Int) - 2 - 2).tdiv 18 = (mostN sz : Nat) := by
  unfold mostN
  rw [Int.tdiv_eq_ediv_of_nonneg (by omega)]
  omega
theorem bmost_any (t p root : Nat) (F : Nat → Prop) (x : Rp) (w : World) (h : BT w t p root F x) :
    Calls Tryz.prog 85 #[.pointer (some ⟨t, 0, none⟩)] w fun e w' => e = .returned (.int .i64 (mostN x.sz : Nat)) ∧ w = w' := by
  obtain ⟨c0, f0, s0⟩ := h.blk.facts
  have hz := h.gp.szs
  have H := Lib.hid h
  have hm := most_val x.sz hz.2.2.1
  have hm2 : mostN x.sz ≤ 300 := by unfold mostN; omega
  obtain ⟨z1, z2, z3, z4, -⟩ := hz
  clear h
  go_enter Tryz.func85, Tryz.ntmps85
  go_wp2_with (go_at_call 58; (refine (gp_size p F x w H.out.gp).mono ?_); rintro e w1 ⟨rfl, rfl⟩)
  go_ret
  exact ⟨rfl, rfl⟩
theorem half_val (sz : Nat) : ((mostN sz : Int) + 1).tdiv 2 = (halfN sz : Nat) := by
  unfold halfN
  rw [Int.tdiv_eq_ediv_of_nonneg (by omega)]
  omega
theorem bhalf_any (t p root : Nat) (F : Nat → Prop) (x : Rp) (w : World) (h : BT w t p root F x) :
    Calls Tryz.prog 71 #[.pointer (some ⟨t, 0, none⟩)] w fun e w' => e = .returned (.int .i64 (halfN x.sz : Nat)) ∧ w = w' := by
  have hz := h.gp.szs
  have H := Lib.hid h
  have hm := half_val x.sz
  have hm2 : mostN x.sz ≤ 300 := by unfold mostN; omega
  have hm3 : halfN x.sz ≤ 300 := by unfold halfN; omega
  clear h hz
  go_enter Tryz.func71, Tryz.ntmps71
  go_wp2_with (go_at_call 85; (refine (bmost_any t p root F x w H.out).mono ?_); rintro e w1 ⟨rfl, rfl⟩)
  go_ret
  exact ⟨rfl, rfl⟩
theorem bfull_any (t p root b q : Nat) (F N : Nat → Prop) (x : Rp) (nd : Nd) (w : World) (h : BT w t p root F x) (hn : NdAt w N b q nd) (hl : nd.keys.length ≤ 300) :
    Calls Tryz.prog 39 #[.pointer (some ⟨t, 0, none⟩), .pointer (some ⟨b, 0, none⟩)] w fun e w' => e = .returned (.bool (decide (2 * halfN x.sz - 1 ≤ nd.keys.length))) ∧ Grew w w' := by
  obtain ⟨Ak, ck, Av, cv, Ac, cc, h1, -⟩ := hn
  obtain ⟨c0, f0, s0⟩ := h1.facts
  have hz := h.gp.szs
  have H := Lib.hid h
  have hm2 : mostN x.sz ≤ 300 := by unfold mostN; omega
  have hm3 : halfN x.sz ≤ 300 := by unfold halfN; omega
  have hm4 : 1 ≤ halfN x.sz := by unfold halfN mostN; omega
  have hv : decide ((2 : Int) * (halfN x.sz : Nat) - 1 ≤ (nd.keys.length : Nat)) = decide (2 * halfN x.sz - 1 ≤ nd.keys.length) := by
    by_cases e : 2 * halfN x.sz - 1 ≤ nd.keys.length
    · rw [decide_eq_true e, decide_eq_true (by omega)]
    · rw [decide_eq_false e, decide_eq_false (by omega)]
  have HV := Lib.hid hv
  clear h hz h1 hv
  go_enter Tryz.func39, Tryz.ntmps39
  go_wp2_with fail
  go_quiet ((go_at_call 71; exact Calls.quiet_of_same ((bhalf_any t p root F x _ (H.out.grew ((Chg.refl _ _).drewN _))).mono fun _ _ h => ⟨h.1, h.2.symm⟩)))
  go_wp2_with fail
  go_ret
  exact ⟨by rw [← HV.out]; rfl, (Chg.refl _ _).drewN _⟩
end Go.Proofs.YtpkkcicaeldodaaGreatDoor

/- A drawn region whose last operations write what its loads read, and wait for the loads through another one. No program stands in this text. -/
namespace Go.Proofs.YtpkkcicaeldodaaGreatDoor
open Go.RowKit

section
variable {P : Program} {ops : Array Oper} {Q : Exit → Act → World → Prop} {md : Region.Mode} {S : World → Prop} {X : List Nat}

/-- All of X wait for i, or for one of M. -/
def waitsM (md : Region.Mode) (ops : Array Oper) (X M : List Nat) (i : Nat) : Bool := X.all fun j => match ops[j]? with
  | some o => o.after.any fun e => Region.binds md e && (e.on == i || M.contains e.on)
  | none => true
theorem wpAnyX_firstM {i : Nat} {oi : Oper} {v : Value} {M : List Nat} (hi : ops[i]? = some oi) (hsel : ∀ (j : Nat) (o : Oper) cs b, ops[j]? = some o → o.op ≠ .select cs b)
    (hQ : ∀ c a w, Q (.panic c) (a.put oi.dst v) w → Q (.panic c) a w) (hX : waitsM md ops X M i = true) (hM : waitsB md ops M i = true) (fuel : Nat) : ∀ (listed : Array Bool) (a : Act) (w : World),
      (∀ j oj, ops[j]? = some oj → j ≠ i → listed.getD j true = false → (∀ e ∈ oj.after, Region.binds md e = true → e.on ≠ i) → oi.apart ops oj = true) →
      (∀ k ∈ M, listed.getD k true = false) →
      i ∈ Region.ready md ops listed → YieldsIf P ops S oi v a → S w →
      wpAnyX P md ops Q S X fuel (listed.setIfInBounds i true) (a.put oi.dst v) w → wpAnyX P md ops Q S X (fuel + 1) listed a w := by
  induction fuel with
  | zero =>
    intro listed a w _ _ hr hy hS H
    refine ⟨fun h => absurd hr (by rw [h]; simp), fun j hj => ?_⟩
    rcases Nat.decEq j i with hji | hji
    · have := ready_mono hj hji
      rw [H.1] at this
      cases this
    · subst hji
      exact hy.wpOp hi hS ⟨fun _ => hS, H⟩
  | succ fuel ih =>
    intro listed a w hfree hml hr hy hS H
    refine ⟨fun h => absurd hr (by rw [h]; simp), fun j hj => ?_⟩
    rcases Nat.decEq j i with hji | hji
    · obtain ⟨hun, oj, hoj, hall⟩ := mem_ready.1 hj
      have hiun := (mem_ready.1 hr).1
      have hnot : ∀ e ∈ oj.after, Region.binds md e = true → e.on ≠ i := by
        intro e he hb heq
        have hl := hall e he hb
        rw [heq] at hl
        by_cases hsz : i < listed.size
        · simp [hsz] at hiun hl; rw [hiun] at hl; cases hl
        · simp [Array.getElem?_eq_none (Nat.le_of_not_lt hsz)] at hl
      have hnotM : ∀ e ∈ oj.after, Region.binds md e = true → e.on ∉ M := by
        intro e he hb hm
        have hl := hall e he hb
        have hun' := hml _ hm
        by_cases hsz : e.on < listed.size
        · simp [hsz] at hun' hl; rw [hun'] at hl; cases hl
        · simp [Array.getElem?_eq_none (Nat.le_of_not_lt hsz)] at hl
      have hjM : j ∉ M := fun hm => by
        have h1 := List.all_eq_true.1 hM j hm
        rw [hoj] at h1
        obtain ⟨e, he, hb⟩ := Array.any_eq_true'.1 h1
        simp only [Bool.and_eq_true, beq_iff_eq] at hb
        exact hnot e he hb.1 hb.2
      have step := wpOp_putIf hoj (hfree j oj hoj hji hun hnot) (fun cs b => hsel i oi cs b hi) (fun cs b => hsel j oj cs b hoj) hQ hy (H.2 j (ready_mono hj hji))
      have hnx : X.contains j = false := by
        cases hc : X.contains j with
        | false => rfl
        | true =>
          have h1 := List.all_eq_true.1 hX j (by simpa using hc)
          rw [hoj] at h1
          obtain ⟨e, he, hb⟩ := Array.any_eq_true'.1 h1
          simp only [Bool.and_eq_true, Bool.or_eq_true, beq_iff_eq] at hb
          rcases hb.2 with e2 | e2
          · exact absurd e2 (hnot e he hb.1)
          · exact absurd (by simpa using e2) (hnotM e he hb.1)
      refine wpOp_mono (fun a' w' h3 => ?_) step
      have hS' := h3.2.1 hnx
      refine ⟨fun _ => hS', ih (listed.setIfInBounds j true) a' w' (fun k ok hk hki hkun hno => hfree k ok hk hki ?_ hno) (fun k hk => ?_) (ready_mono hr (Ne.symm hji)) h3.1 hS' (by rw [Array.setIfInBounds_comm _ _ hji]; exact h3.2.2)⟩
      · rcases Nat.decEq j k with hjk | hjk
        · rwa [getD_set_ne true hjk] at hkun
        · exact hjk ▸ hun
      · have hjk : j ≠ k := fun e => hjM (e ▸ hk)
        rw [getD_set_ne true hjk]
        exact hml k hk
    · subst hji
      exact hy.wpOp hi hS ⟨fun _ => hS, H⟩
theorem wpAnyX_takeM (M : List Nat) {i : Nat} {oi : Oper} {v : Value} {fuel : Nat} {listed : Array Bool} {a : Act} {w : World} (hi : ops[i]? = some oi)
    (hs : Region.noSelect ops = true) (hf : Region.free md ops listed i = true) (hr : (Region.ready md ops listed).contains i = true) (hX : waitsM md ops X M i = true) (hM : waitsB md ops M i = true) (hml : (M.all fun k => listed.getD k true == false) = true)
    (hQ : ∀ c a w, Q (.panic c) (a.put oi.dst v) w → Q (.panic c) a w) (hy : YieldsIf P ops S oi v a) (hS : S w)
    (h : wpAnyX P md ops Q S X fuel (listed.setIfInBounds i true) (a.put oi.dst v) w) : wpAnyX P md ops Q S X (fuel + 1) listed a w :=
  wpAnyX_firstM hi (Region.noSelect_spec hs) hQ hX hM fuel listed a w (Region.free_spec hi hf) (fun k hk => by simpa using List.all_eq_true.1 hml k hk) (by simpa using hr) hy hS h
end

end Go.Proofs.YtpkkcicaeldodaaGreatDoor

/- The tree: load. -/
namespace Go.Proofs.YtpkkcicaeldodaaGreatDoor
open Go.RowKit Go.Maps

theorem bload_none (t p root : Nat) (q : Int) (F : Nat → Prop) (x : Rp) (w : World) (h : BT w t p root F x) (hu : q < 0 ∨ x.now.length ≤ q ∨ x.now[q.toNat]? = some .no) :
    Calls Tryz.prog 38 #[.pointer (some ⟨t, 0, none⟩), .int .i64 q] w fun e w' => e = .returned (.tuple #[.pointer none, .int .i64 14]) ∧ w = w' := by
  obtain ⟨c0, f0, s0⟩ := h.blk.facts
  have HR := Lib.hid (gp_read_none p F x w q h.gp hu)
  clear h hu
  go_enter Tryz.func38, Tryz.ntmps38
  go_wp2_with (go_at_call 84; (refine HR.out.mono ?_); rintro e w1 ⟨rfl, rfl⟩)
  go_ret2
  exact ⟨rfl, rfl⟩

theorem own_rng {w : World} {base : Nat} {e : TypeId} {s n c : Nat} {A : Option Addr} {xs : List Value} (h : w.ownsRow base e s (.slice A n c) n xs) : ∀ a, A = some a → base ≤ a.block ∧ a.block < w.heap.size := by
  rintro a rfl
  obtain ⟨g, rfl, -⟩ := own_some h
  exact h.lt g rfl
/-- A node of three new rows. -/
theorem nd_mk {W : World} {b q s1 s2 s3 s4 s5 : Nat} {nd : Nd} {A1 A2 A3 : Option Addr} {c1 c2 c3 : Nat} (hb : Blk W b 73 #[.int .i64 q, .slice A1 nd.keys.length c1, .slice A2 nd.vals.length c2, .slice A3 nd.kids.length c3])
    (h1 : W.ownsRow 1 3 1 (.slice A1 nd.keys.length c1) nd.keys.length (iv nd.keys)) (h2 : W.ownsRow 1 3 1 (.slice A2 nd.vals.length c2) nd.vals.length (iv nd.vals)) (h3 : W.ownsRow 1 3 1 (.slice A3 nd.kids.length c3) nd.kids.length (nv nd.kids))
    (r1 : ∀ a, A1 = some a → s1 ≤ a.block ∧ a.block < s2) (r2 : ∀ a, A2 = some a → s2 ≤ a.block ∧ a.block < s3) (r3 : ∀ a, A3 = some a → s4 ≤ a.block ∧ a.block < s5) (hbr : s3 ≤ b ∧ b < s4) (hs : s1 ≤ s2 ∧ s2 ≤ s3 ∧ s4 ≤ s5 ∧ s5 ≤ W.heap.size) :
    NdOwn W (fun j => s1 ≤ j ∧ j < s5) b q nd :=
  ⟨A1, c1, A2, c2, A3, c3, hb, h1, h2, h3, by omega, fun a ha => by have := r1 a ha; omega, fun a ha => by have := r2 a ha; omega, fun a ha => by have := r3 a ha; omega, fun j hj => by omega,
    fun a a' ha ha' => by have := r1 a ha; have := r2 a' ha'; omega, fun a a' ha ha' => by have := r1 a ha; have := r3 a' ha'; omega, fun a a' ha ha' => by have := r2 a ha; have := r3 a' ha'; omega⟩
theorem nv_toNat {l : List Int} (h : ∀ a ∈ l, 0 ≤ a) : nv (l.map Int.toNat) = iv l := by
  unfold nv iv
  rw [List.map_map]
  refine List.map_congr_left fun a ha => ?_
  have := h a ha
  simp only [Function.comp]
  congr 1
  omega
/-- What load leaves. -/
def LdOut (w w' : World) (t p root q : Nat) (F : Nat → Prop) (x : Rp) (nd : Nd) (e : Ending) : Prop :=
  ∃ b N, e = .returned (.tuple #[.pointer (some ⟨b, 0, none⟩), .int .i64 0]) ∧ NdOwn w' N b q nd ∧ (∀ j, N j → w.heap.size ≤ j) ∧ BT w' t p root F x ∧ Chg F w w'

set_option maxRecDepth 100000 in
set_option maxHeartbeats 3200000 in
theorem bload_any (t p root q : Nat) (F : Nat → Prop) (x : Rp) (c : Pk) (nd : Nd) (w : World) (h : BT w t p root F x) (hi : x.now[q]? = some c) (hu : c.used = true) (hd : decN (c.bytes x.sz) x.sz = some nd) :
    Calls Tryz.prog 38 #[.pointer (some ⟨t, 0, none⟩), .int .i64 q] w fun e w' => LdOut w w' t p root q F x nd e := by
  obtain ⟨c0, f0, s0⟩ := h.blk.facts
  have hz := h.gp.szs
  have HR := Lib.hid (gp_read p q F x w c h.gp hi hu)
  obtain ⟨bs, hbs⟩ : ∃ bs, c.bytes x.sz = bs := ⟨_, rfl⟩
  rw [hbs] at HR hd
  have H := Lib.hid (And.intro h hd)
  obtain ⟨z1, z2, z3, z4, -⟩ := hz
  have hq4 : q < 4096 := by have := (List.getElem?_eq_some_iff.1 hi).1; have := h.gp.szs; omega
  clear h hi hu hd hbs
  go_enter Tryz.func38, Tryz.ntmps38
  go_wp2_with fail
  refine HR.out.mono ?_
  rintro e w1 ⟨A, cA, rfl, ho, hbl, hby, hg, hc, hF⟩
  clear c0 f0 s0
  obtain ⟨g, rfl, hgl⟩ := own_block ho (by omega)
  have hB1 := H.out.1.far hc hg
  obtain ⟨m, hm⟩ : ∃ m, (bs.getD 1 0).toNat = m := ⟨_, rfl⟩
  obtain ⟨k0, hk0⟩ : ∃ k, bs.getD 0 0 = k := ⟨_, rfl⟩
  have hcA : x.sz ≤ cA ∧ cA ≤ maxLen := by obtain ⟨cur, -, -, h1, h2, -⟩ := own_row ho; exact ⟨h1, h2⟩
  have hb0 : bs[0]? = some k0 := by rw [← hk0, List.getD_eq_getElem?_getD, List.getElem?_eq_getElem (by omega)]; rfl
  have hb1 : bs[1]? = some (m : Int) := by
    have h1 : bs[1]? = some bs[1] := List.getElem?_eq_getElem (by omega)
    have h2 := hby _ (List.mem_of_getElem? h1)
    have h3 : bs.getD 1 0 = bs[1] := by rw [List.getD_eq_getElem?_getD, h1]; rfl
    rw [h1, ← hm, h3]
    congr 1
    omega
  have hk0b := hby _ (List.mem_of_getElem? hb0)
  have hm255 : m ≤ 255 := by have := hby _ (List.mem_of_getElem? hb1); omega
  have hc0 : w1.cell? ⟨g, 0, none⟩ = some (.int .u8 k0) := by
    have := ho.cells (g := g) rfl 0 (.int .u8 k0) (by simp [bv, hb0])
    rwa [Addr.add_lit, Nat.zero_add] at this
  have hc1 : w1.cell? ⟨g, 1, none⟩ = some (.int .u8 m) := by
    have := ho.cells (g := g) rfl 1 (.int .u8 m) (by simp [bv, hb1])
    rwa [Addr.add_lit, Nat.zero_add] at this
  have hmost : mostN x.sz ≤ 300 := by unfold mostN; omega
  have hd := H.out.2
  unfold decN at hd
  rw [hm, hk0] at hd
  have hcnd : (k0 = 1 ∨ k0 = 2) ∧ m ≤ mostN x.sz := by
    split at hd
    · cases hd
    · rename_i hc
      simp only [not_or, not_and, Decidable.not_not, Nat.not_lt] at hc
      refine ⟨?_, hc.2⟩
      by_cases e : k0 = 1
      · exact .inl e
      · exact .inr (hc.1 e)
  rw [if_neg (by rintro (⟨e1, e2⟩ | e1); rcases hcnd.1 with e | e; exact e1 e; exact e2 e; omega)] at hd
  injection hd with hd
  have H1 := Lib.hid (And.intro hB1 (And.intro hc (And.intro ho (And.intro hby hd))))
  obtain ⟨hk12, hmm⟩ := hcnd
  have t1 : decide ((mostN x.sz : Int) < (m : Int)) = false := decide_eq_false (by omega)
  clear hB1 hc ho hby hd hg hF hm hk0 hb0 hb1 hgl
  have h18 : 18 * m + 4 ≤ x.sz := by unfold mostN at hmm; omega
  have hnum : ∀ (o mm kk : Nat) (w' : World), Grew w1 w' → 1 ≤ kk → kk ≤ 8 → o + kk * mm ≤ x.sz → Calls Tryz.prog 86 #[.slice (some ⟨g, o, none⟩) (x.sz - o) (cA - o), .int .i64 mm, .int .i64 kk] w' fun e w2 => OwnOut w' w2 3 1 mm (iv (numsL (bs.drop o) mm kk)) (fun A c => .slice A mm c) e := by
    intro o mm kk w' hg' h1 h2 h3
    have hsub := Sl.sub (i := o) (m := x.sz - o) ((hbl ▸ Sl.of_own H1.out.2.2.1 : Sl w1 1 (some ⟨g, 0, none⟩) bs.length (bv bs)).grew hg') (by omega) (bs.drop o) (by rw [List.take_of_length_le]; rw [List.length_drop]; omega)
    rw [Nat.zero_add] at hsub
    have hln : (bs.drop o).length = x.sz - o := by rw [List.length_drop, hbl]
    have := bnumbers_any g o (cA - o) (bs.drop o) mm kk w' ⟨h1, h2⟩ (by omega) (by omega) (by omega) (by simp only [maxLen] at hcA; omega) (fun q hq => H1.out.2.2.2.1 q (List.mem_of_mem_drop hq)) hsub
    rw [hln] at this
    exact this
  obtain ⟨hcA1, hcA2⟩ := hcA
  simp only [maxLen] at hcA2
  have HN := Lib.hid hnum
  have s1 : (2 : Int) ≤ (x.sz : Int) := by omega
  have s2 : ¬ cA = 2 := by omega
  obtain ⟨o1, ho1⟩ : ∃ o, 2 + 8 * m = o := ⟨_, rfl⟩
  obtain ⟨o2, ho2⟩ : ∃ o, 2 + 16 * m = o := ⟨_, rfl⟩
  have s3 : IntKind.i64.wrap (2 + IntKind.i64.wrap (8 * (m : Int))) = (o1 : Int) := by
    rw [IntWalk.i64_in (8 * (m : Int)) ⟨by omega, by omega⟩, IntWalk.i64_in _ ⟨by omega, by omega⟩]
    omega
  have s4 : (o1 : Int) ≤ (x.sz : Int) := by omega
  have s5 : ¬ cA = o1 := by omega
  have s6 : IntKind.i64.wrap (2 + IntKind.i64.wrap (16 * (m : Int))) = (o2 : Int) := by
    rw [IntWalk.i64_in (16 * (m : Int)) ⟨by omega, by omega⟩, IntWalk.i64_in _ ⟨by omega, by omega⟩]
    omega
  have s6' : (2 : Int) + 16 * (m : Int) = (o2 : Int) := by omega
  have s7 : (o2 : Int) ≤ (x.sz : Int) := by omega
  have s8 : ¬ cA = o2 := by omega
  have HO := Lib.hid (And.intro ho1 ho2)
  clear hnum hbl ho1 ho2
  rcases hk12 with rfl | rfl
  · go_wp2_with (go_at_call 85; (refine (bmost_any t p root F x w1 H1.out.1).mono ?_); rintro e w3 ⟨rfl, rfl⟩)
    refine wp_region_held_drew (S := fun _ => True) (by kernel_rfl) trivial (fun hHeld => ?_)
    refine wpAnyH_take (i := 0) (v := ?_) rfl (by kernel_rfl) (by kernel_rfl) (by kernel_rfl) (fun _ _ _ h => h) (Or.inl ⟨by rfl, ?_⟩) hHeld ?_
    rotate_left
    · (intro w hSw; (try dsimp only at hSw); go_simp) <;> with_reducible rfl
    (try simp only [Act.put, List.setIfInBounds_toArray, List.set_cons_zero, List.set_cons_succ, List.getElem_toArray, List.getElem_cons_zero, List.getElem_cons_succ])
    refine wpAnyH_take (i := 1) (v := ?_) rfl (by kernel_rfl) (by kernel_rfl) (by kernel_rfl) (fun _ _ _ h => h) (Or.inl ⟨by rfl, ?_⟩) hHeld ?_
    rotate_left
    · (intro w hSw; (try dsimp only at hSw); go_simp) <;> with_reducible rfl
    (try simp only [Act.put, List.setIfInBounds_toArray, List.set_cons_zero, List.set_cons_succ, List.getElem_toArray, List.getElem_cons_zero, List.getElem_cons_succ])
    refine wpAnyH_take (i := 2) (v := ?_) rfl (by kernel_rfl) (by kernel_rfl) (by kernel_rfl) (fun _ _ _ h => h) (Or.inl ⟨by rfl, ?_⟩) hHeld ?_
    rotate_left
    · (intro w hSw; (try dsimp only at hSw); go_simp) <;> with_reducible rfl
    (try simp only [Act.put, List.setIfInBounds_toArray, List.set_cons_zero, List.set_cons_succ, List.getElem_toArray, List.getElem_cons_zero, List.getElem_cons_succ])
    refine wpAnyH_take (i := 3) (v := ?_) rfl (by kernel_rfl) (by kernel_rfl) (by kernel_rfl) (fun _ _ _ h => h) (Or.inl ⟨by rfl, ?_⟩) hHeld ?_
    rotate_left
    · (intro w hSw; (try dsimp only at hSw); go_simp) <;> with_reducible rfl
    (try simp only [Act.put, List.setIfInBounds_toArray, List.set_cons_zero, List.set_cons_succ, List.getElem_toArray, List.getElem_cons_zero, List.getElem_cons_succ])
    refine wpAnyH_take (i := 5) (v := ?_) rfl (by kernel_rfl) (by kernel_rfl) (by kernel_rfl) (fun _ _ _ h => h) (Or.inl ⟨by rfl, ?_⟩) hHeld ?_
    rotate_left
    · (intro w hSw; (try dsimp only at hSw); go_simp) <;> with_reducible rfl
    (try simp only [Act.put, List.setIfInBounds_toArray, List.set_cons_zero, List.set_cons_succ, List.getElem_toArray, List.getElem_cons_zero, List.getElem_cons_succ])
    refine wpAnyH_take (i := 6) (v := ?_) rfl (by kernel_rfl) (by kernel_rfl) (by kernel_rfl) (fun _ _ _ h => h) (Or.inl ⟨by rfl, ?_⟩) hHeld ?_
    rotate_left
    · (intro w hSw; (try dsimp only at hSw); go_simp) <;> with_reducible rfl
    (try simp only [Act.put, List.setIfInBounds_toArray, List.set_cons_zero, List.set_cons_succ, List.getElem_toArray, List.getElem_cons_zero, List.getElem_cons_succ])
    refine wpAnyH_take (i := 7) (v := ?_) rfl (by kernel_rfl) (by kernel_rfl) (by kernel_rfl) (fun _ _ _ h => h) (Or.inl ⟨by rfl, ?_⟩) hHeld ?_
    rotate_left
    · (intro w hSw; (try dsimp only at hSw); go_simp) <;> with_reducible rfl
    (try simp only [Act.put, List.setIfInBounds_toArray, List.set_cons_zero, List.set_cons_succ, List.getElem_toArray, List.getElem_cons_zero, List.getElem_cons_succ])
    refine wpAnyH_take (i := 8) (v := ?_) rfl (by kernel_rfl) (by kernel_rfl) (by kernel_rfl) (fun _ _ _ h => h) (Or.inl ⟨by rfl, ?_⟩) hHeld ?_
    rotate_left
    · (intro w hSw; (try dsimp only at hSw); go_simp) <;> with_reducible rfl
    (try simp only [Act.put, List.setIfInBounds_toArray, List.set_cons_zero, List.set_cons_succ, List.getElem_toArray, List.getElem_cons_zero, List.getElem_cons_succ])
    refine wpAnyH_take (i := 9) (v := ?_) rfl (by kernel_rfl) (by kernel_rfl) (by kernel_rfl) (fun _ _ _ h => h) (Or.inl ⟨by rfl, ?_⟩) hHeld ?_
    rotate_left
    · (intro w hSw; (try dsimp only at hSw); go_simp) <;> with_reducible rfl
    (try simp only [Act.put, List.setIfInBounds_toArray, List.set_cons_zero, List.set_cons_succ, List.getElem_toArray, List.getElem_cons_zero, List.getElem_cons_succ])
    refine wpAnyH_take (i := 10) (v := ?_) rfl (by kernel_rfl) (by kernel_rfl) (by kernel_rfl) (fun _ _ _ h => h) (Or.inl ⟨by rfl, ?_⟩) hHeld ?_
    rotate_left
    · (intro w hSw; (try dsimp only at hSw); go_simp) <;> with_reducible rfl
    (try simp only [Act.put, List.setIfInBounds_toArray, List.set_cons_zero, List.set_cons_succ, List.getElem_toArray, List.getElem_cons_zero, List.getElem_cons_succ])
    refine wpAnyH_ready (rs := [4]) (by kernel_rfl) (by simp) ?_
    refine AllReadyH.cons rfl (fun K hK => ?_) AllReadyH.nil
    go_simp
    refine (HN.out 2 m 8 _ ((Chg.refl _ _).drew) (by omega) (by omega) (by omega)).mono ?_
    rintro e w4 ⟨A4, c4, rfl, ho4, hg4⟩
    refine hK.out _ _ trivial (fun _ => ?_)
    clear hK K
    (try simp only [Act.put, List.setIfInBounds_toArray, List.set_cons_zero, List.set_cons_succ, List.getElem_toArray, List.getElem_cons_zero, List.getElem_cons_succ])
    refine wpAnyH_ready (rs := [11]) (by kernel_rfl) (by simp) ?_
    refine AllReadyH.cons rfl (fun K hK => ?_) AllReadyH.nil
    go_simp
    refine (HN.out o1 m 8 w4 (Grew.trans ((Chg.refl _ _).drew) hg4) (by omega) (by omega) (by have := HO.out.1; omega)).mono ?_
    rintro e w5 ⟨A5, c5, rfl, ho5, hg5⟩
    refine hK.out _ _ trivial (fun _ => ?_)
    clear hK K
    (try simp only [Act.put, List.setIfInBounds_toArray, List.set_cons_zero, List.set_cons_succ, List.getElem_toArray, List.getElem_cons_zero, List.getElem_cons_succ])
    have H5 := Lib.hid (And.intro ho4 (And.intro hg4 (And.intro ho5 hg5)))
    clear ho4 hg4 ho5 hg5
    refine wpAnyH_take (i := 12) (v := ?_) rfl (by kernel_rfl) (by kernel_rfl) (by kernel_rfl) (fun _ _ _ h => h) (Or.inl ⟨by rfl, ?_⟩) hHeld ?_
    rotate_left
    · (intro w hSw; (try dsimp only at hSw); go_simp) <;> with_reducible rfl
    (try simp only [Act.put, List.setIfInBounds_toArray, List.set_cons_zero, List.set_cons_succ, List.getElem_toArray, List.getElem_cons_zero, List.getElem_cons_succ])
    refine wpAnyH_ready (rs := [13]) (by kernel_rfl) (by simp) ?_
    refine AllReadyH.cons rfl (fun K hK => ?_) AllReadyH.nil
    go_simp
    refine hK.out _ _ trivial (fun _ => ?_)
    clear hK K
    (try simp only [Act.put, List.setIfInBounds_toArray, List.set_cons_zero, List.set_cons_succ, List.getElem_toArray, List.getElem_cons_zero, List.getElem_cons_succ])
    refine wpAnyH_ready (rs := [14]) (by kernel_rfl) (by simp) ?_
    refine AllReadyH.cons rfl (fun K hK => ?_) AllReadyH.nil
    go_simp
    refine hK.out _ _ trivial (fun _ => ?_)
    clear hK K
    (try simp only [Act.put, List.setIfInBounds_toArray, List.set_cons_zero, List.set_cons_succ, List.getElem_toArray, List.getElem_cons_zero, List.getElem_cons_succ])
    refine wpAnyH_done (by kernel_rfl) ?_ _
    clear hHeld
    obtain ⟨W6, hW6⟩ : ∃ W, w5.alloc (.cells #[.int .i64 q, .slice A4 m c4, .slice A5 m c5, .slice none 0 0] 73) = W := ⟨_, rfl⟩
    rw [hW6]
    have hg14 : Grew w1 w4 := Grew.trans ((Chg.refl _ _).drew) H5.out.2.1
    have hg56 : Grew w5 W6 := hW6 ▸ (Chg.refl _ _).alloc _
    have hg16 : Grew w1 W6 := Grew.trans hg14 (Grew.trans H5.out.2.2.2 hg56)
    have hc6 : W6.cell? ⟨g, 0, none⟩ = some (.int .u8 1) := (hg16.cell (p := ⟨g, 0, none⟩) (H1.out.2.2.1.lt g rfl).2 id).trans hc0
    have hb6 : Blk W6 w5.heap.size 73 #[.int .i64 q, .slice A4 m c4, .slice A5 m c5, .slice none 0 0] := hW6 ▸ Blk.new _ _ _
    have hz6 : W6.heap.size = w5.heap.size + 1 := by subst hW6; simp
    have H6 := Lib.hid (And.intro hg14 (And.intro hg16 (And.intro hb6 (And.intro (Grew.trans H5.out.2.2.2 hg56) (And.intro hg56 hz6)))))
    have hgl1 := hg14.size
    have hgl2 := H5.out.2.2.2.size
    clear hW6 hg14 hg16 hg56 hc0 hc1 hz6
    clear hb6
    go_wp2_with fail
    go_ret2
    have hp1 : 1 ≤ w1.heap.size := by have := tab_pos H1.out.1.gp.tab; exact this
    have hz6 := H6.out.2.2.2.2.2
    have hnd := H1.out.2.2.2.2
    rw [if_neg (by decide), HO.out.1] at hnd
    subst hnd
    refine ⟨w5.heap.size, _, rfl, nd_mk (s1 := w1.heap.size) (s2 := w4.heap.size) (s3 := w5.heap.size) (s4 := W6.heap.size) (s5 := W6.heap.size) (A1 := A4) (A2 := A5) (A3 := none) (c1 := c4) (c2 := c5) (c3 := 0) ?_ ?_ ?_ (World.ownsRow_nil _ _ _ _) (own_rng H5.out.1) (own_rng H5.out.2.2.1) (fun a ha => by cases ha) (by omega) (by omega), fun j hj => ?_, H1.out.1.grew H6.out.2.1, H1.out.2.1.grew H6.out.2.1⟩
    · have := H6.out.2.2.1
      simpa [numsL_len] using this
    · have := own_base (own_grew H5.out.1 H6.out.2.2.2.1) hp1
      simpa [numsL_len] using this
    · have := own_base (own_grew H5.out.2.2.1 H6.out.2.2.2.2.1) (show 1 ≤ w4.heap.size by omega)
      simpa [numsL_len] using this
    · have := H1.out.2.1.size; omega
  · go_wp2_with (go_at_call 85; (refine (bmost_any t p root F x w1 H1.out.1).mono ?_); rintro e w3 ⟨rfl, rfl⟩)
    refine wp_region_held_drew (S := fun _ => True) (by kernel_rfl) trivial (fun hHeld => ?_)
    refine wpAnyH_take (i := 0) (v := ?_) rfl (by kernel_rfl) (by kernel_rfl) (by kernel_rfl) (fun _ _ _ h => h) (Or.inl ⟨by rfl, ?_⟩) hHeld ?_
    rotate_left
    · (intro w hSw; (try dsimp only at hSw); go_simp) <;> with_reducible rfl
    (try simp only [Act.put, List.setIfInBounds_toArray, List.set_cons_zero, List.set_cons_succ, List.getElem_toArray, List.getElem_cons_zero, List.getElem_cons_succ])
    refine wpAnyH_take (i := 1) (v := ?_) rfl (by kernel_rfl) (by kernel_rfl) (by kernel_rfl) (fun _ _ _ h => h) (Or.inl ⟨by rfl, ?_⟩) hHeld ?_
    rotate_left
    · (intro w hSw; (try dsimp only at hSw); go_simp) <;> with_reducible rfl
    (try simp only [Act.put, List.setIfInBounds_toArray, List.set_cons_zero, List.set_cons_succ, List.getElem_toArray, List.getElem_cons_zero, List.getElem_cons_succ])
    refine wpAnyH_take (i := 2) (v := ?_) rfl (by kernel_rfl) (by kernel_rfl) (by kernel_rfl) (fun _ _ _ h => h) (Or.inl ⟨by rfl, ?_⟩) hHeld ?_
    rotate_left
    · (intro w hSw; (try dsimp only at hSw); go_simp) <;> with_reducible rfl
    (try simp only [Act.put, List.setIfInBounds_toArray, List.set_cons_zero, List.set_cons_succ, List.getElem_toArray, List.getElem_cons_zero, List.getElem_cons_succ])
    refine wpAnyH_take (i := 3) (v := ?_) rfl (by kernel_rfl) (by kernel_rfl) (by kernel_rfl) (fun _ _ _ h => h) (Or.inl ⟨by rfl, ?_⟩) hHeld ?_
    rotate_left
    · (intro w hSw; (try dsimp only at hSw); go_simp) <;> with_reducible rfl
    (try simp only [Act.put, List.setIfInBounds_toArray, List.set_cons_zero, List.set_cons_succ, List.getElem_toArray, List.getElem_cons_zero, List.getElem_cons_succ])
    refine wpAnyH_take (i := 5) (v := ?_) rfl (by kernel_rfl) (by kernel_rfl) (by kernel_rfl) (fun _ _ _ h => h) (Or.inl ⟨by rfl, ?_⟩) hHeld ?_
    rotate_left
    · (intro w hSw; (try dsimp only at hSw); go_simp) <;> with_reducible rfl
    (try simp only [Act.put, List.setIfInBounds_toArray, List.set_cons_zero, List.set_cons_succ, List.getElem_toArray, List.getElem_cons_zero, List.getElem_cons_succ])
    refine wpAnyH_take (i := 6) (v := ?_) rfl (by kernel_rfl) (by kernel_rfl) (by kernel_rfl) (fun _ _ _ h => h) (Or.inl ⟨by rfl, ?_⟩) hHeld ?_
    rotate_left
    · (intro w hSw; (try dsimp only at hSw); go_simp) <;> with_reducible rfl
    (try simp only [Act.put, List.setIfInBounds_toArray, List.set_cons_zero, List.set_cons_succ, List.getElem_toArray, List.getElem_cons_zero, List.getElem_cons_succ])
    refine wpAnyH_take (i := 7) (v := ?_) rfl (by kernel_rfl) (by kernel_rfl) (by kernel_rfl) (fun _ _ _ h => h) (Or.inl ⟨by rfl, ?_⟩) hHeld ?_
    rotate_left
    · (intro w hSw; (try dsimp only at hSw); go_simp) <;> with_reducible rfl
    (try simp only [Act.put, List.setIfInBounds_toArray, List.set_cons_zero, List.set_cons_succ, List.getElem_toArray, List.getElem_cons_zero, List.getElem_cons_succ])
    refine wpAnyH_take (i := 8) (v := ?_) rfl (by kernel_rfl) (by kernel_rfl) (by kernel_rfl) (fun _ _ _ h => h) (Or.inl ⟨by rfl, ?_⟩) hHeld ?_
    rotate_left
    · (intro w hSw; (try dsimp only at hSw); go_simp) <;> with_reducible rfl
    (try simp only [Act.put, List.setIfInBounds_toArray, List.set_cons_zero, List.set_cons_succ, List.getElem_toArray, List.getElem_cons_zero, List.getElem_cons_succ])
    refine wpAnyH_take (i := 9) (v := ?_) rfl (by kernel_rfl) (by kernel_rfl) (by kernel_rfl) (fun _ _ _ h => h) (Or.inl ⟨by rfl, ?_⟩) hHeld ?_
    rotate_left
    · (intro w hSw; (try dsimp only at hSw); go_simp) <;> with_reducible rfl
    (try simp only [Act.put, List.setIfInBounds_toArray, List.set_cons_zero, List.set_cons_succ, List.getElem_toArray, List.getElem_cons_zero, List.getElem_cons_succ])
    refine wpAnyH_take (i := 10) (v := ?_) rfl (by kernel_rfl) (by kernel_rfl) (by kernel_rfl) (fun _ _ _ h => h) (Or.inl ⟨by rfl, ?_⟩) hHeld ?_
    rotate_left
    · (intro w hSw; (try dsimp only at hSw); go_simp) <;> with_reducible rfl
    (try simp only [Act.put, List.setIfInBounds_toArray, List.set_cons_zero, List.set_cons_succ, List.getElem_toArray, List.getElem_cons_zero, List.getElem_cons_succ])
    refine wpAnyH_ready (rs := [4]) (by kernel_rfl) (by simp) ?_
    refine AllReadyH.cons rfl (fun K hK => ?_) AllReadyH.nil
    go_simp
    refine (HN.out 2 m 8 _ ((Chg.refl _ _).drew) (by omega) (by omega) (by omega)).mono ?_
    rintro e w4 ⟨A4, c4, rfl, ho4, hg4⟩
    refine hK.out _ _ trivial (fun _ => ?_)
    clear hK K
    (try simp only [Act.put, List.setIfInBounds_toArray, List.set_cons_zero, List.set_cons_succ, List.getElem_toArray, List.getElem_cons_zero, List.getElem_cons_succ])
    refine wpAnyH_ready (rs := [11]) (by kernel_rfl) (by simp) ?_
    refine AllReadyH.cons rfl (fun K hK => ?_) AllReadyH.nil
    go_simp
    refine (HN.out o1 m 8 w4 (Grew.trans ((Chg.refl _ _).drew) hg4) (by omega) (by omega) (by have := HO.out.1; omega)).mono ?_
    rintro e w5 ⟨A5, c5, rfl, ho5, hg5⟩
    refine hK.out _ _ trivial (fun _ => ?_)
    clear hK K
    (try simp only [Act.put, List.setIfInBounds_toArray, List.set_cons_zero, List.set_cons_succ, List.getElem_toArray, List.getElem_cons_zero, List.getElem_cons_succ])
    have H5 := Lib.hid (And.intro ho4 (And.intro hg4 (And.intro ho5 hg5)))
    clear ho4 hg4 ho5 hg5
    refine wpAnyH_take (i := 12) (v := ?_) rfl (by kernel_rfl) (by kernel_rfl) (by kernel_rfl) (fun _ _ _ h => h) (Or.inl ⟨by rfl, ?_⟩) hHeld ?_
    rotate_left
    · (intro w hSw; (try dsimp only at hSw); go_simp) <;> with_reducible rfl
    (try simp only [Act.put, List.setIfInBounds_toArray, List.set_cons_zero, List.set_cons_succ, List.getElem_toArray, List.getElem_cons_zero, List.getElem_cons_succ])
    refine wpAnyH_ready (rs := [13]) (by kernel_rfl) (by simp) ?_
    refine AllReadyH.cons rfl (fun K hK => ?_) AllReadyH.nil
    go_simp
    refine hK.out _ _ trivial (fun _ => ?_)
    clear hK K
    (try simp only [Act.put, List.setIfInBounds_toArray, List.set_cons_zero, List.set_cons_succ, List.getElem_toArray, List.getElem_cons_zero, List.getElem_cons_succ])
    refine wpAnyH_ready (rs := [14]) (by kernel_rfl) (by simp) ?_
    refine AllReadyH.cons rfl (fun K hK => ?_) AllReadyH.nil
    go_simp
    refine hK.out _ _ trivial (fun _ => ?_)
    clear hK K
    (try simp only [Act.put, List.setIfInBounds_toArray, List.set_cons_zero, List.set_cons_succ, List.getElem_toArray, List.getElem_cons_zero, List.getElem_cons_succ])
    refine wpAnyH_done (by kernel_rfl) ?_ _
    clear hHeld
    obtain ⟨W6, hW6⟩ : ∃ W, w5.alloc (.cells #[.int .i64 q, .slice A4 m c4, .slice A5 m c5, .slice none 0 0] 73) = W := ⟨_, rfl⟩
    rw [hW6]
    have hg14 : Grew w1 w4 := Grew.trans ((Chg.refl _ _).drew) H5.out.2.1
    have hg56 : Grew w5 W6 := hW6 ▸ (Chg.refl _ _).alloc _
    have hg16 : Grew w1 W6 := Grew.trans hg14 (Grew.trans H5.out.2.2.2 hg56)
    have hc6 : W6.cell? ⟨g, 0, none⟩ = some (.int .u8 2) := (hg16.cell (p := ⟨g, 0, none⟩) (H1.out.2.2.1.lt g rfl).2 id).trans hc0
    have hb6 : Blk W6 w5.heap.size 73 #[.int .i64 q, .slice A4 m c4, .slice A5 m c5, .slice none 0 0] := hW6 ▸ Blk.new _ _ _
    have hz6 : W6.heap.size = w5.heap.size + 1 := by subst hW6; simp
    have H6 := Lib.hid (And.intro hg14 (And.intro hg16 (And.intro hb6 (And.intro (Grew.trans H5.out.2.2.2 hg56) (And.intro hg56 hz6)))))
    have hgl1 := hg14.size
    have hgl2 := H5.out.2.2.2.size
    clear hW6 hg14 hg16 hg56 hc0 hc1 hz6
    obtain ⟨d0, e0, l0⟩ := hb6.facts
    clear hb6
    go_wp2_with fail
    refine (HN.out o2 (m + 1) 2 W6 H6.out.2.1 (by omega) (by omega) (by have := HO.out.2; omega)).mono ?_
    rintro e w7 ⟨A7, c7, rfl, ho7, hg7⟩
    have hb7 := H6.out.2.2.1.grew hg7
    clear d0 e0 l0 hc6
    obtain ⟨d0, e0, l0⟩ := hb7.facts
    have H7 := Lib.hid (And.intro hb7 (And.intro ho7 hg7))
    clear hb7 ho7 hg7
    go_wp2_with fail
    go_ret2
    obtain ⟨W8, hW8⟩ : ∃ W, w7.setCell ⟨w5.heap.size, 3, none⟩ (.slice A7 (m + 1) c7) = W := ⟨_, rfl⟩
    have hc8 : Chg (fun j => j = w5.heap.size) w7 W8 := hW8 ▸ (Chg.refl (fun j => j = w5.heap.size) w7).setCell (p := ⟨w5.heap.size, 3, none⟩) (fun _ => rfl) _
    have hz6 := H6.out.2.2.2.2.2
    have hz7 := H7.out.2.2.size
    have hz8 := hc8.size
    have hb8 := H7.out.1.put 3 (.slice A7 (m + 1) c7)
    rw [hW8] at hb8 ⊢
    have hp1 : 1 ≤ w1.heap.size := by have := tab_pos H1.out.1.gp.tab; exact this
    have hG8 : Grew w1 W8 := Chg.trans (Grew.trans H6.out.2.1 H7.out.2.2) hc8 fun i hi e => by omega
    have hnd := H1.out.2.2.2.2
    rw [if_pos trivial, HO.out.1, HO.out.2] at hnd
    have hr4 := own_rng H5.out.1
    have hr5 := own_rng H5.out.2.2.1
    have hr7 := own_rng H7.out.2.1
    have hpos : ∀ a ∈ numsL (bs.drop o2) (m + 1) 2, 0 ≤ a := fun a ha => by
      obtain ⟨i, hi, rfl⟩ := List.mem_map.1 ha
      have hi' := List.mem_range.1 hi
      exact (getL_2 (fun q hq => H1.out.2.2.2.1 q (List.mem_of_mem_drop (List.mem_of_mem_drop (List.mem_of_mem_take hq)))) (by
        have h1 := H1.out.2.2.1.1
        rw [bv_len] at h1
        have h2 := HO.out.2
        simp only [List.length_take, List.length_drop]
        omega)).1
    subst hnd
    refine ⟨w5.heap.size, _, rfl, nd_mk (s1 := w1.heap.size) (s2 := w4.heap.size) (s3 := w5.heap.size) (s4 := W6.heap.size) (s5 := w7.heap.size) (A1 := A4) (A2 := A5) (A3 := A7) (c1 := c4) (c2 := c5) (c3 := c7) ?_ ?_ ?_ ?_ hr4 hr5 hr7 (by omega) (by omega), fun j hj => ?_, H1.out.1.grew hG8, H1.out.2.1.grew hG8⟩
    · simpa [numsL_len] using hb8
    · have := own_base (own_chg (own_grew H5.out.1 (Grew.trans H6.out.2.2.2.1 H7.out.2.2)) hc8 fun g hg e => by obtain ⟨a, ha, rfl⟩ := own_at hg; have := hr4 a ha; omega) hp1
      simpa [numsL_len] using this
    · have := own_base (own_chg (own_grew H5.out.2.2.1 (Grew.trans H6.out.2.2.2.2.1 H7.out.2.2)) hc8 fun g hg e => by obtain ⟨a, ha, rfl⟩ := own_at hg; have := hr5 a ha; omega) (show 1 ≤ w4.heap.size by omega)
      simpa [numsL_len] using this
    · have := own_base (own_chg H7.out.2.1 hc8 fun g hg e => by obtain ⟨a, ha, rfl⟩ := own_at hg; have := hr7 a ha; omega) (show 1 ≤ W6.heap.size by omega)
      simp only [nv_toNat hpos]
      simpa [numsL_len] using this
    · have := H1.out.2.1.size; omega
end Go.Proofs.YtpkkcicaeldodaaGreatDoor

/- append(s, make([]T, k)...), s the call's own row: k zero values behind. No program stands in this text. -/
namespace Go.Proofs.YtpkkcicaeldodaaGreatDoor
open Go.RowKit

theorem zeroCells_list (z : Value) (hz : z.cells = #[z]) (k : Nat) : (Builtin.zeroCells z.cells k).toList = List.replicate k z := by
  rw [hz]
  refine List.eq_replicate_iff.2 ⟨by simp [Builtin.zeroCells], fun b hb => ?_⟩
  simp only [Builtin.zeroCells, Array.toList_map, List.mem_map] at hb
  obtain ⟨m, -, rfl⟩ := hb
  have : m % 1 = 0 := Nat.mod_one m
  simp [this]
theorem run_append_zeros_own {P : Program} (w : World) (base : Nat) (t tn ty e : TypeId) (i : TypeInfo) (z : Value) (kq kn : IntKind) (ht : P.underlying t = some (.slice e)) (htn : P.underlying tn = some (.int kn)) (hi : P.info? e = some i) (hz : i.zero = some z)
    (hsz : i.size = 1) (hby : i.bytes ≤ 8) (hzc : z.cells = #[z]) (hz1 : z.oneCell' = true) (g n c : Nat) (xs : List Value) (hown : w.ownsRow base e 1 (.slice (some ⟨g, 0, none⟩) n c) n xs) (k : Nat) (hk : n + k ≤ 1000000) (hb : base ≤ w.heap.size) :
    ∃ v' w', (Builtin.append_ #[t, tn] ty #[.slice (some ⟨g, 0, none⟩) n c, .int kq k]).run P w = .ok v' w' ∧ w'.ownsRow base e 1 v' (n + k) (xs ++ List.replicate k z) ∧ w.grownBy w' (some g) ∧ (v'.ownBlock = some g ∨ v'.ownBlock = some w.heap.size) := by
  obtain ⟨cur, hbg, hg, hnc, hcm, hcs, htake, hxl⟩ := own_row hown
  have hw : IntKind.i64.wrap (k : Int) = k := by rw [IntKind.wrap_i64]; omega
  have hneg : ¬ ((k : Int) < 0) := by omega
  have h48i : ¬ (281474976710656 < (k : Int) * (i.bytes : Int)) := by
    rw [← Int.natCast_mul]
    have : k * i.bytes ≤ k * 8 := Nat.mul_le_mul_left _ hby
    omega
  have hlen : (xs ++ List.replicate k z).length = (n + k) * 1 := by simp; omega
  by_cases hroom : n + k ≤ c
  · have hst := run_storeCells_at P g (n * i.size) e (List.replicate k z) 0 cur w hg (by simp [hsz]; omega) (fun v hv => by rw [(List.mem_replicate.1 hv).2]; exact hz1)
    simp only [Nat.add_zero] at hst
    have hzl := zeroCells_list z hzc k
    refine ⟨.slice (some ⟨g, 0, none⟩) (n + k) c, _, ?_, ⟨hlen, .inr ⟨g, c, _, rfl, hbg, setRow_heap w g cur (cur.toList.take n ++ List.replicate k z ++ cur.toList.drop (n + k)).toArray e _ hg, hroom, hcm, ?_, ?_⟩⟩, ⟨rfl, rfl, rfl, by simp, fun j _ hj => setRow_other w g j _ (fun e => hj (by simp [e]))⟩, .inl rfl⟩
    · by_cases h0 : k = 0
      · subst h0
        have hself := setRow_self w g cur e (0, 0) hg
        simp only [List.replicate_zero, List.append_nil, Nat.add_zero, List.take_append_drop, Array.toArray_toList, hself]
        have hw0 : IntKind.i64.wrap 0 = 0 := by decide
        simp [Builtin.append_, run_underlying ht, run_underlying htn, sizeOf, typeInfo, zeroValue, hi, hz, hsz, asInt, asIntOf, hw0, hnc, Addr.add_lit, storeCells]
      · have hns : ¬ (k * 1 = 0) := by omega
        rw [hsz, Nat.mul_one] at hst
        simp only [List.length_replicate] at hst
        simp [Builtin.append_, run_underlying ht, run_underlying htn, sizeOf, typeInfo, zeroValue, hi, hz, hsz, asInt, asIntOf, hw, hneg, h48i, hroom, h0, Addr.add_lit, hzl, hst]
    · simp only [List.size_toArray, List.length_append, List.length_take, List.length_drop, Array.length_toList, List.length_replicate]
      omega
    · rw [← hlen]
      have : cur.toList.take n = xs := by rw [← htake, Nat.mul_one]
      rw [this]
      simp only [List.append_assoc]
      rw [← List.append_assoc]
      exact List.take_left
  · have hr := Lib.run_append_grow_zeros (P := P) w t tn ty e i z kq kn ht htn hi hz (some ⟨g, 0, none⟩) n c xs
      (by rw [hsz]; exact run_firstCells_some (P := P) w.drew 1 n ⟨g, 0, none⟩ n c xs (by omega) (hown.cells (g := g) rfl)) k (by omega) (by omega) (by omega) (by omega)
      (by have : k * i.bytes ≤ k * 8 := Nat.mul_le_mul_left _ hby; omega) (growslice_fits (by omega) (by have : (n + k) * i.bytes ≤ (n + k) * 8 := Nat.mul_le_mul_left _ hby; omega))
    have hge := grownCap_ge w (n + k) c e
    have hcm' : grownCap w (n + k) c e ≤ maxLen := grownCap_le_maxLen w (n + k) c e (by simp only [maxLen]; omega)
    refine ⟨_, _, hr, ⟨hlen, .inr ⟨w.heap.size, _, _, rfl, hb, heap_alloc_new w.drew _, hge, hcm', ?_, ?_⟩⟩, ⟨rfl, rfl, rfl, by simp, fun j hj _ => heap_alloc_old w.drew _ hj⟩, .inr rfl⟩
    · simp only [Array.size_append, List.size_toArray, size_zeroCells, hzc]
      simp
      omega
    · rw [← hlen]
      simp only [Array.toList_append, zeroCells_list z hzc]
      exact List.take_left

theorem wpList_append_zeros {P : Program} {w : World} {ops : Array Oper} {rest : List Oper} {o : Oper} {a : Act} {Q : Exit → Act → World → Prop} (hgd : o.guard = none) (s x : Operand) (base : Nat) (t tn e : TypeId)
    (ho : o.op = .call { callee := .builtin .append, args := #[s, x], argTypes := #[t, tn] }) (i : TypeInfo) (z : Value) (kq kn : IntKind) (ht : P.underlying t = some (.slice e)) (htn : P.underlying tn = some (.int kn)) (hi : P.info? e = some i) (hz : i.zero = some z)
    (hsz : i.size = 1) (hby : i.bytes ≤ 8) (hzc : z.cells = #[z]) (hz1 : z.oneCell' = true) (v : Value) (n : Nat) (xs : List Value) (hown : w.ownsRow base e 1 v n xs) (hn0 : 0 < n) (k : Nat) (hk : n + k ≤ 1000000) (hb : base ≤ w.heap.size)
    (hs : a.eval s = v) (hx : a.eval x = .int kq k)
    (h : ∀ v' w', w'.ownsRow base e 1 v' (n + k) (xs ++ List.replicate k z) → w.grownBy w' v.ownBlock → (v'.ownBlock = v.ownBlock ∨ v'.ownBlock = some w.heap.size) → wpList P ops Q rest (a.put o.dst v') w') : wpList P ops Q (o :: rest) a w := by
  obtain ⟨A, c, rfl, -⟩ := own_shape hown
  obtain ⟨g, rfl, -⟩ := own_block hown hn0
  obtain ⟨v', w', hr, h1, h2, h3⟩ := run_append_zeros_own (P := P) w base t tn o.type e i z kq kn ht htn hi hz hsz hby hzc hz1 g n c xs hown k hk hb
  refine wpList_plain hgd fun _ hK => ?_
  unfold Oper.wp execOp
  simp only [ho, resolve, invoke, builtin, Sem.run_bind, Sem.run_pure, Result.andThen_ok, List.map_toArray, List.map_cons, List.map_nil, hs, hx, hr]
  exact hK _ _ (h v' w' h1 h2 h3)

end Go.Proofs.YtpkkcicaeldodaaGreatDoor

/- The tree: save. -/
namespace Go.Proofs.YtpkkcicaeldodaaGreatDoor
open Go.RowKit Go.Maps

theorem step_append_run2 {P : Program} {w : World} {ops : Array Oper} {o : Oper} {a : Act} {K : Act → World → Prop} {Q : Exit → Act → World → Prop} {E : Prop} (hgd : o.guard = none) (s x : Operand) (t t' : TypeId)
    (ho : o.op = .call { callee := .builtin .append, args := #[s, x], argTypes := #[t, t'] }) {sv xv v : Value} {w' : World} (hs : a.eval s = sv) (hx : a.eval x = xv)
    (hrun : (Builtin.append_ #[t, t'] o.type #[sv, xv]).run P w = .ok v w') (h : K (a.put o.dst v) w') : if Region.wanted o (yielded ops a.tmps) = true then Oper.wp P o a w K Q else E := by
  have hw : Region.wanted o (yielded ops a.tmps) = true := by simp [Region.wanted, hgd]
  rw [if_pos hw]
  unfold Oper.wp execOp
  simp only [ho, resolve, invoke, builtin, Sem.run_bind, Sem.run_pure, Result.andThen_ok, List.map_toArray, List.map_cons, List.map_nil, hs, hx, hrun]
  exact h

theorem enc8_snoc (l : List Int) (k : Nat) (a : Int) (h : l[k]? = some a) : enc8 (l.take (k + 1)) = enc8 (l.take k) ++ encL a 8 := by
  rw [List.take_add_one, h]; simp [enc8]
theorem enc2_snoc (l : List Nat) (k a : Nat) (h : l[k]? = some a) : enc2 (l.take (k + 1)) = enc2 (l.take k) ++ encL a 2 := by
  rw [List.take_add_one, h]; simp [enc2]
theorem bv_append (a b : List Int) : bv (a ++ b) = bv a ++ bv b := by simp [bv]
def ndHd (nd : Nd) : List Int := [if nd.kids.length = 0 then 1 else 2, ((nd.keys.length % 256 : Nat) : Int)]
/-- What stands behind the first j lists. -/
def ndSeg (nd : Nd) (j : Nat) : List Int := ndHd nd ++ (if 1 ≤ j then enc8 nd.keys else []) ++ (if 2 ≤ j then enc8 nd.vals else [])
theorem ndSeg_len (nd : Nd) (j : Nat) : (ndSeg nd j).length ≤ 2 + 8 * nd.keys.length + 8 * nd.vals.length := by
  unfold ndSeg
  split <;> split <;> simp [ndHd, enc8_len] <;> omega
/-- What lies there while a node is saved. -/
structure SavJ (w W : World) (t p root b q : Nat) (F N : Nat → Prop) (x : Rp) (nd : Nd) (lit : Nat) (Ak : Option Addr) (ck : Nat) (Av : Option Addr) (cv : Nat) (v : Value) (xs : List Int) : Prop where
  bt : BT W t p root F x
  na : NdAt W N b q nd
  gr : Grew w W
  row : W.ownsRow w.heap.size 5 1 v xs.length (bv xs)
  fl : Blk W lit 22 #[.slice Ak nd.keys.length ck, .slice Av nd.keys.length cv]
  ks : Sl W 1 Ak nd.keys.length (iv nd.keys)
  vs : Sl W 1 Av nd.keys.length (iv nd.vals)
  lt : (∀ a, Ak = some a → a.block < w.heap.size) ∧ (∀ a, Av = some a → a.block < w.heap.size) ∧ w.heap.size ≤ lit
section
variable {w W W' : World} {t p root b q lit : Nat} {F N : Nat → Prop} {x : Rp} {nd : Nd} {Ak Av : Option Addr} {ck cv : Nat} {v v' : Value} {xs ys : List Int}
theorem SavJ.ap (h : SavJ w W t p root b q F N x nd lit Ak ck Av cv v xs) (ha : Ap W W' v v') (ho : W'.ownsRow w.heap.size 5 1 v' ys.length (bv ys)) (hbt : ∀ j, F j → j < w.heap.size) (hN : ∀ j, N j → j < w.heap.size) (ht : t < w.heap.size) (h0 : 0 < w.heap.size) : SavJ w W' t p root b q F N x nd lit Ak ck Av cv v' ys := by
  have hge : ∀ j, v.ownBlock = some j → w.heap.size ≤ j := fun j hj => (h.row.lt j hj).1
  have hne := own_blk_ne h.row h.fl (by decide)
  obtain ⟨l1, l2, l3⟩ := h.lt
  exact ⟨h.bt.chg ha.chg (fun j hj e => by have := hge j e; have := hbt j hj; omega) (fun e => by have := hge _ e; omega) (fun e => by have := hge _ e; omega), h.na.chg ha.chg fun j hj e => by have := hge j e; have := hN j hj; omega, ha.grow h.gr hge, ho, h.fl.chg ha.chg hne, h.ks.chg ha.chg fun a e e2 => by have := l1 a e; have := hge _ e2; omega, h.vs.chg ha.chg fun a e e2 => by have := l2 a e; have := hge _ e2; omega, h.lt⟩
end

theorem SavJ.put {w W W' : World} {t p root b q lit : Nat} {F N : Nat → Prop} {x : Rp} {nd : Nd} {Ak Av : Option Addr} {ck cv k : Nat} {v v' : Value} {xs : List Int} {n : Int} (h : SavJ w W t p root b q F N x nd lit Ak ck Av cv v xs) (ha : Ap W W' v v') (ho : W'.ownsRow w.heap.size 5 1 v' (xs.length + k) (bv xs ++ bv (encL n k))) (hbt : ∀ j, F j → j < w.heap.size) (hN : ∀ j, N j → j < w.heap.size) (ht : t < w.heap.size) (h0 : 0 < w.heap.size) : SavJ w W' t p root b q F N x nd lit Ak ck Av cv v' (xs ++ encL n k) := by
  refine h.ap ha ?_ hbt hN ht h0
  rw [List.length_append, encL_len, bv_append]
  exact ho
/-- What the outer loop takes. -/
theorem SavJ.sel {w W : World} {t p root b q lit : Nat} {F N : Nat → Prop} {x : Rp} {nd : Nd} {Ak Av : Option Addr} {ck cv : Nat} {v : Value} {xs : List Int} (h : SavJ w W t p root b q F N x nd lit Ak ck Av cv v xs) (hv : nd.vals.length = nd.keys.length) (hk0 : Sl w 1 Ak nd.keys.length (iv nd.keys)) (hv0 : Sl w 1 Av nd.keys.length (iv nd.vals)) {j : Nat} (hj : j < 2) :
    ∃ A c l, W.cell? ⟨lit, j, none⟩ = some (.slice A nd.keys.length c) ∧ (∀ W', Grew w W' → Sl W' 1 A nd.keys.length (iv l)) ∧ ndSeg nd (j + 1) = ndSeg nd j ++ enc8 l ∧ l.length = nd.keys.length := by
  have hj2 : j = 0 ∨ j = 1 := by omega
  rcases hj2 with rfl | rfl
  · exact ⟨Ak, ck, nd.keys, h.fl.cell 0, fun W' hg => hk0.grew hg, by simp [ndSeg], rfl⟩
  · exact ⟨Av, cv, nd.vals, h.fl.cell 1, fun W' hg => hv0.grew hg, by simp [ndSeg], hv⟩
/-- What save leaves. -/
def SvOut (w w' : World) (t p root q : Nat) (F : Nat → Prop) (x : Rp) (c : Pk) (nd : Nd) (e : Ending) : Prop :=
  (e = .returned (.int .i64 0) ∧ BTTo w w' t p root F (x.put q (.new (ndL nd x.sz)))) ∨ (¬ (1 ≤ x.slack) ∧ c.isNew = false ∧ e = .returned (.int .i64 21) ∧ Grew w w')

set_option maxRecDepth 100000 in
set_option maxHeartbeats 3200000 in
theorem bsave_any (t p root b q0 : Nat) (F N : Nat → Prop) (x : Rp) (c : Pk) (nd : Nd) (w : World) (h : BT w t p root F x) (hn : NdAt w N b q0 nd) (hfit : nd.Fit x.sz) (ho : x.was ≠ none) (hi : x.now[q0]? = some c) (hu : c.used = true) (hbF0 : ¬ F b) :
    Calls Tryz.prog 37 #[.pointer (some ⟨t, 0, none⟩), .pointer (some ⟨b, 0, none⟩)] w fun e w' => SvOut w w' t p root q0 F x c nd e := by
  obtain ⟨Ak, ck, Av, cv, Ac, cc, h1, h2, h3, h4, h5, h6, h7, h8, h9⟩ := hn
  have hz := h.gp.szs
  have hkl : nd.keys.length ≤ 227 := by have := hfit.most; unfold mostN at this; omega
  have hvl := hfit.vals
  have hcl : nd.kids.length ≤ 228 := by have := hfit.kids; omega
  have HN := Lib.hid (And.intro (show NdAt w N b q0 nd from ⟨Ak, ck, Av, cv, Ac, cc, h1, h2, h3, h4, h5, h6, h7, h8, h9⟩) (And.intro h6 (And.intro h7 (And.intro h8 (And.intro h9 (And.intro h2 (And.intro (hfit.vals ▸ h3 : Sl w 1 Av nd.keys.length (iv nd.vals)) h4)))))))
  have H := Lib.hid (And.intro h (And.intro hfit (And.intro ho (And.intro hi hu))))
  rw [hvl] at h1 h3
  have h3' := h3
  obtain ⟨d0, f0, s0⟩ := h1.facts
  have HVl := Lib.hid hvl
  clear h h2 h3 h4 h5 h6 h7 h8 h9 hfit ho hi hu hvl
  have hlf : ∀ u, Grew w u → Calls Tryz.prog 41 #[.pointer (some ⟨b, 0, none⟩)] u fun e w' => e = .returned (.bool (decide (nd.kids.length = 0))) ∧ u = w' := fun u hg => leaf_any b q0 nd N u (HN.out.1.grew hg)
  have HLf := Lib.hid hlf
  have hmod : nd.keys.length % 256 = nd.keys.length := Nat.mod_eq_of_lt (by omega)
  have hw0 : 1 ≤ w.heap.size := tab_pos H.out.1.gp.tab
  obtain ⟨W0, hW0⟩ : ∃ W, w = W := ⟨_, rfl⟩
  have HW0 := Lib.hid hW0
  clear hlf hW0
  by_cases hl0 : nd.kids.length = 0
  · have t1 : decide (nd.kids.length = 0) = true := decide_eq_true hl0
    have hhd : ndHd nd = [1, (nd.keys.length : Int)] := by unfold ndHd; rw [hmod]; simp [hl0]
    have HHd := Lib.hid hhd
    clear hhd
    go_enter Tryz.func37, Tryz.ntmps37
    go_wp2_with (go_at_call 41; (refine (HLf.out w (Chg.refl _ _)).mono ?_); rintro e w1 ⟨rfl, rfl⟩)
    obtain ⟨W1, hW1⟩ : ∃ W, w.alloc (.cells #[.int .u8 1, .int .u8 nd.keys.length] 5) = W := ⟨_, rfl⟩
    rw [hW1]
    have hg1 : Grew w W1 := hW1 ▸ (Chg.refl _ _).alloc _
    have hr1 : W1.ownsRow w.heap.size 5 1 (.slice (some ⟨w.heap.size, 0, none⟩) 2 2) 2 (bv (ndSeg nd 0)) := by
      subst hW1
      have := World.ownsRow_lit w #[.int .u8 1, .int .u8 nd.keys.length] 2 (Nat.le_refl _) (by simp [maxLen]) (by simp) (e := 5) (size := 1) (base := w.heap.size)
      have e : bv (ndSeg nd 0) = [.int .u8 1, .int .u8 nd.keys.length] := by simp [ndSeg, HHd.out, bv]
      rw [e]
      simpa using this
    have hd1 : W1.drew.cell? ⟨b, 1, none⟩ = some (.slice Ak nd.keys.length ck) ∧ W1.drew.cell? ⟨b, 2, none⟩ = some (.slice Av nd.keys.length cv) := ⟨(hg1.cell (p := ⟨b, 1, none⟩) s0 id).trans (d0 1), (hg1.cell (p := ⟨b, 2, none⟩) s0 id).trans (d0 2)⟩
    have hs1 : W1.heap.size = w.heap.size + 1 := by subst hW1; simp
    refine wp_region_held_drew (S := fun w' => w'.cell? ⟨b, 1, none⟩ = some (.slice Ak nd.keys.length ck) ∧ w'.cell? ⟨b, 2, none⟩ = some (.slice Av nd.keys.length cv)) (by kernel_rfl) hd1 (fun hHeld => ?_)
    refine wpAnyH_take (i := 0) (v := ?_) rfl (by kernel_rfl) (by kernel_rfl) (by kernel_rfl) (fun _ _ _ h => h) (Or.inl ⟨by rfl, ?_⟩) hHeld ?_
    rotate_left
    · (intro w hSw; (try dsimp only at hSw); go_simp) <;> with_reducible rfl
    (try simp only [Act.put, List.setIfInBounds_toArray, List.set_cons_zero, List.set_cons_succ, List.getElem_toArray, List.getElem_cons_zero, List.getElem_cons_succ])
    refine wpAnyH_take (i := 1) (v := ?_) rfl (by kernel_rfl) (by kernel_rfl) (by kernel_rfl) (fun _ _ _ h => h) (Or.inl ⟨by rfl, ?_⟩) hHeld ?_
    rotate_left
    · (intro w hSw; (try dsimp only at hSw); go_simp) <;> with_reducible rfl
    (try simp only [Act.put, List.setIfInBounds_toArray, List.set_cons_zero, List.set_cons_succ, List.getElem_toArray, List.getElem_cons_zero, List.getElem_cons_succ])
    refine wpAnyH_take (i := 2) (v := ?_) rfl (by kernel_rfl) (by kernel_rfl) (by kernel_rfl) (fun _ _ _ h => h) (Or.inl ⟨by rfl, ?_⟩) hHeld ?_
    rotate_left
    · (intro w hSw; (try dsimp only at hSw); go_simp) <;> with_reducible rfl
    (try simp only [Act.put, List.setIfInBounds_toArray, List.set_cons_zero, List.set_cons_succ, List.getElem_toArray, List.getElem_cons_zero, List.getElem_cons_succ])
    refine wpAnyH_take (i := 3) (v := ?_) rfl (by kernel_rfl) (by kernel_rfl) (by kernel_rfl) (fun _ _ _ h => h) (Or.inl ⟨by rfl, ?_⟩) hHeld ?_
    rotate_left
    · (intro w hSw; (try dsimp only at hSw); go_simp) <;> with_reducible rfl
    (try simp only [Act.put, List.setIfInBounds_toArray, List.set_cons_zero, List.set_cons_succ, List.getElem_toArray, List.getElem_cons_zero, List.getElem_cons_succ])
    refine wpAnyH_take (i := 4) (v := ?_) rfl (by kernel_rfl) (by kernel_rfl) (by kernel_rfl) (fun _ _ _ h => h) (Or.inl ⟨by rfl, ?_⟩) hHeld ?_
    rotate_left
    · (intro w hSw; (try dsimp only at hSw); go_simp) <;> with_reducible rfl
    (try simp only [Act.put, List.setIfInBounds_toArray, List.set_cons_zero, List.set_cons_succ, List.getElem_toArray, List.getElem_cons_zero, List.getElem_cons_succ])
    refine wpAnyH_take (i := 5) (v := ?_) rfl (by kernel_rfl) (by kernel_rfl) (by kernel_rfl) (fun _ _ _ h => h) (Or.inl ⟨by rfl, ?_⟩) hHeld ?_
    rotate_left
    · (intro w hSw; (try dsimp only at hSw); go_simp) <;> with_reducible rfl
    (try simp only [Act.put, List.setIfInBounds_toArray, List.set_cons_zero, List.set_cons_succ, List.getElem_toArray, List.getElem_cons_zero, List.getElem_cons_succ])
    refine wpAnyH_take (i := 6) (v := ?_) rfl (by kernel_rfl) (by kernel_rfl) (by kernel_rfl) (fun _ _ _ h => h) (Or.inl ⟨by rfl, ?_⟩) hHeld ?_
    rotate_left
    · (intro w hSw; (try dsimp only at hSw); go_simp) <;> with_reducible rfl
    (try simp only [Act.put, List.setIfInBounds_toArray, List.set_cons_zero, List.set_cons_succ, List.getElem_toArray, List.getElem_cons_zero, List.getElem_cons_succ])
    refine wpAnyH_take (i := 7) (v := ?_) rfl (by kernel_rfl) (by kernel_rfl) (by kernel_rfl) (fun _ _ _ h => h) (Or.inl ⟨by rfl, ?_⟩) hHeld ?_
    rotate_left
    · (intro w hSw; (try dsimp only at hSw); go_simp) <;> with_reducible rfl
    (try simp only [Act.put, List.setIfInBounds_toArray, List.set_cons_zero, List.set_cons_succ, List.getElem_toArray, List.getElem_cons_zero, List.getElem_cons_succ])
    refine wpAnyH_take (i := 10) (v := ?_) rfl (by kernel_rfl) (by kernel_rfl) (by kernel_rfl) (fun _ _ _ h => h) (Or.inl ⟨by rfl, ?_⟩) hHeld ?_
    rotate_left
    · (intro w hSw; (try dsimp only at hSw); go_simp) <;> with_reducible rfl
    (try simp only [Act.put, List.setIfInBounds_toArray, List.set_cons_zero, List.set_cons_succ, List.getElem_toArray, List.getElem_cons_zero, List.getElem_cons_succ])
    refine wpAnyH_ready (rs := [8]) (by kernel_rfl) (by simp) ?_
    refine AllReadyH.cons rfl (fun K hK => ?_) AllReadyH.nil
    go_simp
    obtain ⟨W2, hW2⟩ : ∃ W, (W1.alloc (.cells #[.slice Ak nd.keys.length ck, .slice Av nd.keys.length cv] 22)).drew = W := ⟨_, rfl⟩
    rw [hW2]
    have hg2 : Grew W1 W2 := hW2 ▸ ((Chg.refl _ _).alloc _).drew
    have hd2 : W2.cell? ⟨b, 1, none⟩ = some (.slice Ak nd.keys.length ck) ∧ W2.cell? ⟨b, 2, none⟩ = some (.slice Av nd.keys.length cv) := ⟨(hg2.cell (p := ⟨b, 1, none⟩) (Nat.lt_of_lt_of_le s0 hg1.size) id).trans hd1.1, (hg2.cell (p := ⟨b, 2, none⟩) (Nat.lt_of_lt_of_le s0 hg1.size) id).trans hd1.2⟩
    have hbl : Blk W2 W1.heap.size 22 #[.slice Ak nd.keys.length ck, .slice Av nd.keys.length cv] := hW2 ▸ Blk.new _ _ _
    have hg12 := Grew.trans hg1 hg2
    have hJ : SavJ w W2 t p root b q0 F N x nd W1.heap.size Ak ck Av cv (.slice (some ⟨w.heap.size, 0, none⟩) 2 2) (ndSeg nd 0) := ⟨H.out.1.grew hg12, HN.out.1.grew hg12, hg12, by simpa [ndSeg, ndHd] using own_grew hr1 hg2, hbl, HN.out.2.2.2.2.2.1.grew hg12, HN.out.2.2.2.2.2.2.1.grew hg12, ⟨fun a ha => HN.out.2.2.2.2.1 _ (HN.out.2.1 a ha), fun a ha => HN.out.2.2.2.2.1 _ (HN.out.2.2.1 a ha), by omega⟩⟩
    have HJ := Lib.hid hJ
    refine hK.out _ _ hd2 (fun _ => ?_)
    clear hK K
    (try simp only [Act.put, List.setIfInBounds_toArray, List.set_cons_zero, List.set_cons_succ, List.getElem_toArray, List.getElem_cons_zero, List.getElem_cons_succ])
    refine wpAnyH_take (i := 9) (v := ?_) rfl (by kernel_rfl) (by kernel_rfl) (by kernel_rfl) (fun _ _ _ h => h) (Or.inl ⟨by rfl, ?_⟩) hd2 ?_
    rotate_left
    · (intro w hSw; (try dsimp only at hSw); go_simp) <;> with_reducible rfl
    (try simp only [Act.put, List.setIfInBounds_toArray, List.set_cons_zero, List.set_cons_succ, List.getElem_toArray, List.getElem_cons_zero, List.getElem_cons_succ])
    refine wpAnyH_done (by kernel_rfl) ?_ _
    clear hHeld hd1 hd2 hW2 hW1 hbl hJ hr1 hg1 hg2 hg12 d0 f0 s0
    obtain ⟨lit, hlit⟩ : ∃ l, w.heap.size + 1 = l := ⟨_, rfl⟩
    rw [hs1, hlit] at HJ
    rw [hlit]
    have hbF : ∀ j, F j → j < w.heap.size := H.out.1.gp.lt
    have hbt := H.out.1.blk.lt
    have HB := Lib.hid (And.intro hbF hbt)
    clear hlit hs1 hbF hbt
    go_wp2_with fail
    go_loopg [6, 33] 2 (fun q v i wr => ∃ (j : Nat), q = 2 - j ∧ j ≤ 2 ∧ i = .int .i64 j ∧ SavJ w wr t p root b q0 F N x nd lit Ak ck Av cv v (ndSeg nd j))
    case atStart => exact ⟨0, rfl, by omega, rfl, HJ.out⟩
    case round =>
      clear HJ
      obtain ⟨j, rfl, hj, rfl, hJ⟩ := hrel
      have HJ := Lib.hid hJ
      clear hJ
      by_cases hlt : j < 2
      · obtain ⟨Al, cl, lst, q1, q2, q3, q4⟩ := HJ.out.sel HVl.out HN.out.2.2.2.2.2.1 HN.out.2.2.2.2.2.2.1 hlt
        have HL := Lib.hid (And.intro q2 (And.intro q3 q4))
        clear q2 q3 q4
        have t2 : decide ((j : Int) < 2) = true := decide_eq_true (by omega)
        go_wp2_with fail
        have Hlt := Lib.hid (And.intro hlt hj)
        clear q1 hlt hj t2
        go_loopg [6, 39] nd.keys.length (fun q v i wr => ∃ (k : Nat), q = nd.keys.length - k ∧ k ≤ nd.keys.length ∧ i = .int .i64 k ∧ SavJ w wr t p root b q0 F N x nd lit Ak ck Av cv v (ndSeg nd j ++ enc8 (lst.take k)))
        case atStart => exact ⟨0, rfl, Nat.zero_le _, rfl, by simpa [enc8] using HJ.out⟩
        case round =>
          clear HJ
          obtain ⟨k, rfl, hk, rfl, hJ⟩ := hrel
          have HJ := Lib.hid hJ
          have hbw : w.heap.size ≤ wr.heap.size := hJ.gr.size
          clear hJ
          by_cases hlt2 : k < nd.keys.length
          · obtain ⟨a, ha⟩ : ∃ a, lst[k]? = some a := ⟨_, List.getElem?_eq_getElem (by rw [HL.out.2.2]; exact hlt2)⟩
            obtain ⟨gL, oL, rfl, -, hcL⟩ := (HL.out.1 wr HJ.out.gr).2 (by omega)
            have hca : wr.cell? ⟨gL, oL + k, none⟩ = some (.int .i64 a) := hcL k _ (by simp [iv, ha])
            have hxl : (ndSeg nd j ++ enc8 (lst.take k)).length ≤ 10000 := by
              have h1 := ndSeg_len nd j
              have h2 := HVl.out
              rw [List.length_append, enc8_len, List.length_take]
              omega
            have Ha := Lib.hid (And.intro ha hxl)
            clear ha hcL hxl
            go_wp2_with (go_at_call 83; (refine (bput_any w.heap.size _ (ndSeg nd j ++ enc8 (lst.take k)).length (bv (ndSeg nd j ++ enc8 (lst.take k))) a 8 wr hbw HJ.out.row (by have := Ha.out.2; omega) (by omega)).mono ?_); rintro e w3 ⟨v1, rfl, ho3, ha3⟩; have HO3 := Lib.hid (HJ.out.put ha3 ho3 HB.out.1 HN.out.2.2.2.2.1 HB.out.2 hw0); clear ho3 ha3)
            go_roundg (nd.keys.length - (k + 1))
            case measure => omega
            case rel => exact ⟨k + 1, rfl, by omega, by simp, by rw [enc8_snoc _ _ _ Ha.out.1, ← List.append_assoc]; exact HO3.out⟩
          · obtain rfl : k = nd.keys.length := by omega
            have HJ2 := Lib.hid (show SavJ w wr t p root b q0 F N x nd lit Ak ck Av cv u6 (ndSeg nd (j + 1)) from by
              have h1 := HJ.out
              rw [← HL.out.2.2, List.take_length, ← HL.out.2.1] at h1
              exact h1)
            clear HJ
            go_wp2_with fail
            go_roundg (2 - (j + 1))
            case measure => (have := Hlt.out.1; omega)
            case rel => exact ⟨j + 1, rfl, by have := Hlt.out.1; omega, by have := Hlt.out.1; rw [IntWalk.wrap64_in _ ⟨by omega, by omega⟩]; simp, HJ2.out⟩
      · obtain rfl : j = 2 := by omega
        clear hlt hj
        obtain ⟨d0, f0, s0⟩ := (h1.grew HJ.out.gr).facts
        go_wp2_with fail
        go_loopg [6, 53] nd.kids.length (fun q v i wr => ∃ (k : Nat), q = nd.kids.length - k ∧ k ≤ nd.kids.length ∧ i = .int .i64 k ∧ SavJ w wr t p root b q0 F N x nd lit Ak ck Av cv v (ndSeg nd 2 ++ enc2 (nd.kids.take k)))
        case atStart => exact ⟨0, rfl, Nat.zero_le _, rfl, by simpa [enc2] using HJ.out⟩
        case round =>
          clear HJ d0 f0 s0
          obtain ⟨k, rfl, hk, rfl, hJ⟩ := hrel
          have HJ := Lib.hid hJ
          have hbw : w.heap.size ≤ wr.heap.size := hJ.gr.size
          clear hJ
          have hxl : (ndSeg nd 2 ++ enc2 (nd.kids.take k)).length ≤ 10000 := by
            have h1 := ndSeg_len nd 2
            have h2 := HVl.out
            rw [List.length_append, enc2_len, List.length_take]
            omega
          have Hxl := Lib.hid hxl
          clear hxl
          by_cases hlt2 : k < nd.kids.length
          · exfalso; omega
          · obtain rfl : k = nd.kids.length := by omega
            clear hk hlt2
            have hbody : ndSeg nd 2 ++ enc2 (nd.kids.take nd.kids.length) = nd.body := by rw [List.take_length]; rfl
            rw [hbody] at HJ Hxl
            clear hbody
            have hfl := H.out.2.1.len hz.2.2.1
            obtain ⟨blen, hblen⟩ : ∃ n, nd.body.length = n := ⟨_, rfl⟩
            have hrow := HJ.out.row
            rw [hblen] at hfl hrow
            have hbpos : 0 < blen := by rw [← hblen, Nd.body_len]; omega
            obtain ⟨Ar, cr, rfl, -⟩ := own_shape hrow
            obtain ⟨gr, rfl, hgr⟩ := own_block hrow hbpos
            obtain ⟨d0, f0, s0⟩ := (h1.grew HJ.out.gr).facts
            have hS0 : wr.drew.cell? ⟨t, 0, none⟩ = some (.pointer (some ⟨p, 0, none⟩)) ∧ wr.drew.cell? ⟨b, 0, none⟩ = some (.int .i64 q0) := ⟨HJ.out.bt.blk.drew.cell 0, d0 0⟩
            have Hr := Lib.hid (And.intro hrow hblen)
            have hszb : x.sz ≤ 4096 ∧ 64 ≤ x.sz := ⟨hz.2.2.2.1, hz.2.2.1⟩
            clear hrow hblen d0 f0 s0
            obtain ⟨i0, hi0, hz0, hz1, hz2⟩ := info_parts u8Info_
            obtain ⟨pad, hpad⟩ : ∃ k, x.sz - blen = k := ⟨_, rfl⟩
            have e1 : IntKind.i64.wrap ((x.sz : Int) - (blen : Int)) = ((pad : Nat) : Int) := by rw [IntWalk.i64_in _ ⟨by omega, by omega⟩]; omega
            have hbp : blen + pad = x.sz := by omega
            obtain ⟨v2, w5, hr5, ho5, hg5, -⟩ := run_append_zeros_own (P := Tryz.prog) wr.drew w.heap.size 49 3 49 5 i0 (.int .u8 0) .i64 .i64 Tryz.underlying49 Tryz.underlying3 hi0 hz0 hz1 (by rw [hz2]; omega) rfl rfl gr blen cr (bv nd.body) (own_grew Hr.out.1 ((Chg.refl _ _).drew)) pad (by omega) (by have := HJ.out.gr.size; exact this)
            rw [hbp] at ho5
            obtain ⟨A2, c2, rfl, -⟩ := own_shape ho5
            have hgr2 : w.heap.size ≤ gr := (Hr.out.1.lt gr rfl).1
            have hnl : (ndL nd x.sz).length = x.sz := ndL_len H.out.2.1 hszb.2
            have ho5' : w5.ownsRow w.heap.size 5 1 (.slice A2 x.sz c2) x.sz (bv (ndL nd x.sz)) := by
              have e : bv (ndL nd x.sz) = bv nd.body ++ List.replicate pad (.int .u8 0) := by
                unfold ndL
                rw [Hr.out.2, hpad, bv_append]
                congr 1
                simp [bv]
              rw [e]
              exact ho5
            have hc5 : Chg (fun j => j = gr) wr w5 := ((Chg.refl (fun j => j = gr) wr).drew).grown hg5 fun k hk _ => by injection hk with hk; exact hk.symm
            have hS5 : w5.cell? ⟨t, 0, none⟩ = some (.pointer (some ⟨p, 0, none⟩)) ∧ w5.cell? ⟨b, 0, none⟩ = some (.int .i64 q0) := by
              have hb0 := HN.out.2.2.2.2.1 b
              have hbl := h1.lt
              have htl := HB.out.2
              exact ⟨(HJ.out.bt.blk.chg hc5 (by omega)).cell 0, ((h1.grew HJ.out.gr).chg hc5 (by omega)).cell 0⟩
            have hbt5 := HJ.out.bt.chg hc5 (fun j hj e => by have := HB.out.1 j hj; omega) (by omega) (by have := HB.out.2; omega)
            have hA2 : A2 ≠ none := by
              obtain ⟨g2, e, -⟩ := own_block ho5' (by omega)
              rw [e]; simp
            have hwr := gp_write_any p F x w5 q0 (ndL nd x.sz) A2 c2 c hbt5.gp H.out.2.2.1 H.out.2.2.2.1 H.out.2.2.2.2 hnl (ndL_byte nd x.sz) hA2 (by rw [hnl]; exact Sl.of_own ho5') (fun a ha e => by have := (own_rng ho5' a ha).1; have := HB.out.1 _ e; omega)
            rw [hnl] at hwr
            have HWr := Lib.hid (And.intro hwr (And.intro hbt5 (Chg.trans HJ.out.gr hc5 fun i hi e => by omega : Grew w w5)))
            clear hwr hbt5 ho5 ho5' hg5 hc5 hA2 hnl hpad hbp hi0 hz0 hz1 hz2 hgr2 hgr
            go_wp2_with fail
            refine wp_region_held_drew (S := fun w' => w'.cell? ⟨t, 0, none⟩ = some (.pointer (some ⟨p, 0, none⟩)) ∧ w'.cell? ⟨b, 0, none⟩ = some (.int .i64 q0)) (by kernel_rfl) hS0 (fun hHeld => ?_)
            refine wpAnyH_take (i := 0) (v := ?_) rfl (by kernel_rfl) (by kernel_rfl) (by kernel_rfl) (fun _ _ _ h => h) (Or.inl ⟨by rfl, ?_⟩) hHeld ?_
            rotate_left
            · (intro w hSw; (try dsimp only at hSw); go_simp) <;> with_reducible rfl
            (try simp only [Act.put, List.setIfInBounds_toArray, List.set_cons_zero, List.set_cons_succ, List.getElem_toArray, List.getElem_cons_zero, List.getElem_cons_succ])
            refine wpAnyH_take (i := 1) (v := ?_) rfl (by kernel_rfl) (by kernel_rfl) (by kernel_rfl) (fun _ _ _ h => h) (Or.inl ⟨by rfl, ?_⟩) hHeld ?_
            rotate_left
            · (intro w hSw; (try dsimp only at hSw); go_simp) <;> with_reducible rfl
            (try simp only [Act.put, List.setIfInBounds_toArray, List.set_cons_zero, List.set_cons_succ, List.getElem_toArray, List.getElem_cons_zero, List.getElem_cons_succ])
            refine wpAnyH_take (i := 2) (v := ?_) rfl (by kernel_rfl) (by kernel_rfl) (by kernel_rfl) (fun _ _ _ h => h) (Or.inl ⟨by rfl, ?_⟩) hHeld ?_
            rotate_left
            · (intro w hSw; (try dsimp only at hSw); go_simp) <;> with_reducible rfl
            (try simp only [Act.put, List.setIfInBounds_toArray, List.set_cons_zero, List.set_cons_succ, List.getElem_toArray, List.getElem_cons_zero, List.getElem_cons_succ])
            refine wpAnyH_take (i := 3) (v := ?_) rfl (by kernel_rfl) (by kernel_rfl) (by kernel_rfl) (fun _ _ _ h => h) (Or.inl ⟨by rfl, ?_⟩) hHeld ?_
            rotate_left
            · (intro w hSw; (try dsimp only at hSw); go_simp) <;> with_reducible rfl
            (try simp only [Act.put, List.setIfInBounds_toArray, List.set_cons_zero, List.set_cons_succ, List.getElem_toArray, List.getElem_cons_zero, List.getElem_cons_succ])
            refine wpAnyH_take (i := 4) (v := ?_) rfl (by kernel_rfl) (by kernel_rfl) (by kernel_rfl) (fun _ _ _ h => h) (Or.inl ⟨by rfl, ?_⟩) hHeld ?_
            rotate_left
            · (intro w hSw; (try dsimp only at hSw); go_simp) <;> with_reducible rfl
            (try simp only [Act.put, List.setIfInBounds_toArray, List.set_cons_zero, List.set_cons_succ, List.getElem_toArray, List.getElem_cons_zero, List.getElem_cons_succ])
            refine wpAnyH_take (i := 5) (v := ?_) rfl (by kernel_rfl) (by kernel_rfl) (by kernel_rfl) (fun _ _ _ h => h) (Or.inl ⟨by rfl, ?_⟩) hHeld ?_
            rotate_left
            · (intro w hSw; (try dsimp only at hSw); go_simp) <;> with_reducible rfl
            (try simp only [Act.put, List.setIfInBounds_toArray, List.set_cons_zero, List.set_cons_succ, List.getElem_toArray, List.getElem_cons_zero, List.getElem_cons_succ])
            refine wpAnyH_take (i := 6) (v := ?_) rfl (by kernel_rfl) (by kernel_rfl) (by kernel_rfl) (fun _ _ _ h => h) (Or.inl ⟨by rfl, ?_⟩) hHeld ?_
            rotate_left
            · (intro w hSw; (try dsimp only at hSw); go_simp) <;> with_reducible rfl
            (try simp only [Act.put, List.setIfInBounds_toArray, List.set_cons_zero, List.set_cons_succ, List.getElem_toArray, List.getElem_cons_zero, List.getElem_cons_succ])
            refine wpAnyH_take (i := 7) (v := ?_) rfl (by kernel_rfl) (by kernel_rfl) (by kernel_rfl) (fun _ _ _ h => h) (Or.inl ⟨by rfl, ?_⟩) hHeld ?_
            rotate_left
            · (intro w hSw; (try dsimp only at hSw); go_simp) <;> with_reducible rfl
            (try simp only [Act.put, List.setIfInBounds_toArray, List.set_cons_zero, List.set_cons_succ, List.getElem_toArray, List.getElem_cons_zero, List.getElem_cons_succ])
            refine wpAnyH_take (i := 8) (v := ?_) rfl (by kernel_rfl) (by kernel_rfl) (by kernel_rfl) (fun _ _ _ h => h) (Or.inl ⟨by rfl, ?_⟩) hHeld ?_
            rotate_left
            · (intro w hSw; (try dsimp only at hSw); go_simp) <;> with_reducible rfl
            (try simp only [Act.put, List.setIfInBounds_toArray, List.set_cons_zero, List.set_cons_succ, List.getElem_toArray, List.getElem_cons_zero, List.getElem_cons_succ])
            refine wpAnyH_take (i := 9) (v := ?_) rfl (by kernel_rfl) (by kernel_rfl) (by kernel_rfl) (fun _ _ _ h => h) (Or.inl ⟨by rfl, ?_⟩) hHeld ?_
            rotate_left
            · (intro w hSw; (try dsimp only at hSw); go_simp) <;> with_reducible rfl
            (try simp only [Act.put, List.setIfInBounds_toArray, List.set_cons_zero, List.set_cons_succ, List.getElem_toArray, List.getElem_cons_zero, List.getElem_cons_succ])
            refine wpAnyH_take (i := 10) (v := ?_) rfl (by kernel_rfl) (by kernel_rfl) (by kernel_rfl) (fun _ _ _ h => h) (Or.inl ⟨by rfl, ?_⟩) hHeld ?_
            rotate_left
            · (intro w hSw; (try dsimp only at hSw); go_simp) <;> with_reducible rfl
            (try simp only [Act.put, List.setIfInBounds_toArray, List.set_cons_zero, List.set_cons_succ, List.getElem_toArray, List.getElem_cons_zero, List.getElem_cons_succ])
            refine wpAnyH_take (i := 11) (v := ?_) rfl (by kernel_rfl) (by kernel_rfl) (by kernel_rfl) (fun _ _ _ h => h) (Or.inl ⟨by rfl, ?_⟩) hHeld ?_
            rotate_left
            · (intro w hSw; (try dsimp only at hSw); go_simp) <;> with_reducible rfl
            (try simp only [Act.put, List.setIfInBounds_toArray, List.set_cons_zero, List.set_cons_succ, List.getElem_toArray, List.getElem_cons_zero, List.getElem_cons_succ])
            refine wpAnyH_take (i := 12) (v := ?_) rfl (by kernel_rfl) (by kernel_rfl) (by kernel_rfl) (fun _ _ _ h => h) (Or.inl ⟨by rfl, ?_⟩) hHeld ?_
            rotate_left
            · (intro w hSw; (try dsimp only at hSw); go_simp) <;> with_reducible rfl
            (try simp only [Act.put, List.setIfInBounds_toArray, List.set_cons_zero, List.set_cons_succ, List.getElem_toArray, List.getElem_cons_zero, List.getElem_cons_succ])
            refine wpAnyH_take (i := 14) (v := ?_) rfl (by kernel_rfl) (by kernel_rfl) (by kernel_rfl) (fun _ _ _ h => h) (Or.inl ⟨by rfl, ?_⟩) hHeld ?_
            rotate_left
            · (intro w hSw; (try dsimp only at hSw); go_simp) <;> with_reducible rfl
            (try simp only [Act.put, List.setIfInBounds_toArray, List.set_cons_zero, List.set_cons_succ, List.getElem_toArray, List.getElem_cons_zero, List.getElem_cons_succ])
            refine wpAnyH_take (i := 15) (v := ?_) rfl (by kernel_rfl) (by kernel_rfl) (by kernel_rfl) (fun _ _ _ h => h) (Or.inl ⟨by rfl, ?_⟩) hHeld ?_
            rotate_left
            · (intro w hSw; (try dsimp only at hSw); go_simp) <;> with_reducible rfl
            (try simp only [Act.put, List.setIfInBounds_toArray, List.set_cons_zero, List.set_cons_succ, List.getElem_toArray, List.getElem_cons_zero, List.getElem_cons_succ])
            refine wpAnyH_ready (rs := [13]) (by kernel_rfl) (by simp) ?_
            refine AllReadyH.cons rfl (fun K hK => ?_) AllReadyH.nil
            go_simp
            refine (gp_size p F x _ (HJ.out.bt.gp.grew ((Chg.refl _ _).drew))).mono ?_
            rintro e w6 ⟨rfl, rfl⟩
            refine hK.out _ _ hS0 (fun _ => ?_)
            clear hK K
            (try simp only [Act.put, List.setIfInBounds_toArray, List.set_cons_zero, List.set_cons_succ, List.getElem_toArray, List.getElem_cons_zero, List.getElem_cons_succ])
            refine wpAnyH_take (i := 16) (v := ?_) rfl (by kernel_rfl) (by kernel_rfl) (by kernel_rfl) (fun _ _ _ h => h) (Or.inl ⟨by rfl, ?_⟩) hHeld ?_
            rotate_left
            · (intro w hSw; (try dsimp only at hSw); go_simp) <;> with_reducible rfl
            (try simp only [Act.put, List.setIfInBounds_toArray, List.set_cons_zero, List.set_cons_succ, List.getElem_toArray, List.getElem_cons_zero, List.getElem_cons_succ])
            refine wpAnyH_ready (rs := [17]) (by kernel_rfl) (by simp) ?_
            refine AllReadyH.cons rfl (fun K hK => ?_) AllReadyH.nil
            refine step_append_run2 (by rfl) (.tmp 69) (.tmp 77) 49 3 (by rfl) (by rfl) (by rfl) hr5 ?_
            refine hK.out _ _ hS5 (fun _ => ?_)
            clear hK K
            (try simp only [Act.put, List.setIfInBounds_toArray, List.set_cons_zero, List.set_cons_succ, List.getElem_toArray, List.getElem_cons_zero, List.getElem_cons_succ])
            refine wpAnyH_ready (rs := [18]) (by kernel_rfl) (by simp) ?_
            refine AllReadyH.cons rfl (fun K hK => ?_) AllReadyH.nil
            go_simp
            refine HWr.out.1.mono ?_
            clear hr5
            rintro e w7 (⟨rfl, hto⟩ | ⟨hns, hnw, rfl, hg7⟩)
            · have hto' := hto
              obtain ⟨F7, k1, k2, k3⟩ := hto'
              have hS7 : w7.cell? ⟨t, 0, none⟩ = some (.pointer (some ⟨p, 0, none⟩)) ∧ w7.cell? ⟨b, 0, none⟩ = some (.int .i64 q0) := ⟨(k2.cell (p := ⟨t, 0, none⟩) HWr.out.2.1.blk.lt HWr.out.2.1.nf).trans hS5.1, (k2.cell (p := ⟨b, 0, none⟩) (Nat.lt_of_lt_of_le h1.lt HWr.out.2.2.size) hbF0).trans hS5.2⟩
              have HTo := Lib.hid (And.intro (HWr.out.2.1.to hto) HWr.out.2.2)
              clear k1 k2 k3 hto
              refine hK.out _ _ hS7 (fun _ => ?_)
              clear hK K
              (try simp only [Act.put, List.setIfInBounds_toArray, List.set_cons_zero, List.set_cons_succ, List.getElem_toArray, List.getElem_cons_zero, List.getElem_cons_succ])
              refine wpAnyH_ready (rs := [19]) (by kernel_rfl) (by simp) ?_
              refine AllReadyH.cons rfl (fun K hK => ?_) AllReadyH.nil
              go_simp
              refine hK.out _ _ hS7 (fun _ => ?_)
              clear hK K
              (try simp only [Act.put, List.setIfInBounds_toArray, List.set_cons_zero, List.set_cons_succ, List.getElem_toArray, List.getElem_cons_zero, List.getElem_cons_succ])
              refine wpAnyH_done (by kernel_rfl) ?_ _
              clear hHeld hS0 hS5 hS7
              go_wp2_with fail
              go_ret
              exact .inl ⟨rfl, To.ahead HTo.out.2 HTo.out.1⟩
            · have hS7 : w7.cell? ⟨t, 0, none⟩ = some (.pointer (some ⟨p, 0, none⟩)) ∧ w7.cell? ⟨b, 0, none⟩ = some (.int .i64 q0) := ⟨(hg7.cell (p := ⟨t, 0, none⟩) HWr.out.2.1.blk.lt id).trans hS5.1, (hg7.cell (p := ⟨b, 0, none⟩) (Nat.lt_of_lt_of_le h1.lt HWr.out.2.2.size) id).trans hS5.2⟩
              have HTo := Lib.hid (And.intro (Grew.trans HWr.out.2.2 hg7) (And.intro hns hnw))
              clear hg7 hns hnw
              refine hK.out _ _ hS7 (fun _ => ?_)
              clear hK K
              (try simp only [Act.put, List.setIfInBounds_toArray, List.set_cons_zero, List.set_cons_succ, List.getElem_toArray, List.getElem_cons_zero, List.getElem_cons_succ])
              refine wpAnyH_ready (rs := [19]) (by kernel_rfl) (by simp) ?_
              refine AllReadyH.cons rfl (fun K hK => ?_) AllReadyH.nil
              go_simp
              refine hK.out _ _ hS7 (fun _ => ?_)
              clear hK K
              (try simp only [Act.put, List.setIfInBounds_toArray, List.set_cons_zero, List.set_cons_succ, List.getElem_toArray, List.getElem_cons_zero, List.getElem_cons_succ])
              refine wpAnyH_done (by kernel_rfl) ?_ _
              clear hHeld hS0 hS5 hS7
              go_wp2_with fail
              go_ret
              exact .inr ⟨by have := HTo.out.2.1; omega, HTo.out.2.2, rfl, HTo.out.1⟩
  · have t1 : decide (nd.kids.length = 0) = false := decide_eq_false hl0
    have hhd : ndHd nd = [2, (nd.keys.length : Int)] := by unfold ndHd; rw [hmod]; simp [hl0]
    have HHd := Lib.hid hhd
    clear hhd
    go_enter Tryz.func37, Tryz.ntmps37
    go_wp2_with (go_at_call 41; (refine (HLf.out w (Chg.refl _ _)).mono ?_); rintro e w1 ⟨rfl, rfl⟩)
    obtain ⟨W1, hW1⟩ : ∃ W, w.alloc (.cells #[.int .u8 2, .int .u8 nd.keys.length] 5) = W := ⟨_, rfl⟩
    rw [hW1]
    have hg1 : Grew w W1 := hW1 ▸ (Chg.refl _ _).alloc _
    have hr1 : W1.ownsRow w.heap.size 5 1 (.slice (some ⟨w.heap.size, 0, none⟩) 2 2) 2 (bv (ndSeg nd 0)) := by
      subst hW1
      have := World.ownsRow_lit w #[.int .u8 2, .int .u8 nd.keys.length] 2 (Nat.le_refl _) (by simp [maxLen]) (by simp) (e := 5) (size := 1) (base := w.heap.size)
      have e : bv (ndSeg nd 0) = [.int .u8 2, .int .u8 nd.keys.length] := by simp [ndSeg, HHd.out, bv]
      rw [e]
      simpa using this
    have hd1 : W1.drew.cell? ⟨b, 1, none⟩ = some (.slice Ak nd.keys.length ck) ∧ W1.drew.cell? ⟨b, 2, none⟩ = some (.slice Av nd.keys.length cv) := ⟨(hg1.cell (p := ⟨b, 1, none⟩) s0 id).trans (d0 1), (hg1.cell (p := ⟨b, 2, none⟩) s0 id).trans (d0 2)⟩
    have hs1 : W1.heap.size = w.heap.size + 1 := by subst hW1; simp
    refine wp_region_held_drew (S := fun w' => w'.cell? ⟨b, 1, none⟩ = some (.slice Ak nd.keys.length ck) ∧ w'.cell? ⟨b, 2, none⟩ = some (.slice Av nd.keys.length cv)) (by kernel_rfl) hd1 (fun hHeld => ?_)
    refine wpAnyH_take (i := 0) (v := ?_) rfl (by kernel_rfl) (by kernel_rfl) (by kernel_rfl) (fun _ _ _ h => h) (Or.inl ⟨by rfl, ?_⟩) hHeld ?_
    rotate_left
    · (intro w hSw; (try dsimp only at hSw); go_simp) <;> with_reducible rfl
    (try simp only [Act.put, List.setIfInBounds_toArray, List.set_cons_zero, List.set_cons_succ, List.getElem_toArray, List.getElem_cons_zero, List.getElem_cons_succ])
    refine wpAnyH_take (i := 1) (v := ?_) rfl (by kernel_rfl) (by kernel_rfl) (by kernel_rfl) (fun _ _ _ h => h) (Or.inl ⟨by rfl, ?_⟩) hHeld ?_
    rotate_left
    · (intro w hSw; (try dsimp only at hSw); go_simp) <;> with_reducible rfl
    (try simp only [Act.put, List.setIfInBounds_toArray, List.set_cons_zero, List.set_cons_succ, List.getElem_toArray, List.getElem_cons_zero, List.getElem_cons_succ])
    refine wpAnyH_take (i := 2) (v := ?_) rfl (by kernel_rfl) (by kernel_rfl) (by kernel_rfl) (fun _ _ _ h => h) (Or.inl ⟨by rfl, ?_⟩) hHeld ?_
    rotate_left
    · (intro w hSw; (try dsimp only at hSw); go_simp) <;> with_reducible rfl
    (try simp only [Act.put, List.setIfInBounds_toArray, List.set_cons_zero, List.set_cons_succ, List.getElem_toArray, List.getElem_cons_zero, List.getElem_cons_succ])
    refine wpAnyH_take (i := 3) (v := ?_) rfl (by kernel_rfl) (by kernel_rfl) (by kernel_rfl) (fun _ _ _ h => h) (Or.inl ⟨by rfl, ?_⟩) hHeld ?_
    rotate_left
    · (intro w hSw; (try dsimp only at hSw); go_simp) <;> with_reducible rfl
    (try simp only [Act.put, List.setIfInBounds_toArray, List.set_cons_zero, List.set_cons_succ, List.getElem_toArray, List.getElem_cons_zero, List.getElem_cons_succ])
    refine wpAnyH_take (i := 4) (v := ?_) rfl (by kernel_rfl) (by kernel_rfl) (by kernel_rfl) (fun _ _ _ h => h) (Or.inl ⟨by rfl, ?_⟩) hHeld ?_
    rotate_left
    · (intro w hSw; (try dsimp only at hSw); go_simp) <;> with_reducible rfl
    (try simp only [Act.put, List.setIfInBounds_toArray, List.set_cons_zero, List.set_cons_succ, List.getElem_toArray, List.getElem_cons_zero, List.getElem_cons_succ])
    refine wpAnyH_take (i := 5) (v := ?_) rfl (by kernel_rfl) (by kernel_rfl) (by kernel_rfl) (fun _ _ _ h => h) (Or.inl ⟨by rfl, ?_⟩) hHeld ?_
    rotate_left
    · (intro w hSw; (try dsimp only at hSw); go_simp) <;> with_reducible rfl
    (try simp only [Act.put, List.setIfInBounds_toArray, List.set_cons_zero, List.set_cons_succ, List.getElem_toArray, List.getElem_cons_zero, List.getElem_cons_succ])
    refine wpAnyH_take (i := 6) (v := ?_) rfl (by kernel_rfl) (by kernel_rfl) (by kernel_rfl) (fun _ _ _ h => h) (Or.inl ⟨by rfl, ?_⟩) hHeld ?_
    rotate_left
    · (intro w hSw; (try dsimp only at hSw); go_simp) <;> with_reducible rfl
    (try simp only [Act.put, List.setIfInBounds_toArray, List.set_cons_zero, List.set_cons_succ, List.getElem_toArray, List.getElem_cons_zero, List.getElem_cons_succ])
    refine wpAnyH_take (i := 7) (v := ?_) rfl (by kernel_rfl) (by kernel_rfl) (by kernel_rfl) (fun _ _ _ h => h) (Or.inl ⟨by rfl, ?_⟩) hHeld ?_
    rotate_left
    · (intro w hSw; (try dsimp only at hSw); go_simp) <;> with_reducible rfl
    (try simp only [Act.put, List.setIfInBounds_toArray, List.set_cons_zero, List.set_cons_succ, List.getElem_toArray, List.getElem_cons_zero, List.getElem_cons_succ])
    refine wpAnyH_take (i := 10) (v := ?_) rfl (by kernel_rfl) (by kernel_rfl) (by kernel_rfl) (fun _ _ _ h => h) (Or.inl ⟨by rfl, ?_⟩) hHeld ?_
    rotate_left
    · (intro w hSw; (try dsimp only at hSw); go_simp) <;> with_reducible rfl
    (try simp only [Act.put, List.setIfInBounds_toArray, List.set_cons_zero, List.set_cons_succ, List.getElem_toArray, List.getElem_cons_zero, List.getElem_cons_succ])
    refine wpAnyH_ready (rs := [8]) (by kernel_rfl) (by simp) ?_
    refine AllReadyH.cons rfl (fun K hK => ?_) AllReadyH.nil
    go_simp
    obtain ⟨W2, hW2⟩ : ∃ W, (W1.alloc (.cells #[.slice Ak nd.keys.length ck, .slice Av nd.keys.length cv] 22)).drew = W := ⟨_, rfl⟩
    rw [hW2]
    have hg2 : Grew W1 W2 := hW2 ▸ ((Chg.refl _ _).alloc _).drew
    have hd2 : W2.cell? ⟨b, 1, none⟩ = some (.slice Ak nd.keys.length ck) ∧ W2.cell? ⟨b, 2, none⟩ = some (.slice Av nd.keys.length cv) := ⟨(hg2.cell (p := ⟨b, 1, none⟩) (Nat.lt_of_lt_of_le s0 hg1.size) id).trans hd1.1, (hg2.cell (p := ⟨b, 2, none⟩) (Nat.lt_of_lt_of_le s0 hg1.size) id).trans hd1.2⟩
    have hbl : Blk W2 W1.heap.size 22 #[.slice Ak nd.keys.length ck, .slice Av nd.keys.length cv] := hW2 ▸ Blk.new _ _ _
    have hg12 := Grew.trans hg1 hg2
    have hJ : SavJ w W2 t p root b q0 F N x nd W1.heap.size Ak ck Av cv (.slice (some ⟨w.heap.size, 0, none⟩) 2 2) (ndSeg nd 0) := ⟨H.out.1.grew hg12, HN.out.1.grew hg12, hg12, by simpa [ndSeg, ndHd] using own_grew hr1 hg2, hbl, HN.out.2.2.2.2.2.1.grew hg12, HN.out.2.2.2.2.2.2.1.grew hg12, ⟨fun a ha => HN.out.2.2.2.2.1 _ (HN.out.2.1 a ha), fun a ha => HN.out.2.2.2.2.1 _ (HN.out.2.2.1 a ha), by omega⟩⟩
    have HJ := Lib.hid hJ
    refine hK.out _ _ hd2 (fun _ => ?_)
    clear hK K
    (try simp only [Act.put, List.setIfInBounds_toArray, List.set_cons_zero, List.set_cons_succ, List.getElem_toArray, List.getElem_cons_zero, List.getElem_cons_succ])
    refine wpAnyH_take (i := 9) (v := ?_) rfl (by kernel_rfl) (by kernel_rfl) (by kernel_rfl) (fun _ _ _ h => h) (Or.inl ⟨by rfl, ?_⟩) hd2 ?_
    rotate_left
    · (intro w hSw; (try dsimp only at hSw); go_simp) <;> with_reducible rfl
    (try simp only [Act.put, List.setIfInBounds_toArray, List.set_cons_zero, List.set_cons_succ, List.getElem_toArray, List.getElem_cons_zero, List.getElem_cons_succ])
    refine wpAnyH_done (by kernel_rfl) ?_ _
    clear hHeld hd1 hd2 hW2 hW1 hbl hJ hr1 hg1 hg2 hg12 d0 f0 s0
    obtain ⟨lit, hlit⟩ : ∃ l, w.heap.size + 1 = l := ⟨_, rfl⟩
    rw [hs1, hlit] at HJ
    rw [hlit]
    have hbF : ∀ j, F j → j < w.heap.size := H.out.1.gp.lt
    have hbt := H.out.1.blk.lt
    have HB := Lib.hid (And.intro hbF hbt)
    clear hlit hs1 hbF hbt
    go_wp2_with fail
    go_loopg [6, 33] 2 (fun q v i wr => ∃ (j : Nat), q = 2 - j ∧ j ≤ 2 ∧ i = .int .i64 j ∧ SavJ w wr t p root b q0 F N x nd lit Ak ck Av cv v (ndSeg nd j))
    case atStart => exact ⟨0, rfl, by omega, rfl, HJ.out⟩
    case round =>
      clear HJ
      obtain ⟨j, rfl, hj, rfl, hJ⟩ := hrel
      have HJ := Lib.hid hJ
      clear hJ
      by_cases hlt : j < 2
      · obtain ⟨Al, cl, lst, q1, q2, q3, q4⟩ := HJ.out.sel HVl.out HN.out.2.2.2.2.2.1 HN.out.2.2.2.2.2.2.1 hlt
        have HL := Lib.hid (And.intro q2 (And.intro q3 q4))
        clear q2 q3 q4
        have t2 : decide ((j : Int) < 2) = true := decide_eq_true (by omega)
        go_wp2_with fail
        have Hlt := Lib.hid (And.intro hlt hj)
        clear q1 hlt hj t2
        go_loopg [6, 39] nd.keys.length (fun q v i wr => ∃ (k : Nat), q = nd.keys.length - k ∧ k ≤ nd.keys.length ∧ i = .int .i64 k ∧ SavJ w wr t p root b q0 F N x nd lit Ak ck Av cv v (ndSeg nd j ++ enc8 (lst.take k)))
        case atStart => exact ⟨0, rfl, Nat.zero_le _, rfl, by simpa [enc8] using HJ.out⟩
        case round =>
          clear HJ
          obtain ⟨k, rfl, hk, rfl, hJ⟩ := hrel
          have HJ := Lib.hid hJ
          have hbw : w.heap.size ≤ wr.heap.size := hJ.gr.size
          clear hJ
          by_cases hlt2 : k < nd.keys.length
          · obtain ⟨a, ha⟩ : ∃ a, lst[k]? = some a := ⟨_, List.getElem?_eq_getElem (by rw [HL.out.2.2]; exact hlt2)⟩
            obtain ⟨gL, oL, rfl, -, hcL⟩ := (HL.out.1 wr HJ.out.gr).2 (by omega)
            have hca : wr.cell? ⟨gL, oL + k, none⟩ = some (.int .i64 a) := hcL k _ (by simp [iv, ha])
            have hxl : (ndSeg nd j ++ enc8 (lst.take k)).length ≤ 10000 := by
              have h1 := ndSeg_len nd j
              have h2 := HVl.out
              rw [List.length_append, enc8_len, List.length_take]
              omega
            have Ha := Lib.hid (And.intro ha hxl)
            clear ha hcL hxl
            go_wp2_with (go_at_call 83; (refine (bput_any w.heap.size _ (ndSeg nd j ++ enc8 (lst.take k)).length (bv (ndSeg nd j ++ enc8 (lst.take k))) a 8 wr hbw HJ.out.row (by have := Ha.out.2; omega) (by omega)).mono ?_); rintro e w3 ⟨v1, rfl, ho3, ha3⟩; have HO3 := Lib.hid (HJ.out.put ha3 ho3 HB.out.1 HN.out.2.2.2.2.1 HB.out.2 hw0); clear ho3 ha3)
            go_roundg (nd.keys.length - (k + 1))
            case measure => omega
            case rel => exact ⟨k + 1, rfl, by omega, by simp, by rw [enc8_snoc _ _ _ Ha.out.1, ← List.append_assoc]; exact HO3.out⟩
          · obtain rfl : k = nd.keys.length := by omega
            have HJ2 := Lib.hid (show SavJ w wr t p root b q0 F N x nd lit Ak ck Av cv u6 (ndSeg nd (j + 1)) from by
              have h1 := HJ.out
              rw [← HL.out.2.2, List.take_length, ← HL.out.2.1] at h1
              exact h1)
            clear HJ
            go_wp2_with fail
            go_roundg (2 - (j + 1))
            case measure => (have := Hlt.out.1; omega)
            case rel => exact ⟨j + 1, rfl, by have := Hlt.out.1; omega, by have := Hlt.out.1; rw [IntWalk.wrap64_in _ ⟨by omega, by omega⟩]; simp, HJ2.out⟩
      · obtain rfl : j = 2 := by omega
        clear hlt hj
        obtain ⟨d0, f0, s0⟩ := (h1.grew HJ.out.gr).facts
        go_wp2_with fail
        go_loopg [6, 53] nd.kids.length (fun q v i wr => ∃ (k : Nat), q = nd.kids.length - k ∧ k ≤ nd.kids.length ∧ i = .int .i64 k ∧ SavJ w wr t p root b q0 F N x nd lit Ak ck Av cv v (ndSeg nd 2 ++ enc2 (nd.kids.take k)))
        case atStart => exact ⟨0, rfl, Nat.zero_le _, rfl, by simpa [enc2] using HJ.out⟩
        case round =>
          clear HJ d0 f0 s0
          obtain ⟨k, rfl, hk, rfl, hJ⟩ := hrel
          have HJ := Lib.hid hJ
          have hbw : w.heap.size ≤ wr.heap.size := hJ.gr.size
          clear hJ
          have hxl : (ndSeg nd 2 ++ enc2 (nd.kids.take k)).length ≤ 10000 := by
            have h1 := ndSeg_len nd 2
            have h2 := HVl.out
            rw [List.length_append, enc2_len, List.length_take]
            omega
          have Hxl := Lib.hid hxl
          clear hxl
          by_cases hlt2 : k < nd.kids.length
          · obtain ⟨a, ha⟩ : ∃ a, nd.kids[k]? = some a := ⟨_, List.getElem?_eq_getElem hlt2⟩
            obtain ⟨gL, oL, rfl, -, hcL⟩ := (HN.out.2.2.2.2.2.2.2.grew HJ.out.gr).2 (by omega)
            have hca : wr.cell? ⟨gL, oL + k, none⟩ = some (.int .i64 a) := hcL k _ (by simp [nv, ha])
            have Ha := Lib.hid ha
            clear ha hcL
            go_wp2_with (go_at_call 83; (refine (bput_any w.heap.size _ (ndSeg nd 2 ++ enc2 (nd.kids.take k)).length (bv (ndSeg nd 2 ++ enc2 (nd.kids.take k))) a 2 wr hbw HJ.out.row (by have := Hxl.out; omega) (by omega)).mono ?_); rintro e w3 ⟨v1, rfl, ho3, ha3⟩; have HO3 := Lib.hid (HJ.out.put ha3 ho3 HB.out.1 HN.out.2.2.2.2.1 HB.out.2 hw0); clear ho3 ha3)
            go_roundg (nd.kids.length - (k + 1))
            case measure => (first | done | omega)
            case rel => exact ⟨k + 1, rfl, by omega, by simp, by rw [enc2_snoc _ _ _ Ha.out, ← List.append_assoc]; exact HO3.out⟩
          · obtain rfl : k = nd.kids.length := by omega
            clear hk hlt2
            have hbody : ndSeg nd 2 ++ enc2 (nd.kids.take nd.kids.length) = nd.body := by rw [List.take_length]; rfl
            rw [hbody] at HJ Hxl
            clear hbody
            have hfl := H.out.2.1.len hz.2.2.1
            obtain ⟨blen, hblen⟩ : ∃ n, nd.body.length = n := ⟨_, rfl⟩
            have hrow := HJ.out.row
            rw [hblen] at hfl hrow
            have hbpos : 0 < blen := by rw [← hblen, Nd.body_len]; omega
            obtain ⟨Ar, cr, rfl, -⟩ := own_shape hrow
            obtain ⟨gr, rfl, hgr⟩ := own_block hrow hbpos
            obtain ⟨d0, f0, s0⟩ := (h1.grew HJ.out.gr).facts
            have hS0 : wr.drew.cell? ⟨t, 0, none⟩ = some (.pointer (some ⟨p, 0, none⟩)) ∧ wr.drew.cell? ⟨b, 0, none⟩ = some (.int .i64 q0) := ⟨HJ.out.bt.blk.drew.cell 0, d0 0⟩
            have Hr := Lib.hid (And.intro hrow hblen)
            have hszb : x.sz ≤ 4096 ∧ 64 ≤ x.sz := ⟨hz.2.2.2.1, hz.2.2.1⟩
            clear hrow hblen d0 f0 s0
            obtain ⟨i0, hi0, hz0, hz1, hz2⟩ := info_parts u8Info_
            obtain ⟨pad, hpad⟩ : ∃ k, x.sz - blen = k := ⟨_, rfl⟩
            have e1 : IntKind.i64.wrap ((x.sz : Int) - (blen : Int)) = ((pad : Nat) : Int) := by rw [IntWalk.i64_in _ ⟨by omega, by omega⟩]; omega
            have hbp : blen + pad = x.sz := by omega
            obtain ⟨v2, w5, hr5, ho5, hg5, -⟩ := run_append_zeros_own (P := Tryz.prog) wr.drew w.heap.size 49 3 49 5 i0 (.int .u8 0) .i64 .i64 Tryz.underlying49 Tryz.underlying3 hi0 hz0 hz1 (by rw [hz2]; omega) rfl rfl gr blen cr (bv nd.body) (own_grew Hr.out.1 ((Chg.refl _ _).drew)) pad (by omega) (by have := HJ.out.gr.size; exact this)
            rw [hbp] at ho5
            obtain ⟨A2, c2, rfl, -⟩ := own_shape ho5
            have hgr2 : w.heap.size ≤ gr := (Hr.out.1.lt gr rfl).1
            have hnl : (ndL nd x.sz).length = x.sz := ndL_len H.out.2.1 hszb.2
            have ho5' : w5.ownsRow w.heap.size 5 1 (.slice A2 x.sz c2) x.sz (bv (ndL nd x.sz)) := by
              have e : bv (ndL nd x.sz) = bv nd.body ++ List.replicate pad (.int .u8 0) := by
                unfold ndL
                rw [Hr.out.2, hpad, bv_append]
                congr 1
                simp [bv]
              rw [e]
              exact ho5
            have hc5 : Chg (fun j => j = gr) wr w5 := ((Chg.refl (fun j => j = gr) wr).drew).grown hg5 fun k hk _ => by injection hk with hk; exact hk.symm
            have hS5 : w5.cell? ⟨t, 0, none⟩ = some (.pointer (some ⟨p, 0, none⟩)) ∧ w5.cell? ⟨b, 0, none⟩ = some (.int .i64 q0) := by
              have hb0 := HN.out.2.2.2.2.1 b
              have hbl := h1.lt
              have htl := HB.out.2
              exact ⟨(HJ.out.bt.blk.chg hc5 (by omega)).cell 0, ((h1.grew HJ.out.gr).chg hc5 (by omega)).cell 0⟩
            have hbt5 := HJ.out.bt.chg hc5 (fun j hj e => by have := HB.out.1 j hj; omega) (by omega) (by have := HB.out.2; omega)
            have hA2 : A2 ≠ none := by
              obtain ⟨g2, e, -⟩ := own_block ho5' (by omega)
              rw [e]; simp
            have hwr := gp_write_any p F x w5 q0 (ndL nd x.sz) A2 c2 c hbt5.gp H.out.2.2.1 H.out.2.2.2.1 H.out.2.2.2.2 hnl (ndL_byte nd x.sz) hA2 (by rw [hnl]; exact Sl.of_own ho5') (fun a ha e => by have := (own_rng ho5' a ha).1; have := HB.out.1 _ e; omega)
            rw [hnl] at hwr
            have HWr := Lib.hid (And.intro hwr (And.intro hbt5 (Chg.trans HJ.out.gr hc5 fun i hi e => by omega : Grew w w5)))
            clear hwr hbt5 ho5 ho5' hg5 hc5 hA2 hnl hpad hbp hi0 hz0 hz1 hz2 hgr2 hgr
            go_wp2_with fail
            refine wp_region_held_drew (S := fun w' => w'.cell? ⟨t, 0, none⟩ = some (.pointer (some ⟨p, 0, none⟩)) ∧ w'.cell? ⟨b, 0, none⟩ = some (.int .i64 q0)) (by kernel_rfl) hS0 (fun hHeld => ?_)
            refine wpAnyH_take (i := 0) (v := ?_) rfl (by kernel_rfl) (by kernel_rfl) (by kernel_rfl) (fun _ _ _ h => h) (Or.inl ⟨by rfl, ?_⟩) hHeld ?_
            rotate_left
            · (intro w hSw; (try dsimp only at hSw); go_simp) <;> with_reducible rfl
            (try simp only [Act.put, List.setIfInBounds_toArray, List.set_cons_zero, List.set_cons_succ, List.getElem_toArray, List.getElem_cons_zero, List.getElem_cons_succ])
            refine wpAnyH_take (i := 1) (v := ?_) rfl (by kernel_rfl) (by kernel_rfl) (by kernel_rfl) (fun _ _ _ h => h) (Or.inl ⟨by rfl, ?_⟩) hHeld ?_
            rotate_left
            · (intro w hSw; (try dsimp only at hSw); go_simp) <;> with_reducible rfl
            (try simp only [Act.put, List.setIfInBounds_toArray, List.set_cons_zero, List.set_cons_succ, List.getElem_toArray, List.getElem_cons_zero, List.getElem_cons_succ])
            refine wpAnyH_take (i := 2) (v := ?_) rfl (by kernel_rfl) (by kernel_rfl) (by kernel_rfl) (fun _ _ _ h => h) (Or.inl ⟨by rfl, ?_⟩) hHeld ?_
            rotate_left
            · (intro w hSw; (try dsimp only at hSw); go_simp) <;> with_reducible rfl
            (try simp only [Act.put, List.setIfInBounds_toArray, List.set_cons_zero, List.set_cons_succ, List.getElem_toArray, List.getElem_cons_zero, List.getElem_cons_succ])
            refine wpAnyH_take (i := 3) (v := ?_) rfl (by kernel_rfl) (by kernel_rfl) (by kernel_rfl) (fun _ _ _ h => h) (Or.inl ⟨by rfl, ?_⟩) hHeld ?_
            rotate_left
            · (intro w hSw; (try dsimp only at hSw); go_simp) <;> with_reducible rfl
            (try simp only [Act.put, List.setIfInBounds_toArray, List.set_cons_zero, List.set_cons_succ, List.getElem_toArray, List.getElem_cons_zero, List.getElem_cons_succ])
            refine wpAnyH_take (i := 4) (v := ?_) rfl (by kernel_rfl) (by kernel_rfl) (by kernel_rfl) (fun _ _ _ h => h) (Or.inl ⟨by rfl, ?_⟩) hHeld ?_
            rotate_left
            · (intro w hSw; (try dsimp only at hSw); go_simp) <;> with_reducible rfl
            (try simp only [Act.put, List.setIfInBounds_toArray, List.set_cons_zero, List.set_cons_succ, List.getElem_toArray, List.getElem_cons_zero, List.getElem_cons_succ])
            refine wpAnyH_take (i := 5) (v := ?_) rfl (by kernel_rfl) (by kernel_rfl) (by kernel_rfl) (fun _ _ _ h => h) (Or.inl ⟨by rfl, ?_⟩) hHeld ?_
            rotate_left
            · (intro w hSw; (try dsimp only at hSw); go_simp) <;> with_reducible rfl
            (try simp only [Act.put, List.setIfInBounds_toArray, List.set_cons_zero, List.set_cons_succ, List.getElem_toArray, List.getElem_cons_zero, List.getElem_cons_succ])
            refine wpAnyH_take (i := 6) (v := ?_) rfl (by kernel_rfl) (by kernel_rfl) (by kernel_rfl) (fun _ _ _ h => h) (Or.inl ⟨by rfl, ?_⟩) hHeld ?_
            rotate_left
            · (intro w hSw; (try dsimp only at hSw); go_simp) <;> with_reducible rfl
            (try simp only [Act.put, List.setIfInBounds_toArray, List.set_cons_zero, List.set_cons_succ, List.getElem_toArray, List.getElem_cons_zero, List.getElem_cons_succ])
            refine wpAnyH_take (i := 7) (v := ?_) rfl (by kernel_rfl) (by kernel_rfl) (by kernel_rfl) (fun _ _ _ h => h) (Or.inl ⟨by rfl, ?_⟩) hHeld ?_
            rotate_left
            · (intro w hSw; (try dsimp only at hSw); go_simp) <;> with_reducible rfl
            (try simp only [Act.put, List.setIfInBounds_toArray, List.set_cons_zero, List.set_cons_succ, List.getElem_toArray, List.getElem_cons_zero, List.getElem_cons_succ])
            refine wpAnyH_take (i := 8) (v := ?_) rfl (by kernel_rfl) (by kernel_rfl) (by kernel_rfl) (fun _ _ _ h => h) (Or.inl ⟨by rfl, ?_⟩) hHeld ?_
            rotate_left
            · (intro w hSw; (try dsimp only at hSw); go_simp) <;> with_reducible rfl
            (try simp only [Act.put, List.setIfInBounds_toArray, List.set_cons_zero, List.set_cons_succ, List.getElem_toArray, List.getElem_cons_zero, List.getElem_cons_succ])
            refine wpAnyH_take (i := 9) (v := ?_) rfl (by kernel_rfl) (by kernel_rfl) (by kernel_rfl) (fun _ _ _ h => h) (Or.inl ⟨by rfl, ?_⟩) hHeld ?_
            rotate_left
            · (intro w hSw; (try dsimp only at hSw); go_simp) <;> with_reducible rfl
            (try simp only [Act.put, List.setIfInBounds_toArray, List.set_cons_zero, List.set_cons_succ, List.getElem_toArray, List.getElem_cons_zero, List.getElem_cons_succ])
            refine wpAnyH_take (i := 10) (v := ?_) rfl (by kernel_rfl) (by kernel_rfl) (by kernel_rfl) (fun _ _ _ h => h) (Or.inl ⟨by rfl, ?_⟩) hHeld ?_
            rotate_left
            · (intro w hSw; (try dsimp only at hSw); go_simp) <;> with_reducible rfl
            (try simp only [Act.put, List.setIfInBounds_toArray, List.set_cons_zero, List.set_cons_succ, List.getElem_toArray, List.getElem_cons_zero, List.getElem_cons_succ])
            refine wpAnyH_take (i := 11) (v := ?_) rfl (by kernel_rfl) (by kernel_rfl) (by kernel_rfl) (fun _ _ _ h => h) (Or.inl ⟨by rfl, ?_⟩) hHeld ?_
            rotate_left
            · (intro w hSw; (try dsimp only at hSw); go_simp) <;> with_reducible rfl
            (try simp only [Act.put, List.setIfInBounds_toArray, List.set_cons_zero, List.set_cons_succ, List.getElem_toArray, List.getElem_cons_zero, List.getElem_cons_succ])
            refine wpAnyH_take (i := 12) (v := ?_) rfl (by kernel_rfl) (by kernel_rfl) (by kernel_rfl) (fun _ _ _ h => h) (Or.inl ⟨by rfl, ?_⟩) hHeld ?_
            rotate_left
            · (intro w hSw; (try dsimp only at hSw); go_simp) <;> with_reducible rfl
            (try simp only [Act.put, List.setIfInBounds_toArray, List.set_cons_zero, List.set_cons_succ, List.getElem_toArray, List.getElem_cons_zero, List.getElem_cons_succ])
            refine wpAnyH_take (i := 14) (v := ?_) rfl (by kernel_rfl) (by kernel_rfl) (by kernel_rfl) (fun _ _ _ h => h) (Or.inl ⟨by rfl, ?_⟩) hHeld ?_
            rotate_left
            · (intro w hSw; (try dsimp only at hSw); go_simp) <;> with_reducible rfl
            (try simp only [Act.put, List.setIfInBounds_toArray, List.set_cons_zero, List.set_cons_succ, List.getElem_toArray, List.getElem_cons_zero, List.getElem_cons_succ])
            refine wpAnyH_take (i := 15) (v := ?_) rfl (by kernel_rfl) (by kernel_rfl) (by kernel_rfl) (fun _ _ _ h => h) (Or.inl ⟨by rfl, ?_⟩) hHeld ?_
            rotate_left
            · (intro w hSw; (try dsimp only at hSw); go_simp) <;> with_reducible rfl
            (try simp only [Act.put, List.setIfInBounds_toArray, List.set_cons_zero, List.set_cons_succ, List.getElem_toArray, List.getElem_cons_zero, List.getElem_cons_succ])
            refine wpAnyH_ready (rs := [13]) (by kernel_rfl) (by simp) ?_
            refine AllReadyH.cons rfl (fun K hK => ?_) AllReadyH.nil
            go_simp
            refine (gp_size p F x _ (HJ.out.bt.gp.grew ((Chg.refl _ _).drew))).mono ?_
            rintro e w6 ⟨rfl, rfl⟩
            refine hK.out _ _ hS0 (fun _ => ?_)
            clear hK K
            (try simp only [Act.put, List.setIfInBounds_toArray, List.set_cons_zero, List.set_cons_succ, List.getElem_toArray, List.getElem_cons_zero, List.getElem_cons_succ])
            refine wpAnyH_take (i := 16) (v := ?_) rfl (by kernel_rfl) (by kernel_rfl) (by kernel_rfl) (fun _ _ _ h => h) (Or.inl ⟨by rfl, ?_⟩) hHeld ?_
            rotate_left
            · (intro w hSw; (try dsimp only at hSw); go_simp) <;> with_reducible rfl
            (try simp only [Act.put, List.setIfInBounds_toArray, List.set_cons_zero, List.set_cons_succ, List.getElem_toArray, List.getElem_cons_zero, List.getElem_cons_succ])
            refine wpAnyH_ready (rs := [17]) (by kernel_rfl) (by simp) ?_
            refine AllReadyH.cons rfl (fun K hK => ?_) AllReadyH.nil
            refine step_append_run2 (by rfl) (.tmp 69) (.tmp 77) 49 3 (by rfl) (by rfl) (by rfl) hr5 ?_
            refine hK.out _ _ hS5 (fun _ => ?_)
            clear hK K
            (try simp only [Act.put, List.setIfInBounds_toArray, List.set_cons_zero, List.set_cons_succ, List.getElem_toArray, List.getElem_cons_zero, List.getElem_cons_succ])
            refine wpAnyH_ready (rs := [18]) (by kernel_rfl) (by simp) ?_
            refine AllReadyH.cons rfl (fun K hK => ?_) AllReadyH.nil
            go_simp
            refine HWr.out.1.mono ?_
            clear hr5
            rintro e w7 (⟨rfl, hto⟩ | ⟨hns, hnw, rfl, hg7⟩)
            · have hto' := hto
              obtain ⟨F7, k1, k2, k3⟩ := hto'
              have hS7 : w7.cell? ⟨t, 0, none⟩ = some (.pointer (some ⟨p, 0, none⟩)) ∧ w7.cell? ⟨b, 0, none⟩ = some (.int .i64 q0) := ⟨(k2.cell (p := ⟨t, 0, none⟩) HWr.out.2.1.blk.lt HWr.out.2.1.nf).trans hS5.1, (k2.cell (p := ⟨b, 0, none⟩) (Nat.lt_of_lt_of_le h1.lt HWr.out.2.2.size) hbF0).trans hS5.2⟩
              have HTo := Lib.hid (And.intro (HWr.out.2.1.to hto) HWr.out.2.2)
              clear k1 k2 k3 hto
              refine hK.out _ _ hS7 (fun _ => ?_)
              clear hK K
              (try simp only [Act.put, List.setIfInBounds_toArray, List.set_cons_zero, List.set_cons_succ, List.getElem_toArray, List.getElem_cons_zero, List.getElem_cons_succ])
              refine wpAnyH_ready (rs := [19]) (by kernel_rfl) (by simp) ?_
              refine AllReadyH.cons rfl (fun K hK => ?_) AllReadyH.nil
              go_simp
              refine hK.out _ _ hS7 (fun _ => ?_)
              clear hK K
              (try simp only [Act.put, List.setIfInBounds_toArray, List.set_cons_zero, List.set_cons_succ, List.getElem_toArray, List.getElem_cons_zero, List.getElem_cons_succ])
              refine wpAnyH_done (by kernel_rfl) ?_ _
              clear hHeld hS0 hS5 hS7
              go_wp2_with fail
              go_ret
              exact .inl ⟨rfl, To.ahead HTo.out.2 HTo.out.1⟩
            · have hS7 : w7.cell? ⟨t, 0, none⟩ = some (.pointer (some ⟨p, 0, none⟩)) ∧ w7.cell? ⟨b, 0, none⟩ = some (.int .i64 q0) := ⟨(hg7.cell (p := ⟨t, 0, none⟩) HWr.out.2.1.blk.lt id).trans hS5.1, (hg7.cell (p := ⟨b, 0, none⟩) (Nat.lt_of_lt_of_le h1.lt HWr.out.2.2.size) id).trans hS5.2⟩
              have HTo := Lib.hid (And.intro (Grew.trans HWr.out.2.2 hg7) (And.intro hns hnw))
              clear hg7 hns hnw
              refine hK.out _ _ hS7 (fun _ => ?_)
              clear hK K
              (try simp only [Act.put, List.setIfInBounds_toArray, List.set_cons_zero, List.set_cons_succ, List.getElem_toArray, List.getElem_cons_zero, List.getElem_cons_succ])
              refine wpAnyH_ready (rs := [19]) (by kernel_rfl) (by simp) ?_
              refine AllReadyH.cons rfl (fun K hK => ?_) AllReadyH.nil
              go_simp
              refine hK.out _ _ hS7 (fun _ => ?_)
              clear hK K
              (try simp only [Act.put, List.setIfInBounds_toArray, List.set_cons_zero, List.set_cons_succ, List.getElem_toArray, List.getElem_cons_zero, List.getElem_cons_succ])
              refine wpAnyH_done (by kernel_rfl) ?_ _
              clear hHeld hS0 hS5 hS7
              go_wp2_with fail
              go_ret
              exact .inr ⟨by have := HTo.out.2.1; omega, HTo.out.2.2, rfl, HTo.out.1⟩
end Go.Proofs.YtpkkcicaeldodaaGreatDoor

/- Contracts of the library that the kit has proved once, laid at this seat (printed by the kit's lay-plain through lay.py). -/
namespace Go.Proofs.YtpkkcicaeldodaaGreatDoor
open Go.Shelf
def searchInt_ren : Go.Shelf.Ren := ⟨fun | 25 => 87 | 31 => 117 | 32 => 118 | 37 => 150 | n => n, fun | 22 => 22 | 3 => 3 | 4 => 4 | 40 => 139 | 0 => 0 | n => n, fun | n => n⟩
theorem searchInt : Go.Proofs.Lays2.n25 Tryz.prog searchInt_ren := {
  mixed := by kernel_rfl
  f25 := Tryz.func87.trans (congrArg some (by kernel_rfl))
  f31 := Tryz.func117.trans (congrArg some (by kernel_rfl))
  f32 := Tryz.func118.trans (congrArg some (by kernel_rfl))
  f37 := Tryz.func150.trans (congrArg some (by kernel_rfl))
  t0 := Tryz.underlying0
  a0 := Tryz.isAgg0
  z0 := Tryz.sizeOf0
  v0 := Tryz.zeroValue0
  t3 := Tryz.underlying3
  a3 := Tryz.isAgg3
  z3 := Tryz.sizeOf3
  v3 := Tryz.zeroValue3
  t4 := Tryz.underlying4
  a4 := Tryz.isAgg4
  z4 := Tryz.sizeOf4
  v4 := Tryz.zeroValue4
  t22 := Tryz.underlying22
  a22 := Tryz.isAgg22
  z22 := Tryz.sizeOf22
  v22 := Tryz.zeroValue22
  t40 := Tryz.underlying139
  a40 := Tryz.isAgg139
  z40 := Tryz.sizeOf139
  v40 := Tryz.zeroValue139 }
def insertInt_ren : Go.Shelf.Ren := ⟨fun | 21 => 44 | 27 => 89 | 28 => 90 | 35 => 119 | 39 => 151 | n => n, fun | 22 => 22 | 3 => 3 | 4 => 4 | 0 => 0 | n => n, fun | n => n⟩
theorem insertInt : Go.Proofs.Lays2.n21 Tryz.prog insertInt_ren := {
  mixed := by kernel_rfl
  f21 := Tryz.func44.trans (congrArg some (by kernel_rfl))
  f27 := Tryz.func89.trans (congrArg some (by kernel_rfl))
  f28 := Tryz.func90.trans (congrArg some (by kernel_rfl))
  f35 := Tryz.func119.trans (congrArg some (by kernel_rfl))
  f39 := Tryz.func151.trans (congrArg some (by kernel_rfl))
  t0 := Tryz.underlying0
  a0 := Tryz.isAgg0
  z0 := Tryz.sizeOf0
  v0 := Tryz.zeroValue0
  t3 := Tryz.underlying3
  a3 := Tryz.isAgg3
  z3 := Tryz.sizeOf3
  v3 := Tryz.zeroValue3
  t4 := Tryz.underlying4
  a4 := Tryz.isAgg4
  z4 := Tryz.sizeOf4
  v4 := Tryz.zeroValue4
  t22 := Tryz.underlying22
  a22 := Tryz.isAgg22
  z22 := Tryz.sizeOf22
  v22 := Tryz.zeroValue22
  i3 := by kernel_rfl }
def deleteInt_ren : Go.Shelf.Ren := ⟨fun | 23 => 69 | n => n, fun | 22 => 22 | 3 => 3 | 4 => 4 | 0 => 0 | n => n, fun | n => n⟩
theorem deleteInt : Go.Proofs.Lays2.n23 Tryz.prog deleteInt_ren := {
  mixed := by kernel_rfl
  f23 := Tryz.func69.trans (congrArg some (by kernel_rfl))
  t0 := Tryz.underlying0
  a0 := Tryz.isAgg0
  z0 := Tryz.sizeOf0
  v0 := Tryz.zeroValue0
  t3 := Tryz.underlying3
  a3 := Tryz.isAgg3
  z3 := Tryz.sizeOf3
  v3 := Tryz.zeroValue3
  t4 := Tryz.underlying4
  a4 := Tryz.isAgg4
  z4 := Tryz.sizeOf4
  v4 := Tryz.zeroValue4
  t22 := Tryz.underlying22
  a22 := Tryz.isAgg22
  z22 := Tryz.sizeOf22
  v22 := Tryz.zeroValue22
  i3 := by kernel_rfl }
end Go.Proofs.YtpkkcicaeldodaaGreatDoor

/- The tree: place, way, Get. -/
namespace Go.Proofs.YtpkkcicaeldodaaGreatDoor
open Go.RowKit Go.Maps

/-- A page's node. -/
def Rp.nd (x : Rp) (q : Nat) : Option Nd := match x.now[q]? with
  | some c => if c.used = true then decN (c.bytes x.sz) x.sz else none
  | none => none
theorem Rp.nd_some {x : Rp} {q : Nat} {nd : Nd} (h : x.nd q = some nd) : ∃ c, x.now[q]? = some c ∧ c.used = true ∧ decN (c.bytes x.sz) x.sz = some nd := by
  unfold Rp.nd at h
  cases hc : x.now[q]? with
  | none => rw [hc] at h; cases h
  | some c =>
    rw [hc] at h
    simp only at h
    split at h
    · rename_i hu; exact ⟨c, rfl, hu, h⟩
    · cases h
theorem Rp.nd_is {x : Rp} {q : Nat} {c : Pk} {o : Option Nd} (h1 : x.now[q]? = some c) (h2 : c.used = true) (h3 : decN (c.bytes x.sz) x.sz = o) : x.nd q = o := by
  unfold Rp.nd
  rw [h1]
  simp only
  rw [if_pos h2, h3]
theorem Rp.nd_other {x : Rp} {q i : Nat} {c : Pk} (h : i ≠ q) : (x.put q c).nd i = x.nd i := by
  unfold Rp.nd Rp.put
  simp only
  rw [List.getElem?_set_ne (Ne.symm h)]
theorem Rp.nd_new {x : Rp} {q : Nat} {nd : Nd} (h : nd.Fit x.sz) (hq : q < x.now.length) (hz : x.sz ≤ 4096) : (x.put q (.new (ndL nd x.sz))).nd q = some nd := by
  refine Rp.nd_is (c := .new (ndL nd x.sz)) ?_ rfl (decN_ndL h hz)
  rw [Rp.put_at hq, if_pos rfl]
theorem GP.byt {w : World} {p : Nat} {F : Nat → Prop} {x : Rp} {i : Nat} {c : Pk} (h : GP w p F x) (hi : x.now[i]? = some c) (hu : c.used = true) : (∀ q ∈ c.bytes x.sz, 0 ≤ q ∧ q ≤ 255) ∧ (c.bytes x.sz).length = x.sz := by
  obtain ⟨X, h1, h2, rfl⟩ := h
  obtain ⟨s, hs, h0, rfl⟩ := Gp.entry_used hi hu
  have hv := h2.inv
  by_cases e1 : s = 1
  · subst e1
    exact ⟨fun q hq => by simp [pk, Pk.bytes] at hq; omega, by simp [pk, Pk.bytes]⟩
  · have hsn : s < X.D.n := by
      rcases hv.cur i s hs (by omega) with e | e
      · exact (hv.frr s e).2.1
      · exact hv.rO i s e
    have hb : (pk X.D X.fr s).bytes X.view.sz = X.D.rd (s : Int) := by
      unfold pk
      rw [if_neg h0, if_neg e1]
      split <;> rfl
    rw [hb]
    refine ⟨hv.byt s hsn, ?_⟩
    obtain ⟨L, d, b, A, ca, vp, vt, vo, hG, -⟩ := h1
    exact hG.dsk.rd_len (by omega) (by omega)
theorem GP.fit {w : World} {p : Nat} {F : Nat → Prop} {x : Rp} {q : Nat} {nd : Nd} (h : GP w p F x) (hn : x.nd q = some nd) : nd.Fit x.sz ∧ q < x.now.length := by
  obtain ⟨c, h1, h2, h3⟩ := Rp.nd_some hn
  have hb := h.byt h1 h2
  exact ⟨decN_fit h3 hb.1 hb.2 h.szs.2.2.1, (List.getElem?_eq_some_iff.1 h1).1⟩

theorem bplace_any (b q : Nat) (nd : Nd) (N : Nat → Prop) (k : Int) (w : World) (h : NdAt w N b q nd) (hs : nd.keys.Pairwise (· < ·)) (hl : nd.keys.length ≤ 4096) :
    Calls Tryz.prog 42 #[.pointer (some ⟨b, 0, none⟩), .int .i64 k] w fun e w' => e = .returned (.tuple #[.int .i64 (atI nd.keys k : Nat), .bool (nd.keys.contains k)]) ∧ Grew w w' := by
  obtain ⟨Ak, ck, Av, cv, Ac, cc, h1, h2, -⟩ := h
  obtain ⟨c0, f0, s0⟩ := h1.facts
  have hbs : Calls Tryz.prog 87 #[.slice Ak nd.keys.length ck, .int .i64 k] w fun e w' => e = .returned (.tuple #[.int .i64 (atI nd.keys k : Nat), .bool (nd.keys.contains k)]) ∧ Grew w w' := by
    by_cases h0 : nd.keys.length = 0
    · have hk : nd.keys = [] := List.eq_nil_of_length_eq_zero h0
      rw [h0]
      have := Any.slices_BinarySearch_int_empty searchInt Ak ck k w
      refine Calls.mono this ?_
      rintro e w' ⟨rfl, rfl⟩
      rw [hk]
      exact ⟨rfl, Chg.refl _ _⟩
    · obtain ⟨g, off, rfl, hg, hx⟩ := h2.2 (by omega)
      have := Any.slices_BinarySearch_int searchInt g off nd.keys.length ck nd.keys k w (Nat.le_refl _) (by omega) (fun j hj => hx j _ (by simp [iv, hj])) (by rw [List.take_length]; exact hs.imp fun h => Int.le_of_lt h)
      refine Calls.mono this ?_
      rintro e w' ⟨rfl, n, rfl⟩
      rw [List.take_length]
      exact ⟨rfl, (Chg.refl _ _).drewN n⟩
  obtain ⟨fb, hfb⟩ : ∃ f, nd.keys.contains k = f := ⟨_, rfl⟩
  obtain ⟨ii, hii⟩ : ∃ i, atI nd.keys k = i := ⟨_, rfl⟩
  rw [hfb, hii] at hbs ⊢
  have HB := Lib.hid hbs
  clear hbs h1 h2 hfb hii
  go_enter Tryz.func42, Tryz.ntmps42
  go_wp2_with fail
  refine HB.out.mono ?_
  rintro e w1 ⟨rfl, hg⟩
  have HG := Lib.hid hg
  clear hg
  go_wp2_with fail
  go_ret2
  exact ⟨rfl, HG.out⟩

/-- Where the way leads. -/
structure WayAt (rd : Nat → Option Nd) (h D root : Nat) (k : Int) (L : List KV) (P : List Nat) (d q : Nat) (nd : Nd) (A M B : List KV) (P1 PM P2 : List Nat) : Prop where
  nd : rd q = some nd
  ctx : Ctx rd h D root d q k A B P1 P2
  tr : Tr rd h d q M PM
  occ : h - 1 ≤ nk rd q ∨ d = D
  l : L = A ++ M ++ B
  p : P = P1 ++ PM ++ P2
theorem WayAt.start {rd : Nat → Option Nd} {h D root : Nat} {k : Int} {L : List KV} {P : List Nat} (t : Tr rd h D root L P) : ∃ nd, WayAt rd h D root k L P D root nd [] L [] [] P [] := by
  obtain ⟨nd, h1, -⟩ := t.node
  exact ⟨nd, h1, Ctx.root _ _ _ _ _, t, .inr rfl, by simp, by simp⟩
theorem WayAt.down {rd : Nat → Option Nd} {h D root : Nat} {k : Int} {L : List KV} {P : List Nat} {d q : Nat} {nd : Nd} {A M B : List KV} {P1 PM P2 : List Nat} (a : WayAt rd h D root k L P (d + 1) q nd A M B P1 PM P2) (hs : Srt L) (hk : nd.keys.contains k = false) :
    ∃ e nd' A' M' B' P1' PM' P2', nd.kids[atI nd.keys k]? = some e ∧ WayAt rd h D root k L P d e nd' A' M' B' P1' PM' P2' := by
  have hsM : Srt M := hs.sub (by rw [a.l]; exact (List.sublist_append_right A M).trans (List.sublist_append_left _ _))
  obtain ⟨e, A', M', B', P1', PM', P2', h1, h2, h3, h4, h5⟩ := a.ctx.down a.tr a.occ a.nd hsM hk
  obtain ⟨nd', h6, -⟩ := h3.1.node
  exact ⟨e, nd', A', M', B', P1', PM', P2', h1, h6, h2, h3.1, .inl h3.2, by rw [a.l, h4], by rw [a.p, h5]⟩
theorem WayAt.srt {rd : Nat → Option Nd} {h D root : Nat} {k : Int} {L : List KV} {P : List Nat} {d q : Nat} {nd : Nd} {A M B : List KV} {P1 PM P2 : List Nat} (a : WayAt rd h D root k L P d q nd A M B P1 PM P2) (hs : Srt L) : Srt M := hs.sub (by rw [a.l]; exact (List.sublist_append_right A M).trans (List.sublist_append_left _ _))
/-- What way leaves. -/
def WyOut (w w' : World) (t p root : Nat) (F : Nat → Prop) (x : Rp) (h D : Nat) (k : Int) (L : List KV) (P : List Nat) (e : Ending) : Prop :=
  ∃ b N d q nd A M B P1 PM P2, e = .returned (.tuple #[.pointer (some ⟨b, 0, none⟩), .int .i64 (atI nd.keys k : Nat), .bool (nd.keys.contains k), .int .i64 0]) ∧ NdOwn w' N b q nd ∧ (∀ j, N j → w.heap.size ≤ j) ∧ BT w' t p root F x ∧ Chg F w w' ∧
    WayAt x.nd h D root k L P d q nd A M B P1 PM P2 ∧ (nd.keys.contains k = true ∨ d = 0)
set_option maxRecDepth 100000 in
set_option maxHeartbeats 3200000 in
theorem bway_any (t p root h D : Nat) (k : Int) (L : List KV) (P : List Nat) (F : Nat → Prop) (x : Rp) (w : World) (hb : BT w t p root F x) (ht : Tr x.nd h D root L P) (hs : Srt L) (hD : D < 40) :
    Calls Tryz.prog 36 #[.pointer (some ⟨t, 0, none⟩), .int .i64 k] w fun e w' => WyOut w w' t p root F x h D k L P e := by
  obtain ⟨c0, f0, s0⟩ := hb.blk.facts
  have H := Lib.hid (And.intro hb (And.intro ht hs))
  clear hb ht hs
  go_enter Tryz.func36, Tryz.ntmps36
  go_wp2
  clear c0 f0 s0
  go_loopg [8, 17] (D + 1) (fun q pg i wr => ∃ (d c : Nat) (nd : Nd) (A M B : List KV) (P1 PM P2 : List Nat), q = d + 1 ∧ d ≤ D ∧ pg = .int .i64 c ∧ i = .int .i64 ((D - d : Nat) : Int) ∧ BT wr t p root F x ∧ Chg F w wr ∧ WayAt x.nd h D root k L P d c nd A M B P1 PM P2)
  case atStart =>
    obtain ⟨nd, hn⟩ := WayAt.start (k := k) H.out.2.1
    exact ⟨D, root, nd, _, _, _, _, _, _, rfl, Nat.le_refl _, rfl, by simp, H.out.1, Chg.refl _ _, hn⟩
  case round =>
    obtain ⟨d, c, nd, A, M, B, P1, PM, P2, rfl, hd, rfl, rfl, hbt, hc, hw⟩ := hrel
    obtain ⟨j, hj⟩ : ∃ j, D - d = j := ⟨_, rfl⟩
    have hjl : (j : Int) < 40 := by omega
    rw [hj]
    have hft := hbt.gp.fit hw.nd
    obtain ⟨cp, hp1, hp2, hp3⟩ := Rp.nd_some hw.nd
    have hld := bload_any t p root c F x cp nd wr hbt hp1 hp2 hp3
    have hkl : nd.keys.length ≤ 300 := by have h1 := hft.1.most; have h2 := hbt.gp.szs; unfold mostN at h1; omega
    have HW := Lib.hid (And.intro hld (And.intro hc (And.intro hw (And.intro hj hd))))
    clear hbt hc hw hft hp1 hp2 hp3 hld hj hd
    go_wp2_with fail
    refine HW.out.1.mono ?_
    rintro e w3 ⟨b, N, rfl, hnd, hNn, hbt3, hc3⟩
    have hks := HW.out.2.2.1.tr.keys HW.out.2.2.1.nd (HW.out.2.2.1.srt H.out.2.2)
    have hpl := bplace_any b c nd N k w3 hnd.at hks (by omega)
    have H3 := Lib.hid (And.intro hpl (And.intro hnd (And.intro hNn (And.intro hbt3 hc3))))
    clear hpl hnd hNn hbt3 hc3 hks
    go_wp2_with fail
    refine H3.out.1.mono ?_
    rintro e w4 ⟨rfl, hg4⟩
    have hlf := leaf_any b c nd N w4 (H3.out.2.1.at.grew hg4)
    obtain ⟨fb, hfb⟩ : ∃ f, nd.keys.contains k = f := ⟨_, rfl⟩
    obtain ⟨ii, hii⟩ : ∃ i, atI nd.keys k = i := ⟨_, rfl⟩
    rw [hfb, hii]
    have H4 := Lib.hid (And.intro hlf (And.intro hg4 (And.intro hfb hii)))
    clear hlf hg4 hfb hii
    have hdz : nd.kids.length = 0 ↔ d = 0 := by
      obtain ⟨nd', g1, -, -, g2⟩ := HW.out.2.2.1.tr.node
      rw [HW.out.2.2.1.nd] at g1
      cases g1
      exact g2
    have HZ := Lib.hid hdz
    clear hdz
    cases fb with
    | true =>
      go_wp2_with fail
      refine bodyPost_ret (v := .tuple #[.pointer (some ⟨b, 0, none⟩), .int .i64 (ii : Nat), .bool true, .int .i64 0]) (by simp [results, Tryz.results36, go_sem]) rfl ?_
      have hsz := HW.out.2.1.size
      refine ⟨b, N, d, c, nd, A, M, B, P1, PM, P2, by rw [H4.out.2.2.1, H4.out.2.2.2], H3.out.2.1.grew H4.out.2.1, fun j hj => by have := H3.out.2.2.1 j hj; omega, H3.out.2.2.2.1.grew H4.out.2.1, (Chg.trans HW.out.2.1 H3.out.2.2.2.2 fun _ _ e => e).grew H4.out.2.1, HW.out.2.2.1, .inl H4.out.2.2.1⟩
    | false =>
      by_cases h0 : nd.kids.length = 0
      · have t1 : decide (nd.kids.length = 0) = true := decide_eq_true h0
        have Hd0 := Lib.hid (HZ.out.1 h0)
        go_wp2_with (go_at_call 41; (refine H4.out.1.mono ?_); rintro e w5 ⟨rfl, rfl⟩)
        refine bodyPost_ret (v := .tuple #[.pointer (some ⟨b, 0, none⟩), .int .i64 (ii : Nat), .bool false, .int .i64 0]) (by simp [results, Tryz.results36, go_sem]) rfl ?_
        have hsz := HW.out.2.1.size
        refine ⟨b, N, d, c, nd, A, M, B, P1, PM, P2, by rw [H4.out.2.2.1, H4.out.2.2.2], H3.out.2.1.grew H4.out.2.1, fun j hj => by have := H3.out.2.2.1 j hj; omega, H3.out.2.2.2.1.grew H4.out.2.1, (Chg.trans HW.out.2.1 H3.out.2.2.2.2 fun _ _ e => e).grew H4.out.2.1, HW.out.2.2.1, .inr Hd0.out⟩
      · have t1 : decide (nd.kids.length = 0) = false := decide_eq_false h0
        obtain ⟨d', rfl⟩ : ∃ d', d = d' + 1 := ⟨d - 1, by have hd0 : d ≠ 0 := (fun e => h0 (HZ.out.2 e)); omega⟩
        obtain ⟨c2, nd2, A2, M2, B2, P3, PM2, P4, hc2, hw2⟩ := HW.out.2.2.1.down H.out.2.2 H4.out.2.2.1
        rw [H4.out.2.2.2] at hc2
        obtain ⟨Ak, ck, Av, cv, Ac, cc, b1, -, -, b4, -⟩ := H3.out.2.1.at.grew H4.out.2.1
        obtain ⟨c0, f0, s0⟩ := b1.facts
        obtain ⟨g, off, rfl, hgl, hx⟩ := b4.2 (by omega)
        have hce : w4.cell? ⟨g, off + ii, none⟩ = some (.int .i64 c2) := hx ii _ (by simp [nv, hc2])
        have hil : ii < nd.kids.length := (List.getElem?_eq_some_iff.1 hc2).1
        have H5 := Lib.hid hw2
        clear b1 b4 hx hw2 hc2 hgl
        go_wp2_with (go_at_call 41; (refine H4.out.1.mono ?_); rintro e w5 ⟨rfl, rfl⟩)
        clear c0 f0 s0 hce
        have hd4 := HW.out.2.2.2.2
        have hj4 := HW.out.2.2.2.1
        go_roundg (d' + 1)
        case measure => omega
        case rel => exact ⟨d', c2, nd2, A2, M2, B2, P3, PM2, P4, rfl, by omega, rfl, by congr 1; omega, H3.out.2.2.2.1.grew H4.out.2.1, (Chg.trans HW.out.2.1 H3.out.2.2.2.2 fun _ _ e => e).grew H4.out.2.1, H5.out⟩
end Go.Proofs.YtpkkcicaeldodaaGreatDoor

/- The tree: Get. -/
namespace Go.Proofs.YtpkkcicaeldodaaGreatDoor
open Go.RowKit Go.Maps

section
variable {rd : Nat → Option Nd} {h D root : Nat} {k : Int} {L : List KV} {P : List Nat} {d q : Nat} {nd : Nd} {A M B : List KV} {P1 PM P2 : List Nat}
/-- What the way tells of a key. -/
theorem WayAt.get (a : WayAt rd h D root k L P d q nd A M B P1 PM P2) (hs : Srt L) (hd : P.Nodup) :
    (nd.keys.contains k = true → ∃ v, nd.vals[atI nd.keys k]? = some v ∧ getK L k = some v) ∧ (nd.keys.contains k = false → d = 0 → getK L k = none) := by
  have hm := getK_mid (M := M) a.ctx.lt a.ctx.gt
  rw [← a.l] at hm
  have hdM : PM.Nodup := List.Nodup.sublist (by rw [a.p]; exact (List.sublist_append_right P1 PM).trans (List.sublist_append_left _ _)) hd
  refine ⟨fun hc => ?_, fun hc h0 => ?_⟩
  · obtain ⟨v, h1, h2, -⟩ := a.tr.here a.nd (a.srt hs) hc hdM
    exact ⟨v, h1, by rw [hm, h2]⟩
  · subst h0
    obtain ⟨nd', g1, g2, g3, g4, rfl, g6⟩ := a.tr
    rw [a.nd] at g1
    cases g1
    rw [hm]
    refine getK_none fun x hx e => ?_
    have : k ∈ nd.keys := by rw [← kvs_keys g3]; exact List.mem_map.2 ⟨x, hx, e⟩
    rw [← List.contains_iff_mem, hc] at this
    cases this
end
/-- What Get answers. -/
def gV : Option Int → Int
  | some v => v
  | none => 0
def gE : Option Int → Int
  | some _ => 0
  | none => 14
set_option maxRecDepth 100000 in
set_option maxHeartbeats 1600000 in
theorem bget2_any (t p root h D : Nat) (k : Int) (L : List KV) (P : List Nat) (F : Nat → Prop) (x : Rp) (w : World) (hb : BT w t p root F x) (ht : Tr x.nd h D root L P) (hs : Srt L) (hD : D < 40) (hn : P.Nodup) :
    Calls Tryz.prog 23 #[.pointer (some ⟨t, 0, none⟩), .int .i64 k] w fun e w' => e = .returned (.tuple #[.int .i64 (gV (getK L k)), .int .i64 (gE (getK L k))]) ∧ BT w' t p root F x ∧ Chg F w w' := by
  have hway := bway_any t p root h D k L P F x w hb ht hs hD
  have H := Lib.hid (And.intro hway (And.intro hs hn))
  clear hb ht hs hn hway
  go_enter Tryz.func23, Tryz.ntmps23
  go_wp2_with fail
  refine H.out.1.mono ?_
  rintro e w1 ⟨b, N, d, q, nd, A, M, B, P1, PM, P2, rfl, hnd, hNn, hbt, hc, hw, hor⟩
  have hg := hw.get H.out.2.1 H.out.2.2
  obtain ⟨fb, hfb⟩ : ∃ f, nd.keys.contains k = f := ⟨_, rfl⟩
  obtain ⟨ii, hii⟩ : ∃ i, atI nd.keys k = i := ⟨_, rfl⟩
  rw [hfb, hii] at hg ⊢
  have H1 := Lib.hid (And.intro hbt (And.intro hc (And.intro hg (And.intro hor hfb))))
  clear hbt hc hg hor hfb hii hw hNn
  cases fb with
  | false =>
    have hn0 := H1.out.2.2.1.2 rfl (H1.out.2.2.2.1.resolve_left (by rw [H1.out.2.2.2.2]; simp))
    have HN0 := Lib.hid hn0
    clear hn0 hnd
    go_wp2_with fail
    go_ret2
    exact ⟨by rw [HN0.out]; rfl, H1.out.1, H1.out.2.1⟩
  | true =>
    obtain ⟨v, hv, hg⟩ := H1.out.2.2.1.1 rfl
    have HN0 := Lib.hid hg
    obtain ⟨Ak, ck, Av, cv, Ac, cc, b1, -, b3, -⟩ := hnd.at
    obtain ⟨c0, f0, s0⟩ := b1.facts
    have hil := (List.getElem?_eq_some_iff.1 hv).1
    obtain ⟨g, off, rfl, hgl, hx⟩ := b3.2 (by omega)
    have hce : w1.cell? ⟨g, off + ii, none⟩ = some (.int .i64 v) := hx ii _ (by simp [iv, hv])
    clear b1 b3 hx hv hg hnd hgl
    go_wp2_with fail
    go_ret2
    exact ⟨by rw [HN0.out]; rfl, H1.out.1, H1.out.2.1⟩
end Go.Proofs.YtpkkcicaeldodaaGreatDoor
