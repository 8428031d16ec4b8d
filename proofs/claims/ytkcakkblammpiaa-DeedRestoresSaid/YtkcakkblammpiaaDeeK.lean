/- The deeds: Restore. -/
import Derived.Test.YtkcakkblammpiaaDeeZ
import Derived.Test.YtkcakkblammpiaaDeeRt
import Derived.BigQuiet
namespace Go.Proofs.Ytkcakkblammpiaa
open Go.RowKit
attribute [local go_sem] Oper.semAt_some

theorem Mine.numb {w W X : World} {b c : Nat} {nx m : Int} {l : List Dee} {A : Option Addr} (h : Mine w W b nx l A c) (hX : W.setCell ⟨b, 1, none⟩ (.int .i64 m) = X) : Mine w X b m l A c := by
  have hc : Chg (fun j => j = b) W X := hX ▸ (Chg.refl (fun j => j = b) W).setCell (p := ⟨b, 1, none⟩) (fun _ => rfl) _
  refine ⟨⟨?_, ?_⟩, Chg.trans h.grew hc fun i hi e => absurd (h.new i (.inl e)) (by omega), h.new⟩
  · rw [← hX]
    have := h.isIn.blk.put 1 (.int .i64 m)
    simpa using this
  · refine own_chg h.isIn.own hc fun g hg e => ?_
    exact own_blk_ne h.isIn.own h.isIn.blk (by decide) (e ▸ hg)

/-- The number that is next behind the first k. -/
def numAt (l : List Dee) (k : Nat) : Int := if k = 0 then 1 else match l[k - 1]? with | some y => y.id + 1 | none => 1

theorem numAt_lone {l : List Dee} {nx : Int} {k : Nat} {x : Dee} (hx : l[k]? = some x) (h : goodAt l nx k x) : numAt l k ≤ x.id ∧ x.id < nx := by
  refine ⟨?_, h.1.2.1⟩
  unfold numAt
  split
  · exact h.1.1
  · have hk : k < l.length := (List.getElem?_eq_some_iff.1 hx).1
    obtain ⟨y, hy⟩ : ∃ y, l[k - 1]? = some y := ⟨_, List.getElem?_eq_getElem (by omega)⟩
    rw [hy]
    have := h.1.2.2.2.2 y (by omega) hy
    show y.id + 1 ≤ x.id
    omega
theorem numAt_succ {l : List Dee} {k : Nat} {x : Dee} (hx : l[k]? = some x) : numAt l (k + 1) = x.id + 1 := by
  unfold numAt
  rw [if_neg (by omega), Nat.add_sub_cancel, hx]
/-- What a list's place must be, out of what the code asks. -/
theorem goodAt_of {l : List Dee} {nx : Int} {k : Nat} {x : Dee} (hg : ∀ j y, j < k → l[j]? = some y → goodAt l nx j y) (h1 : ¬ x.id < numAt l k) (h2 : ¬ nx ≤ x.id) (hi : issueE (l.take k) x.plot x.holder = 0) : goodAt l nx k x := by
  unfold issueE at hi
  split at hi
  · cases hi
  rename_i hpl
  split at hi
  · cases hi
  rename_i hno
  unfold mayE at hi
  split at hi
  · cases hi
  split at hi
  · cases hi
  rename_i hh
  have hid : 1 ≤ x.id ∧ ∀ y, 0 < k → l[k - 1]? = some y → y.id < x.id := by
    unfold numAt at h1
    by_cases hk : k = 0
    · rw [if_pos hk] at h1
      exact ⟨by omega, fun y h => absurd h (by omega)⟩
    · rw [if_neg hk] at h1
      cases hy : l[k - 1]? with
      | none =>
        rw [hy] at h1
        exact ⟨by simp only [] at h1; omega, fun y _ e => by cases e⟩
      | some z =>
        rw [hy] at h1
        have := (hg (k - 1) z (by omega) hy).1.1
        simp only [] at h1
        exact ⟨by omega, fun y _ e => by cases e; omega⟩
  refine ⟨⟨hid.1, by omega, by omega, by omega, hid.2⟩, fun y hy e => ?_, by omega⟩
  rcases fidx_cases (fun z : Dee => z.plot == x.plot) (l.take k) with ⟨-, hn⟩ | ⟨j, z, hz, -⟩
  · have := hn y hy
    simp [e] at this
  · rw [hz] at hno
    omega
/-- And the other way. -/
theorem issueE_good {l : List Dee} {nx : Int} {k : Nat} {x : Dee} (h : goodAt l nx k x) : issueE (l.take k) x.plot x.holder = 0 := by
  have hf : fidx (fun z : Dee => z.plot == x.plot) (l.take k) = -1 := by
    rcases fidx_cases (fun z : Dee => z.plot == x.plot) (l.take k) with ⟨e, -⟩ | ⟨j, z, -, hz, hp, -⟩
    · exact e
    · have := h.2.1 z (List.mem_of_getElem? hz)
      simp at hp
      exact absurd hp this
  have h3 := h.1.2.2
  have h4 := h.2.2
  unfold issueE mayE
  rw [hf, if_neg (by omega), if_neg (by omega), if_neg (by omega), if_neg (by omega)]

theorem Dee.take_one {l : List Dee} {k : Nat} {x : Dee} (h : l[k]? = some x) : l.take (k + 1) = l.take k ++ [⟨x.id, x.plot, x.holder⟩] := by
  rw [List.take_add_one, h]; rfl

/-- How Restore ends. -/
def RestTo (w w' : World) (nx : Int) (l : List Dee) (e : Ending) : Prop :=
  (¬ Rgt l nx ∧ e = .returned (.tuple #[.pointer none, .bool false]) ∧ Grew w w') ∨ (Rgt l nx ∧ ∃ b A c, e = .returned (.tuple #[.pointer (some ⟨b, 0, none⟩), .bool true]) ∧ Mine w w' b nx l A c)

set_option maxRecDepth 100000 in
set_option maxHeartbeats 3200000 in
theorem restore_any (nx : Int) (l : List Dee) (A : Option Addr) (c : Nat) (w : World) (hl : l.length ≤ 1000000) (hs : Sl w 3 A l.length (l.flatMap Dee.vals)) (hnx : nx ≤ 9223372036854775807) :
    Calls Try.prog 20 #[.slice A l.length c, .int .i64 nx] w fun e w' => RestTo w w' nx l e := by
  have Hs := Lib.hid hs
  clear hs
  go_enter Try.func20, Try.ntmps20
  go_wp2_with (go_at_call 7; refine (new_any _).mono ?_; rintro e w1 ⟨rfl, rfl⟩)
  go_loopw [14] (fun i wr => ∃ (k : Nat) (A2 : Option Addr) (c2 : Nat), k ≤ l.length ∧ i = .int .i64 k ∧ Mine w wr w.heap.size (numAt l k) (l.take k) A2 c2 ∧ ∀ j y, j < k → l[j]? = some y → goodAt l nx j y) (fun i _ => l.length - (intOf i).toNat)
  case atStart => exact ⟨0, none, 0, Nat.zero_le _, rfl, Mine.made w, fun j y hj => absurd hj (by omega)⟩
  case round =>
    obtain ⟨k, A2, c2, hk, rfl, hM, hgood⟩ := hrel
    have Hgood := Lib.hid hgood
    have HM := Lib.hid hM
    clear hgood hM
    obtain ⟨wo, rfl⟩ : ∃ wo : World, wo = wr := ⟨_, rfl⟩
    obtain ⟨n, hn⟩ : ∃ n, numAt l k = n := ⟨_, rfl⟩
    rw [hn] at HM
    obtain ⟨c0, f0, s0⟩ := HM.out.isIn.blk.facts
    by_cases hlt : k < l.length
    · obtain ⟨x, hx⟩ : ∃ x, l[k]? = some x := ⟨_, List.getElem?_eq_getElem hlt⟩
      obtain ⟨g, off, rfl, hb, d0, d1, d2⟩ := (Hs.out.grew HM.out.grew).atDee hx
      have HX := Lib.hid hx
      have HN := Lib.hid hn
      clear hx hn
      by_cases h1 : x.id < n
      · have t1 : decide (x.id < n) = true := decide_eq_true h1
        have Hv := Lib.hid (show ¬ Rgt l nx from fun h => by have := (numAt_lone HX.out (h.2.2 _ _ HX.out)).1; rw [HN.out] at this; omega)
        go_wp2_with fail
        go_quiet (fail)
        go_wp2_with fail
        go_ret2
        exact .inl ⟨Hv.out, rfl, by (repeat (first | (with_reducible exact HM.out.grew) | (with_reducible refine Chg.alloc ?_ _) | (with_reducible refine Chg.drew ?_) | (with_reducible refine Chg.drewN ?_ _) | ((with_reducible refine Chg.setCell ?_ ?hp _); (case hp => (intro h; exfalso; simp at h; try omega)))))⟩
      by_cases h2 : nx ≤ x.id
      · have t1 : decide (x.id < n) = false := decide_eq_false h1
        have t2 : decide (nx ≤ x.id) = true := decide_eq_true h2
        have Hv := Lib.hid (show ¬ Rgt l nx from fun h => by have := (numAt_lone HX.out (h.2.2 _ _ HX.out)).2; omega)
        go_wp2_with fail
        go_quiet (fail)
        go_wp2_with fail
        go_ret2
        exact .inl ⟨Hv.out, rfl, by (repeat (first | (with_reducible exact HM.out.grew) | (with_reducible refine Chg.alloc ?_ _) | (with_reducible refine Chg.drew ?_) | (with_reducible refine Chg.drewN ?_ _) | ((with_reducible refine Chg.setCell ?_ ?hp _); (case hp => (intro h; exfalso; simp at h; try omega)))))⟩
      have t1 : decide (x.id < n) = false := decide_eq_false h1
      have t2 : decide (nx ≤ x.id) = false := decide_eq_false h2
      have hn1 : 1 ≤ n := by
        rw [← HN.out]
        unfold numAt
        split
        · omega
        · cases hy : l[k - 1]? with
          | none => simp
          | some z => have := (Hgood.out (k - 1) z (by omega) hy).1.1; simp only []; omega
      have hbw := HM.out.isIn.blk.lt
      have hxA : ∀ j, BF w.heap.size A2 j → j ≠ wo.heap.size := fun j h => by have := BF_lt HM.out.isIn h; omega
      have HxA := Lib.hid hxA
      clear hxA
      go_wp2_with fail
      go_quiet (fail)
      obtain ⟨w5, hw5, hg5, hb5⟩ : ∃ w5, w5 = _ ∧ Grew wo w5 ∧ Blk w5 wo.heap.size 34 #[.int .i64 x.id, .int .i64 x.plot, .int .i64 x.holder] := ⟨_, rfl, Chg.drewN ((Chg.refl _ _).alloc _) nq, (Blk.new wo 34 #[.int .i64 x.id, .int .i64 x.plot, .int .i64 x.holder]).drewN nq⟩
      rw [← hw5]
      have HM5 := Lib.hid (HM.out.more hg5)
      have HB5 := Lib.hid hb5
      clear hw5 hg5 hb5 c0 f0 s0 d0 d1 d2
      obtain ⟨c0, f0, s0⟩ := HM5.out.isIn.blk.facts
      obtain ⟨c1, f1, s1⟩ := HB5.out.facts
      obtain ⟨r, hr⟩ : ∃ r, issueE (l.take k) x.plot x.holder = r := ⟨_, rfl⟩
      have htl : (l.take k).length ≤ 1000000 := by rw [List.length_take]; omega
      have HM6 := Lib.hid (HM5.out.numb (m := x.id) rfl)
      have HB6 := Lib.hid (HB5.out.far (p := ⟨w.heap.size, 1, none⟩) (by show _; simp; omega) (.int .i64 x.id))
      by_cases hr0 : r = 0
      · subst hr0
        have Hr := Lib.hid hr
        clear hr
        go_wp2_with (go_at_call 21; refine (issue_yes w.heap.size x.id x.plot x.holder (l.take k) A2 c2 _ HM6.out.isIn htl Hr.out (by omega) (by omega)).mono ?_; rintro e w6 ⟨rfl, hd6⟩; have HD6 := Lib.hid hd6; clear hd6 c0 f0 s0 c1 f1 s1; obtain ⟨c1, f1, s1⟩ := (HB6.out.chg HD6.out.choose_spec.choose_spec.2.1 (fun h => HxA.out _ h rfl)).facts)
        obtain ⟨A3, c3, hM3⟩ := HM6.out.to HD6.out
        have hgk := goodAt_of Hgood.out (by rw [HN.out]; omega) (by omega) Hr.out
        rw [← Dee.take_one HX.out] at hM3
        refine ⟨⟨k + 1, A3, c3, by omega, by simp, ?_, ?_⟩, by simp [intOf]; omega⟩
        · rw [numAt_succ HX.out]
          exact hM3
        · intro j y hj hy
          by_cases e : j = k
          · subst e
            have := HX.out
            rw [hy] at this
            cases this
            exact hgk
          · exact Hgood.out j y (by omega) hy
      · have Hr := Lib.hid hr
        clear hr
        have hr1 : (r == 0) = false := by simpa using hr0
        have hr2 : (r != 0) = true := by simpa using hr0
        have Hv := Lib.hid (show ¬ Rgt l nx from fun h => hr0 (by rw [← Hr.out]; exact issueE_good (h.2.2 _ _ HX.out)))
        go_wp2_with (go_at_call 21; refine (issue_no w.heap.size x.id x.plot x.holder r (l.take k) A2 c2 _ HM6.out.isIn htl Hr.out hr0).mono ?_; rintro e w6 ⟨rfl, hg6⟩; have HG6 := Lib.hid hg6; clear hg6 c0 f0 s0 c1 f1 s1; obtain ⟨c1, f1, s1⟩ := (HB6.out.grew HG6.out).facts)
        go_ret2
        exact .inl ⟨Hv.out, rfl, Grew.trans HM6.out.grew HG6.out⟩
    · obtain rfl : k = l.length := by omega
      have hgood := Hgood.out
      have HT := Lib.hid (show l.take l.length = l from List.take_length)
      rw [HT.out] at HM
      have hbw := HM.out.isIn.blk.lt
      by_cases h1 : nx < n
      · have t1 : decide (nx < n) = true := decide_eq_true h1
        have Hv := Lib.hid (show ¬ Rgt l nx from fun h => by
          rw [← hn] at h1
          unfold numAt at h1
          split at h1
          · have := h.1; omega
          · cases hy : l[l.length - 1]? with
            | none => rw [hy] at h1; have := h.1; simp only [] at h1; omega
            | some z => rw [hy] at h1; have := (h.2.2 _ _ hy).1.2.1; simp only [] at h1; omega)
        go_wp2_with fail
        go_ret2
        exact .inl ⟨Hv.out, rfl, HM.out.grew⟩
      by_cases h2 : 1099511627776 < nx
      · have t1 : decide (nx < n) = false := decide_eq_false h1
        have t2 : decide (1099511627776 < nx) = true := decide_eq_true h2
        have Hv := Lib.hid (show ¬ Rgt l nx from fun h => by have := h.2.1; omega)
        go_wp2_with fail
        go_ret2
        exact .inl ⟨Hv.out, rfl, HM.out.grew⟩
      have t1 : decide (nx < n) = false := decide_eq_false h1
      have t2 : decide (1099511627776 < nx) = false := decide_eq_false h2
      have Hv := Lib.hid (show Rgt l nx from by
        refine ⟨?_, by omega, fun k x hx => Hgood.out k x (List.getElem?_eq_some_iff.1 hx).1 hx⟩
        rw [← hn] at h1
        unfold numAt at h1
        split at h1
        · omega
        · cases hy : l[l.length - 1]? with
          | none => rw [hy] at h1; simp only [] at h1; omega
          | some z => rw [hy] at h1; have := (hgood _ _ (by have := (List.getElem?_eq_some_iff.1 hy).1; omega) hy).1.1; simp only [] at h1; omega)
      go_wp2_with fail
      go_ret2
      exact .inr ⟨Hv.out, _, _, _, rfl, HM.out.numb rfl⟩

end Go.Proofs.Ytkcakkblammpiaa
