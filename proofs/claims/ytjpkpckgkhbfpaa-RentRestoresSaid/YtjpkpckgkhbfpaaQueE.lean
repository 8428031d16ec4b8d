/- The queue: down. -/
import Derived.Test.YtjpkpckgkhbfpaaQueD
namespace Go.Proofs.Ytjpkpckgkhbfpaa
open Go.RowKit Go.Maps

/-- The best of a place and the first t of its two children. -/
def bst (l : List Itm) (i : Nat) : Nat → Nat
  | 0 => i
  | t + 1 => match l[2 * i + 1 + t]?, l[bst l i t]? with
    | some x, some y => if x.lt y then 2 * i + 1 + t else bst l i t
    | _, _ => bst l i t

theorem bst_lt {l : List Itm} {i : Nat} (hi : i < l.length) : ∀ t, bst l i t < l.length
  | 0 => hi
  | t + 1 => by
    have := bst_lt hi t
    unfold bst
    split
    · rename_i x y hx hy
      split
      · exact (List.getElem?_eq_some_iff.1 hx).1
      · exact this
    · exact this
theorem bst_ge (l : List Itm) (i : Nat) : ∀ t, i ≤ bst l i t
  | 0 => Nat.le_refl _
  | t + 1 => by
    have := bst_ge l i t
    unfold bst
    split
    · split <;> omega
    · exact this
theorem bst_yes {l : List Itm} {i t : Nat} {x y : Itm} (hx : l[2 * i + 1 + t]? = some x) (hy : l[bst l i t]? = some y) (h : x.lt y) : bst l i (t + 1) = 2 * i + 1 + t := by
  rw [bst, hx, hy]; simp [h]
theorem bst_no {l : List Itm} {i t : Nat} {x y : Itm} (hx : l[2 * i + 1 + t]? = some x) (hy : l[bst l i t]? = some y) (h : ¬ x.lt y) : bst l i (t + 1) = bst l i t := by
  rw [bst, hx, hy]; simp [h]
theorem bst_out {l : List Itm} {i t : Nat} (h : l.length ≤ 2 * i + 1 + t) : bst l i (t + 1) = bst l i t := by
  rw [bst, List.getElem?_eq_none h]

/-- An item goes down, as far as others are ahead. -/
def downL (l : List Itm) (i : Nat) : List Itm :=
  if h : i < bst l i 2 ∧ bst l i 2 < l.length then downL (swp l i (bst l i 2)) (bst l i 2) else l
termination_by l.length - i
decreasing_by rw [swp_len]; omega

theorem downL_stop {l : List Itm} {i : Nat} (h : bst l i 2 = i) : downL l i = l := by
  unfold downL
  rw [dif_neg (by omega)]
theorem downL_go {l : List Itm} {i : Nat} (hi : i < l.length) (h : bst l i 2 ≠ i) : downL l i = downL (swp l i (bst l i 2)) (bst l i 2) := by
  have h1 := bst_ge l i 2
  have h2 := bst_lt hi 2
  rw [downL, dif_pos ⟨by omega, h2⟩]

set_option maxRecDepth 100000 in
set_option maxHeartbeats 3200000 in
theorem down_any (b i : Nat) (l : List Itm) (A : Option Addr) (c M : Nat) (added : Int) (w : World) (h : Q w b l A c M added) (hi : i < l.length) (hl : l.length ≤ 1000000) :
    Calls Try.prog 56 #[.pointer (some ⟨b, 0, none⟩), .int .i64 i] w fun e w' => e = .returned (.tuple #[]) ∧ Q w' b (downL l i) A c M added ∧ Chg (QF b A M) w w' := by
  have H := Lib.hid h
  clear h
  go_enter Try.func56, Try.ntmps56
  go_wp2_with fail
  go_loopw [1] (fun v wr => ∃ (j : Nat) (l' : List Itm), v = .int .i64 j ∧ j < l'.length ∧ l'.length = l.length ∧ Q wr b l' A c M added ∧ downL l' j = downL l i ∧ Chg (QF b A M) w wr) (fun v _ => l.length - (intOf v).toNat)
  case atStart => exact ⟨i, l, rfl, hi, rfl, H.out, rfl, Chg.refl _ _⟩
  case round =>
    obtain ⟨j, l', rfl, hj, hll, hQ, hup, hc⟩ := hrel
    have HQ := Lib.hid hQ
    have HU := Lib.hid (And.intro hll (And.intro hup hc))
    have hl' : l'.length ≤ 1000000 := by omega
    obtain ⟨wo, rfl⟩ : ∃ wo : World, wo = wr := ⟨_, rfl⟩
    clear hQ hup hc hll
    obtain ⟨g, rfl, hg⟩ := own_block HQ.out.isIn.own (by omega)
    have m1 : IntKind.i64.wrap (2 * (j : Int)) = 2 * (j : Int) := by rw [show 2 * (j : Int) = ((2 * j : Nat) : Int) by omega]; exact wrap_nat (by omega)
    have m2 : IntKind.i64.wrap (2 * (j : Int) + 1) = 2 * (j : Int) + 1 := by rw [show 2 * (j : Int) + 1 = ((2 * j + 1 : Nat) : Int) by omega]; exact wrap_nat (by omega)
    have m3 : IntKind.i64.wrap (2 * (j : Int) + 2) = 2 * (j : Int) + 2 := by rw [show 2 * (j : Int) + 2 = ((2 * j + 2 : Nat) : Int) by omega]; exact wrap_nat (by omega)
    have ix0 : ∀ u : World, (Instr.index 56 (.agg #[.int .i64 (2 * (j : Int) + 1), .int .i64 (2 * (j : Int) + 2)]) (.int .i64 0)).run Try.prog u = .ok (.int .i64 (2 * (j : Int) + 1)) u := fun u => by kernel_rfl
    have ix1 : ∀ u : World, (Instr.index 56 (.agg #[.int .i64 (2 * (j : Int) + 1), .int .i64 (2 * (j : Int) + 2)]) (.int .i64 1)).run Try.prog u = .ok (.int .i64 (2 * (j : Int) + 2)) u := fun u => by kernel_rfl
    go_wp2_with fail
    go_loopw [4, 15] (fun u v wr => ∃ t : Nat, t ≤ 2 ∧ v = .int .i64 t ∧ u = .int .i64 (bst l' j t) ∧ Grew wo wr) (fun _ v _ => 2 - (intOf v).toNat)
    case atStart => exact ⟨0, by omega, rfl, rfl, Chg.refl _ _⟩
    case round =>
      obtain ⟨t, ht, rfl, rfl, hg1⟩ := hrel
      have HG1 := Lib.hid hg1
      obtain ⟨w1, rfl⟩ : ∃ w1 : World, w1 = wr := ⟨_, rfl⟩
      clear hg1
      by_cases hlt : t < 2
      · obtain rfl | rfl : t = 0 ∨ t = 1 := by omega
        · obtain ⟨q, hq⟩ : ∃ q, bst l' j 0 = q := ⟨_, rfl⟩
          have hql : q < l'.length := hq ▸ bst_lt hj 0
          rw [hq]
          have HQq := Lib.hid hq
          clear hq
          have u5 : (2 * (j : Int) + 1).toNat = 2 * j + 1 := by omega
          have u2 : (0 : Int) ≤ 2 * (j : Int) + 1 := by omega
          obtain ⟨c0, f0, s0⟩ := (HQ.out.isIn.blk.grew HG1.out).facts
          by_cases hkl : 2 * j + 1 < l'.length
          · have u1 : decide (2 * (j : Int) + 1 < (l'.length : Int)) = true := decide_eq_true (by omega)
            have u3 : 2 * (j : Int) + 1 < (l'.length : Int) := by omega
            have u6 : (0 : Int) ≤ (q : Int) := Int.natCast_nonneg _
            have u7 : (q : Int) < (l'.length : Int) := by omega
            obtain ⟨x, hx⟩ : ∃ x, l'[2 * j + 1]? = some x := ⟨_, List.getElem?_eq_getElem hkl⟩
            obtain ⟨y, hy⟩ : ∃ y, l'[q]? = some y := ⟨_, List.getElem?_eq_getElem hql⟩
            obtain ⟨g', off, hA, hgb, x0, x1, x2⟩ := (Sl.of_own (HQ.out.isIn.grew HG1.out).own).atItm hx
            cases hA
            obtain ⟨g', off, hA, -, y0, y1, y2⟩ := (Sl.of_own (HQ.out.isIn.grew HG1.out).own).atItm hy
            cases hA
            simp only [Nat.zero_add] at x0 x1 x2 y0 y1 y2
            have HX := Lib.hid (And.intro hx hy)
            clear hx hy hkl
            go_wp2_with fail
            refine wp_region_still_tail 22 (by kernel_rfl) (by kernel_rfl) ?_
            simp only [List.take_succ_cons, List.take_zero, List.drop_succ_cons, List.drop_zero]
            repeat still_step
            refine wpStill_nil ?_
            change wpList _ _ _ _ _ w1.drew
            by_cases hxy : x.lt y
            · go_wp2_with (go_at_call 68; refine (ahead_any x y true (decide_eq_true hxy) _).mono ?_; rintro e w2 ⟨rfl, hg2⟩; have HG2 := Lib.hid (show Grew w1 w2 from Grew.trans ((Chg.refl _ _).drew) hg2); clear hg2 c0 f0 s0 x0 x1 x2 y0 y1 y2)
              exact ⟨⟨0 + 1, by omega, rfl, by rw [bst_yes (t := 0) HX.out.1 (by rw [HQq.out]; exact HX.out.2) hxy]; congr 1, Grew.trans HG1.out HG2.out⟩, by simp [intOf]⟩
            · go_wp2_with (go_at_call 68; refine (ahead_any x y false (decide_eq_false hxy) _).mono ?_; rintro e w2 ⟨rfl, hg2⟩; have HG2 := Lib.hid (show Grew w1 w2 from Grew.trans ((Chg.refl _ _).drew) hg2); clear hg2 c0 f0 s0 x0 x1 x2 y0 y1 y2)
              exact ⟨⟨0 + 1, by omega, rfl, by rw [bst_no (t := 0) HX.out.1 (by rw [HQq.out]; exact HX.out.2) hxy, HQq.out], Grew.trans HG1.out HG2.out⟩, by simp [intOf]⟩
          · have u1 : decide (2 * (j : Int) + 1 < (l'.length : Int)) = false := decide_eq_false (by omega)
            go_wp2_with fail
            go_quiet (fail)
            go_wp2_with fail
            exact ⟨⟨0 + 1, by omega, rfl, by rw [bst_out (t := 0) (by omega), HQq.out], Grew.trans HG1.out ((Chg.refl _ _).drewN nq)⟩, by simp [intOf]⟩
        · obtain ⟨q, hq⟩ : ∃ q, bst l' j 1 = q := ⟨_, rfl⟩
          have hql : q < l'.length := hq ▸ bst_lt hj 1
          rw [hq]
          have HQq := Lib.hid hq
          clear hq
          have u5 : (2 * (j : Int) + 2).toNat = 2 * j + 2 := by omega
          have u2 : (0 : Int) ≤ 2 * (j : Int) + 2 := by omega
          obtain ⟨c0, f0, s0⟩ := (HQ.out.isIn.blk.grew HG1.out).facts
          by_cases hkl : 2 * j + 2 < l'.length
          · have u1 : decide (2 * (j : Int) + 2 < (l'.length : Int)) = true := decide_eq_true (by omega)
            have u3 : 2 * (j : Int) + 2 < (l'.length : Int) := by omega
            have u6 : (0 : Int) ≤ (q : Int) := Int.natCast_nonneg _
            have u7 : (q : Int) < (l'.length : Int) := by omega
            obtain ⟨x, hx⟩ : ∃ x, l'[2 * j + 2]? = some x := ⟨_, List.getElem?_eq_getElem hkl⟩
            obtain ⟨y, hy⟩ : ∃ y, l'[q]? = some y := ⟨_, List.getElem?_eq_getElem hql⟩
            obtain ⟨g', off, hA, hgb, x0, x1, x2⟩ := (Sl.of_own (HQ.out.isIn.grew HG1.out).own).atItm hx
            cases hA
            obtain ⟨g', off, hA, -, y0, y1, y2⟩ := (Sl.of_own (HQ.out.isIn.grew HG1.out).own).atItm hy
            cases hA
            simp only [Nat.zero_add] at x0 x1 x2 y0 y1 y2
            have HX := Lib.hid (And.intro hx hy)
            clear hx hy hkl
            go_wp2_with fail
            refine wp_region_still_tail 22 (by kernel_rfl) (by kernel_rfl) ?_
            simp only [List.take_succ_cons, List.take_zero, List.drop_succ_cons, List.drop_zero]
            repeat still_step
            refine wpStill_nil ?_
            change wpList _ _ _ _ _ w1.drew
            by_cases hxy : x.lt y
            · go_wp2_with (go_at_call 68; refine (ahead_any x y true (decide_eq_true hxy) _).mono ?_; rintro e w2 ⟨rfl, hg2⟩; have HG2 := Lib.hid (show Grew w1 w2 from Grew.trans ((Chg.refl _ _).drew) hg2); clear hg2 c0 f0 s0 x0 x1 x2 y0 y1 y2)
              exact ⟨⟨1 + 1, by omega, rfl, by rw [bst_yes (t := 1) HX.out.1 (by rw [HQq.out]; exact HX.out.2) hxy]; congr 1, Grew.trans HG1.out HG2.out⟩, by simp [intOf]⟩
            · go_wp2_with (go_at_call 68; refine (ahead_any x y false (decide_eq_false hxy) _).mono ?_; rintro e w2 ⟨rfl, hg2⟩; have HG2 := Lib.hid (show Grew w1 w2 from Grew.trans ((Chg.refl _ _).drew) hg2); clear hg2 c0 f0 s0 x0 x1 x2 y0 y1 y2)
              exact ⟨⟨1 + 1, by omega, rfl, by rw [bst_no (t := 1) HX.out.1 (by rw [HQq.out]; exact HX.out.2) hxy, HQq.out], Grew.trans HG1.out HG2.out⟩, by simp [intOf]⟩
          · have u1 : decide (2 * (j : Int) + 2 < (l'.length : Int)) = false := decide_eq_false (by omega)
            go_wp2_with fail
            go_quiet (fail)
            go_wp2_with fail
            exact ⟨⟨1 + 1, by omega, rfl, by rw [bst_out (t := 1) (by omega), HQq.out], Grew.trans HG1.out ((Chg.refl _ _).drewN nq)⟩, by simp [intOf]⟩
      · obtain rfl : t = 2 := by omega
        have hb1 := bst_lt hj 2
        have hb0 := bst_ge l' j 2
        obtain ⟨q, hq⟩ : ∃ q, bst l' j 2 = q := ⟨_, rfl⟩
        have HQq := Lib.hid hq
        rw [hq] at hb1 hb0 ⊢
        clear hq
        by_cases hqj : q = j
        · subst hqj
          have t1 : ((q : Int) == (q : Int)) = true := by simp
          go_wp2_with fail
          refine bodyPost_ret (results_none rfl _ _ _) rfl ?_
          exact ⟨rfl, by rw [← HU.out.2.1, downL_stop HQq.out]; exact HQ.out.grew HG1.out, HU.out.2.2.grew HG1.out⟩
        · have t1 : ((q : Int) == (j : Int)) = false := by simp; omega
          go_wp2_with (go_at_call 69; refine (swap_any b j q l' (some ⟨g, 0, none⟩) c M added _ (HQ.out.grew HG1.out) hj (by omega) (by omega)).mono ?_; rintro e w3 ⟨rfl, hq3, hc3⟩; have HQ3 := Lib.hid (And.intro hq3 hc3); clear hq3 hc3)
          have hqe := HQq.out
          have hgo := downL_go hj (by rw [hqe]; exact hqj)
          rw [hqe] at hgo
          have hll := HU.out.1
          exact ⟨⟨q, swp l' j q, rfl, by rw [swp_len]; exact hb1, by rw [swp_len]; exact HU.out.1, HQ3.out.1, by rw [← HU.out.2.1, hgo], Chg.trans HU.out.2.2 (Chg.trans HG1.out.chg HQ3.out.2 fun _ _ e => e) fun _ _ e => e⟩, by simp [intOf]; omega⟩

end Go.Proofs.Ytjpkpckgkhbfpaa
