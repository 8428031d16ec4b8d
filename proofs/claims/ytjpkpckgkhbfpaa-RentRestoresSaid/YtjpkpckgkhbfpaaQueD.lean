/- The queue: up. -/
import Derived.Test.YtjpkpckgkhbfpaaQueC
import Derived.StillTailTactics
namespace Go.Proofs.Ytjpkpckgkhbfpaa
open Go.RowKit Go.Maps

/-- An item goes up, as far as it is ahead. -/
def upL (l : List Itm) (i : Nat) : List Itm :=
  if h : 0 < i then
    match l[i]?, l[(i - 1) / 2]? with
    | some x, some p => if x.lt p then upL (swp l i ((i - 1) / 2)) ((i - 1) / 2) else l
    | _, _ => l
  else l
termination_by i
decreasing_by omega

theorem upL_zero (l : List Itm) : upL l 0 = l := by unfold upL; simp
theorem upL_stop {l : List Itm} {i : Nat} {x p : Itm} (hx : l[i]? = some x) (hp : l[(i - 1) / 2]? = some p) (h : ¬ x.lt p) : upL l i = l := by
  unfold upL
  split
  · rw [hx, hp]; simp [h]
  · rfl
theorem upL_go {l : List Itm} {i : Nat} {x p : Itm} (hi : 0 < i) (hx : l[i]? = some x) (hp : l[(i - 1) / 2]? = some p) (h : x.lt p) : upL l i = upL (swp l i ((i - 1) / 2)) ((i - 1) / 2) := by
  rw [upL, dif_pos hi, hx, hp]
  simp [h]

set_option maxRecDepth 100000 in
set_option maxHeartbeats 1600000 in
theorem up_any (b i : Nat) (l : List Itm) (A : Option Addr) (c M : Nat) (added : Int) (w : World) (h : Q w b l A c M added) (hi : i < l.length) (hl : l.length ≤ 1000000) :
    Calls Try.prog 55 #[.pointer (some ⟨b, 0, none⟩), .int .i64 i] w fun e w' => e = .returned (.tuple #[]) ∧ Q w' b (upL l i) A c M added ∧ Chg (QF b A M) w w' := by
  have H := Lib.hid h
  clear h
  go_enter Try.func55, Try.ntmps55
  go_wp2_with fail
  go_loopw [1] (fun v wr => ∃ (j : Nat) (l' : List Itm), v = .int .i64 j ∧ j < l'.length ∧ l'.length = l.length ∧ Q wr b l' A c M added ∧ upL l' j = upL l i ∧ Chg (QF b A M) w wr) (fun v _ => (intOf v).toNat)
  case atStart => exact ⟨i, l, rfl, hi, rfl, H.out, rfl, Chg.refl _ _⟩
  case round =>
    obtain ⟨j, l', rfl, hj, hll, hQ, hup, hc⟩ := hrel
    have HQ := Lib.hid hQ
    have HU := Lib.hid (And.intro hll (And.intro hup hc))
    have hl' : l'.length ≤ 1000000 := by omega
    obtain ⟨wo, rfl⟩ : ∃ wo : World, wo = wr := ⟨_, rfl⟩
    clear hQ hup hc hll
    by_cases hj0 : 0 < j
    · obtain ⟨x, hx⟩ : ∃ x, l'[j]? = some x := ⟨_, List.getElem?_eq_getElem hj⟩
      obtain ⟨p, hp⟩ : ∃ p, l'[(j - 1) / 2]? = some p := ⟨_, List.getElem?_eq_getElem (by omega)⟩
      obtain ⟨g, rfl, hg⟩ := own_block HQ.out.isIn.own (by omega)
      obtain ⟨g', off, hA, hgb, x0, x1, x2⟩ := (Sl.of_own HQ.out.isIn.own).atItm hx
      cases hA
      obtain ⟨g', off, hA, -, p0, p1, p2⟩ := (Sl.of_own HQ.out.isIn.own).atItm hp
      cases hA
      simp only [Nat.zero_add] at x0 x1 x2 p0 p1 p2
      obtain ⟨c0, f0, s0⟩ := HQ.out.isIn.blk.facts
      have HX := Lib.hid (And.intro hx hp)
      clear hx hp
      have t1 : decide (0 < (j : Int)) = true := decide_eq_true (by omega)
      have t2 : (0 : Int) ≤ (j : Int) := Int.natCast_nonneg _
      have t3 : (j : Int) < (l'.length : Int) := by omega
      have t4 : (0 : Int) ≤ (((j - 1) / 2 : Nat) : Int) := Int.natCast_nonneg _
      have t5 : (((j - 1) / 2 : Nat) : Int) < (l'.length : Int) := by omega
      have e1 : IntKind.i64.wrap ((j : Int) - 1) = ((j - 1 : Nat) : Int) := by rw [show ((j : Int) - 1) = ((j - 1 : Nat) : Int) by omega]; exact wrap_nat (by omega)
      have e4 : ((j - 1 : Nat) : Int) / 2 = (((j - 1) / 2 : Nat) : Int) := by omega
      have E4 := Lib.hid e4
      have e2 : IntKind.i64.wrap (((j - 1 : Nat) : Int) / 2) = ((j - 1 : Nat) : Int) / 2 := by rw [e4]; exact wrap_nat (by omega)
      have e3 : (((j - 1 : Nat) : Int) / 2).toNat = (j - 1) / 2 := by omega
      have t6 : 0 ≤ ((j - 1 : Nat) : Int) / 2 := by omega
      have t7 : ((j - 1 : Nat) : Int) / 2 < (l'.length : Int) := by omega
      clear e4
      go_wp2_with fail
      refine wp_region_still_tail 19 (by kernel_rfl) (by kernel_rfl) ?_
      simp only [List.take_succ_cons, List.take_zero, List.drop_succ_cons, List.drop_zero]
      repeat still_step
      refine wpStill_nil ?_
      change wpList _ _ _ _ _ wo.drew
      by_cases hlt : x.lt p
      · go_wp2_with (go_at_call 68; refine (ahead_any x p true (decide_eq_true hlt) _).mono ?_; rintro e w2 ⟨rfl, hg2⟩; have HG2 := Lib.hid (show Grew wo w2 from Grew.trans ((Chg.refl _ _).drew) hg2); clear hg2 c0 f0 s0 x0 x1 x2 p0 p1 p2)
        rw [E4.out]
        refine (swap_any b j ((j - 1) / 2) l' (some ⟨g, 0, none⟩) c M added _ (HQ.out.grew HG2.out) hj (by omega) (by omega)).mono ?_
        rintro e w3 ⟨rfl, hq3, hc3⟩
        have HQ3 := Lib.hid (And.intro hq3 hc3)
        clear hq3 hc3
        go_wp2_with fail
        exact ⟨⟨(j - 1) / 2, swp l' j ((j - 1) / 2), by rw [E4.out], by rw [swp_len]; omega, by rw [swp_len]; exact HU.out.1, HQ3.out.1, by rw [← HU.out.2.1, ← upL_go hj0 HX.out.1 HX.out.2 hlt], Chg.trans HU.out.2.2 (Chg.trans HG2.out.chg HQ3.out.2 fun _ _ e => e) fun _ _ e => e⟩, by simp [intOf]; omega⟩
      · go_wp2_with (go_at_call 68; refine (ahead_any x p false (decide_eq_false hlt) _).mono ?_; rintro e w2 ⟨rfl, hg2⟩; have HG2 := Lib.hid (show Grew wo w2 from Grew.trans ((Chg.refl _ _).drew) hg2); clear hg2 c0 f0 s0 x0 x1 x2 p0 p1 p2)
        refine bodyPost_end (results_none rfl _ _ _) rfl ?_
        exact ⟨rfl, by rw [← HU.out.2.1, upL_stop HX.out.1 HX.out.2 hlt]; exact HQ.out.grew HG2.out, HU.out.2.2.grew HG2.out⟩
    · obtain rfl : j = 0 := by omega
      have t1 : decide ((0 : Int) < ((0 : Nat) : Int)) = false := by decide
      go_wp2_with fail
      go_quiet (fail)
      go_wp2_with fail
      refine bodyPost_end (results_none rfl _ _ _) rfl ?_
      exact ⟨rfl, by rw [← HU.out.2.1, upL_zero]; exact HQ.out.grew ((Chg.refl _ _).drewN nq), HU.out.2.2.grew ((Chg.refl _ _).drewN nq)⟩

end Go.Proofs.Ytjpkpckgkhbfpaa
