/- The rent: First; the law's same. -/
import Derived.Test.YtjpkpckgkhbfpaaRenT
namespace Go.Proofs.Ytjpkpckgkhbfpaa
open Go.RowKit Go.Maps

set_option maxHeartbeats 800000 in
theorem rfirst_none (b : Nat) (F : Nat → Prop) (k : Nat) (w : World) (hs : RS w b F [] k) (hk : k ≤ 900000) :
    Calls Try.prog 36 #[.pointer (some ⟨b, 0, none⟩)] w fun e w' => e = .returned (.tuple #[.int .i64 0, .int .i64 0, .bool false]) ∧ Grew w w' := by
  have H := Lib.hid hs
  clear hs
  go_enter Try.func36, Try.ntmps36
  go_wp2_with (go_at_call 38; refine (rnext_any b F [] k Rw.zero false _ H.out List.Pairwise.nil hk (.inl ⟨rfl, rfl, rfl⟩)).mono ?_; rintro e w1 ⟨rfl, hg⟩; have HG := Lib.hid hg; clear hg)
  refine bodyPost_ret (v := .tuple #[.int .i64 0, .int .i64 0, .bool false]) (by simp [results, Try.results36, go_sem]) rfl ?_
  exact ⟨rfl, by (repeat (first | (with_reducible exact HG.out) | (with_reducible refine Chg.alloc ?_ _) | (with_reducible refine Chg.drew ?_) | (with_reducible refine Chg.drewN ?_ _) | ((with_reducible refine Chg.setCell ?_ ?hp _); (case hp => (intro h; exfalso; simp at h; try omega)))))⟩

set_option maxHeartbeats 800000 in
theorem rfirst_some (b : Nat) (F : Nat → Prop) (x : List Rw) (k : Nat) (o : Rw) (w : World) (hs : RS w b F x k) (hx : rising x) (hk : k ≤ 900000) (ho : Least x o) :
    Calls Try.prog 36 #[.pointer (some ⟨b, 0, none⟩)] w fun e w' => e = .returned (.tuple #[.int .i64 o.house, .int .i64 (o.due + 41), .bool true]) ∧ Grew w w' := by
  have H := Lib.hid (And.intro hs (And.intro hx ho))
  have hf := hs.fits o ho.1
  have e1 : wrap64 (o.due + 40) = o.due + 40 := IntWalk.wrap64_in _ (by have := hf.2.2.2.2; omega)
  have e2 : wrap64 (o.due + 40 + 1) = o.due + 41 := by rw [IntWalk.wrap64_in _ (by have := hf.2.2.2.2; omega)]; omega
  clear hs hx ho hf
  go_enter Try.func36, Try.ntmps36
  go_wp2_with (go_at_call 38; refine (rnext_any b F x k o true _ H.out.1 H.out.2.1 hk (.inr ⟨H.out.2.2, rfl⟩)).mono ?_; rintro e w1 ⟨rfl, hg⟩; have HG := Lib.hid hg; clear hg)
  go_quiet (fail)
  go_wp2
  refine bodyPost_ret (v := .tuple #[.int .i64 o.house, .int .i64 (o.due + 41), .bool true]) (by simp [results, Try.results36, go_sem, e1, e2]) rfl ?_
  exact ⟨rfl, by (repeat (first | (with_reducible exact HG.out) | (with_reducible refine Chg.alloc ?_ _) | (with_reducible refine Chg.drew ?_) | (with_reducible refine Chg.drewN ?_ _) | ((with_reducible refine Chg.setCell ?_ ?hp _); (case hp => (intro h; exfalso; simp at h; try omega)))))⟩

set_option maxRecDepth 100000 in
set_option maxHeartbeats 3200000 in
theorem rsame_any (b : Nat) (F : Nat → Prop) (x : List Rw) (k : Nat) (A : Option Addr) (c : Nat) (w : World) (hs : RS w b F x k) (hx : rising x) (hk : k ≤ 900000) (hsl : Sl w 3 A x.length (x.flatMap Rw.vals)) :
    Calls Try.prog 19 #[.pointer (some ⟨b, 0, none⟩), .slice A x.length c] w fun e w' => e = .returned (.bool true) ∧ Grew w w' := by
  have hxk : x.length ≤ 900000 := by obtain ⟨R, T, qb, l, A, c, M, added, hin, hp, hk2, -⟩ := hs; omega
  have H := Lib.hid (And.intro hs (And.intro hx hsl))
  clear hs hx hsl
  go_enter Try.func19, Try.ntmps19
  go_wp2_with (first
    | (go_at_call 35; refine (rrows_any b F x k _ H.out.1 H.out.2.1 (by omega)).mono ?_; rintro e w1 ⟨A1, c1, rfl, ho, hg⟩; have HR := Lib.hid (And.intro (Sl.of_own ho) hg); clear ho hg)
    | (go_at_call 25; refine (rlen_any b F x k _ (H.out.1.grew HR.out.2)).mono ?_; rintro e w2 ⟨rfl, rfl⟩))
  go_loopw [6, 7, 8, 29] (fun _ _ _ i wr => ∃ j : Nat, j ≤ x.length ∧ i = .int .i64 j ∧ Grew w1 wr) (fun _ _ _ i _ => x.length - (intOf i).toNat)
  case atStart => exact ⟨0, Nat.zero_le _, rfl, Chg.refl _ _⟩
  case round =>
    obtain ⟨j, hj, rfl, hg⟩ := hrel
    have HG := Lib.hid hg
    clear hg
    by_cases hlt : j < x.length
    · obtain ⟨r, hr⟩ : ∃ r, x[j]? = some r := ⟨_, List.getElem?_eq_getElem hlt⟩
      obtain ⟨g1, o1, rfl, hb1, a0, a1, a2⟩ := (HR.out.1.grew HG.out).atRw hr
      obtain ⟨g2, o2, rfl, hb2, b0, b1, b2⟩ := ((H.out.2.2.grew HR.out.2).grew HG.out).atRw hr
      have hm := List.mem_of_getElem? hr
      have hf := H.out.1.fits r hm
      have HF := Lib.hid (And.intro (fnd_mem H.out.1.nd hm) (wfInt (i := r.house) (by have := hf.1; omega) hf.2.1))
      clear hr hm hf
      go_wp2_with (first
        | (rw [HW4.out])
        | (go_at_call 13; refine (rget_some _ F x k r.house r _ ((H.out.1.grew HR.out.2).grew HG.out) HF.out.2 HF.out.1).mono ?_; rintro e w3 ⟨rfl, hg3⟩; obtain ⟨W4, hW4⟩ : ∃ W4, w3.alloc (.cells #[.int .i64 r.house, .int .i64 r.rate, .int .i64 r.due] 30) = W4 := ⟨_, rfl⟩; have HW4 := Lib.hid hW4; have hg4 : Grew wr W4 := hW4 ▸ hg3.alloc _; have HB := Lib.hid (show Blk W4 w3.heap.size 30 #[.int .i64 r.house, .int .i64 r.rate, .int .i64 r.due] from hW4 ▸ Blk.new _ _ _); replace a0 := (hg4.cell (by exact hb1) id).trans a0; replace a1 := (hg4.cell (by exact hb1) id).trans a1; replace a2 := (hg4.cell (by exact hb1) id).trans a2; replace b0 := (hg4.cell (by exact hb2) id).trans b0; replace b1 := (hg4.cell (by exact hb2) id).trans b1; replace b2 := (hg4.cell (by exact hb2) id).trans b2; have hz3 := hg4.size; have HG3 := Lib.hid (Grew.trans HG.out hg4); clear hg3 hg4 hW4))
      obtain ⟨c0, f0, s0⟩ := HB.out.facts
      go_quiet (fail)
      go_wp2
      exact ⟨⟨j + 1, by omega, by simp, HG3.out.drewN nq⟩, by simp [intOf]; omega⟩
    · obtain rfl : j = x.length := by omega
      have HG2 := Lib.hid (Grew.trans HR.out.2 HG.out)
      clear hj hlt
      rcases Nat.eq_zero_or_pos x.length with h0 | h0
      · obtain rfl : x = [] := List.eq_nil_of_length_eq_zero h0
        go_wp2_with (first
          | (go_at_call 36; refine (rfirst_none b F k _ (H.out.1.grew HG2.out) hk).mono ?_; rintro e w5 ⟨rfl, hg5⟩; have HG5 := Lib.hid (Grew.trans HG2.out hg5); clear hg5)
          | (go_at_call 21; refine (xfirst_any [] A c _ (H.out.2.2.grew HG5.out) (by simp)).mono ?_; rintro e w6 ⟨rfl, hg6⟩; have HG6 := Lib.hid (Grew.trans HG5.out hg6); clear hg6))
        go_ret
        exact ⟨rfl, HG6.out⟩
      · obtain ⟨n, hn⟩ := frI_some x x.length h0
        obtain ⟨o, hno, hL⟩ := frI_is H.out.2.1 hn
        have hnl := frI_lt x _ n hn
        have e1 : frV (frI x x.length) = (n : Int) := by rw [hn]; rfl
        have HL := Lib.hid (And.intro hL e1)
        have HNO := Lib.hid hno
        have t1 : decide ((n : Int) < 0) = false := decide_eq_false (by omega)
        have u1 : (n : Int) < (x.length : Int) := by omega
        clear hno hL hn e1
        go_wp2_with (first
          | (go_at_call 36; refine (rfirst_some b F x k o _ (H.out.1.grew HG2.out) H.out.2.1 hk HL.out.1).mono ?_; rintro e w5 ⟨rfl, hg5⟩; have HG5 := Lib.hid (Grew.trans HG2.out hg5); clear hg5)
          | (go_at_call 21; refine (xfirst_any x A c _ (H.out.2.2.grew HG5.out) (by omega)).mono ?_; rintro e w6 ⟨rfl, hg6⟩; rw [HL.out.2]; have HG6 := Lib.hid (Grew.trans HG5.out hg6); clear hg6; obtain ⟨g2, o2, rfl, hb2, b0, b1, b2⟩ := (H.out.2.2.grew HG6.out).atRw HNO.out))
        go_ret
        have hf := H.out.1.fits o HL.out.1.1
        have e7 : wrap64 (o.due + 41) = o.due + 41 := IntWalk.wrap64_in _ (by have := hf.2.2.2.2; omega)
        rw [e7]
        exact ⟨by simp, HG6.out⟩

end Go.Proofs.Ytjpkpckgkhbfpaa
