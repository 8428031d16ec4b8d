/- The queue's law: the queue and the document's list tell the same. -/
import Derived.Test.YtjdbaeogoifdfaaQueXe
import Derived.Test.YtjdbaeogoifdfaaQueXf
import Derived.Test.YtjdbaeogoifdfaaQueG
import Derived.StillTailTactics
namespace Go.Proofs.Ytjdbaeogoifdfaa
open Go.RowKit Go.Maps
attribute [local go_sem] Oper.semAt_some

/-- Between two rounds of the law's range over All, and in one. -/
structure SameJ (Wr W : World) (bi L : Nat) (i n : Nat) (r : Loop) (st : LoopState) (pe : Option Code) : Prop where
  chg : Chg (fun j => j = bi ∨ j = L) Wr W
  i_ : Blk W bi 3 #[.int .i64 i]
  rc : Rec W L (Loop.at_ r st pe)
  le : i ≤ n
section
variable {Wr W W' : World} {bi L i n : Nat} {r : Loop} {st st' : LoopState} {pe pe' : Option Code}
theorem SameJ.kept (h : SameJ Wr W bi L i n r st pe) (hk : Kept L W W') (hR : Rec W' L (Loop.at_ r st' pe')) : SameJ Wr W' bi L i n r st' pe' :=
  ⟨Chg.trans h.chg hk.chg fun i _ e => .inr e, h.i_.kept hk, hR, h.le⟩
theorem SameJ.next (h : SameJ Wr W bi L i n r st pe) (hi : i < n) (hW : (W.setCell ⟨bi, 0, none⟩ (.int .i64 ((i : Int) + 1))) = W') : SameJ Wr W' bi L (i + 1) n r st pe := by
  have hc : Chg (fun j => j = bi) W W' := hW ▸ (Chg.refl (fun j => j = bi) W).setCell (p := ⟨bi, 0, none⟩) (fun _ => rfl) _
  refine ⟨Chg.trans h.chg hc fun i _ e => .inl e, ?_, h.rc.chg hc (h.rc.ne_blk h.i_), hi⟩
  subst hW
  have := h.i_.put 0 (.int .i64 ((i : Int) + 1))
  simpa using this
theorem SameJ.drew (h : SameJ Wr W bi L i n r st pe) (m : Nat) : SameJ Wr (W.drewN m) bi L i n r st pe := ⟨h.chg.drewN m, h.i_.drewN m, h.rc.grew ((Chg.refl _ _).drewN m), h.le⟩
theorem SameJ.far (h : SameJ Wr W bi L i n r st pe) (h1 : bi < Wr.heap.size) (h2 : L < Wr.heap.size) (hc : Chg (fun k => Wr.heap.size ≤ k) W W') : SameJ Wr W' bi L i n r st pe :=
  ⟨Chg.trans h.chg hc fun i hi e => by omega, h.i_.chg hc (by omega), h.rc.chg hc (by omega), h.le⟩
theorem SameJ.then {W2 : World} {k : Nat} {st2 : LoopState} {pe2 : Option Code} (h : SameJ Wr W bi L i n r st pe) (h2 : SameJ W W2 bi L k n r st2 pe2) : SameJ Wr W2 bi L k n r st2 pe2 :=
  ⟨Chg.trans h.chg h2.chg fun _ _ e => e, h2.i_, h2.rc, h2.le⟩
end

set_option maxRecDepth 100000 in
set_option maxHeartbeats 6400000 in
theorem ssame_any (w : Bs) (W : World) (b S c M cs : Nat) (l s : List Itm) (A As : Option Addr) (added : Int) (h : SQ w W b S l s A c M As cs added) (hl : l.length ≤ 1000) :
    Calls Try.prog 15 #[.pointer (some ⟨S, 0, none⟩), .pointer (some ⟨b, 0, none⟩)] W fun e w' => e = .returned (.bool true) ∧ Grew W w' := by
  obtain ⟨W0, hW0⟩ : ∃ W0, ((W.alloc (.cells #[.pointer (some ⟨S, 0, none⟩)] 34)).alloc (.cells #[.bool false] 4)).alloc (.cells #[.int .i64 0] 3) = W0 := ⟨_, rfl⟩
  have HW0 := Lib.hid hW0
  have HG0 := Lib.hid (show Grew W W0 from hW0 ▸ (((Chg.refl _ _).alloc _).alloc _).alloc _)
  have HB0 := Lib.hid (show Blk W0 W.heap.size 34 #[.pointer (some ⟨S, 0, none⟩)] from hW0 ▸ ((Blk.new _ _ _).alloc _).alloc _)
  have HB1 := Lib.hid (show Blk W0 (W.heap.size + 1) 4 #[.bool false] from hW0 ▸ (by have := (Blk.new (W.alloc (.cells #[.pointer (some ⟨S, 0, none⟩)] 34)) 4 #[.bool false]).alloc (.cells #[.int .i64 0] 3); simpa using this))
  have HB2 := Lib.hid (show Blk W0 (W.heap.size + 2) 3 #[.int .i64 0] from hW0 ▸ (by have := Blk.new ((W.alloc (.cells #[.pointer (some ⟨S, 0, none⟩)] 34)).alloc (.cells #[.bool false] 4)) 3 #[.int .i64 0]; simpa using this))
  have H0 := Lib.hid (h.on HG0.out)
  have hSw := h.p.blk.lt
  have HQF := Lib.hid (fun j (hj : QF b A M j) => QF_old h.p.q.q hj)
  have HAs := Lib.hid (fun a (ha : As = some a) => (h.p.far a ha).1)
  have Hlen := Lib.hid h.len
  have hsl : s.length ≤ 1000 := by rw [h.len]; exact hl
  clear h hW0
  (refine calls_of_marks Try.func15 rfl ?_; simp only [Try.ntmps15, List.size_toArray, List.length_cons, List.length_nil, Nat.reduceAdd, Nat.reduceSub, Array.replicate_succ, Array.replicate_zero, List.push_toArray, List.append_toArray, List.nil_append, List.cons_append])
  go_wp2_with fail
  rw [HW0.out]
  obtain ⟨W1, hW1⟩ : ∃ W1, W0.alloc (.cells #[.pointer (some ⟨b, 0, none⟩)] 23) = W1 := ⟨_, rfl⟩
  go_wp2_with (go_at_call 27; refine (qall_any b _ W1 hW1).mono ?_; rintro e w5 ⟨rfl, rfl⟩)
  have HG1 := Lib.hid (show Grew W0 W1 from hW1 ▸ (Chg.refl _ _).alloc _)
  have HBq := Lib.hid (show Blk W1 W0.heap.size 23 #[.pointer (some ⟨b, 0, none⟩)] from hW1 ▸ Blk.new _ _ _)
  have hz0 := HB2.out.lt
  clear hW1
  refine wp_range (gf := 35) (lb := #[.pointer (some ⟨W0.heap.size, 0, none⟩)]) rfl (enters_of Try.func35 (by kernel_rfl) rfl) ?_
  intro r Wr D L hr hg1 hDl hLl hD hR
  have HR1 := Lib.hid hr
  have hDL := Ne.symm (hR.ne_dfr hD)
  have hz1 := HBq.out.lt
  have hz2 := hg1.size
  have hL2 := hR.lt
  have hD2 := hD.lt
  have HGr := Lib.hid (Grew.trans HG1.out hg1)
  have Hr := Lib.hid (H0.out.on HGr.out)
  have HB0r := Lib.hid (HB0.out.grew HGr.out)
  have HB1r := Lib.hid (HB1.out.grew HGr.out)
  have HJ0 := Lib.hid (show SameJ Wr Wr (W.heap.size + 2) L 0 s.length r .ready none from ⟨Chg.refl _ _, HB2.out.grew HGr.out, hR, Nat.zero_le _⟩)
  have HDf := Lib.hid hD
  have HBqr := Lib.hid (HBq.out.grew hg1)
  clear hr hg1 hD hR
  refine (qall_iter W0.heap.size b L l s A c M added (fun i W' => SameJ Wr W' (W.heap.size + 2) L i s.length r .ready none) (fun _ _ => False) Wr (by omega) HBqr.out Hr.out.p.q.q Hr.out.ql
    (fun i W W' hJ hc => hJ.far (by omega) hL2 hc) (fun i x W' hJ hx => ?yld) HJ0.out).mono ?post
  case yld =>
    have hk : i < s.length := (List.getElem?_eq_some_iff.1 hx).1
    have HX := Lib.hid hx
    have HJ := Lib.hid hJ
    have hws := hJ.chg.size
    clear hJ hx
    obtain ⟨hr1, hr2, hr3, hr4⟩ := HR1.out
    refine yield_wide HJ.out.rc (by rw [hr2]; rfl) ?_
    rw [hr1, hr2, hr3, hr4]
    clear hr1 hr2 hr3 hr4
    intro K hK
    have HK := Lib.hid hK
    clear hK
    gi_wp2
    refine HK.out _ _ HJ.out.rc fun W3 Q hk3 hR2 hQ => ?_
    have HQ := Lib.hid hQ
    have HJ3 := Lib.hid (show SameJ W' W3 (W.heap.size + 2) L i s.length r .busy none from ⟨hk3.chg.mono fun _ _ e => .inr e, HJ.out.i_.kept hk3, hR2, HJ.out.le⟩)
    clear hk3 hR2 hQ
    have hC3 : Chg (fun j => j = W.heap.size + 2 ∨ j = L) Wr W3 := (HJ.out.then HJ3.out).chg
    have HB3 := Lib.hid (HB0r.out.chg hC3 (by omega))
    have HS3 := Lib.hid (Hr.out.p.blk.chg hC3 (by omega))
    have HL3 := Lib.hid (Hr.out.p.sl.chg hC3 (fun a ha e => by have := HAs.out a ha; omega))
    clear hC3
    obtain ⟨c0, f0, s0⟩ := HB3.out.facts
    obtain ⟨c1, f1, s1⟩ := HS3.out.facts
    obtain ⟨c2, f2, s2⟩ := HJ3.out.i_.facts
    obtain ⟨g, off, eA, hgb, d0, d1, d2⟩ := HL3.out.atItm HX.out
    subst eA
    have t1 : decide (s.length ≤ i) = false := by simp; omega
    have t2 : decide ((s.length : Int) ≤ (i : Int)) = false := by simp; omega
    have t3 : (0 : Int) ≤ (i : Int) := Int.natCast_nonneg _
    have t4 : (i : Int) < (s.length : Int) := by omega
    gi_wp2
    (refine wpIn_region_quiet_round (by kernel_rfl) (by kernel_rfl) (by kernel_rfl) ?_; (repeat (gi_big_quiet_step ((fail)))); refine wpQuietIn_nil ?_; intro _ hw_; obtain ⟨nq, hw2_⟩ := hw_; subst hw2_)
    gi_wp2
    have hJ8 := (HJ3.out.drew nq).next hk rfl
    exact HQ.out _ _ _ ⟨hJ8.rc, fun w' hk' hR' => ⟨.inl ⟨rfl, HJ.out.then (hJ8.kept hk' hR')⟩, (hJ8.kept hk' hR').chg.mono fun _ _ e => by rcases e with e | e <;> omega⟩⟩
  case post =>
    rintro e w3 ⟨hv, hJ | ⟨_, hJ⟩⟩
    rotate_left
    · exact hJ.elim
    refine ⟨hv, .inl ⟨hJ.rc, fun w4 hk4 => ?_⟩⟩
    have HC4 := Lib.hid (Chg.trans hJ.chg hk4.chg fun i _ e => .inr e)
    have HI4 := Lib.hid (hJ.i_.kept hk4)
    clear hJ hk4
    have HD4 := Lib.hid (HDf.out.chg HC4.out (by omega))
    have HB4 := Lib.hid (HB0r.out.chg HC4.out (by omega))
    have HR4 := Lib.hid (HB1r.out.chg HC4.out (by omega))
    have HS4 := Lib.hid (Hr.out.p.blk.chg HC4.out (by omega))
    have HL4 := Lib.hid (Hr.out.p.sl.chg HC4.out (fun a ha e => by have := HAs.out a ha; omega))
    have HQ4 := Lib.hid (Hr.out.p.q.q.chg HC4.out (fun k hk e => by have := HQF.out k hk; omega))
    have hcw4 := HC4.out.size
    have HGw := Lib.hid (show Grew W w4 from Chg.mono (Chg.trans (F := fun j => W.heap.size ≤ j) (Grew.trans HG0.out HGr.out).chg HC4.out fun i hi e => by rcases e with e | e <;> omega) fun i hi e => absurd e (by omega))
    by_cases hs0 : s.length = 0
    · have hl0 : l = [] := List.eq_nil_of_length_eq_zero (by rw [← Hlen.out]; exact hs0)
      subst hl0
      obtain ⟨c0, f0, s0⟩ := HB4.out.facts
      obtain ⟨c1, f1, s1⟩ := HS4.out.facts
      obtain ⟨c2, f2, s2⟩ := HI4.out.facts
      have t1 : ((s.length : Int) == 0) = true := by simp [hs0]
      have Hs0 := Lib.hid hs0
      clear hs0
      go_wp2_with fail
      refine (first_none b A c M added w4 HQ4.out).mono ?_
      rintro e w5 ⟨rfl, hg5⟩
      have HG5 := Lib.hid hg5
      clear hg5 c0 f0 s0 c1 f1 s1 c2 f2 s2
      obtain ⟨c0, f0, s0⟩ := (HB4.out.grew HG5.out).facts
      obtain ⟨c1, f1, s1⟩ := (HS4.out.grew HG5.out).facts
      obtain ⟨c2, f2, s2⟩ := (HI4.out.grew HG5.out).facts
      obtain ⟨c3, f3, s3⟩ := (HR4.out.grew HG5.out).facts
      have HQ5 := Lib.hid (HQ4.out.grew HG5.out)
      go_wp2_with fail
      refine wp_region_still_tail 20 (by kernel_rfl) (by kernel_rfl) ?_
      simp only [List.take_succ_cons, List.take_zero, List.drop_succ_cons, List.drop_zero]
      repeat (first | still_step | still_call ((len_any b [] A c M added _ (HQ5.out.grew ((Chg.refl _ _).drew))).mono fun _ _ h => ⟨h.1, h.2.symm⟩) | still_call ((added_any b [] A c M added _ (HQ5.out.grew ((Chg.refl _ _).drew))).mono fun _ _ h => ⟨h.1, h.2.symm⟩))
      refine wpStill_nil ?_
      change wpList _ _ _ _ _ w5.drew
      go_wp2
      clear c0 f0 s0 c1 f1 s1 c2 f2 s2 c3 f3 s3
      refine postM_ret1 (v := .bool true) (D := D) ?_ rfl fun w6 hk6 => ?_
      · refine (HD4.out.grew HG5.out).chg (F := fun j => j = W.heap.size + 1) ?_ ?_
        · (repeat (first | (with_reducible exact (Chg.refl _ _)) | (with_reducible refine Chg.alloc ?_ _) | (with_reducible refine Chg.drew ?_) | (with_reducible refine Chg.drewN ?_ _) | ((with_reducible refine Chg.setCell ?_ ?hp _); (case hp => (intro _; rfl)))))
        · show ¬ D = W.heap.size + 1
          omega
      · refine ⟨?_, rfl, ?_⟩
        · obtain ⟨c2, f2, s2⟩ : (∀ i, w6.cell? ⟨W.heap.size + 1, i, none⟩ = #[Value.bool true][i]?) ∧ (∀ i, w6.frozen? ⟨W.heap.size + 1, i, none⟩ = false) ∧ W.heap.size + 1 < w6.heap.size := (Blk.kept (t := 4) (by (repeat (first | (with_reducible exact (HR4.out.grew HG5.out)) | (with_reducible apply Blk.drew) | (with_reducible apply Blk.drewN) | (with_reducible apply Blk.alloc) | (with_reducible apply Blk.putTo) | (with_reducible apply Blk.far))); (all_goals first | rfl | (simp; done) | (simp; omega))) hk6).facts
          simp [results, Try.results15, go_sem, c2, s2]
        · refine Chg.kept ?_ hk6 (by omega)
          (repeat (first | (with_reducible exact (Grew.trans HGw.out HG5.out)) | (with_reducible refine Chg.alloc ?_ _) | (with_reducible refine Chg.drew ?_) | (with_reducible refine Chg.drewN ?_ _) | ((with_reducible refine Chg.setCell ?_ ?hp _); (case hp => (intro h; exfalso; simp at h; try omega)))))
    · obtain ⟨x, hx⟩ : ∃ x, s[0]? = some x := ⟨_, List.getElem?_eq_getElem (by omega)⟩
      have hlx : l[0]? = some x := by rw [Hr.out.ql.first Hr.out.hp]; exact hx
      have HX := Lib.hid (And.intro hx hlx)
      have t1 : ((s.length : Int) == 0) = false := by simp; intro e; exact hs0 (by rw [e]; rfl)
      have u1 : (0 : Int) < (s.length : Int) := by omega
      have u2 : 0 < s.length := by omega
      clear hx hlx hs0
      obtain ⟨c0, f0, s0⟩ := HB4.out.facts
      obtain ⟨c1, f1, s1⟩ := HS4.out.facts
      obtain ⟨c2, f2, s2⟩ := HI4.out.facts
      go_wp2_with fail
      refine (first_some b x l A c M added w4 HQ4.out HX.out.2).mono ?_
      rintro e w5 ⟨rfl, hg5⟩
      have HG5 := Lib.hid hg5
      clear hg5 c0 f0 s0 c1 f1 s1 c2 f2 s2
      obtain ⟨c0, f0, s0⟩ := (HB4.out.grew HG5.out).facts
      obtain ⟨c1, f1, s1⟩ := (HS4.out.grew HG5.out).facts
      obtain ⟨c2, f2, s2⟩ := (HI4.out.grew HG5.out).facts
      obtain ⟨c3, f3, s3⟩ := (HR4.out.grew HG5.out).facts
      have HL5 := Lib.hid (HL4.out.grew HG5.out)
      obtain ⟨g, off, eA, hgb, d0, d1, d2⟩ := HL5.out.atItm HX.out.1
      subst eA
      simp only [Nat.zero_mul, Nat.add_zero] at d0 d1 d2
      have HQ5 := Lib.hid (HQ4.out.grew HG5.out)
      have HLe := Lib.hid (by have := len_any b l A c M added (w5.drew) (HQ5.out.grew ((Chg.refl _ _).drew)); rw [← Hlen.out] at this; exact this)
      go_wp2_with fail
      refine wp_region_still_tail 59 (by kernel_rfl) (by kernel_rfl) ?_
      simp only [List.take_succ_cons, List.take_zero, List.drop_succ_cons, List.drop_zero]
      repeat (first | still_step | still_call (HLe.out.mono fun _ _ h => ⟨h.1, h.2.symm⟩) | still_call ((added_any b l A c M added _ (HQ5.out.grew ((Chg.refl _ _).drew))).mono fun _ _ h => ⟨h.1, h.2.symm⟩))
      refine wpStill_nil ?_
      change wpList _ _ _ _ _ w5.drew
      go_wp2
      clear c0 f0 s0 c1 f1 s1 c2 f2 s2 c3 f3 s3 d0 d1 d2
      refine postM_ret1 (v := .bool true) (D := D) ?_ rfl fun w6 hk6 => ?_
      · refine (HD4.out.grew HG5.out).chg (F := fun j => j = W.heap.size + 1) ?_ ?_
        · (repeat (first | (with_reducible exact (Chg.refl _ _)) | (with_reducible refine Chg.alloc ?_ _) | (with_reducible refine Chg.drew ?_) | (with_reducible refine Chg.drewN ?_ _) | ((with_reducible refine Chg.setCell ?_ ?hp _); (case hp => (intro _; rfl)))))
        · show ¬ D = W.heap.size + 1
          omega
      · refine ⟨?_, rfl, ?_⟩
        · obtain ⟨c2, f2, s2⟩ : (∀ i, w6.cell? ⟨W.heap.size + 1, i, none⟩ = #[Value.bool true][i]?) ∧ (∀ i, w6.frozen? ⟨W.heap.size + 1, i, none⟩ = false) ∧ W.heap.size + 1 < w6.heap.size := (Blk.kept (t := 4) (by (repeat (first | (with_reducible exact (HR4.out.grew HG5.out)) | (with_reducible apply Blk.drew) | (with_reducible apply Blk.drewN) | (with_reducible apply Blk.alloc) | (with_reducible apply Blk.putTo) | (with_reducible apply Blk.far))); (all_goals first | rfl | (simp; done) | (simp; omega))) hk6).facts
          simp [results, Try.results15, go_sem, c2, s2]
        · refine Chg.kept ?_ hk6 (by omega)
          (repeat (first | (with_reducible exact (Grew.trans HGw.out HG5.out)) | (with_reducible refine Chg.alloc ?_ _) | (with_reducible refine Chg.drew ?_) | (with_reducible refine Chg.drewN ?_ _) | ((with_reducible refine Chg.setCell ?_ ?hp _); (case hp => (intro h; exfalso; simp at h; try omega)))))

end Go.Proofs.Ytjdbaeogoifdfaa
