/- The deeds: All; and that both tell the same. -/
import Derived.Test.YtkcakkblammpiaaDeeV
import Derived.StillTailTactics
namespace Go.Proofs.Ytkcakkblammpiaa
open Go.RowKit
attribute [local go_sem] Oper.semAt_some

set_option maxHeartbeats 800000 in
theorem values_iter (bs y : Nat) (l : List Dee) (A : Option Addr) (c : Nat) (J : Nat → World → Prop) (Jx : World → Prop) (w : World)
    (hin : ∀ k W, J k W → Blk W bs 49 #[.slice A l.length c] ∧ Sl W 3 A l.length (l.flatMap Dee.vals)) (hgr : ∀ k W W', J k W → Grew W W' → J k W')
    (hyld : ∀ k x W, J k W → l[k]? = some x → YieldAt Fence.wide 0 Try.prog y #[(.agg #[.int .i64 x.id, .int .i64 x.plot, .int .i64 x.holder])] W (Rounded (J (k + 1)) Jx))
    (h0 : J 0 w) (hl : l.length ≤ 1000000) :
    Calls Try.prog 42 #[.func (.yield y) #[] #[], .pointer (some ⟨bs, 0, none⟩)] w fun e w' => IterEnd (J l.length) Jx e w' := by
  obtain ⟨c1, f1, s1⟩ := (hin 0 w h0).1.facts
  have Hin := Lib.hid hin
  have Hgr := Lib.hid hgr
  have Hyld := Lib.hid hyld
  have H0 := Lib.hid h0
  clear hin hgr hyld h0
  (refine (callsIn_wide (n := 1)).1 (callsIn_of_wp Try.func42 rfl trivial ?_ rfl); simp only [Try.ntmps42, List.size_toArray, List.length_cons, List.length_nil, Nat.reduceAdd, Nat.reduceSub, Array.replicate_succ, Array.replicate_zero, List.push_toArray, List.append_toArray, List.nil_append, List.cons_append])
  gi_wp2
  clear c1 f1 s1
  gi_loopw [7] (fun i wr => ∃ k : Nat, k ≤ l.length ∧ i = .int .i64 k ∧ J k wr) (fun i _ => l.length - (intOf i).toNat)
  case atStart => exact ⟨0, Nat.zero_le _, rfl, H0.out⟩
  case round =>
    obtain ⟨k, hk, rfl, hJ⟩ := hrel
    have hI := Hin.out k wr hJ
    by_cases hlt : k < l.length
    · obtain ⟨x, hx⟩ : ∃ x, l[k]? = some x := ⟨_, List.getElem?_eq_getElem hlt⟩
      obtain ⟨g, off, rfl, hb, d0, d1, d2⟩ := hI.2.atDee hx
      obtain ⟨fn, tmps, assign, body, hy, hR⟩ := Hyld.out k x (wr.alloc (.cells #[.int .i64 x.id, .int .i64 x.plot, .int .i64 x.holder] 34)) (Hgr.out _ _ _ hJ ((Chg.refl _ _).alloc _)) hx
      have HR := Lib.hid hR
      clear hJ hI hx hR
      gi_wp2_with (refine HR.out.mono ?_; rintro e w2 (⟨rfl, hJ2⟩ | ⟨rfl, hJ2⟩) <;> have HJ2 := Lib.hid hJ2 <;> clear hJ2)
      · go_roundw
        case rel => exact ⟨k + 1, by omega, by go_num, HJ2.out⟩
        case measure => simp [intOf]; omega
      · refine bodyPost_ret (results_none rfl _ _ _) rfl ?_
        exact ⟨⟨_, rfl⟩, .inr HJ2.out⟩
    · obtain rfl : k = l.length := by omega
      have HJ := Lib.hid hJ
      clear hJ hI
      gi_wp2
      refine bodyPost_end (results_none rfl _ _ _) rfl ?_
      exact ⟨⟨_, rfl⟩, .inl HJ.out⟩

theorem values_any (l : List Dee) (A : Option Addr) (c : Nat) (w : World) :
    Calls Try.prog 41 #[.slice A l.length c] w fun e w' => e = .returned (.func (.func 42) #[] #[.pointer (some ⟨w.heap.size, 0, none⟩)]) ∧ w.alloc (.cells #[.slice A l.length c] 49) = w' := by
  go_enter Try.func41, Try.ntmps41
  go_wp2
  go_ret
  exact ⟨rfl, rfl⟩

theorem all_any (b : Nat) (nx : Int) (l : List Dee) (A : Option Addr) (c : Nat) (w : World) (h : DeedsIn w b nx l A c) :
    Calls Try.prog 36 #[.pointer (some ⟨b, 0, none⟩)] w fun e w' => e = .returned (.func (.func 42) #[] #[.pointer (some ⟨w.heap.size, 0, none⟩)]) ∧ w.alloc (.cells #[.slice A l.length c] 49) = w' := by
  obtain ⟨c2, f2, s2⟩ := h.blk.facts
  clear h
  go_enter Try.func36, Try.ntmps36
  go_wp2_with (go_at_call 41; refine (values_any l A c _).mono ?_; rintro e w1 ⟨rfl, rfl⟩)
  go_ret
  exact ⟨rfl, rfl⟩

/-- The deeds and the document's list say the same. -/
structure Both (w : World) (b : Nat) (nx : Int) (l : List Dee) (A : Option Addr) (c : Nat) (Ar : Option Addr) : Prop where
  isIn : DeedsIn w b nx l A c
  sl : Sl w 3 Ar l.length (l.flatMap Dee.vals)
  far : 0 < l.length → ∀ a, Ar = some a → ¬ BF b A a.block
  rt : Rt l nx
  nb : nx ≤ 1000000

theorem same_round {w W2 W3 X : World} {D L k : Nat} {r : Loop} {a : Act} {Jx : World → Prop} (hDL : D ≠ L) (hD : w.heap.size + 2 < D) (hL : w.heap.size + 2 < L) (hz : w.heap.size + 2 < W2.heap.size) (hC : Chg (fun j => j = w.heap.size + 2 ∨ j = L) W2 W3) (hR : Rec W3 L (Loop.at_ r .busy none)) (hDf : Dfr W3 D)
    (hX : Chg (fun j => j = w.heap.size + 2) W3 X) (hB : Blk X (w.heap.size + 2) 3 #[.int .i64 ((k : Int) + 1)]) :
    roundEnd L r (Rounded (fun W => Chg (fun j => j = w.heap.size + 2 ∨ j = L) W2 W ∧ Blk W (w.heap.size + 2) 3 #[.int .i64 ((k + 1 : Nat) : Int)] ∧ Dfr W D ∧ Rec W L (Loop.at_ r .ready none)) Jx) .normal a X := by
  have hc : Chg (fun j => j = w.heap.size + 2 ∨ j = L) W2 X := Chg.trans hC hX fun i _ e => .inl e
  refine ⟨hR.chg hX (by show ¬ L = w.heap.size + 2; omega), fun w' hk hR' => .inl ⟨rfl, Chg.trans hc hk.chg fun i _ e => .inr e, ?_, (hDf.chg hX (by show ¬ D = w.heap.size + 2; omega)).kept hk hDL, hR'⟩⟩
  have := hB.kept hk
  simpa using this

set_option maxRecDepth 100000 in
set_option maxHeartbeats 1600000 in
theorem same_core (b : Nat) (nx : Int) (l : List Dee) (A Ar : Option Addr) (c cr : Nat) (w : World) (hl : l.length ≤ 1000000) (hI : DeedsIn w b nx l A c) (hS : Sl w 3 Ar l.length (l.flatMap Dee.vals)) :
    Calls Try.prog 18 #[.pointer (some ⟨b, 0, none⟩), .agg #[.slice Ar l.length cr, .int .i64 nx]] w fun e w' => e = .returned (.bool true) ∧ Grew w w' := by
  have hbw := hI.blk.lt
  have H := Lib.hid (And.intro hI hS)
  clear hI hS
  (refine calls_of_marks Try.func18 rfl ?_; simp only [Try.ntmps18, List.size_toArray, List.length_cons, List.length_nil, Nat.reduceAdd, Nat.reduceSub, Array.replicate_succ, Array.replicate_zero, List.push_toArray, List.append_toArray, List.nil_append, List.cons_append])
  go_wp2_with fail
  obtain ⟨W0, hW0⟩ : ∃ W0, ((w.alloc (.cells #[.slice Ar l.length cr, .int .i64 nx] 28)).alloc (.cells #[.bool false] 4)).alloc (.cells #[.int .i64 0] 3) = W0 := ⟨_, rfl⟩
  have HG0 := Lib.hid (show Grew w W0 from hW0 ▸ (((Chg.refl _ _).alloc _).alloc _).alloc _)
  have HB0 := Lib.hid (show Blk W0 w.heap.size 28 #[.slice Ar l.length cr, .int .i64 nx] from hW0 ▸ ((Blk.new _ _ _).alloc _).alloc _)
  have HB1 := Lib.hid (show Blk W0 (w.heap.size + 1) 4 #[.bool false] from hW0 ▸ (by have := (Blk.new (w.alloc (.cells #[.slice Ar l.length cr, .int .i64 nx] 28)) 4 #[.bool false]).alloc (.cells #[.int .i64 0] 3); simpa using this))
  have HB2 := Lib.hid (show Blk W0 (w.heap.size + 2) 3 #[.int .i64 0] from hW0 ▸ (by have := Blk.new ((w.alloc (.cells #[.slice Ar l.length cr, .int .i64 nx] 28)).alloc (.cells #[.bool false] 4)) 3 #[.int .i64 0]; simpa using this))
  rw [hW0]
  clear hW0
  go_wp2_with (go_at_call 36; refine (all_any b nx l A c _ (H.out.1.grew HG0.out)).mono ?_; rintro e w1 ⟨rfl, rfl⟩)
  have HBs := Lib.hid (Blk.new W0 49 #[.slice A l.length c])
  refine wp_range (gf := 42) (lb := #[.pointer (some ⟨W0.heap.size, 0, none⟩)]) rfl (enters_of Try.func42 (by kernel_rfl) rfl) ?_
  intro r W2 D L hr hg1 hDl hLl hD hR
  rw [World.size_alloc] at hDl hLl
  have hgw := Grew.trans ((Chg.refl NoF W0).alloc (.cells #[.slice A l.length c] 49)) hg1
  have HR1 := Lib.hid hr
  have HG1 := Lib.hid hgw
  have HBs2 := Lib.hid (HBs.out.grew hg1)
  have hDL := Ne.symm (hR.ne_dfr hD)
  have hz0 := HB2.out.lt
  have hz3 := hgw.size
  have hL2 := hR.lt
  have hD2 := hD.lt
  have hbs := (HBs.out.grew hg1).lt
  have HI := Lib.hid ((H.out.1.grew HG0.out).grew hgw)
  have HSr := Lib.hid ((H.out.2.grew HG0.out).grew hgw)
  have HB02 := Lib.hid (HB0.out.grew hgw)
  have HB12 := Lib.hid (HB1.out.grew hgw)
  have HJ0 := Lib.hid (show Chg (fun j => j = w.heap.size + 2 ∨ j = L) W2 W2 ∧ Blk W2 (w.heap.size + 2) 3 #[.int .i64 (0 : Nat)] ∧ Dfr W2 D ∧ Rec W2 L (Loop.at_ r .ready none) from ⟨Chg.refl _ _, HB2.out.grew hgw, hD, hR⟩)
  clear hr hg1 hD hR hgw
  have hAw : ∀ a, A = some a → a.block < w.heap.size := fun a ha => BF_lt H.out.1 (.inr ⟨a, ha, rfl⟩)
  have hArw : 0 < l.length → ∀ a, Ar = some a → a.block < w.heap.size := fun hp a ha => by
    obtain ⟨b', off, e, hb, _⟩ := H.out.2.2 hp
    rw [e] at ha; cases ha; exact hb
  have HA := Lib.hid (And.intro hAw hArw)
  clear hAw hArw
  refine (values_iter W0.heap.size L l A c
    (fun k W => Chg (fun j => j = w.heap.size + 2 ∨ j = L) W2 W ∧ Blk W (w.heap.size + 2) 3 #[.int .i64 (k : Nat)] ∧ Dfr W D ∧ Rec W L (Loop.at_ r .ready none)) (fun _ => False) W2
    (fun k W hJ => ⟨HBs2.out.chg hJ.1 (by omega), HI.out.sl.chg hJ.1 fun a ha => by have := HA.out.1 a ha; omega⟩) (fun k W W' hJ hg => ⟨hJ.1.grew hg, hJ.2.1.grew hg, hJ.2.2.1.grew hg, hJ.2.2.2.grew hg⟩) (fun k x W hJ hx => ?yld) HJ0.out hl).mono ?post
  case yld =>
    have hk : k < l.length := (List.getElem?_eq_some_iff.1 hx).1
    have HX := Lib.hid hx
    have HJ := Lib.hid hJ
    have hws := hJ.1.size
    clear hJ hx
    obtain ⟨hr1, hr2, hr3, hr4⟩ := HR1.out
    refine yield_wide HJ.out.2.2.2 (by rw [hr2]; rfl) ?_
    rw [hr1, hr2, hr3, hr4]
    clear hr1 hr2 hr3 hr4
    intro K hK
    have HK := Lib.hid hK
    clear hK
    gi_wp2
    refine HK.out _ _ (HJ.out.2.2.2.alloc _) fun W3 Q hk3 hR2 hQ => ?_
    have HQ := Lib.hid hQ
    have hcW := Chg.trans (HJ.out.1.alloc (.cells #[.int .i64 x.id, .int .i64 x.plot, .int .i64 x.holder] 34)) hk3.chg fun i _ e => .inr e
    have HC3 := Lib.hid hcW
    have HX3 := Lib.hid ((Blk.new W 34 #[.int .i64 x.id, .int .i64 x.plot, .int .i64 x.holder]).kept hk3)
    have HI3 := Lib.hid ((HJ.out.2.1.alloc _).kept hk3)
    have HB3 := Lib.hid (HB02.out.chg hcW (by omega))
    have HS3 := Lib.hid (HSr.out.chg (F := fun j => (j = w.heap.size + 2 ∨ j = L) ∧ w.heap.size ≤ j) (hcW.mono fun i _ e => ⟨e, by omega⟩) (fun a ha e => by have := HA.out.2 (by omega) a ha; omega))
    have HR3 := Lib.hid hR2
    have HD3 := Lib.hid ((HJ.out.2.2.1.alloc _).kept hk3 hDL)
    have hsz : W.heap.size + 1 ≤ W3.heap.size := by have := hk3.chg.size; simpa using this
    clear hk3 hR2 hQ hcW
    obtain ⟨c0, f0, s0⟩ := HB3.out.facts
    obtain ⟨c2, f2, s2⟩ := HI3.out.facts
    obtain ⟨c4, f4, s4⟩ := HX3.out.facts
    obtain ⟨g, off, rfl, hgb, d0, d1, d2⟩ := HS3.out.atDee HX.out
    have t1 : decide (l.length ≤ k) = false := by simp; omega
    have t2 : decide ((l.length : Int) ≤ (k : Int)) = false := by simp; omega
    have t3 : (0 : Int) ≤ (k : Int) := Int.natCast_nonneg _
    have t4 : (k : Int) < (l.length : Int) := by omega
    gi_wp2
    (refine wpIn_region_quiet_round (by kernel_rfl) (by kernel_rfl) (by kernel_rfl) ?_; (repeat (gi_big_quiet_step ((fail)))); refine wpQuietIn_nil ?_; intro _ hw_; obtain ⟨nq, hw2_⟩ := hw_; subst hw2_)
    gi_wp2
    refine HQ.out _ _ _ (same_round hDL (by omega) (by omega) (by omega) HC3.out HR3.out HD3.out ?_ ?_)
    · (repeat (first | (with_reducible exact (Chg.refl _ _)) | (with_reducible refine Chg.alloc ?_ _) | (with_reducible refine Chg.drew ?_) | (with_reducible refine Chg.drewN ?_ _) | ((with_reducible refine Chg.setCell ?_ ?hp _); (case hp => (intro _; rfl)))))
    · (repeat (first | (with_reducible exact HI3.out) | (with_reducible apply Blk.drew) | (with_reducible apply Blk.drewN) | (with_reducible apply Blk.alloc) | (with_reducible apply Blk.putTo) | (with_reducible apply Blk.far))); (all_goals first | rfl | (simp; done) | (simp; omega))
  case post =>
    rintro e w3 ⟨hv, hJ | hJ⟩
    · refine ⟨hv, .inl ⟨hJ.2.2.2, fun w4 hk4 => ?_⟩⟩
      have HC4 := Lib.hid (Chg.trans hJ.1 hk4.chg fun i _ e => .inr e)
      have HI4 := Lib.hid (hJ.2.1.kept hk4)
      have HD4 := Lib.hid (hJ.2.2.1.kept hk4 hDL)
      clear hJ hk4
      obtain ⟨c0, f0, s0⟩ := (HB02.out.chg HC4.out (by omega)).facts
      obtain ⟨c1, f1, s1⟩ := (HB12.out.chg HC4.out (by omega)).facts
      obtain ⟨c2, f2, s2⟩ := HI4.out.facts
      have HDe := Lib.hid (HI.out.chg HC4.out (by omega) (fun a ha => by have := HA.out.1 a ha; omega))
      go_wp2_with fail
      refine wp_region_still_tail 18 (by kernel_rfl) (by kernel_rfl) ?_
      simp only [List.take_succ_cons, List.take_zero, List.drop_succ_cons, List.drop_zero]
      repeat (first | still_step | still_call ((len_any b nx l A c _ (HDe.out.grew ((Chg.refl _ _).drew))).mono fun _ _ h => ⟨h.1, h.2.symm⟩) | still_call ((next_any b nx l A c _ (HDe.out.grew ((Chg.refl _ _).drew))).mono fun _ _ h => ⟨h.1, h.2.symm⟩))
      refine wpStill_nil ?_
      change wpList _ _ _ _ _ w4.drew
      go_wp2
      refine postM_ret1 (v := .bool true) (D := D) ?_ rfl fun w5 hk5 => ?_
      · refine HD4.out.chg (F := fun j => j = w.heap.size + 1) ?_ ?_
        · (repeat (first | (with_reducible exact (Chg.refl _ _)) | (with_reducible refine Chg.alloc ?_ _) | (with_reducible refine Chg.drew ?_) | (with_reducible refine Chg.drewN ?_ _) | ((with_reducible refine Chg.setCell ?_ ?hp _); (case hp => (intro _; rfl)))))
        · omega
      · clear c0 f0 s0 c1 f1 s1 c2 f2 s2
        refine ⟨?_, rfl, ?_⟩
        · obtain ⟨c2, f2, s2⟩ : (∀ i, w5.cell? ⟨w.heap.size + 1, i, none⟩ = #[Value.bool true][i]?) ∧ (∀ i, w5.frozen? ⟨w.heap.size + 1, i, none⟩ = false) ∧ w.heap.size + 1 < w5.heap.size := (Blk.kept (t := 4) (by (repeat (first | (with_reducible exact (HB12.out.chg HC4.out (by omega))) | (with_reducible apply Blk.drew) | (with_reducible apply Blk.drewN) | (with_reducible apply Blk.alloc) | (with_reducible apply Blk.putTo) | (with_reducible apply Blk.far))); (all_goals first | rfl | (simp; done) | (simp; omega))) hk5).facts
          simp [results, Try.results18, go_sem, c2, s2]
        · have hF : Grew w w4 := by
            refine Chg.mono (Chg.trans (F := fun j => w.heap.size ≤ j) (Grew.trans HG0.out HG1.out).chg HC4.out fun i hi e => ?_) fun i hi e => absurd e (by omega)
            rcases e with e | e <;> omega
          refine Chg.kept ?_ hk5 (by omega)
          (repeat (first | (with_reducible exact hF) | (with_reducible refine Chg.alloc ?_ _) | (with_reducible refine Chg.drew ?_) | (with_reducible refine Chg.drewN ?_ _) | ((with_reducible refine Chg.setCell ?_ ?hp _); (case hp => (intro h; exfalso; simp at h; try omega)))))
    · exact hJ.elim

theorem same_any (b : Nat) (nx : Int) (l : List Dee) (A Ar : Option Addr) (c cr : Nat) (w : World) (h : Both w b nx l A c Ar) :
    Calls Try.prog 18 #[.pointer (some ⟨b, 0, none⟩), .agg #[.slice Ar l.length cr, .int .i64 nx]] w fun e w' => e = .returned (.bool true) ∧ Grew w w' :=
  same_core b nx l A Ar c cr w (by have := h.rt.len; have := h.nb; omega) h.isIn h.sl

end Go.Proofs.Ytkcakkblammpiaa
