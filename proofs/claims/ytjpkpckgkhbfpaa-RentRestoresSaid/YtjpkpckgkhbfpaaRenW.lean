/- The rent: Lapsed. -/
import Derived.Test.YtjpkpckgkhbfpaaRenU
import Derived.Test.YtjpkpckgkhbfpaaRenN
import Derived.Test.YtjpkpckgkhbfpaaRange
import Derived.Sort.LoopGhostIn
import Derived.BigGuardIn
namespace Go.Proofs.Ytjpkpckgkhbfpaa
open Go.RowKit Go.Maps
attribute [local go_sem] Oper.semAt_some

/-- How an iterator ends. -/
def IterEnd (J Jx : World → Prop) (e : Ending) (w : World) : Prop := (∃ v, e = .returned v) ∧ (J w ∨ Jx w)
/-- How a round ends. -/
def Rounded (J Jx : World → Prop) (e : Ending) (w : World) : Prop := (e = .returned (.bool true) ∧ J w) ∨ (e = .returned (.bool false) ∧ Jx w)

theorem stepL_rising {x : List Rw} (h : rising x) (o : Rop) : rising (stepL x o) := by
  unfold stepL
  split
  · unfold addL
    repeat' split
    all_goals first | exact h | exact h.putL _
  · split
    · unfold payL
      repeat' split
      all_goals first | exact h | exact h.putL _
    · split
      · exact h.dropL _
      · exact h
theorem SR.same {w : Bs} {W : World} {b k : Nat} {x : List Rw} {A : Option Addr} {c : Nat} (h : SR w W b x x k A) (hx : rising x) (hk : k ≤ 900000) :
    Calls Try.prog 19 #[.pointer (some ⟨b, 0, none⟩), .slice A x.length c] W fun e w' => e = .returned (.bool true) ∧ Grew W w' := by
  obtain ⟨F, hs⟩ := h.rs
  exact rsame_any b F x k A c W hs hx hk h.sl

theorem lapsed_any (b : Nat) (now : Int) (w W : World) (hW : (w.alloc (.cells #[.pointer (some ⟨b, 0, none⟩)] 23)).alloc (.cells #[.int .i64 now] 3) = W) :
    Calls Try.prog 20 #[.pointer (some ⟨b, 0, none⟩), .int .i64 now] w fun e w' => e = .returned (.func (.func 37) #[] #[.pointer (some ⟨w.heap.size, 0, none⟩), .pointer (some ⟨w.heap.size + 1, 0, none⟩)]) ∧ W = w' := by
  subst hW
  go_enter Try.func20, Try.ntmps20
  go_wp2
  go_ret
  exact ⟨rfl, rfl⟩

theorem least_has {x : List Rw} (hx : rising x) (h : 0 < x.length) : ∃ o, Least x o := by
  obtain ⟨n, hn⟩ := frI_some x x.length h
  obtain ⟨o, -, hL⟩ := frI_is hx hn
  exact ⟨o, hL⟩

set_option maxRecDepth 100000 in
set_option maxHeartbeats 1600000 in
theorem lapsed_iter (br bn b y n0 : Nat) (now : Int) (J : Nat → World → Prop) (Je Jx : World → Prop) (w : World)
    (hin : ∀ n W, J n W → ∃ F x k, Blk W br 23 #[.pointer (some ⟨b, 0, none⟩)] ∧ Blk W bn 3 #[.int .i64 now] ∧ RS W b F x k ∧ rising x ∧ k ≤ 900000 ∧
      ((∀ o, Least x o → stageI o.due now < 5) → ∀ W', Grew W W' → Je W') ∧
      (∀ o W', Least x o → 5 ≤ stageI o.due now → RTo W W' b F (dropL x o.house) k → ∃ m, m < n ∧ YieldAt Fence.wide 0 Try.prog y #[.int .i64 o.house] W' (Rounded (J m) Jx)))
    (h0 : J n0 w) :
    Calls Try.prog 37 #[.func (.yield y) #[] #[], .pointer (some ⟨br, 0, none⟩), .pointer (some ⟨bn, 0, none⟩)] w fun e w' => IterEnd Je Jx e w' := by
  have Hin := Lib.hid hin
  have H0 := Lib.hid h0
  clear hin h0
  (refine (callsIn_wide (n := 1)).1 (callsIn_of_wp Try.func37 rfl trivial ?_ rfl); simp only [Try.ntmps37, List.size_toArray, List.length_cons, List.length_nil, Nat.reduceAdd, Nat.reduceSub, Array.replicate_succ, Array.replicate_zero, List.push_toArray, List.append_toArray, List.nil_append, List.cons_append])
  gi_wp2
  gi_loopg [6] n0 (fun n v wr => ∃ q : Nat, q ≤ n ∧ J q wr)
  case atStart => exact ⟨n0, Nat.le_refl _, H0.out⟩
  case round =>
    obtain ⟨n, hnle, hrel⟩ := hrel
    obtain ⟨F, x, k, hb1, hb2, hs, hx, hk, he, hd⟩ := Hin.out n wr hrel
    obtain ⟨c0, f0, s0⟩ := hb1.facts
    have HS := Lib.hid (And.intro hs (And.intro hx (And.intro hb1 hb2)))
    have HE := Lib.hid (And.intro he hd)
    clear hb1 hb2 hs hx he hd hrel
    rcases Nat.eq_zero_or_pos x.length with hx0 | hx0
    · obtain rfl : x = [] := List.eq_nil_of_length_eq_zero hx0
      gi_wp2_with (refine ⟨trivial, ?_⟩; gi_at_call 38; refine (callsIn_wide.2 (rnext_any b F [] k Rw.zero false _ HS.out.1 HS.out.2.1 hk (.inl ⟨rfl, rfl, rfl⟩))).mono ?_; rintro e w2 ⟨rfl, hg2⟩; have HG2 := Lib.hid hg2; clear hg2 c0 f0 s0)
      refine ⟨trivial, ?_⟩
      gi_wp2
      refine bodyPost_ret (results_none rfl _ _ _) rfl ?_
      exact ⟨⟨_, rfl⟩, .inl (HE.out.1 (fun o ho => absurd ho.1 (by simp)) _ (by (repeat (first | (with_reducible exact HG2.out) | (with_reducible refine Chg.alloc ?_ _) | (with_reducible refine Chg.drew ?_) | (with_reducible refine Chg.drewN ?_ _) | ((with_reducible refine Chg.setCell ?_ ?hp _); (case hp => (intro h; exfalso; simp at h; try omega)))))))⟩
    · obtain ⟨o, ho⟩ := least_has HS.out.2.1 hx0
      have HO := Lib.hid (And.intro ho (HS.out.1.fits o ho.1))
      clear ho hx0
      by_cases hst : stageI o.due now < 5
      · have t1 : decide (stageI o.due now < 5) = true := decide_eq_true hst
        gi_wp2_with (first
          | (refine ⟨trivial, ?_⟩; gi_at_call 38; refine (callsIn_wide.2 (rnext_any b F x k o true _ HS.out.1 HS.out.2.1 hk (.inr ⟨HO.out.1, rfl⟩))).mono ?_; rintro e w2 ⟨rfl, hg2⟩; have HG2 := Lib.hid hg2; clear hg2 c0 f0 s0; obtain ⟨c1, f1, s1⟩ := (HS.out.2.2.2.grew HG2.out).facts)
          | (refine ⟨trivial, ?_⟩; gi_at_call 34; refine (callsIn_wide.2 (stage_any o now _ HO.out.2.2.2.2.2.1 HO.out.2.2.2.2.2.2)).mono ?_; rintro e w3 ⟨rfl, hg3⟩; have HG3 := Lib.hid hg3; clear hg3))
        refine bodyPost_ret (results_none rfl _ _ _) rfl ?_
        refine ⟨⟨_, rfl⟩, .inl (HE.out.1 (fun o' ho' => ?_) _ (Grew.trans (Grew.trans HG2.out ((Chg.refl _ _).alloc _)) HG3.out))⟩
        obtain rfl := ho'.uniq HS.out.2.1.nodup HO.out.1
        exact hst
      · have t1 : decide (stageI o.due now < 5) = false := decide_eq_false hst
        have hof := HO.out.2
        have HF := Lib.hid (And.intro (fnd_mem HS.out.2.1.nodup HO.out.1.1) (wfInt (i := o.house) (by have := hof.1; omega) hof.2.1))
        clear hof
        gi_wp2_with (first
          | (refine ⟨trivial, ?_⟩; gi_at_call 38; refine (callsIn_wide.2 (rnext_any b F x k o true _ HS.out.1 HS.out.2.1 hk (.inr ⟨HO.out.1, rfl⟩))).mono ?_; rintro e w2 ⟨rfl, hg2⟩; have HG2 := Lib.hid hg2; clear hg2 c0 f0 s0; obtain ⟨c1, f1, s1⟩ := (HS.out.2.2.2.grew HG2.out).facts)
          | (refine ⟨trivial, ?_⟩; gi_at_call 34; refine (callsIn_wide.2 (stage_any o now _ HO.out.2.2.2.2.2.1 HO.out.2.2.2.2.2.2)).mono ?_; rintro e w3 ⟨rfl, hg3⟩; have HG3 := Lib.hid (Grew.trans (Grew.trans HG2.out ((Chg.refl _ _).alloc _)) hg3); have HBo := Lib.hid ((Blk.new w2 30 #[.int .i64 o.house, .int .i64 o.rate, .int .i64 o.due]).grew hg3); clear hg3 c1 f1 s1; obtain ⟨c0, f0, s0⟩ := (HS.out.2.2.1.grew HG3.out).facts; obtain ⟨c2, f2, s2⟩ := HBo.out.facts)
          | (refine ⟨trivial, ?_⟩; gi_at_call 33; refine (callsIn_wide.2 (rdrop_some b F x k o.house o _ (HS.out.1.grew HG3.out) hk HF.out.2 HF.out.1)).mono ?_; rintro e w5 ⟨rfl, ht⟩; have hbo5 := HBo.out.chg ht.chg (fun e => by have := HS.out.1.lt _ e; have := HG2.out.size; omega); obtain ⟨m, hm, fn, tmps, assign, body, hy, hR⟩ := HE.out.2 o w5 HO.out.1 (by omega) (ht.ahead HG3.out); have HR := Lib.hid hR; clear hR ht c0 f0 s0 c2 f2 s2; obtain ⟨c3, f3, s3⟩ := hbo5.facts; clear hbo5)
          | (refine HR.out.mono ?_; rintro e w6 (⟨rfl, hJ2⟩ | ⟨rfl, hJ2⟩) <;> have HJ2 := Lib.hid hJ2 <;> clear hJ2))
        · gi_roundg m
          case measure => omega
          case rel => exact ⟨m, Nat.le_refl _, HJ2.out⟩
        · refine bodyPost_ret (results_none rfl _ _ _) rfl ?_
          exact ⟨⟨_, rfl⟩, .inr HJ2.out⟩

end Go.Proofs.Ytjpkpckgkhbfpaa
