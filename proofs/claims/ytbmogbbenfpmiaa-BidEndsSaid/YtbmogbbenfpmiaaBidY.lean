/- The auctions: the document's First; the iterator over those that end. -/
import Derived.Test.YtbmogbbenfpmiaaBidX
import Derived.Sort.LoopGhostIn
namespace Go.Proofs.Ytbmogbbenfpmiaa
open Go.RowKit
attribute [local go_sem] Oper.semAt_some

def firstI (l : List Auc) : Int := if l.length = 0 then -1 else fstI l l.length

set_option maxHeartbeats 1600000 in
theorem rfirst_any (nx : Int) (l : List Auc) (A : Option Addr) (c : Nat) (w : World) (hs : Sl w 7 A l.length (l.flatMap Auc.vals)) (hl : l.length ≤ 1000000) (r : Int) (hr : firstI l = r) :
    Calls Try.prog 21 #[.agg #[.slice A l.length c, .int .i64 nx]] w fun e w' => e = .returned (.int .i64 r) ∧ Grew w w' := by
  have HS := Lib.hid (hs.grew ((Chg.refl NoF w).alloc (.cells #[.slice A l.length c, .int .i64 nx] 39)))
  have HR := Lib.hid hr
  clear hs hr
  go_enter Try.func21, Try.ntmps21
  go_wp2_with fail
  obtain ⟨W0, hW0⟩ : ∃ W0, w.alloc (.cells #[.slice A l.length c, .int .i64 nx] 39) = W0 := ⟨_, rfl⟩
  rw [hW0] at HS ⊢
  have HG0 := Lib.hid (show Grew w W0 from hW0 ▸ (Chg.refl _ _).alloc _)
  have B0 := Lib.hid (show Blk W0 w.heap.size 39 #[.slice A l.length c, .int .i64 nx] from hW0 ▸ Blk.new _ _ _)
  clear hW0
  go_loopw [3, 4] (fun v i wr => ∃ k : Nat, k ≤ l.length ∧ i = .int .i64 k ∧ v = .int .i64 (if k = 0 then -1 else (fstI l k : Int)) ∧ Grew W0 wr) (fun _ i _ => l.length - (intOf i).toNat)
  case atStart => exact ⟨0, Nat.zero_le _, rfl, rfl, Chg.refl _ _⟩
  case round =>
    obtain ⟨k, hk, rfl, hv, hg⟩ := hrel
    have Hg := Lib.hid hg
    obtain ⟨c0, f0, s0⟩ := (B0.out.grew hg).facts
    clear hg
    by_cases hlt : k < l.length
    · obtain ⟨y, hy⟩ : ∃ y, l[k]? = some y := ⟨_, List.getElem?_eq_getElem hlt⟩
      obtain ⟨g, off, rfl, hgb, d0, d1, d2, d3, d4, d5, d6⟩ := (HS.out.grew Hg.out).atAuc hy
      have hk2 : (k : Int) < (l.length : Int) := by omega
      have hk4 : (0 : Int) ≤ (k : Int) := Int.natCast_nonneg _
      rcases Nat.eq_zero_or_pos k with k0 | k0
      · subst k0
        obtain rfl := hv
        have Hst := Lib.hid (show fstI l 1 = 0 by have h : fstI l 1 < 1 := fstI_lt l 0; omega)
        clear hy
        go_wp2_with fail
        go_big_quiet (fail)
        go_wp2_with fail
        refine ⟨⟨1, by omega, by simp, ?_, Chg.drewN Hg.out _⟩, by simp [intOf]; omega⟩
        rw [if_neg (by omega)]
        rw [Hst.out]
      · rw [if_neg (by omega)] at hv
        subst hv
        have hjk : fstI l k < k := by obtain ⟨k', rfl⟩ : ∃ k', k = k' + 1 := ⟨k - 1, by omega⟩; exact fstI_lt l k'
        obtain ⟨j, hj⟩ : ∃ j, fstI l k = j := ⟨_, rfl⟩
        rw [hj] at hjk ⊢
        obtain ⟨m, hm⟩ : ∃ m, l[j]? = some m := ⟨_, List.getElem?_eq_getElem (by omega)⟩
        have hst := fstI_step hy (by rw [hj]; exact hm)
        rw [hj] at hst
        obtain ⟨g', off', hA', hgb', e0, e1, e2, e3, e4, e5, e6⟩ := (HS.out.grew Hg.out).atAuc hm
        simp only [Option.some.injEq, Addr.mk.injEq, and_true] at hA'
        obtain ⟨rfl, rfl⟩ := hA'
        have hj2 : (j : Int) < (l.length : Int) := by omega
        have hj4 : (0 : Int) ≤ (j : Int) := Int.natCast_nonneg _
        have t1 : decide ((j : Int) < 0) = false := decide_eq_false (by omega)
        clear hm hy hj
        by_cases hlt2 : y.ends < m.ends
        · rw [if_pos hlt2] at hst
          have Hst := Lib.hid hst
          have t2 : decide (y.ends < m.ends) = true := decide_eq_true hlt2
          clear hst hlt2
          go_wp2_with fail
          go_big_quiet (fail)
          go_wp2_with fail
          refine ⟨⟨k + 1, by omega, by simp, ?_, Chg.drewN Hg.out _⟩, by simp [intOf]; omega⟩
          rw [if_neg (by omega), Hst.out]
        · rw [if_neg hlt2] at hst
          have Hst := Lib.hid hst
          have t2 : decide (y.ends < m.ends) = false := decide_eq_false hlt2
          clear hst hlt2
          go_wp2_with fail
          go_big_quiet (fail)
          go_wp2_with fail
          refine ⟨⟨k + 1, by omega, by simp, ?_, Chg.drewN Hg.out _⟩, by simp [intOf]; omega⟩
          rw [if_neg (by omega), Hst.out]
    · obtain rfl : k = l.length := by omega
      have hv2 := hv.trans (show _ = Value.int .i64 r by rw [← HR.out]; rfl)
      clear hv
      subst hv2
      go_wp2
      go_ret
      exact ⟨rfl, Grew.trans HG0.out Hg.out⟩

/-- How an iterator ends. -/
def IterEnd (J Jx : World → Prop) (e : Ending) (w : World) : Prop := (∃ v, e = .returned v) ∧ (J w ∨ Jx w)
/-- How a round ends. -/
def Rounded (J Jx : World → Prop) (e : Ending) (w : World) : Prop := (e = .returned (.bool true) ∧ J w) ∨ (e = .returned (.bool false) ∧ Jx w)

/-- What the closure that Ended makes reads. -/
structure EndIn (W : World) (bb bn b : Nat) (now nx : Int) (ls : List Auc) (A : Option Addr) (c : Nat) : Prop where
  bb : Blk W bb 23 #[.pointer (some ⟨b, 0, none⟩)]
  bn : Blk W bn 3 #[.int .i64 now]
  isIn : BidsIn W b nx ls A c
  rt : Rt ls nx

/-- There is no more that ends. -/
def noneEnds (ls : List Auc) (now : Int) : Prop := ∀ x, ls[fstI ls ls.length]? = some x → now < x.ends

theorem fstI_in {l : List Auc} (h : 0 < l.length) : ∃ x, l[fstI l l.length]? = some x := by
  have : fstI l l.length < l.length := by obtain ⟨k, hk⟩ : ∃ k, l.length = k + 1 := ⟨l.length - 1, by omega⟩; rw [hk]; exact fstI_lt l k
  exact ⟨_, List.getElem?_eq_getElem this⟩

set_option maxHeartbeats 1600000 in
theorem ended_iter (bb bn b y : Nat) (now nx : Int) (A : Option Addr) (c : Nat) (J Jm Jx : List Auc → World → Prop) (w : World) (l0 : List Auc)
    (hin : ∀ ls W, J ls W → EndIn W bb bn b now nx ls A c) (hgr : ∀ ls W W', J ls W → Grew W W' → J ls W') (hgm : ∀ ls W W', Jm ls W → Grew W W' → Jm ls W')
    (hcl : ∀ ls x W W', J ls W → ls[fstI ls ls.length]? = some x → BidsIn W' b nx (ls.eraseIdx (fstI ls ls.length)) A c → Chg (BF b A) W W' → Jm ls W')
    (hyld : ∀ ls x W, Jm ls W → ls[fstI ls ls.length]? = some x → x.ends ≤ now → YieldAt Fence.wide 0 Try.prog y #[(.agg #[.int .i64 x.id, .int .i64 x.deed, .int .i64 x.seller, .int .i64 x.least, .int .i64 x.best, .int .i64 x.bidder, .int .i64 x.ends])] W (Rounded (J (ls.eraseIdx (fstI ls ls.length))) (Jx (ls.eraseIdx (fstI ls ls.length)))))
    (h0 : J l0 w) :
    Calls Try.prog 37 #[.func (.yield y) #[] #[], .pointer (some ⟨bb, 0, none⟩), .pointer (some ⟨bn, 0, none⟩)] w fun e w' => IterEnd (fun W => ∃ ls, J ls W ∧ noneEnds ls now) (fun W => ∃ ls, Jx ls W) e w' := by
  have Hin := Lib.hid hin
  have Hgr := Lib.hid hgr
  have Hgm := Lib.hid hgm
  have Hcl := Lib.hid hcl
  have Hyld := Lib.hid hyld
  have H0 := Lib.hid h0
  clear hin hgr hgm hcl hyld h0
  (refine (callsIn_wide (n := 1)).1 (callsIn_of_wp Try.func37 rfl trivial ?_ rfl); simp only [Try.ntmps37, List.size_toArray, List.length_cons, List.length_nil, Nat.reduceAdd, Nat.reduceSub, Array.replicate_succ, Array.replicate_zero, List.push_toArray, List.append_toArray, List.nil_append, List.cons_append])
  gi_wp2
  gi_loopg [] (l0.length) (fun n wr => ∃ ls : List Auc, n = ls.length ∧ J ls wr)
  case atStart => exact ⟨l0, rfl, H0.out⟩
  case round =>
    obtain ⟨ls, rfl, hJ⟩ := hrel
    have hI := Hin.out ls wr hJ
    obtain ⟨c0, f0, s0⟩ := hI.bb.facts
    obtain ⟨c1, f1, s1⟩ := hI.isIn.blk.facts
    have HI := Lib.hid hI
    have HJ := Lib.hid hJ
    have hle := hI.rt.len
    clear hI hJ
    by_cases hn : 0 < ls.length
    · obtain ⟨x, hx⟩ := fstI_in hn
      obtain ⟨k, hk⟩ : ∃ k, fstI ls ls.length = k := ⟨_, rfl⟩
      have HX := Lib.hid hx
      have HK := Lib.hid hk
      have hx' := hx
      rw [hk] at hx'
      have HX' := Lib.hid hx'
      have q1 : decide ((0 : Int) < (ls.length : Int)) = true := decide_eq_true (by omega)
      have q2 : decide (0 < ls.length) = true := decide_eq_true hn
      clear hx hk hx'
      by_cases hend : now < x.ends
      · gi_wp2_with (refine ⟨trivial, ?_⟩; gi_at_call 38; refine (callsIn_wide.2 (min_any nx ls A c _ HI.out.isIn.sl HI.out.rt hn x HX.out)).mono ?_; rintro e w1 ⟨rfl, hg1⟩; have HG1 := Lib.hid hg1; clear hg1 c0 f0 s0 c1 f1 s1; obtain ⟨c2, f2, s2⟩ := ((HI.out.bn.grew HG1.out).alloc (.cells #[.int .i64 x.id, .int .i64 x.deed, .int .i64 x.seller, .int .i64 x.least, .int .i64 x.best, .int .i64 x.bidder, .int .i64 x.ends] 32)).facts; obtain ⟨c0, f0, s0⟩ := ((HI.out.bb.grew HG1.out).alloc (.cells #[.int .i64 x.id, .int .i64 x.deed, .int .i64 x.seller, .int .i64 x.least, .int .i64 x.best, .int .i64 x.bidder, .int .i64 x.ends] 32)).facts)
        refine bodyPost_ret (results_none rfl _ _ _) rfl ?_
        refine ⟨⟨_, rfl⟩, .inl ⟨ls, Hgr.out _ _ _ HJ.out (HG1.out.alloc _), fun y hy => ?_⟩⟩
        rw [HX.out] at hy
        cases hy
        exact hend
      · gi_wp2_with (first
          | (refine ⟨trivial, ?_⟩; gi_at_call 38; refine (callsIn_wide.2 (min_any nx ls A c _ HI.out.isIn.sl HI.out.rt hn x HX.out)).mono ?_; rintro e w1 ⟨rfl, hg1⟩; have HG1 := Lib.hid hg1; clear hg1 c0 f0 s0 c1 f1 s1; obtain ⟨c2, f2, s2⟩ := ((HI.out.bn.grew HG1.out).alloc (.cells #[.int .i64 x.id, .int .i64 x.deed, .int .i64 x.seller, .int .i64 x.least, .int .i64 x.best, .int .i64 x.bidder, .int .i64 x.ends] 32)).facts; obtain ⟨c0, f0, s0⟩ := ((HI.out.bb.grew HG1.out).alloc (.cells #[.int .i64 x.id, .int .i64 x.deed, .int .i64 x.seller, .int .i64 x.least, .int .i64 x.best, .int .i64 x.bidder, .int .i64 x.ends] 32)).facts)
          | (refine ⟨trivial, ?_⟩; gi_at_call 30; refine (callsIn_wide.2 (close_some b k x nx x.id ls A c _ (HI.out.isIn.grew (HG1.out.alloc _)) (by omega) (HI.out.rt.find HX'.out) HX'.out)).mono ?_; rintro e w3 ⟨rfl, hi3, hc3⟩; have HB3 := Lib.hid ((Blk.new w1 32 #[.int .i64 x.id, .int .i64 x.deed, .int .i64 x.seller, .int .i64 x.least, .int .i64 x.best, .int .i64 x.bidder, .int .i64 x.ends]).chg hc3 (fun q => by have h1 := HI.out.isIn.lt q; have h2 := HG1.out.size; omega)); have HJm := Lib.hid (Hcl.out ls x _ w3 (Hgr.out _ _ _ HJ.out (HG1.out.alloc _)) HX.out (by rw [HK.out]; exact hi3) hc3); clear hi3 hc3 c2 f2 s2 c0 f0 s0; obtain ⟨c3, f3, s3⟩ := HB3.out.facts; obtain ⟨fn, tmps, assign, body, hy, hR⟩ := Hyld.out ls x w3 HJm.out HX.out (by omega); have HR := Lib.hid hR; clear hR)
          | (refine HR.out.mono ?_; rintro e w4 (⟨rfl, hJ2⟩ | ⟨rfl, hJ2⟩) <;> have HJ2 := Lib.hid hJ2 <;> clear hJ2))
        · gi_roundg (ls.eraseIdx k).length
          case measure => rw [List.length_eraseIdx]; have := (List.getElem?_eq_some_iff.1 HX'.out).1; simp [this]; omega
          case rel => exact ⟨_, rfl, by have := HJ2.out; rw [HK.out] at this; exact this⟩
        · refine bodyPost_ret (results_none rfl _ _ _) rfl ?_
          exact ⟨⟨_, rfl⟩, .inr ⟨_, HJ2.out⟩⟩
    · obtain rfl : ls = [] := List.eq_nil_of_length_eq_zero (by omega)
      gi_wp2
      refine bodyPost_end (results_none rfl _ _ _) rfl ?_
      exact ⟨⟨_, rfl⟩, .inl ⟨[], HJ.out, fun x hx => by simp at hx⟩⟩

end Go.Proofs.Ytbmogbbenfpmiaa
