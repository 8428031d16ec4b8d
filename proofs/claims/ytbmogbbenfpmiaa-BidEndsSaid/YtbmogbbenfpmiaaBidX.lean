/- The auctions: the first that ends. -/
import Derived.Test.YtbmogbbenfpmiaaBidW
import Derived.Test.YtbmogbbenfpmiaaRange
namespace Go.Proofs.Ytbmogbbenfpmiaa
open Go.RowKit

/-- cmp.Compare's answer. -/
def cmpI (a b : Int) : Int := if a < b then -1 else if b < a then 1 else 0

theorem isNaN_any (a : Int) (w : World) : Calls Try.prog 46 #[.int .i64 a] w fun e w' => e = .returned (.bool false) ∧ w = w' := by
  go_enter Try.func46, Try.ntmps46
  go_wp2
  go_ret
  exact ⟨by simp, rfl⟩

set_option maxHeartbeats 400000 in
theorem compare_any (a b : Int) (w : World) : Calls Try.prog 41 #[.int .i64 a, .int .i64 b] w fun e w' => e = .returned (.int .i64 (cmpI a b)) ∧ w = w' := by
  by_cases h1 : a < b
  · have hv : cmpI a b = -1 := by simp [cmpI, h1]
    rw [hv]
    clear hv
    go_enter Try.func41, Try.ntmps41
    go_wp2_with (go_at_call 46; refine (isNaN_any _ _).mono ?_; rintro e w' ⟨rfl, rfl⟩)
    go_ret
    exact ⟨rfl, rfl⟩
  by_cases h2 : b < a
  · have hv : cmpI a b = 1 := by simp [cmpI, h1, h2]
    rw [hv]
    clear hv
    go_enter Try.func41, Try.ntmps41
    go_wp2_with (go_at_call 46; refine (isNaN_any _ _).mono ?_; rintro e w' ⟨rfl, rfl⟩)
    go_ret
    exact ⟨rfl, rfl⟩
  · have hv : cmpI a b = 0 := by simp [cmpI, h1, h2]
    rw [hv]
    clear hv
    go_enter Try.func41, Try.ntmps41
    go_wp2_with (go_at_call 46; refine (isNaN_any _ _).mono ?_; rintro e w' ⟨rfl, rfl⟩)
    go_ret
    exact ⟨rfl, rfl⟩

set_option maxHeartbeats 400000 in
theorem or_any (a b v : Int) (B : Nat) (w : World) (h : Blk w B 3 #[.int .i64 a, .int .i64 b]) (hv : (if a ≠ 0 then a else b) = v) : Calls Try.prog 40 #[.slice (some ⟨B, 0, none⟩) 2 2] w fun e w' => e = .returned (.int .i64 v) ∧ w = w' := by
  obtain ⟨c0, f0, s0⟩ := h.facts
  have h0 := c0 0
  have h1 := c0 1
  simp only [List.getElem?_toArray, List.getElem?_cons_zero, List.getElem?_cons_succ] at h0 h1
  clear h c0
  have Hv := Lib.hid hv
  clear hv
  go_enter Try.func40, Try.ntmps40
  go_wp2
  go_loop [5, 8] (fun _ i => ∃ k : Nat, k ≤ 2 ∧ i = .int .i64 k ∧ (1 ≤ k → a = 0) ∧ (2 ≤ k → b = 0)) (fun _ i => 2 - (intOf i).toNat)
  case atStart => exact ⟨0, by omega, rfl, fun h => absurd h (by omega), fun h => absurd h (by omega)⟩
  case round =>
    obtain ⟨k, hk, rfl, ha, hb⟩ := hrel
    have Ha := Lib.hid ha
    have Hb := Lib.hid hb
    clear ha hb
    by_cases k0 : k = 0
    · subst k0
      by_cases h2 : a = 0
      · have hn : (a != 0) = false := by simp [h2]
        have H2 := Lib.hid h2
        clear h2
        go_wp2
        go_round
        case rel => exact ⟨1, by omega, rfl, fun _ => H2.out, fun h => absurd h (by omega)⟩
        case measure => simp [intOf]
      · have hn : (a != 0) = true := by simpa using h2
        have H2 := Lib.hid h2
        clear h2
        go_wp2
        go_ret
        exact ⟨by rw [← Hv.out, if_pos H2.out]; rfl, rfl⟩
    by_cases k1 : k = 1
    · subst k1
      by_cases h2 : b = 0
      · have hn : (b != 0) = false := by simp [h2]
        have H2 := Lib.hid h2
        clear h2 k0
        go_wp2
        go_round
        case rel => exact ⟨2, by omega, rfl, fun _ => Ha.out (by omega), fun _ => H2.out⟩
        case measure => simp [intOf]
      · have hn : (b != 0) = true := by simpa using h2
        have H2 := Lib.hid h2
        clear h2 k0
        go_wp2
        go_ret
        exact ⟨by rw [← Hv.out, if_neg (by simp [Ha.out (by omega)])]; rfl, rfl⟩
    · obtain rfl : k = 2 := by omega
      clear k0 k1
      go_wp2
      go_ret
      exact ⟨by rw [← Hv.out, if_neg (by simp [Ha.out (by omega)]), Hb.out (by omega)]; rfl, rfl⟩


/-- The order of the auctions that end: by their ends, then by their numbers. -/
def Auc.ord (x y : Auc) : Int := if cmpI x.ends y.ends ≠ 0 then cmpI x.ends y.ends else cmpI x.id y.id

set_option maxHeartbeats 800000 in
theorem ord_any (x y : Auc) (w : World) : Calls Try.prog 39 #[(.agg #[.int .i64 x.id, .int .i64 x.deed, .int .i64 x.seller, .int .i64 x.least, .int .i64 x.best, .int .i64 x.bidder, .int .i64 x.ends]), (.agg #[.int .i64 y.id, .int .i64 y.deed, .int .i64 y.seller, .int .i64 y.least, .int .i64 y.best, .int .i64 y.bidder, .int .i64 y.ends])] w fun e w' => e = .returned (.int .i64 (Auc.ord x y)) ∧ Grew w w' := by
  obtain ⟨W, hW⟩ : ∃ W, (w.alloc (.cells #[.int .i64 x.id, .int .i64 x.deed, .int .i64 x.seller, .int .i64 x.least, .int .i64 x.best, .int .i64 x.bidder, .int .i64 x.ends] 32)).alloc (.cells #[.int .i64 y.id, .int .i64 y.deed, .int .i64 y.seller, .int .i64 y.least, .int .i64 y.best, .int .i64 y.bidder, .int .i64 y.ends] 32) = W := ⟨_, rfl⟩
  have HG := Lib.hid (show Grew w W from hW ▸ ((Chg.refl _ _).alloc _).alloc _)
  have B0 := Lib.hid (show Blk W w.heap.size 32 #[.int .i64 x.id, .int .i64 x.deed, .int .i64 x.seller, .int .i64 x.least, .int .i64 x.best, .int .i64 x.bidder, .int .i64 x.ends] from hW ▸ (Blk.new _ _ _).alloc _)
  have B1 := Lib.hid (show Blk W (w.heap.size + 1) 32 #[.int .i64 y.id, .int .i64 y.deed, .int .i64 y.seller, .int .i64 y.least, .int .i64 y.best, .int .i64 y.bidder, .int .i64 y.ends] from hW ▸ (by have := Blk.new (w.alloc (.cells #[.int .i64 x.id, .int .i64 x.deed, .int .i64 x.seller, .int .i64 x.least, .int .i64 x.best, .int .i64 x.bidder, .int .i64 x.ends] 32)) 32 #[.int .i64 y.id, .int .i64 y.deed, .int .i64 y.seller, .int .i64 y.least, .int .i64 y.best, .int .i64 y.bidder, .int .i64 y.ends]; simpa using this))
  have HW := Lib.hid hW
  have x0 := B0.out.cell 0
  have x6 := B0.out.cell 6
  have y0 := B1.out.cell 0
  have y6 := B1.out.cell 6
  simp only [List.getElem?_toArray, List.getElem?_cons_zero, List.getElem?_cons_succ] at x0 x6 y0 y6
  clear hW
  go_enter Try.func39, Try.ntmps39
  go_wp2_with (rw [HW.out])
  have s1 := B1.out.lt
  have s0 := B0.out.lt
  go_region_held3 (fun w' => ∀ (B i : Nat), B < W.heap.size → w'.cell? ⟨B, i, none⟩ = W.cell? ⟨B, i, none⟩)
    ((intro B i hB; first | rfl | exact (((Chg.refl NoF W).drew).alloc _).cell (p := ⟨B, i, none⟩) hB id))
    (first
      | (go_at_call 41; refine (compare_any _ _ _).mono ?_; rintro e w' ⟨rfl, rfl⟩)
      | (go_at_call 40; refine (or_any (cmpI x.ends y.ends) (cmpI x.id y.id) (Auc.ord x y) W.heap.size _ ((Blk.new W _ _).drew) rfl).mono ?_; rintro e w' ⟨rfl, rfl⟩))
  all_goals
    go_wp2
    go_ret
    exact ⟨rfl, Chg.drew (HG.out.alloc _)⟩

/-- The place of the first of those that end first, among the first k. -/
def fstI (l : List Auc) : Nat → Nat
  | 0 => 0
  | k + 1 => match l[k]?, l[fstI l k]? with
    | some x, some m => if x.ends < m.ends then k else fstI l k
    | _, _ => 0

theorem fstI_lt (l : List Auc) : ∀ k, fstI l (k + 1) < k + 1
  | 0 => by
    unfold fstI
    split
    · split <;> simp [fstI]
    · omega
  | k + 1 => by
    have := fstI_lt l k
    unfold fstI
    split
    · split <;> omega
    · omega

theorem fstI_step {l : List Auc} {k : Nat} {x m : Auc} (hx : l[k]? = some x) (hm : l[fstI l k]? = some m) : fstI l (k + 1) = if x.ends < m.ends then k else fstI l k := by
  rw [fstI]
  simp only [hx, hm]

theorem ord_lt {l : List Auc} {nx : Int} {k j : Nat} {x m : Auc} (h : Rt l nx) (hx : l[k]? = some x) (hm : l[j]? = some m) (hj : j < k) : decide (Auc.ord x m < 0) = decide (x.ends < m.ends) := by
  have hid := (h.prev hx hm hj).1
  unfold Auc.ord cmpI
  by_cases h1 : x.ends < m.ends
  · simp [h1]
  · by_cases h2 : m.ends < x.ends
    · simp [h1, h2]
    · have h3 : ¬ x.id < m.id := by omega
      simp [h1, h2, h3, hid]

set_option maxHeartbeats 1600000 in
theorem min_any (nx : Int) (l : List Auc) (A : Option Addr) (c : Nat) (w : World) (hs : Sl w 7 A l.length (l.flatMap Auc.vals)) (hr : Rt l nx) (hn : 0 < l.length) (x : Auc) (hx : l[fstI l l.length]? = some x) :
    Calls Try.prog 38 #[.slice A l.length c, .func (.func 39) #[] #[]] w fun e w' => e = .returned (.agg #[.int .i64 x.id, .int .i64 x.deed, .int .i64 x.seller, .int .i64 x.least, .int .i64 x.best, .int .i64 x.bidder, .int .i64 x.ends]) ∧ Grew w w' := by
  have hen := enters_of Try.func39 (P := Try.prog) (by kernel_rfl) rfl
  have hle := hr.len
  obtain ⟨x0, hx0⟩ : ∃ y, l[0]? = some y := ⟨_, List.getElem?_eq_getElem hn⟩
  obtain ⟨g, off, rfl, hgb, d0, d1, d2, d3, d4, d5, d6⟩ := hs.atAuc hx0
  simp only [Nat.zero_mul, Nat.add_zero] at d0 d1 d2 d3 d4 d5 d6
  have HS := Lib.hid hs
  have HR := Lib.hid hr
  have HX := Lib.hid hx
  have HX0 := Lib.hid hx0
  have q1 : decide (l.length < 1) = false := decide_eq_false (by omega)
  have q2 : decide ((l.length : Int) < 1) = false := decide_eq_false (by omega)
  have q3 : (0 : Int) < (l.length : Int) := by omega
  clear hs hr hx hx0
  go_enter Try.func38, Try.ntmps38
  go_wp2_with fail
  clear d0 d1 d2 d3 d4 d5 d6
  obtain ⟨W0, hW0⟩ : ∃ W0, (w.alloc (.cells #[.int .i64 0, .int .i64 0, .int .i64 0, .int .i64 0, .int .i64 0, .int .i64 0, .int .i64 0] 32)).alloc (.cells #[.int .i64 x0.id, .int .i64 x0.deed, .int .i64 x0.seller, .int .i64 x0.least, .int .i64 x0.best, .int .i64 x0.bidder, .int .i64 x0.ends] 32) = W0 := ⟨_, rfl⟩
  rw [hW0]
  have HG0 := Lib.hid (show Grew w W0 from hW0 ▸ ((Chg.refl _ _).alloc _).alloc _)
  have B0 := Lib.hid (show Blk W0 w.heap.size 32 #[.int .i64 0, .int .i64 0, .int .i64 0, .int .i64 0, .int .i64 0, .int .i64 0, .int .i64 0] from hW0 ▸ (Blk.new _ _ _).alloc _)
  have B1 := Lib.hid (show Blk W0 (w.heap.size + 1) 32 #[.int .i64 x0.id, .int .i64 x0.deed, .int .i64 x0.seller, .int .i64 x0.least, .int .i64 x0.best, .int .i64 x0.bidder, .int .i64 x0.ends] from hW0 ▸ (by have := Blk.new (w.alloc (.cells #[.int .i64 0, .int .i64 0, .int .i64 0, .int .i64 0, .int .i64 0, .int .i64 0, .int .i64 0] 32)) 32 #[.int .i64 x0.id, .int .i64 x0.deed, .int .i64 x0.seller, .int .i64 x0.least, .int .i64 x0.best, .int .i64 x0.bidder, .int .i64 x0.ends]; simpa using this))
  clear hW0
  go_loopw [6] (fun i wr => ∃ (k : Nat) (m : Auc), 1 ≤ k ∧ k ≤ l.length ∧ i = .int .i64 k ∧ l[fstI l k]? = some m ∧ Grew w wr ∧ Blk wr w.heap.size 32 #[.int .i64 0, .int .i64 0, .int .i64 0, .int .i64 0, .int .i64 0, .int .i64 0, .int .i64 0] ∧ Blk wr (w.heap.size + 1) 32 #[.int .i64 m.id, .int .i64 m.deed, .int .i64 m.seller, .int .i64 m.least, .int .i64 m.best, .int .i64 m.bidder, .int .i64 m.ends]) (fun i _ => l.length - (intOf i).toNat)
  case atStart => exact ⟨1, x0, by omega, hn, rfl, by rw [show fstI l 1 = 0 by have h : fstI l 1 < 1 := fstI_lt l 0; omega]; exact HX0.out, HG0.out, B0.out, B1.out⟩
  case round =>
    obtain ⟨k, m, hk1, hk, rfl, hm, hg, hb0, hb1⟩ := hrel
    have Hm := Lib.hid hm
    have Hg := Lib.hid hg
    have Hb0 := Lib.hid hb0
    have Hb1 := Lib.hid hb1
    have s1 := hb1.lt
    have s0 := hb0.lt
    clear hm hg hb0 hb1
    by_cases hlt : k < l.length
    · obtain ⟨y, hy⟩ : ∃ y, l[k]? = some y := ⟨_, List.getElem?_eq_getElem hlt⟩
      obtain ⟨g', off', hA', hgb', d0, d1, d2, d3, d4, d5, d6⟩ := (HS.out.grew Hg.out).atAuc hy
      simp only [Option.some.injEq, Addr.mk.injEq, and_true] at hA'
      obtain ⟨rfl, rfl⟩ := hA'
      have hjk : fstI l k < k := by obtain ⟨k', rfl⟩ : ∃ k', k = k' + 1 := ⟨k - 1, by omega⟩; exact fstI_lt l k'
      have hod := ord_lt HR.out hy Hm.out hjk
      have hst := fstI_step hy Hm.out
      have hk2 : (k : Int) < (l.length : Int) := by omega
      have hk4 : (0 : Int) ≤ (k : Int) := Int.natCast_nonneg _
      have HY := Lib.hid hy
      have m0 := Hb1.out.cell 0
      have m1 := Hb1.out.cell 1
      have m2 := Hb1.out.cell 2
      have m3 := Hb1.out.cell 3
      have m4 := Hb1.out.cell 4
      have m5 := Hb1.out.cell 5
      have m6 := Hb1.out.cell 6
      simp only [List.getElem?_toArray, List.getElem?_cons_zero, List.getElem?_cons_succ] at m0 m1 m2 m3 m4 m5 m6
      clear hy
      by_cases hlt2 : y.ends < m.ends
      · rw [show decide (y.ends < m.ends) = true by simpa using hlt2] at hod
        rw [if_pos hlt2] at hst
        have Hst := Lib.hid hst
        clear hst hlt2
        go_wp2_with fail
        go_region_held3 (fun w' => ∀ (B i : Nat), B < wr.heap.size → w'.cell? ⟨B, i, none⟩ = wr.cell? ⟨B, i, none⟩)
          ((intro B i hB; first | rfl | exact HG4.out.cell (p := ⟨B, i, none⟩) hB id))
          ((refine (ord_any y m _).mono ?_; rintro e w4 ⟨rfl, hg4⟩; have HG4 := Lib.hid (Grew.trans ((Chg.refl NoF wr).drew) hg4); clear hg4))
        all_goals
          have f1 := (Hb1.out.grew HG4.out).frozen
          have s4 := (Hb1.out.grew HG4.out).lt
          go_wp2_with fail
          refine ⟨⟨k + 1, y, by omega, by omega, by simp, by rw [Hst.out]; exact HY.out, ?_, ?_, ?_⟩, by simp [intOf]; omega⟩
          · (repeat (first | (with_reducible exact (Grew.trans Hg.out HG4.out)) | (with_reducible refine Chg.alloc ?_ _) | (with_reducible refine Chg.drew ?_) | (with_reducible refine Chg.drewN ?_ _) | ((with_reducible refine Chg.setCell ?_ ?hp _); (case hp => (intro h; exfalso; simp at h; try omega)))))
          · (repeat (first | (with_reducible exact (Hb0.out.grew HG4.out)) | (with_reducible apply Blk.drew) | (with_reducible apply Blk.drewN) | (with_reducible apply Blk.alloc) | (with_reducible apply Blk.putTo) | (with_reducible apply Blk.far))); (all_goals first | rfl | (simp; done) | (simp; omega))
          · (repeat (first | (with_reducible exact (Hb1.out.grew HG4.out)) | (with_reducible apply Blk.drew) | (with_reducible apply Blk.drewN) | (with_reducible apply Blk.alloc) | (with_reducible apply Blk.putTo) | (with_reducible apply Blk.far))); (all_goals first | rfl | (simp; done) | (simp; omega))
      · rw [show decide (y.ends < m.ends) = false by simpa using hlt2] at hod
        rw [if_neg hlt2] at hst
        have Hst := Lib.hid hst
        clear hst hlt2
        go_wp2_with fail
        go_region_held3 (fun w' => ∀ (B i : Nat), B < wr.heap.size → w'.cell? ⟨B, i, none⟩ = wr.cell? ⟨B, i, none⟩)
          ((intro B i hB; first | rfl | exact HG4.out.cell (p := ⟨B, i, none⟩) hB id))
          ((refine (ord_any y m _).mono ?_; rintro e w4 ⟨rfl, hg4⟩; have HG4 := Lib.hid (Grew.trans ((Chg.refl NoF wr).drew) hg4); clear hg4))
        all_goals
          go_wp2_with fail
          exact ⟨⟨k + 1, m, by omega, by omega, by simp, by rw [Hst.out]; exact Hm.out, Grew.trans Hg.out HG4.out, Hb0.out.grew HG4.out, Hb1.out.grew HG4.out⟩, by simp [intOf]; omega⟩
    · obtain rfl : k = l.length := by omega
      have e := Hm.out
      rw [HX.out] at e
      cases e
      obtain ⟨c0, f0, s0⟩ := Hb0.out.facts
      obtain ⟨c1, f1, s1⟩ := Hb1.out.facts
      go_wp2
      refine bodyPost_ret (v := (.agg #[.int .i64 x.id, .int .i64 x.deed, .int .i64 x.seller, .int .i64 x.least, .int .i64 x.best, .int .i64 x.bidder, .int .i64 x.ends])) (by simp [results, Try.results38, go_sem, c0, s0]) rfl ⟨rfl, ?_⟩
      (repeat (first | (with_reducible exact Hg.out) | (with_reducible refine Chg.alloc ?_ _) | (with_reducible refine Chg.drew ?_) | (with_reducible refine Chg.drewN ?_ _) | ((with_reducible refine Chg.setCell ?_ ?hp _); (case hp => (intro h; exfalso; simp at h; try omega)))))

end Go.Proofs.Ytbmogbbenfpmiaa
