/- The law's step: a bid that stands. -/
import Derived.Test.YtbmogbbenfpmiaaBidP
namespace Go.Proofs.Ytbmogbbenfpmiaa
open Go.RowKit

theorem cell_far_eq {W : World} {p q : Addr} {u : Value} (hne : p.block ≠ q.block) : (W.setCell p u).cell? q = W.cell? q :=
  World.cell?_setCell_other W p q u (fun e => hne (by rw [e]))

set_option maxRecDepth 100000 in
set_option maxHeartbeats 1600000 in
theorem step_bid_yes (b k : Nat) (x : Auc) (nx : Int) (l : List Auc) (o : Bop) (A Ar : Option Addr) (c cr : Nat) (w : World) (h : Both w b nx l A c Ar) (h1 : o.kind = 2) (hf : fidx (fun x : Auc => x.id == o.a) l = k) (hx : l[k]? = some x) (hr : x.ask o.b o.n = 0) :
    Calls Try.prog 12 #[.pointer (some ⟨b, 0, none⟩), .agg #[.slice Ar l.length cr, .int .i64 nx], (.agg #[.int .i64 o.kind, .int .i64 o.a, .int .i64 o.b, .int .i64 o.n, .int .i64 o.ends])] w fun e w' => StepTo w w' b A nx (l.set k { x with best := o.n, bidder := o.b }) e := by
  obtain ⟨W, hW, hg, b0, b1, b2⟩ := step_boxes w o #[.slice Ar l.length cr, .int .i64 nx]
  have H := Lib.hid h
  have hl := h.rt.len
  have hk : k < l.length := (List.getElem?_eq_some_iff.1 hx).1
  have Hone := Lib.hid (h.rt.one x (List.mem_of_getElem? hx))
  have Hbest := Lib.hid (h.rt.best x (List.mem_of_getElem? hx))
  have Hbf := Lib.hid (show ∀ k, BF b A k → k < w.heap.size from fun k hk => h.isIn.lt hk)
  obtain ⟨gr, ofr, rfl, hgr, -⟩ := h.sl.atAuc hx
  have k1 : (o.kind == 1) = false := by simp [h1]
  have k2 : (o.kind == 2) = true := by simp [h1]
  have B0 := Lib.hid b0
  have B1 := Lib.hid b1
  have B2 := Lib.hid b2
  obtain ⟨c0, f0, s0⟩ := b0.facts
  obtain ⟨c1, f1, s1⟩ := b1.facts
  have Hg := Lib.hid hg
  have HW := Lib.hid hW
  have Hf := Lib.hid hf
  have Hx := Lib.hid hx
  have Hr := Lib.hid hr
  clear h h1 hW b0 b1 b2 hf hg hx hr
  go_enter Try.func12, Try.ntmps12
  go_wp2_with (first
    | (rw [HW.out])
    | (go_at_call 29; refine (rbid_yes k x nx o.a o.b o.n l _ cr _ (H.out.sl.grew Hg.out) (by omega) Hf.out Hx.out Hone.out Hr.out).mono ?_; rintro e w1 ⟨Ar1, cr1, rfl, hs1, hg1, hn1⟩; have HS1 := Lib.hid (And.intro hs1 (And.intro hg1 hn1)); have HG1 := Lib.hid (Grew.trans Hg.out hg1); have B01 := Lib.hid (B0.out.grew hg1); have B11 := Lib.hid (B1.out.grew hg1); have B21 := Lib.hid (B2.out.grew hg1); clear c0 f0 s0 c1 f1 s1; obtain ⟨c1, f1, s1⟩ := B11.out.facts; have BY := Lib.hid (Blk.new w1 39 #[.slice Ar1 l.length cr1, .int .i64 nx]); have hsz1 := HG1.out.size; clear hg1 hs1 hn1)
    | (go_at_call 10; refine (bid_yes b k x nx o.a o.b o.n l A c _ (H.out.isIn.grew (HG1.out.alloc _)) (by omega) Hf.out Hx.out Hbest.out.1 Hbest.out.2 Hr.out).mono ?_; rintro e w2 ⟨rfl, hi2, hc2⟩; have HI2 := Lib.hid hi2; have HC2 := Lib.hid hc2; clear c1 f1 s1; have hs1 := B21.out.lt; have B02 := Lib.hid ((B01.out.alloc _).chg hc2 (fun q => by have := Hbf.out _ q; omega)); have B12 := Lib.hid ((B11.out.alloc _).chg hc2 (fun q => by have := Hbf.out _ q; omega)); have B22 := Lib.hid ((B21.out.alloc _).chg hc2 (fun q => by have := Hbf.out _ q; omega)); have BY2 := Lib.hid (BY.out.chg hc2 (fun q => by have := Hbf.out _ q; omega)); have HS2 := Lib.hid ((H.out.sl.grew (HG1.out.alloc _)).keep hc2 H.out.far); clear hi2 hc2))
  have hs2 := B22.out.lt
  have hW2 : w.heap.size + 2 < W.heap.size := B2.out.lt
  obtain ⟨W3, hW3⟩ : ∃ W3, w2.alloc (.cells #[.int .i64 x.id, .int .i64 x.deed, .int .i64 x.seller, .int .i64 x.least, .int .i64 x.best, .int .i64 x.bidder, .int .i64 x.ends] 32) = W3 := ⟨_, rfl⟩
  rw [hW3]
  have HC3 := Lib.hid (show Grew w2 W3 from hW3 ▸ (Chg.refl _ _).alloc _)
  have HS3 := Lib.hid (HS2.out.grew HC3.out)
  obtain ⟨g', off', hA', -, d0, d1, d2, d3, d4, d5, d6⟩ := HS3.out.atAuc Hx.out
  simp only [Option.some.injEq, Addr.mk.injEq, and_true] at hA'
  obtain ⟨rfl, rfl⟩ := hA'
  obtain ⟨c0, f0, s0⟩ := (B02.out.grew HC3.out).facts
  obtain ⟨c1, f1, s1⟩ := (B12.out.grew HC3.out).facts
  obtain ⟨c2, f2, s2⟩ := (B22.out.grew HC3.out).facts
  obtain ⟨c3, f3, s3⟩ := (BY2.out.grew HC3.out).facts
  obtain ⟨c4, f4, s4⟩ := (show Blk W3 w2.heap.size 32 #[.int .i64 x.id, .int .i64 x.deed, .int .i64 x.seller, .int .i64 x.least, .int .i64 x.best, .int .i64 x.bidder, .int .i64 x.ends] from hW3 ▸ Blk.new _ _ _).facts
  have x0 := c0 0
  have x01 := c0 1
  have x1 := c1 1
  have y0 := c3 0
  have y1 := c3 1
  have a0 := c4 0
  have a1 := c4 1
  have a2 := c4 2
  have a3 := c4 3
  have a4 := c4 4
  have a5 := c4 5
  have a6 := c4 6
  simp only [List.getElem?_toArray, List.getElem?_cons_zero, List.getElem?_cons_succ] at x0 x01 x1 y0 y1 a0 a1 a2 a3 a4 a5 a6
  clear hW3
  have hk0 : (0 : Int) ≤ (k : Int) := Int.natCast_nonneg _
  have hk1 : (k : Int) < (l.length : Int) := by omega
  have hgr3 : gr < W3.heap.size := by omega
  have f20 := f2 0
  have f21 := f2 1
  have e20 := c2 0
  have e21 := c2 1
  simp only [List.getElem?_toArray, List.getElem?_cons_zero, List.getElem?_cons_succ] at e20 e21
  clear c0 c1 c3 c4 f0 f1 f3 f4
  have n0 : gr ≠ w.heap.size + 2 := by omega
  have n1 : w1.heap.size ≠ w.heap.size + 2 := by omega
  have n2 : w2.heap.size ≠ w.heap.size + 2 := by omega
  go_region_held3 (fun w' => ∀ (B i : Nat), B < W3.heap.size → B ≠ w.heap.size + 2 → w'.cell? ⟨B, i, none⟩ = W3.cell? ⟨B, i, none⟩)
    ((intro B i hB1 hB2; first | rfl | (rw [hg4.cell (p := ⟨B, i, none⟩) (by simp; omega) id]; rfl) | (rw [cell_far_eq (by simp; omega), cell_far_eq (by simp; omega)]; rfl) | (rw [cell_far_eq (by simp; omega), cell_far_eq (by simp; omega), hg4.cell (p := ⟨B, i, none⟩) (by simp; omega) id]; rfl) | (rw [hg4.cell (p := ⟨B, i, none⟩) (by simp; omega) id]; show (World.setCell _ _ _).cell? _ = _; rw [cell_far_eq (by simp; omega), cell_far_eq (by simp; omega)]; rfl)))
    ((go_at_call 16; refine (rfind_any o.a nx l _ cr _ (HS3.out.keep (F := fun j => j = w.heap.size + 2) (by (repeat (first | (with_reducible exact Chg.refl _ _) | (with_reducible refine Chg.alloc ?_ _) | (with_reducible refine Chg.drew ?_) | (with_reducible refine Chg.drewN ?_ _) | ((with_reducible refine Chg.setCell ?_ ?hp _); (case hp => exact fun _ => rfl))))) (fun _ a ha e => by injection ha with ha; subst ha; have e' : gr = w.heap.size + 2 := e; omega)) (by omega)).mono ?_; rintro e w4 ⟨rfl, hg4⟩; rw [Hf.out]; have q0 := hg4.cell (p := ⟨w.heap.size + 2, 0, none⟩) (by simp; omega) id; have q1 := hg4.cell (p := ⟨w.heap.size + 2, 1, none⟩) (by simp; omega) id; have q2 := hg4.frozen (p := ⟨w.heap.size + 2, 0, none⟩) (by simp; omega) id; have q3 := hg4.frozen (p := ⟨w.heap.size + 2, 1, none⟩) (by simp; omega) id))
  all_goals
    have hs4 := hg4.size
    simp only [World.size_drew] at hs4
    go_wp2
    refine bodyPost_ret (v := .tuple #[.agg #[.slice Ar1 l.length cr1, .int .i64 nx], .bool true]) (by simp [results, Try.results12, go_sem, q0, q1, e20, e21]) rfl ?_
    refine StepTo.made (cr := cr1) (Ar' := Ar1) (N := w.heap.size + 2) (w0 := W) (w1 := w1.alloc (.cells #[.slice Ar1 l.length cr1, .int .i64 nx] 39)) (w2 := w2) (A' := A) (c' := c) H.out (by simp) Hg.out (HS1.out.1.grew ((Chg.refl _ _).alloc _)) HS1.out.2.2 (HS1.out.2.1.alloc _) HI2.out HC2.out (fun k hk => .inl hk) ?_ (by omega) hW2
    repeat (first | (with_reducible exact (Grew.trans (Chg.drew HC3.out) hg4).chg) | (with_reducible refine Chg.drew ?_) | ((with_reducible refine Chg.setCell ?_ ?hp _); (case hp => exact fun _ => rfl)))

end Go.Proofs.Ytbmogbbenfpmiaa
