/- The law's step: an auction closed. -/
import Derived.Test.YtbmogbbenfpmiaaBidQ
namespace Go.Proofs.Ytbmogbbenfpmiaa
open Go.RowKit

theorem StepTo.made2 {w w0 w1 w2 w3 : World} {b c c' cr N : Nat} {nx nx' : Int} {l l' : List Auc} {A A' Ar Ar' : Option Addr} {e : Ending} (h : Both w b nx l A c Ar) (he : e = .returned (.tuple #[.agg #[.slice Ar' l'.length cr, .int .i64 nx'], .bool true]))
    (hg : Grew w w0) (hi : BidsIn w1 b nx' l' A' c') (hc : Chg (BF b A) w0 w1) (hF : ∀ k, BF b A' k → BF b A k ∨ w0.heap.size ≤ k) (hg1 : Grew w1 w2) (hs : Sl w2 7 Ar' l'.length (l'.flatMap Auc.vals)) (hn : ∀ a, Ar' = some a → w1.heap.size ≤ a.block)
    (h3 : Chg (fun j => j = N) w2 w3) (hN : w.heap.size ≤ N) (hN0 : N < w0.heap.size) : StepTo w w3 b A nx' l' e := by
  have hz : ∀ k, BF b A k → k < w.heap.size := fun k hk => h.isIn.lt hk
  have hs0 := hg.size
  have hs1 := hc.size
  have hs2 := hg1.size
  have hNF : ¬ BF b A' N := fun hb => by
    rcases hF _ hb with h1 | h1
    · have := hz _ h1; omega
    · omega
  refine ⟨Ar', cr, A', c', he, (hi.grew hg1).chg h3 (fun e => hNF (e ▸ .inl rfl)) (fun a ha e => hNF (e ▸ .inr ⟨a, ha, rfl⟩)), hs.keep h3 (fun hp a ha hb => ?_), fun hp a ha hb => ?_, ((hg.then hc).grew hg1).trans h3 (fun i hi e => by omega), fun k hk => ?_⟩
  · have := hn a ha; omega
  · have h1 := hi.lt hb; have := hn a ha; omega
  · rcases hF k hk with h1 | h1
    · exact .inl h1
    · right; omega

set_option maxRecDepth 100000 in
set_option maxHeartbeats 1600000 in
theorem step_close_none (b : Nat) (nx : Int) (l : List Auc) (o : Bop) (A Ar : Option Addr) (c cr : Nat) (w : World) (h : Both w b nx l A c Ar) (h1 : o.kind = 3) (hf : fidx (fun x : Auc => x.id == o.a) l = -1) :
    Calls Try.prog 12 #[.pointer (some ⟨b, 0, none⟩), .agg #[.slice Ar l.length cr, .int .i64 nx], (.agg #[.int .i64 o.kind, .int .i64 o.a, .int .i64 o.b, .int .i64 o.n, .int .i64 o.ends])] w fun e w' => StepTo w w' b A nx l e := by
  obtain ⟨W, hW, hg, b0, b1, b2⟩ := step_boxes w o #[.slice Ar l.length cr, .int .i64 nx]
  have H := Lib.hid h
  have hl := h.rt.len
  have k1 : (o.kind == 1) = false := by simp [h1]
  have k2 : (o.kind == 2) = false := by simp [h1]
  have k3 : (o.kind == 3) = true := by simp [h1]
  have B0 := Lib.hid b0
  have B1 := Lib.hid b1
  have B2 := Lib.hid b2
  obtain ⟨c1, f1, s1⟩ := b1.facts
  have Hg := Lib.hid hg
  have HW := Lib.hid hW
  have Hf := Lib.hid hf
  clear h h1 hW b0 b1 b2 hf hg
  go_enter Try.func12, Try.ntmps12
  go_wp2_with (first
    | (rw [HW.out])
    | (go_at_call 30; refine (close_none b nx o.a l A c _ (H.out.isIn.grew Hg.out) (by omega) Hf.out).mono ?_; rintro e w1 ⟨rfl, hg1⟩; have HG1 := Lib.hid (Grew.trans Hg.out hg1); have B21 := Lib.hid (B2.out.grew hg1); clear c1 f1 s1; obtain ⟨c0, f0, s0⟩ := (B0.out.grew hg1).facts; have B01 := Lib.hid (B0.out.grew hg1); obtain ⟨c1, f1, s1⟩ := (B1.out.grew hg1).facts; have BA := Lib.hid (Blk.new w1 32 #[.int .i64 0, .int .i64 0, .int .i64 0, .int .i64 0, .int .i64 0, .int .i64 0, .int .i64 0]); have hsz := HG1.out.size; have hs1 := B21.out.lt; clear hg1)
    | (go_at_call 16; refine (rfind_any o.a nx l Ar cr _ (H.out.sl.grew (HG1.out.alloc _)) (by omega)).mono ?_; rintro e w2 ⟨rfl, hg2⟩; rw [Hf.out]; have HG2 := Lib.hid (Grew.trans (HG1.out.alloc _) hg2); clear c0 f0 s0 c1 f1 s1; obtain ⟨c0, f0, s0⟩ := ((B01.out.alloc _).grew hg2).facts; obtain ⟨c2, f2, s2⟩ := ((B21.out.alloc _).grew hg2).facts; obtain ⟨c4, f4, s4⟩ := (BA.out.grew hg2).facts; clear hg2))
  go_region
  all_goals
    go_wp2
    refine bodyPost_ret (v := .tuple #[.agg #[.slice Ar l.length cr, .int .i64 nx], .bool true]) (by simp [results, Try.results12, go_sem, c2, s2]) rfl (StepTo.same H.out cr rfl ?_)
    (repeat (first | (with_reducible exact HG2.out) | (with_reducible refine Chg.alloc ?_ _) | (with_reducible refine Chg.drew ?_) | (with_reducible refine Chg.drewN ?_ _) | ((with_reducible refine Chg.setCell ?_ ?hp _); (case hp => (intro h; exfalso; simp at h; try omega)))))

set_option maxRecDepth 100000 in
set_option maxHeartbeats 1600000 in
theorem step_close_yes (b k : Nat) (x : Auc) (nx : Int) (l : List Auc) (o : Bop) (A Ar : Option Addr) (c cr : Nat) (w : World) (h : Both w b nx l A c Ar) (h1 : o.kind = 3) (hf : fidx (fun x : Auc => x.id == o.a) l = k) (hx : l[k]? = some x) :
    Calls Try.prog 12 #[.pointer (some ⟨b, 0, none⟩), .agg #[.slice Ar l.length cr, .int .i64 nx], (.agg #[.int .i64 o.kind, .int .i64 o.a, .int .i64 o.b, .int .i64 o.n, .int .i64 o.ends])] w fun e w' => StepTo w w' b A nx (l.eraseIdx k) e := by
  obtain ⟨W, hW, hg, b0, b1, b2⟩ := step_boxes w o #[.slice Ar l.length cr, .int .i64 nx]
  have H := Lib.hid h
  have hl := h.rt.len
  have hk : k < l.length := (List.getElem?_eq_some_iff.1 hx).1
  have Hbf := Lib.hid (show ∀ k, BF b A k → k < w.heap.size from fun k hk => h.isIn.lt hk)
  obtain ⟨gr, ofr, rfl, hgr, -⟩ := h.sl.atAuc hx
  have k1 : (o.kind == 1) = false := by simp [h1]
  have k2 : (o.kind == 2) = false := by simp [h1]
  have k3 : (o.kind == 3) = true := by simp [h1]
  have B0 := Lib.hid b0
  have B1 := Lib.hid b1
  have B2 := Lib.hid b2
  obtain ⟨c1, f1, s1⟩ := b1.facts
  have hW2 := b2.lt
  have Hg := Lib.hid hg
  have HW := Lib.hid hW
  have Hf := Lib.hid hf
  have Hx := Lib.hid hx
  clear h h1 hW b0 b1 b2 hf hg hx
  go_enter Try.func12, Try.ntmps12
  go_wp2_with (first
    | (rw [HW.out])
    | (go_at_call 30; refine (close_some b k x nx o.a l A c _ (H.out.isIn.grew Hg.out) (by omega) Hf.out Hx.out).mono ?_; rintro e w1 ⟨rfl, hi1, hc1⟩; have HI1 := Lib.hid (And.intro hi1 hc1); clear c1 f1 s1; have B01 := Lib.hid (B0.out.chg hc1 (fun q => by have := Hbf.out _ q; omega)); have B11 := Lib.hid (B1.out.chg hc1 (fun q => by have := Hbf.out _ q; omega)); have B21 := Lib.hid (B2.out.chg hc1 (fun q => by have := Hbf.out _ q; omega)); have HS1 := Lib.hid ((H.out.sl.grew Hg.out).keep hc1 H.out.far); obtain ⟨c0, f0, s0⟩ := B01.out.facts; obtain ⟨c1, f1, s1⟩ := B11.out.facts; have BA := Lib.hid (Blk.new w1 32 #[.int .i64 x.id, .int .i64 x.deed, .int .i64 x.seller, .int .i64 x.least, .int .i64 x.best, .int .i64 x.bidder, .int .i64 x.ends]); have hsz := Hg.out.size; have hsz1 := hc1.size; have hs1 := B21.out.lt; clear hi1 hc1)
    | (go_at_call 16; refine (rfind_any o.a nx l _ cr _ (HS1.out.grew ((Chg.refl _ _).alloc _)) (by omega)).mono ?_; rintro e w2 ⟨rfl, hg2⟩; rw [Hf.out]; have HG2 := Lib.hid (Grew.trans ((Chg.refl _ w1).alloc _) hg2); clear c0 f0 s0 c1 f1 s1; obtain ⟨c0, f0, s0⟩ := ((B01.out.alloc _).grew hg2).facts; obtain ⟨c2, f2, s2⟩ := ((B21.out.alloc _).grew hg2).facts; obtain ⟨c4, f4, s4⟩ := (BA.out.grew hg2).facts; clear hg2))
  have HS2 := Lib.hid (HS1.out.grew HG2.out)
  obtain ⟨g', off', hA', -, d0, d1, d2, d3, d4, d5, d6⟩ := HS2.out.atAuc Hx.out
  simp only [Option.some.injEq, Addr.mk.injEq, and_true] at hA'
  obtain ⟨rfl, rfl⟩ := hA'
  have x0 := c0 0
  have x1 := c0 1
  have a0 := c4 0
  have a1 := c4 1
  have a2 := c4 2
  have a3 := c4 3
  have a4 := c4 4
  have a5 := c4 5
  have a6 := c4 6
  have f20 := f2 0
  have f21 := f2 1
  have e20 := c2 0
  have e21 := c2 1
  simp only [List.getElem?_toArray, List.getElem?_cons_zero, List.getElem?_cons_succ] at x0 x1 a0 a1 a2 a3 a4 a5 a6 e20 e21
  have hk0 : (0 : Int) ≤ (k : Int) := Int.natCast_nonneg _
  have hk1 : (k : Int) < (l.length : Int) := by omega
  have hz2 := HG2.out.size
  have hgr3 : gr < w2.heap.size := by omega
  have n0 : gr ≠ w.heap.size + 2 := by omega
  have n1 : w1.heap.size ≠ w.heap.size + 2 := by omega
  clear c0 c2 c4 f0 f2 f4
  go_region_held3 (fun w' => ∀ (B i : Nat), B < w2.heap.size → B ≠ w.heap.size + 2 → w'.cell? ⟨B, i, none⟩ = w2.cell? ⟨B, i, none⟩)
    ((intro B i hB1 hB2; first | rfl | (rw [hg4.cell (p := ⟨B, i, none⟩) (by simp; omega) id]; rfl) | (rw [cell_far_eq (by simp; omega), cell_far_eq (by simp; omega)]; rfl) | (rw [cell_far_eq (by simp; omega), cell_far_eq (by simp; omega), hg4.cell (p := ⟨B, i, none⟩) (by simp; omega) id]; rfl)))
    ((go_at_call 22; refine (without_any k nx l _ cr _ (HS2.out.grew ((Chg.refl _ _).drew)) (by omega) hk).mono ?_; rintro e w4 ⟨Ar1, cr1, rfl, hs4, hg4, hn4⟩; have HN4 := Lib.hid (And.intro hs4 hn4); clear hs4 hn4; have q0 := hg4.cell (p := ⟨w.heap.size + 2, 0, none⟩) (by simp; omega) id; have q1 := hg4.cell (p := ⟨w.heap.size + 2, 1, none⟩) (by simp; omega) id; have q2 := hg4.frozen (p := ⟨w.heap.size + 2, 0, none⟩) (by simp; omega) id; have q3 := hg4.frozen (p := ⟨w.heap.size + 2, 1, none⟩) (by simp; omega) id))
  all_goals
    have hs4 := hg4.size
    simp only [World.size_drew] at hs4
    go_wp2
    refine bodyPost_ret (v := .tuple #[.agg #[.slice Ar1 (l.eraseIdx k).length cr1, .int .i64 nx], .bool true]) (by simp [results, Try.results12, go_sem, q0, q1, e20, e21]) rfl ?_
    refine StepTo.made2 (cr := cr1) (Ar' := Ar1) (N := w.heap.size + 2) (w0 := W) (w1 := w1) (w2 := w4) (A' := A) (c' := c) H.out rfl Hg.out HI1.out.1 HI1.out.2 (fun k hk => .inl hk) (Grew.trans (Chg.drew HG2.out) hg4) HN4.out.1 (fun a ha => by have := HN4.out.2 a ha; simp only [World.size_drew] at this; omega) ?_ (by omega) hW2
    (repeat (first | (with_reducible exact Chg.refl _ _) | (with_reducible refine Chg.alloc ?_ _) | (with_reducible refine Chg.drew ?_) | (with_reducible refine Chg.drewN ?_ _) | ((with_reducible refine Chg.setCell ?_ ?hp _); (case hp => exact fun _ => rfl))))

end Go.Proofs.Ytbmogbbenfpmiaa
