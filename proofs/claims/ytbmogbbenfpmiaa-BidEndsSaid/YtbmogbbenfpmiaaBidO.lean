/- The law's step: an opening that stands, a bid. -/
import Derived.Test.YtbmogbbenfpmiaaBidN
namespace Go.Proofs.Ytbmogbbenfpmiaa
open Go.RowKit

theorem mayE_zero {l : List Auc} {nx deed seller least ends : Int} (h : mayE l nx deed seller least ends = 0) : Auc.chk ⟨nx, deed, seller, least, 0, 0, ends⟩ = 0 ∧ fidx (fun x : Auc => x.deed == deed) l = -1 ∧ l.length < 64 := by
  unfold mayE at h
  by_cases q1 : Auc.chk ⟨nx, deed, seller, least, 0, 0, ends⟩ = 0
  · rw [if_neg (by simpa using q1)] at h
    by_cases q2 : fidx (fun x : Auc => x.deed == deed) l = -1
    · rw [if_neg (by simpa using q2)] at h
      by_cases q3 : 64 ≤ l.length
      · rw [if_pos q3] at h; omega
      · exact ⟨q1, q2, by omega⟩
    · rw [if_pos q2] at h; omega
  · rw [if_pos q1] at h; exact absurd h q1

theorem StepTo.made {w w0 w1 w2 w3 : World} {b c c' cr N : Nat} {nx nx' : Int} {l l' : List Auc} {A A' Ar Ar' : Option Addr} {e : Ending} (h : Both w b nx l A c Ar) (he : e = .returned (.tuple #[.agg #[.slice Ar' l'.length cr, .int .i64 nx'], .bool true]))
    (hg : Grew w w0) (hs : Sl w1 7 Ar' l'.length (l'.flatMap Auc.vals)) (hn : ∀ a, Ar' = some a → w0.heap.size ≤ a.block) (hg1 : Grew w0 w1)
    (hi : BidsIn w2 b nx' l' A' c') (hc : Chg (BF b A) w1 w2) (hF : ∀ k, BF b A' k → BF b A k ∨ w1.heap.size ≤ k) (h3 : Chg (fun j => j = N) w2 w3) (hN : w.heap.size ≤ N) (hN0 : N < w0.heap.size) : StepTo w w3 b A nx' l' e := by
  have hz : ∀ k, BF b A k → k < w.heap.size := fun k hk => h.isIn.lt hk
  have hs0 := hg.size
  have hs1 := hg1.size
  have hs2 := hc.size
  have hNF : ¬ BF b A' N := fun hb => by
    rcases hF _ hb with h1 | h1
    · have := hz _ h1; omega
    · omega
  refine ⟨Ar', cr, A', c', he, hi.chg h3 (fun e => hNF (e ▸ .inl rfl)) (fun a ha e => hNF (e ▸ .inr ⟨a, ha, rfl⟩)), (hs.keep hc (fun hp a ha hb => ?_)).keep h3 (fun hp a ha hb => ?_), fun hp a ha hb => ?_, ((Grew.trans hg hg1).then hc).trans h3 (fun i hi e => by omega), fun k hk => ?_⟩
  · have := hn a ha; have := hz _ hb; omega
  · have := hn a ha; omega
  · rcases hF _ hb with h1 | h1
    · have := hn a ha; have := hz _ h1; omega
    · have := hs.lt hp a ha; omega
  · rcases hF k hk with h1 | h1
    · exact .inl h1
    · right; omega

set_option maxRecDepth 100000 in
set_option maxHeartbeats 1600000 in
theorem step_open_yes (b : Nat) (nx : Int) (l : List Auc) (o : Bop) (A Ar : Option Addr) (c cr : Nat) (w : World) (h : Both w b nx l A c Ar) (h1 : o.kind = 1) (hr : mayE l nx o.a o.b o.n o.ends = 0) :
    Calls Try.prog 12 #[.pointer (some ⟨b, 0, none⟩), .agg #[.slice Ar l.length cr, .int .i64 nx], (.agg #[.int .i64 o.kind, .int .i64 o.a, .int .i64 o.b, .int .i64 o.n, .int .i64 o.ends])] w fun e w' => StepTo w w' b A (nx + 1) (l ++ [⟨nx, o.a, o.b, o.n, 0, 0, o.ends⟩]) e := by
  obtain ⟨W, hW, hg, b0, b1, b2⟩ := step_boxes w o #[.slice Ar l.length cr, .int .i64 nx]
  have H := Lib.hid h
  have hl := h.rt.len
  have hp := h.rt.pos
  have hnb := h.nb
  have k1 : (o.kind == 1) = true := by simpa using h1
  have B1 := Lib.hid b1
  have B2 := Lib.hid b2
  obtain ⟨c0, f0, s0⟩ := b0.facts
  obtain ⟨c1, f1, s1⟩ := b1.facts
  have Hg := Lib.hid hg
  have HW := Lib.hid hW
  have Hr := Lib.hid hr
  have Hz := Lib.hid (mayE_zero hr)
  have Hbf := Lib.hid (show ∀ k, BF b A k → k < w.heap.size from fun k hk => h.isIn.lt hk)
  clear h h1 hW b0 b1 b2 hr hg
  go_enter Try.func12, Try.ntmps12
  go_wp2_with (first
    | (rw [HW.out])
    | (go_at_call 28; refine (ropen_yes nx o.a o.b o.n o.ends l Ar cr _ (H.out.sl.grew Hg.out) (by omega) Hr.out (by omega) (by omega)).mono ?_; rintro e w1 ⟨Ar1, cr1, rfl, hs1, hg1, hn1⟩; have HS1 := Lib.hid (And.intro hs1 (And.intro hg1 hn1)); have HG1 := Lib.hid (Grew.trans Hg.out hg1); have B21 := Lib.hid (B2.out.grew hg1); clear c0 f0 s0 c1 f1 s1; obtain ⟨c1, f1, s1⟩ := (B1.out.grew hg1).facts; have BY := Lib.hid (Blk.new w1 39 #[.slice Ar1 (l.length + 1) cr1, .int .i64 (nx + 1)]); have hsz1 := HG1.out.size; clear hg1 hs1 hn1)
    | (go_at_call 9; refine (open_yes b nx o.a o.b o.n o.ends l A c _ (H.out.isIn.grew (HG1.out.alloc _)) Hz.out.2.2 Hz.out.1 Hz.out.2.1 (by omega) (by omega)).mono ?_; rintro e w2 ⟨rfl, ht⟩; have HT := Lib.hid ht; clear c1 f1 s1 ht; obtain ⟨A2, c2', hi2, hc2, hF2⟩ := HT.out; have hs1 := B21.out.lt; obtain ⟨c2, f2, s2⟩ := ((B21.out.alloc _).chg hc2 (fun q => by have := Hbf.out _ q; omega)).facts; obtain ⟨c3, f3, s3⟩ := (BY.out.chg hc2 (fun q => by have := Hbf.out _ q; omega)).facts; have HC2 := Lib.hid hc2; have HI2 := Lib.hid (And.intro hi2 hF2); clear hi2 hc2 hF2))
  refine bodyPost_ret (v := .tuple #[.agg #[.slice Ar1 (l.length + 1) cr1, .int .i64 (nx + 1)], .bool true]) (by simp [results, Try.results12, go_sem, c2, s2]) rfl ?_
  have hW2 : w.heap.size + 2 < W.heap.size := B2.out.lt
  refine StepTo.made (cr := cr1) (Ar' := Ar1) (N := w.heap.size + 2) (w0 := W) (w1 := w1.alloc (.cells #[.slice Ar1 (l.length + 1) cr1, .int .i64 (nx + 1)] 39)) (w2 := w2) (A' := A2) (c' := c2') H.out (by simp) Hg.out (HS1.out.1.grew ((Chg.refl _ _).alloc _)) HS1.out.2.2 (HS1.out.2.1.alloc _) HI2.out.1 HC2.out HI2.out.2 ?_ (by omega) hW2
  (repeat (first | (with_reducible exact Chg.refl _ _) | (with_reducible refine Chg.alloc ?_ _) | (with_reducible refine Chg.drew ?_) | (with_reducible refine Chg.drewN ?_ _) | ((with_reducible refine Chg.setCell ?_ ?hp _); (case hp => exact fun _ => rfl))))

end Go.Proofs.Ytbmogbbenfpmiaa
