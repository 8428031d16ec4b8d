/- The law's step: one call of both, opening. -/
import Derived.Test.YtbmogbbenfpmiaaBidM
import Derived.Test.YtbmogbbenfpmiaaBopRec
namespace Go.Proofs.Ytbmogbbenfpmiaa
open Go.RowKit

theorem Sl.keep {w w' : World} {s n : Nat} {A : Option Addr} {xs : List Value} {F : Nat → Prop} (h : Sl w s A n xs) (hc : Chg F w w') (hF : 0 < n → ∀ a, A = some a → ¬ F a.block) : Sl w' s A n xs :=
  ⟨h.1, fun hn => by
    obtain ⟨b, off, e, hb, hx⟩ := h.2 hn
    exact ⟨b, off, e, Nat.lt_of_lt_of_le hb hc.size, fun j u hu => (hc.cell (p := ⟨b, off + j, none⟩) hb (fun f => hF hn _ e f)).trans (hx j u hu)⟩⟩
theorem Sl.lt {w : World} {s n : Nat} {A : Option Addr} {xs : List Value} (h : Sl w s A n xs) (hn : 0 < n) : ∀ a, A = some a → a.block < w.heap.size := by
  intro a ha
  obtain ⟨b, off, e, hb, _⟩ := h.2 hn
  rw [e] at ha; injection ha with ha; subst ha; exact hb

/-- The auctions and the document's list say the same. -/
structure Both (w : World) (b : Nat) (nx : Int) (l : List Auc) (A : Option Addr) (c : Nat) (Ar : Option Addr) : Prop where
  isIn : BidsIn w b nx l A c
  sl : Sl w 7 Ar l.length (l.flatMap Auc.vals)
  far : 0 < l.length → ∀ a, Ar = some a → ¬ BF b A a.block
  rt : Rt l nx
  nb : nx ≤ 1000000

/-- What a step leaves. -/
def StepTo (w w' : World) (b : Nat) (A : Option Addr) (nx : Int) (l : List Auc) (e : Ending) : Prop :=
  ∃ Ar cr A' c', e = .returned (.tuple #[.agg #[.slice Ar l.length cr, .int .i64 nx], .bool true]) ∧ BidsIn w' b nx l A' c' ∧ Sl w' 7 Ar l.length (l.flatMap Auc.vals) ∧ (0 < l.length → ∀ a, Ar = some a → ¬ BF b A' a.block) ∧
    Chg (BF b A) w w' ∧ (∀ k, BF b A' k → BF b A k ∨ w.heap.size ≤ k)

theorem StepTo.same {w w' : World} {b c : Nat} {nx : Int} {l : List Auc} {A Ar : Option Addr} {e : Ending} (h : Both w b nx l A c Ar) (cr : Nat) (he : e = .returned (.tuple #[.agg #[.slice Ar l.length cr, .int .i64 nx], .bool true])) (hg : Grew w w') : StepTo w w' b A nx l e :=
  ⟨Ar, cr, A, c, he, h.isIn.grew hg, h.sl.grew hg, h.far, hg.chg, fun _ => .inl⟩

/-- The boxes that the step lays first. -/
theorem step_boxes (w : World) (o : Bop) (X : Array Value) : ∃ W, ((w.alloc (.cells X 39)).alloc (.cells #[.int .i64 o.kind, .int .i64 o.a, .int .i64 o.b, .int .i64 o.n, .int .i64 o.ends] 30)).alloc (.cells #[.slice none 0 0, .int .i64 0] 39) = W ∧ Grew w W ∧
    Blk W w.heap.size 39 X ∧ Blk W (w.heap.size + 1) 30 #[.int .i64 o.kind, .int .i64 o.a, .int .i64 o.b, .int .i64 o.n, .int .i64 o.ends] ∧ Blk W (w.heap.size + 2) 39 #[.slice none 0 0, .int .i64 0] := by
  refine ⟨_, rfl, (((Chg.refl _ _).alloc _).alloc _).alloc _, ((Blk.new _ _ _).alloc _).alloc _, ?_, ?_⟩
  · have := (Blk.new (w.alloc (.cells X 39)) 30 #[.int .i64 o.kind, .int .i64 o.a, .int .i64 o.b, .int .i64 o.n, .int .i64 o.ends]).alloc (.cells #[.slice none 0 0, .int .i64 0] 39)
    simpa using this
  · have := Blk.new ((w.alloc (.cells X 39)).alloc (.cells #[.int .i64 o.kind, .int .i64 o.a, .int .i64 o.b, .int .i64 o.n, .int .i64 o.ends] 30)) 39 #[.slice none 0 0, .int .i64 0]
    simpa using this

set_option maxRecDepth 100000 in
set_option maxHeartbeats 1600000 in
theorem step_none (b : Nat) (nx : Int) (l : List Auc) (o : Bop) (A Ar : Option Addr) (c cr : Nat) (w : World) (h : Both w b nx l A c Ar) (h1 : o.kind ≠ 1) (h2 : o.kind ≠ 2) (h3 : o.kind ≠ 3) :
    Calls Try.prog 12 #[.pointer (some ⟨b, 0, none⟩), .agg #[.slice Ar l.length cr, .int .i64 nx], (.agg #[.int .i64 o.kind, .int .i64 o.a, .int .i64 o.b, .int .i64 o.n, .int .i64 o.ends])] w fun e w' => StepTo w w' b A nx l e := by
  obtain ⟨W, hW, hg, b0, b1, b2⟩ := step_boxes w o #[.slice Ar l.length cr, .int .i64 nx]
  have H := Lib.hid h
  have k1 : (o.kind == 1) = false := by simpa using h1
  have k2 : (o.kind == 2) = false := by simpa using h2
  have k3 : (o.kind == 3) = false := by simpa using h3
  obtain ⟨c0, f0, s0⟩ := b0.facts
  obtain ⟨c1, f1, s1⟩ := b1.facts
  obtain ⟨c2, f2, s2⟩ := b2.facts
  have HW := Lib.hid hW
  clear h h1 h2 h3 hW b0 b1 b2
  go_enter Try.func12, Try.ntmps12
  go_wp2_with (rw [HW.out])
  refine bodyPost_ret (v := .tuple #[.agg #[.slice Ar l.length cr, .int .i64 nx], .bool true]) (by simp [results, Try.results12, go_sem, c2, s2]) rfl (StepTo.same H.out cr rfl ?_)
  have hsz := hg.size
  (repeat (first | (with_reducible exact hg) | (with_reducible refine Chg.alloc ?_ _) | (with_reducible refine Chg.drew ?_) | (with_reducible refine Chg.drewN ?_ _) | ((with_reducible refine Chg.setCell ?_ ?hp _); (case hp => (intro h; exfalso; simp at h; try omega)))))

set_option maxRecDepth 100000 in
set_option maxHeartbeats 1600000 in
theorem step_open_no (b : Nat) (nx r : Int) (l : List Auc) (o : Bop) (A Ar : Option Addr) (c cr : Nat) (w : World) (h : Both w b nx l A c Ar) (h1 : o.kind = 1) (hr : mayE l nx o.a o.b o.n o.ends = r) (hr0 : r ≠ 0) :
    Calls Try.prog 12 #[.pointer (some ⟨b, 0, none⟩), .agg #[.slice Ar l.length cr, .int .i64 nx], (.agg #[.int .i64 o.kind, .int .i64 o.a, .int .i64 o.b, .int .i64 o.n, .int .i64 o.ends])] w fun e w' => StepTo w w' b A nx l e := by
  obtain ⟨W, hW, hg, b0, b1, b2⟩ := step_boxes w o #[.slice Ar l.length cr, .int .i64 nx]
  have H := Lib.hid h
  have hl := h.rt.len
  have k1 : (o.kind == 1) = true := by simpa using h1
  have B1 := Lib.hid b1
  have B2 := Lib.hid b2
  obtain ⟨c0, f0, s0⟩ := b0.facts
  obtain ⟨c1, f1, s1⟩ := b1.facts
  have Hg := Lib.hid hg
  have HW := Lib.hid hW
  have Hr := Lib.hid hr
  clear h h1 hW b0 b1 b2 hr hg
  go_enter Try.func12, Try.ntmps12
  go_wp2_with (first
    | (rw [HW.out])
    | (go_at_call 28; refine (ropen_no nx o.a o.b o.n o.ends r l Ar cr _ (H.out.sl.grew Hg.out) (by omega) Hr.out hr0).mono ?_; rintro e w1 ⟨rfl, hg1⟩; have HG1 := Lib.hid (Grew.trans Hg.out hg1); have B21 := Lib.hid (B2.out.grew hg1); clear c0 f0 s0 c1 f1 s1; obtain ⟨c1, f1, s1⟩ := (B1.out.grew hg1).facts; have BY := Lib.hid (Blk.new w1 39 #[.slice Ar l.length cr, .int .i64 nx]); clear hg1)
    | (go_at_call 9; refine (open_no b nx o.a o.b o.n o.ends r l A c _ (H.out.isIn.grew (HG1.out.alloc _)) hl Hr.out hr0).mono ?_; rintro e w2 ⟨rfl, hg2⟩; have HG2 := Lib.hid (Grew.trans (HG1.out.alloc _) hg2); clear c1 f1 s1; obtain ⟨c2, f2, s2⟩ := ((B21.out.alloc _).grew hg2).facts; obtain ⟨c3, f3, s3⟩ := (BY.out.grew hg2).facts; have hsz := HG1.out.size; have hs1 := B21.out.lt; clear hg2))
  refine bodyPost_ret (v := .tuple #[.agg #[.slice Ar l.length cr, .int .i64 nx], .bool true]) (by simp [results, Try.results12, go_sem, c2, s2]) rfl (StepTo.same H.out cr rfl ?_)
  (repeat (first | (with_reducible exact HG2.out) | (with_reducible refine Chg.alloc ?_ _) | (with_reducible refine Chg.drew ?_) | (with_reducible refine Chg.drewN ?_ _) | ((with_reducible refine Chg.setCell ?_ ?hp _); (case hp => (intro h; exfalso; simp at h; try omega)))))

end Go.Proofs.Ytbmogbbenfpmiaa
