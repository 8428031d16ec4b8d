/- The law's step: a bid that is refused. -/
import Derived.Test.YtbmogbbenfpmiaaBidO
namespace Go.Proofs.Ytbmogbbenfpmiaa
open Go.RowKit

set_option maxRecDepth 100000 in
set_option maxHeartbeats 1600000 in
theorem step_bid_none (b : Nat) (nx : Int) (l : List Auc) (o : Bop) (A Ar : Option Addr) (c cr : Nat) (w : World) (h : Both w b nx l A c Ar) (h1 : o.kind = 2) (hf : fidx (fun x : Auc => x.id == o.a) l = -1) :
    Calls Try.prog 12 #[.pointer (some ⟨b, 0, none⟩), .agg #[.slice Ar l.length cr, .int .i64 nx], (.agg #[.int .i64 o.kind, .int .i64 o.a, .int .i64 o.b, .int .i64 o.n, .int .i64 o.ends])] w fun e w' => StepTo w w' b A nx l e := by
  obtain ⟨W, hW, hg, b0, b1, b2⟩ := step_boxes w o #[.slice Ar l.length cr, .int .i64 nx]
  have H := Lib.hid h
  have hl := h.rt.len
  have k1 : (o.kind == 1) = false := by simp [h1]
  have k2 : (o.kind == 2) = true := by simp [h1]
  have B1 := Lib.hid b1
  have B2 := Lib.hid b2
  obtain ⟨c0, f0, s0⟩ := b0.facts
  obtain ⟨c1, f1, s1⟩ := b1.facts
  have Hg := Lib.hid hg
  have HW := Lib.hid hW
  have Hf := Lib.hid hf
  clear h h1 hW b0 b1 b2 hf hg
  go_enter Try.func12, Try.ntmps12
  go_wp2_with (first
    | (rw [HW.out])
    | (go_at_call 29; refine (rbid_none nx o.a o.b o.n l Ar cr _ (H.out.sl.grew Hg.out) (by omega) Hf.out).mono ?_; rintro e w1 ⟨rfl, hg1⟩; have HG1 := Lib.hid (Grew.trans Hg.out hg1); have B21 := Lib.hid (B2.out.grew hg1); clear c0 f0 s0 c1 f1 s1; obtain ⟨c1, f1, s1⟩ := (B1.out.grew hg1).facts; have BY := Lib.hid (Blk.new w1 39 #[.slice Ar l.length cr, .int .i64 nx]); clear hg1)
    | (go_at_call 10; refine (bid_none b nx o.a o.b o.n l A c _ (H.out.isIn.grew (HG1.out.alloc _)) (by omega) Hf.out).mono ?_; rintro e w2 ⟨rfl, hg2⟩; have HG2 := Lib.hid (Grew.trans (HG1.out.alloc _) hg2); clear c1 f1 s1; have B22 := Lib.hid ((B21.out.alloc _).grew hg2); have BY2 := Lib.hid (BY.out.grew hg2); have hsz := HG1.out.size; have hs1 := B21.out.lt; clear hg2))
  have hs2 := B22.out.lt
  obtain ⟨W3, hW3⟩ : ∃ W3, w2.alloc (.cells #[.int .i64 0, .int .i64 0, .int .i64 0, .int .i64 0, .int .i64 0, .int .i64 0, .int .i64 0] 32) = W3 := ⟨_, rfl⟩
  rw [hW3]
  have HG3 := Lib.hid (show Grew w W3 from hW3 ▸ HG2.out.alloc _)
  obtain ⟨c2, f2, s2⟩ := (show Blk W3 (w.heap.size + 2) _ _ from hW3 ▸ B22.out.alloc _).facts
  obtain ⟨c3, f3, s3⟩ := (show Blk W3 w1.heap.size _ _ from hW3 ▸ BY2.out.alloc _).facts
  obtain ⟨c4, f4, s4⟩ := (show Blk W3 w2.heap.size 32 #[.int .i64 0, .int .i64 0, .int .i64 0, .int .i64 0, .int .i64 0, .int .i64 0, .int .i64 0] from hW3 ▸ Blk.new _ _ _).facts
  clear hW3
  go_region
  all_goals
    go_wp2
    refine bodyPost_ret (v := .tuple #[.agg #[.slice Ar l.length cr, .int .i64 nx], .bool true]) (by simp [results, Try.results12, go_sem, c2, s2]) rfl (StepTo.same H.out cr rfl ?_)
    (repeat (first | (with_reducible exact HG3.out) | (with_reducible refine Chg.alloc ?_ _) | (with_reducible refine Chg.drew ?_) | (with_reducible refine Chg.drewN ?_ _) | ((with_reducible refine Chg.setCell ?_ ?hp _); (case hp => (intro h; exfalso; simp at h; try omega)))))

set_option maxRecDepth 100000 in
set_option maxHeartbeats 1600000 in
theorem step_bid_no (b k : Nat) (x : Auc) (nx r : Int) (l : List Auc) (o : Bop) (A Ar : Option Addr) (c cr : Nat) (w : World) (h : Both w b nx l A c Ar) (h1 : o.kind = 2) (hf : fidx (fun x : Auc => x.id == o.a) l = k) (hx : l[k]? = some x) (hr : x.ask o.b o.n = r) (hr0 : r ≠ 0) (hok : o.ok) :
    Calls Try.prog 12 #[.pointer (some ⟨b, 0, none⟩), .agg #[.slice Ar l.length cr, .int .i64 nx], (.agg #[.int .i64 o.kind, .int .i64 o.a, .int .i64 o.b, .int .i64 o.n, .int .i64 o.ends])] w fun e w' => StepTo w w' b A nx l e := by
  obtain ⟨W, hW, hg, b0, b1, b2⟩ := step_boxes w o #[.slice Ar l.length cr, .int .i64 nx]
  have H := Lib.hid h
  have hl := h.rt.len
  have Hone := Lib.hid (h.rt.one x (List.mem_of_getElem? hx))
  have Hbest := Lib.hid (h.rt.best x (List.mem_of_getElem? hx))
  have Hn := Lib.hid (show -9223372036854775808 ≤ o.n from hok.2.2.2.2.2.2.1)
  have k1 : (o.kind == 1) = false := by simp [h1]
  have k2 : (o.kind == 2) = true := by simp [h1]
  have B1 := Lib.hid b1
  have B2 := Lib.hid b2
  obtain ⟨c0, f0, s0⟩ := b0.facts
  obtain ⟨c1, f1, s1⟩ := b1.facts
  have Hg := Lib.hid hg
  have HW := Lib.hid hW
  have Hf := Lib.hid hf
  have Hx := Lib.hid hx
  have Hr := Lib.hid hr
  have hr1 : (r != 0) = true := by rw [bne_iff_ne]; exact hr0
  clear h h1 hW b0 b1 b2 hf hg hx hr hok
  go_enter Try.func12, Try.ntmps12
  go_wp2_with (first
    | (rw [HW.out])
    | (go_at_call 29; refine (rbid_no k x nx o.a o.b o.n r l Ar cr _ (H.out.sl.grew Hg.out) (by omega) Hf.out Hx.out Hone.out Hr.out hr0 Hn.out).mono ?_; rintro e w1 ⟨rfl, hg1⟩; have HG1 := Lib.hid (Grew.trans Hg.out hg1); have B21 := Lib.hid (B2.out.grew hg1); clear c0 f0 s0 c1 f1 s1; obtain ⟨c1, f1, s1⟩ := (B1.out.grew hg1).facts; have BY := Lib.hid (Blk.new w1 39 #[.slice Ar l.length cr, .int .i64 nx]); clear hg1)
    | (go_at_call 10; refine (bid_no b k x nx o.a o.b o.n r l A c _ (H.out.isIn.grew (HG1.out.alloc _)) (by omega) Hf.out Hx.out Hbest.out.1 Hbest.out.2 Hr.out hr0).mono ?_; rintro e w2 ⟨rfl, hg2⟩; have HG2 := Lib.hid (Grew.trans (HG1.out.alloc _) hg2); clear c1 f1 s1; have B22 := Lib.hid ((B21.out.alloc _).grew hg2); have BY2 := Lib.hid (BY.out.grew hg2); have hsz := HG1.out.size; have hs1 := B21.out.lt; clear hg2))
  have hs2 := B22.out.lt
  obtain ⟨W3, hW3⟩ : ∃ W3, w2.alloc (.cells #[.int .i64 0, .int .i64 0, .int .i64 0, .int .i64 0, .int .i64 0, .int .i64 0, .int .i64 0] 32) = W3 := ⟨_, rfl⟩
  rw [hW3]
  have HG3 := Lib.hid (show Grew w W3 from hW3 ▸ HG2.out.alloc _)
  obtain ⟨c2, f2, s2⟩ := (show Blk W3 (w.heap.size + 2) _ _ from hW3 ▸ B22.out.alloc _).facts
  obtain ⟨c3, f3, s3⟩ := (show Blk W3 w1.heap.size _ _ from hW3 ▸ BY2.out.alloc _).facts
  obtain ⟨c4, f4, s4⟩ := (show Blk W3 w2.heap.size 32 #[.int .i64 0, .int .i64 0, .int .i64 0, .int .i64 0, .int .i64 0, .int .i64 0, .int .i64 0] from hW3 ▸ Blk.new _ _ _).facts
  clear hW3
  go_region
  all_goals
    go_wp2
    refine bodyPost_ret (v := .tuple #[.agg #[.slice Ar l.length cr, .int .i64 nx], .bool true]) (by simp [results, Try.results12, go_sem, c2, s2]) rfl (StepTo.same H.out cr rfl ?_)
    (repeat (first | (with_reducible exact HG3.out) | (with_reducible refine Chg.alloc ?_ _) | (with_reducible refine Chg.drew ?_) | (with_reducible refine Chg.drewN ?_ _) | ((with_reducible refine Chg.setCell ?_ ?hp _); (case hp => (intro h; exfalso; simp at h; try omega)))))

end Go.Proofs.Ytbmogbbenfpmiaa
