/- The law's step of the deeds: Move, Void. -/
import Derived.Test.YtkcakkblammpiaaDeeX
namespace Go.Proofs.Ytkcakkblammpiaa
open Go.RowKit

theorem cell_far_eq {W : World} {p q : Addr} {u : Value} (hne : p.block ≠ q.block) : (W.setCell p u).cell? q = W.cell? q :=
  World.cell?_setCell_other W p q u (fun e => hne (by rw [e]))

/-- A move of both: what the document tells, and what the deeds do. -/
theorem move_both (b : Nat) (nx : Int) (l : List Dee) (id to : Int) (A : Option Addr) (c : Nat) (hl : l.length ≤ 1000000) :
    ∃ l' r, (Rt l nx → Rt l' nx) ∧ l'.length = l.length ∧
      (∀ (Ar : Option Addr) (cr : Nat) (w : World), Sl w 3 Ar l.length (l.flatMap Dee.vals) → Calls Try.prog 28 #[.agg #[.slice Ar l.length cr, .int .i64 nx], .int .i64 id, .int .i64 to] w fun e w' => ∃ Ar' cr', e = .returned (.tuple #[.agg #[.slice Ar' l'.length cr', .int .i64 nx], .int .i64 r]) ∧ Grew w w' ∧ Sl w' 3 Ar' l'.length (l'.flatMap Dee.vals) ∧ ((Ar' = Ar ∧ l' = l) ∨ ∀ a, Ar' = some a → w.heap.size ≤ a.block)) ∧
      (∀ (w : World), DeedsIn w b nx l A c → Calls Try.prog 29 #[.pointer (some ⟨b, 0, none⟩), .int .i64 id, .int .i64 to] w fun e w' => e = .returned (.int .i64 r) ∧ DeedsTo w w' b A nx l') := by
  by_cases hr : moveE l id to ≠ 0 ∨ to = (fnd (fun x : Dee => x.id == id) l).holder
  · refine ⟨l, moveE l id to, fun h => h, rfl, fun Ar cr w hs => (rmove_no nx id to _ l Ar cr w hs hl rfl hr).mono ?_, fun w h => (move_no b nx id to _ l A c w h hl rfl hr).mono ?_⟩
    · rintro e w' ⟨rfl, hg⟩
      exact ⟨Ar, cr, rfl, hg, hs.grew hg, .inl ⟨rfl, rfl⟩⟩
    · rintro e w' ⟨rfl, hg⟩
      exact ⟨rfl, A, c, h.grew hg, hg.chg, fun _ => .inl⟩
  · obtain ⟨h0, h3⟩ : moveE l id to = 0 ∧ to ≠ (fnd (fun x : Dee => x.id == id) l).holder := by
      refine ⟨Classical.byContradiction fun h => hr (.inl h), fun h => hr (.inr h)⟩
    unfold moveE at h0
    rcases fidx_cases (fun x : Dee => x.id == id) l with ⟨hf, -⟩ | ⟨k, x, hf, hx, hp, hk, hno⟩
    · rw [hf] at h0; simp at h0
    · have hfx := find_of hx hp hno
      rw [hf, if_neg (by omega)] at h0
      rw [hfx] at h0 h3
      by_cases h2 : to < 1
      · rw [if_pos h2] at h0; cases h0
      · rw [if_neg h2, if_neg h3] at h0
        refine ⟨l.set k { x with holder := to }, 0, fun h => h.moved hx h2 h0, by simp, fun Ar cr w hs => (rmove_yes k x nx id to l Ar cr w hs hl hf hx h2 h3 h0 _ rfl).mono ?_, fun w h => (move_yes b k x nx id to l A c w h hl hf hx hfx h2 h3 h0)⟩
        rintro e w' ⟨Ar', cr', rfl, hs', hg, hn⟩
        exact ⟨Ar', cr', rfl, hg, hs', .inr hn⟩

theorem void_both (b : Nat) (nx : Int) (l : List Dee) (id : Int) (A : Option Addr) (c : Nat) (hl : l.length ≤ 1000000) :
    ∃ l' r, (Rt l nx → Rt l' nx) ∧ l'.length ≤ l.length ∧
      (∀ (Ar : Option Addr) (cr : Nat) (w : World), Sl w 3 Ar l.length (l.flatMap Dee.vals) → Calls Try.prog 30 #[.agg #[.slice Ar l.length cr, .int .i64 nx], .int .i64 id] w fun e w' => ∃ Ar' cr', e = .returned (.tuple #[.agg #[.slice Ar' l'.length cr', .int .i64 nx], .int .i64 r]) ∧ Grew w w' ∧ Sl w' 3 Ar' l'.length (l'.flatMap Dee.vals) ∧ ((Ar' = Ar ∧ l' = l) ∨ ∀ a, Ar' = some a → w.heap.size ≤ a.block)) ∧
      (∀ (w : World), DeedsIn w b nx l A c → Calls Try.prog 24 #[.pointer (some ⟨b, 0, none⟩), .int .i64 id] w fun e w' => e = .returned (.int .i64 r) ∧ DeedsTo w w' b A nx l') := by
  rcases fidx_cases (fun x : Dee => x.id == id) l with ⟨hf, -⟩ | ⟨k, x, hf, hx, hp, hk, hno⟩
  · refine ⟨l, 14, fun h => h, Nat.le_refl _, fun Ar cr w hs => (rvoid_no nx id l Ar cr w hs hl hf).mono ?_, fun w h => (void_no b nx id l A c w h hl hf).mono ?_⟩
    · rintro e w' ⟨rfl, hg⟩
      exact ⟨Ar, cr, rfl, hg, hs.grew hg, .inl ⟨rfl, rfl⟩⟩
    · rintro e w' ⟨rfl, hg⟩
      exact ⟨rfl, A, c, h.grew hg, hg.chg, fun _ => .inl⟩
  · refine ⟨l.eraseIdx k, 0, fun h => h.voided k, List.length_eraseIdx_le _ _, fun Ar cr w hs => (rvoid_yes k nx id l Ar cr w hs hl hf hk _ rfl).mono ?_, fun w h => (void_yes b k x nx id l A c w h hl hf hx)⟩
    rintro e w' ⟨Ar', cr', rfl, hs', hg, hn⟩
    exact ⟨Ar', cr', rfl, hg, hs', .inr hn⟩

/-- What a step leaves where the document's list may be the old one. -/
theorem StepTo.made' {w w0 w1 w2 w3 : World} {b c c' cr N : Nat} {nx : Int} {l l' : List Dee} {A A' Ar Ar' : Option Addr} {e : Ending} (h : Both w b nx l A c Ar) (he : e = .returned (.tuple #[.agg #[.slice Ar' l'.length cr, .int .i64 nx], .bool true]))
    (hg : Grew w w0) (hs : Sl w1 3 Ar' l'.length (l'.flatMap Dee.vals)) (hn : (Ar' = Ar ∧ l' = l) ∨ ∀ a, Ar' = some a → w0.heap.size ≤ a.block) (hg1 : Grew w0 w1)
    (hi : DeedsIn w2 b nx l' A' c') (hc : Chg (BF b A) w1 w2) (hF : ∀ k, BF b A' k → BF b A k ∨ w1.heap.size ≤ k) (h3 : Chg (fun j => j = N) w2 w3) (hN : w.heap.size ≤ N) (hN0 : N < w0.heap.size) : StepTo w w3 b A nx l' e := by
  rcases hn with ⟨rfl, rfl⟩ | hn
  · have hz : ∀ k, BF b A k → k < w.heap.size := fun k hk => BF_lt h.isIn hk
    have hs0 := hg.size
    have hs1 := hg1.size
    have hs2 := hc.size
    have hNF : ¬ BF b A' N := fun hb => by
      rcases hF _ hb with h1 | h1
      · have := hz _ h1; omega
      · omega
    have hlt := fun hp a ha => h.sl.lt hp a ha
    refine ⟨Ar', cr, A', c', he, hi.chg h3 (fun e => hNF (e ▸ .inl rfl)) (fun a ha e => hNF (e ▸ .inr ⟨a, ha, rfl⟩)), (hs.keep hc h.far).keep h3 (fun hp a ha hb => ?_), fun hp a ha hb => ?_, ((Grew.trans hg hg1).then hc).trans h3 (fun i hi e => by omega), fun k hk => ?_⟩
    · have := hlt hp a ha; omega
    · rcases hF _ hb with h1 | h1
      · exact h.far hp a ha h1
      · have := hlt hp a ha; omega
    · rcases hF k hk with h1 | h1
      · exact .inl h1
      · right; omega
  · exact StepTo.made h he hg hs hn hg1 hi hc hF h3 hN hN0

set_option maxRecDepth 100000 in
set_option maxHeartbeats 1600000 in
theorem step_move (b : Nat) (nx : Int) (l : List Dee) (o : Dop) (A Ar : Option Addr) (c cr : Nat) (w : World) (h : Both w b nx l A c Ar) (h1 : o.kind = 2) :
    ∃ l', Rt l' nx ∧ Calls Try.prog 9 #[.pointer (some ⟨b, 0, none⟩), .agg #[.slice Ar l.length cr, .int .i64 nx], (.agg #[.int .i64 o.kind, .int .i64 o.a, .int .i64 o.b])] w fun e w' => StepTo w w' b A nx l' e := by
  have hl : l.length ≤ 1000000 := by have := h.rt.len; have := h.nb; omega
  obtain ⟨l', r, hrt, hlen, hr, hm⟩ := move_both b nx l o.a o.b A c hl
  refine ⟨l', hrt h.rt, ?_⟩
  obtain ⟨W, hW, hg, b0, b1, b2⟩ := step_boxes w o #[.slice Ar l.length cr, .int .i64 nx]
  have H := Lib.hid h
  have k1 : (o.kind == 1) = false := by simp [h1]
  have k2 : (o.kind == 2) = true := by simp [h1]
  have B0 := Lib.hid b0
  have B1 := Lib.hid b1
  have B2 := Lib.hid b2
  obtain ⟨c0, f0, s0⟩ := b0.facts
  obtain ⟨c1, f1, s1⟩ := b1.facts
  have Hg := Lib.hid hg
  have HW := Lib.hid hW
  have Hr := Lib.hid hr
  have Hm := Lib.hid hm
  have Hbf := Lib.hid (show ∀ k, BF b A k → k < w.heap.size from fun k hk => BF_lt h.isIn hk)
  clear h h1 hW b0 b1 b2 hg hr hm hrt hlen
  go_enter Try.func9, Try.ntmps9
  go_wp2_with (first
    | (rw [HW.out])
    | (go_at_call 28; refine (Hr.out Ar cr _ (H.out.sl.grew Hg.out)).mono ?_; rintro e w1 ⟨Ar1, cr1, rfl, hg1, hs1, hn1⟩; have HS1 := Lib.hid (And.intro hs1 (And.intro hg1 hn1)); have HG1 := Lib.hid (Grew.trans Hg.out hg1); have B01 := Lib.hid (B0.out.grew hg1); have B11 := Lib.hid (B1.out.grew hg1); have B21 := Lib.hid (B2.out.grew hg1); clear c0 f0 s0 c1 f1 s1; have hsz1 := HG1.out.size; clear hg1 hs1 hn1))
  have hs2 := B21.out.lt
  have hW2 : w.heap.size + 2 < W.heap.size := B2.out.lt
  obtain ⟨W3, hW3⟩ : ∃ W3, w1.alloc (.cells #[.slice Ar1 l'.length cr1, .int .i64 nx] 28) = W3 := ⟨_, rfl⟩
  rw [hW3]
  have HC3 := Lib.hid (show Grew w1 W3 from hW3 ▸ (Chg.refl _ _).alloc _)
  have hz3 : w1.heap.size < W3.heap.size := by rw [← hW3]; simp
  have BY := Lib.hid (show Blk W3 w1.heap.size 28 #[.slice Ar1 l'.length cr1, .int .i64 nx] from hW3 ▸ Blk.new _ _ _)
  have B13 := Lib.hid (B11.out.grew HC3.out)
  have B23 := Lib.hid (B21.out.grew HC3.out)
  have x1 := B13.out.cell 1
  have x2 := B13.out.cell 2
  have y0 := BY.out.cell 0
  have y1 := BY.out.cell 1
  simp only [List.getElem?_toArray, List.getElem?_cons_zero, List.getElem?_cons_succ] at x1 x2 y0 y1
  clear hW3
  have p1 : w.heap.size + 1 < W3.heap.size := B13.out.lt
  have p2 : w.heap.size ≤ w.heap.size + 1 := by omega
  have p3 : w.heap.size ≤ w1.heap.size := HG1.out.size
  have p4 : w.heap.size + 1 ≠ w.heap.size + 1 + 1 := by omega
  have p5 : w1.heap.size ≠ w.heap.size + 1 + 1 := by omega
  have HM := Lib.hid (Hm.out W3.drew ((H.out.isIn.grew (Grew.trans HG1.out HC3.out)).grew ((Chg.refl _ _).drew)))
  go_region_held3 (fun w' => ∀ (B i : Nat), B < W3.heap.size → w.heap.size ≤ B → B ≠ w.heap.size + 1 + 1 → w'.cell? ⟨B, i, none⟩ = W3.cell? ⟨B, i, none⟩)
    ((intro B i hB1 hB2 hB3; first | rfl | exact HC4.out.cell (p := ⟨B, i, none⟩) hB1 (fun q => by have q' := Hbf.out _ q; simp only [] at q'; omega) | (rw [cell_far_eq (by simp; omega), cell_far_eq (by simp; omega)]; exact HC4.out.cell (p := ⟨B, i, none⟩) hB1 (fun q => by have q' := Hbf.out _ q; simp only [] at q'; omega)) | (rw [cell_far_eq (by simp; omega), cell_far_eq (by simp; omega)]; rfl)))
    ((go_at_call 29; refine HM.out.mono ?_; rintro e w4 ⟨rfl, A4, c4, hi4, hc4, hF4⟩; have HI4 := Lib.hid (And.intro hi4 hF4); have HC4 := Lib.hid (Chg.trans ((Chg.refl (BF b A) W3).drew) hc4 fun _ _ h => h); obtain ⟨c2, f2, s2⟩ := (B23.out.chg HC4.out (fun q => by have q' := Hbf.out _ q; omega)).facts))
  all_goals
    go_wp2
    refine bodyPost_ret (v := .tuple #[.agg #[.slice Ar1 l'.length cr1, .int .i64 nx], .bool true]) (by simp [results, Try.results9, go_sem, c2, s2]) rfl ?_
    refine StepTo.made' (cr := cr1) (Ar' := Ar1) (N := w.heap.size + 2) (w0 := W) (w1 := W3) (w2 := w4) (A' := A4) (c' := c4) H.out rfl Hg.out (HS1.out.1.grew HC3.out) HS1.out.2.2 (Grew.trans HS1.out.2.1 HC3.out) HI4.out.1 HC4.out HI4.out.2 ?_ (by omega) hW2
    (repeat (first | (with_reducible exact Chg.refl _ _) | (with_reducible refine Chg.alloc ?_ _) | (with_reducible refine Chg.drew ?_) | (with_reducible refine Chg.drewN ?_ _) | ((with_reducible refine Chg.setCell ?_ ?hp _); (case hp => exact fun _ => rfl))))

set_option maxRecDepth 100000 in
set_option maxHeartbeats 1600000 in
theorem step_void (b : Nat) (nx : Int) (l : List Dee) (o : Dop) (A Ar : Option Addr) (c cr : Nat) (w : World) (h : Both w b nx l A c Ar) (h1 : o.kind = 3) :
    ∃ l', Rt l' nx ∧ Calls Try.prog 9 #[.pointer (some ⟨b, 0, none⟩), .agg #[.slice Ar l.length cr, .int .i64 nx], (.agg #[.int .i64 o.kind, .int .i64 o.a, .int .i64 o.b])] w fun e w' => StepTo w w' b A nx l' e := by
  have hl : l.length ≤ 1000000 := by have := h.rt.len; have := h.nb; omega
  obtain ⟨l', r, hrt, hlen, hr, hm⟩ := void_both b nx l o.a A c hl
  refine ⟨l', hrt h.rt, ?_⟩
  obtain ⟨W, hW, hg, b0, b1, b2⟩ := step_boxes w o #[.slice Ar l.length cr, .int .i64 nx]
  have H := Lib.hid h
  have k1 : (o.kind == 1) = false := by simp [h1]
  have k2 : (o.kind == 2) = false := by simp [h1]
  have k3 : (o.kind == 3) = true := by simp [h1]
  have B0 := Lib.hid b0
  have B1 := Lib.hid b1
  have B2 := Lib.hid b2
  obtain ⟨c0, f0, s0⟩ := b0.facts
  obtain ⟨c1, f1, s1⟩ := b1.facts
  have Hg := Lib.hid hg
  have HW := Lib.hid hW
  have Hr := Lib.hid hr
  have Hm := Lib.hid hm
  have Hbf := Lib.hid (show ∀ k, BF b A k → k < w.heap.size from fun k hk => BF_lt h.isIn hk)
  clear h h1 hW b0 b1 b2 hg hr hm hrt hlen
  go_enter Try.func9, Try.ntmps9
  go_wp2_with (first
    | (rw [HW.out])
    | (go_at_call 30; refine (Hr.out Ar cr _ (H.out.sl.grew Hg.out)).mono ?_; rintro e w1 ⟨Ar1, cr1, rfl, hg1, hs1, hn1⟩; have HS1 := Lib.hid (And.intro hs1 (And.intro hg1 hn1)); have HG1 := Lib.hid (Grew.trans Hg.out hg1); have B01 := Lib.hid (B0.out.grew hg1); have B11 := Lib.hid (B1.out.grew hg1); have B21 := Lib.hid (B2.out.grew hg1); clear c0 f0 s0 c1 f1 s1; have hsz1 := HG1.out.size; clear hg1 hs1 hn1))
  have hs2 := B21.out.lt
  have hW2 : w.heap.size + 2 < W.heap.size := B2.out.lt
  obtain ⟨W3, hW3⟩ : ∃ W3, w1.alloc (.cells #[.slice Ar1 l'.length cr1, .int .i64 nx] 28) = W3 := ⟨_, rfl⟩
  rw [hW3]
  have HC3 := Lib.hid (show Grew w1 W3 from hW3 ▸ (Chg.refl _ _).alloc _)
  have hz3 : w1.heap.size < W3.heap.size := by rw [← hW3]; simp
  have BY := Lib.hid (show Blk W3 w1.heap.size 28 #[.slice Ar1 l'.length cr1, .int .i64 nx] from hW3 ▸ Blk.new _ _ _)
  have B13 := Lib.hid (B11.out.grew HC3.out)
  have B23 := Lib.hid (B21.out.grew HC3.out)
  have x1 := B13.out.cell 1
  have x2 := B13.out.cell 2
  have y0 := BY.out.cell 0
  have y1 := BY.out.cell 1
  simp only [List.getElem?_toArray, List.getElem?_cons_zero, List.getElem?_cons_succ] at x1 x2 y0 y1
  clear hW3
  have p1 : w.heap.size + 1 < W3.heap.size := B13.out.lt
  have p2 : w.heap.size ≤ w.heap.size + 1 := by omega
  have p3 : w.heap.size ≤ w1.heap.size := HG1.out.size
  have p4 : w.heap.size + 1 ≠ w.heap.size + 1 + 1 := by omega
  have p5 : w1.heap.size ≠ w.heap.size + 1 + 1 := by omega
  have HM := Lib.hid (Hm.out W3.drew ((H.out.isIn.grew (Grew.trans HG1.out HC3.out)).grew ((Chg.refl _ _).drew)))
  go_region_held3 (fun w' => ∀ (B i : Nat), B < W3.heap.size → w.heap.size ≤ B → B ≠ w.heap.size + 1 + 1 → w'.cell? ⟨B, i, none⟩ = W3.cell? ⟨B, i, none⟩)
    ((intro B i hB1 hB2 hB3; first | rfl | exact HC4.out.cell (p := ⟨B, i, none⟩) hB1 (fun q => by have q' := Hbf.out _ q; simp only [] at q'; omega) | (rw [cell_far_eq (by simp; omega), cell_far_eq (by simp; omega)]; exact HC4.out.cell (p := ⟨B, i, none⟩) hB1 (fun q => by have q' := Hbf.out _ q; simp only [] at q'; omega)) | (rw [cell_far_eq (by simp; omega), cell_far_eq (by simp; omega)]; rfl)))
    ((go_at_call 24; refine HM.out.mono ?_; rintro e w4 ⟨rfl, A4, c4, hi4, hc4, hF4⟩; have HI4 := Lib.hid (And.intro hi4 hF4); have HC4 := Lib.hid (Chg.trans ((Chg.refl (BF b A) W3).drew) hc4 fun _ _ h => h); obtain ⟨c2, f2, s2⟩ := (B23.out.chg HC4.out (fun q => by have q' := Hbf.out _ q; omega)).facts))
  all_goals
    go_wp2
    refine bodyPost_ret (v := .tuple #[.agg #[.slice Ar1 l'.length cr1, .int .i64 nx], .bool true]) (by simp [results, Try.results9, go_sem, c2, s2]) rfl ?_
    refine StepTo.made' (cr := cr1) (Ar' := Ar1) (N := w.heap.size + 2) (w0 := W) (w1 := W3) (w2 := w4) (A' := A4) (c' := c4) H.out rfl Hg.out (HS1.out.1.grew HC3.out) HS1.out.2.2 (Grew.trans HS1.out.2.1 HC3.out) HI4.out.1 HC4.out HI4.out.2 ?_ (by omega) hW2
    (repeat (first | (with_reducible exact Chg.refl _ _) | (with_reducible refine Chg.alloc ?_ _) | (with_reducible refine Chg.drew ?_) | (with_reducible refine Chg.drewN ?_ _) | ((with_reducible refine Chg.setCell ?_ ?hp _); (case hp => exact fun _ => rfl))))

/-- A step, whatever the call. -/
theorem lawStep_any (b : Nat) (nx : Int) (l : List Dee) (o : Dop) (A Ar : Option Addr) (c cr : Nat) (w : World) (h : Both w b nx l A c Ar) :
    ∃ nx' l', Rt l' nx' ∧ nx' ≤ nx + 1 ∧ Calls Try.prog 9 #[.pointer (some ⟨b, 0, none⟩), .agg #[.slice Ar l.length cr, .int .i64 nx], (.agg #[.int .i64 o.kind, .int .i64 o.a, .int .i64 o.b])] w fun e w' => StepTo w w' b A nx' l' e := by
  by_cases h1 : o.kind = 1
  · by_cases hr : issueE l o.a o.b = 0
    · exact ⟨_, _, h.rt.issued hr, by omega, step_issue_yes b nx l o A Ar c cr w h h1 hr _ rfl⟩
    · exact ⟨nx, l, h.rt, by omega, step_issue_no b nx _ l o A Ar c cr w h h1 rfl hr⟩
  by_cases h2 : o.kind = 2
  · obtain ⟨l', hr, hs⟩ := step_move b nx l o A Ar c cr w h h2
    exact ⟨nx, l', hr, by omega, hs⟩
  by_cases h3 : o.kind = 3
  · obtain ⟨l', hr, hs⟩ := step_void b nx l o A Ar c cr w h h3
    exact ⟨nx, l', hr, by omega, hs⟩
  · exact ⟨nx, l, h.rt, by omega, step_none b nx l o A Ar c cr w h h1 h2 h3⟩

theorem StepTo.both {w w' : World} {b : Nat} {A : Option Addr} {nx : Int} {l : List Dee} {e : Ending} (h : StepTo w w' b A nx l e) (hr : Rt l nx) (hn : nx ≤ 1000000) :
    ∃ Ar cr A' c', e = .returned (.tuple #[.agg #[.slice Ar l.length cr, .int .i64 nx], .bool true]) ∧ Both w' b nx l A' c' Ar ∧ Chg (BF b A) w w' ∧ (∀ k, BF b A' k → BF b A k ∨ w.heap.size ≤ k) := by
  obtain ⟨Ar, cr, A', c', he, hi, hs, hf, hc, hF⟩ := h
  exact ⟨Ar, cr, A', c', he, ⟨hi, hs, hf, hr, hn⟩, hc, hF⟩

end Go.Proofs.Ytkcakkblammpiaa
