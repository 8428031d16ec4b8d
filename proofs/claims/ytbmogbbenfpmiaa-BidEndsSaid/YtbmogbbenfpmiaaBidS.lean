/- The law's step, whatever the call; and that both tell the same. -/
import Derived.Test.YtbmogbbenfpmiaaBidR
namespace Go.Proofs.Ytbmogbbenfpmiaa
open Go.RowKit

theorem lawStep_any (b : Nat) (nx : Int) (l : List Auc) (o : Bop) (A Ar : Option Addr) (c cr : Nat) (w : World) (h : Both w b nx l A c Ar) (hok : o.ok) :
    ∃ nx' l', Rt l' nx' ∧ nx' ≤ nx + 1 ∧ Calls Try.prog 12 #[.pointer (some ⟨b, 0, none⟩), .agg #[.slice Ar l.length cr, .int .i64 nx], (.agg #[.int .i64 o.kind, .int .i64 o.a, .int .i64 o.b, .int .i64 o.n, .int .i64 o.ends])] w fun e w' => StepTo w w' b A nx' l' e := by
  by_cases h1 : o.kind = 1
  · by_cases hr : mayE l nx o.a o.b o.n o.ends = 0
    · obtain ⟨q1, q2, q3⟩ := mayE_zero hr
      exact ⟨_, _, h.rt.opened q1 q2 q3, by omega, step_open_yes b nx l o A Ar c cr w h h1 hr⟩
    · exact ⟨nx, l, h.rt, by omega, step_open_no b nx _ l o A Ar c cr w h h1 rfl hr⟩
  by_cases h2 : o.kind = 2
  · rcases fidx_cases (fun x : Auc => x.id == o.a) l with ⟨hf, -⟩ | ⟨k, x, hf, hx, -, -⟩
    · exact ⟨nx, l, h.rt, by omega, step_bid_none b nx l o A Ar c cr w h h2 hf⟩
    · by_cases hr : x.ask o.b o.n = 0
      · refine ⟨nx, _, ?_, by omega, step_bid_yes b k x nx l o A Ar c cr w h h2 hf hx hr⟩
        have ho := h.rt.one x (List.mem_of_getElem? hx)
        rcases ask_cases (who := o.b) (n := o.n) ho with ⟨_, hq⟩ | ⟨_, _, hq⟩ | ⟨_, _, _, hq⟩ | ⟨_, _, _, _, hq⟩ | ⟨_, _, _, _, _, _, _, _, hq⟩ | ⟨q1, q2, q3, q4, _⟩ | ⟨q1, q2, q3, q4, _⟩
        all_goals try exact absurd (hr.symm.trans hq) (by decide)
        all_goals
          simp [amt] at q3
          exact h.rt.bid hx q1 q2 (by omega) (by omega) q4
      · exact ⟨nx, l, h.rt, by omega, step_bid_no b k x nx _ l o A Ar c cr w h h2 hf hx rfl hr hok⟩
  by_cases h3 : o.kind = 3
  · rcases fidx_cases (fun x : Auc => x.id == o.a) l with ⟨hf, -⟩ | ⟨k, x, hf, hx, -, -⟩
    · exact ⟨nx, l, h.rt, by omega, step_close_none b nx l o A Ar c cr w h h3 hf⟩
    · exact ⟨nx, _, h.rt.closed k, by omega, step_close_yes b k x nx l o A Ar c cr w h h3 hf hx⟩
  · exact ⟨nx, l, h.rt, by omega, step_none b nx l o A Ar c cr w h h1 h2 h3⟩

theorem StepTo.both {w w' : World} {b : Nat} {nx : Int} {l : List Auc} {A : Option Addr} {e : Ending} (h : StepTo w w' b A nx l e) (hr : Rt l nx) (hn : nx ≤ 1000000) :
    ∃ Ar cr A' c', e = .returned (.tuple #[.agg #[.slice Ar l.length cr, .int .i64 nx], .bool true]) ∧ Both w' b nx l A' c' Ar ∧ Chg (BF b A) w w' ∧ (∀ k, BF b A' k → BF b A k ∨ w.heap.size ≤ k) := by
  obtain ⟨Ar, cr, A', c', he, hi, hs, hf, hc, hF⟩ := h
  exact ⟨Ar, cr, A', c', he, ⟨hi, hs, hf, hr, hn⟩, hc, hF⟩

set_option maxRecDepth 100000 in
set_option maxHeartbeats 1600000 in
theorem same_any (b : Nat) (nx : Int) (l : List Auc) (A Ar : Option Addr) (c cr : Nat) (w : World) (h : Both w b nx l A c Ar) :
    Calls Try.prog 13 #[.pointer (some ⟨b, 0, none⟩), .agg #[.slice Ar l.length cr, .int .i64 nx]] w fun e w' => e = .returned (.bool true) ∧ Grew w w' := by
  have H := Lib.hid h
  have hl := h.rt.len
  have B0 := Lib.hid (Blk.new w 39 #[.slice Ar l.length cr, .int .i64 nx])
  have h_rt := Lib.hid h.rt
  have h_best := Lib.hid h.rt.best
  clear h
  go_enter Try.func13, Try.ntmps13
  go_wp2_with (go_at_call 31; refine (rows_any b nx l A c _ (H.out.isIn.grew ((Chg.refl _ _).alloc _)) (by omega)).mono ?_; rintro e w1 ⟨A1, c1, rfl, ho1, hg1⟩; have HO1 := Lib.hid ho1; have HG1 := Lib.hid (Grew.trans ((Chg.refl _ w).alloc _) hg1); have B01 := Lib.hid (B0.out.grew hg1); clear ho1 hg1; obtain ⟨c0, f0, s0⟩ := B01.out.facts)
  go_quiet (first | (go_at_call 24; exact Calls.quiet_of_same ((len_any b nx l A c _ ((H.out.isIn.grew HG1.out).grew ((Chg.refl _ _).drewN _))).mono fun _ _ h => ⟨h.1, h.2.symm⟩)) | (go_at_call 32; exact Calls.quiet_of_same ((next_any b nx l A c _ ((H.out.isIn.grew HG1.out).grew ((Chg.refl _ _).drewN _))).mono fun _ _ h => ⟨h.1, h.2.symm⟩)))
  go_wp2_with fail
  have H1 := Lib.hid (H.out.isIn.grew HG1.out)
  have HS1 := Lib.hid (H.out.sl.grew HG1.out)
  clear c0 f0 s0
  go_loopw [6, 37] (fun v i wr => ∃ k : Nat, k ≤ l.length ∧ i = .int .i64 k ∧ v = .int .i64 (held (l.take k)) ∧ 0 ≤ held (l.take k) ∧ held (l.take k) ≤ k * 1099511627776 ∧ Grew w1 wr) (fun _ i _ => l.length - (intOf i).toNat)
  case atStart => exact ⟨0, Nat.zero_le _, rfl, rfl, by simp [held], by simp [held], (Chg.refl _ _).drewN _⟩
  case round =>
    obtain ⟨k, hk, rfl, rfl, h0, h1, hg⟩ := hrel
    by_cases hlt : k < l.length
    · obtain ⟨x, hx⟩ : ∃ x, l[k]? = some x := ⟨_, List.getElem?_eq_getElem hlt⟩
      obtain ⟨g, off, rfl, hb, d0, d1, d2, d3, d4, d5, d6⟩ := ((Sl.of_own HO1.out).grew hg).atAuc hx
      obtain ⟨gr, ofr, rfl, hgr, -⟩ := HS1.out.atAuc hx
      have hbx := h_best.out x (List.mem_of_getElem? hx)
      have hb1 := hbx.1
      have hb2 := hbx.2
      have Hst := Lib.hid (show held (l.take (k + 1)) = held (l.take k) + x.best by simp [held, List.take_add_one, hx])
      have Hx := Lib.hid hx
      have Hg := Lib.hid hg
      have BA := Lib.hid (Blk.new wr 32 #[.int .i64 x.id, .int .i64 x.deed, .int .i64 x.seller, .int .i64 x.least, .int .i64 x.best, .int .i64 x.bidder, .int .i64 x.ends])
      clear hx hbx hg
      generalize held (l.take k) = s at *
      go_wp2_with (first
        | (go_at_call 14; refine (get_some b k x nx x.id l A c _ (H1.out.grew (Hg.out.alloc _)) (by omega) (h_rt.out.find Hx.out) Hx.out).mono ?_; rintro e w2 ⟨rfl, hg2⟩; have HG2 := Lib.hid (Grew.trans (Hg.out.alloc _) hg2); have BA2 := Lib.hid (BA.out.grew hg2); obtain ⟨c2, f2, s2⟩ := BA2.out.facts; clear hg2 d0 d1 d2 d3 d4 d5 d6)
        | (go_at_call 15; refine (of_some b k x nx x.deed l A c _ (H1.out.grew (HG2.out.alloc _)) (by omega) (h_rt.out.of Hx.out) Hx.out).mono ?_; rintro e w3 ⟨rfl, hg3⟩; have HG3 := Lib.hid (Grew.trans (HG2.out.alloc _) hg3); clear c2 f2 s2; obtain ⟨c2, f2, s2⟩ := ((BA2.out.alloc _).grew hg3).facts; obtain ⟨c3, f3, s3⟩ := ((Blk.new w2 32 #[.int .i64 x.id, .int .i64 x.deed, .int .i64 x.seller, .int .i64 x.least, .int .i64 x.best, .int .i64 x.bidder, .int .i64 x.ends]).grew hg3).facts; obtain ⟨c0, f0, s0⟩ := (B01.out.grew HG3.out).facts; clear hg3))
      obtain ⟨g', off', hA', -, d0, d1, d2, d3, d4, d5, d6⟩ := (HS1.out.grew HG3.out).atAuc Hx.out
      simp only [Option.some.injEq, Addr.mk.injEq, and_true] at hA'
      obtain ⟨rfl, rfl⟩ := hA'
      have hk0 : (0 : Int) ≤ (k : Int) := Int.natCast_nonneg _
      have hk1 : (k : Int) < (l.length : Int) := by omega
      have hgr3 : gr < w3.heap.size := Nat.lt_of_lt_of_le hgr HG3.out.size
      go_quiet (fail)
      go_wp2
      go_roundw
      case rel => exact ⟨k + 1, by omega, by go_num, by rw [Hst.out], by rw [Hst.out]; omega, by rw [Hst.out]; omega, by
        repeat (refine Chg.setCell ?_ (by intro h; exfalso; have := HG3.out.size; simp at h; try omega) _)
        exact (HG3.out.alloc _).drewN _⟩
      case measure => simp [intOf]; omega
    · obtain rfl : k = l.length := by omega
      go_wp2_with (go_at_call 11; refine (held_any b nx l A c _ (H1.out.grew hg) (by omega) h_best.out).mono ?_; rintro e w2 ⟨rfl, hg2⟩)
      go_ret
      exact ⟨by simp, Grew.trans HG1.out (Grew.trans hg hg2)⟩

end Go.Proofs.Ytbmogbbenfpmiaa
