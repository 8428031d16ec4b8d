/- BidPlays: auctions answer every sequence of calls as a list does. -/
import Derived.Test.YtbmogbbenfpmiaaBidT
import Derived.Test.YtbmogbbenfpmiaaBidF
namespace Go.Proofs.Ytbmogbbenfpmiaa
open Go.RowKit

theorem Both.grew {w w' : World} {b c : Nat} {nx : Int} {l : List Auc} {A Ar : Option Addr} (h : Both w b nx l A c Ar) (hg : Grew w w') : Both w' b nx l A c Ar := ⟨h.isIn.grew hg, h.sl.grew hg, h.far, h.rt, h.nb⟩

theorem Sl.apart {w : World} {g : Nat} {t : TypeId} {u v : Value} {l : List Auc} {A : Option Addr} (h : Sl w 7 A l.length (l.flatMap Auc.vals)) (hb : Blk w g t #[u, v]) (hn : 0 < l.length) : ∀ a, A = some a → a.block ≠ g := by
  intro a ha e
  obtain ⟨x, hx⟩ : ∃ x, l[0]? = some x := ⟨_, List.getElem?_eq_getElem hn⟩
  obtain ⟨g', off, hA, -, -, -, -, -, -, -, d6⟩ := h.atAuc hx
  rw [hA] at ha
  injection ha with ha
  subst ha
  simp only [] at e
  subst e
  have := hb.cell (off + 0 * 7 + 6)
  rw [d6] at this
  simp at this

theorem Both.chg {w w' : World} {b c N : Nat} {t : TypeId} {u v : Value} {nx : Int} {l : List Auc} {A Ar : Option Addr} (h : Both w b nx l A c Ar) (hN : ¬ BF b A N) (hb : Blk w N t #[u, v]) (hc : Chg (fun j => j = N) w w') : Both w' b nx l A c Ar :=
  ⟨h.isIn.chg hc (fun e => hN (.inl e.symm)) (fun a ha e => hN (.inr ⟨a, ha, e.symm⟩)), h.sl.keep hc (fun hn a ha => h.sl.apart hb hn a ha), h.far, h.rt, h.nb⟩

/-- What a look by number tells, both ways at once. -/
theorem get_both (b : Nat) (nx id : Int) (l : List Auc) (A : Option Addr) (c : Nat) (w : World) (h : BidsIn w b nx l A c) (hl : l.length ≤ 1000000) :
    ∃ (y : Auc) (r : Int), (r == 0) = decide (0 ≤ fidx (fun x : Auc => x.id == id) l) ∧ Calls Try.prog 14 #[.pointer (some ⟨b, 0, none⟩), .int .i64 id] w fun e w' => e = .returned (.tuple #[(.agg #[.int .i64 y.id, .int .i64 y.deed, .int .i64 y.seller, .int .i64 y.least, .int .i64 y.best, .int .i64 y.bidder, .int .i64 y.ends]), .int .i64 r]) ∧ Grew w w' := by
  rcases fidx_cases (fun x : Auc => x.id == id) l with ⟨hf, -⟩ | ⟨k, x, hf, hx, -, -⟩
  · exact ⟨⟨0, 0, 0, 0, 0, 0, 0⟩, 14, by rw [hf]; rfl, get_none b nx id l A c w h hl hf⟩
  · exact ⟨x, 0, by rw [hf]; simp, get_some b k x nx id l A c w h hl hf hx⟩

theorem of_both (b : Nat) (nx id : Int) (l : List Auc) (A : Option Addr) (c : Nat) (w : World) (h : BidsIn w b nx l A c) (hl : l.length ≤ 1000000) :
    ∃ (y : Auc) (r : Bool), r = decide (0 ≤ fidx (fun x : Auc => x.deed == id) l) ∧ Calls Try.prog 15 #[.pointer (some ⟨b, 0, none⟩), .int .i64 id] w fun e w' => e = .returned (.tuple #[(.agg #[.int .i64 y.id, .int .i64 y.deed, .int .i64 y.seller, .int .i64 y.least, .int .i64 y.best, .int .i64 y.bidder, .int .i64 y.ends]), .bool r]) ∧ Grew w w' := by
  rcases fidx_cases (fun x : Auc => x.deed == id) l with ⟨hf, -⟩ | ⟨k, x, hf, hx, -, -⟩
  · exact ⟨⟨0, 0, 0, 0, 0, 0, 0⟩, false, by rw [hf]; rfl, of_none b nx id l A c w h hl hf⟩
  · exact ⟨x, true, by rw [hf]; simp, of_some b k x nx id l A c w h hl hf hx⟩

set_option maxRecDepth 100000 in
set_option maxHeartbeats 400000 in
theorem plays_out (l : List Bop) (A : Option Addr) (c : Nat) (w : World) (hl : l.length > 100) (hln : (l.length : Int) ≤ 9223372036854775807) :
    Calls Try.prog 4 #[.slice A l.length c] w fun e w' => e = .returned (.bool true) ∧ Grew w w' := by
  go_enter Try.func4, Try.ntmps4
  go_wp2_with (first
    | (go_at_call 7; refine (new_any _).mono ?_; rintro e w1 ⟨rfl, rfl⟩)
    | (go_at_call 8; refine (awake_any _).mono ?_; rintro e w2 ⟨rfl, hg2⟩))
  go_ret
  exact ⟨rfl, Grew.trans ((Chg.refl _ _).alloc _) hg2⟩

/-- What stands along the calls. -/
structure Along (w wr : World) (k : Nat) (nx : Int) (ls : List Auc) (A : Option Addr) (c : Nat) (Ar : Option Addr) (cr : Nat) : Prop where
  both : Both wr w.heap.size nx ls A c Ar
  grew : Grew w wr
  new : ∀ j, BF w.heap.size A j → w.heap.size ≤ j
  blk : Blk wr (w.heap.size + 1) 39 #[.slice Ar ls.length cr, .int .i64 nx]
  out : ¬ BF w.heap.size A (w.heap.size + 1)
  nb : nx ≤ k + 1

theorem Along.more {w wr wr' : World} {k c cr : Nat} {nx : Int} {ls : List Auc} {A Ar : Option Addr} (h : Along w wr k nx ls A c Ar cr) (hg : Grew wr wr') : Along w wr' k nx ls A c Ar cr :=
  ⟨h.both.grew hg, Grew.trans h.grew hg, h.new, h.blk.grew hg, h.out, h.nb⟩

/-- A step, and the answer stored. -/
theorem Along.step {w wr w2 w3 : World} {k c c' cr cr' : Nat} {nx nx' : Int} {ls ls' : List Auc} {A A' Ar Ar' : Option Addr} (h : Along w wr k nx ls A c Ar cr) (hn : nx' ≤ nx + 1) (hB : Both w2 w.heap.size nx' ls' A' c' Ar') (hC : Chg (BF w.heap.size A) wr w2)
    (hF : ∀ k, BF w.heap.size A' k → BF w.heap.size A k ∨ wr.heap.size ≤ k) (h3 : (w2.setCell ⟨w.heap.size + 1, 0, none⟩ (.slice Ar' ls'.length cr')).setCell ⟨w.heap.size + 1, 1, none⟩ (.int .i64 nx') = w3) : Along w w3 (k + 1) nx' ls' A' c' Ar' cr' := by
  have hb2 : Blk w2 (w.heap.size + 1) 39 #[.slice Ar ls.length cr, .int .i64 nx] := h.blk.chg hC h.out
  have hs := h.blk.lt
  have ho : ¬ BF w.heap.size A' (w.heap.size + 1) := fun q => by
    rcases hF _ q with q | q
    · exact h.out q
    · omega
  have hc3 : Chg (fun j => j = w.heap.size + 1) w2 w3 := by
    rw [← h3]
    exact ((Chg.refl (fun j => j = w.heap.size + 1) _).setCell (p := ⟨w.heap.size + 1, 0, none⟩) (fun _ => rfl) _).setCell (p := ⟨w.heap.size + 1, 1, none⟩) (fun _ => rfl) _
  refine ⟨hB.chg ho hb2 hc3, ?_, fun j hj => ?_, ?_, ho, by have := h.nb; push_cast; omega⟩
  · refine Chg.trans (Chg.trans h.grew hC fun i hi hb => absurd (h.new i hb) (by omega)) hc3 fun i hi e => by omega
  · rcases hF j hj with q | q
    · exact h.new j q
    · have := h.grew.size; omega
  · rw [← h3]
    have := (hb2.put 0 (.slice Ar' ls'.length cr')).put 1 (.int .i64 nx')
    simpa using this

set_option maxRecDepth 100000 in
set_option maxHeartbeats 1600000 in
theorem plays_in (l : List Bop) (A : Option Addr) (c : Nat) (w : World) (hl : l.length ≤ 100) (hs : Sl w 5 A l.length (l.flatMap Bop.vals)) (ok : ∀ r ∈ l, r.ok) :
    Calls Try.prog 4 #[.slice A l.length c] w fun e w' => e = .returned (.bool true) ∧ Grew w w' := by
  have Hs := Lib.hid hs
  have Hok := Lib.hid ok
  clear hs ok
  go_enter Try.func4, Try.ntmps4
  go_wp2_with (go_at_call 7; refine (new_any _).mono ?_; rintro e w1 ⟨rfl, rfl⟩)
  go_loopw [28] (fun i wr => ∃ (k : Nat) (nx : Int) (ls : List Auc) (A2 : Option Addr) (c2 : Nat) (Ar : Option Addr) (cr : Nat), k ≤ l.length ∧ i = .int .i64 k ∧ Along w wr k nx ls A2 c2 Ar cr) (fun i _ => l.length - (intOf i).toNat)
  case atStart =>
    refine ⟨0, 1, [], none, 0, none, 0, Nat.zero_le _, rfl, ⟨⟨?_, Sl.nil _ _ _, fun h => absurd h (by simp), Rt.nil, by omega⟩, ((Chg.refl _ _).alloc _).alloc _, fun j hj => ?_, ?_, fun hb => ?_, by simp⟩⟩
    · exact (Mine.made w).isIn.grew ((Chg.refl _ _).alloc _)
    · exact (Mine.made w).new j hj
    · have := Blk.new (w.alloc (.cells #[.slice none 0 0, .int .i64 1] 58)) 39 #[.slice none 0 0, .int .i64 1]
      simpa using this
    · rcases hb with hb | ⟨a, ha, -⟩
      · omega
      · cases ha
  case round =>
    obtain ⟨k, nx, ls, A2, c2, Ar, cr, hk, rfl, hM⟩ := hrel
    by_cases hlt : k < l.length
    · obtain ⟨o, ho⟩ : ∃ o, l[k]? = some o := ⟨_, List.getElem?_eq_getElem hlt⟩
      obtain ⟨g, off, rfl, hb, d0, d1, d2, d3, d4⟩ := (Hs.out.grew hM.grew).atBop ho
      have B1 := Lib.hid (Blk.new wr 30 #[.int .i64 o.kind, .int .i64 o.a, .int .i64 o.b, .int .i64 o.n, .int .i64 o.ends])
      have hM1 := hM.more ((Chg.refl _ wr).alloc (.cells #[.int .i64 o.kind, .int .i64 o.a, .int .i64 o.b, .int .i64 o.n, .int .i64 o.ends] 30))
      obtain ⟨nx', ls', hrt, hnx, hst⟩ := lawStep_any w.heap.size nx ls o A2 Ar c2 cr _ hM1.both (Hok.out o (List.mem_of_getElem? ho))
      have Hst := Lib.hid hst
      have hnb := hM.nb
      have hBF := Lib.hid (show ∀ j, BF w.heap.size A2 j → j < wr.heap.size from fun j hj => hM.both.isIn.lt hj)
      have HM1 := Lib.hid hM1
      obtain ⟨c0, f0, s0⟩ := hM.blk.facts
      have hs0 := s0
      clear hst hM1 ho
      go_upto_region 10 with (go_at_call 12; refine Hst.out.mono ?_; rintro e w2 hst2; obtain ⟨Ar', cr', A2', c2', rfl, hB2, hC2, hF2⟩ := hst2.both hrt (by omega); have H2 := Lib.hid (And.intro hB2 (And.intro hC2 hF2)); have HB2 := Lib.hid (B1.out.chg hC2 (fun q => by have := hBF.out _ q; omega)); clear hst2 hB2 hC2 hF2 d0 d1 d2 d3 d4 c0 f0 s0; obtain ⟨c0, f0, s0⟩ := (HM1.out.blk.chg H2.out.2.1 HM1.out.out).facts)
      generalize hw3 : (w2.setCell ⟨w.heap.size + 1, 0, none⟩ (.slice Ar' ls'.length cr')).setCell ⟨w.heap.size + 1, 1, none⟩ (.int .i64 nx') = w3
      have HA := Lib.hid (HM1.out.step hnx H2.out.1 H2.out.2.1 H2.out.2.2 hw3)
      have HB3 := Lib.hid (show Blk w3 wr.heap.size 30 #[.int .i64 o.kind, .int .i64 o.a, .int .i64 o.b, .int .i64 o.n, .int .i64 o.ends] by
        have hs := HM1.out.blk.lt
        have hs2 := hBF
        have hsr : w.heap.size + 1 < wr.heap.size := hs0
        rw [← hw3]
        exact (HB2.out.far (p := ⟨w.heap.size + 1, 0, none⟩) (by simp only []; omega) _).far (p := ⟨w.heap.size + 1, 1, none⟩) (by simp only []; omega) _)
      have hl' := hrt.len
      clear c0 f0 s0 hw3
      obtain ⟨c0, f0, s0⟩ := HA.out.blk.facts
      obtain ⟨c1, f1, s1⟩ := HB3.out.facts
      obtain ⟨F, hF⟩ : ∃ F, F = fidx (fun x : Auc => x.id == o.a) ls' := ⟨_, rfl⟩
      obtain ⟨G, hG⟩ : ∃ G, G = fidx (fun x : Auc => x.deed == o.a) ls' := ⟨_, rfl⟩
      have HF := Lib.hid hF
      have HG := Lib.hid hG
      clear hF hG
      go_wp2_with (first
        | (go_at_call 13; refine (same_any w.heap.size nx' ls' A2' Ar' c2' cr' _ HA.out.both).mono ?_; rintro e w4 ⟨rfl, hg4⟩; have HA4 := Lib.hid (HA.out.more hg4); have HB4 := Lib.hid (HB3.out.grew hg4); clear c0 f0 s0 c1 f1 s1; obtain ⟨c0, f0, s0⟩ := HA4.out.blk.facts; obtain ⟨c1, f1, s1⟩ := HB4.out.facts; obtain ⟨y, r, hr, hget⟩ := get_both w.heap.size nx' o.a ls' A2' c2' _ HA4.out.both.isIn (by omega); have Hr := Lib.hid hr; have Hget := Lib.hid hget; clear hr hget hg4)
        | (go_at_call 14; refine Hget.out.mono ?_; rintro e w5 ⟨rfl, hg5⟩; have HA5 := Lib.hid ((HA4.out.more hg5).more ((Chg.refl _ _).alloc (.cells #[.int .i64 y.id, .int .i64 y.deed, .int .i64 y.seller, .int .i64 y.least, .int .i64 y.best, .int .i64 y.bidder, .int .i64 y.ends] 32))); have HB5 := Lib.hid ((HB4.out.grew hg5).alloc (.cells #[.int .i64 y.id, .int .i64 y.deed, .int .i64 y.seller, .int .i64 y.least, .int .i64 y.best, .int .i64 y.bidder, .int .i64 y.ends] 32)); clear c0 f0 s0 c1 f1 s1; obtain ⟨c0, f0, s0⟩ := (HA4.out.more hg5).blk.facts; obtain ⟨c1, f1, s1⟩ := (HB4.out.grew hg5).facts; obtain ⟨z, u, hu, hof⟩ := of_both w.heap.size nx' o.a ls' A2' c2' _ HA5.out.both.isIn (by omega); have Hu := Lib.hid hu; have Hof := Lib.hid hof; clear hu hof hg5)
        | (go_at_call 15; refine Hof.out.mono ?_; rintro e w6 ⟨rfl, hg6⟩; have HA6 := Lib.hid ((HA5.out.more hg6).more ((Chg.refl _ _).alloc (.cells #[.int .i64 z.id, .int .i64 z.deed, .int .i64 z.seller, .int .i64 z.least, .int .i64 z.best, .int .i64 z.bidder, .int .i64 z.ends] 32))); have HB6 := Lib.hid ((HB5.out.grew hg6).alloc (.cells #[.int .i64 z.id, .int .i64 z.deed, .int .i64 z.seller, .int .i64 z.least, .int .i64 z.best, .int .i64 z.bidder, .int .i64 z.ends] 32)); clear c0 f0 s0 c1 f1 s1; obtain ⟨c0, f0, s0⟩ := (HA5.out.more hg6).blk.facts; obtain ⟨c1, f1, s1⟩ := (HB5.out.grew hg6).facts; obtain ⟨t, ht⟩ : ∃ t, decide (0 ≤ F) = t := ⟨_, rfl⟩; have hr : (r == 0) = t := Hr.out.trans (HF.out ▸ ht); obtain ⟨v, hv⟩ : ∃ v, decide (0 ≤ G) = v := ⟨_, rfl⟩; obtain rfl : u = v := Hu.out.trans (HG.out ▸ hv); clear hg6)
        | (go_at_call 16; refine (rfind_any o.a nx' ls' Ar' cr' _ HA6.out.both.sl (by omega)).mono ?_; rintro e w7 ⟨rfl, hg7⟩; rw [← HF.out]; have HA7 := Lib.hid (HA6.out.more hg7); have HB7 := Lib.hid (HB6.out.grew hg7); clear c0 f0 s0 c1 f1 s1; obtain ⟨c0, f0, s0⟩ := HA7.out.blk.facts; obtain ⟨c1, f1, s1⟩ := HB7.out.facts; clear hg7)
        | (go_at_call 17; refine (rof_any o.a nx' ls' Ar' cr' _ HA7.out.both.sl (by omega)).mono ?_; rintro e w8 ⟨rfl, hg8⟩; rw [← HG.out]; have HA8 := Lib.hid (HA7.out.more hg8); clear c0 f0 s0 c1 f1 s1 hg8))
      exact ⟨⟨k + 1, nx', ls', A2', c2', Ar', cr', by omega, by simp, HA8.out⟩, by simp [intOf]; omega⟩
    · obtain rfl : k = l.length := by omega
      have HM := Lib.hid hM
      obtain ⟨c0, f0, s0⟩ := hM.blk.facts
      have hnb := hM.nb
      clear hM
      go_wp2_with (first
        | (go_at_call 18; refine (rright_yes nx ls Ar cr _ HM.out.both.rt (by omega) HM.out.both.sl).mono ?_; rintro e w2 ⟨rfl, hg2⟩; have Hg2 := Lib.hid hg2; clear hg2)
        | (go_at_call 8; refine (awake_any _).mono ?_; rintro e w3 ⟨rfl, hg3⟩))
      go_ret
      exact ⟨rfl, Grew.trans HM.out.grew (Grew.trans Hg2.out hg3)⟩

end Go.Proofs.Ytbmogbbenfpmiaa
