/- The auctions: a bid that stands. -/
import Derived.Test.YtbmogbbenfpmiaaBidD
namespace Go.Proofs.Ytbmogbbenfpmiaa
open Go.RowKit

theorem BidsIn.lt {w : World} {b c : Nat} {nx : Int} {l : List Auc} {A : Option Addr} (h : BidsIn w b nx l A c) {k : Nat} (hk : BF b A k) : k < w.heap.size := by
  rcases hk with rfl | ⟨a, rfl, rfl⟩
  · exact h.blk.lt
  · exact (h.own.lt a.block rfl).2

theorem bid_after {w w3 : World} {b c g k : Nat} {nx : Int} {l : List Auc} {x : Auc} (hD : Grew w w3) (h : BidsIn w3 b nx l (some ⟨g, 0, none⟩) c) (hx : l[k]? = some x) (hgb : g ≠ b) (n who : Int) :
    BidsIn ((w3.setCell ⟨g, k * 7 + 4, none⟩ (.int .i64 n)).setCell ⟨g, k * 7 + 5, none⟩ (.int .i64 who)) b nx (l.set k { x with best := n, bidder := who }) (some ⟨g, 0, none⟩) c ∧
      Chg (BF b (some ⟨g, 0, none⟩)) w ((w3.setCell ⟨g, k * 7 + 4, none⟩ (.int .i64 n)).setCell ⟨g, k * 7 + 5, none⟩ (.int .i64 who)) := by
  have hk : k < l.length := (List.getElem?_eq_some_iff.1 hx).1
  have hlen : (l.set k { x with best := n, bidder := who }).length = l.length := by simp
  refine ⟨⟨?_, ?_⟩, (hD.chg.setCell (p := ⟨g, k * 7 + 4, none⟩) (fun _ => .inr ⟨_, rfl, rfl⟩) _).setCell (p := ⟨g, k * 7 + 5, none⟩) (fun _ => .inr ⟨_, rfl, rfl⟩) _⟩
  · rw [hlen]
    exact (h.blk.far (p := ⟨g, _, none⟩) (Ne.symm hgb) _).far (p := ⟨g, _, none⟩) (Ne.symm hgb) _
  · rw [hlen]
    have := ((h.own.stored (k * 7 + 4) (.int .i64 n)).1.stored (k * 7 + 5) (.int .i64 who)).1
    rw [Auc.set_best l n k x hx, Auc.set_bidder (l.set k { x with best := n }) who k { x with best := n } (by simp [hk])] at this
    simpa using this

set_option maxHeartbeats 800000 in
theorem bid_yes (b k : Nat) (x : Auc) (nx id who n : Int) (l : List Auc) (A : Option Addr) (c : Nat) (w : World) (h : BidsIn w b nx l A c) (hl : l.length ≤ 1000000) (hf : fidx (fun x : Auc => x.id == id) l = k) (hx : l[k]? = some x)
    (h0 : 0 ≤ x.best) (h1 : x.best ≤ 1099511627776) (hr : x.ask who n = 0) :
    Calls Try.prog 10 #[.pointer (some ⟨b, 0, none⟩), .int .i64 id, .int .i64 who, .int .i64 n] w fun e w' =>
      e = .returned (.tuple #[(.agg #[.int .i64 x.id, .int .i64 x.deed, .int .i64 x.seller, .int .i64 x.least, .int .i64 x.best, .int .i64 x.bidder, .int .i64 x.ends]), .int .i64 0]) ∧ BidsIn w' b nx (l.set k { x with best := n, bidder := who }) A c ∧ Chg (BF b A) w w' := by
  have hg0 := (Chg.refl NoF w).alloc (.cells #[.int .i64 0, .int .i64 0, .int .i64 0, .int .i64 0, .int .i64 0, .int .i64 0, .int .i64 0] 32)
  have H0 := Lib.hid (And.intro hg0 (Blk.new w 32 #[.int .i64 0, .int .i64 0, .int .i64 0, .int .i64 0, .int .i64 0, .int .i64 0, .int .i64 0]))
  have H := Lib.hid h
  have Hf := Lib.hid hf
  have Hx := Lib.hid hx
  have hk : k < l.length := (List.getElem?_eq_some_iff.1 hx).1
  unfold Auc.ask at hr
  have q1 : ¬ who < 1 := by intro q; simp [q] at hr
  have q2 : ¬ who = x.seller := by intro q; rw [if_neg q1, if_pos q] at hr; omega
  have q3 : amt n = true := by
    rcases q : amt n with _ | _
    · simp [q1, q2, q] at hr
    · rfl
  have q4 : ¬ n < x.flo := by intro q; simp [q1, q2, q3, q] at hr
  have q2' : (who == x.seller) = false := by simpa using q2
  have Q3 := Lib.hid q3
  have hbw := h.blk.lt
  obtain ⟨g, rfl, hg⟩ := own_block h.own (by omega)
  clear hg0 hf h hx hr q2 q3
  go_enter Try.func10, Try.ntmps10
  go_wp2_with (first
    | (go_at_call 14; refine (get_some b k x nx id l _ c _ (H.out.grew H0.out.1) hl Hf.out Hx.out).mono ?_; rintro e w1 ⟨rfl, hg1⟩; have HB := Lib.hid (Grew.trans H0.out.1 hg1); have HL := Lib.hid (H0.out.2.grew hg1); clear H0 hg1)
    | (go_at_call 25; refine (right_any _ _).mono ?_; rintro e w2 ⟨rfl, rfl⟩; rw [Q3.out])
    | (go_at_call 26; refine (floor_any x _ h0 h1).mono ?_; rintro e w2 ⟨rfl, hg2⟩; have HC := Lib.hid (Grew.trans (HB.out.alloc _) hg2); have HL2 := Lib.hid ((HL.out.alloc _).grew hg2); have HA2 := Lib.hid ((Blk.new _ 32 #[.int .i64 x.id, .int .i64 x.deed, .int .i64 x.seller, .int .i64 x.least, .int .i64 x.best, .int .i64 x.bidder, .int .i64 x.ends]).grew hg2); clear hg2)
    | (go_at_call 27; refine (at_any b nx id l _ c _ (H.out.grew HC.out) hl).mono ?_; rintro e w3 ⟨rfl, hg3⟩; rw [Hf.out]; have HD := Lib.hid (Grew.trans HC.out hg3); have HL3 := Lib.hid (HL2.out.grew hg3); have HA3 := Lib.hid (HA2.out.grew hg3); clear hg3 HL2 HA2 HC; obtain ⟨c3, f3, s3⟩ := HL3.out.facts; obtain ⟨c4, f4, s4⟩ := HA3.out.facts; obtain ⟨c5, f5, s5⟩ := (H.out.grew HD.out).blk.facts))
  have HI := Lib.hid (H.out.grew HD.out)
  obtain ⟨g', off', hA', -, d0, d1, d2, d3, d4, d5, d6⟩ := HI.out.sl.atAuc Hx.out
  simp only [Option.some.injEq, Addr.mk.injEq, and_true] at hA'
  obtain ⟨rfl, rfl⟩ := hA'
  simp only [Nat.zero_add] at d0 d1 d2 d3 d4 d5 d6
  have g4 := HI.out.own.frozenAt (k * 7 + 4)
  have g5 := HI.out.own.frozenAt (k * 7 + 5)
  have hgb : g ≠ b := fun e => own_blk_ne HI.out.own HI.out.blk (by decide) (by simp [Value.ownBlock, e])
  have e0 := c5 0
  simp only [List.getElem?_toArray, List.getElem?_cons_zero] at e0
  have hk0 : (0 : Int) ≤ (k : Int) := Int.natCast_nonneg _
  have hk1 : (k : Int) < (l.length : Int) := by omega
  go_region
  all_goals
    clear d0 d1 d2 d3 d4 d5 d6 g4 g5 e0 c5 f5 s5
    have hw1 := HL.out.lt
    go_wp2
    refine bodyPost_ret (v := .tuple #[(.agg #[.int .i64 x.id, .int .i64 x.deed, .int .i64 x.seller, .int .i64 x.least, .int .i64 x.best, .int .i64 x.bidder, .int .i64 x.ends]), .int .i64 0]) (by simp [results, Try.results10, go_sem, c3, s3]) rfl ⟨rfl, ?_⟩
    have hA := bid_after HD.out HI.out Hx.out hgb n who
    refine ⟨hA.1.chg (G := fun j => j = w.heap.size) ?_ (by omega) (fun a ha => by simp only [Option.some.injEq] at ha; subst ha; simp only []; omega), ?_⟩
    · (repeat (first | (with_reducible exact Chg.refl _ _) | (with_reducible refine Chg.alloc ?_ _) | (with_reducible refine Chg.drew ?_) | (with_reducible refine Chg.drewN ?_ _) | ((with_reducible refine Chg.setCell ?_ ?hp _); (case hp => exact fun _ => rfl))))
    · (repeat (first | (with_reducible exact hA.2) | (with_reducible refine Chg.alloc ?_ _) | (with_reducible refine Chg.drew ?_) | (with_reducible refine Chg.drewN ?_ _) | ((with_reducible refine Chg.setCell ?_ ?hp _); (case hp => (intro h; exfalso; simp at h)))))

end Go.Proofs.Ytbmogbbenfpmiaa
