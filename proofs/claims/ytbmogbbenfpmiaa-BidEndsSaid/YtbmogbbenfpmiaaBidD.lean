/- The auctions: a bid. -/
import Derived.Test.YtbmogbbenfpmiaaBidC
namespace Go.Proofs.Ytbmogbbenfpmiaa
open Go.RowKit

def Auc.ask (x : Auc) (who n : Int) : Int := if who < 1 then 10 else if who = x.seller then 38 else if amt n = false then 11 else if n < x.flo then 36 else 0

set_option maxHeartbeats 400000 in
theorem bid_none (b : Nat) (nx id who n : Int) (l : List Auc) (A : Option Addr) (c : Nat) (w : World) (h : BidsIn w b nx l A c) (hl : l.length ≤ 1000000) (hf : fidx (fun x : Auc => x.id == id) l = -1) :
    Calls Try.prog 10 #[.pointer (some ⟨b, 0, none⟩), .int .i64 id, .int .i64 who, .int .i64 n] w fun e w' => e = .returned (.tuple #[(.agg #[.int .i64 0, .int .i64 0, .int .i64 0, .int .i64 0, .int .i64 0, .int .i64 0, .int .i64 0]), .int .i64 14]) ∧ Grew w w' := by
  have hg0 := (Chg.refl NoF w).alloc (.cells #[.int .i64 0, .int .i64 0, .int .i64 0, .int .i64 0, .int .i64 0, .int .i64 0, .int .i64 0] 32)
  have H0 := Lib.hid (And.intro hg0 (Blk.new w 32 #[.int .i64 0, .int .i64 0, .int .i64 0, .int .i64 0, .int .i64 0, .int .i64 0, .int .i64 0]))
  have H := Lib.hid h
  have Hf := Lib.hid hf
  clear hg0 hf h
  go_enter Try.func10, Try.ntmps10
  go_wp2_with (go_at_call 14; refine (get_none b nx id l A c _ (H.out.grew H0.out.1) hl Hf.out).mono ?_; rintro e w1 ⟨rfl, hg1⟩; have HB := Lib.hid (Grew.trans H0.out.1 hg1); obtain ⟨c1, f1, s1⟩ := (H0.out.2.grew hg1).facts; clear H0 hg1)
  refine bodyPost_ret (v := .tuple #[(.agg #[.int .i64 0, .int .i64 0, .int .i64 0, .int .i64 0, .int .i64 0, .int .i64 0, .int .i64 0]), .int .i64 14]) (by simp [results, Try.results10, go_sem, c1, s1]) rfl ⟨rfl, ?_⟩
  have hsz := HB.out.size
  (repeat (first | (with_reducible exact HB.out) | (with_reducible refine Chg.alloc ?_ _) | (with_reducible refine Chg.drew ?_) | (with_reducible refine Chg.drewN ?_ _) | ((with_reducible refine Chg.setCell ?_ ?hp _); (case hp => (intro h; exfalso; simp at h; try omega)))))

set_option maxHeartbeats 400000 in
theorem bid_no (b k : Nat) (x : Auc) (nx id who n r : Int) (l : List Auc) (A : Option Addr) (c : Nat) (w : World) (h : BidsIn w b nx l A c) (hl : l.length ≤ 1000000) (hf : fidx (fun x : Auc => x.id == id) l = k) (hx : l[k]? = some x)
    (h0 : 0 ≤ x.best) (h1 : x.best ≤ 1099511627776) (hr : x.ask who n = r) (hr0 : r ≠ 0) :
    Calls Try.prog 10 #[.pointer (some ⟨b, 0, none⟩), .int .i64 id, .int .i64 who, .int .i64 n] w fun e w' => e = .returned (.tuple #[(.agg #[.int .i64 0, .int .i64 0, .int .i64 0, .int .i64 0, .int .i64 0, .int .i64 0, .int .i64 0]), .int .i64 r]) ∧ Grew w w' := by
  have hg0 := (Chg.refl NoF w).alloc (.cells #[.int .i64 0, .int .i64 0, .int .i64 0, .int .i64 0, .int .i64 0, .int .i64 0, .int .i64 0] 32)
  have H0 := Lib.hid (And.intro hg0 (Blk.new w 32 #[.int .i64 0, .int .i64 0, .int .i64 0, .int .i64 0, .int .i64 0, .int .i64 0, .int .i64 0]))
  have H := Lib.hid h
  have Hf := Lib.hid hf
  have Hx := Lib.hid hx
  clear hg0 hf h hx
  unfold Auc.ask at hr
  by_cases q1 : who < 1
  · obtain rfl : r = 10 := by simp [q1] at hr; exact hr.symm
    clear hr hr0
    go_enter Try.func10, Try.ntmps10
    go_wp2_with (go_at_call 14; refine (get_some b k x nx id l A c _ (H.out.grew H0.out.1) hl Hf.out Hx.out).mono ?_; rintro e w1 ⟨rfl, hg1⟩; have HB := Lib.hid (Grew.trans H0.out.1 hg1); obtain ⟨c1, f1, s1⟩ := (H0.out.2.grew hg1).facts; clear H0 hg1)
    refine bodyPost_ret (v := .tuple #[(.agg #[.int .i64 0, .int .i64 0, .int .i64 0, .int .i64 0, .int .i64 0, .int .i64 0, .int .i64 0]), .int .i64 10]) (by simp [results, Try.results10, go_sem, c1, s1]) rfl ⟨rfl, ?_⟩
    have hsz := HB.out.size
    (repeat (first | (with_reducible exact HB.out) | (with_reducible refine Chg.alloc ?_ _) | (with_reducible refine Chg.drew ?_) | (with_reducible refine Chg.drewN ?_ _) | ((with_reducible refine Chg.setCell ?_ ?hp _); (case hp => (intro h; exfalso; simp at h; try omega)))))
  by_cases q2 : who = x.seller
  · obtain rfl : r = 38 := by simp [q1, q2] at hr; omega
    clear hr hr0
    subst q2
    go_enter Try.func10, Try.ntmps10
    go_wp2_with (go_at_call 14; refine (get_some b k x nx id l A c _ (H.out.grew H0.out.1) hl Hf.out Hx.out).mono ?_; rintro e w1 ⟨rfl, hg1⟩; have HB := Lib.hid (Grew.trans H0.out.1 hg1); obtain ⟨c1, f1, s1⟩ := (H0.out.2.grew hg1).facts; clear H0 hg1)
    refine bodyPost_ret (v := .tuple #[(.agg #[.int .i64 0, .int .i64 0, .int .i64 0, .int .i64 0, .int .i64 0, .int .i64 0, .int .i64 0]), .int .i64 38]) (by simp [results, Try.results10, go_sem, c1, s1]) rfl ⟨rfl, ?_⟩
    have hsz := HB.out.size
    (repeat (first | (with_reducible exact HB.out) | (with_reducible refine Chg.alloc ?_ _) | (with_reducible refine Chg.drew ?_) | (with_reducible refine Chg.drewN ?_ _) | ((with_reducible refine Chg.setCell ?_ ?hp _); (case hp => (intro h; exfalso; simp at h; try omega)))))
  rcases q3 : amt n with _ | _
  · obtain rfl : r = 11 := by simp [q1, q2, q3] at hr; exact hr.symm
    have q2' : (who == x.seller) = false := by simpa using q2
    have Q3 := Lib.hid q3
    clear hr hr0 q2 q3
    go_enter Try.func10, Try.ntmps10
    go_wp2_with (first
      | (go_at_call 14; refine (get_some b k x nx id l A c _ (H.out.grew H0.out.1) hl Hf.out Hx.out).mono ?_; rintro e w1 ⟨rfl, hg1⟩; have HB := Lib.hid (Grew.trans H0.out.1 hg1); obtain ⟨c1, f1, s1⟩ := (H0.out.2.grew hg1).facts; clear H0 hg1)
      | (go_at_call 25; refine (right_any _ _).mono ?_; rintro e w2 ⟨rfl, rfl⟩; rw [Q3.out]))
    refine bodyPost_ret (v := .tuple #[(.agg #[.int .i64 0, .int .i64 0, .int .i64 0, .int .i64 0, .int .i64 0, .int .i64 0, .int .i64 0]), .int .i64 11]) (by simp [results, Try.results10, go_sem, c1, s1]) rfl ⟨rfl, ?_⟩
    have hsz := HB.out.size
    (repeat (first | (with_reducible exact HB.out) | (with_reducible refine Chg.alloc ?_ _) | (with_reducible refine Chg.drew ?_) | (with_reducible refine Chg.drewN ?_ _) | ((with_reducible refine Chg.setCell ?_ ?hp _); (case hp => (intro h; exfalso; simp at h; try omega)))))
  by_cases q4 : n < x.flo
  · obtain rfl : r = 36 := by simp [q1, q2, q3, q4] at hr; exact hr.symm
    have q2' : (who == x.seller) = false := by simpa using q2
    have Q3 := Lib.hid q3
    clear hr hr0 q2 q3
    go_enter Try.func10, Try.ntmps10
    go_wp2_with (first
      | (go_at_call 14; refine (get_some b k x nx id l A c _ (H.out.grew H0.out.1) hl Hf.out Hx.out).mono ?_; rintro e w1 ⟨rfl, hg1⟩; have HB := Lib.hid (Grew.trans H0.out.1 hg1); obtain ⟨c1, f1, s1⟩ := (H0.out.2.grew hg1).facts; have HL := Lib.hid (H0.out.2.grew hg1); clear H0 hg1)
      | (go_at_call 25; refine (right_any _ _).mono ?_; rintro e w2 ⟨rfl, rfl⟩; rw [Q3.out])
      | (go_at_call 26; refine (floor_any x _ h0 h1).mono ?_; rintro e w2 ⟨rfl, hg2⟩; have HC := Lib.hid (Grew.trans (HB.out.alloc _) hg2); obtain ⟨c2, f2, s2⟩ := ((HL.out.alloc _).grew hg2).facts; clear hg2 c1 f1 s1))
    refine bodyPost_ret (v := .tuple #[(.agg #[.int .i64 0, .int .i64 0, .int .i64 0, .int .i64 0, .int .i64 0, .int .i64 0, .int .i64 0]), .int .i64 36]) (by simp [results, Try.results10, go_sem, c2, s2]) rfl ⟨rfl, ?_⟩
    have hsz := HC.out.size
    (repeat (first | (with_reducible exact HC.out) | (with_reducible refine Chg.alloc ?_ _) | (with_reducible refine Chg.drew ?_) | (with_reducible refine Chg.drewN ?_ _) | ((with_reducible refine Chg.setCell ?_ ?hp _); (case hp => (intro h; exfalso; simp at h; try omega)))))
  · exact absurd (by simpa [q1, q2, q3, q4] using hr.symm) hr0

end Go.Proofs.Ytbmogbbenfpmiaa
