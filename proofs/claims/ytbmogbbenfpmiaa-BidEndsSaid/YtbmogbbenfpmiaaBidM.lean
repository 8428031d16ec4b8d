/- The auctions: what is refused at opening. -/
import Derived.Test.YtbmogbbenfpmiaaBidJ
import Derived.Test.YtbmogbbenfpmiaaBidL
namespace Go.Proofs.Ytbmogbbenfpmiaa
open Go.RowKit

set_option maxHeartbeats 1600000 in
theorem open_no (b : Nat) (nx deed seller least ends r : Int) (l : List Auc) (A : Option Addr) (c : Nat) (w : World) (h : BidsIn w b nx l A c) (hl : l.length ≤ 64) (hr : mayE l nx deed seller least ends = r) (hr0 : r ≠ 0) :
    Calls Try.prog 9 #[.pointer (some ⟨b, 0, none⟩), .int .i64 deed, .int .i64 seller, .int .i64 least, .int .i64 ends] w fun e w' => e = .returned (.tuple #[.int .i64 0, .int .i64 r]) ∧ Grew w w' := by
  obtain ⟨c2, f2, s2⟩ := h.blk.facts
  have H := Lib.hid h
  have hgA := (Chg.refl NoF w).alloc (.cells #[.int .i64 nx, .int .i64 deed, .int .i64 seller, .int .i64 least, .int .i64 0, .int .i64 0, .int .i64 ends] 32)
  have HA := Lib.hid (And.intro hgA (Blk.new w 32 #[.int .i64 nx, .int .i64 deed, .int .i64 seller, .int .i64 least, .int .i64 0, .int .i64 0, .int .i64 ends]))
  clear hgA h
  unfold mayE at hr
  by_cases q1 : Auc.chk ⟨nx, deed, seller, least, 0, 0, ends⟩ = 0
  · rw [if_neg (by simpa using q1)] at hr
    have Q1 := Lib.hid q1
    rcases fidx_cases (fun x : Auc => x.deed == deed) l with ⟨hf, -⟩ | ⟨k, x, hf, hx, -, hk⟩
    · rw [if_neg (by simpa using hf)] at hr
      by_cases q2 : 64 ≤ l.length
      · rw [if_pos q2] at hr
        subst hr
        have Hf := Lib.hid hf
        clear hf hr0 q1
        go_enter Try.func9, Try.ntmps9
        go_wp2_with (first
          | (go_at_call 23; refine (check_any ⟨nx, deed, seller, least, 0, 0, ends⟩ _).mono ?_; rintro e w1 ⟨rfl, hg1⟩; rw [Q1.out]; have HB := Lib.hid (Grew.trans HA.out.1 hg1); clear hg1)
          | (go_at_call 15; refine (of_none b nx deed l A c _ (H.out.grew HB.out) (by omega) Hf.out).mono ?_; rintro e w2 ⟨rfl, hg2⟩; have HC := Lib.hid (Grew.trans HB.out hg2); clear hg2 HB)
          | (go_at_call 24; refine (len_any b nx l A c _ (H.out.grew (HC.out.alloc _))).mono ?_; rintro e w3 ⟨rfl, rfl⟩))
        go_ret2
        exact ⟨rfl, HC.out.alloc _⟩
      · rw [if_neg q2] at hr; exact absurd hr.symm hr0
    · rw [if_pos (by rw [hf]; omega)] at hr
      subst hr
      have Hf := Lib.hid hf
      have Hx := Lib.hid hx
      clear hf hx hr0 q1
      go_enter Try.func9, Try.ntmps9
      go_wp2_with (first
        | (go_at_call 23; refine (check_any ⟨nx, deed, seller, least, 0, 0, ends⟩ _).mono ?_; rintro e w1 ⟨rfl, hg1⟩; rw [Q1.out]; have HB := Lib.hid (Grew.trans HA.out.1 hg1); clear hg1)
        | (go_at_call 15; refine (of_some b k x nx deed l A c _ (H.out.grew HB.out) (by omega) Hf.out Hx.out).mono ?_; rintro e w2 ⟨rfl, hg2⟩; have HC := Lib.hid (Grew.trans HB.out hg2); clear hg2 HB))
      go_ret2
      exact ⟨rfl, HC.out.alloc _⟩
  · rw [if_pos q1] at hr
    have Hr := Lib.hid hr
    have hr1 : (r != 0) = true := by rw [bne_iff_ne]; exact hr0
    clear q1 hr hr0
    rcases fidx_cases (fun x : Auc => x.deed == deed) l with ⟨hf, -⟩ | ⟨k, x, hf, hx, -, hk⟩
    · have Hf := Lib.hid hf
      clear hf
      go_enter Try.func9, Try.ntmps9
      go_wp2_with (first
        | (go_at_call 23; refine (check_any ⟨nx, deed, seller, least, 0, 0, ends⟩ _).mono ?_; rintro e w1 ⟨rfl, hg1⟩; rw [Hr.out]; have HB := Lib.hid (Grew.trans HA.out.1 hg1); clear hg1)
        | (go_at_call 15; refine (of_none b nx deed l A c _ (H.out.grew HB.out) (by omega) Hf.out).mono ?_; rintro e w2 ⟨rfl, hg2⟩; have HC := Lib.hid (Grew.trans HB.out hg2); clear hg2 HB))
      go_ret2
      exact ⟨rfl, HC.out.alloc _⟩
    · have Hf := Lib.hid hf
      have Hx := Lib.hid hx
      clear hf hx
      go_enter Try.func9, Try.ntmps9
      go_wp2_with (first
        | (go_at_call 23; refine (check_any ⟨nx, deed, seller, least, 0, 0, ends⟩ _).mono ?_; rintro e w1 ⟨rfl, hg1⟩; rw [Hr.out]; have HB := Lib.hid (Grew.trans HA.out.1 hg1); clear hg1)
        | (go_at_call 15; refine (of_some b k x nx deed l A c _ (H.out.grew HB.out) (by omega) Hf.out Hx.out).mono ?_; rintro e w2 ⟨rfl, hg2⟩; have HC := Lib.hid (Grew.trans HB.out hg2); clear hg2 HB))
      go_ret2
      exact ⟨rfl, HC.out.alloc _⟩

end Go.Proofs.Ytbmogbbenfpmiaa
