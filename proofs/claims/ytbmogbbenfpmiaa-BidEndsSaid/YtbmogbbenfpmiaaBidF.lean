/- The auctions: one that a law makes by itself; the fixed answer. -/
import Derived.Test.YtbmogbbenfpmiaaBidE
namespace Go.Proofs.Ytbmogbbenfpmiaa
open Go.RowKit

/-- A Bids that lies wholly in blocks that are new since w. -/
structure Mine (w W : World) (b : Nat) (nx : Int) (l : List Auc) (A : Option Addr) (c : Nat) : Prop where
  isIn : BidsIn W b nx l A c
  grew : Grew w W
  new : ∀ k, BF b A k → w.heap.size ≤ k

theorem Mine.more {w W W' : World} {b c : Nat} {nx : Int} {l : List Auc} {A : Option Addr} (h : Mine w W b nx l A c) (hg : Grew W W') : Mine w W' b nx l A c := ⟨h.isIn.grew hg, Grew.trans h.grew hg, h.new⟩
theorem Mine.same {w W W' : World} {b c c' : Nat} {nx nx' : Int} {l l' : List Auc} {A : Option Addr} (h : Mine w W b nx l A c) (hi : BidsIn W' b nx' l' A c') (hc : Chg (BF b A) W W') : Mine w W' b nx' l' A c' :=
  ⟨hi, Chg.trans h.grew hc fun i hi hb => absurd (h.new i hb) (by omega), h.new⟩
theorem Mine.to {w W W' : World} {b c : Nat} {nx nx' : Int} {l l' : List Auc} {A : Option Addr} (h : Mine w W b nx l A c) (ht : BidsTo W W' b A nx' l') : ∃ A' c', Mine w W' b nx' l' A' c' ∧ Chg (BF b A) W W' ∧ (∀ k, k < W.heap.size → ¬ BF b A k → ¬ BF b A' k) := by
  obtain ⟨A', c', hi, hc, hn⟩ := ht
  refine ⟨A', c', ⟨hi, Chg.trans h.grew hc fun i hi hb => absurd (h.new i hb) (by omega), fun k hk => ?_⟩, hc, fun k hk hb hb' => ?_⟩
  · rcases hn k hk with h1 | h1
    · exact h.new k h1
    · have := h.grew.size; omega
  · rcases hn k hb' with h1 | h1
    · exact hb h1
    · omega
theorem Mine.made (w : World) : Mine w (w.alloc (.cells #[.slice none 0 0, .int .i64 1] 58)) w.heap.size 1 [] none 0 := by
  refine ⟨⟨Blk.new w _ _, World.ownsRow_nil _ _ _ _⟩, (Chg.refl _ _).alloc _, fun k hk => ?_⟩
  rcases hk with rfl | ⟨a, ha, _⟩
  · exact Nat.le_refl _
  · cases ha

set_option maxHeartbeats 800000 in
theorem awake_any (w : World) :
    Calls Try.prog 8 #[] w fun e w' => e = .returned (.bool true) ∧ Grew w w' := by
  have HM := Lib.hid (Mine.made w)
  go_enter Try.func8, Try.ntmps8
  go_wp2_with (go_at_call 7; refine (new_any _).mono ?_; rintro e w1 ⟨rfl, rfl⟩)
  refine (open_yes w.heap.size 1 5 1 100 50 [] none 0 _ HM.out.isIn (by simp) (by decide) rfl (by omega) (by omega)).mono ?_
  rintro e w1 ⟨rfl, ht⟩
  obtain ⟨A1, c1, h1, -⟩ := HM.out.to ht
  have H1 := Lib.hid h1
  clear ht h1
  go_wp2_with fail
  refine (bid_no w.heap.size 0 ⟨1, 5, 1, 100, 0, 0, 50⟩ 2 1 2 99 36 _ A1 c1 _ H1.out.isIn (by simp) rfl rfl (by decide) (by decide) (by decide) (by decide)).mono ?_
  rintro e w2 ⟨rfl, hg2⟩
  have H2 := Lib.hid (H1.out.more (Grew.chg hg2 |>.alloc (.cells #[.int .i64 0, .int .i64 0, .int .i64 0, .int .i64 0, .int .i64 0, .int .i64 0, .int .i64 0] 32)))
  clear hg2 H1
  go_wp2_with fail
  refine (bid_yes w.heap.size 0 ⟨1, 5, 1, 100, 0, 0, 50⟩ 2 1 2 100 _ A1 c1 _ H2.out.isIn (by simp) rfl rfl (by decide) (by decide) (by decide)).mono ?_
  rintro e w3 ⟨rfl, hi3, hc3⟩
  have H3 := Lib.hid (H2.out.same hi3 hc3)
  clear hi3 hc3 H2
  go_wp2_with fail
  refine (bid_no w.heap.size 0 ⟨1, 5, 1, 100, 100, 2, 50⟩ 2 1 3 104 36 _ A1 c1 _ (H3.out.isIn.grew ((Chg.refl _ _).alloc _)) (by simp) rfl rfl (by decide) (by decide) (by decide) (by decide)).mono ?_
  rintro e w4 ⟨rfl, hg4⟩
  have H4 := Lib.hid (H3.out.more (Grew.trans ((Chg.refl _ _).alloc _) hg4))
  clear hg4 H3
  go_wp2_with fail
  refine (bid_yes w.heap.size 0 ⟨1, 5, 1, 100, 100, 2, 50⟩ 2 1 3 105 _ A1 c1 _ (H4.out.isIn.grew ((Chg.refl _ _).alloc _)) (by simp) rfl rfl (by decide) (by decide) (by decide)).mono ?_
  rintro e w5 ⟨rfl, hi5, hc5⟩
  have H5 := Lib.hid ((H4.out.more ((Chg.refl _ _).alloc _)).same hi5 hc5)
  clear hi5 hc5 H4
  go_wp2_with fail
  refine (held_any w.heap.size 2 _ A1 c1 _ (H5.out.isIn.grew ((Chg.refl _ _).alloc _)) (by simp) (by simp)).mono ?_
  rintro e w6 ⟨rfl, hg6⟩
  have H6 := Lib.hid (Grew.trans H5.out.grew (Grew.trans ((Chg.refl _ _).alloc _) hg6))
  clear hg6 H5
  go_wp2_with fail
  go_ret
  exact ⟨rfl, H6.out⟩

end Go.Proofs.Ytbmogbbenfpmiaa
