/- The queue: the fixed answer. -/
import Derived.Test.YtjdbaeogoifdfaaQueT
import Derived.Test.YtjdbaeogoifdfaaQueI
namespace Go.Proofs.Ytjdbaeogoifdfaa
open Go.RowKit Go.Maps

theorem awakeL : upL ([⟨1, 5, ⟨#[120]⟩⟩, ⟨2, 3, ⟨#[121]⟩⟩] : List Itm) 1 = [⟨2, 3, ⟨#[121]⟩⟩, ⟨1, 5, ⟨#[120]⟩⟩] := by
  rw [upL_go (x := ⟨2, 3, ⟨#[121]⟩⟩) (p := ⟨1, 5, ⟨#[120]⟩⟩) (by omega) rfl rfl (by unfold Itm.lt; simp)]
  rw [show (1 - 1) / 2 = 0 from rfl, upL_zero]
  rfl

set_option maxRecDepth 100000 in
set_option maxHeartbeats 1600000 in
theorem awake_any (w : World) :
    Calls Try.prog 9 #[] w fun e w' => e = .returned (.bool true) ∧ Grew w w' := by
  have HM := Lib.hid (QMine.made w)
  go_enter Try.func9, Try.ntmps9
  go_wp2_with (go_at_call 8; refine (new_any _).mono ?_; rintro e w1 ⟨rfl, rfl⟩)
  refine (add_any (w.heap.size + 1) 5 ⟨#[120]⟩ [] none 0 w.heap.size 0 _ HM.out.q (by simp) (by omega) (by omega) (by simp)).mono ?_
  rintro e w2 ⟨rfl, ht2⟩
  rw [show upL (([] : List Itm) ++ [⟨0 + 1, 5, ⟨#[120]⟩⟩]) ([] : List Itm).length = [⟨1, 5, ⟨#[120]⟩⟩] from upL_zero _] at ht2
  obtain ⟨A2, c2, hM2⟩ := HM.out.to ht2
  have HM2 := Lib.hid hM2
  clear hM2 ht2
  go_wp2_with fail
  refine (add_any (w.heap.size + 1) 3 ⟨#[121]⟩ [⟨1, 5, ⟨#[120]⟩⟩] A2 c2 w.heap.size 1 _ HM2.out.q (by simp) (by omega) (by omega) (by simp)).mono ?_
  rintro e w3 ⟨rfl, ht3⟩
  rw [show upL (([⟨1, 5, ⟨#[120]⟩⟩] : List Itm) ++ [⟨1 + 1, 3, ⟨#[121]⟩⟩]) ([⟨1, 5, ⟨#[120]⟩⟩] : List Itm).length = [⟨2, 3, ⟨#[121]⟩⟩, ⟨1, 5, ⟨#[120]⟩⟩] from awakeL] at ht3
  obtain ⟨A3, c3, hM3⟩ := HM2.out.to ht3
  have HM3 := Lib.hid hM3
  clear hM3 ht3
  go_wp2_with (first
    | (go_at_call 12; refine (first_some (w.heap.size + 1) ⟨2, 3, ⟨#[121]⟩⟩ _ A3 c3 w.heap.size _ _ HM3.out.q rfl).mono ?_; rintro e w4 ⟨rfl, hg4⟩; have HM4 := Lib.hid (HM3.out.more hg4); clear hg4)
    | (go_at_call 13; refine (pop_late (w.heap.size + 1) 2 ⟨2, 3, ⟨#[121]⟩⟩ _ A3 c3 w.heap.size _ _ HM4.out.q rfl (by simp)).mono ?_; rintro e w5 ⟨rfl, hg5⟩; have HM5 := Lib.hid (HM4.out.more hg5); clear hg5)
    | (go_at_call 11; refine (len_any (w.heap.size + 1) _ A3 c3 w.heap.size _ _ HM5.out.q).mono ?_; rintro e w6 ⟨rfl, rfl⟩))
  go_ret
  exact ⟨by simp, HM5.out.grew⟩

end Go.Proofs.Ytjdbaeogoifdfaa
