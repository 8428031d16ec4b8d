/- PoolNext at the inputs that it passes over (printed by genPoolR.py). -/
import Derived.Test.YtenmilemdkhijaaDoorPoolP
namespace Go.Proofs.YtenmilemdkhijaaDoor
open Go.RowKit

theorem next_out (n : Int) (l : List Pop) (f : Int) (A : Option Addr) (c : Nat) (w : World) (hT : TabAt 0 tab w) (hl : (l.length : Int) ≤ 9223372036854775807) (h : n < 0 ∨ 300 < n ∨ 200 < l.length) :
    Calls Tryd.prog 4 #[.int .i64 n, .slice A l.length c, .int .i64 f] w fun e w' => e = .returned (.bool true) ∧ Grew w w' := by
  have HT := Lib.hid hT
  clear hT
  obtain ⟨W3, hW3⟩ : ∃ W3, (w.alloc (.cells #[.int .i64 f] 3)).alloc (.cells #[.bool false] 4) = W3 := ⟨_, rfl⟩
  have HG3 := Lib.hid (show Grew w W3 from hW3 ▸ (((Chg.refl _ _).alloc _).alloc _))
  have BR := Lib.hid (show Blk W3 (w.heap.size + 1) 4 #[.bool false] from hW3 ▸ (by have := Blk.new (w.alloc (.cells #[.int .i64 f] 3)) 4 #[.bool false]; simpa using this))
  have HW := Lib.hid hW3
  clear hW3
  by_cases h1 : n < 0
  · clear h
    (refine calls_of_marks Tryd.func4 rfl ?_; simp only [Tryd.ntmps4, List.size_toArray, List.length_cons, List.length_nil, Nat.reduceAdd, Nat.reduceSub, Array.replicate_succ, Array.replicate_zero, List.push_toArray, List.append_toArray, List.nil_append, List.cons_append])
    go_wp2_with (first
      | (rw [HW.out])
      | (go_at_call 8; refine (pawake_any W3 (tab_chg HT.out HG3.out id)).mono ?_; rintro e w2 ⟨rfl, hg2⟩; have HG4 := Lib.hid hg2; clear hg2; obtain ⟨c2, f2, s2⟩ := (BR.out.grew HG4.out).facts))
    refine postM_ret0 (v := .bool true) (by simp [results, Tryd.results4, go_sem, c2, s2]) rfl ⟨rfl, ?_⟩
    have := HG3.out.size
    (repeat (first | (with_reducible exact (Grew.trans HG3.out HG4.out)) | (with_reducible refine Chg.alloc ?_ _) | (with_reducible refine Chg.drew ?_) | (with_reducible refine Chg.drewN ?_ _) | ((with_reducible refine Chg.setCell ?_ ?hp _); (case hp => (intro h; exfalso; simp at h; try omega)))))
  by_cases h2 : 300 < n
  · clear h
    (refine calls_of_marks Tryd.func4 rfl ?_; simp only [Tryd.ntmps4, List.size_toArray, List.length_cons, List.length_nil, Nat.reduceAdd, Nat.reduceSub, Array.replicate_succ, Array.replicate_zero, List.push_toArray, List.append_toArray, List.nil_append, List.cons_append])
    go_wp2_with (first
      | (rw [HW.out])
      | (go_at_call 8; refine (pawake_any W3 (tab_chg HT.out HG3.out id)).mono ?_; rintro e w2 ⟨rfl, hg2⟩; have HG4 := Lib.hid hg2; clear hg2; obtain ⟨c2, f2, s2⟩ := (BR.out.grew HG4.out).facts))
    refine postM_ret0 (v := .bool true) (by simp [results, Tryd.results4, go_sem, c2, s2]) rfl ⟨rfl, ?_⟩
    have := HG3.out.size
    (repeat (first | (with_reducible exact (Grew.trans HG3.out HG4.out)) | (with_reducible refine Chg.alloc ?_ _) | (with_reducible refine Chg.drew ?_) | (with_reducible refine Chg.drewN ?_ _) | ((with_reducible refine Chg.setCell ?_ ?hp _); (case hp => (intro h; exfalso; simp at h; try omega)))))
  · have h3 : 200 < l.length := by omega
    clear h
    (refine calls_of_marks Tryd.func4 rfl ?_; simp only [Tryd.ntmps4, List.size_toArray, List.length_cons, List.length_nil, Nat.reduceAdd, Nat.reduceSub, Array.replicate_succ, Array.replicate_zero, List.push_toArray, List.append_toArray, List.nil_append, List.cons_append])
    go_wp2_with (first
      | (rw [HW.out])
      | (go_at_call 8; refine (pawake_any W3 (tab_chg HT.out HG3.out id)).mono ?_; rintro e w2 ⟨rfl, hg2⟩; have HG4 := Lib.hid hg2; clear hg2; obtain ⟨c2, f2, s2⟩ := (BR.out.grew HG4.out).facts))
    refine postM_ret0 (v := .bool true) (by simp [results, Tryd.results4, go_sem, c2, s2]) rfl ⟨rfl, ?_⟩
    have := HG3.out.size
    (repeat (first | (with_reducible exact (Grew.trans HG3.out HG4.out)) | (with_reducible refine Chg.alloc ?_ _) | (with_reducible refine Chg.drew ?_) | (with_reducible refine Chg.drewN ?_ _) | ((with_reducible refine Chg.setCell ?_ ?hp _); (case hp => (intro h; exfalso; simp at h; try omega)))))


end Go.Proofs.YtenmilemdkhijaaDoor
