/- The document's answer for the deeds: Issue, Move, Void. -/
import Derived.Test.YtkcakkblammpiaaDeeR
namespace Go.Proofs.Ytkcakkblammpiaa
open Go.RowKit

theorem rdeeInfo : (Try.prog.info? 41).map (fun i => (i.zero, i.size, i.bytes)) = some (some (.agg #[.int .i64 0, .int .i64 0, .int .i64 0]), 3, 24) := by kernel_rfl

theorem Dee.take_snoc {l : List Dee} {k : Nat} {x : Dee} (hx : l[k]? = some x) : (l.take k).flatMap Dee.vals ++ x.vals = (l.take (k + 1)).flatMap Dee.vals := by
  rw [List.take_add_one, hx]; simp

/-- The boxes that a call lays first: its receiver and its result. -/
theorem two_boxes (w : World) (X : Array Value) : ∃ W, (w.alloc (.cells X 28)).alloc (.cells #[.slice none 0 0, .int .i64 0] 28) = W ∧ Grew w W ∧ w.heap.size + 2 ≤ W.heap.size ∧
    Blk W w.heap.size 28 X ∧ Blk W (w.heap.size + 1) 28 #[.slice none 0 0, .int .i64 0] := by
  refine ⟨_, rfl, ((Chg.refl _ _).alloc _).alloc _, by simp, (Blk.new _ _ _).alloc _, ?_⟩
  have := Blk.new (w.alloc (.cells X 28)) 28 #[.slice none 0 0, .int .i64 0]
  simpa using this

set_option maxHeartbeats 1600000 in
theorem rissue_no (nx plot id r : Int) (l : List Dee) (A : Option Addr) (c : Nat) (w : World) (hs : Sl w 3 A l.length (l.flatMap Dee.vals)) (hl : l.length ≤ 1000000) (hr : issueE l plot id = r) (hr0 : r ≠ 0) :
    Calls Try.prog 27 #[.agg #[.slice A l.length c, .int .i64 nx], .int .i64 plot, .int .i64 id] w fun e w' => e = .returned (.tuple #[.agg #[.slice A l.length c, .int .i64 nx], .int .i64 0, .int .i64 r]) ∧ Grew w w' := by
  obtain ⟨W, hW, hg, hz, hb0, hb1⟩ := two_boxes w #[.slice A l.length c, .int .i64 nx]
  obtain ⟨i, hi⟩ : ∃ i, fidx (fun x : Dee => x.plot == plot) l = i := ⟨_, rfl⟩
  obtain ⟨m, hm⟩ : ∃ m, mayE l id = m := ⟨_, rfl⟩
  have Hs := Lib.hid (hs.grew hg)
  have Hi := Lib.hid hi
  have Hm := Lib.hid hm
  have HW := Lib.hid hW
  have HB := Lib.hid (And.intro hb0 hb1)
  have HG := Lib.hid hg
  have Hr : r = if plot < 1 ∨ id < 1 then 10 else if 0 ≤ i then 13 else m := by rw [← hr, ← hi, ← hm]; rfl
  obtain ⟨c0, f0, s0⟩ := hb0.facts
  obtain ⟨c1, f1, s1⟩ := hb1.facts
  clear hs hr hi hm hW hg hb0 hb1
  by_cases h1 : plot < 1 <;> by_cases h2 : id < 1 <;> by_cases h3 : 0 ≤ i
  all_goals try (have h4 : (m == 0) = false := by rw [beq_eq_false_iff_ne]; intro e; subst e; simp [h1, h2, h3] at Hr; exact hr0 Hr)
  all_goals try (have h5 : (m != 0) = true := by simp only [bne, h4, Bool.not_false])
  all_goals clear hr0
  all_goals have HR := Lib.hid Hr
  all_goals clear Hr
  all_goals try (have h6 : decide (0 ≤ i) = true := by simpa using h3)
  all_goals try (have h6 : decide (0 ≤ i) = false := by simpa using h3)
  all_goals
    go_enter Try.func27, Try.ntmps27
    go_wp2_with (first
      | (rw [HW.out])
      | (go_at_call 13; refine (rof_any plot nx l A c _ Hs.out hl).mono ?_; rintro e w1 ⟨rfl, hg1⟩; rw [Hi.out]; have HG1 := Lib.hid hg1; clear hg1 c0 f0 s0 c1 f1 s1; obtain ⟨c0, f0, s0⟩ := (HB.out.1.grew HG1.out).facts; obtain ⟨c1, f1, s1⟩ := (HB.out.2.grew HG1.out).facts)
      | (go_at_call 17; refine (rmay_any id nx m l A c _ (Hs.out.grew HG1.out) hl Hm.out).mono ?_; rintro e w2 ⟨rfl, hg2⟩; have HG2 := Lib.hid (Grew.trans HG1.out hg2); clear hg2 c0 f0 s0 c1 f1 s1; obtain ⟨c0, f0, s0⟩ := (HB.out.1.grew HG2.out).facts; obtain ⟨c1, f1, s1⟩ := (HB.out.2.grew HG2.out).facts))
    have e := HR.out
    (first | rw [if_pos (by omega)] at e | (rw [if_neg (by omega)] at e; first | rw [if_pos (by omega)] at e | rw [if_neg (by omega)] at e))
    subst e
    refine bodyPost_ret (v := .tuple #[.agg #[.slice A l.length c, .int .i64 nx], .int .i64 0, .int .i64 _]) (by simp [results, Try.results27, go_sem, c1, s1]) rfl ⟨rfl, ?_⟩
    have hsz := HG.out.size
    first
      | ((repeat (first | (with_reducible exact HG.out) | (with_reducible refine Chg.alloc ?_ _) | (with_reducible refine Chg.drew ?_) | (with_reducible refine Chg.drewN ?_ _) | ((with_reducible refine Chg.setCell ?_ ?hp _); (case hp => (intro h; exfalso; simp at h; try omega))))); done)
      | (have := HG1.out.size; (repeat (first | (with_reducible exact (Grew.trans HG.out HG1.out)) | (with_reducible refine Chg.alloc ?_ _) | (with_reducible refine Chg.drew ?_) | (with_reducible refine Chg.drewN ?_ _) | ((with_reducible refine Chg.setCell ?_ ?hp _); (case hp => (intro h; exfalso; simp at h; try omega))))); done)
      | (have := HG2.out.size; (repeat (first | (with_reducible exact (Grew.trans HG.out HG2.out)) | (with_reducible refine Chg.alloc ?_ _) | (with_reducible refine Chg.drew ?_) | (with_reducible refine Chg.drewN ?_ _) | ((with_reducible refine Chg.setCell ?_ ?hp _); (case hp => (intro h; exfalso; simp at h; try omega))))); done)

end Go.Proofs.Ytkcakkblammpiaa
