/- The deeds: Issue that stands, Move, Void, Copy. -/
import Derived.Test.YtkcakkblammpiaaDeeF
namespace Go.Proofs.Ytkcakkblammpiaa
open Go.RowKit

theorem BF_lt {w : World} {b c k : Nat} {nx : Int} {l : List Dee} {A : Option Addr} (h : DeedsIn w b nx l A c) (hk : BF b A k) : k < w.heap.size := by
  rcases hk with rfl | ⟨a, rfl, rfl⟩
  · exact h.blk.lt
  · obtain ⟨g, e, hg⟩ := own_some h.own
    subst e
    exact hg

theorem issue_after {w W w3 X : World} {b c : Nat} {nx n' : Int} {l : List Dee} {x : Dee} {A : Option Addr} {v' : Value} {n : Nat} (hD : Grew w W) (hW : DeedsIn W b nx l A c) (hn : n = l.length + 1)
    (hown : w3.ownsRow 0 34 3 v' n (l.flatMap Dee.vals ++ x.vals)) (hg : W.grownBy w3 (Value.slice A l.length c).ownBlock)
    (hat : v'.ownBlock = (Value.slice A l.length c).ownBlock ∨ v'.ownBlock = some W.heap.size) (hX : (w3.setCell ⟨b, 0, none⟩ v').setCell ⟨b, 1, none⟩ (.int .i64 n') = X) :
    Blk w3 b 58 #[.slice A l.length c, .int .i64 nx] ∧ DeedsTo w X b A n' (l ++ [x]) := by
  subst hn
  obtain ⟨g', cap', rfl⟩ := ownsRow_succ hown
  have hB : Blk w3 b 58 #[.slice A l.length c, .int .i64 nx] := hW.blk.grown hg fun e => own_blk_ne hW.own hW.blk (by decide) e.symm
  have hgb : g' ≠ b := fun e => by
    subst e
    exact own_blk_ne hown hB (by decide) rfl
  have hc : Chg (BF b A) w w3 := (hD.chg).grown hg fun k hk _ => BF_own hk
  refine ⟨hB, some ⟨g', 0, none⟩, cap', ⟨?_, ?_⟩, ?_, ?_⟩
  · rw [← hX]
    have := (hB.put 0 (.slice (some ⟨g', 0, none⟩) (l.length + 1) cap')).put 1 (.int .i64 n')
    simpa using this
  · have h1 : Chg (fun k => k = b) w3 X := by
      rw [← hX]
      exact Chg.setCell (Chg.setCell (Chg.refl (fun k => k = b) w3) (p := ⟨b, 0, none⟩) (fun _ => rfl) _) (p := ⟨b, 1, none⟩) (fun _ => rfl) _
    have := own_chg hown h1 (fun g hg e => hgb (by simp [Value.ownBlock] at hg; omega))
    simpa using this
  · rw [← hX]
    exact (hc.setCell (p := ⟨b, 0, none⟩) (fun _ => .inl rfl) _).setCell (p := ⟨b, 1, none⟩) (fun _ => .inl rfl) _
  · rintro k (rfl | ⟨a, ha, rfl⟩)
    · exact .inl (.inl rfl)
    · simp only [Option.some.injEq] at ha
      subst ha
      rcases hat with h | h
      · exact .inl (BF_own h.symm)
      · right; have := hD.size; simp [Value.ownBlock] at h; simp only []; omega

set_option maxHeartbeats 800000 in
theorem issue_yes (b : Nat) (nx plot id : Int) (l : List Dee) (A : Option Addr) (c : Nat) (w : World) (h : DeedsIn w b nx l A c) (hl : l.length ≤ 1000000) (hr : issueE l plot id = 0) (hn0 : 0 ≤ nx) (hn1 : nx ≤ 9223372036854775806) :
    Calls Try.prog 21 #[.pointer (some ⟨b, 0, none⟩), .int .i64 plot, .int .i64 id] w fun e w' => e = .returned (.tuple #[.int .i64 nx, .int .i64 0]) ∧ DeedsTo w w' b A (nx + 1) (l ++ [⟨nx, plot, id⟩]) := by
  obtain ⟨y, hy⟩ : ∃ y, fnd (fun x : Dee => x.plot == plot) l = y := ⟨_, rfl⟩
  obtain ⟨i, hi⟩ : ∃ i, fidx (fun x : Dee => x.plot == plot) l = i := ⟨_, rfl⟩
  obtain ⟨h1, h2, h3, hm⟩ : ¬ plot < 1 ∧ ¬ id < 1 ∧ ¬ 0 ≤ i ∧ mayE l id = 0 := by
    unfold issueE at hr
    rw [hi] at hr
    split at hr
    · cases hr
    · split at hr
      · cases hr
      · exact ⟨by omega, by omega, by omega, hr⟩
  have H := Lib.hid h
  have Hyi := Lib.hid (And.intro hy hi)
  have Hm := Lib.hid hm
  have h6 : decide (0 ≤ i) = false := by simpa using h3
  clear h hr hy hi hm
  go_enter Try.func21, Try.ntmps21
  go_wp2_with (first
    | (go_at_call 12; refine (of_any b nx plot l A c _ H.out hl y i Hyi.out.1 Hyi.out.2).mono ?_; rintro e w1 ⟨rfl, hg1⟩; have HG1 := Lib.hid hg1; clear hg1)
    | (go_at_call 16; refine (may_any b nx id 0 l A c _ (H.out.grew (HG1.out.alloc _)) hl Hm.out).mono ?_; rintro e w2 ⟨rfl, hg2⟩; have HG2 := Lib.hid (Grew.trans (HG1.out.alloc _) hg2); clear hg2; have HD := Lib.hid (H.out.grew HG2.out); obtain ⟨c2, f2, s2⟩ := HD.out.blk.facts; obtain ⟨i0, hi, hz0, hz1, hz2⟩ := info_parts Dee.info; have HO := Lib.hid (own_grew HD.out.own ((Chg.refl NoF w2).alloc (.cells #[.int .i64 nx, .int .i64 plot, .int .i64 id] 34))))
    | (at_builtin; refine wpList_append_own_at _ (by rfl) _ _ 49 (by rfl) 0 34 i0 _ 3 24 Try.underlying49 hi hz0 hz1 hz2 rfl (by decide) (.slice A l.length c) _ _ (by rfl) HO.out ⟨w2.heap.size, 0, none⟩ 1 1 [.int .i64 nx, .int .i64 plot, .int .i64 id] (by rfl) (by rfl) (World.news_of_block (cs := #[.int .i64 nx, .int .i64 plot, .int .i64 id]) (t := 34) (fr := (0, 0)) (heap_alloc_new w2 _)) (by simp [Value.oneCell']) (by simp only [maxLen]; omega) (by omega) (by omega) ?_; intro v' w5 ho5 hg5 _ hat5; have HE := Lib.hid (issue_after (x := ⟨nx, plot, id⟩) (n' := nx + 1) (HG2.out.alloc _) (HD.out.grew ((Chg.refl NoF w2).alloc _)) rfl ho5 hg5 hat5 rfl); obtain ⟨g', cap', rfl⟩ := ownsRow_succ ho5; clear ho5 hg5 hat5; obtain ⟨c5, f5, s5⟩ := HE.out.1.facts))
  go_ret2
  exact ⟨rfl, HE.out.2⟩

end Go.Proofs.Ytkcakkblammpiaa
