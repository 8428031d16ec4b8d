/- The document's answer for the deeds: Issue that stands. -/
import Derived.Test.YtkcakkblammpiaaDeeS
namespace Go.Proofs.Ytkcakkblammpiaa
open Go.RowKit

set_option maxHeartbeats 1600000 in
theorem rissue_yes (nx plot id : Int) (l : List Dee) (A : Option Addr) (c : Nat) (w : World) (hs : Sl w 3 A l.length (l.flatMap Dee.vals)) (hl : l.length ≤ 1000000) (hr : issueE l plot id = 0) (hn0 : 0 ≤ nx) (hn1 : nx ≤ 4611686018427387904) (l' : List Dee) (hl' : l ++ [⟨nx, plot, id⟩] = l') :
    Calls Try.prog 27 #[.agg #[.slice A l.length c, .int .i64 nx], .int .i64 plot, .int .i64 id] w fun e w' =>
      NewOut w w' 3 l'.length (l'.flatMap Dee.vals) (fun A c => .tuple #[.agg #[.slice A l'.length c, .int .i64 (nx + 1)], .int .i64 nx, .int .i64 0]) e := by
  obtain ⟨W, hW, hg, hz, hb0, hb1⟩ := two_boxes w #[.slice A l.length c, .int .i64 nx]
  obtain ⟨i, hi⟩ : ∃ i, fidx (fun x : Dee => x.plot == plot) l = i := ⟨_, rfl⟩
  obtain ⟨h1, h2, h3, hm⟩ : ¬ plot < 1 ∧ ¬ id < 1 ∧ ¬ 0 ≤ i ∧ mayE l id = 0 := by
    unfold issueE at hr
    rw [hi] at hr
    split at hr
    · cases hr
    · split at hr
      · cases hr
      · exact ⟨by omega, by omega, by omega, hr⟩
  obtain ⟨i0, hi0, hz0, hz1, hz2⟩ := info_parts rdeeInfo
  have Hs := Lib.hid (hs.grew hg)
  have Hi := Lib.hid hi
  have Hm := Lib.hid hm
  have HW := Lib.hid hW
  have HB := Lib.hid (And.intro hb0 hb1)
  have HG := Lib.hid hg
  have Hl' := Lib.hid hl'
  have hln : l'.length = l.length + 1 := by rw [← hl']; simp
  have Hln := Lib.hid hln
  obtain ⟨c0, f0, s0⟩ := hb0.facts
  obtain ⟨c1, f1, s1⟩ := hb1.facts
  have h6 : decide (0 ≤ i) = false := by simpa using h3
  clear hs hr hi hm hW hg hb0 hb1 hl' hln
  go_enter Try.func27, Try.ntmps27
  go_wp2_with (first
    | (rw [HW.out])
    | (go_at_call 13; refine (rof_any plot nx l A c _ Hs.out hl).mono ?_; rintro e w1 ⟨rfl, hg1⟩; rw [Hi.out]; have HG1 := Lib.hid hg1; clear hg1 c0 f0 s0 c1 f1 s1; obtain ⟨c0, f0, s0⟩ := (HB.out.1.grew HG1.out).facts; obtain ⟨c1, f1, s1⟩ := (HB.out.2.grew HG1.out).facts)
    | (go_at_call 17; refine (rmay_any id nx 0 l A c _ (Hs.out.grew HG1.out) hl Hm.out).mono ?_; rintro e w2 ⟨rfl, hg2⟩; have HG2 := Lib.hid (Grew.trans HG1.out hg2); clear hg2 c0 f0 s0 c1 f1 s1; obtain ⟨c0, f0, s0⟩ := (HB.out.1.grew HG2.out).facts; obtain ⟨c1, f1, s1⟩ := (HB.out.2.grew HG2.out).facts))
  clear c0 f0 s0 c1 f1 s1
  go_loopw [10, 11] (fun v i wr => ∃ (k : Nat), k ≤ l.length ∧ i = .int .i64 k ∧ wr.ownsRow w2.heap.size 41 3 v k ((l.take k).flatMap Dee.vals) ∧ Grew w2 wr) (fun _ i _ => l.length - (intOf i).toNat)
  case atStart => exact ⟨0, Nat.zero_le _, rfl, World.ownsRow_nil _ _ _ _, Chg.refl _ _⟩
  case round =>
    obtain ⟨k, hk, rfl, ho, hg⟩ := hrel
    have Ho := Lib.hid ho
    have Hg := Lib.hid hg
    have hsz := hg.size
    obtain ⟨c0, f0, s0⟩ := ((HB.out.1.grew HG2.out).grew hg).facts
    clear ho hg
    by_cases hlt : k < l.length
    · obtain ⟨x, hx⟩ : ∃ x, l[k]? = some x := ⟨_, List.getElem?_eq_getElem hlt⟩
      obtain ⟨b, off, rfl, hb, d0, d1, d2⟩ := ((Hs.out.grew HG2.out).grew Hg.out).atDee hx
      have Hx := Lib.hid hx
      clear hx
      have Hoa := Lib.hid (own_grew Ho.out ((Chg.refl NoF wr).alloc (.cells #[.int .i64 x.id, .int .i64 x.plot, .int .i64 x.holder] 41)))
      go_wp2_with (at_builtin; refine wpList_append_own_at _ (by rfl) _ _ 26 (by rfl) w2.heap.size 41 i0 _ 3 24 Try.underlying26 hi0 hz0 hz1 hz2 rfl (by decide) _ k _ (by rfl) Hoa.out ⟨wr.heap.size, 0, none⟩ 1 1 [.int .i64 x.id, .int .i64 x.plot, .int .i64 x.holder] (by rfl) (by rfl) (World.news_of_block (cs := #[.int .i64 x.id, .int .i64 x.plot, .int .i64 x.holder]) (t := 41) (fr := (0, 0)) (heap_alloc_new wr _)) (by simp [Value.oneCell']) (by simp only [maxLen]; omega) (by omega) (by simp; omega) ?_; intro v' w5 ho5 hg5 _ _; have HO5 := Lib.hid ho5; have HG5 := Lib.hid (grew_row (Hg.out.alloc _) Hoa.out hg5); clear ho5 hg5)
      exact ⟨⟨k + 1, by omega, by simp, by have := HO5.out; rw [← Dee.take_snoc Hx.out]; simpa [Dee.vals] using this, HG5.out⟩, by simp [intOf]; omega⟩
    · obtain rfl : k = l.length := by omega
      have Hoa := Lib.hid (own_grew Ho.out ((Chg.refl NoF wr).alloc (.cells #[.int .i64 nx, .int .i64 plot, .int .i64 id] 41)))
      go_wp2_with (at_builtin; refine wpList_append_own_at _ (by rfl) _ _ 26 (by rfl) w2.heap.size 41 i0 _ 3 24 Try.underlying26 hi0 hz0 hz1 hz2 rfl (by decide) _ l.length _ (by rfl) Hoa.out ⟨wr.heap.size, 0, none⟩ 1 1 [.int .i64 nx, .int .i64 plot, .int .i64 id] (by rfl) (by rfl) (World.news_of_block (cs := #[.int .i64 nx, .int .i64 plot, .int .i64 id]) (t := 41) (fr := (0, 0)) (heap_alloc_new wr _)) (by simp [Value.oneCell']) (by simp only [maxLen]; omega) (by omega) (by simp; omega) ?_; intro v' w5 ho5 hg5 _ _; obtain ⟨g', cap', rfl⟩ := ownsRow_succ ho5; have HO5 := Lib.hid ho5; have HG5 := Lib.hid (grew_row (Hg.out.alloc _) Hoa.out hg5); clear ho5 hg5)
      clear c0 f0 s0
      obtain ⟨c0, f0, s0⟩ := ((HB.out.1.grew HG2.out).grew HG5.out).facts
      obtain ⟨c1, f1, s1⟩ := ((HB.out.2.grew HG2.out).grew HG5.out).facts
      have h00 := c0 0
      have h01 := c0 1
      have h10 := c1 0
      have h11 := c1 1
      have f10 := f1 0
      have f11 := f1 1
      simp only [List.getElem?_toArray, List.getElem?_cons_zero, List.getElem?_cons_succ] at h00 h01 h10 h11
      go_region
      all_goals
        go_wp2
        refine bodyPost_ret (v := .tuple #[.agg #[.slice (some ⟨g', 0, none⟩) (l.length + 1) cap', .int .i64 (nx + 1)], .int .i64 nx, .int .i64 0]) (by simp [results, Try.results27, go_sem, c1, s1]) rfl ?_
        have hg5 : w2.heap.size ≤ g' := (HO5.out.lt g' rfl).1
        have hG : Grew w w2 := Grew.trans HG.out HG2.out
        have hsz2 := hG.size
        refine NewOut.mk (some ⟨g', 0, none⟩) cap' (by rw [Hln.out]) ?_ ?_ (fun a ha => by injection ha with ha; subst ha; show w.heap.size ≤ g'; omega)
        · have hO : Sl w5 3 (some ⟨g', 0, none⟩) l'.length (l'.flatMap Dee.vals) := by
            have := Sl.of_own HO5.out
            rw [Hln.out, ← Hl'.out]
            simpa [Dee.vals] using this
          have hzz := HG2.out.size
          refine hO.chg (F := fun j => j = w.heap.size + 1) ?_ (fun a ha e => by injection ha with ha; subst ha; simp only [] at e; omega)
          (repeat (first | (with_reducible exact Chg.refl _ _) | (with_reducible refine Chg.alloc ?_ _) | (with_reducible refine Chg.drew ?_) | (with_reducible refine Chg.drewN ?_ _) | ((with_reducible refine Chg.setCell ?_ ?hp _); (case hp => exact fun _ => rfl))))
        · (repeat (first | (with_reducible exact (Grew.trans hG HG5.out)) | (with_reducible refine Chg.alloc ?_ _) | (with_reducible refine Chg.drew ?_) | (with_reducible refine Chg.drewN ?_ _) | ((with_reducible refine Chg.setCell ?_ ?hp _); (case hp => (intro h; exfalso; simp at h; try omega)))))

end Go.Proofs.Ytkcakkblammpiaa
