/- The document's answer for the auctions: opening. -/
import Derived.Test.YtbmogbbenfpmiaaBidH
namespace Go.Proofs.Ytbmogbbenfpmiaa
open Go.RowKit

set_option maxHeartbeats 800000 in
theorem ropen_no (nx deed seller least ends r : Int) (l : List Auc) (A : Option Addr) (c : Nat) (w : World) (hs : Sl w 7 A l.length (l.flatMap Auc.vals)) (hl : l.length ≤ 1000000) (hr : mayE l nx deed seller least ends = r) (hr0 : r ≠ 0) :
    Calls Try.prog 28 #[.agg #[.slice A l.length c, .int .i64 nx], .int .i64 deed, .int .i64 seller, .int .i64 least, .int .i64 ends] w fun e w' =>
      e = .returned (.tuple #[.agg #[.slice A l.length c, .int .i64 nx], .int .i64 0, .int .i64 r]) ∧ Grew w w' := by
  have hg0 := ((Chg.refl NoF w).alloc (.cells #[.slice A l.length c, .int .i64 nx] 39)).alloc (.cells #[.slice none 0 0, .int .i64 0] 39)
  have HB0 := Lib.hid (And.intro hg0 (And.intro ((Blk.new w 39 #[.slice A l.length c, .int .i64 nx]).alloc (.cells #[.slice none 0 0, .int .i64 0] 39)) (Blk.new (w.alloc (.cells #[.slice A l.length c, .int .i64 nx] 39)) 39 #[.slice none 0 0, .int .i64 0])))
  simp only [World.size_alloc] at HB0
  have Hs := Lib.hid hs
  have Hr := Lib.hid hr
  have hr1 : (r != 0) = true := by rw [bne_iff_ne]; exact hr0
  clear hs hr hg0 hr0
  go_enter Try.func28, Try.ntmps28
  go_wp2_with (go_at_call 44; refine (may_any nx deed seller least ends l A c _ (Hs.out.grew HB0.out.1) hl).mono ?_; rintro e w1 ⟨rfl, hg1⟩; rw [Hr.out]; obtain ⟨e0, f0, s0⟩ := (HB0.out.2.1.grew hg1).facts; obtain ⟨e1, f1, s1⟩ := (HB0.out.2.2.grew hg1).facts; have HG := Lib.hid (Grew.trans HB0.out.1 hg1); clear hg1)
  refine bodyPost_ret (v := .tuple #[.agg #[.slice A l.length c, .int .i64 nx], .int .i64 0, .int .i64 r]) (by simp [results, Try.results28, go_sem, e1, s1]) rfl ⟨rfl, ?_⟩
  have hsz := HG.out.size
  (repeat (first | (with_reducible exact HG.out) | (with_reducible refine Chg.alloc ?_ _) | (with_reducible refine Chg.drew ?_) | (with_reducible refine Chg.drewN ?_ _) | ((with_reducible refine Chg.setCell ?_ ?hp _); (case hp => (intro h; exfalso; simp at h; try omega)))))

set_option maxHeartbeats 1600000 in
theorem ropen_yes (nx deed seller least ends : Int) (l : List Auc) (A : Option Addr) (c : Nat) (w : World) (hs : Sl w 7 A l.length (l.flatMap Auc.vals)) (hl : l.length ≤ 1000000) (hr : mayE l nx deed seller least ends = 0) (hn0 : 0 ≤ nx) (hn1 : nx ≤ 4611686018427387904) :
    Calls Try.prog 28 #[.agg #[.slice A l.length c, .int .i64 nx], .int .i64 deed, .int .i64 seller, .int .i64 least, .int .i64 ends] w fun e w' =>
      NewOut w w' 7 (l ++ [(⟨nx, deed, seller, least, 0, 0, ends⟩ : Auc)]).length ((l ++ [(⟨nx, deed, seller, least, 0, 0, ends⟩ : Auc)]).flatMap Auc.vals) (fun A c => .tuple #[.agg #[.slice A (l ++ [(⟨nx, deed, seller, least, 0, 0, ends⟩ : Auc)]).length c, .int .i64 (nx + 1)], .int .i64 nx, .int .i64 0]) e := by
  obtain ⟨i0, hi0, hz0, hz1, hz2⟩ := info_parts raucInfo
  have hg0 := ((Chg.refl NoF w).alloc (.cells #[.slice A l.length c, .int .i64 nx] 39)).alloc (.cells #[.slice none 0 0, .int .i64 0] 39)
  have HB0 := Lib.hid (And.intro hg0 (And.intro ((Blk.new w 39 #[.slice A l.length c, .int .i64 nx]).alloc (.cells #[.slice none 0 0, .int .i64 0] 39)) (Blk.new (w.alloc (.cells #[.slice A l.length c, .int .i64 nx] 39)) 39 #[.slice none 0 0, .int .i64 0])))
  simp only [World.size_alloc] at HB0
  have Hs := Lib.hid hs
  have Hr := Lib.hid hr
  clear hs hr hg0
  go_enter Try.func28, Try.ntmps28
  go_wp2_with (go_at_call 44; refine (may_any nx deed seller least ends l A c _ (Hs.out.grew HB0.out.1) hl).mono ?_; rintro e w1 ⟨rfl, hg1⟩; rw [Hr.out]; have HBa := Lib.hid (HB0.out.2.1.grew hg1); have HBb := Lib.hid (HB0.out.2.2.grew hg1); have HG := Lib.hid (Grew.trans HB0.out.1 hg1); clear hg1)
  go_loopw [14, 15] (fun v i wr => ∃ (k : Nat) (A1 : Option Addr) (c1 : Nat), k ≤ l.length ∧ i = .int .i64 k ∧ v = .slice A1 k c1 ∧ wr.ownsRow (w.heap.size + 2) 53 7 (.slice A1 k c1) k ((l.take k).flatMap Auc.vals) ∧ Grew w wr
      ∧ Blk wr w.heap.size 39 #[.slice A l.length c, .int .i64 nx] ∧ Blk wr (w.heap.size + 1) 39 #[.slice none 0 0, .int .i64 0]) (fun _ i _ => l.length - (intOf i).toNat)
  case atStart => exact ⟨0, none, 0, Nat.zero_le _, rfl, rfl, by simpa using World.ownsRow_nil _ _ _ _, HG.out, HBa.out, HBb.out⟩
  case round =>
    obtain ⟨k, A1, c1, hk, rfl, rfl, hown, hg, hb, hb2⟩ := hrel
    obtain ⟨e0, f0, s0⟩ := hb.facts
    have s1 := hb2.lt
    have Hb := Lib.hid hb
    have Hb2 := Lib.hid hb2
    have Hown := Lib.hid hown
    have hne : ∀ j, j < w.heap.size + 2 → some j ≠ (Value.slice A1 k c1).ownBlock := fun j hj e => by have := (Hown.out.lt j e.symm).1; omega
    have Hne := Lib.hid hne
    clear hb hb2 hown hne
    by_cases hlt : k < l.length
    · obtain ⟨x, hx⟩ : ∃ x, l[k]? = some x := ⟨_, List.getElem?_eq_getElem hlt⟩
      obtain ⟨b, off, rfl, hb, d0, d1, d2, d3, d4, d5, d6⟩ := (Hs.out.grew hg).atAuc hx
      have Hx := Lib.hid hx
      clear hx
      go_wp2_with (at_builtin; refine wpList_append_lies _ rfl _ _ _ rfl (w.heap.size + 2) 53 i0 _ 7 56 Try.underlying37 hi0 hz0 hz1 hz2 rfl (by omega) (.slice A1 k c1) k ((l.take k).flatMap Auc.vals) rfl (Hown.out.alloc _) ⟨wr.heap.size, 0, none⟩ 1 1 [.int .i64 x.id, .int .i64 x.deed, .int .i64 x.seller, .int .i64 x.least, .int .i64 x.best, .int .i64 x.bidder, .int .i64 x.ends] rfl rfl (World.news_of_block (cs := #[.int .i64 x.id, .int .i64 x.deed, .int .i64 x.seller, .int .i64 x.least, .int .i64 x.best, .int .i64 x.bidder, .int .i64 x.ends]) (t := 53) (fr := (0, 0)) (heap_alloc_new wr _)) (by simp [Value.oneCell']) (by omega) (by simp only [maxLen]; omega) (by omega) (by simp; omega) (wr.heap.size + 1) (by simp) ?_; intro g cap w1 hown1 hgrow hat hlt1; have HO1 := Lib.hid hown1; have HG1 := Lib.hid (And.intro hgrow hat); clear hown1 hgrow hat)
      have hsz := hg.size
      have hg1 : Grew w w1 := (hg.alloc _).grown HG1.out.1 (fun j hj hlt => by have := (Hown.out.lt j hj).1; omega)
      go_roundw
      case rel => exact ⟨k + 1, some ⟨g, 0, none⟩, cap, by omega, by go_num, by simp, by have := HO1.out; rw [← Auc.take_snoc Hx.out]; simpa [Auc.vals] using this, hg1, (Hb.out.alloc _).grown HG1.out.1 (Hne.out _ (by omega)), (Hb2.out.alloc _).grown HG1.out.1 (Hne.out _ (by omega))⟩
      case measure => simp [intOf]; omega
    · obtain rfl : k = l.length := by omega
      go_wp2_with (at_builtin; refine wpList_append_lies _ rfl _ _ _ rfl (w.heap.size + 2) 53 i0 _ 7 56 Try.underlying37 hi0 hz0 hz1 hz2 rfl (by omega) (.slice A1 l.length c1) l.length ((l.take l.length).flatMap Auc.vals) rfl (Hown.out.alloc _) ⟨wr.heap.size, 0, none⟩ 1 1 [.int .i64 nx, .int .i64 deed, .int .i64 seller, .int .i64 least, .int .i64 0, .int .i64 0, .int .i64 ends] rfl rfl (World.news_of_block (cs := #[.int .i64 nx, .int .i64 deed, .int .i64 seller, .int .i64 least, .int .i64 0, .int .i64 0, .int .i64 ends]) (t := 53) (fr := (0, 0)) (heap_alloc_new wr _)) (by simp [Value.oneCell']) (by omega) (by simp only [maxLen]; omega) (by omega) (by simp; omega) (wr.heap.size + 1) (by simp) ?_; intro g cap w2 hown1 hgrow hat hlt1; have HO1 := Lib.hid hown1; have HG1 := Lib.hid (And.intro hgrow hat); clear hown1 hgrow hat)
      have hsz := hg.size
      have hg1 : Grew w w2 := (hg.alloc _).grown HG1.out.1 (fun j hj hlt => by have := (Hown.out.lt j hj).1; omega)
      clear e0 f0 s0
      obtain ⟨e0, f0, s0⟩ := ((Hb.out.alloc _).grown HG1.out.1 (Hne.out _ (by omega))).facts
      obtain ⟨e1, f1, s1⟩ := ((Hb2.out.alloc _).grown HG1.out.1 (Hne.out _ (by omega))).facts
      have h00 := e0 0
      have h01 := e0 1
      have h10 := e1 0
      have h11 := e1 1
      have f10 := f1 0
      have f11 := f1 1
      simp only [List.getElem?_toArray, List.getElem?_cons_zero, List.getElem?_cons_succ] at h00 h01 h10 h11
      go_region
      all_goals
        go_wp2
        refine bodyPost_ret (v := .tuple #[.agg #[.slice (some ⟨g, 0, none⟩) (l ++ [(⟨nx, deed, seller, least, 0, 0, ends⟩ : Auc)]).length cap, .int .i64 (nx + 1)], .int .i64 nx, .int .i64 0]) (by simp [results, Try.results28, go_sem, e1, s1]) rfl (NewOut.mk (some ⟨g, 0, none⟩) cap rfl ?_ ?_ (fun a ha => by injection ha with ha; subst ha; have h5 : w.heap.size + 2 ≤ g := (HO1.out.lt g rfl).1; show w.heap.size ≤ g; omega))
        · have hO : Sl w2 7 (some ⟨g, 0, none⟩) (l ++ [(⟨nx, deed, seller, least, 0, 0, ends⟩ : Auc)]).length ((l ++ [(⟨nx, deed, seller, least, 0, 0, ends⟩ : Auc)]).flatMap Auc.vals) := by
            have := Sl.of_own HO1.out
            simpa [Auc.vals] using this
          refine hO.chg (F := fun j => j = w.heap.size + 1) ?_ (fun a ha e => by injection ha with ha; subst ha; have := (HO1.out.lt _ rfl).1; omega)
          (repeat (first | (with_reducible exact Chg.refl _ _) | (with_reducible refine Chg.alloc ?_ _) | (with_reducible refine Chg.drew ?_) | (with_reducible refine Chg.drewN ?_ _) | ((with_reducible refine Chg.setCell ?_ ?hp _); (case hp => exact fun _ => rfl))))
        · (repeat (first | (with_reducible exact hg1) | (with_reducible refine Chg.alloc ?_ _) | (with_reducible refine Chg.drew ?_) | (with_reducible refine Chg.drewN ?_ _) | ((with_reducible refine Chg.setCell ?_ ?hp _); (case hp => (intro h; exfalso; simp at h; try omega)))))

end Go.Proofs.Ytbmogbbenfpmiaa
