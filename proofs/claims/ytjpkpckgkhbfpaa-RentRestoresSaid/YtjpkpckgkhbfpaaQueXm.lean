/- The queue: Copy. -/
import Derived.Test.YtjpkpckgkhbfpaaQueXe
import Derived.Test.YtjpkpckgkhbfpaaQueF
namespace Go.Proofs.Ytjpkpckgkhbfpaa
open Go.RowKit Go.Maps

theorem Itm.one_all (l : List Itm) : ∀ u ∈ l.flatMap Itm.vals, u.oneCell' = true := Itm.one_cell l

set_option maxHeartbeats 800000 in
theorem qclone_any (l : List Itm) (A : Option Addr) (c : Nat) (w : World) (h : w.ownsRow 0 97 3 (.slice A l.length c) l.length (l.flatMap Itm.vals)) (hn : l.length ≤ 1000000) :
    Calls Try.prog 54 #[.slice A l.length c] w fun e w' => OwnOut w w' 97 3 l.length (l.flatMap Itm.vals) (fun A c => .slice A l.length c) e := by
  obtain ⟨i0, hi0, hz0, hz1, hz2⟩ := info_parts itmInfo
  rcases A with _ | a
  · obtain ⟨hl0, rfl⟩ := own_none h
    obtain rfl : l = [] := List.eq_nil_of_length_eq_zero hl0
    have hsl := fun (w : World) => Lib.run_eql_slice_nil (P := Try.prog) w 78 97 none 0 0 0 0 Try.underlying78
    go_enter Try.func54, Try.ntmps54
    go_wp2
    go_ret
    exact OwnOut.mk none 0 rfl (World.ownsRow_nil _ _ _ _) (Chg.refl _ _)
  · obtain ⟨g, rfl, hg⟩ := own_some h
    have hsl := fun (w : World) => Lib.run_eql_slice_nil (P := Try.prog) w 78 97 (some ⟨g, 0, none⟩) l.length c 0 0 Try.underlying78
    have H := Lib.hid h
    clear h
    go_enter Try.func54, Try.ntmps54
    go_wp2_with (at_builtin; refine wpList_append_own _ rfl _ _ _ rfl w.heap.size 97 i0 _ 3 24 Try.underlying78 hi0 hz0 hz1 hz2 rfl (by omega) (.slice (some ⟨w.heap.size, 0, none⟩) 0 0) 0 [] rfl (World.ownsRow_lit w #[] 0 (Nat.le_refl _) (by simp [maxLen]) (by simp)) ⟨g, 0, none⟩ l.length c (l.flatMap Itm.vals) rfl (Itm.vals_len l) ((H.out.alloc _).cells (g := g) rfl) (Itm.one_cell l) (by simp only [maxLen]; omega) (by omega) (by simp) ?_; intro v1 w1 hown1 hgrow hnil; have HO := Lib.hid hown1; have HG := Lib.hid hgrow; clear hown1 hgrow hnil)
    go_ret
    obtain ⟨A', c', rfl, -⟩ := own_shape HO.out
    refine OwnOut.mk A' c' ?_ ?_ ?_
    · have := HO.out; simp
    · simpa using HO.out
    · exact ((Chg.refl NoF w).alloc _).grown HG.out (fun k hk hlt => by simp [Value.ownBlock] at hk; omega)

theorem mclone_any (M : Nat) (m : Int → Option Value) (s : Nat) (w : World) (h : IMap Try.prog 3 w M m s) :
    Calls Try.prog 42 #[.map (some M)] w fun e w' => e = .returned (.map (some w.heap.size)) ∧ IMap Try.prog 3 w' w.heap.size m s ∧ Grew w w' := by
  obtain ⟨D, ho, hr⟩ := h
  refine Calls.mono (show Calls Try.prog 42 _ _ _ from AnyW.maps_Clone_owns cloneM 3 rdV M s D w ho) ?_
  rintro e w' ⟨he, h1, h2, h3⟩
  exact ⟨he, ⟨D, h1, hr⟩, Grew.of_below h3⟩

/-- A copy's answer: new blocks alone. -/
def QCopied (w w' : World) (l : List Itm) (added : Int) (e : Ending) : Prop :=
  ∃ b A c M, e = .returned (.pointer (some ⟨b, 0, none⟩)) ∧ Q w' b l A c M added ∧ Grew w w' ∧ ∀ k, QF b A M k → w.heap.size ≤ k

theorem qcopy_done {w w1 w2 : World} {l : List Itm} {added : Int} {A1 : Option Addr} {c1 M1 : Nat} (hn : (l.map Itm.n).Nodup) (hok : ∀ x ∈ l, (Lit.int .i64 x.n).wf = true)
    (ho : w2.ownsRow w.heap.size 97 3 (.slice A1 l.length c1) l.length (l.flatMap Itm.vals)) (hm : IMap Try.prog 3 w2 M1 (ixm l) l.length) (hM : w.heap.size ≤ M1) (hg : Grew w w2)
    (hX : w2.alloc (.cells #[.slice A1 l.length c1, .map (some M1), .int .i64 added] 80) = w1) : QCopied w w1 l added (.returned (.pointer (some ⟨w2.heap.size, 0, none⟩))) := by
  have hg1 : Grew w2 w1 := hX ▸ (Chg.refl _ _).alloc _
  refine ⟨w2.heap.size, A1, c1, M1, rfl, ⟨⟨hX ▸ Blk.new _ _ _, own_base (own_grew ho hg1) (Nat.zero_le _), hm.grew hg1⟩, hn, hok⟩, Grew.trans hg hg1, fun k hk => ?_⟩
  rcases hk with rfl | rfl | ⟨a, rfl, rfl⟩
  · exact hg.size
  · exact hM
  · obtain ⟨g, rfl, h⟩ := own_new ho
    exact h

set_option maxHeartbeats 1600000 in
theorem qcopy_any (b : Nat) (l : List Itm) (A : Option Addr) (c M : Nat) (added : Int) (w : World) (h : Q w b l A c M added) (hl : l.length ≤ 1000000) :
    Calls Try.prog 41 #[.pointer (some ⟨b, 0, none⟩)] w fun e w' => QCopied w w' l added e := by
  obtain ⟨c0, f0, s0⟩ := h.isIn.blk.facts
  have H := Lib.hid h
  have c00 := c0 0
  have c01 := c0 1
  have c02 := c0 2
  simp only [List.getElem?_toArray, List.getElem?_cons_zero, List.getElem?_cons_succ] at c00 c01 c02
  clear h c0 f0
  go_enter Try.func41, Try.ntmps41
  go_wp2_with fail
  go_region_held3 (fun w' => ∀ (B i : Nat), B < w.heap.size → w'.cell? ⟨B, i, none⟩ = w.cell? ⟨B, i, none⟩)
    ((intro B i hB1; first | rfl | exact HD.out.cell (p := ⟨B, i, none⟩) hB1 id | exact (HD.out.alloc _).cell (p := ⟨B, i, none⟩) hB1 id | exact HA.out.2.cell (p := ⟨B, i, none⟩) hB1 id | exact HB.out.2.2.cell (p := ⟨B, i, none⟩) hB1 id))
    (first
      | (go_at_call 54; first
        | (refine (qclone_any l A c _ (H.out.grew ((Chg.refl _ _).drew)).isIn.own hl).mono ?_; rintro e w4 ⟨A4, c4, rfl, ho4, hg4⟩; have HA := Lib.hid (And.intro ho4 (show Grew w w4 from Grew.trans ((Chg.refl NoF w).drew) hg4)); clear ho4 hg4)
        | (refine (qclone_any l A c _ (H.out.grew HB.out.2.2).isIn.own hl).mono ?_; rintro e w4 ⟨A4, c4, rfl, ho4, hg4⟩; have HD := Lib.hid (show Grew w w4 from Grew.trans HB.out.2.2 hg4); have HE := Lib.hid (And.intro (own_base ho4 HB.out.2.2.size) (And.intro (HB.out.1.grew hg4) HB.out.2.1)); clear ho4 hg4))
      | (go_at_call 42; first
        | (refine (mclone_any M _ _ _ (H.out.grew ((Chg.refl _ _).drew)).isIn.mp).mono ?_; rintro e w5 ⟨rfl, hm5, hg5⟩; have HB := Lib.hid (And.intro hm5 (And.intro (show w.heap.size ≤ w.heap.size from Nat.le_refl _) (show Grew w w5 from Grew.trans ((Chg.refl NoF w).drew) hg5))); clear hm5 hg5)
        | (refine (mclone_any M _ _ _ (H.out.grew HA.out.2).isIn.mp).mono ?_; rintro e w5 ⟨rfl, hm5, hg5⟩; have HD := Lib.hid (show Grew w w5 from Grew.trans HA.out.2 hg5); have HE := Lib.hid (And.intro (own_grew HA.out.1 hg5) (And.intro hm5 HA.out.2.size)); clear hm5 hg5)))
  all_goals
    go_wp2
    go_ret
    exact qcopy_done H.out.nd H.out.ok HE.out.1 HE.out.2.1 HE.out.2.2 HD.out rfl

end Go.Proofs.Ytjpkpckgkhbfpaa
