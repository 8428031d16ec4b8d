/- The auctions: the list copied, an auction closed. -/
import Derived.Test.YtbmogbbenfpmiaaBidK
namespace Go.Proofs.Ytbmogbbenfpmiaa
open Go.RowKit

set_option maxHeartbeats 800000 in
theorem clone_any (l : List Auc) (A : Option Addr) (c : Nat) (w : World) (h : w.ownsRow 0 32 7 (.slice A l.length c) l.length (l.flatMap Auc.vals)) (hn : l.length ≤ 1000000) :
    Calls Try.prog 36 #[.slice A l.length c] w fun e w' => OwnOut w w' 32 7 l.length (l.flatMap Auc.vals) (fun A c => .slice A l.length c) e := by
  obtain ⟨i0, hi0, hz0, hz1, hz2⟩ := info_parts aucInfo
  rcases A with _ | a
  · obtain ⟨hl0, rfl⟩ := own_none h
    obtain rfl : l = [] := List.eq_nil_of_length_eq_zero hl0
    have hsl := fun (w : World) => Lib.run_eql_slice_nil (P := Try.prog) w 56 32 none 0 0 0 0 Try.underlying56
    go_enter Try.func36, Try.ntmps36
    go_wp2
    go_ret
    exact OwnOut.mk none 0 rfl (World.ownsRow_nil _ _ _ _) (Chg.refl _ _)
  · obtain ⟨g, rfl, hg⟩ := own_some h
    have hsl := fun (w : World) => Lib.run_eql_slice_nil (P := Try.prog) w 56 32 (some ⟨g, 0, none⟩) l.length c 0 0 Try.underlying56
    have H := Lib.hid h
    clear h
    go_enter Try.func36, Try.ntmps36
    go_wp2_with (at_builtin; refine wpList_append_own _ rfl _ _ _ rfl w.heap.size 32 i0 _ 7 56 Try.underlying56 hi0 hz0 hz1 hz2 rfl (by omega) (.slice (some ⟨w.heap.size, 0, none⟩) 0 0) 0 [] rfl (World.ownsRow_lit w #[] 0 (Nat.le_refl _) (by simp [maxLen]) (by simp)) ⟨g, 0, none⟩ l.length c (l.flatMap Auc.vals) rfl (Auc.vals_len l) ((H.out.alloc _).cells (g := g) rfl) (Auc.one_cell l) (by simp only [maxLen]; omega) (by omega) (by simp) ?_; intro v1 w1 hown1 hgrow hnil; have HO := Lib.hid hown1; have HG := Lib.hid hgrow; clear hown1 hgrow hnil)
    go_ret
    obtain ⟨A', c', rfl, -⟩ := own_shape HO.out
    refine OwnOut.mk A' c' ?_ ?_ ?_
    · have := HO.out; simp
    · simpa using HO.out
    · exact ((Chg.refl NoF w).alloc _).grown HG.out (fun k hk hlt => by simp [Value.ownBlock] at hk; omega)

set_option maxHeartbeats 400000 in
theorem rows_any (b : Nat) (nx : Int) (l : List Auc) (A : Option Addr) (c : Nat) (w : World) (h : BidsIn w b nx l A c) (hl : l.length ≤ 1000000) :
    Calls Try.prog 31 #[.pointer (some ⟨b, 0, none⟩)] w fun e w' => OwnOut w w' 32 7 l.length (l.flatMap Auc.vals) (fun A c => .slice A l.length c) e := by
  obtain ⟨c2, f2, s2⟩ := h.blk.facts
  have H := Lib.hid h
  clear h
  go_enter Try.func31, Try.ntmps31
  go_wp2_with (go_at_call 36; refine (clone_any l A c _ H.out.own hl).mono ?_; rintro e w1 ⟨A1, c1, rfl, ho, hg⟩)
  go_ret
  exact OwnOut.mk A1 c1 rfl ho hg

set_option maxHeartbeats 400000 in
theorem close_none (b : Nat) (nx id : Int) (l : List Auc) (A : Option Addr) (c : Nat) (w : World) (h : BidsIn w b nx l A c) (hl : l.length ≤ 1000000) (hf : fidx (fun x : Auc => x.id == id) l = -1) :
    Calls Try.prog 30 #[.pointer (some ⟨b, 0, none⟩), .int .i64 id] w fun e w' => e = .returned (.tuple #[(.agg #[.int .i64 0, .int .i64 0, .int .i64 0, .int .i64 0, .int .i64 0, .int .i64 0, .int .i64 0]), .int .i64 14]) ∧ Grew w w' := by
  have hg0 := (Chg.refl NoF w).alloc (.cells #[.int .i64 0, .int .i64 0, .int .i64 0, .int .i64 0, .int .i64 0, .int .i64 0, .int .i64 0] 32)
  have H0 := Lib.hid (And.intro hg0 (Blk.new w 32 #[.int .i64 0, .int .i64 0, .int .i64 0, .int .i64 0, .int .i64 0, .int .i64 0, .int .i64 0]))
  have H := Lib.hid h
  have Hf := Lib.hid hf
  clear hg0 hf h
  go_enter Try.func30, Try.ntmps30
  go_wp2_with (go_at_call 14; refine (get_none b nx id l A c _ (H.out.grew H0.out.1) hl Hf.out).mono ?_; rintro e w1 ⟨rfl, hg1⟩; have HB := Lib.hid (Grew.trans H0.out.1 hg1); obtain ⟨c1, f1, s1⟩ := (H0.out.2.grew hg1).facts; clear H0 hg1)
  refine bodyPost_ret (v := .tuple #[(.agg #[.int .i64 0, .int .i64 0, .int .i64 0, .int .i64 0, .int .i64 0, .int .i64 0, .int .i64 0]), .int .i64 14]) (by simp [results, Try.results30, go_sem, c1, s1]) rfl ⟨rfl, ?_⟩
  have hsz := HB.out.size
  (repeat (first | (with_reducible exact HB.out) | (with_reducible refine Chg.alloc ?_ _) | (with_reducible refine Chg.drew ?_) | (with_reducible refine Chg.drewN ?_ _) | ((with_reducible refine Chg.setCell ?_ ?hp _); (case hp => (intro h; exfalso; simp at h; try omega)))))

set_option maxHeartbeats 800000 in
theorem close_some (b k : Nat) (x : Auc) (nx id : Int) (l : List Auc) (A : Option Addr) (c : Nat) (w : World) (h : BidsIn w b nx l A c) (hl : l.length ≤ 1000000) (hf : fidx (fun x : Auc => x.id == id) l = k) (hx : l[k]? = some x) :
    Calls Try.prog 30 #[.pointer (some ⟨b, 0, none⟩), .int .i64 id] w fun e w' => e = .returned (.tuple #[(.agg #[.int .i64 x.id, .int .i64 x.deed, .int .i64 x.seller, .int .i64 x.least, .int .i64 x.best, .int .i64 x.bidder, .int .i64 x.ends]), .int .i64 0]) ∧ BidsIn w' b nx (l.eraseIdx k) A c ∧ Chg (BF b A) w w' := by
  have hg0 := (Chg.refl NoF w).alloc (.cells #[.int .i64 0, .int .i64 0, .int .i64 0, .int .i64 0, .int .i64 0, .int .i64 0, .int .i64 0] 32)
  have H0 := Lib.hid (And.intro hg0 (Blk.new w 32 #[.int .i64 0, .int .i64 0, .int .i64 0, .int .i64 0, .int .i64 0, .int .i64 0, .int .i64 0]))
  have H := Lib.hid h
  have Hf := Lib.hid hf
  have Hx := Lib.hid hx
  have hk : k < l.length := (List.getElem?_eq_some_iff.1 hx).1
  have hbw := h.blk.lt
  obtain ⟨g, rfl, hg⟩ := own_block h.own (by omega)
  have hgb : g ≠ b := fun e => own_blk_ne h.own h.blk (by decide) (by simp [Value.ownBlock, e])
  clear hg0 hf h hx
  go_enter Try.func30, Try.ntmps30
  go_wp2_with (first
    | (go_at_call 14; refine (get_some b k x nx id l _ c _ (H.out.grew H0.out.1) hl Hf.out Hx.out).mono ?_; rintro e w1 ⟨rfl, hg1⟩; have HB := Lib.hid (Grew.trans H0.out.1 hg1); have HL := Lib.hid (H0.out.2.grew hg1); clear H0 hg1)
    | (go_at_call 27; refine (at_any b nx id l _ c _ (H.out.grew (HB.out.alloc _)) hl).mono ?_; rintro e w2 ⟨rfl, hg2⟩; rw [Hf.out]; have HC := Lib.hid (Grew.trans (HB.out.alloc _) hg2); have HL2 := Lib.hid ((HL.out.alloc _).grew hg2); have HA2 := Lib.hid ((Blk.new _ 32 #[.int .i64 x.id, .int .i64 x.deed, .int .i64 x.seller, .int .i64 x.least, .int .i64 x.best, .int .i64 x.bidder, .int .i64 x.ends]).grew hg2); clear hg2; obtain ⟨c5, f5, s5⟩ := (H.out.grew HC.out).blk.facts)
    | (go_at_call 45; refine (delete_any l k c g _ (H.out.grew HC.out).own hk hl).mono ?_; rintro e w3 ⟨rfl, ho3, hc3⟩; have HO3 := Lib.hid ho3; have HC3 := Lib.hid hc3; have HB3 := Lib.hid ((H.out.grew HC.out).blk.chg hc3 (Ne.symm hgb)); clear c5 f5 s5; obtain ⟨c6, f6, s6⟩ := HB3.out.facts; obtain ⟨c7, f7, s7⟩ := (HL2.out.chg hc3 (by omega)).facts; have hw1 := HL.out.lt; obtain ⟨c8, f8, s8⟩ := (HA2.out.chg hc3 (by omega)).facts; clear ho3 hc3))
  refine bodyPost_ret (v := .tuple #[(.agg #[.int .i64 x.id, .int .i64 x.deed, .int .i64 x.seller, .int .i64 x.least, .int .i64 x.best, .int .i64 x.bidder, .int .i64 x.ends]), .int .i64 0]) (by simp [results, Try.results30, go_sem, c7, s7]) rfl ⟨rfl, ?_⟩
  have hC : Chg (BF b (some ⟨g, 0, none⟩)) w w3 := HC.out.chg.trans HC3.out fun i _ hi => .inr ⟨_, rfl, hi⟩
  refine ⟨⟨?_, ?_⟩, ?_⟩
  · refine Blk.chg (F := fun j => j = w.heap.size) (w := w3.setCell ⟨b, 0, none⟩ (.slice (some ⟨g, 0, none⟩) (l.eraseIdx k).length c)) ?_ ?_ (by omega)
    · have := HB3.out.put 0 (.slice (some ⟨g, 0, none⟩) (l.eraseIdx k).length c)
      simpa using this
    · (repeat (first | (with_reducible exact Chg.refl _ _) | (with_reducible refine Chg.alloc ?_ _) | (with_reducible refine Chg.drew ?_) | (with_reducible refine Chg.drewN ?_ _) | ((with_reducible refine Chg.setCell ?_ ?hp _); (case hp => exact fun _ => rfl))))
  · refine own_chg (F := fun j => j = w.heap.size ∨ j = b) HO3.out ?_ (fun g' hg' => by simp [Value.ownBlock] at hg'; omega)
    (repeat (first | (with_reducible exact Chg.refl _ _) | (with_reducible refine Chg.alloc ?_ _) | (with_reducible refine Chg.drew ?_) | (with_reducible refine Chg.drewN ?_ _) | ((with_reducible refine Chg.setCell ?_ ?hp _); (case hp => (intro h; simp)))))
  · (repeat (first | (with_reducible exact hC) | (with_reducible refine Chg.alloc ?_ _) | (with_reducible refine Chg.drew ?_) | (with_reducible refine Chg.drewN ?_ _) | ((with_reducible refine Chg.setCell ?_ ?hp _); (case hp => (intro h; first | exact .inl rfl | (exfalso; simp at h))))))

end Go.Proofs.Ytbmogbbenfpmiaa
