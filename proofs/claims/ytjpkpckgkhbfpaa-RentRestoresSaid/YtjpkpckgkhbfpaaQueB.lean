/- The queue: put, swap. -/
import Derived.Test.YtjpkpckgkhbfpaaQueA
namespace Go.Proofs.Ytjpkpckgkhbfpaa
open Go.RowKit Go.Maps
open Go.ChangeMaps (setBlock)

theorem own_cell {w : World} {base g c n s j : Nat} {e : TypeId} {xs : List Value} (h : w.ownsRow base e s (.slice (some ⟨g, 0, none⟩) n c) n xs) (u : Value) :
    (w.setCell ⟨g, j, none⟩ u).ownsRow base e s (.slice (some ⟨g, 0, none⟩) n c) n (xs.set j u) := by
  obtain ⟨cur, hb, hgc, hnc, hcm, hcs, htake, hxl⟩ := own_row h
  refine ⟨by rw [List.length_set]; exact h.1, .inr ⟨g, c, cur.setIfInBounds j u, rfl, hb, ?_, hnc, hcm, by simpa using hcs, ?_⟩⟩
  · simp [World.setCell, Array.getElem?_modify, hgc]
  · rw [← htake]
    simp [List.take_set]

/-- A world in which an item lies at a place. -/
def itemAt (W : World) (g i : Nat) (x : Itm) : World := ((W.setCell ⟨g, i * 3, none⟩ (.int .i64 x.n)).setCell ⟨g, i * 3 + 1, none⟩ (.int .i64 x.due)).setCell ⟨g, i * 3 + 2, none⟩ (.int .i64 x.v)

theorem itemAt_chg (W : World) (g i : Nat) (x : Itm) : Chg (fun j => j = g) W (itemAt W g i x) :=
  (((Chg.refl (fun j => j = g) W).setCell (p := ⟨g, i * 3, none⟩) (fun _ => rfl) _).setCell (p := ⟨g, i * 3 + 1, none⟩) (fun _ => rfl) _).setCell (p := ⟨g, i * 3 + 2, none⟩) (fun _ => rfl) _

theorem own_item {W : World} {base g c i : Nat} {e : TypeId} {l : List Itm} (x : Itm) (h : W.ownsRow base e 3 (.slice (some ⟨g, 0, none⟩) l.length c) l.length (l.flatMap Itm.vals)) (hi : i < l.length) :
    (itemAt W g i x).ownsRow base e 3 (.slice (some ⟨g, 0, none⟩) (l.set i x).length c) (l.set i x).length ((l.set i x).flatMap Itm.vals) := by
  obtain ⟨y, hy⟩ : ∃ y, l[i]? = some y := ⟨_, List.getElem?_eq_getElem hi⟩
  have h1 := own_cell (j := i * 3) h (.int .i64 x.n)
  rw [Itm.set_n l x.n i y hy] at h1
  have h2 := own_cell (j := i * 3 + 1) h1 (.int .i64 x.due)
  rw [Itm.set_due _ x.due i { y with n := x.n } (by rw [List.getElem?_set_self hi])] at h2
  have h3 := own_cell (j := i * 3 + 2) h2 (.int .i64 x.v)
  rw [Itm.set_v _ x.v i { y with n := x.n, due := x.due } (by rw [List.getElem?_set_self (by simpa using hi)]), List.set_set, List.set_set] at h3
  rw [List.length_set]
  exact h3

theorem map_ne {w : World} {M g s : Nat} {t : TypeId} {cs : Array Value} {m : Int → Option Value} {P : Program} {k : TypeId} (h : IMap P k w M m s) (hb : Blk w g t cs) : M ≠ g := by
  rintro rfl
  obtain ⟨D, ⟨es, clock, he, -⟩, -⟩ := h
  unfold Blk at hb
  rw [he] at hb
  cases hb

theorem setBlock_chg (w : World) (M : Nat) (o : Obj) : Chg (fun j => j = M) w (setBlock w M o) :=
  ⟨rfl, rfl, rfl, by simp [setBlock], fun i _ hi => by simp [setBlock, Array.getElem?_setIfInBounds, Ne.symm hi]⟩

set_option maxHeartbeats 1600000 in
theorem put_any (b i : Nat) (x : Itm) (l : List Itm) (A : Option Addr) (c M : Nat) (added : Int) (m : Int → Option Value) (s : Nat) (w : World) (h : QIn w b l A c M added m s) (hi : i < l.length) (hs : s < maxLen) (hx : (Lit.int .i64 x.n).wf = true) :
    Calls Try.prog 57 #[.pointer (some ⟨b, 0, none⟩), .int .i64 i, (.agg #[.int .i64 x.n, .int .i64 x.due, .int .i64 x.v])] w fun e w' => e = .returned (.tuple #[]) ∧ QIn w' b (l.set i x) A c M added (upd m x.n (some (.int .i64 i))) (if (m x.n).isSome then s else s + 1) ∧ Chg (QF b A M) w w' := by
  obtain ⟨g, rfl, hg⟩ := own_block h.own (by omega)
  obtain ⟨W0, hW0⟩ : ∃ W0, w.alloc (.cells #[.int .i64 x.n, .int .i64 x.due, .int .i64 x.v] 97) = W0 := ⟨_, rfl⟩
  have hG0 : Grew w W0 := hW0 ▸ (Chg.refl _ _).alloc _
  have h0 := h.grew hG0
  have hB0 : Blk W0 w.heap.size 97 #[.int .i64 x.n, .int .i64 x.due, .int .i64 x.v] := hW0 ▸ Blk.new w _ _
  have hbg : b ≠ g := fun e => own_blk_ne h.own h.blk (by decide) (by simp [Value.ownBlock, e])
  have hxg : w.heap.size ≠ g := by omega
  obtain ⟨cur, hcb, hgc, hnc, hcm, hcs, htake, hxl⟩ := own_row h0.own
  have hMg : M ≠ g := map_ne h0.mp (g := g) (show Blk W0 g _ cur from hgc)
  have hMb : M ≠ b := map_ne h0.mp h0.blk
  have hMx : M ≠ w.heap.size := map_ne h0.mp hB0
  obtain ⟨W1, hW1⟩ : ∃ W1, (itemAt W0 g i x).drew = W1 := ⟨_, rfl⟩
  have hC1 : Chg (fun j => j = g) W0 W1 := hW1 ▸ (itemAt_chg W0 g i x).drew
  obtain ⟨v0, st, o1, hr1, hr2⟩ := (h0.mp.chg hC1 hMg).entry kInt Try.underlying3 Try.underlying62 hs (fun u => zInt u) hx
  obtain ⟨o2, hr3, hm3⟩ := hr2 (setBlock W1 M o1) (.int .i64 i) (by have := (h0.mp.chg hC1 hMg).lt; simp [setBlock, this])
  obtain ⟨c0, f0, s0⟩ := h0.blk.facts
  obtain ⟨c1, f1, s1⟩ := hB0.facts
  obtain ⟨c2, f2, s2⟩ := (show Blk W0 g 97 cur from hgc).facts
  obtain ⟨c3, f3, s3⟩ := (h0.blk.chg hC1 hbg).facts
  obtain ⟨c4, f4, s4⟩ := (hB0.chg hC1 hxg).facts
  obtain ⟨y, hy⟩ : ∃ y, l[i]? = some y := ⟨_, List.getElem?_eq_getElem hi⟩
  obtain ⟨g', off, hA, hgb, d0, d1, d2⟩ := (Sl.of_own h0.own).atItm hy
  cases hA
  simp only [Nat.zero_add] at d0 d1 d2
  have HW0 := Lib.hid hW0
  have HW1 := Lib.hid hW1
  unfold itemAt at hW1
  simp only [goInt] at hr1 hr3
  rw [← hW1] at hr1 hr3 c3 f3 s3 c4 f4 s4
  have hil : (i : Int) < (l.length : Int) := by omega
  have hi0 : (0 : Int) ≤ (i : Int) := Int.natCast_nonneg _
  have HK := Lib.hid (And.intro h (And.intro h0 (And.intro hm3 hC1)))
  clear hW0 hW1 h h0 hm3 hC1 hr2 hgc htake hcs hcb hnc hcm hxl hy c2
  go_enter Try.func57, Try.ntmps57
  go_wp2_with (rw [HW0.out])
  go_region
  refine bodyPost_end (results_none rfl _ _ _) rfl ?_
  have e1 := HW1.out
  unfold itemAt at e1
  rw [e1]
  obtain ⟨h, h0, hm3, hC1⟩ := HK.out
  have hC2 : Chg (fun j => j = M) W1 (setBlock (setBlock W1 M o1) M o2) := Chg.trans (setBlock_chg W1 M o1) (setBlock_chg _ M o2) fun _ _ e => e
  have hO : (setBlock (setBlock W1 M o1) M o2).ownsRow 0 97 3 (.slice (some ⟨g, 0, none⟩) (l.set i x).length c) (l.set i x).length ((l.set i x).flatMap Itm.vals) := by
    refine own_chg (F := fun j => j = M) ?_ hC2 (fun g' hg' e => hMg (by simp [Value.ownBlock] at hg'; omega))
    rw [← HW1.out]
    exact own_chg (F := NoF) (own_item x h0.own hi) ((Chg.refl _ _).drew) (fun _ _ => id)
  refine ⟨rfl, ⟨?_, hO, hm3⟩, ?_⟩
  · rw [List.length_set]
    exact (h0.blk.chg hC1 hbg).chg hC2 (Ne.symm hMb)
  · refine Chg.trans (F := QF b (some ⟨g, 0, none⟩) M) (Chg.trans (HW0.out ▸ (Chg.refl _ _).alloc _) hC1 fun j _ e => .inr (.inr ⟨_, rfl, e⟩)) hC2 fun j _ e => .inr (.inl e)

end Go.Proofs.Ytjpkpckgkhbfpaa
