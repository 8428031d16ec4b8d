/- The pool: one that is a call's own; the fixed answer. -/
import Derived.Test.YtenmilemdkhijaaDoorPoolG
namespace Go.Proofs.YtenmilemdkhijaaDoor
open Go.RowKit

theorem tab_chg {F : Nat → Prop} {w w' : World} (h : TabAt 0 tab w) (hc : Chg F w w') (hF : ¬ F 0) : TabAt 0 tab w' := by
  intro j hj
  have h1 := h j hj
  have hlt : 0 < w.heap.size := World.block_lt_of_cell? w _ h1
  exact (hc.cell (p := ⟨0, j, none⟩) hlt hF).trans h1
theorem tab_pos {w : World} (h : TabAt 0 tab w) : 0 < w.heap.size := World.block_lt_of_cell? w _ (h 0 (by decide))

/-- A pool wholly in blocks that are new since w. -/
structure PM (w W : World) (b : Nat) (x : List Bool) (A : Option Addr) (c : Nat) : Prop where
  p : PIn W b x A c
  grew : Grew w W
  new : ∀ j, PF b A j → w.heap.size ≤ j
  t : TabAt 0 tab w

section
variable {w W W' : World} {b c : Nat} {x x' : List Bool} {A : Option Addr}
theorem PM.tab (h : PM w W b x A c) : TabAt 0 tab W := tab_chg h.t h.grew id
theorem PM.on (h : PM w W b x A c) (hg : Grew W W') : PM w W' b x A c := ⟨h.p.grew hg, Grew.trans h.grew hg, h.new, h.t⟩
theorem PM.to (h : PM w W b x A c) (hp : PIn W' b x' A c) (hc : Chg (PF b A) W W') : PM w W' b x' A c :=
  ⟨hp, Chg.trans h.grew hc fun i hi hf => absurd (h.new i hf) (by omega), h.new, h.t⟩
/-- What is none of the pool's blocks, and was there, has not changed. -/
theorem PM.row (h : PM w W b x A c) {xs : List Value} {e : TypeId} {base n : Nat} {v : Value} {s : Nat} (hr : W.ownsRow base e s v n xs) (hc : Chg (PF b A) W W') (hv : ∀ g, v.ownBlock = some g → ¬ PF b A g) : W'.ownsRow base e s v n xs := own_chg hr hc hv
end

theorem trn_len (x : List Bool) (i : Nat) : (trn x i).length = x.length := List.length_set

set_option maxRecDepth 100000 in
set_option maxHeartbeats 1600000 in
theorem pawake_any (w : World) (hT : TabAt 0 tab w) :
    Calls Tryd.prog 8 #[] w fun e w' => e = .returned (.bool true) ∧ Grew w w' := by
  have HT := Lib.hid hT
  clear hT
  have v1 := Lib.hid (show nxt (full 3) 0 = some 0 from by decide +kernel)
  have v2 := Lib.hid (show nxt (trn (full 3) 0) 0 = some 1 from by decide +kernel)
  have v3 := Lib.hid (show toL (trn (trn (full 3) 0) 1) 0 true = ([true, false, true], 0) from by decide +kernel)
  have v4 := Lib.hid (show toL [true, false, true] 0 true = ([true, false, true], 23) from by decide +kernel)
  have v5 := Lib.hid (show cnt [true, false, true] = 2 from by decide +kernel)
  have l1 : (full 3).length ≤ 65536 := by decide
  have l2 : (trn (full 3) 0).length ≤ 65536 := by decide
  have l3 : (trn (trn (full 3) 0) 1).length ≤ 65536 := by decide
  have l4 : [true, false, true].length ≤ 65536 := by decide
  have L := Lib.hid (And.intro l1 (And.intro l2 (And.intro l3 l4)))
  clear l1 l2 l3 l4
  go_enter Tryd.func8, Tryd.ntmps8
  go_wp2_with fail
  refine (pnew_any 3 w (by omega)).mono ?_
  rintro e w1 ⟨A, c, rfl, hp1, hg1, hn1⟩
  have H1 := Lib.hid (show PM w w1 w.heap.size (full 3) A c from ⟨hp1, hg1, hn1, HT.out⟩)
  clear hp1 hg1 hn1
  go_wp2_with fail
  refine (ptake_some _ 0 _ A c _ H1.out.p L.out.1 H1.out.tab v1.out).mono ?_
  rintro e w2 ⟨rfl, hp2, hc2⟩
  have H2 := Lib.hid (H1.out.to hp2 hc2)
  clear hp2 hc2
  go_wp2_with fail
  refine (ptake_some _ 1 _ A c _ H2.out.p L.out.2.1 H2.out.tab v2.out).mono ?_
  rintro e w3 ⟨rfl, hp3, hc3⟩
  have H3 := Lib.hid (H2.out.to hp3 hc3)
  clear hp3 hc3
  go_wp2_with fail
  have h4 := pgive_any w.heap.size 0 _ A c _ H3.out.p L.out.2.2.1
  rw [v3.out] at h4
  refine h4.mono ?_
  rintro e w4 ⟨rfl, hp4, hc4⟩
  have H4 := Lib.hid (H3.out.to hp4 hc4)
  clear hp4 hc4 h4
  go_wp2_with fail
  have h5 := pgive_any w.heap.size 0 _ A c _ H4.out.p L.out.2.2.2
  rw [v4.out] at h5
  refine h5.mono ?_
  rintro e w5 ⟨rfl, hp5, hc5⟩
  have H5 := Lib.hid (H4.out.to hp5 hc5)
  clear hp5 hc5 h5
  go_wp2_with fail
  refine (phas_yes w.heap.size 0 [true, false, true] A c _ H5.out.p (by decide) L.out.2.2.2).mono ?_
  rintro e w6 ⟨rfl, rfl⟩
  simp only [List.getD_cons_zero]
  go_wp2_with fail
  refine (pfree_any w.heap.size [true, false, true] A c _ H5.out.p L.out.2.2.2).mono ?_
  rintro e w7 ⟨rfl, rfl⟩
  rw [v5.out]
  go_wp2_with fail
  go_ret
  exact ⟨rfl, H5.out.grew⟩

end Go.Proofs.YtenmilemdkhijaaDoor
