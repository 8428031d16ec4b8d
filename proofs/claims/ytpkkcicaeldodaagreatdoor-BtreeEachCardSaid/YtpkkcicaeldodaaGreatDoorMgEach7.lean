/- BtreeEach returns true, for every input. It has no condition; the table of math/bits that its row lists is tied to the program. -/
import Derived.Test.YtpkkcicaeldodaaGreatDoorMgEach6
import Derived.Test.YtpkkcicaeldodaaGreatDoorRows
import Derived.Test.YtpkkcicaeldodaaGreatDoorTie
import Derived.Test.YtpkkcicaeldodaaGreatDoorCards
import Derived.Lib.LaidTab
import Derived.LaidLaws
import Derived.LaidHandle
import Derived.SevenTiedAt
import Derived.ProofKit
import Derived.OpenShut
import Derived.ShutString
import Derived.ChangeOld
import Derived.Deep.Slices
import Derived.Deep.Fields
set_option linter.unusedSimpArgs false
set_option linter.unusedVariables false

namespace Go.Proofs.YtpkkcicaeldodaaGreatDoor
open Go.RowKit Go.Maps
attribute [local go_sem] Oper.semAt_some

structure EnJ (fr : Int) (Wr W : World) (t p root : Nat) (F : Nat → Prop) (x : Rp) (bt bf nb L : Nat) (k : Nat) (r : Loop) (st : LoopState) (pe : Option Code) : Prop where
 b0 : BT W t p root F x
 b1 : Blk W bt 24 #[.pointer (some ⟨t, 0, none⟩)]
 b2 : Blk W bf 3 #[.int .i64 fr]
 chg : Chg (fun j => F j ∨ j = nb ∨ j = L) Wr W
 cnt : Blk W nb 3 #[.int .i64 k]
 rc : Rec W L (Loop.at_ r st pe)
section
variable {fr : Int} {Wr W W' : World} {t p root : Nat} {F : Nat → Prop} {x : Rp} {bt bf nb L k : Nat} {r : Loop} {st st' : LoopState} {pe pe' : Option Code}
theorem EnJ.kept (h : EnJ fr Wr W t p root F x bt bf nb L k r st pe) (a : LnA Wr t F bt bf nb L) (hk : Kept L W W') (hR : Rec W' L (Loop.at_ r st' pe')) : EnJ fr Wr W' t p root F x bt bf nb L k r st' pe' := by
 obtain ⟨a1, a2, a3, a4, a5, a6⟩ := a.l
 exact ⟨h.b0.chg hk.chg (fun j hj e => a1 (e ▸ hj)) (fun e => a6 e.symm) (fun e => a2 e.symm), h.b1.kept hk, h.b2.kept hk, Chg.trans h.chg hk.chg fun i _ e => .inr (.inr e), h.cnt.kept hk, hR⟩
theorem EnJ.set (h : EnJ fr Wr W t p root F x bt bf nb L k r st pe) (a : LnA Wr t F bt bf nb L) {k' : Nat} (hW : W.setCell ⟨nb, 0, none⟩ (.int .i64 k') = W') : EnJ fr Wr W' t p root F x bt bf nb L k' r st pe := by
 obtain ⟨a1, a2, a3, a4, a5⟩ := a.n
 have hc : Chg (fun j => j = nb) W W' := hW ▸ (Chg.refl (fun j => j = nb) W).setCell (p := ⟨nb, 0, none⟩) (fun _ => rfl) _
 refine ⟨h.b0.chg hc (fun j hj e => a1 (e ▸ hj)) (fun e => a5 e.symm) (fun e => a2 e.symm), h.b1.chg hc (fun e => a3 e.symm), h.b2.chg hc (fun e => a4 e.symm), Chg.trans h.chg hc fun i _ e => .inr (.inl e), ?_, h.rc.chg hc a.l.2.2.2.2.1⟩
 have := h.cnt.put 0 (.int .i64 k')
 rw [hW] at this
 simpa using this
theorem EnJ.far (h : EnJ fr Wr W t p root F x bt bf nb L k r st pe) (a : LnA Wr t F bt bf nb L) (hc : Chg (fun j => F j ∨ Wr.heap.size ≤ j) W W') (hb : BT W' t p root F x) : EnJ fr Wr W' t p root F x bt bf nb L k r st pe := by
 obtain ⟨l1, l2, l3, l4⟩ := a.lt
 refine ⟨hb, h.b1.chg hc (fun e => e.elim a.b.1 fun e => by omega), h.b2.chg hc (fun e => e.elim a.b.2 fun e => by omega), Chg.trans h.chg hc fun i hi e => e.elim .inl fun e => by omega, h.cnt.chg hc (fun e => e.elim a.n.1 fun e => by omega), h.rc.chg hc (fun e => e.elim a.l.1 fun e => by omega)⟩
end
theorem each_out (l : List Trop) (from_ stop : Int) (A : Option Addr) (c : Nat) (w : World) (hT : TabAt 0 tab w) (hl : 150 < l.length) (hln : l.length ≤ 9223372036854775807) :
  Calls Tryz.prog 4 #[.slice A l.length c, .int .i64 from_, .int .i64 stop] w fun e w' => e = .returned (.bool true) ∧ Grew w w' := by
 obtain ⟨W3, hW3⟩ : ∃ W3, (w.alloc (.cells #[.int .i64 stop] 3)).alloc (.cells #[.bool false] 4) = W3 := ⟨_, rfl⟩
 have hg3 : Grew w W3 := hW3 ▸ ((Chg.refl _ _).alloc _).alloc _
 have hbr : Blk W3 (w.heap.size + 1) 4 #[.bool false] := hW3 ▸ (by have := Blk.new (w.alloc (.cells #[.int .i64 stop] 3)) 4 #[.bool false]; simpa using this)
 have hfr := bfresh_any 400 64 W3 (tab_chg hT hg3 id) (by omega) (by omega) (by omega) (by omega) (by rw [opened400.1]; omega) (by rw [opened400.2.1]; omega)
 have H := Lib.hid (And.intro hfr (And.intro hT (And.intro hW3 (And.intro hg3 hbr))))
 have t0 : decide ((150 : Int) < (l.length : Int)) = true := decide_eq_true (by omega)
 have t0b : (150 : Int) < (l.length : Int) := by omega
 clear hfr hT hW3 hg3 hbr
 (refine calls_of_marks Tryz.func4 rfl ?_; simp only [Tryz.ntmps4, List.size_toArray, List.length_cons, List.length_nil, Nat.reduceAdd, Nat.reduceSub, Array.replicate_succ, Array.replicate_zero, List.push_toArray, List.append_toArray, List.nil_append, List.cons_append])
 go_wp2_with fail
 rw [H.out.2.2.1]
 refine H.out.1.mono ?_
 rintro e w1 ⟨t, p, d, r, F, rfl, hr, hb, hg, hF, ht⟩
 have haw := bawake_any w1 (tab_chg H.out.2.1 (Grew.trans H.out.2.2.2.1 hg) id)
 have H1 := Lib.hid (And.intro haw hg)
 clear haw hr hb hg hF ht
 go_wp2_with fail
 refine H1.out.1.mono ?_
 rintro e w2 ⟨rfl, hg2⟩
 have hg32 := Grew.trans H1.out.2 hg2
 obtain ⟨c2, f2, s2⟩ := (H.out.2.2.2.2.grew hg32).facts
 have H2 := Lib.hid (Grew.trans H.out.2.2.2.1 hg32)
 clear hg2 hg32
 go_wp2_with fail
 refine postM_ret0 (v := .bool true) (by simp [results, Tryz.results4, go_sem, c2, s2]) rfl ⟨rfl, ?_⟩
 (repeat (first | (with_reducible exact H2.out) | (with_reducible refine Chg.alloc ?_ _) | (with_reducible refine Chg.drew ?_) | (with_reducible refine Chg.drewN ?_ _) | ((with_reducible refine Chg.setCell ?_ ?hp _); (case hp => (intro h; exfalso; simp at h; try omega)))))
end Go.Proofs.YtpkkcicaeldodaaGreatDoor

namespace Go.Proofs.YtpkkcicaeldodaaGreatDoor
open Go.RowKit Go.Maps
attribute [local go_sem] Oper.semAt_some

set_option maxRecDepth 100000 in
set_option maxHeartbeats 6400000 in
theorem each_in (l : List Trop) (from_ stop : Int) (A0 : Option Addr) (c0' : Nat) (w : World) (hT : TabAt 0 tab w) (hl : l.length ≤ 150) (hs : Sl w 3 A0 l.length (l.flatMap Trop.vals)) (ok : ∀ o ∈ l, o.ok) :
  Calls Tryz.prog 4 #[.slice A0 l.length c0', .int .i64 from_, .int .i64 stop] w fun e w' => e = .returned (.bool true) ∧ Grew w w' := by
 obtain ⟨W3, hW3⟩ : ∃ W3, (w.alloc (.cells #[.int .i64 stop] 3)).alloc (.cells #[.bool false] 4) = W3 := ⟨_, rfl⟩
 have hg3 : Grew w W3 := hW3 ▸ ((Chg.refl _ _).alloc _).alloc _
 have hbs : Blk W3 w.heap.size 3 #[.int .i64 stop] := hW3 ▸ (Blk.new _ _ _).alloc _
 have hbr : Blk W3 (w.heap.size + 1) 4 #[.bool false] := hW3 ▸ (by have := Blk.new (w.alloc (.cells #[.int .i64 stop] 3)) 4 #[.bool false]; simpa using this)
 have hz3 : W3.heap.size = w.heap.size + 2 := by subst hW3; simp
 have hfr := bfresh_any 400 64 W3 (tab_chg hT hg3 id) (by omega) (by omega) (by omega) (by omega) (by rw [opened400.1]; omega) (by rw [opened400.2.1]; omega)
 have H := Lib.hid (And.intro hfr (And.intro hT (And.intro hW3 (And.intro hg3 (And.intro hbr (And.intro hbs (And.intro (hs.grew hg3) (And.intro ok hz3))))))))
 have t0 : decide ((150 : Int) < (l.length : Int)) = false := decide_eq_false (by omega)
 have t0b : (l.length : Int) ≤ 150 := by omega
 clear hfr hT hW3 hg3 hbr hbs hs ok hz3
 (refine calls_of_marks Tryz.func4 rfl ?_; simp only [Tryz.ntmps4, List.size_toArray, List.length_cons, List.length_nil, Nat.reduceAdd, Nat.reduceSub, Array.replicate_succ, Array.replicate_zero, List.push_toArray, List.append_toArray, List.nil_append, List.cons_append])
 go_wp2_with fail
 rw [H.out.2.2.1]
 refine H.out.1.mono ?_
 rintro e w1 ⟨t, p, d, r, F, rfl, hr, hb, hg, hF, ht⟩
 obtain ⟨W4, hW4⟩ : ∃ W, w1.alloc (.cells #[.slice none 0 0] 29) = W := ⟨_, rfl⟩
 have hg4 : Grew w1 W4 := hW4 ▸ (Chg.refl _ _).alloc _
 have hJ0 : EJ W3 W4 t p r w1.heap.size (Rp.opened 400 64) (stsL (l.take 0)) F (Rp.tree0 400 64 r) 0 [r] none 0 := by
  have hFl := hb.gp.lt
  have htl := hb.blk.lt
  have hz1 := hg.size
  have hpos := tab_pos hb.gp.tab
  exact ⟨hb.grew hg4, tree0_ts hr (by omega), tree0_like, Grew.trans hg hg4, fun j hj => ⟨hF j hj, fun e => by have := hFl j hj; omega⟩, hW4 ▸ Blk.new _ _ _, Sl.nil _ _ _, (fun a ha => (by cases ha)), ⟨by omega, by omega, by omega, ht⟩⟩
 have H1 := Lib.hid (And.intro hW4 (And.intro hJ0 hg.size))
 obtain ⟨bx, hbx⟩ : ∃ b, w1.heap.size = b := ⟨_, rfl⟩
 clear hr hb hg hF ht hW4 hg4 hJ0
 go_wp2_with fail
 rw [H1.out.1]
 rw [hbx] at H1
 clear hbx
 go_loopw [36] (fun i wr => ∃ (k : Nat) (F : Nat → Prop) (y : Rp) (D : Nat) (P : List Nat) (A : Option Addr) (c : Nat), k ≤ l.length ∧ i = .int .i64 k ∧ EJ W3 wr t p r bx (Rp.opened 400 64) (stsL (l.take k)) F y D P A c) (fun i _ => l.length - (intOf i).toNat)
 case atStart => exact ⟨0, F, _, 0, _, none, 0, Nat.zero_le _, rfl, H1.out.2.1⟩
 case round =>
  obtain ⟨k, F, y, D, P, A, c, hk, rfl, hJ⟩ := hrel
  by_cases hlt : k < l.length
  ·obtain ⟨o, ho⟩ : ∃ o, l[k]? = some o := ⟨_, List.getElem?_eq_getElem hlt⟩
   obtain ⟨g, off, rfl, hb, d0, d1, d2⟩ := (H.out.2.2.2.2.2.2.1.grew hJ.gr).atTrop ho
   have hgo : Grew wr (wr.alloc (.cells #[.int .i64 o.kind, .int .i64 o.key, .int .i64 o.val] 37)) := (Chg.refl _ wr).alloc _
   have B1 := Lib.hid (Blk.new wr 37 #[.int .i64 o.kind, .int .i64 o.key, .int .i64 o.val])
   have hJ1 := hJ.grew hgo
   have hll := stsL_len (l.take k)
   rw [List.length_take] at hll
   have hst := bstep_any t p r D 380 c (stsL (l.take k)) P F (Rp.opened 400 64) y A o _ hJ1.bt roomy400 hJ.like hJ.ts (by omega) (by omega) (H.out.2.2.2.2.2.2.2.1 o (List.mem_of_getElem? ho)) hJ1.sl (fun a ha => ⟨(hJ1.af a ha).1, (hJ1.af a ha).2.1⟩)
   have Hst := Lib.hid hst
   have HJ1 := Lib.hid hJ1
   have htk : stsL (l.take (k + 1)) = stL (stsL (l.take k)) o := by rw [List.take_add_one, ho]; exact stsL_snoc _ _
   have HTK := Lib.hid htk
   have hbl := hJ.xb.lt
   obtain ⟨e0, ef0, es0⟩ := hJ.xb.facts
   clear hst hJ1 ho hJ htk hll
   go_wp2_with (go_at_call 15; refine Hst.out.mono ?_; rintro e w2 hst2; obtain ⟨A', c', rfl, ⟨u, hu⟩, hfz, hnx⟩ := HJ1.out.step hst2; have H2 := Lib.hid hnx; clear hst2 hnx d0 d1 d2 e0 ef0 es0)
   obtain ⟨W5, hW5⟩ : ∃ W, w2.setCell ⟨bx, 0, none⟩ (.slice A' (stL (stsL (l.take k)) o).length c') = W := ⟨_, rfl⟩
   obtain ⟨F', y', D', P', hJ5⟩ := H2.out W5 hW5
   rw [hW5]
   exact ⟨⟨k + 1, F', y', D', P', A', c', by omega, by simp, by rw [HTK.out]; exact hJ5⟩, by simp [intOf]; omega⟩
  ·obtain rfl : k = l.length := by omega
   obtain ⟨wo, rfl⟩ : ∃ wo : World, wo = wr := ⟨_, rfl⟩
   rw [List.take_length] at hJ
   have hLl := stsL_len l
   obtain ⟨L, hL⟩ : ∃ L, stsL l = L := ⟨_, rfl⟩
   rw [hL] at hJ hLl
   obtain ⟨W6, hW6⟩ : ∃ W, wo.alloc (.cells #[.int .i64 0] 3) = W := ⟨_, rfl⟩
   have hg6 : Grew wo W6 := hW6 ▸ (Chg.refl _ _).alloc _
   have hz6 : W6.heap.size = wo.heap.size + 1 := by subst hW6; simp
   have hb6 : Blk W6 wo.heap.size 3 #[.int .i64 0] := hW6 ▸ Blk.new _ _ _
   have HJ6 := Lib.hid (And.intro (hJ.grew hg6) (And.intro hb6 (And.intro hz6 (And.intro hW6 (And.intro hJ.xb.lt (And.intro hJ.bt.gp.lt (And.intro hJ.af (And.intro hJ.gr.size hJ.bt.blk.lt))))))))
   obtain ⟨ba, hba⟩ : ∃ b, wo.heap.size = b := ⟨_, rfl⟩
   have hL150 : L.length ≤ 150 := by omega
   clear hJ hLl hL hW6 hg6 hz6 hb6 hlt hk
   go_wp2_with fail
   rw [HJ6.out.2.2.2.1]
   rw [hba] at HJ6
   have Hba := Lib.hid hba
   clear hba
   go_loopg [] L.length (fun q wr => ∃ n, q = L.length - n ∧ n ≤ L.length ∧ Blk wr ba 3 #[.int .i64 (n : Nat)] ∧ Chg (fun j => j = ba) W6 wr ∧ ∀ x ∈ L.take n, x.1 < from_)
   case atStart => exact ⟨0, rfl, Nat.zero_le _, HJ6.out.2.1, Chg.refl _ _, by simp⟩
   case round =>
    obtain ⟨n, rfl, hn, hbn, hc, hlo⟩ := hrel
    have hxb := HJ6.out.1.xb.chg hc (by have := HJ6.out.2.2.2.2.1; omega)
    have hsl := HJ6.out.1.sl.chg hc fun a ha e => by have := (HJ6.out.2.2.2.2.2.2.1 a ha).2.1; omega
    have hnI : (n : Int) ≤ (L.length : Int) := by omega
    obtain ⟨e0, ef0, es0⟩ := hbn.facts
    obtain ⟨x0', xf0, xs0⟩ := hxb.facts
    have HN := Lib.hid (And.intro hbn (And.intro hc (And.intro hlo (And.intro hxb hsl))))
    clear hbn hc hlo hxb hsl
    by_cases hcont : ∃ x, L[n]? = some x ∧ x.1 < from_
    ·obtain ⟨x, hx, hlt⟩ := hcont
     have hnl : n < L.length := (List.getElem?_eq_some_iff.1 hx).1
     obtain ⟨gx, ox, rfl, hgx, hx1, hx2⟩ := HN.out.2.2.2.2.atKv hx
     have hnlI : (n : Int) < (L.length : Int) := by omega
     have HXx := Lib.hid hx
     clear hx hgx
     go_wp2_with fail
     obtain ⟨W7, hW7⟩ : ∃ W, wr.setCell ⟨ba, 0, none⟩ (.int .i64 ((n : Int) + 1)) = W := ⟨_, rfl⟩
     go_roundg (L.length - (n + 1))
     case measure => omega
     case rel =>
      rw [hW7]
      refine ⟨n + 1, rfl, by omega, ?_, Chg.trans HN.out.2.1 (hW7 ▸ (Chg.refl (fun j => j = ba) wr).setCell (p := ⟨ba, 0, none⟩) (fun _ => rfl) _) fun _ _ e => e, fun y hy => ?_⟩
      ·subst hW7
       have := HN.out.1.put 0 (.int .i64 ((n : Int) + 1))
       simpa using this
      ·rw [List.take_add_one, HXx.out] at hy
       rcases List.mem_append.1 hy with e | e
       ·exact HN.out.2.2.1 y e
       ·simp at e; subst e; exact hlt
    ·have hge : ∀ x, L[n]? = some x → from_ ≤ x.1 := fun x hx => by
      by_cases e : x.1 < from_
      ·exact absurd ⟨x, hx, e⟩ hcont
      ·omega
     have hgl := geL_drop HJ6.out.1.ts.srt hn HN.out.2.2.1 hge
     have HG := Lib.hid hgl
     have hor : (∃ x gx ox, n < L.length ∧ L[n]? = some x ∧ from_ ≤ x.1 ∧ A = some ⟨gx, ox, none⟩ ∧ wr.cell? ⟨gx, ox + n * 2, none⟩ = some (.int .i64 x.1)) ∨ n = L.length := by
      by_cases e : n < L.length
      ·obtain ⟨x, hx⟩ : ∃ x, L[n]? = some x := ⟨_, List.getElem?_eq_getElem e⟩
       obtain ⟨gx, ox, hA, hgx, hx1, hx2⟩ := HN.out.2.2.2.2.atKv hx
       exact .inl ⟨x, gx, ox, e, hx, hge x hx, hA, hx1⟩
      ·exact .inr (by omega)
     clear hcont hge hgl
     rcases hor with ⟨x, gx, ox, h1, h2, h3, rfl, h4⟩ | h1
     all_goals
      have hnI2 : (L.length : Int) ≤ (n : Int) ∨ (n : Int) < (L.length : Int) := by omega
      go_wp2_with fail
      obtain ⟨W7, hW7⟩ : ∃ W, wr.alloc (.cells #[.int .i64 0] 3) = W := ⟨_, rfl⟩
      obtain ⟨W8, hW8⟩ : ∃ W, (W7.alloc (.cells #[.pointer (some ⟨t, 0, none⟩)] 24)).alloc (.cells #[.int .i64 from_] 3) = W := ⟨_, rfl⟩
      have hea := beach_any t from_ W7 W8 hW8
      have hg7 : Grew wr W7 := hW7 ▸ (Chg.refl _ _).alloc _
      have hg8 : Grew W7 W8 := hW8 ▸ ((Chg.refl _ _).alloc _).alloc _
      have hz7 : W7.heap.size = wr.heap.size + 1 := by subst hW7; simp
      have hz8 : W8.heap.size = W7.heap.size + 2 := by subst hW8; simp
      have hbn7 : Blk W7 wr.heap.size 3 #[.int .i64 0] := hW7 ▸ Blk.new _ _ _
      have hbt8 : Blk W8 W7.heap.size 24 #[.pointer (some ⟨t, 0, none⟩)] := hW8 ▸ (Blk.new _ _ _).alloc _
      have hbf8 : Blk W8 (W7.heap.size + 1) 3 #[.int .i64 from_] := hW8 ▸ (by have := Blk.new (W7.alloc (.cells #[.pointer (some ⟨t, 0, none⟩)] 24)) 3 #[.int .i64 from_]; simpa using this)
      have H8 := Lib.hid (And.intro hea (And.intro hW7 (And.intro (Grew.trans hg7 hg8) (And.intro hz7 (And.intro hz8 (And.intro (hbn7.grew hg8) (And.intro hbt8 hbf8)))))))
      obtain ⟨bn, hbn⟩ : ∃ b, wr.heap.size = b := ⟨_, rfl⟩
      rw [hbn] at H8
      have Hbn := Lib.hid hbn
      clear hea hW7 hW8 hg7 hg8 hz7 hz8 hbn7 hbt8 hbf8 e0 ef0 es0 x0' xf0 xs0 hnI hnI2
      rw [H8.out.2.1]
      refine H8.out.1.mono ?_
      rintro e w9 ⟨rfl, rfl⟩
      rw [hbn]
      clear hbn
      go_wp2_with fail
      have hD40 : D < 40 := by have := HJ6.out.1.ts.depth (by rw [HJ6.out.1.like.sz]; decide) (by omega); omega
      have hFl := HJ6.out.2.2.2.2.2.1
      refine wp_range (gf := 48) (lb := #[.pointer (some ⟨W7.heap.size, 0, none⟩), .pointer (some ⟨W7.heap.size + 1, 0, none⟩)]) rfl (enters_of Tryz.func48 (by kernel_rfl) rfl) ?_
      intro lr Wr D2 Lr hr hgr hDl hLl hD2' hR
      have hDL := Ne.symm (hR.ne_dfr hD2')
      have hsr := hgr.size
      have hL2 := hR.lt
      have hD2 := hD2'.lt
      have hzw := HN.out.2.1.size
      have hz78 : W7.heap.size = bn + 1 ∧ W8.heap.size = bn + 3 ∧ ba < bn ∧ bx < ba ∧ W3.heap.size ≤ ba ∧ w.heap.size + 2 = W3.heap.size ∧ W3.heap.size ≤ bx ∧ bn = wr.heap.size := by
       have h1 := H8.out.2.2.2.1; have h2 := H8.out.2.2.2.2.1; have h3 := HJ6.out.2.2.1; have h4 := HJ6.out.2.2.2.2.1; have h5 := HJ6.out.2.2.2.2.2.2.2.1; have h6 := H.out.2.2.2.2.2.2.2.2; have h7 := HJ6.out.1.tx; have h8 := Hbn.out
       refine ⟨by omega, by omega, by omega, by omega, by omega, by omega, by omega, by omega⟩
      have htl : t < ba := HJ6.out.2.2.2.2.2.2.2.2
      have hFa : ∀ j, F j → j < ba ∧ W3.heap.size ≤ j ∧ j ≠ bx := fun j hj => ⟨hFl j hj, (HJ6.out.1.fn j hj).1, (HJ6.out.1.fn j hj).2⟩
      have htx := HJ6.out.1.tx
      have hA : LnA Wr t F W7.heap.size (W7.heap.size + 1) bn Lr := ⟨⟨fun e => by have := (hFa _ e).1; omega, by omega, by omega, by omega, by omega, by omega⟩, ⟨fun e => by have := (hFa _ e).1; omega, by omega, by omega, by omega, by omega⟩, ⟨fun e => by have := (hFa _ e).1; omega, fun e => by have := (hFa _ e).1; omega⟩, ⟨by omega, by omega, by omega, by omega⟩⟩
      have hg68 : Chg (fun j => j = ba) W6 Wr := (HN.out.2.1.grew H8.out.2.2.1).grew hgr
      have hb6 := HJ6.out.1.bt.chg hg68 (fun j hj e => by have := (hFa j hj).1; omega) (by omega) (by omega)
      have hJ0 : EnJ from_ Wr Wr t p r F y W7.heap.size (W7.heap.size + 1) bn Lr 0 lr .ready none := ⟨hb6, H8.out.2.2.2.2.2.2.1.grew hgr, H8.out.2.2.2.2.2.2.2.grew hgr, Chg.refl _ _, H8.out.2.2.2.2.2.1.grew hgr, hR⟩
      have hba9 := (HN.out.1.grew H8.out.2.2.1).grew hgr
      have hbx9 := (HN.out.2.2.2.1.grew H8.out.2.2.1).grew hgr
      have hsl9 := (HN.out.2.2.2.2.grew H8.out.2.2.1).grew hgr
      have hgW : Grew W3 Wr := Chg.trans HJ6.out.1.gr hg68 fun j hj e => by omega
      have hbs9 := H.out.2.2.2.2.2.1.grew hgW
      have hbr9 := H.out.2.2.2.2.1.grew hgW
      have HR1 := Lib.hid (And.intro hr (And.intro hA (And.intro hJ0 (And.intro hgW hD2'))))
      have HXr := Lib.hid (And.intro hba9 (And.intro hbx9 (And.intro hsl9 (And.intro hbs9 hbr9))))
      clear hr hA hJ0 hgW hD2' hR hgr hba9 hbx9 hsl9 hbs9 hbr9 hg68 hb6
      refine (beach_iter W7.heap.size (W7.heap.size + 1) t p r Lr D from_ F y L P (fun k W => EnJ from_ Wr W t p r F y W7.heap.size (W7.heap.size + 1) bn Lr k lr .ready none) (fun W => ∃ k : Nat, (k : Int) = stop ∧ n + k ≤ L.length ∧ EnJ from_ Wr W t p r F y W7.heap.size (W7.heap.size + 1) bn Lr k lr .done (some (.exit 4))) Wr HJ6.out.1.ts
       (fun k W h => ⟨h.b0, h.b1, h.b2⟩) (fun W ⟨_, _, _, h⟩ => ⟨h.b0, h.b1, h.b2⟩) (fun k W W' h hc hb => h.far HR1.out.2.1 hc hb) (fun k a b W h hk => ?yld) HR1.out.2.2.1).mono ?post
      case yld =>
       rw [HG.out, List.getElem?_drop] at hk
       have hkL : n + k < L.length := (List.getElem?_eq_some_iff.1 hk).1
       first
        | (exfalso; omega)
        | skip
       all_goals
        have HJ := Lib.hid h
        have HK := Lib.hid hk
        clear h hk
        obtain ⟨hr1, hr2, hr3, hr4⟩ := HR1.out.1
        refine yield_wide HJ.out.rc (by rw [hr2]; rfl) ?_
        rw [hr1, hr2, hr3, hr4]
        clear hr1 hr2 hr3 hr4
        intro K hK
        have HKK := Lib.hid hK
        clear hK
        gi_wp2
        refine HKK.out _ _ HJ.out.rc fun W9 Q hk3 hR2 hQ => ?_
        have HQ := Lib.hid hQ
        have HJ3 := Lib.hid (HJ.out.kept HR1.out.2.1 hk3 hR2)
        have HK3 := Lib.hid hk3
        clear hk3 hR2 hQ
        have hfar : ∀ j, (F j ∨ j = bn ∨ j = Lr) → j ≠ ba ∧ j ≠ bx ∧ j ≠ w.heap.size ∧ j ≠ w.heap.size + 1 := fun j e => by
         rcases e with e | e | e
         ·have := hFa j e; omega
         ·omega
         ·omega
        have hsl3 := HXr.out.2.2.1.chg HJ3.out.chg fun a ha e => by
         have h9 := HJ6.out.2.2.2.2.2.2.1 a ha
         rcases e with e | e | e
         ·exact h9.1 e
         ·have := h9.2.1; omega
         ·have := h9.2.1; omega
        obtain ⟨e0, ef0, es0⟩ := (show Blk W9 wr.heap.size _ _ from Hbn.out ▸ HJ3.out.cnt).facts
        obtain ⟨e1, ef1, es1⟩ := (HXr.out.1.chg HJ3.out.chg fun e => (hfar _ e).1 rfl).facts
        obtain ⟨e2, ef2, es2⟩ := (HXr.out.2.1.chg HJ3.out.chg fun e => (hfar _ e).2.1 rfl).facts
        obtain ⟨e3, ef3, es3⟩ := (HXr.out.2.2.2.1.chg HJ3.out.chg fun e => (hfar _ e).2.2.1 rfl).facts
        obtain ⟨gx, ox, hA1, hgx, hx1, hx2⟩ := Sl.atKv hsl3 HK.out
        cases hA1
        clear hfar hsl3 hgx
        have u1 : decide ((L.length : Int) ≤ ((n : Int) + (k : Int))) = false := decide_eq_false (by omega)
        have u2 : (n : Int) + (k : Int) < (L.length : Int) := by omega
        have u3 : (0 : Int) ≤ (n : Int) + (k : Int) := by omega
        have u4 : ((n : Int) + (k : Int)).toNat = n + k := by omega
        simp only at hx1 hx2
        gi_wp2
        all_goals
         obtain ⟨W10, hW10⟩ : ∃ W10, W9.setCell ⟨bn, 0, none⟩ (.int .i64 ((k + 1 : Nat) : Int)) = W10 := ⟨_, rfl⟩
         have hJ5 := HJ3.out.set HR1.out.2.1 hW10
         have hW10' : W9.setCell ⟨wr.heap.size, 0, none⟩ (.int .i64 ((k : Int) + 1)) = W10 := by rw [← hW10, Hbn.out]; simp
         rw [hW10']
         have hc5 : Chg (fun j => j = bn) W9 W10 := hW10 ▸ (Chg.refl (fun j => j = bn) W9).setCell (p := ⟨bn, 0, none⟩) (fun _ => rfl) _
         have hl := HR1.out.2.1.lt
         rename_i hst
        ·exact HQ.out _ _ _ ⟨hJ5.rc, fun w' hk' hR' => ⟨.inr ⟨rfl, k + 1, by simpa using hst, by omega, hJ5.kept HR1.out.2.1 hk' hR'⟩, Chg.trans (Chg.trans (HK3.out.chg.mono fun j _ e => by omega) hc5 fun j _ e => by omega) hk'.chg fun j _ e => by omega⟩⟩
        ·exact HQ.out _ _ _ ⟨hJ5.rc, fun w' hk' hR' => ⟨.inl ⟨rfl, hJ5.kept HR1.out.2.1 hk' hR'⟩, Chg.trans (Chg.trans (HK3.out.chg.mono fun j _ e => by omega) hc5 fun j _ e => by omega) hk'.chg fun j _ e => by omega⟩⟩
      case post =>
       rintro e w3 ⟨hv, hJ⟩
       refine ⟨hv, ?_⟩
       obtain ⟨m, st, pe, hJ, hor, hno, hmn⟩ : ∃ (m : Nat) (st : LoopState) (pe : Option Code), EnJ from_ Wr w3 t p r F y W7.heap.size (W7.heap.size + 1) bn Lr m lr st pe ∧ ((st = .ready ∧ pe = none) ∨ (st = .done ∧ pe = some (.exit 4))) ∧ ((m : Int) = stop ∨ (n : Int) + (m : Int) = (L.length : Int)) ∧ n + m ≤ L.length := by
        rcases hJ with hJ | ⟨k, hk, hk2, hJ⟩
        ·exact ⟨_, _, _, hJ, .inl ⟨rfl, rfl⟩, .inr (by rw [HG.out, List.length_drop]; omega), by rw [HG.out, List.length_drop]; omega⟩
        ·exact ⟨k, _, _, hJ, .inr ⟨rfl, rfl⟩, .inl hk, hk2⟩
       refine rangeEnd_block ?_ fun w4 hk4 => ?_
       ·rcases hor with ⟨rfl, rfl⟩ | ⟨rfl, rfl⟩
        ·exact .inl hJ.rc
        ·exact .inr hJ.rc
       have hfar : ∀ j, (F j ∨ j = bn ∨ j = Lr) → j ≠ ba ∧ j ≠ bx ∧ j ≠ w.heap.size ∧ j ≠ w.heap.size + 1 := fun j e => by
        rcases e with e | e | e
        ·have := hFa j e; omega
        ·omega
        ·omega
       have hc4 := Chg.trans hJ.chg hk4.chg fun i _ e => .inr (.inr e)
       have hD4 := HR1.out.2.2.2.2.chg hc4 (fun e => by rcases e with e | e | e; (have := hFa _ e; omega); omega; omega)
       have hgw : Grew w w4 := Chg.mono (Chg.trans (F := fun j => w.heap.size ≤ j) (Grew.trans H.out.2.2.2.1 HR1.out.2.2.2.1).chg hc4 fun i hi e => by rcases e with e | e | e; (have := hFa _ e; omega); omega; omega) fun i hi e => absurd e (by omega)
       have hba4 := HXr.out.1.chg hc4 fun e => (hfar _ e).1 rfl
       have hbx4 := HXr.out.2.1.chg hc4 fun e => (hfar _ e).2.1 rfl
       have hbs4 := HXr.out.2.2.2.1.chg hc4 fun e => (hfar _ e).2.2.1 rfl
       have hbr4 := HXr.out.2.2.2.2.chg hc4 fun e => (hfar _ e).2.2.2 rfl
       obtain ⟨e0, ef0, es0⟩ := (show Blk w4 wr.heap.size _ _ from Hbn.out ▸ hJ.cnt.kept hk4).facts
       obtain ⟨e1, ef1, es1⟩ := hba4.facts
       obtain ⟨e2, ef2, es2⟩ := hbx4.facts
       obtain ⟨e3, ef3, es3⟩ := hbs4.facts
       have HP := Lib.hid (And.intro hD4 (And.intro hgw (And.intro hbr4 hno)))
       clear hJ hor hno hk4 hfar hc4 hD4 hgw hba4 hbx4 hbs4 hbr4 hv
       have w1 : (n : Int) + (m : Int) ≤ (L.length : Int) := by omega
       have w2 : (0 : Int) ≤ (n : Int) + (m : Int) := by omega
       clear hmn
       by_cases hml : (n : Int) + (m : Int) = (L.length : Int)
       ·have v1 : ((n : Int) + (m : Int) == (L.length : Int)) = true := by simpa using hml
        clear hml
        go_wp2_with fail
        have haw := bawake_any w4 (tab_chg H.out.2.1 HP.out.2.1 id)
        have HAW := Lib.hid haw
        clear haw e0 ef0 es0 e1 ef1 es1 e2 ef2 es2 e3 ef3 es3
        refine HAW.out.mono ?_
        rintro e w5 ⟨rfl, hg5⟩
        obtain ⟨e2, ef2, es2⟩ := (HP.out.2.2.1.grew hg5).facts
        have HG5 := Lib.hid hg5
        clear hg5
        go_wp2_with fail
        refine postM_ret1 (v := .bool true) (D := D2) ?_ rfl fun w6 hk6 => ?_
        ·refine (HP.out.1.grew HG5.out).chg (F := fun j => j = w.heap.size + 1) ?_ ?_
         ·(repeat (first | (with_reducible exact (Chg.refl _ _)) | (with_reducible refine Chg.alloc ?_ _) | (with_reducible refine Chg.drew ?_) | (with_reducible refine Chg.drewN ?_ _) | ((with_reducible refine Chg.setCell ?_ ?hp _); (case hp => (intro _; rfl)))))
         ·show ¬ D2 = w.heap.size + 1
          omega
        ·refine ⟨?_, rfl, ?_⟩
         ·obtain ⟨c2, f2, s2⟩ : (∀ i, w6.cell? ⟨w.heap.size + 1, i, none⟩ = #[Value.bool true][i]?) ∧ (∀ i, w6.frozen? ⟨w.heap.size + 1, i, none⟩ = false) ∧ w.heap.size + 1 < w6.heap.size := (Blk.kept (t := 4) (by (repeat (first | (with_reducible exact (HP.out.2.2.1.grew HG5.out)) | (with_reducible apply Blk.drew) | (with_reducible apply Blk.drewN) | (with_reducible apply Blk.alloc) | (with_reducible apply Blk.putTo) | (with_reducible apply Blk.far))); (all_goals first | rfl | (simp; done) | (simp; omega))) hk6).facts
          simp [results, Tryz.results4, go_sem, c2, s2]
         ·refine Chg.kept ?_ hk6 (by omega)
          (repeat (first | (with_reducible exact (Grew.trans HP.out.2.1 HG5.out)) | (with_reducible refine Chg.alloc ?_ _) | (with_reducible refine Chg.drew ?_) | (with_reducible refine Chg.drewN ?_ _) | ((with_reducible refine Chg.setCell ?_ ?hp _); (case hp => (intro h; exfalso; simp at h; try omega)))))
       ·have v1 : ((n : Int) + (m : Int) == (L.length : Int)) = false := by simpa using hml
        have v3 : ((m : Int) == stop) = true := by simpa using HP.out.2.2.2.resolve_right hml
        clear hml
        go_wp2_with fail
        have haw := bawake_any w4 (tab_chg H.out.2.1 HP.out.2.1 id)
        have HAW := Lib.hid haw
        clear haw e0 ef0 es0 e1 ef1 es1 e2 ef2 es2 e3 ef3 es3
        refine HAW.out.mono ?_
        rintro e w5 ⟨rfl, hg5⟩
        obtain ⟨e2, ef2, es2⟩ := (HP.out.2.2.1.grew hg5).facts
        have HG5 := Lib.hid hg5
        clear hg5
        go_wp2_with fail
        refine postM_ret1 (v := .bool true) (D := D2) ?_ rfl fun w6 hk6 => ?_
        ·refine (HP.out.1.grew HG5.out).chg (F := fun j => j = w.heap.size + 1) ?_ ?_
         ·(repeat (first | (with_reducible exact (Chg.refl _ _)) | (with_reducible refine Chg.alloc ?_ _) | (with_reducible refine Chg.drew ?_) | (with_reducible refine Chg.drewN ?_ _) | ((with_reducible refine Chg.setCell ?_ ?hp _); (case hp => (intro _; rfl)))))
         ·show ¬ D2 = w.heap.size + 1
          omega
        ·refine ⟨?_, rfl, ?_⟩
         ·obtain ⟨c2, f2, s2⟩ : (∀ i, w6.cell? ⟨w.heap.size + 1, i, none⟩ = #[Value.bool true][i]?) ∧ (∀ i, w6.frozen? ⟨w.heap.size + 1, i, none⟩ = false) ∧ w.heap.size + 1 < w6.heap.size := (Blk.kept (t := 4) (by (repeat (first | (with_reducible exact (HP.out.2.2.1.grew HG5.out)) | (with_reducible apply Blk.drew) | (with_reducible apply Blk.drewN) | (with_reducible apply Blk.alloc) | (with_reducible apply Blk.putTo) | (with_reducible apply Blk.far))); (all_goals first | rfl | (simp; done) | (simp; omega))) hk6).facts
          simp [results, Tryz.results4, go_sem, c2, s2]
         ·refine Chg.kept ?_ hk6 (by omega)
          (repeat (first | (with_reducible exact (Grew.trans HP.out.2.1 HG5.out)) | (with_reducible refine Chg.alloc ?_ _) | (with_reducible refine Chg.drew ?_) | (with_reducible refine Chg.drewN ?_ _) | ((with_reducible refine Chg.setCell ?_ ?hp _); (case hp => (intro h; exfalso; simp at h; try omega)))))
end Go.Proofs.YtpkkcicaeldodaaGreatDoor

namespace Go.Proofs.YtpkkcicaeldodaaGreatDoor
open Go.RowKit

def tabI : List Int := tab.map Int.ofNat
def laidName : String := Rows.btreeOrdersRow.named.headD (toString 0)
theorem tab_of_laid {W : World} (h : laidMetH Tryz.prog Rows.btreeOrdersRow.laid W) : TabAt 0 tab W := by
 have h' : laidMet Tryz.prog [(laidName, Lib.tabData .u8 tabI)] W := h
 have hg : Tryz.prog.globalNamed laidName = some 0 := by kernel_rfl
 have ht := Lib.tabIs_of_head (t := 190) (e := 5) (n := 64) hg (by kernel_rfl) Tryz.underlying190 Tryz.underlying5 (by kernel_rfl) (by kernel_rfl) h'
 intro j hj
 have := ht.cell hg j (by simpa [tabI] using hj)
 rw [this]
 congr 2
 unfold tabI
 rw [List.getD_eq_getElem?_getD, List.getElem?_map, List.getD_eq_getElem?_getD]
 cases tab[j]? <;> rfl

noncomputable def laidWorld (os : Os) : World :=
 { World.holding Tryz.prog os ⟨#[], #[], []⟩ with heap := (World.holding Tryz.prog os ⟨#[], #[], []⟩).heap.modify 0 fun
   | .cells _ t frozen => .cells (tabI.map fun z => Value.int .u8 z).toArray t frozen
   | o => o }
theorem laidWorld_met (os : Os) (args : Array Value) : laidMetH Tryz.prog Rows.btreeOrdersRow.laid ((laidWorld os).forCall (fun _ _ => 0) ⟨#[], args, []⟩).memory :=
 laidMetH_of_parts (laidMet_of_run' 8 (by kernel_rfl) (by kernel_rfl)) (by kernel_rfl)

end Go.Proofs.YtpkkcicaeldodaaGreatDoor

namespace Go.Proofs.YtpkkcicaeldodaaGreatDoor
open Go.ChangeShapes Go.WideShapes Go.ChangeAt Go.RowKit Go.Deep

theorem choose_list {α : Type} (P : Nat → α → Prop) : ∀ (n : Nat), (∀ i, i < n → ∃ x, P i x) → ∃ l : List α, l.length = n ∧ ∀ i x, l[i]? = some x → P i x
 | 0, _ => ⟨[], rfl, fun i x h => by simp at h⟩
 | n + 1, h => by
  obtain ⟨l, hl, hp⟩ := choose_list P n (fun i hi => h i (by omega))
  obtain ⟨x, hx⟩ := h n (by omega)
  refine ⟨l ++ [x], by simp [hl], fun i y hy => ?_⟩
  by_cases hi : i < l.length
  ·rw [List.getElem?_append_left hi] at hy
   exact hp i y hy
  ·rw [List.getElem?_append_right (by omega)] at hy
   have h0 : i - l.length = 0 := by
    rcases Nat.eq_zero_or_pos (i - l.length) with h0 | h0
    ·exact h0
    ·rw [List.getElem?_eq_none (by simp; omega)] at hy; cases hy
   rw [h0] at hy
   simp at hy
   subst hy
   obtain rfl : i = n := by omega
   exact hx

theorem wf_bounds {n : Int} (h : (Lit.int .i64 n).wf = true) : -9223372036854775808 ≤ n ∧ n ≤ 9223372036854775807 := by
 simpa [Lit.wf, IntKind.min, IntKind.max, IntKind.signed, IntKind.bits] using h

section
variable {H : Type} {enc : TypeId × Value → H} {P : Program} {w : World} {base : Nat} {spare : Nat → Bool} {held : Bool}

theorem open_elems {t e : TypeId} {fuel s len cap : Nat} {A : Option Addr} {x : DataW H × List MemPlace} (ht : P.underlying t = some (.slice e)) (hC : P.cellsOf e = s) (hs : 0 < s)
  (h : DataW.trod enc P w base spare held fuel t [.slice A len cap] = some x) :
  len ≤ maxLen ∧ (len = 0 ∨ ∃ b off, A = some ⟨b, off, none⟩ ∧ b < w.heap.size ∧ ∀ i, i < len → ∃ (cs : List Value) (n : Nat) (y : DataW H × List MemPlace), cs.length = s ∧ (∀ j, j < s → w.cell? ⟨b, off + (i * s + j), none⟩ = cs[j]?) ∧ DataW.trod enc P w base spare held n e cs = some y) := by
 rcases open_slice ht h with ⟨hcs, _⟩ | ⟨a, len', cap', m, n, D, Pl, hcs, hb, hl, hm, hmm, hx, hi⟩
 ·simp at hcs
  obtain ⟨rfl, rfl, rfl⟩ := hcs
  exact ⟨Nat.zero_le _, .inl rfl⟩
 ·simp at hcs
  obtain ⟨rfl, rfl, rfl⟩ := hcs
  refine ⟨Nat.le_trans hl hm, ?_⟩
  rcases Nat.eq_zero_or_pos len with h0 | h0
  ·exact .inl h0
  right
  have hlm : len ≤ m := by rw [hmm]; split <;> omega
  obtain ⟨b, off, spot⟩ := a
  have cellAt : ∀ i, i < len → ∃ cs' y, cs'.length = s ∧ (∀ j, j < s → w.cell? (Addr.add ⟨b, off, spot⟩ (i * s + j)) = cs'[j]?) ∧ DataW.trod enc P w base spare held n e cs' = some y := by
   intro i hil
   obtain ⟨cs', hc, ht'⟩ := hi i (by omega)
   rw [hC] at hc
   obtain ⟨_, hcl, hat⟩ := World.cells?_some hc
   refine ⟨cs', _, hcl, fun j hj => ?_, ht'⟩
   rw [← hat j hj]
   congr 1
   unfold Addr.add
   by_cases h1 : i * s = 0 <;> by_cases h2 : j = 0 <;> simp [h1, h2, Nat.add_assoc]
  have hspot : spot = none := by
   obtain ⟨cs', y, hcl, hat, _⟩ := cellAt 0 h0
   have := hat 0 hs
   have h0' : cs'[0]? = some (cs'[0]'(by omega)) := List.getElem?_eq_getElem (by omega)
   rw [h0'] at this
   simpa [Addr.add] using World.cell?_spot this
  subst hspot
  refine ⟨b, off, rfl, ?_, fun i hil => ?_⟩
  ·obtain ⟨cs', y, hcl, hat, _⟩ := cellAt 0 h0
   have := hat 0 hs
   have h0' : cs'[0]? = some (cs'[0]'(by omega)) := List.getElem?_eq_getElem (by omega)
   rw [h0'] at this
   simpa [Addr.add] using World.block_lt_of_cell? w _ this
  ·obtain ⟨cs', y, hcl, hat, ht'⟩ := cellAt i hil
   refine ⟨cs', n, y, hcl, fun j hj => ?_, ht'⟩
   have := hat j hj
   rw [Addr.add_lit] at this
   exact this
end

end Go.Proofs.YtpkkcicaeldodaaGreatDoor

namespace Go.Proofs.YtpkkcicaeldodaaGreatDoor
open Go.ChangeShapes Go.WideShapes Go.ChangeAt Go.RowKit
set_option linter.unusedVariables false

set_option maxRecDepth 100000 in
theorem Trop.of_trod {H : Type} {enc : TypeId × Value → H} {w : World} {base n : Nat} {spare : Nat → Bool} {held : Bool} {cs : List Value} {y : DataW H × List MemPlace} (hl : cs.length = 3) (h : DataW.trod enc Tryz.prog w base spare held n 37 cs = some y) : ∃ r : Trop, cs = r.vals ∧ r.ok := by
 obtain ⟨xs, n, _, _, _, hlen, hf⟩ := DataW.trod_struct Tryz.underlying37 h
 match cs, hl with
 | [c0, c1, c2], _ =>
  match xs, hlen with
  | [y0, y1, y2], _ =>
   have f0 : DataW.trod enc Tryz.prog w base spare held n 3 (([c0, c1, c2].drop 0).take (Tryz.prog.cellsOf 3)) = some y0 := hf 0 _ rfl
   rw [show Tryz.prog.cellsOf 3 = 1 from by kernel_rfl] at f0
   have f1 : DataW.trod enc Tryz.prog w base spare held n 3 (([c0, c1, c2].drop 1).take (Tryz.prog.cellsOf 3)) = some y1 := hf 1 _ rfl
   rw [show Tryz.prog.cellsOf 3 = 1 from by kernel_rfl] at f1
   have f2 : DataW.trod enc Tryz.prog w base spare held n 3 (([c0, c1, c2].drop 2).take (Tryz.prog.cellsOf 3)) = some y2 := hf 2 _ rfl
   rw [show Tryz.prog.cellsOf 3 = 1 from by kernel_rfl] at f2
   obtain ⟨n0, e0, -, w0⟩ := DataW.trod_int Tryz.underlying3 f0
   simp at e0
   subst e0
   obtain ⟨n1, e1, -, w1⟩ := DataW.trod_int Tryz.underlying3 f1
   simp at e1
   subst e1
   obtain ⟨n2, e2, -, w2⟩ := DataW.trod_int Tryz.underlying3 f2
   simp at e2
   subst e2
   exact ⟨⟨n0, n1, n2⟩, rfl, (wf_bounds w0).1, (wf_bounds w0).2, (wf_bounds w1).1, (wf_bounds w1).2, (wf_bounds w2).1, (wf_bounds w2).2⟩
theorem Trop.opened {H : Type} {enc : TypeId × Value → H} {w : World} {base fuel len cap : Nat} {spare : Nat → Bool} {held : Bool} {A : Option Addr} {x : DataW H × List MemPlace} (h : DataW.trod enc Tryz.prog w base spare held fuel 35 [.slice A len cap] = some x) :
  ∃ l : List Trop, len = l.length ∧ len ≤ maxLen ∧ Sl w 3 A l.length (l.flatMap Trop.vals) ∧ ∀ r ∈ l, r.ok := by
 obtain ⟨hm, hc⟩ := open_elems Tryz.underlying35 (s := 3) (by kernel_rfl) (by omega) h
 rcases hc with rfl | ⟨b, off, rfl, hb, hi⟩
 ·exact ⟨[], rfl, hm, Sl.nil _ _ _, fun r hr => by cases hr⟩
 ·obtain ⟨l, hl, hp⟩ := choose_list (fun i (r : Trop) => r.ok ∧ ∀ j u, r.vals[j]? = some u → w.cell? ⟨b, off + (i * 3 + j), none⟩ = some u) len (fun i hil => by
   obtain ⟨cs, n, y, hcl, hat, ht⟩ := hi i hil
   obtain ⟨r, rfl, hok⟩ := Trop.of_trod hcl ht
   refine ⟨r, hok, fun j u hu => ?_⟩
   have hj : j < 3 := by rw [← hcl]; exact (List.getElem?_eq_some_iff.1 hu).1
   rw [hat j hj, hu])
  refine ⟨l, hl.symm, hm, Trop.sl_mk hb (fun i r hr => (hp i r hr).2), fun r hr => ?_⟩
  obtain ⟨i, hi, rfl⟩ := List.getElem_of_mem hr
  exact (hp i _ (List.getElem?_eq_getElem hi)).1

theorem each_walk (w : World) (hT : TabAt 0 tab w) (A : Option Addr) (c : Nat) (l : List Trop) (hm : l.length ≤ maxLen) (hs : Sl w 3 A l.length (l.flatMap Trop.vals)) (ok : ∀ r ∈ l, r.ok) (from_ : Int) (_ : -9223372036854775808 ≤ from_ ∧ from_ ≤ 9223372036854775807) (stop : Int) (_ : -9223372036854775808 ≤ stop ∧ stop ≤ 9223372036854775807) :
  Calls Tryz.prog 4 #[.slice A l.length c, .int .i64 from_, .int .i64 stop] w fun e w' => e = .returned (.bool true) ∧ Grew w w' := by
 by_cases h : 150 < l.length
 ·exact each_out l from_ stop A c w hT h (by unfold maxLen at hm; omega)
 ·exact each_in l from_ stop A c w hT (by omega) hs ok

namespace lawBtreeEach
theorem own : ownKnob Tryz.prog.godebug = none := by kernel_rfl
theorem laidOut : laidOutB Tryz.prog = true := by kernel_rfl
set_option maxRecDepth 100000 in
theorem lifted (os : Os) (started : os.Started) (H : Type) (enc : TypeId × Value → H) :
  ReturnsInHanded {} Tryz.checked os 4 .any (fun w args => (Rows.btreeEachSpec.pre enc Tryz.prog Tryz.f4 [] false w args ∧ laidMetH Tryz.prog Rows.btreeEachRow.laid w) ∧ sizedMet enc Tryz.prog Tryz.f4 (OpenSpec.ofChange Rows.btreeEachSpec) false w args) (Rows.btreeEachSpec.post enc Tryz.prog Tryz.f4 false true false false) := by
 refine returnsInHanded_of_change_and (C := Tryz.checked) (X := fun w _ => laidMetH Tryz.prog Rows.btreeEachRow.laid w) (fun _ _ _ hh h => h.of_heap hh) own started (by kernel_rfl) Tryz.func4
  (ChangeSpec.witness_at (enc := enc) (C := Tryz.checked) (os := os) (X := fun w _ => laidMetH Tryz.prog Rows.btreeEachRow.laid w) false (laidWorld os) #[.slice none 0 0, .int .i64 0, .int .i64 0] 8 rfl (by kernel_rfl) (by kernel_rfl) (by kernel_rfl) (by kernel_rfl) (by kernel_rfl) (laidWorld_met os _)) ?_
 intro W base args ds gs before hval0 hW _ _ hL0 _
 have hL : laidMetH Tryz.prog Rows.btreeEachRow.laid W := hL0
 have hT0 := tab_of_laid hL
 have hval : ∀ (j : Nat) t v, Tryz.f4.params[j]? = some t → args[j]? = some v → Value.okWide Tryz.prog W .any base t v := hval0
 have hW1 := hW
 obtain ⟨p, q, hA0, hV, rfl, hfz, hnd⟩ := hW
 have hA : DataW.TrodAll enc Tryz.prog W 0 (fun _ => true) true Tryz.f4.params.toList args.toList ds p := hA0
 rw [Tryz.params4] at hA hval
 obtain ⟨v0, vs0, d0, ds0, p0, q0, hargs, rfl, rfl, h0, r0⟩ := trodAll_cons hA
 obtain ⟨v1, vs1, d1, ds1, p1, q1, rfl, rfl, rfl, h1, r1⟩ := trodAll_cons r0
 obtain ⟨v2, vs2, d2, ds2, p2, q2, rfl, rfl, rfl, h2, r2⟩ := trodAll_cons r1
 obtain ⟨rfl, rfl, rfl⟩ := trodAll_nil r2
 obtain rfl : args = #[v0, v1, v2] := by cases args; simp_all
 obtain ⟨rfl, rfl⟩ := trodVars_none hV
 obtain ⟨A0, n0, c0, rfl⟩ := okWide_slice Tryz.underlying35 (hval 0 35 v0 rfl rfl)
 have k0 := h0
 have lt0 : ∀ x ∈ p0, x.block < W.heap.size := by obtain ⟨m, hm⟩ := k0; exact DataW.trod_lt m _ _ _ hm
 obtain ⟨fu0, hf0⟩ := h0
 obtain ⟨l0, rfl, hm0, hs0, ok0⟩ := Trop.opened (by simpa [Value.cells] using hf0)
 obtain ⟨a1, rfl, rfl, rfl, w1⟩ := open_int Tryz.underlying3 (hval 1 3 v1 rfl rfl) h1
 obtain ⟨a2, rfl, rfl, rfl, w2⟩ := open_int Tryz.underlying3 (hval 2 3 v2 rfl rfl) h2
 clear hA0 hval0
 refine (each_walk W hT0 A0 c0 l0 hm0 hs0 ok0 a1 (wf_bounds w1) a2 (wf_bounds w2)).mono fun e W1 ⟨he, hg⟩ => ?_
 subst he
 have bel := hg.below
 exact ⟨_, rfl, _, _, _, [], _, [], hW1, trodAll_mk1 (shut_bool Tryz.underlying4 _), (trodAll_cons_mk (Below.trod laidOut (by kernel_rfl) (of_decide_eq_true (by kernel_rfl)) k0 bel lt0) (trodAll_cons_mk (shut_int Tryz.underlying3 w1) (trodAll_cons_mk (shut_int Tryz.underlying3 w2) trodAll_mk0))), rfl, bel.frame _, fun h => by cases h⟩
theorem over : Rows.btreeEachRow.holds Tryz.pinned (OpenSpec.ofChange Rows.btreeEachSpec) :=
 OpenClaim.holds_of_wide 4 Tryz.f4 rfl rfl rfl rfl rfl rfl rfl ⟨rfl, rfl, rfl, rfl, rfl⟩ rfl rfl rfl rfl rfl (by kernel_rfl) Tryz.func4 (by kernel_rfl)
  (of_decide_eq_true (by kernel_rfl)) (by unfold Func.isWrapper; first | (rw [if_pos (by decide +kernel)]; kernel_rfl) | (rw [if_neg (by decide +kernel)]; exact ⟨rfl, rfl⟩))
  (fun os started H enc _ => lifted os started H enc)
theorem proved : Rows.BtreeEachCardSaid :=
 Claim7.holds_tied_plain_at .later [] [.data] true Rows.btreeEachCard.stood.harness false over (fun _ h => by cases h) (by kernel_rfl) (fun _ h => by cases h) btreeEach_row_tie rfl ⟨rfl, rfl⟩ (by kernel_rfl) rfl
  (fun f fn hf hfn => by
   obtain rfl : f = 4 := Option.some.inj ((show Tryz.prog.funcNamed Rows.btreeEachRow.func = some 4 by kernel_rfl).symm.trans hf) |>.symm
   obtain rfl : fn = Tryz.f4 := (Option.some.inj (Tryz.func4.symm.trans hfn)).symm
   refine ⟨by kernel_rfl, fun j t ht => ?_⟩
   have hall : ∀ t ∈ Tryz.f4.params.toList, Tryz.prog.wantsStandIn t = false := by
    rw [Tryz.params4]
    intro t ht
    simp only [List.mem_cons, List.not_mem_nil, or_false] at ht
    rcases ht with rfl | rfl | rfl <;> kernel_rfl
   exact hall t (by rw [Array.mem_toList_iff]; exact Array.mem_of_getElem? ht))
  (by kernel_rfl)
#print axioms proved
end lawBtreeEach

end Go.Proofs.YtpkkcicaeldodaaGreatDoor
