/- BtreeSmall returns true, for every input. It has no condition; the table of math/bits that its row lists is tied to the program. -/
import Derived.Test.YtpkkcicaeldodaaGreatDoorMgSmall6
import Derived.Shelf.Slices.In.SortNone
import Derived.Test.YtpkkcicaeldodaaGreatDoorRows
import Derived.Test.YtpkkcicaeldodaaGreatDoorTie
import Derived.Test.YtpkkcicaeldodaaGreatDoorCards
import Derived.Lib.LaidTab
import Derived.LaidLaws
import Derived.LaidHandle
import Derived.SevenTiedAt
import Derived.ProofKit
import Derived.OpenShut
import Derived.ShutString
import Derived.ChangeOld
import Derived.Deep.Slices
import Derived.Deep.Fields
set_option linter.unusedSimpArgs false
set_option linter.unusedVariables false

namespace Go.Proofs.YtpkkcicaeldodaaGreatDoor
open Go.RowKit Go.Maps

theorem newer {w w1 w2 : World} {F : Nat → Prop} (h : Grew w w1) (hc : Chg F w1 w2) (hF : ∀ j, F j → w.heap.size ≤ j) : Grew w w2 := Chg.trans h hc fun i hi e => by have := hF i e; omega
theorem newerF {w w1 w2 : World} {F F' : Nat → Prop} (h : Grew w w1) (hc : Rch F F' w1 w2) (hF : ∀ j, F j → w.heap.size ≤ j) : ∀ j, F' j → w.heap.size ≤ j := fun j hj => (hc.new j hj).elim (hF j) fun e => Nat.le_trans h.size e
set_option maxRecDepth 100000 in
set_option maxHeartbeats 3200000 in
theorem bawake_any (w : World) (hT : TabAt 0 tab w) :
  Calls Tryz.prog 9 #[] w fun e w' => e = .returned (.bool true) ∧ Grew w w' := by
 have hfr := bfresh_any 12 64 w hT (by omega) (by omega) (by omega) (by omega) (by rw [opened12.1]; omega) (by rw [opened12.2.1]; omega)
 have H := Lib.hid hfr
 clear hfr hT
 go_enter Tryz.func9, Tryz.ntmps9
 go_wp2_with fail
 refine H.out.mono ?_
 rintro e w1 ⟨t, p, d, r, F, rfl, hr, hb, hg, hF, ht⟩
 have hts := tree0_ts (n := 12) (sz := 64) hr (by omega)
 have hp1 := bput2_any t p r 0 5 50 [] [r] F _ w1 hb (by simp [Rp.tree0, Rp.opened, Rp.begun, Rp.put]) hts (by simp) (by unfold i64; omega) (by unfold i64; omega)
 have H1 := Lib.hid (And.intro hp1 (And.intro hts (And.intro hg (And.intro hF ht))))
 clear hp1 hts hg hF ht hr hb
 go_wp2_with fail
 refine H1.out.1.mono ?_
 rintro e w2 hpu
 obtain ⟨rfl, y2, F2, D2, P2, hb2, hr2, hl2, ht2⟩ := put_sure hpu roomy12 tree0_like H1.out.2.1 (show 2 ≤ halfN 64 by decide) (by simp)
 have hL2 : putL [] 5 50 = [(5, 50)] := rfl
 rw [hL2] at ht2
 have hy2 : y2.sz = 64 := hl2.sz
 have hD2 := ht2.depth2 (by rw [hy2]; decide) (by simp)
 have hp2 := bput2_any t p r D2 3 30 [(5, 50)] P2 F2 y2 w2 hb2 (by rw [hl2.was]; simp [Rp.opened, Rp.begun]) ht2 (by simp) (by unfold i64; omega) (by unfold i64; omega)
 have hg2 := newer H1.out.2.2.1 hr2.chg H1.out.2.2.2.1
 have hF2 := newerF H1.out.2.2.1 hr2 H1.out.2.2.2.1
 have H2 := Lib.hid (And.intro hp2 (And.intro ht2 (And.intro hl2 (And.intro hD2 (And.intro hg2 hF2)))))
 clear hp2 ht2 hl2 hD2 hg2 hF2 hb2 hr2 hL2 hpu
 go_wp2_with fail
 refine H2.out.1.mono ?_
 rintro e w3 hpu
 obtain ⟨rfl, y3, F3, D3, P3, hb3, hr3, hl3, ht3⟩ := put_sure hpu roomy12 H2.out.2.2.1 H2.out.2.1 (by rw [hy2]; decide) (by rw [H2.out.2.2.2.1]; simp)
 have hL3 : putL [(5, 50)] 3 30 = [(3, 30), (5, 50)] := rfl
 rw [hL3] at ht3
 have hy3 : y3.sz = 64 := hl3.sz
 have hD3 := ht3.depth2 (by rw [hy3]; decide) (by simp)
 have hg3 := newer H2.out.2.2.2.2.1 hr3.chg H2.out.2.2.2.2.2
 have hF3 := newerF H2.out.2.2.2.2.1 hr3 H2.out.2.2.2.2.2
 have hge := bget2_any t p r (halfN y3.sz) D3 3 _ P3 F3 y3 w3 hb3 ht3.tr ht3.srt (by omega) ht3.nd
 rw [show getK [((3 : Int), (30 : Int)), (5, 50)] 3 = some 30 from rfl] at hge
 have H3 := Lib.hid (And.intro hge (And.intro ht3 (And.intro hD3 (And.intro hg3 hF3))))
 clear hge ht3 hD3 hg3 hF3 hb3 hr3 hL3 hpu hl3
 go_wp2_with fail
 refine H3.out.1.mono ?_
 rintro e w4 ⟨rfl, hb4, hc4⟩
 have hge := bget2_any t p r (halfN y3.sz) D3 4 _ P3 F3 y3 w4 hb4 H3.out.2.1.tr H3.out.2.1.srt (by have := H3.out.2.2.1; omega) H3.out.2.1.nd
 rw [show getK [((3 : Int), (30 : Int)), (5, 50)] 4 = none from rfl] at hge
 have hg4 := newer H3.out.2.2.2.1 hc4 H3.out.2.2.2.2
 have H4 := Lib.hid (And.intro hge hg4)
 simp only [gV, gE]
 clear hge hg4 hb4 hc4
 go_wp2_with fail
 refine H4.out.1.mono ?_
 rintro e w5 ⟨rfl, hb5, hc5⟩
 have hle := blen_any t p r D3 _ P3 F3 y3 w5 hb5 H3.out.2.1 (by simp)
 have hg5 := newer H4.out.2 hc5 H3.out.2.2.2.2
 have H5 := Lib.hid (And.intro hle hg5)
 simp only [gV, gE]
 clear hle hg5 hb5 hc5
 go_wp2_with fail
 refine H5.out.1.mono ?_
 rintro e w6 ⟨rfl, hb6, hc6⟩
 have hch := bcheck_any t p r D3 _ P3 F3 y3 w6 hb6 H3.out.2.1 (by have := H3.out.2.2.1; omega) (by have := H3.out.2.1.tr.pages (by rw [hy3]; decide); simp at this; omega)
 have hg6 := newer H5.out.2 hc6 H3.out.2.2.2.2
 have H6 := Lib.hid (And.intro hch hg6)
 simp only [List.length_cons, List.length_nil]
 clear hch hg6 hb6 hc6
 go_wp2_with fail
 refine H6.out.1.mono ?_
 rintro e w7 ⟨rfl, hb7, hc7⟩
 have H7 := Lib.hid (newer H6.out.2 hc7 H3.out.2.2.2.2)
 clear hb7 hc7
 go_wp2_with fail
 go_ret
 exact ⟨rfl, H7.out⟩
end Go.Proofs.YtpkkcicaeldodaaGreatDoor

namespace Go.Proofs.YtpkkcicaeldodaaGreatDoor
open Go.RowKit Go.Maps

def fo (ks : List Int) : List KV := ks.foldl (fun L k => putL L k k) []
structure OJ (w W : World) (ta pa ra tb pb rb : Nat) (Fa Fb : Nat → Prop) (ya yb : Rp) (Da Db : Nat) (La Lb : List KV) (Pa Pb : List Nat) (A : Option Addr) (Lx : List KV) : Prop where
 a : BT W ta pa ra Fa ya
 b : BT W tb pb rb Fb yb
 sa : TS ya Da ra La Pa
 sb : TS yb Db rb Lb Pb
 la : (Rp.opened 400 64).like ya
 lb : (Rp.opened 400 64).like yb
 dis : ∀ j, Fa j → ¬ Fb j
 nab : ¬ Fa tb ∧ ¬ Fb ta
 gr : Grew w W
 fa : ∀ j, Fa j → w.heap.size ≤ j
 fb : ∀ j, Fb j → w.heap.size ≤ j
 x : Sl W 2 A Lx.length (kvs2 Lx)
 xf : ∀ q, A = some q → ¬ Fa q.block ∧ ¬ Fb q.block ∧ q.block < W.heap.size
section
variable {w W W' : World} {ta pa ra tb pb rb : Nat} {Fa Fb F' : Nat → Prop} {ya yb y' : Rp} {Da Db D' : Nat} {La Lb L' : List KV} {Pa Pb P' : List Nat} {A : Option Addr} {Lx : List KV}
end
end Go.Proofs.YtpkkcicaeldodaaGreatDoor

namespace Go.Proofs.YtpkkcicaeldodaaGreatDoor
open Go.RowKit Go.Maps
attribute [local go_sem] Oper.semAt_some

def stsL (l : List Trop) : List KV := l.foldl stL []
theorem stL_len (L : List KV) (o : Trop) : (stL L o).length ≤ L.length + 1 := by
 unfold stL
 split
 ·exact putL_le _ _ _
 ·split
  ·unfold delL; have := List.length_filter_le (fun x : KV => decide (x.1 ≠ o.key)) L; omega
  ·omega
theorem stsL_snoc (l : List Trop) (o : Trop) : stsL (l ++ [o]) = stL (stsL l) o := by simp [stsL]
theorem stsL_le : ∀ (l : List Trop) (L : List KV), (l.foldl stL L).length ≤ L.length + l.length
 | [], L => by simp
 | o :: l, L => by
  have h1 := stsL_le l (stL L o)
  have h2 := stL_len L o
  simp only [List.foldl_cons, List.length_cons]
  omega
theorem stsL_len (l : List Trop) : (stsL l).length ≤ l.length := by have := stsL_le l []; simpa [stsL] using this
structure EJ (w W : World) (t p r bx : Nat) (x0 : Rp) (L : List KV) (F : Nat → Prop) (y : Rp) (D : Nat) (P : List Nat) (A : Option Addr) (c : Nat) : Prop where
 bt : BT W t p r F y
 ts : TS y D r L P
 like : x0.like y
 gr : Grew w W
 fn : ∀ j, F j → w.heap.size ≤ j ∧ j ≠ bx
 xb : Blk W bx 29 #[.slice A L.length c]
 sl : Sl W 2 A L.length (kvs2 L)
 af : ∀ a, A = some a → ¬ F a.block ∧ a.block < W.heap.size ∧ a.block ≠ bx ∧ w.heap.size ≤ a.block
 tx : t ≠ bx ∧ bx ≠ 0 ∧ w.heap.size ≤ bx ∧ w.heap.size ≤ t
section
variable {w W W1 W2 : World} {t p r bx : Nat} {x0 : Rp} {L R : List KV} {F F' : Nat → Prop} {y : Rp} {D : Nat} {P : List Nat} {A : Option Addr} {c : Nat}
end
end Go.Proofs.YtpkkcicaeldodaaGreatDoor

namespace Go.Proofs.YtpkkcicaeldodaaGreatDoor
open Go.RowKit Go.Maps

structure PlJ (w W : World) (t p r : Nat) (x0 : Rp) (L : List KV) (F : Nat → Prop) (y : Rp) (D : Nat) (P : List Nat) (A : Option Addr) : Prop where
 bt : BT W t p r F y
 ts : TS y D r L P
 like : x0.like y
 gr : Grew w W
 fn : ∀ j, F j → w.heap.size ≤ j
 sl : Sl W 2 A L.length (kvs2 L)
 af : ∀ a, A = some a → ¬ F a.block ∧ a.block < W.heap.size
section
variable {w W W1 W2 : World} {t p r : Nat} {x0 : Rp} {L R : List KV} {F F' : Nat → Prop} {y : Rp} {D : Nat} {P : List Nat} {A : Option Addr}
theorem PlJ.grew (h : PlJ w W t p r x0 L F y D P A) (hg : Grew W W1) : PlJ w W1 t p r x0 L F y D P A :=
 ⟨h.bt.grew hg, h.ts, h.like, Grew.trans h.gr hg, h.fn, h.sl.grew hg, fun a ha => by have h1 := h.af a ha; have := hg.size; exact ⟨h1.1, by omega⟩⟩
theorem PlJ.kept (h : PlJ w W t p r x0 L F y D P A) (hb : BT W1 t p r F y) (hc : Chg F W W1) : PlJ w W1 t p r x0 L F y D P A :=
 ⟨hb, h.ts, h.like, Chg.trans h.gr hc fun j hj e => by have := h.fn j e; omega, h.fn, h.sl.chg hc fun a ha => (h.af a ha).1, fun a ha => by have h1 := h.af a ha; have := hc.size; exact ⟨h1.1, by omega⟩⟩
theorem PlJ.step {e : Ending} (h : PlJ w W t p r x0 L F y D P A) (hs : StpOut W W1 t p r F x0 A R e) :
  ∃ A' c' F' y' D' P', e = .returned (.tuple #[.slice A' R.length c', .bool true]) ∧ PlJ w W1 t p r x0 R F' y' D' P' A' := by
 obtain ⟨A', c', y', F', D', P', rfl, h1, h2, h3, h4, h5, h6⟩ := hs
 have hz := h.gr.size
 exact ⟨A', c', F', y', D', P', rfl, h1, h4, h3, Chg.trans h.gr h2.chg fun j hj e => by have := h.fn j e; omega, fun j hj => (h2.new j hj).elim (h.fn j) fun e => by omega, h5, fun a ha => ⟨(h6 a ha).1, (h6 a ha).2.1⟩⟩
end

end Go.Proofs.YtpkkcicaeldodaaGreatDoor

namespace Go.Proofs.YtpkkcicaeldodaaGreatDoor
open Go.RowKit Go.Maps

set_option maxRecDepth 100000 in
set_option maxHeartbeats 3200000 in
theorem bload_bad (t p root q : Nat) (F : Nat → Prop) (x : Rp) (c : Pk) (w : World) (h : BT w t p root F x) (hi : x.now[q]? = some c) (hu : c.used = true) (hd : decN (c.bytes x.sz) x.sz = none) :
  Calls Tryz.prog 38 #[.pointer (some ⟨t, 0, none⟩), .int .i64 q] w fun e w' => e = .returned (.tuple #[.pointer none, .int .i64 22]) ∧ BT w' t p root F x ∧ Chg F w w' := by
 obtain ⟨c0, f0, s0⟩ := h.blk.facts
 have hz := h.gp.szs
 have HR := Lib.hid (gp_read p q F x w c h.gp hi hu)
 obtain ⟨bs, hbs⟩ : ∃ bs, c.bytes x.sz = bs := ⟨_, rfl⟩
 rw [hbs] at HR hd
 have H := Lib.hid (And.intro h hd)
 obtain ⟨z1, z2, z3, z4, -⟩ := hz
 have hq4 : q < 4096 := by have := (List.getElem?_eq_some_iff.1 hi).1; have := h.gp.szs; omega
 clear h hi hu hd hbs
 go_enter Tryz.func38, Tryz.ntmps38
 go_wp2_with fail
 refine HR.out.mono ?_
 rintro e w1 ⟨A, cA, rfl, ho, hbl, hby, hg, hc, hF⟩
 clear c0 f0 s0
 obtain ⟨g, rfl, hgl⟩ := own_block ho (by omega)
 have hB1 := H.out.1.far hc hg
 obtain ⟨m, hm⟩ : ∃ m, (bs.getD 1 0).toNat = m := ⟨_, rfl⟩
 obtain ⟨k0, hk0⟩ : ∃ k, bs.getD 0 0 = k := ⟨_, rfl⟩
 have hcA : x.sz ≤ cA ∧ cA ≤ maxLen := by obtain ⟨cur, -, -, h1, h2, -⟩ := own_row ho; exact ⟨h1, h2⟩
 have hb0 : bs[0]? = some k0 := by rw [← hk0, List.getD_eq_getElem?_getD, List.getElem?_eq_getElem (by omega)]; rfl
 have hb1 : bs[1]? = some (m : Int) := by
  have h1 : bs[1]? = some bs[1] := List.getElem?_eq_getElem (by omega)
  have h2 := hby _ (List.mem_of_getElem? h1)
  have h3 : bs.getD 1 0 = bs[1] := by rw [List.getD_eq_getElem?_getD, h1]; rfl
  rw [h1, ← hm, h3]
  congr 1
  omega
 have hk0b := hby _ (List.mem_of_getElem? hb0)
 have hm255 : m ≤ 255 := by have := hby _ (List.mem_of_getElem? hb1); omega
 have hc0 : w1.cell? ⟨g, 0, none⟩ = some (.int .u8 k0) := by
  have := ho.cells (g := g) rfl 0 (.int .u8 k0) (by simp [bv, hb0])
  rwa [Addr.add_lit, Nat.zero_add] at this
 have hc1 : w1.cell? ⟨g, 1, none⟩ = some (.int .u8 m) := by
  have := ho.cells (g := g) rfl 1 (.int .u8 m) (by simp [bv, hb1])
  rwa [Addr.add_lit, Nat.zero_add] at this
 have hmost : mostN x.sz ≤ 300 := by unfold mostN; omega
 have hd := H.out.2
 unfold decN at hd
 rw [hm, hk0] at hd
 have hcnd : (k0 ≠ 1 ∧ k0 ≠ 2) ∨ mostN x.sz < m := by
  by_cases h : (k0 ≠ 1 ∧ k0 ≠ 2) ∨ mostN x.sz < m
  ·exact h
  ·rw [if_neg h] at hd; cases hd
 have H1 := Lib.hid (And.intro hB1 hc)
 clear hB1 hc ho hby hd hg hF hm hk0 hb0 hb1 hgl hcA H HR
 by_cases e : k0 = 1 ∨ k0 = 2
 ·have hmm : mostN x.sz < m := hcnd.resolve_left fun h => e.elim h.1 h.2
  have t1 : decide ((mostN x.sz : Int) < (m : Int)) = true := decide_eq_true (by omega)
  clear hcnd
  rcases e with rfl | rfl
  all_goals
   go_wp2_with (go_at_call 85; (refine (bmost_any t p root F x w1 H1.out.1).mono ?_); rintro e w3 ⟨rfl, rfl⟩)
   go_ret2
   exact ⟨rfl, H1.out.1, H1.out.2⟩
 ·have t1 : (k0 != 1) = true := by simpa using fun h => e (.inl h)
  have t2 : (k0 != 2) = true := by simpa using fun h => e (.inr h)
  clear hcnd e
  go_wp2_with fail
  go_ret2
  exact ⟨rfl, H1.out.1, H1.out.2⟩
theorem bload_wild (t p root q : Nat) (F : Nat → Prop) (x : Rp) (w : World) (h : BT w t p root F x) :
  Calls Tryz.prog 38 #[.pointer (some ⟨t, 0, none⟩), .int .i64 q] w fun e w' => (∃ r : Int, (r = 14 ∨ r = 22) ∧ e = .returned (.tuple #[.pointer none, .int .i64 r]) ∧ BT w' t p root F x ∧ Chg F w w') ∨ ∃ nd, nd.Fit x.sz ∧ LdOut w w' t p root q F x nd e := by
 by_cases hq : q < x.now.length
 ·obtain ⟨c, hc⟩ : ∃ c, x.now[q]? = some c := ⟨_, List.getElem?_eq_getElem hq⟩
  by_cases hu : c.used = true
  ·cases hd : decN (c.bytes x.sz) x.sz with
   | none => exact (bload_bad t p root q F x c w h hc hu hd).mono fun e w' ⟨h1, h2, h3⟩ => .inl ⟨22, .inr rfl, h1, h2, h3⟩
   | some nd => exact (bload_any t p root q F x c nd w h hc hu hd).mono fun e w' h1 => .inr ⟨nd, (h.gp.fit (Rp.nd_is hc hu hd)).1, h1⟩
  ·have hno : c = .no := by cases c <;> simp_all [Pk.used]
   exact (bload_none t p root q F x w h (.inr (.inr (by rw [Int.toNat_natCast, hc, hno])))).mono fun e w' ⟨h1, h2⟩ => .inl ⟨14, .inl rfl, h1, h2 ▸ h, h2 ▸ Chg.refl _ _⟩
 ·exact (bload_none t p root q F x w h (.inr (.inl (by omega)))).mono fun e w' ⟨h1, h2⟩ => .inl ⟨14, .inl rfl, h1, h2 ▸ h, h2 ▸ Chg.refl _ _⟩
end Go.Proofs.YtpkkcicaeldodaaGreatDoor

namespace Go.Proofs.YtpkkcicaeldodaaGreatDoor
open Go.RowKit Go.Maps

set_option maxRecDepth 100000 in
set_option maxHeartbeats 1600000 in
theorem bsearch_wild (l : List Int) (x : Int) (A : Option Addr) (c : Nat) (w : World) (hs : Sl w 1 A l.length (l.map (Value.int .i64))) (hl : l.length ≤ 4096) :
  Calls Tryz.prog 87 #[.slice A l.length c, .int .i64 x] w fun e w' => (∃ (i : Nat) (f : Bool), e = .returned (.tuple #[.int .i64 i, .bool f]) ∧ i ≤ l.length ∧ (f = true → i < l.length)) ∧ Grew w w' := by
 have hls : ∀ (a b : Int) (w : World), Calls Tryz.prog 117 #[.int .i64 a, .int .i64 b] w fun e w' => e = .returned (.bool (decide (a < b))) ∧ w' = w := fun a b w => Any.cmp_Less_int2 { searchInt with } a b w
 have hnn : ∀ (a : Int) (w : World), Calls Tryz.prog 118 #[.int .i64 a] w fun e w' => e = .returned (.bool false) ∧ w' = w := fun a w => Any.slices_isNaN_int2 { searchInt with } a w
 have H := Lib.hid (And.intro hls (And.intro hnn hs))
 clear hls hnn hs
 go_enter Tryz.func87, Tryz.ntmps87
 go_wp2_with fail
 go_loopg [7, 8] (l.length) (fun g s7 s8 wr => ∃ lo hi : Nat, s7 = .int .i64 lo ∧ s8 = .int .i64 hi ∧ lo ≤ hi ∧ hi ≤ l.length ∧ hi - lo ≤ g ∧ Grew w wr)
 case atStart => exact ⟨0, l.length, rfl, rfl, Nat.zero_le _, Nat.le_refl _, by omega, Chg.refl _ _⟩
 case round =>
  obtain ⟨lo, hi, rfl, rfl, hlh, hin, hg, hG⟩ := hrel
  have HG := Lib.hid hG
  clear hG
  by_cases hlt : lo < hi
  ·obtain ⟨y, hy⟩ : ∃ y, l[(lo + hi) / 2]? = some y := ⟨_, List.getElem?_eq_getElem (by omega)⟩
   obtain ⟨gg, off, rfl, hgl, hx⟩ := (H.out.2.2.grew HG.out).2 (by omega)
   have cm : wr.cell? ⟨gg, off + (lo + hi) / 2, none⟩ = some (.int .i64 y) := hx _ _ (by simp [hy])
   clear hx hgl hy
   by_cases hyx : y < x
   ·go_wp2_with (go_at_call 117; refine (H.out.1 _ _ _).mono ?_; rintro e w' ⟨rfl, rfl⟩)
    go_roundg (hi - ((lo + hi) / 2 + 1))
    case measure => omega
    case rel => exact ⟨(lo + hi) / 2 + 1, hi, by rw [show ((lo : Int) + (hi : Int)) / 2 + 1 = (((lo + hi) / 2 + 1 : Nat) : Int) by omega], rfl, by omega, hin, Nat.le_refl _, HG.out⟩
   ·go_wp2_with (go_at_call 117; refine (H.out.1 _ _ _).mono ?_; rintro e w' ⟨rfl, rfl⟩)
    go_roundg ((lo + hi) / 2 - lo)
    case measure => omega
    case rel => exact ⟨lo, (lo + hi) / 2, rfl, by rw [show ((lo : Int) + (hi : Int)) / 2 = (((lo + hi) / 2 : Nat) : Int) by omega], by omega, by omega, Nat.le_refl _, HG.out⟩
  ·obtain rfl : hi = lo := by omega
   by_cases hn : hi < l.length
   ·obtain ⟨y, hy⟩ : ∃ y, l[hi]? = some y := ⟨_, List.getElem?_eq_getElem hn⟩
    obtain ⟨gg, off, rfl, hgl, hx⟩ := (H.out.2.2.grew HG.out).2 (by omega)
    have cm : wr.cell? ⟨gg, off + hi, none⟩ = some (.int .i64 y) := hx _ _ (by simp [hy])
    clear hx hgl hy
    by_cases hyx : y = x
    ·have hxx : (y == x) = true := by simpa using hyx
     clear hyx
     go_wp2_with (go_at_call 118; refine (H.out.2.1 _ _).mono ?_; rintro e w' ⟨rfl, rfl⟩)
     go_ret2
     exact ⟨⟨hi, _, rfl, by omega, fun _ => hn⟩, HG.out⟩
    ·have hxx : (y == x) = false := by simpa using hyx
     clear hyx
     go_wp2_with (go_at_call 118; refine (H.out.2.1 _ _).mono ?_; rintro e w' ⟨rfl, rfl⟩)
     go_ret2
     exact ⟨⟨hi, _, rfl, by omega, fun _ => hn⟩, HG.out⟩
   ·go_wp2_with fail
    go_ret2
    exact ⟨⟨hi, false, by simp [*], by omega, fun h => by cases h⟩, HG.out⟩
theorem bplace_wild (b q : Nat) (nd : Nd) (N : Nat → Prop) (k : Int) (w : World) (h : NdAt w N b q nd) (hl : nd.keys.length ≤ 4096) :
  Calls Tryz.prog 42 #[.pointer (some ⟨b, 0, none⟩), .int .i64 k] w fun e w' => (∃ (i : Nat) (f : Bool), e = .returned (.tuple #[.int .i64 i, .bool f]) ∧ i ≤ nd.keys.length ∧ (f = true → i < nd.keys.length)) ∧ Grew w w' := by
 obtain ⟨Ak, ck, Av, cv, Ac, cc, h1, h2, -⟩ := h
 obtain ⟨c0, f0, s0⟩ := h1.facts
 have HB := Lib.hid (bsearch_wild nd.keys k Ak ck w h2 hl)
 clear h1 h2
 go_enter Tryz.func42, Tryz.ntmps42
 go_wp2_with fail
 refine HB.out.mono ?_
 rintro e w1 ⟨⟨i, f, rfl, h1, h2⟩, hg⟩
 have HG := Lib.hid (And.intro h1 (And.intro h2 hg))
 clear hg h1 h2
 go_wp2_with fail
 go_ret2
 exact ⟨⟨i, f, rfl, HG.out.1, HG.out.2.1⟩, HG.out.2.2⟩
def WyW (w w' : World) (t p root : Nat) (F : Nat → Prop) (x : Rp) (e : Ending) : Prop :=
 BT w' t p root F x ∧ Chg F w w' ∧ ((∃ r : Int, (r = 14 ∨ r = 22) ∧ e = .returned (.tuple #[.pointer none, .int .i64 0, .bool false, .int .i64 r])) ∨
  ∃ (b q i : Nat) (N : Nat → Prop) (nd : Nd) (f : Bool), e = .returned (.tuple #[.pointer (some ⟨b, 0, none⟩), .int .i64 i, .bool f, .int .i64 0]) ∧ NdAt w' N b q nd ∧ nd.Fit x.sz ∧ (f = true → i < nd.keys.length))
set_option maxRecDepth 100000 in
set_option maxHeartbeats 3200000 in
theorem bway_wild (t p root : Nat) (k : Int) (F : Nat → Prop) (x : Rp) (w : World) (hb : BT w t p root F x) (hr : root < 65536) :
  Calls Tryz.prog 36 #[.pointer (some ⟨t, 0, none⟩), .int .i64 k] w fun e w' => WyW w w' t p root F x e := by
 obtain ⟨c0, f0, s0⟩ := hb.blk.facts
 have H := Lib.hid hb
 have hz := hb.gp.szs
 obtain ⟨z1, z2, z3, z4, -⟩ := hz
 clear hb
 go_enter Tryz.func36, Tryz.ntmps36
 go_wp2
 clear c0 f0 s0
 go_loopg [8, 17] 41 (fun q pg i wr => ∃ (c j : Nat), q = 41 - j ∧ j ≤ 40 ∧ pg = .int .i64 c ∧ c < 65536 ∧ i = .int .i64 j ∧ BT wr t p root F x ∧ Chg F w wr)
 case atStart => exact ⟨root, 0, rfl, by omega, rfl, hr, rfl, H.out, Chg.refl _ _⟩
 case round =>
  obtain ⟨c, j, rfl, hj, rfl, hc16, rfl, hbt, hc⟩ := hrel
  by_cases hj40 : j = 40
  ·subst hj40
   have HJ := Lib.hid (And.intro hbt hc)
   clear hbt hc
   go_wp2_with fail
   refine bodyPost_ret (v := .tuple #[.pointer none, .int .i64 0, .bool false, .int .i64 22]) (by simp [results, Tryz.results36, go_sem]) rfl ?_
   exact ⟨HJ.out.1, HJ.out.2, .inl ⟨22, .inr rfl, rfl⟩⟩
  have hjl : (j : Int) < 40 := by omega
  have hld := bload_wild t p root c F x wr hbt
  have HW := Lib.hid (And.intro hld hc)
  clear hbt hc hld hj hj40
  go_wp2_with fail
  refine HW.out.1.mono ?_
  rintro e w3 (⟨r, hr, rfl, hbt3, hc3⟩ | ⟨nd, hft, b, N, rfl, hnd, hNn, hbt3, hc3⟩)
  ·have H3 := Lib.hid (And.intro hr (And.intro hbt3 hc3))
   have hr0 : (r != 0) = true := by rcases hr with rfl | rfl <;> rfl
   clear hr hbt3 hc3
   go_wp2_with fail
   refine bodyPost_ret (v := .tuple #[.pointer none, .int .i64 0, .bool false, .int .i64 r]) (by simp [results, Tryz.results36, go_sem]) rfl ?_
   exact ⟨H3.out.2.1, Chg.trans HW.out.2 H3.out.2.2 fun _ _ e => e, .inl ⟨r, H3.out.1, rfl⟩⟩
  have hkl : nd.keys.length ≤ 300 := by have h1 := hft.most; unfold mostN at h1; omega
  have hpl := bplace_wild b c nd N k w3 hnd.at (by omega)
  have H3 := Lib.hid (And.intro hpl (And.intro hnd (And.intro hft (And.intro hbt3 hc3))))
  clear hpl hnd hNn hbt3 hc3 hft
  go_wp2_with fail
  refine H3.out.1.mono ?_
  rintro e w4 ⟨⟨ii, fb, rfl, hi1, hi2⟩, hg4⟩
  have hlf := leaf_any b c nd N w4 (H3.out.2.1.at.grew hg4)
  have H4 := Lib.hid (And.intro hlf (And.intro hg4 hi2))
  clear hlf hg4 hi2
  cases fb with
  | true =>
   go_wp2_with fail
   refine bodyPost_ret (v := .tuple #[.pointer (some ⟨b, 0, none⟩), .int .i64 (ii : Nat), .bool true, .int .i64 0]) (by simp [results, Tryz.results36, go_sem]) rfl ?_
   exact ⟨H3.out.2.2.2.1.grew H4.out.2.1, (Chg.trans HW.out.2 H3.out.2.2.2.2 fun _ _ e => e).grew H4.out.2.1, .inr ⟨b, c, ii, N, nd, true, rfl, H3.out.2.1.at.grew H4.out.2.1, H3.out.2.2.1, fun _ => H4.out.2.2 (by trivial)⟩⟩
  | false =>
   by_cases h0 : nd.kids.length = 0
   ·have t1 : decide (nd.kids.length = 0) = true := decide_eq_true h0
    go_wp2_with (go_at_call 41; (refine H4.out.1.mono ?_); rintro e w5 ⟨rfl, rfl⟩)
    refine bodyPost_ret (v := .tuple #[.pointer (some ⟨b, 0, none⟩), .int .i64 (ii : Nat), .bool false, .int .i64 0]) (by simp [results, Tryz.results36, go_sem]) rfl ?_
    exact ⟨H3.out.2.2.2.1.grew H4.out.2.1, (Chg.trans HW.out.2 H3.out.2.2.2.2 fun _ _ e => e).grew H4.out.2.1, .inr ⟨b, c, ii, N, nd, false, rfl, H3.out.2.1.at.grew H4.out.2.1, H3.out.2.2.1, fun h => by cases h⟩⟩
   ·have t1 : decide (nd.kids.length = 0) = false := decide_eq_false h0
    have hkk : nd.kids.length = nd.keys.length + 1 := H3.out.2.2.1.kids.resolve_left h0
    obtain ⟨c2, hc2⟩ : ∃ c2, nd.kids[ii]? = some c2 := ⟨_, List.getElem?_eq_getElem (by omega)⟩
    have hc216 := H3.out.2.2.1.ci c2 (List.mem_of_getElem? hc2)
    obtain ⟨Ak, ck, Av, cv, Ac, cc, b1, -, -, b4, -⟩ := H3.out.2.1.at.grew H4.out.2.1
    obtain ⟨c0, f0, s0⟩ := b1.facts
    obtain ⟨g, off, rfl, hgl, hx⟩ := b4.2 (by omega)
    have hce : w4.cell? ⟨g, off + ii, none⟩ = some (.int .i64 c2) := hx ii _ (by simp [nv, hc2])
    have hil : ii < nd.kids.length := (List.getElem?_eq_some_iff.1 hc2).1
    clear b1 b4 hx hc2 hgl
    go_wp2_with (go_at_call 41; (refine H4.out.1.mono ?_); rintro e w5 ⟨rfl, rfl⟩)
    clear c0 f0 s0 hce
    go_roundg (41 - (j + 1))
    case measure => omega
    case rel => exact ⟨c2, j + 1, rfl, by omega, rfl, hc216, by simp, H3.out.2.2.2.1.grew H4.out.2.1, (Chg.trans HW.out.2 H3.out.2.2.2.2 fun _ _ e => e).grew H4.out.2.1⟩
set_option maxRecDepth 100000 in
set_option maxHeartbeats 1600000 in
theorem bget_wild (t p root : Nat) (k : Int) (F : Nat → Prop) (x : Rp) (w : World) (hb : BT w t p root F x) (hr : root < 65536) :
  Calls Tryz.prog 23 #[.pointer (some ⟨t, 0, none⟩), .int .i64 k] w fun e w' => (∃ v r : Int, e = .returned (.tuple #[.int .i64 v, .int .i64 r])) ∧ BT w' t p root F x ∧ Chg F w w' := by
 have H := Lib.hid (bway_wild t p root k F x w hb hr)
 have hz := hb.gp.szs
 obtain ⟨z1, z2, z3, z4, -⟩ := hz
 clear hb
 go_enter Tryz.func23, Tryz.ntmps23
 go_wp2_with fail
 refine H.out.mono ?_
 rintro e w1 ⟨hbt, hc, ⟨r, hr, rfl⟩ | ⟨b, q, i, N, nd, f, rfl, hnd, hft, hif⟩⟩
 ·have H1 := Lib.hid (And.intro hbt hc)
  have hr0 : (r != 0) = true := by rcases hr with rfl | rfl <;> rfl
  clear hbt hc hr
  go_wp2_with fail
  go_ret2
  exact ⟨⟨_, _, rfl⟩, H1.out.1, H1.out.2⟩
 ·cases f with
  | false =>
   have H1 := Lib.hid (And.intro hbt hc)
   clear hbt hc hnd hft hif
   go_wp2_with fail
   go_ret2
   exact ⟨⟨_, _, rfl⟩, H1.out.1, H1.out.2⟩
  | true =>
   have hil : i < nd.vals.length := by rw [hft.vals]; exact hif rfl
   have hil2 : nd.vals.length ≤ 300 := by rw [hft.vals]; have h1 := hft.most; unfold mostN at h1; omega
   obtain ⟨v, hv⟩ : ∃ v, nd.vals[i]? = some v := ⟨_, List.getElem?_eq_getElem hil⟩
   obtain ⟨Ak, ck, Av, cv, Ac, cc, b1, -, b3, -⟩ := hnd
   obtain ⟨c0, f0, s0⟩ := b1.facts
   obtain ⟨g, off, rfl, hgl, hx⟩ := b3.2 (by omega)
   have hce : w1.cell? ⟨g, off + i, none⟩ = some (.int .i64 v) := hx i _ (by simp [iv, hv])
   have H1 := Lib.hid (And.intro hbt hc)
   clear hbt hc b1 b3 hx hv hgl hft hif
   go_wp2_with fail
   go_ret2
   exact ⟨⟨_, _, rfl⟩, H1.out.1, H1.out.2⟩
end Go.Proofs.YtpkkcicaeldodaaGreatDoor

namespace Go.Proofs.YtpkkcicaeldodaaGreatDoor
open Go.RowKit Go.Maps

def Rp.bad (x : Rp) (q : Nat) : Prop := ∃ c, x.now[q]? = some c ∧ c.used = true ∧ decN (c.bytes x.sz) x.sz = none
section
variable {t p root : Nat} {F : Nat → Prop} {x : Rp} {w : World}
theorem bload_bad' (h : BT w t p root F x) (hx : x.bad root) :
  Calls Tryz.prog 38 #[.pointer (some ⟨t, 0, none⟩), .int .i64 root] w fun e w' => e = .returned (.tuple #[.pointer none, .int .i64 22]) ∧ BT w' t p root F x ∧ Chg F w w' := by
 obtain ⟨c, h1, h2, h3⟩ := hx
 exact bload_bad t p root root F x c w h h1 h2 h3
theorem bad_lt (h : BT w t p root F x) (hx : x.bad root) : root < 4096 := by
 obtain ⟨c, h1, -⟩ := hx
 have := (List.getElem?_eq_some_iff.1 h1).1
 have := h.gp.szs
 omega
set_option maxRecDepth 100000 in
set_option maxHeartbeats 1600000 in
theorem bway_bad (k : Int) (h : BT w t p root F x) (hx : x.bad root) :
  Calls Tryz.prog 36 #[.pointer (some ⟨t, 0, none⟩), .int .i64 k] w fun e w' => e = .returned (.tuple #[.pointer none, .int .i64 0, .bool false, .int .i64 22]) ∧ BT w' t p root F x ∧ Chg F w w' := by
 obtain ⟨c0, f0, s0⟩ := h.blk.facts
 have H := Lib.hid (bload_bad' h hx)
 have hlt := bad_lt h hx
 clear h hx
 go_enter Tryz.func36, Tryz.ntmps36
 go_wp2
 clear c0 f0 s0
 go_loopg [8, 17] 1 (fun q pg i wr => q = 1 ∧ pg = .int .i64 root ∧ i = .int .i64 0 ∧ w = wr)
 case atStart => exact ⟨rfl, rfl, rfl, rfl⟩
 case round =>
  obtain ⟨rfl, rfl, rfl, rfl⟩ := hrel
  go_wp2_with fail
  refine H.out.mono ?_
  rintro e w3 ⟨rfl, hb3, hc3⟩
  have H3 := Lib.hid (And.intro hb3 hc3)
  clear hb3 hc3
  go_wp2_with fail
  refine bodyPost_ret (v := .tuple #[.pointer none, .int .i64 0, .bool false, .int .i64 22]) (by simp [results, Tryz.results36, go_sem]) rfl ?_
  exact ⟨rfl, H3.out⟩
set_option maxRecDepth 100000 in
set_option maxHeartbeats 1600000 in
theorem bget_bad (k : Int) (h : BT w t p root F x) (hx : x.bad root) :
  Calls Tryz.prog 23 #[.pointer (some ⟨t, 0, none⟩), .int .i64 k] w fun e w' => e = .returned (.tuple #[.int .i64 0, .int .i64 22]) ∧ BT w' t p root F x ∧ Chg F w w' := by
 have H := Lib.hid (bway_bad k h hx)
 clear h hx
 go_enter Tryz.func23, Tryz.ntmps23
 go_wp2_with fail
 refine H.out.mono ?_
 rintro e w1 ⟨rfl, hb, hc⟩
 have H1 := Lib.hid (And.intro hb hc)
 clear hb hc
 go_wp2_with fail
 go_ret2
 exact ⟨rfl, H1.out⟩
set_option maxRecDepth 100000 in
set_option maxHeartbeats 1600000 in
theorem blook_bad (deep : Nat) (vlo vhi : Value) (sb : Nat) (h : BT w t p root F x) (hx : x.bad root) :
  Calls Tryz.prog 47 #[.pointer (some ⟨t, 0, none⟩), .int .i64 root, .int .i64 deep, vlo, vhi, .map (some sb)] w fun e w' => e = .returned (.tuple #[.int .i64 0, .bool false]) ∧ BT w' t p root F x ∧ Chg F w w' := by
 have H := Lib.hid (bload_bad' h hx)
 have hlt := bad_lt h hx
 clear h hx
 go_enter Tryz.func47, Tryz.ntmps47
 go_wp2_with fail
 refine H.out.mono ?_
 rintro e w2 ⟨rfl, hb, hc⟩
 have H1 := Lib.hid (And.intro hb hc)
 clear hb hc
 go_wp2_with fail
 go_ret2
 exact ⟨rfl, H1.out⟩
set_option maxRecDepth 100000 in
set_option maxHeartbeats 1600000 in
theorem bcheck_bad (h : BT w t p root F x) (hx : x.bad root) :
  Calls Tryz.prog 14 #[.pointer (some ⟨t, 0, none⟩)] w fun e w' => e = .returned (.bool false) ∧ BT w' t p root F x ∧ Chg F w w' := by
 obtain ⟨W1, hW1⟩ : ∃ W, w.alloc (.map #[] 0) = W := ⟨_, rfl⟩
 have hg1 : Grew w W1 := hW1 ▸ (Chg.refl _ _).alloc _
 have hlk := blook_bad 0 (.pointer none) (.pointer none) w.heap.size (h.grew hg1) hx
 rw [show ((0 : Nat) : Int) = 0 from rfl] at hlk
 have hmm := @run_makeMap Tryz.prog
 obtain ⟨c0, f0, s0⟩ := (h.grew hg1).blk.facts
 have c1 := h.blk.cell 1
 have H := Lib.hid (And.intro hlk (And.intro hW1 hg1))
 clear hlk hg1 hW1 h hx
 go_enter Tryz.func14, Tryz.ntmps14
 go_wp2_with (rw [H.out.2.1])
 refine H.out.1.mono ?_
 rintro e w2 ⟨rfl, hb2, hc2⟩
 have hc3 : Chg F w w2 := (Chg.trans (F := F) H.out.2.2.chg hc2 fun j _ e => e)
 have H2 := Lib.hid (And.intro hb2 hc3)
 clear hb2 hc2 hc3 c0 f0 s0
 go_wp2_with fail
 go_ret
 exact ⟨rfl, H2.out⟩
set_option maxRecDepth 100000 in
set_option maxHeartbeats 1600000 in
theorem bpages1_bad (h : BT w t p root F x) (hx : x.bad root) :
  Calls Tryz.prog 52 #[.pointer (some ⟨t, 0, none⟩), .slice none 0 0, .int .i64 root, .int .i64 0] w fun e w' => e = .returned (.slice none 0 0) ∧ BT w' t p root F x ∧ Chg F w w' := by
 have H := Lib.hid (bload_bad' h hx)
 have hlt := bad_lt h hx
 clear h hx
 go_enter Tryz.func52, Tryz.ntmps52
 go_wp2_with fail
 refine H.out.mono ?_
 rintro e w2 ⟨rfl, hb, hc⟩
 have H1 := Lib.hid (And.intro hb hc)
 clear hb hc
 go_wp2_with fail
 go_ret
 exact ⟨rfl, H1.out⟩
set_option maxRecDepth 100000 in
set_option maxHeartbeats 1600000 in
theorem bpages_bad (h : BT w t p root F x) (hx : x.bad root) :
  Calls Tryz.prog 19 #[.pointer (some ⟨t, 0, none⟩)] w fun e w' => e = .returned (.slice none 0 0) ∧ BT w' t p root F x ∧ Chg F w w' := by
 have H := Lib.hid (bpages1_bad h hx)
 obtain ⟨c0, f0, s0⟩ := h.blk.facts
 have hlt := bad_lt h hx
 have hso : ∀ w : World, Calls Tryz.prog 53 #[.slice none 0 0] w fun e w' => e = .returned (.tuple #[]) ∧ w' = w := fun w => Any.slices_Sort_int_none sortInt none 0 w
 have HS := Lib.hid hso
 clear h hx hso
 go_enter Tryz.func19, Tryz.ntmps19
 go_wp2_with fail
 refine H.out.mono ?_
 rintro e w2 ⟨rfl, hb, hc⟩
 have H1 := Lib.hid (And.intro hb hc)
 clear hb hc c0 f0 s0
 go_wp2_with fail
 refine (HS.out w2).mono ?_
 rintro e w3 ⟨rfl, rfl⟩
 go_wp2_with fail
 go_ret
 exact ⟨rfl, H1.out⟩
set_option maxRecDepth 100000 in
set_option maxHeartbeats 1600000 in
theorem bwalk_bad (lb y : Nat) (from_ : Int) (m : Nat) (h : BT w t p root F x) (hx : x.bad root) (hl : Blk w lb 3 #[.int .i64 m]) (h1 : 1 ≤ m ∧ m ≤ 65536) (hf : ¬ F lb ∧ lb ≠ t ∧ lb ≠ 0) :
  Calls Tryz.prog 50 #[.pointer (some ⟨t, 0, none⟩), .int .i64 root, .int .i64 from_, .pointer (some ⟨lb, 0, none⟩), .func (.yield y) #[] #[]] w fun e w' => e = .returned (.bool false) ∧ BT w' t p root F x ∧ Chg (fun j => F j ∨ j = lb) w w' := by
 obtain ⟨m1, rfl⟩ : ∃ m1, m = m1 + 1 := ⟨m - 1, by omega⟩
 obtain ⟨W1, hW1⟩ : ∃ W, w.setCell ⟨lb, 0, none⟩ (.int .i64 m1) = W := ⟨_, rfl⟩
 have hc1 : Chg (fun j => j = lb) w W1 := hW1 ▸ (Chg.refl (fun j => j = lb) w).setCell (p := ⟨lb, 0, none⟩) (fun _ => rfl) _
 have hb1 := h.chg hc1 (fun j hj e => hf.1 (e ▸ hj)) (fun e => hf.2.2 e.symm) (fun e => hf.2.1 e.symm)
 have hlt := bad_lt h hx
 have hm1 : ((m1 + 1 : Nat) : Int) - 1 = (m1 : Int) := by omega
 obtain ⟨c0, f0, s0⟩ := hl.facts
 have H := Lib.hid (And.intro (bload_bad' hb1 hx) (And.intro hW1 hc1))
 clear h hx hl hW1 hc1 hb1
 go_enter Tryz.func50, Tryz.ntmps50
 go_wp2_with fail
 try rw [hm1]
 rw [H.out.2.1]
 refine H.out.1.mono ?_
 rintro e w2 ⟨rfl, hb, hc⟩
 have H1 := Lib.hid (And.intro hb hc)
 clear hb hc c0 f0 s0
 go_wp2_with fail
 go_ret
 exact ⟨rfl, H1.out.1, Chg.trans (H.out.2.2.mono fun j _ e => .inr e) H1.out.2 fun j _ e => .inl e⟩
end
end Go.Proofs.YtpkkcicaeldodaaGreatDoor

namespace Go.Proofs.YtpkkcicaeldodaaGreatDoor
open Go.RowKit Go.Maps
attribute [local go_sem] Oper.semAt_some

set_option maxRecDepth 100000 in
set_option maxHeartbeats 1600000 in
theorem beach_bad (bt bf t p root y : Nat) (from_ : Int) (F : Nat → Prop) (x : Rp) (J : World → Prop) (w : World) (hx : x.bad root) (hbt : BT w t p root F x) (hbb : Blk w bt 24 #[.pointer (some ⟨t, 0, none⟩)]) (hbf : Blk w bf 3 #[.int .i64 from_]) (hFb : ¬ F bt ∧ ¬ F bf)
  (hst : ∀ W', Chg (fun j => F j ∨ w.heap.size ≤ j) w W' → BT W' t p root F x → J W') :
  Calls Tryz.prog 48 #[.func (.yield y) #[] #[], .pointer (some ⟨bt, 0, none⟩), .pointer (some ⟨bf, 0, none⟩)] w fun e w' => IterEnd J (fun _ => False) e w' := by
 have hcap := bcap_any p F x w hbt.gp
 obtain ⟨W1, hW1⟩ : ∃ W, w.alloc (.cells #[.int .i64 x.now.length] 3) = W := ⟨_, rfl⟩
 have hg1 : Grew w W1 := hW1 ▸ (Chg.refl _ _).alloc _
 have hl1 : Blk W1 w.heap.size 3 #[.int .i64 x.now.length] := hW1 ▸ Blk.new _ _ _
 have hn4 := hbt.gp.szs.2.2.2.2.2
 have hpos := tab_pos hbt.gp.tab
 have hFl := hbt.gp.lt
 have htl := hbt.blk.lt
 have hxl : 1 ≤ x.now.length := by obtain ⟨c, h1, -⟩ := hx; have := (List.getElem?_eq_some_iff.1 h1).1; omega
 have hb1 := hbt.grew hg1.drew
 have hwk := bwalk_bad w.heap.size y from_ x.now.length hb1 hx hl1.drew (by omega) ⟨fun e => by have := hFl _ e; omega, by omega, by omega⟩
 have hend : ∀ w3, BT w3 t p root F x → Chg (fun j => F j ∨ j = w.heap.size) W1.drew w3 → J w3 ∧ w3.cell? ⟨bt, 0, none⟩ = some (.pointer (some ⟨t, 0, none⟩)) ∧ w3.cell? ⟨bf, 0, none⟩ = some (.int .i64 from_) ∧ w3.cell? ⟨t, 1, none⟩ = some (.int .i64 root) := fun w3 h3 hc3 => by
  have h1 := hbb.lt
  have h2 := hbf.lt
  exact ⟨hst w3 (Chg.trans (F := fun j => F j ∨ w.heap.size ≤ j) hg1.chg.drew hc3 fun j _ e => e.elim .inl fun e => .inr (by omega)) h3, ((hbb.grew hg1.drew).chg hc3 fun e => e.elim hFb.1 fun e => by omega).cell 0, ((hbf.grew hg1.drew).chg hc3 fun e => e.elim hFb.2 fun e => by omega).cell 0, h3.blk.cell 1⟩
 obtain ⟨c0, f0, s0⟩ := hbb.facts
 obtain ⟨c1, f1, s1⟩ := hbf.facts
 obtain ⟨c2, f2, s2⟩ := hbt.blk.facts
 have hS : W1.drew.cell? ⟨bt, 0, none⟩ = some (.pointer (some ⟨t, 0, none⟩)) ∧ W1.drew.cell? ⟨bf, 0, none⟩ = some (.int .i64 from_) ∧ W1.drew.cell? ⟨t, 1, none⟩ = some (.int .i64 root) := ⟨(hbb.grew hg1).drew.cell 0, (hbf.grew hg1).drew.cell 0, (hbt.blk.grew hg1).drew.cell 1⟩
 have H := Lib.hid (And.intro hcap (And.intro hwk (And.intro hS (And.intro hW1 hend))))
 clear hcap hwk hS hW1 hend hst hbt hbb hbf hg1 hl1 hb1 hx hFb
 (refine (callsIn_wide (n := 1)).1 (callsIn_of_wp Tryz.func48 rfl trivial ?_ rfl); simp only [Tryz.ntmps48, List.size_toArray, List.length_cons, List.length_nil, Nat.reduceAdd, Nat.reduceSub, Array.replicate_succ, Array.replicate_zero, List.push_toArray, List.append_toArray, List.nil_append, List.cons_append])
 gi_wp2_with (refine ⟨trivial, ?_⟩; gi_at_call 49; refine (callsIn_wide.2 H.out.1).mono ?_; rintro e w5 ⟨rfl, rfl⟩)
 rw [H.out.2.2.2.1]
 have hS := H.out.2.2.1
 refine wpIn_region_inH (S := fun w' => w'.cell? ⟨bt, 0, none⟩ = some (.pointer (some ⟨t, 0, none⟩)) ∧ w'.cell? ⟨bf, 0, none⟩ = some (.int .i64 from_) ∧ w'.cell? ⟨t, 1, none⟩ = some (.int .i64 root)) (by kernel_rfl) hS (fun hHeld => ?_)
 refine Todo.out (is := [0, 1, 2, 3, 4, 5, 6]) ?_
 repeat
  refine tkF (v := ?_) rfl (by kernel_rfl) (by kernel_rfl) (by kernel_rfl) (fun _ _ _ h => h) ⟨Or.inl ⟨by rfl, ?_⟩, fun _ => rfl⟩ hHeld ?_
  rotate_left
  ·(intro w hSw; (try dsimp only at hSw); go_simp) <;> with_reducible rfl
  (try simp only [Act.put, lA, lB, lC, lD, lE, lF])
 refine Todo.fin ?_
 refine rdF (i := 7) (by kernel_rfl) rfl fun K hK => ?_
 go_simp
 refine ⟨trivial, (callsIn_wide.2 H.out.2.1).mono ?_⟩
 rintro e w3 ⟨rfl, hb3, hc3⟩
 obtain ⟨hj3, g1⟩ := H.out.2.2.2.2 w3 hb3 hc3
 have HJ := Lib.hid hj3
 refine hK _ _ g1 ?_
 clear hK K hj3
 refine wpAnyInH_done (by kernel_rfl) ?_ _
 gi_wp2
 exact bodyPost_end (results_none rfl _ _ _) rfl ⟨⟨_, rfl⟩, .inl HJ.out⟩
set_option maxRecDepth 100000 in
set_option maxHeartbeats 3200000 in
theorem blen_bad (t p root : Nat) (F : Nat → Prop) (x : Rp) (w : World) (hb : BT w t p root F x) (hs : x.bad root) :
  Calls Tryz.prog 24 #[.pointer (some ⟨t, 0, none⟩)] w fun e w' => e = .returned (.int .i64 0) ∧ BT w' t p root F x ∧ Chg F w w' := by
 obtain ⟨W0, hW0⟩ : ∃ W0, w.alloc (.cells #[.int .i64 0] 3) = W0 := ⟨_, rfl⟩
 obtain ⟨W1, hW1⟩ : ∃ W1, (W0.alloc (.cells #[.pointer (some ⟨t, 0, none⟩)] 24)).alloc (.cells #[.int .i64 (-9223372036854775808)] 3) = W1 := ⟨_, rfl⟩
 have hz0 : W0.heap.size = w.heap.size + 1 := by subst hW0; simp
 have hz1 : W1.heap.size = w.heap.size + 3 := by subst hW1; simp [hz0]
 have hg0 : Grew w W0 := hW0 ▸ (Chg.refl _ _).alloc _
 have hg1 : Grew W0 W1 := hW1 ▸ ((Chg.refl _ _).alloc _).alloc _
 have hn1 : Blk W1 w.heap.size 3 #[.int .i64 0] := (show Blk W0 w.heap.size 3 #[.int .i64 0] from hW0 ▸ Blk.new _ _ _).grew hg1
 have hb1 : Blk W1 (w.heap.size + 1) 24 #[.pointer (some ⟨t, 0, none⟩)] := by
  have := (Blk.new W0 24 #[.pointer (some ⟨t, 0, none⟩)]).alloc (.cells #[.int .i64 (-9223372036854775808)] 3)
  rw [hW1, hz0] at this
  exact this
 have hb2 : Blk W1 (w.heap.size + 2) 3 #[.int .i64 (-9223372036854775808)] := by
  have := Blk.new (W0.alloc (.cells #[.pointer (some ⟨t, 0, none⟩)] 24)) 3 #[.int .i64 (-9223372036854775808)]
  rw [hW1] at this
  simpa [hz0] using this
 have hea := beach_any t (-9223372036854775808) W0 W1 hW1
 rw [hz0] at hea
 have H := Lib.hid (And.intro hb (And.intro hs (And.intro hea (And.intro hW0 (And.intro hn1 (And.intro hb1 (And.intro hb2 (And.intro (Grew.trans hg0 hg1) hz1))))))))
 clear hb hs hea hW0 hW1 hn1 hb1 hb2 hg0 hg1 hz0 hz1
 (refine calls_of_marks Tryz.func24 rfl ?_; simp only [Tryz.ntmps24, List.size_toArray, List.length_cons, List.length_nil, Nat.reduceAdd, Nat.reduceSub, Array.replicate_succ, Array.replicate_zero, List.push_toArray, List.append_toArray, List.nil_append, List.cons_append])
 go_wp2_with fail
 rw [H.out.2.2.2.1]
 refine H.out.2.2.1.mono ?_
 rintro e w1 ⟨rfl, rfl⟩
 go_wp2_with fail
 refine wp_range (gf := 48) (lb := #[.pointer (some ⟨w.heap.size + 1, 0, none⟩), .pointer (some ⟨w.heap.size + 1 + 1, 0, none⟩)]) rfl (enters_of Tryz.func48 (by kernel_rfl) rfl) ?_
 intro r Wr D2 Lr hr hgr hDl hLl hD hR
 have hDL := Ne.symm (hR.ne_dfr hD)
 have hsr := hgr.size
 have hz1 := H.out.2.2.2.2.2.2.2.2
 have hL2 := hR.lt
 have hD2 := hD.lt
 have htl := H.out.1.blk.lt
 have hpos := tab_pos H.out.1.gp.tab
 have hFl := H.out.1.gp.lt
 have hA : LnA Wr t F (w.heap.size + 1) (w.heap.size + 2) w.heap.size Lr := ⟨⟨fun e => by have := hFl _ e; omega, by omega, by omega, by omega, by omega, by omega⟩, ⟨fun e => by have := hFl _ e; omega, by omega, by omega, by omega, by omega⟩, ⟨fun e => by have := hFl _ e; omega, fun e => by have := hFl _ e; omega⟩, ⟨hL2, by omega, by omega, by omega⟩⟩
 have hgw : Grew w Wr := Grew.trans H.out.2.2.2.2.2.2.2.1 hgr
 have hJ0 : LnJ Wr Wr t p root F x (w.heap.size + 1) (w.heap.size + 2) w.heap.size Lr 0 r .ready none := ⟨H.out.1.grew hgw, H.out.2.2.2.2.2.1.grew hgr, H.out.2.2.2.2.2.2.1.grew hgr, Chg.refl _ _, H.out.2.2.2.2.1.grew hgr, hR⟩
 have HR1 := Lib.hid (And.intro hr (And.intro hA (And.intro hJ0 (And.intro hgw hD))))
 clear hr hA hJ0 hgw hD hR hgr
 refine (beach_bad (w.heap.size + 1) (w.heap.size + 2) t p root Lr (-9223372036854775808) F x (fun W => LnJ Wr W t p root F x (w.heap.size + 1) (w.heap.size + 2) w.heap.size Lr 0 r .ready none) Wr H.out.2.1 HR1.out.2.2.1.b0 HR1.out.2.2.1.b1 HR1.out.2.2.1.b2 HR1.out.2.1.b (fun W' hc hb => HR1.out.2.2.1.far HR1.out.2.1 hc hb)).mono ?post
 case post =>
  rintro e w3 ⟨hv, hJ | hJ⟩
  ·refine ⟨hv, .inl ⟨hJ.rc, fun w4 hk4 => ?_⟩⟩
   have hc4 := Chg.trans hJ.chg hk4.chg fun i _ e => .inr (.inr e)
   have hD4 := HR1.out.2.2.2.2.chg hc4 (fun e => by rcases e with e | e | e; (have := hFl _ e; omega); omega; omega)
   have hb4 := hJ.b0.chg hk4.chg (fun j hj e => HR1.out.2.1.l.1 (e ▸ hj)) (fun e => HR1.out.2.1.l.2.2.2.2.2 e.symm) (fun e => HR1.out.2.1.l.2.1 e.symm)
   have hn4 := hJ.cnt.kept hk4
   have H4 := Lib.hid (And.intro hc4 (And.intro hD4 hb4))
   clear hc4 hD4 hb4 hJ hk4
   obtain ⟨c2, f2, s2⟩ := hn4.facts
   go_wp2
   refine postM_ret1 (v := .int .i64 0) (D := D2) H4.out.2.1 rfl fun w6 hk6 => ?_
   refine ⟨by simp [results, Tryz.results24, go_sem], rfl, ?_, ?_⟩
   ·exact H4.out.2.2.chg hk6.chg (fun j hj e => by have := hFl j hj; omega) (fun e => by omega) (fun e => by omega)
   ·have hcw := Chg.trans (F := fun j => F j ∨ w.heap.size ≤ j) (HR1.out.2.2.2.1.chg) (Chg.trans (H4.out.1.mono (G := fun j => F j ∨ w.heap.size ≤ j) fun j _ e => by rcases e with e | e | e; exact .inl e; exact .inr (by omega); exact .inr (by omega)) hk6.chg (G := fun j => j = D2) (F := fun j => F j ∨ w.heap.size ≤ j) fun j _ e => .inr (by omega)) fun j _ e => e
    exact hcw.mono fun j hj e => e.resolve_right (by omega)
  ·exact hJ.elim
end Go.Proofs.YtpkkcicaeldodaaGreatDoor

namespace Go.Proofs.YtpkkcicaeldodaaGreatDoor
open Go.RowKit Go.Maps

set_option maxRecDepth 100000 in
set_option maxHeartbeats 1600000 in
theorem bdrop_any (t p root D K : Nat) (L : List KV) (P : List Nat) (F : Nat → Prop) (x0 x : Rp) (w : World) (hb : BT w t p root F x) (hr : x0.roomy K) (hl : x0.like x) (ht : Tr x.nd (halfN x.sz) D root L P) (hnd : P.Nodup) (hD : D ≤ 40) (hP : P.length ≤ 900) (hu : x.now.countP Pk.used ≤ K) :
  Calls Tryz.prog 25 #[.pointer (some ⟨t, 0, none⟩)] w fun e w' => e = .returned (.int .i64 0) ∧ ∃ y F', BT w' t p root F' y ∧ Rch F F' w w' ∧ x0.like y ∧ y.now.countP Pk.used + P.length = x.now.countP Pk.used := by
 have hpg := bpages_any t p root D L P F x w hb ht hnd hD hP
 have hall : ∀ q ∈ P, ∃ c, x.now[q]? = some c ∧ c.used = true := fun q hq => by
  obtain ⟨nd, h1⟩ := ht.all q hq
  obtain ⟨c, h2, h3, -⟩ := Rp.nd_some h1
  exact ⟨c, h2, h3⟩
 have H := Lib.hid (And.intro hpg (And.intro hb (And.intro hr (And.intro hl (And.intro hnd (And.intro hall hu))))))
 clear hpg hb hr hl ht hnd hall hu
 go_enter Tryz.func25, Tryz.ntmps25
 go_wp2_with fail
 refine H.out.1.mono ?_
 rintro e w1 ⟨A, c, Q, hQ, rfl, hb1, ho1, hc1⟩
 have hQl := hQ.length_eq
 have hFl := H.out.2.1.gp.lt
 have hQn : Q.Nodup := hQ.nodup_iff.2 H.out.2.2.2.2.1
 have hal : ∀ q ∈ Q, ∃ c, x.now[q]? = some c ∧ c.used = true := fun q hq => H.out.2.2.2.2.2.1 q (hQ.mem_iff.1 hq)
 have H1 := Lib.hid (And.intro hb1 (And.intro ho1 (And.intro hc1 (And.intro hFl (And.intro hQn hal)))))
 clear hQ hb1 ho1 hc1 hFl hQn hal
 go_wp2_with fail
 go_loopg [9] (P.length) (fun n iv wr => ∃ (i : Nat) (y : Rp) (F' : Nat → Prop), n = P.length - i ∧ i ≤ P.length ∧ iv = .int .i64 i ∧ BT wr t p root F' y ∧ Rch F F' w1 wr ∧ x0.like y ∧ y.now.countP Pk.used + i = x.now.countP Pk.used ∧ ∀ q ∈ Q.drop i, ∃ c, y.now[q]? = some c ∧ c.used = true)
 case atStart => exact ⟨0, x, F, rfl, Nat.zero_le _, rfl, H1.out.1, ⟨Chg.refl _ _, fun j e => .inl e⟩, H.out.2.2.2.1, rfl, H1.out.2.2.2.2.2⟩
 case round =>
  obtain ⟨i, y, F', rfl, hi, rfl, hb, hrc, hlk, hcu, hus⟩ := hrel
  by_cases hlt : i < P.length
  ·obtain ⟨q, hq⟩ : ∃ q, Q[i]? = some q := ⟨_, List.getElem?_eq_getElem (by omega)⟩
   have hqd : Q.drop i = q :: Q.drop (i + 1) := by rw [List.drop_eq_getElem_cons (by omega)]; congr 1; exact (List.getElem?_eq_some_iff.1 hq).2
   obtain ⟨cq, hq1, hq2⟩ := hus q (by rw [hqd]; exact List.mem_cons_self ..)
   have hqn : q ∉ Q.drop (i + 1) := by
    have h1 := List.Nodup.sublist (List.drop_sublist i Q) H1.out.2.2.2.2.1
    rw [hqd] at h1
    exact (List.nodup_cons.1 h1).1
   have hsl : Sl wr 1 A P.length (nv Q) := (Sl.of_own H1.out.2.1).chg hrc.chg fun a ha e => by
    have h1 := (own_rng H1.out.2.1 a ha).1
    have h2 := H1.out.2.2.2.1 _ e
    omega
   obtain ⟨g, off, rfl, hg, hx⟩ := hsl.2 (by omega)
   have hck : wr.cell? ⟨g, off + i, none⟩ = some (.int .i64 q) := hx i _ (by simp [nv, hq])
   have hwas : y.was ≠ none := by rw [hlk.was]; exact H.out.2.2.1.1
   have hfr := gp_free_any p F' y wr q cq hb.gp hwas hq1 hq2
   have hsk := (never_full H.out.2.2.1 hlk (by have := H.out.2.2.2.2.2.2; omega)).1
   obtain ⟨c0, f0, s0⟩ := hb.blk.facts
   have hiI : (i : Int) < (P.length : Int) := by omega
   have hi9 : (i : Int) ≤ 1000 := by omega
   have HF := Lib.hid (And.intro hfr (And.intro hb (And.intro hrc (And.intro hlk (And.intro hcu (And.intro hus (And.intro hq1 (And.intro hq2 (And.intro hqn (And.intro hqd hsk))))))))))
   clear hfr hb hrc hlk hcu hus hq1 hq2 hqn hqd hsk hsl hg hx hq hwas
   go_wp2_with fail
   refine HF.out.1.mono ?_
   rintro e w3 (⟨rfl, hto⟩ | ⟨hns, -, -⟩)
   rotate_left
   ·have := HF.out.2.2.2.2.2.2.2.2.2.2
    exfalso
    omega
   obtain ⟨F3, hb3, hc3, hn3⟩ := HF.out.2.1.to hto
   have H3 := Lib.hid (And.intro hb3 (And.intro hc3 hn3))
   clear hto hb3 hc3 hn3 c0 f0 s0 hck
   go_wp2_with fail
   go_roundg (P.length - (i + 1))
   case measure => omega
   case rel =>
    obtain ⟨-, hb, hrc, hlk, hcu, hus, hq1, hq2, hqn, hqd, -⟩ := HF.out
    have hcnt := Rp.put_used (c := .no) hq1
    rw [if_pos hq2, if_neg (by simp [Pk.used])] at hcnt
    refine ⟨i + 1, y.put q .no, F3, rfl, by omega, by simp, H3.out.1, hrc.trans ⟨H3.out.2.1, H3.out.2.2⟩, hlk.trans (Rp.put_like _ _ _), by omega, fun r hr => ?_⟩
    obtain ⟨c, h1, h2⟩ := hus r (by rw [hqd]; exact List.mem_cons_of_mem _ hr)
    refine ⟨c, ?_, h2⟩
    rw [Rp.put_at (List.getElem?_eq_some_iff.1 hq1).1, if_neg (fun e => hqn (by rw [← e]; exact hr))]
    exact h1
  ·obtain rfl : i = P.length := by omega
   have HF := Lib.hid (And.intro hb (And.intro hrc (And.intro hlk hcu)))
   clear hb hrc hlk hcu hus hlt hi
   go_wp2_with fail
   go_ret
   obtain ⟨hb, hrc, hlk, hcu⟩ := HF.out
   have hz := H1.out.2.2.1.size
   exact ⟨rfl, y, F', hb, ⟨Chg.trans H1.out.2.2.1 hrc.chg fun j _ e => e, fun j hj => (hrc.new j hj).imp id fun e => by omega⟩, hlk, hcu⟩
end Go.Proofs.YtpkkcicaeldodaaGreatDoor

namespace Go.Proofs.YtpkkcicaeldodaaGreatDoor
open Go.RowKit Go.Maps

theorem bat_any2 (p i : Nat) (F : Nat → Prop) (x : Rp) (w : World) (h : GP w p F x) :
  Calls Tryz.prog 22 #[.pointer (some ⟨p, 0, none⟩), .int .i64 i] w fun e w' => e = .returned (.pointer (some ⟨w.heap.size, 0, none⟩)) ∧ Grew w w' ∧ BT w' w.heap.size p i F x := by
 refine (bat_any p i w _ rfl).mono ?_
 rintro e w' ⟨rfl, rfl⟩
 have hg : Grew w (w.alloc (.cells #[.pointer (some ⟨p, 0, none⟩), .int .i64 i] 78)) := (Chg.refl _ _).alloc _
 exact ⟨rfl, hg, h.grew hg, Blk.new _ _ _, fun e => by have := h.lt _ e; omega⟩

theorem small_out (l : List Trop) (A B : Option Addr) (c cb nb : Nat) (w : World) (hT : TabAt 0 tab w) (ho : 100 < l.length ∨ nb ≠ 64) (hln : l.length ≤ 9223372036854775807) (hnb : nb ≤ 9223372036854775807) :
  Calls Tryz.prog 6 #[.slice A l.length c, .slice B nb cb] w fun e w' => e = .returned (.bool true) ∧ Grew w w' := by
 have hfr := bfresh_any 400 64 w hT (by omega) (by omega) (by omega) (by omega) (by rw [opened400.1]; omega) (by rw [opened400.2.1]; omega)
 have H := Lib.hid (And.intro hfr hT)
 have t0 : decide ((100 : Int) < (l.length : Int)) = true ∨ (decide ((100 : Int) < (l.length : Int)) = false ∧ ((nb : Int) != 64) = true) := by
  by_cases h : 100 < l.length
  ·exact .inl (decide_eq_true (by omega))
  ·exact .inr ⟨decide_eq_false (by omega), by have := ho.resolve_left h; simp; omega⟩
 clear hfr hT ho
 rcases t0 with t1 | ⟨t1, t2⟩
 all_goals
  go_enter Tryz.func6, Tryz.ntmps6
  go_wp2_with fail
  refine H.out.1.mono ?_
  rintro e w1 ⟨t, p, d, r, F, rfl, hr, hb, hg, hF, ht⟩
  have haw := bawake_any w1 (tab_chg H.out.2 hg id)
  have H1 := Lib.hid (And.intro haw hg)
  clear haw hr hb hg hF ht
  go_wp2_with fail
  refine H1.out.1.mono ?_
  rintro e w2 ⟨rfl, hg2⟩
  have H2 := Lib.hid (Grew.trans H1.out.2 hg2)
  clear hg2
  go_wp2_with fail
  go_ret
  exact ⟨rfl, H2.out⟩

set_option maxRecDepth 100000 in
set_option maxHeartbeats 6400000 in
theorem small_in (l : List Trop) (pg : List Int) (A0 B : Option Addr) (c0' cb : Nat) (w : World) (hT : TabAt 0 tab w) (hl : l.length ≤ 100) (hs : Sl w 3 A0 l.length (l.flatMap Trop.vals)) (ok : ∀ o ∈ l, o.ok) (hpl : pg.length = 64) (hps : Sl w 1 B pg.length (bv pg)) (hpb : ∀ q ∈ pg, 0 ≤ q ∧ q ≤ 255) :
  Calls Tryz.prog 6 #[.slice A0 l.length c0', .slice B pg.length cb] w fun e w' => e = .returned (.bool true) ∧ Grew w w' := by
 have hfr := bfresh_any 400 64 w hT (by omega) (by omega) (by omega) (by omega) (by rw [opened400.1]; omega) (by rw [opened400.2.1]; omega)
 have t1 : decide ((100 : Int) < (l.length : Int)) = false := decide_eq_false (by omega)
 have t2 : ((pg.length : Int) != 64) = false := by rw [hpl]; rfl
 have hBl : ∀ a, B = some a → a.block < w.heap.size := fun a ha => by
  obtain ⟨g, off, h, hg, -⟩ := hps.2 (by omega)
  rw [h] at ha
  cases ha
  exact hg
 have H := Lib.hid (And.intro hfr (And.intro hT (And.intro hs (And.intro ok (And.intro hps (And.intro hpb hBl))))))
 clear hfr hT hs ok hps hpb hBl
 go_enter Tryz.func6, Tryz.ntmps6
 go_wp2_with fail
 refine H.out.1.mono ?_
 rintro e w1 ⟨t, p, d, r, F, rfl, hr, hb, hg, hF, ht⟩
 have hJ0 : PlJ w w1 t p r (Rp.opened 400 64) (stsL (l.take 0)) F (Rp.tree0 400 64 r) 0 [r] none :=
  ⟨hb, tree0_ts hr (by omega), tree0_like, hg, hF, Sl.nil _ _ _, fun a ha => by cases ha⟩
 have H1 := Lib.hid hJ0
 clear hJ0 hr hb hg hF ht
 go_wp2_with fail
 go_loopg [8, 41] (l.length) (fun n xv iv wr => ∃ (k : Nat) (F : Nat → Prop) (y : Rp) (D : Nat) (P : List Nat) (A : Option Addr) (c : Nat), n = l.length - k ∧ k ≤ l.length ∧ iv = .int .i64 k ∧ xv = .slice A (stsL (l.take k)).length c ∧ PlJ w wr t p r (Rp.opened 400 64) (stsL (l.take k)) F y D P A)
 case atStart => exact ⟨0, _, _, 0, _, none, 0, by simp, Nat.zero_le _, rfl, rfl, H1.out⟩
 case round =>
  obtain ⟨k, F, y, D, P, A, c, rfl, hk, rfl, rfl, hJ⟩ := hrel
  have hll := stsL_len (l.take k)
  rw [List.length_take] at hll
  by_cases hlt : k < l.length
  ·obtain ⟨o, ho⟩ : ∃ o, l[k]? = some o := ⟨_, List.getElem?_eq_getElem hlt⟩
   obtain ⟨g, off, rfl, hb, d0, d1, d2⟩ := (H.out.2.2.1.grew hJ.gr).atTrop ho
   have hgo : Grew wr (wr.alloc (.cells #[.int .i64 o.kind, .int .i64 o.key, .int .i64 o.val] 37)) := (Chg.refl _ wr).alloc _
   have hJ1 := hJ.grew hgo
   have hst := bstep_any t p r D 380 c (stsL (l.take k)) P F (Rp.opened 400 64) y A o _ hJ1.bt roomy400 hJ.like hJ.ts (by omega) (by omega) (H.out.2.2.2.1 o (List.mem_of_getElem? ho)) hJ1.sl hJ1.af
   have htk : stsL (l.take (k + 1)) = stL (stsL (l.take k)) o := by rw [List.take_add_one, ho]; exact stsL_snoc _ _
   have HJ1 := Lib.hid (And.intro hst (And.intro hJ1 htk))
   have hkI : (k : Int) < (l.length : Int) := by omega
   clear hst hJ1 ho hJ htk hgo hb
   go_wp2_with fail
   refine HJ1.out.1.mono ?_
   intro e w3 hst
   obtain ⟨A', c', F', y', D', P', rfl, hJ3⟩ := HJ1.out.2.1.step hst
   have HJ3 := Lib.hid hJ3
   clear hst hJ3 d0 d1 d2
   go_wp2_with fail
   go_roundg (l.length - (k + 1))
   case measure => omega
   case rel => exact ⟨k + 1, F', y', D', P', A', c', rfl, by omega, by simp, by rw [HJ1.out.2.2], by rw [HJ1.out.2.2]; exact HJ3.out⟩
  ·obtain rfl : k = l.length := by omega
   rw [List.take_length] at hJ hll ⊢
   obtain ⟨L, hL⟩ : ∃ L, stsL l = L := ⟨_, rfl⟩
   rw [hL] at hJ hll ⊢
   have hh := half_two hJ.bt.gp.szs.2.2.1
   have hD := hJ.ts.depth hh (by omega)
   have hP := hJ.ts.tr.pages hh
   have hysz : y.sz = 64 := hJ.like.sz
   have hpgs := bpages_any t p r D _ P F y wr hJ.bt hJ.ts.tr hJ.ts.nd (by omega) (by omega)
   have HJ := Lib.hid (And.intro hpgs (And.intro hJ hL))
   have t3 : decide ((L.length : Int) + 1 < (P.length : Int)) = false := decide_eq_false (by omega)
   clear hpgs hJ hL hlt hk
   go_wp2_with fail
   refine HJ.out.1.mono ?_
   rintro e w2 ⟨A2, c2, Q, hQ, rfl, hb2, ho2, hc2⟩
   have hJ2 := HJ.out.2.1.kept hb2 hc2
   have hwas : y.was ≠ none := by rw [hJ2.like.was]; exact roomy400.1
   have hal := gp_alloc_any p F y w2 hb2.gp hwas
   have hnf := never_full roomy400 hJ2.like (by rw [hJ2.ts.used]; omega)
   have H2 := Lib.hid (And.intro hal (And.intro hJ2 (And.intro hnf hwas)))
   clear hQ hb2 ho2 hc2 hJ2 hal hnf hwas
   go_wp2_with fail
   refine H2.out.1.mono ?_
   rintro e w3 (⟨i, hi0, -, rfl, hto⟩ | ⟨hn, -, -⟩)
   rotate_left
   ·exact absurd ⟨by have := H2.out.2.2.1.1; omega, H2.out.2.2.1.2⟩ hn
   obtain ⟨F3, hb3, hc3, hn3⟩ := H2.out.2.1.bt.to hto
   have hil : i < y.now.length := (List.getElem?_eq_some_iff.1 hi0).1
   have hi4 : i < 4096 := by have := H2.out.2.1.bt.gp.szs; omega
   have hat3 : (y.put i .zero).now[i]? = some .zero := by rw [Rp.put_at hil, if_pos rfl]
   have hu3 := Rp.put_used (c := .zero) hi0
   rw [if_neg (by simp [Pk.used]), if_pos (by rfl)] at hu3
   have hlk3 : (Rp.opened 400 64).like (y.put i .zero) := H2.out.2.1.like.trans (Rp.put_like _ _ _)
   have hsk3 := (never_full roomy400 hlk3 (by have := H2.out.2.1.ts.used; omega)).1
   have hg3 : Grew w w3 := Chg.trans H2.out.2.1.gr hc3 fun j hj e => by have := H2.out.2.1.fn j e; omega
   have hBF : ∀ a, B = some a → ¬ F3 a.block := fun a ha e => by
    have h1 := H.out.2.2.2.2.2.2 a ha
    have h3 := H2.out.2.1.gr.size
    rcases hn3 _ e with h2 | h2
    ·have := H2.out.2.1.fn _ h2; omega
    ·omega
   have hBn : B ≠ none := fun e => by
    obtain ⟨g, off, h, -⟩ := H.out.2.2.2.2.1.2 (by omega)
    rw [e] at h
    cases h
   have hwr := gp_write_any p F3 (y.put i .zero) w3 i pg B cb .zero hb3.gp (by rw [hlk3.was]; exact roomy400.1) hat3 rfl (by rw [hpl]; exact hysz.symm) H.out.2.2.2.2.2.1 hBn (H.out.2.2.2.2.1.grew hg3) hBF
   rw [hpl] at hwr
   have H3 := Lib.hid (And.intro hwr (And.intro hb3 (And.intro hc3 (And.intro hn3 (And.intro hat3 (And.intro hu3 (And.intro hlk3 (And.intro hsk3 (And.intro hg3 hi0)))))))))
   clear hwr hb3 hc3 hn3 hat3 hu3 hlk3 hsk3 hg3 hi0 hto hBF hBn
   go_wp2_with fail
   refine H3.out.1.mono ?_
   rintro e w4 (⟨rfl, hto⟩ | ⟨hn, -, -⟩)
   rotate_left
   ·have := H3.out.2.2.2.2.2.2.2.1
    exfalso
    omega
   obtain ⟨F4, hb4, hc4, hn4⟩ := H3.out.2.1.to hto
   obtain ⟨z, hz⟩ : ∃ z, (y.put i .zero).put i (.new pg) = z := ⟨_, rfl⟩
   rw [hz] at hb4
   have hil2 : i < (y.put i .zero).now.length := (List.getElem?_eq_some_iff.1 H3.out.2.2.2.2.1).1
   have hzi : z.now[i]? = some (.new pg) := by rw [← hz, Rp.put_at hil2, if_pos rfl]
   have hzu : z.now.countP Pk.used = P.length + 1 := by
    have h1 := Rp.put_used (c := .new pg) H3.out.2.2.2.2.1
    rw [if_pos (by rfl), if_pos (by rfl), hz] at h1
    have h2 := H3.out.2.2.2.2.2.1
    have h3 := H2.out.2.1.ts.used
    omega
   have hzl : (Rp.opened 400 64).like z := hz ▸ H3.out.2.2.2.2.2.2.1.trans (Rp.put_like _ _ _)
   have hzs : z.sz = 64 := hzl.sz
   have hzt : Tr z.nd (halfN z.sz) D r L P := by
    rw [hzs, ← hysz]
    refine H2.out.2.1.ts.tr.frame fun q hq => ?_
    have hqi : q ≠ i := fun e => H2.out.2.1.ts.new H3.out.2.2.2.2.2.2.2.2.2 (e ▸ hq)
    rw [← hz, Rp.nd_other hqi, Rp.nd_other hqi]
   have hr4 : Rch F F4 w2 w4 := (Rch.trans ⟨H3.out.2.2.1, H3.out.2.2.2.1⟩ ⟨hc4, hn4⟩)
   have hg4 : Grew w w4 := Chg.trans H2.out.2.1.gr hr4.chg fun j hj e => by have := H2.out.2.1.fn j e; omega
   have hF4 : ∀ j, F4 j → w.heap.size ≤ j := fun j hj => (hr4.new j hj).elim (H2.out.2.1.fn j) fun e => by have := H2.out.2.1.gr.size; omega
   have hat := bat_any2 p i F4 z w4 hb4.gp
   have H4 := Lib.hid (And.intro hat (And.intro hb4 (And.intro hzi (And.intro hzu (And.intro hzl (And.intro hzt (And.intro hg4 hF4)))))))
   clear hat hb4 hzi hzu hzl hzt hg4 hF4 hz hto hc4 hn4 hr4 hil2
   go_wp2_with fail
   refine H4.out.1.mono ?_
   rintro e w5 ⟨rfl, hg5, hu5⟩
   obtain ⟨u, hu⟩ : ∃ u, w4.heap.size = u := ⟨_, rfl⟩
   rw [hu] at hu5 ⊢
   have hT5 := H4.out.2.1.grew hg5
   have hw5 := Grew.trans H4.out.2.2.2.2.2.2.1 hg5
   obtain ⟨b0, h0⟩ : ∃ b, pg[0]? = some b := ⟨_, List.getElem?_eq_getElem (by omega)⟩
   obtain ⟨b1, h1⟩ : ∃ b, pg[1]? = some b := ⟨_, List.getElem?_eq_getElem (by omega)⟩
   have hb0 := H.out.2.2.2.2.2.1 b0 (List.mem_of_getElem? h0)
   have hb1 := H.out.2.2.2.2.2.1 b1 (List.mem_of_getElem? h1)
   have hbd : (b0 < 1 ∨ 2 < b0 ∨ 3 < b1) → z.bad i := fun h => by
    refine ⟨.new pg, H4.out.2.2.1, rfl, ?_⟩
    unfold decN
    have e0 : pg.getD 0 0 = b0 := by rw [List.getD_eq_getElem?_getD, h0]; rfl
    have e1 : pg.getD 1 0 = b1 := by rw [List.getD_eq_getElem?_getD, h1]; rfl
    have hm : mostN z.sz = 3 := by rw [hzs]; rfl
    refine if_pos ?_
    show (pg.getD 0 0 ≠ 1 ∧ pg.getD 0 0 ≠ 2) ∨ mostN z.sz < (pg.getD 1 0).toNat
    rw [e0, e1, hm]
    omega
   obtain ⟨gB, oB, rfl, hgB, hxB⟩ := H.out.2.2.2.2.1.2 (by omega)
   have hck0 : ∀ w', Grew w w' → w'.cell? ⟨gB, oB, none⟩ = some (.int .u8 b0) := fun w' hg => (hg.cell (p := ⟨gB, oB, none⟩) hgB id).trans (hxB 0 _ (by simp [bv, h0]))
   have hck1 : ∀ w', Grew w w' → w'.cell? ⟨gB, oB + 1, none⟩ = some (.int .u8 b1) := fun w' hg => (hg.cell (p := ⟨gB, oB + 1, none⟩) hgB id).trans (hxB 1 _ (by simp [bv, h1]))
   have hk5 : ∀ w', Chg F4 w5 w' → Grew w w' := fun w' hc => Chg.trans hw5 hc fun j hj e => by have := H4.out.2.2.2.2.2.2.2 j e; omega
   have H5 := Lib.hid (And.intro hu5 (And.intro hT5 (And.intro hw5 (And.intro hbd (And.intro hck0 (And.intro hck1 hk5))))))
   clear hg5 hu5 hT5 hw5 hbd hck0 hck1 hk5 h0 h1 hxB hgB hu
   have hend : ∀ w8, BT w8 t p r F4 z → Grew w w8 → Calls Tryz.prog 25 #[.pointer (some ⟨t, 0, none⟩)] w8 fun e w' => e = .returned (.int .i64 0) ∧ ∃ y F', BT w' t p r F' y ∧ y.now.countP Pk.used = 1 ∧ Grew w w' := fun w8 h8 hg8 => by
    have hd := bdrop_any t p r D 380 L P F4 (Rp.opened 400 64) z w8 h8 roomy400 H4.out.2.2.2.2.1 H4.out.2.2.2.2.2.1 H2.out.2.1.ts.nd (by omega) (by omega) (by have := H4.out.2.2.2.1; omega)
    refine hd.mono ?_
    rintro e w9 ⟨rfl, y9, F9, k1, k2, k3, k4⟩
    exact ⟨rfl, y9, F9, k1, by have := H4.out.2.2.2.1; omega, Chg.trans hg8 k2.chg fun j hj e => by have := H4.out.2.2.2.2.2.2.2 j e; omega⟩
   have HE := Lib.hid hend
   clear hend
   by_cases hwrg : b0 < 1 ∨ 2 < b0 ∨ 3 < b1
   ·have hge := bget_bad 1 H5.out.1 (H5.out.2.2.2.1 hwrg)
    have HG := Lib.hid hge
    have HB := Lib.hid (H5.out.2.2.2.1 hwrg)
    have hor : decide (b0 < 1) = true ∨ (decide (b0 < 1) = false ∧ decide (2 < b0) = true) ∨ (decide (b0 < 1) = false ∧ decide (2 < b0) = false ∧ decide (3 < b1) = true) := by
     by_cases a : b0 < 1
     ·exact .inl (decide_eq_true a)
     ·by_cases b : 2 < b0
      ·exact .inr (.inl ⟨decide_eq_false a, decide_eq_true b⟩)
      ·exact .inr (.inr ⟨decide_eq_false a, decide_eq_false b, decide_eq_true (by omega)⟩)
    clear hge hwrg
    rcases hor with o1 | ⟨o1, o2⟩ | ⟨o1, o2, o3⟩
    all_goals
     go_wp2_with fail
     refine HG.out.mono ?_
     rintro e w6 ⟨rfl, hb6, hc6⟩
     have d0 := H5.out.2.2.2.2.1 w6 (H5.out.2.2.2.2.2.2 w6 hc6)
     have d1 := H5.out.2.2.2.2.2.1 w6 (H5.out.2.2.2.2.2.2 w6 hc6)
     have hch := bcheck_bad hb6 HB.out
     have H6 := Lib.hid (And.intro hch hc6)
     clear hch hb6 hc6
     go_wp2_with fail
     refine H6.out.1.mono ?_
     rintro e w7 ⟨rfl, hb7, hc7⟩
     have hle := blen_bad u p i F4 z w7 hb7 HB.out
     have H7 := Lib.hid (And.intro hle (Chg.trans H6.out.2 hc7 fun j _ e => e))
     clear hle hb7 hc7 d0 d1
     go_wp2_with fail
     refine H7.out.1.mono ?_
     rintro e w8 ⟨rfl, hb8, hc8⟩
     have hpb := bpages_bad hb8 HB.out
     have H8 := Lib.hid (And.intro hpb (Chg.trans H7.out.2 hc8 fun j _ e => e))
     clear hpb hb8 hc8
     go_wp2_with fail
     refine H8.out.1.mono ?_
     rintro e w9 ⟨rfl, hb9, hc9⟩
     have hc59 := Chg.trans H8.out.2 hc9 fun j _ e => e
     have hdr := HE.out w9 (H5.out.2.1.far hc59 hb9.gp) (H5.out.2.2.2.2.2.2 w9 hc59)
     have H9 := Lib.hid hdr
     clear hb9 hc9 hc59 hdr
     go_wp2_with fail
     refine H9.out.mono ?_
     rintro e w10 ⟨rfl, y9, F9, k1, k2, k3⟩
     have hus := gp_used p F9 y9 w10 k1.gp
     rw [k2] at hus
     have H10 := Lib.hid (And.intro hus k3)
     clear k1 k2 k3 hus
     go_wp2_with fail
     refine H10.out.1.mono ?_
     rintro e w11 ⟨rfl, hg11⟩
     have hg := Grew.trans H10.out.2 hg11
     have haw := bawake_any w11 (tab_chg H.out.2.1 hg id)
     have H11 := Lib.hid (And.intro haw hg)
     clear haw hg hg11
     go_wp2_with fail
     refine H11.out.1.mono ?_
     rintro e w12 ⟨rfl, hg12⟩
     have H12 := Lib.hid (Grew.trans H11.out.2 hg12)
     clear hg12
     go_wp2_with fail
     go_ret
     exact ⟨rfl, H12.out⟩
   ·have o1 : decide (b0 < 1) = false := decide_eq_false (by omega)
    have o2 : decide (2 < b0) = false := decide_eq_false (by omega)
    have o3 : decide (3 < b1) = false := decide_eq_false (by omega)
    have hge := bget_wild u p i 1 F4 z w5 H5.out.1 (by omega)
    have HG := Lib.hid hge
    clear hge hwrg
    go_wp2_with fail
    refine HG.out.mono ?_
    rintro e w6 ⟨⟨v, rr, rfl⟩, hb6, hc6⟩
    have d0 := H5.out.2.2.2.2.1 w6 (H5.out.2.2.2.2.2.2 w6 hc6)
    have d1 := H5.out.2.2.2.2.2.1 w6 (H5.out.2.2.2.2.2.2 w6 hc6)
    have hdr := HE.out w6 (H5.out.2.1.far hc6 hb6.gp) (H5.out.2.2.2.2.2.2 w6 hc6)
    have H9 := Lib.hid hdr
    clear hb6 hc6 hdr
    go_wp2_with fail
    refine H9.out.mono ?_
    rintro e w10 ⟨rfl, y9, F9, k1, k2, k3⟩
    have hus := gp_used p F9 y9 w10 k1.gp
    rw [k2] at hus
    have H10 := Lib.hid (And.intro hus k3)
    clear k1 k2 k3 hus d0 d1
    go_wp2_with fail
    refine H10.out.1.mono ?_
    rintro e w11 ⟨rfl, hg11⟩
    have hg := Grew.trans H10.out.2 hg11
    have haw := bawake_any w11 (tab_chg H.out.2.1 hg id)
    have H11 := Lib.hid (And.intro haw hg)
    clear haw hg hg11
    go_wp2_with fail
    refine H11.out.1.mono ?_
    rintro e w12 ⟨rfl, hg12⟩
    have H12 := Lib.hid (Grew.trans H11.out.2 hg12)
    clear hg12
    go_wp2_with fail
    go_ret
    exact ⟨rfl, H12.out⟩
end Go.Proofs.YtpkkcicaeldodaaGreatDoor

namespace Go.Proofs.YtpkkcicaeldodaaGreatDoor
open Go.RowKit

def tabI : List Int := tab.map Int.ofNat
def laidName : String := Rows.btreeOrdersRow.named.headD (toString 0)
theorem tab_of_laid {W : World} (h : laidMetH Tryz.prog Rows.btreeOrdersRow.laid W) : TabAt 0 tab W := by
 have h' : laidMet Tryz.prog [(laidName, Lib.tabData .u8 tabI)] W := h
 have hg : Tryz.prog.globalNamed laidName = some 0 := by kernel_rfl
 have ht := Lib.tabIs_of_head (t := 190) (e := 5) (n := 64) hg (by kernel_rfl) Tryz.underlying190 Tryz.underlying5 (by kernel_rfl) (by kernel_rfl) h'
 intro j hj
 have := ht.cell hg j (by simpa [tabI] using hj)
 rw [this]
 congr 2
 unfold tabI
 rw [List.getD_eq_getElem?_getD, List.getElem?_map, List.getD_eq_getElem?_getD]
 cases tab[j]? <;> rfl

noncomputable def laidWorld (os : Os) : World :=
 { World.holding Tryz.prog os ⟨#[], #[], []⟩ with heap := (World.holding Tryz.prog os ⟨#[], #[], []⟩).heap.modify 0 fun
   | .cells _ t frozen => .cells (tabI.map fun z => Value.int .u8 z).toArray t frozen
   | o => o }
theorem laidWorld_met (os : Os) (args : Array Value) : laidMetH Tryz.prog Rows.btreeOrdersRow.laid ((laidWorld os).forCall (fun _ _ => 0) ⟨#[], args, []⟩).memory :=
 laidMetH_of_parts (laidMet_of_run' 8 (by kernel_rfl) (by kernel_rfl)) (by kernel_rfl)

end Go.Proofs.YtpkkcicaeldodaaGreatDoor

namespace Go.Proofs.YtpkkcicaeldodaaGreatDoor
open Go.ChangeShapes Go.WideShapes Go.ChangeAt Go.RowKit Go.Deep

theorem choose_list {α : Type} (P : Nat → α → Prop) : ∀ (n : Nat), (∀ i, i < n → ∃ x, P i x) → ∃ l : List α, l.length = n ∧ ∀ i x, l[i]? = some x → P i x
 | 0, _ => ⟨[], rfl, fun i x h => by simp at h⟩
 | n + 1, h => by
  obtain ⟨l, hl, hp⟩ := choose_list P n (fun i hi => h i (by omega))
  obtain ⟨x, hx⟩ := h n (by omega)
  refine ⟨l ++ [x], by simp [hl], fun i y hy => ?_⟩
  by_cases hi : i < l.length
  ·rw [List.getElem?_append_left hi] at hy
   exact hp i y hy
  ·rw [List.getElem?_append_right (by omega)] at hy
   have h0 : i - l.length = 0 := by
    rcases Nat.eq_zero_or_pos (i - l.length) with h0 | h0
    ·exact h0
    ·rw [List.getElem?_eq_none (by simp; omega)] at hy; cases hy
   rw [h0] at hy
   simp at hy
   subst hy
   obtain rfl : i = n := by omega
   exact hx

theorem wf_bounds {n : Int} (h : (Lit.int .i64 n).wf = true) : -9223372036854775808 ≤ n ∧ n ≤ 9223372036854775807 := by
 simpa [Lit.wf, IntKind.min, IntKind.max, IntKind.signed, IntKind.bits] using h

section
variable {H : Type} {enc : TypeId × Value → H} {P : Program} {w : World} {base : Nat} {spare : Nat → Bool} {held : Bool}

theorem open_elems {t e : TypeId} {fuel s len cap : Nat} {A : Option Addr} {x : DataW H × List MemPlace} (ht : P.underlying t = some (.slice e)) (hC : P.cellsOf e = s) (hs : 0 < s)
  (h : DataW.trod enc P w base spare held fuel t [.slice A len cap] = some x) :
  len ≤ maxLen ∧ (len = 0 ∨ ∃ b off, A = some ⟨b, off, none⟩ ∧ b < w.heap.size ∧ ∀ i, i < len → ∃ (cs : List Value) (n : Nat) (y : DataW H × List MemPlace), cs.length = s ∧ (∀ j, j < s → w.cell? ⟨b, off + (i * s + j), none⟩ = cs[j]?) ∧ DataW.trod enc P w base spare held n e cs = some y) := by
 rcases open_slice ht h with ⟨hcs, _⟩ | ⟨a, len', cap', m, n, D, Pl, hcs, hb, hl, hm, hmm, hx, hi⟩
 ·simp at hcs
  obtain ⟨rfl, rfl, rfl⟩ := hcs
  exact ⟨Nat.zero_le _, .inl rfl⟩
 ·simp at hcs
  obtain ⟨rfl, rfl, rfl⟩ := hcs
  refine ⟨Nat.le_trans hl hm, ?_⟩
  rcases Nat.eq_zero_or_pos len with h0 | h0
  ·exact .inl h0
  right
  have hlm : len ≤ m := by rw [hmm]; split <;> omega
  obtain ⟨b, off, spot⟩ := a
  have cellAt : ∀ i, i < len → ∃ cs' y, cs'.length = s ∧ (∀ j, j < s → w.cell? (Addr.add ⟨b, off, spot⟩ (i * s + j)) = cs'[j]?) ∧ DataW.trod enc P w base spare held n e cs' = some y := by
   intro i hil
   obtain ⟨cs', hc, ht'⟩ := hi i (by omega)
   rw [hC] at hc
   obtain ⟨_, hcl, hat⟩ := World.cells?_some hc
   refine ⟨cs', _, hcl, fun j hj => ?_, ht'⟩
   rw [← hat j hj]
   congr 1
   unfold Addr.add
   by_cases h1 : i * s = 0 <;> by_cases h2 : j = 0 <;> simp [h1, h2, Nat.add_assoc]
  have hspot : spot = none := by
   obtain ⟨cs', y, hcl, hat, _⟩ := cellAt 0 h0
   have := hat 0 hs
   have h0' : cs'[0]? = some (cs'[0]'(by omega)) := List.getElem?_eq_getElem (by omega)
   rw [h0'] at this
   simpa [Addr.add] using World.cell?_spot this
  subst hspot
  refine ⟨b, off, rfl, ?_, fun i hil => ?_⟩
  ·obtain ⟨cs', y, hcl, hat, _⟩ := cellAt 0 h0
   have := hat 0 hs
   have h0' : cs'[0]? = some (cs'[0]'(by omega)) := List.getElem?_eq_getElem (by omega)
   rw [h0'] at this
   simpa [Addr.add] using World.block_lt_of_cell? w _ this
  ·obtain ⟨cs', y, hcl, hat, ht'⟩ := cellAt i hil
   refine ⟨cs', n, y, hcl, fun j hj => ?_, ht'⟩
   have := hat j hj
   rw [Addr.add_lit] at this
   exact this
end

end Go.Proofs.YtpkkcicaeldodaaGreatDoor

namespace Go.Proofs.YtpkkcicaeldodaaGreatDoor
open Go.ChangeShapes Go.WideShapes Go.ChangeAt Go.RowKit Go.Deep

theorem wf_byte {n : Int} (h : (Lit.int .u8 n).wf = true) : 0 ≤ n ∧ n ≤ 255 := by
 simpa [Lit.wf, IntKind.min, IntKind.max, IntKind.signed, IntKind.bits] using h

theorem bytes_opened {H : Type} {enc : TypeId × Value → H} {P : Program} {w : World} {base : Nat} {spare : Nat → Bool} {held : Bool} {t e : TypeId} {fuel len cap : Nat} {A : Option Addr} {x : DataW H × List MemPlace}
  (ht : P.underlying t = some (.slice e)) (he : P.underlying e = some (.int .u8)) (hC : P.cellsOf e = 1) (h : DataW.trod enc P w base spare held fuel t [.slice A len cap] = some x) :
  ∃ l : List Int, len = l.length ∧ len ≤ maxLen ∧ Sl w 1 A l.length (l.map (Value.int .u8)) ∧ ∀ n ∈ l, 0 ≤ n ∧ n ≤ 255 := by
 obtain ⟨hm, hc⟩ := open_elems ht (s := 1) hC (by omega) h
 rcases hc with rfl | ⟨b, off, rfl, hb, hi⟩
 ·exact ⟨[], rfl, hm, Sl.nil _ _ _, fun r hr => by cases hr⟩
 ·obtain ⟨l, hl, hp⟩ := choose_list (fun i (r : Int) => (0 ≤ r ∧ r ≤ 255) ∧ w.cell? ⟨b, off + i, none⟩ = some (.int .u8 r)) len (fun i hil => by
   obtain ⟨cs, n, y, hcl, hat, hT⟩ := hi i hil
   match cs, hcl with
   | [c], _ =>
    obtain ⟨r, e1, -, w1⟩ := DataW.trod_int he hT
    simp at e1
    subst e1
    have := hat 0 (by omega)
    exact ⟨r, wf_byte w1, by simpa using this⟩)
  refine ⟨l, hl.symm, hm, ⟨by simp, fun _ => ⟨b, off, rfl, hb, fun j u hu => ?_⟩⟩, fun r hr => ?_⟩
  ·rw [List.getElem?_map] at hu
   cases hj : l[j]? with
   | none => rw [hj] at hu; cases hu
   | some r => rw [hj] at hu; simp at hu; subst hu; exact (hp j r hj).2
  ·obtain ⟨i, hi, rfl⟩ := List.getElem_of_mem hr
   exact (hp i _ (List.getElem?_eq_getElem hi)).1

end Go.Proofs.YtpkkcicaeldodaaGreatDoor

namespace Go.Proofs.YtpkkcicaeldodaaGreatDoor
open Go.ChangeShapes Go.WideShapes Go.ChangeAt Go.RowKit
set_option linter.unusedVariables false

set_option maxRecDepth 100000 in
theorem Trop.of_trod {H : Type} {enc : TypeId × Value → H} {w : World} {base n : Nat} {spare : Nat → Bool} {held : Bool} {cs : List Value} {y : DataW H × List MemPlace} (hl : cs.length = 3) (h : DataW.trod enc Tryz.prog w base spare held n 37 cs = some y) : ∃ r : Trop, cs = r.vals ∧ r.ok := by
 obtain ⟨xs, n, _, _, _, hlen, hf⟩ := DataW.trod_struct Tryz.underlying37 h
 match cs, hl with
 | [c0, c1, c2], _ =>
  match xs, hlen with
  | [y0, y1, y2], _ =>
   have f0 : DataW.trod enc Tryz.prog w base spare held n 3 (([c0, c1, c2].drop 0).take (Tryz.prog.cellsOf 3)) = some y0 := hf 0 _ rfl
   rw [show Tryz.prog.cellsOf 3 = 1 from by kernel_rfl] at f0
   have f1 : DataW.trod enc Tryz.prog w base spare held n 3 (([c0, c1, c2].drop 1).take (Tryz.prog.cellsOf 3)) = some y1 := hf 1 _ rfl
   rw [show Tryz.prog.cellsOf 3 = 1 from by kernel_rfl] at f1
   have f2 : DataW.trod enc Tryz.prog w base spare held n 3 (([c0, c1, c2].drop 2).take (Tryz.prog.cellsOf 3)) = some y2 := hf 2 _ rfl
   rw [show Tryz.prog.cellsOf 3 = 1 from by kernel_rfl] at f2
   obtain ⟨n0, e0, -, w0⟩ := DataW.trod_int Tryz.underlying3 f0
   simp at e0
   subst e0
   obtain ⟨n1, e1, -, w1⟩ := DataW.trod_int Tryz.underlying3 f1
   simp at e1
   subst e1
   obtain ⟨n2, e2, -, w2⟩ := DataW.trod_int Tryz.underlying3 f2
   simp at e2
   subst e2
   exact ⟨⟨n0, n1, n2⟩, rfl, (wf_bounds w0).1, (wf_bounds w0).2, (wf_bounds w1).1, (wf_bounds w1).2, (wf_bounds w2).1, (wf_bounds w2).2⟩
theorem Trop.opened {H : Type} {enc : TypeId × Value → H} {w : World} {base fuel len cap : Nat} {spare : Nat → Bool} {held : Bool} {A : Option Addr} {x : DataW H × List MemPlace} (h : DataW.trod enc Tryz.prog w base spare held fuel 35 [.slice A len cap] = some x) :
  ∃ l : List Trop, len = l.length ∧ len ≤ maxLen ∧ Sl w 3 A l.length (l.flatMap Trop.vals) ∧ ∀ r ∈ l, r.ok := by
 obtain ⟨hm, hc⟩ := open_elems Tryz.underlying35 (s := 3) (by kernel_rfl) (by omega) h
 rcases hc with rfl | ⟨b, off, rfl, hb, hi⟩
 ·exact ⟨[], rfl, hm, Sl.nil _ _ _, fun r hr => by cases hr⟩
 ·obtain ⟨l, hl, hp⟩ := choose_list (fun i (r : Trop) => r.ok ∧ ∀ j u, r.vals[j]? = some u → w.cell? ⟨b, off + (i * 3 + j), none⟩ = some u) len (fun i hil => by
   obtain ⟨cs, n, y, hcl, hat, ht⟩ := hi i hil
   obtain ⟨r, rfl, hok⟩ := Trop.of_trod hcl ht
   refine ⟨r, hok, fun j u hu => ?_⟩
   have hj : j < 3 := by rw [← hcl]; exact (List.getElem?_eq_some_iff.1 hu).1
   rw [hat j hj, hu])
  refine ⟨l, hl.symm, hm, Trop.sl_mk hb (fun i r hr => (hp i r hr).2), fun r hr => ?_⟩
  obtain ⟨i, hi, rfl⟩ := List.getElem_of_mem hr
  exact (hp i _ (List.getElem?_eq_getElem hi)).1

theorem small_walk (w : World) (hT : TabAt 0 tab w) (A : Option Addr) (c : Nat) (l : List Trop) (hm : l.length ≤ maxLen) (hs : Sl w 3 A l.length (l.flatMap Trop.vals)) (ok : ∀ r ∈ l, r.ok)
  (B : Option Addr) (cb : Nat) (lb : List Int) (hmb : lb.length ≤ maxLen) (hb : Sl w 1 B lb.length (lb.map (Value.int .u8))) (okb : ∀ n ∈ lb, 0 ≤ n ∧ n ≤ 255) :
  Calls Tryz.prog 6 #[.slice A l.length c, .slice B lb.length cb] w fun e w' => e = .returned (.bool true) ∧ Grew w w' := by
 by_cases h : 100 < l.length ∨ lb.length ≠ 64
 ·exact small_out l A B c cb lb.length w hT h (by unfold maxLen at hm; omega) (by unfold maxLen at hmb; omega)
 ·exact small_in l lb A B c cb w hT (by omega) hs ok (by omega) hb okb

namespace lawBtreeSmall
theorem own : ownKnob Tryz.prog.godebug = none := by kernel_rfl
theorem laidOut : laidOutB Tryz.prog = true := by kernel_rfl
set_option maxRecDepth 100000 in
theorem lifted (os : Os) (started : os.Started) (H : Type) (enc : TypeId × Value → H) :
  ReturnsInHanded {} Tryz.checked os 6 .any (fun w args => (Rows.btreeSmallSpec.pre enc Tryz.prog Tryz.f6 [] false w args ∧ laidMetH Tryz.prog Rows.btreeSmallRow.laid w) ∧ sizedMet enc Tryz.prog Tryz.f6 (OpenSpec.ofChange Rows.btreeSmallSpec) false w args) (Rows.btreeSmallSpec.post enc Tryz.prog Tryz.f6 false true false false) := by
 refine returnsInHanded_of_change_and (C := Tryz.checked) (X := fun w _ => laidMetH Tryz.prog Rows.btreeSmallRow.laid w) (fun _ _ _ hh h => h.of_heap hh) own started (by kernel_rfl) Tryz.func6
  (ChangeSpec.witness_at (enc := enc) (C := Tryz.checked) (os := os) (X := fun w _ => laidMetH Tryz.prog Rows.btreeSmallRow.laid w) false (laidWorld os) #[.slice none 0 0, .slice none 0 0] 8 rfl (by kernel_rfl) (by kernel_rfl) (by kernel_rfl) (by kernel_rfl) (by kernel_rfl) (laidWorld_met os _)) ?_
 intro W base args ds gs before hval0 hW _ _ hL0 _
 have hL : laidMetH Tryz.prog Rows.btreeSmallRow.laid W := hL0
 have hT0 := tab_of_laid hL
 have hval : ∀ (j : Nat) t v, Tryz.f6.params[j]? = some t → args[j]? = some v → Value.okWide Tryz.prog W .any base t v := hval0
 have hW1 := hW
 obtain ⟨p, q, hA0, hV, rfl, hfz, hnd⟩ := hW
 have hA : DataW.TrodAll enc Tryz.prog W 0 (fun _ => true) true Tryz.f6.params.toList args.toList ds p := hA0
 rw [Tryz.params6] at hA hval
 obtain ⟨v0, vs0, d0, ds0, p0, q0, hargs, rfl, rfl, h0, r0⟩ := trodAll_cons hA
 obtain ⟨v1, vs1, d1, ds1, p1, q1, rfl, rfl, rfl, h1, r1⟩ := trodAll_cons r0
 obtain ⟨rfl, rfl, rfl⟩ := trodAll_nil r1
 obtain rfl : args = #[v0, v1] := by cases args; simp_all
 obtain ⟨rfl, rfl⟩ := trodVars_none hV
 obtain ⟨A0, n0, c0, rfl⟩ := okWide_slice Tryz.underlying35 (hval 0 35 v0 rfl rfl)
 have k0 := h0
 have lt0 : ∀ x ∈ p0, x.block < W.heap.size := by obtain ⟨m, hm⟩ := k0; exact DataW.trod_lt m _ _ _ hm
 obtain ⟨fu0, hf0⟩ := h0
 obtain ⟨l0, rfl, hm0, hs0, ok0⟩ := Trop.opened (by simpa [Value.cells] using hf0)
 obtain ⟨A1, n1, c1, rfl⟩ := okWide_slice Tryz.underlying49 (hval 1 49 v1 rfl rfl)
 have k1 := h1
 have lt1 : ∀ x ∈ p1, x.block < W.heap.size := by obtain ⟨m, hm⟩ := k1; exact DataW.trod_lt m _ _ _ hm
 obtain ⟨fu1, hf1⟩ := h1
 obtain ⟨l1, rfl, hm1, hs1, ok1⟩ := bytes_opened Tryz.underlying49 Tryz.underlying5 (by kernel_rfl) (by simpa [Value.cells] using hf1)
 clear hA0 hval0
 refine (small_walk W hT0 A0 c0 l0 hm0 hs0 ok0 A1 c1 l1 hm1 hs1 ok1).mono fun e W1 ⟨he, hg⟩ => ?_
 subst he
 have bel := hg.below
 exact ⟨_, rfl, _, _, _, [], _, [], hW1, trodAll_mk1 (shut_bool Tryz.underlying4 _), (trodAll_cons_mk (Below.trod laidOut (by kernel_rfl) (of_decide_eq_true (by kernel_rfl)) k0 bel lt0) (trodAll_cons_mk (Below.trod laidOut (by kernel_rfl) (of_decide_eq_true (by kernel_rfl)) k1 bel lt1) trodAll_mk0)), rfl, bel.frame _, fun h => by cases h⟩
theorem over : Rows.btreeSmallRow.holds Tryz.pinned (OpenSpec.ofChange Rows.btreeSmallSpec) :=
 OpenClaim.holds_of_wide 6 Tryz.f6 rfl rfl rfl rfl rfl rfl rfl ⟨rfl, rfl, rfl, rfl, rfl⟩ rfl rfl rfl rfl rfl (by kernel_rfl) Tryz.func6 (by kernel_rfl)
  (of_decide_eq_true (by kernel_rfl)) (by unfold Func.isWrapper; first | (rw [if_pos (by decide +kernel)]; kernel_rfl) | (rw [if_neg (by decide +kernel)]; exact ⟨rfl, rfl⟩))
  (fun os started H enc _ => lifted os started H enc)
theorem proved : Rows.BtreeSmallCardSaid :=
 Claim7.holds_tied_plain_at .later [] [.data] true Rows.btreeSmallCard.stood.harness false over (fun _ h => by cases h) (by kernel_rfl) (fun _ h => by cases h) btreeSmall_row_tie rfl ⟨rfl, rfl⟩ (by kernel_rfl) rfl
  (fun f fn hf hfn => by
   obtain rfl : f = 6 := Option.some.inj ((show Tryz.prog.funcNamed Rows.btreeSmallRow.func = some 6 by kernel_rfl).symm.trans hf) |>.symm
   obtain rfl : fn = Tryz.f6 := (Option.some.inj (Tryz.func6.symm.trans hfn)).symm
   refine ⟨by kernel_rfl, fun j t ht => ?_⟩
   have hall : ∀ t ∈ Tryz.f6.params.toList, Tryz.prog.wantsStandIn t = false := by
    rw [Tryz.params6]
    intro t ht
    simp only [List.mem_cons, List.not_mem_nil, or_false] at ht
    rcases ht with rfl | rfl <;> kernel_rfl
   exact hall t (by rw [Array.mem_toList_iff]; exact Array.mem_of_getElem? ht))
  (by kernel_rfl)
#print axioms proved
end lawBtreeSmall

end Go.Proofs.YtpkkcicaeldodaaGreatDoor
