/- Texts 6 of 7 that the proof of Each stands on. -/
import Derived.Test.YtpkkcicaeldodaaGreatDoorMgEach5
set_option linter.unusedSimpArgs false
set_option linter.unusedVariables false

namespace Go.Proofs.YtpkkcicaeldodaaGreatDoor
open Go.RowKit Go.Maps

set_option maxRecDepth 100000 in
set_option maxHeartbeats 6400000 in
theorem bput2_any (t p root D0 : Nat) (k v : Int) (L : List KV) (P : List Nat) (F : Nat → Prop) (x : Rp) (w : World) (hb : BT w t p root F x) (ho : x.was ≠ none) (hs : TS x D0 root L P) (hl : L.length ≤ 1000) (hk : i64 k) (hv : i64 v) :
  Calls Tryz.prog 11 #[.pointer (some ⟨t, 0, none⟩), .int .i64 k, .int .i64 v] w fun e w' => PuOut w w' t p root F x D0 k v L e := by
 have hz := hb.gp.szs
 have hh := half_two hz.2.2.1
 have hD := hs.depth hh hl
 have hway := bway_any t p root (halfN x.sz) D0 k L P F x w hb hs.tr hs.srt (by omega)
 have H := Lib.hid (And.intro hb (And.intro ho (And.intro hs (And.intro hl (And.intro hk (And.intro hv (And.intro hz (And.intro hh (And.intro hD hway)))))))))
 clear hb ho hs hl hk hv hz hh hD hway
 go_enter Tryz.func11, Tryz.ntmps11
 go_wp2_with fail
 refine H.out.2.2.2.2.2.2.2.2.2.mono ?_
 rintro e w1 ⟨b, N, d, q, nd, A, M, B, P1, PM, P2, rfl, hnd, hNn, hbt, hc1, hw, hor⟩
 have hg := hw.get H.out.2.2.1.srt H.out.2.2.1.nd
 obtain ⟨fb, hfb⟩ : ∃ f, nd.keys.contains k = f := ⟨_, rfl⟩
 obtain ⟨ii, hii⟩ : ∃ i, atI nd.keys k = i := ⟨_, rfl⟩
 rw [hfb, hii] at hg ⊢
 have HN := Lib.hid (And.intro hnd (And.intro hNn (And.intro hw (And.intro hfb hii))))
 clear hnd hNn hw hii
 cases fb with
 | true =>
  obtain ⟨v0, hv0, -⟩ := hg.1 rfl
  have hil := (List.getElem?_eq_some_iff.1 hv0).1
  obtain ⟨gv, ck, cv, cc, Ak, Ac, bB, hgN, hgl, ⟨u, hcu⟩, hfr, hset⟩ := HN.out.1.setVal hil
  obtain ⟨W2, hW2⟩ : ∃ W, w1.setCell ⟨gv, ii, none⟩ (.int .i64 v) = W := ⟨_, rfl⟩
  obtain ⟨hn2, hc2⟩ := hset v W2 hW2
  have hz1 := hc1.size
  have hpos := tab_pos H.out.1.gp.tab
  have htl := H.out.1.blk.lt
  have hNF : ∀ j, N j → ¬ F j := fun j hj e => by have := HN.out.2.1 j hj; have := H.out.1.gp.lt j e; omega
  have hbt2 : BT W2 t p root F x := hbt.chg hc2 (fun j hj e => hNF j e hj) (fun e => by have := HN.out.2.1 _ e; omega) (fun e => by have := HN.out.2.1 _ e; omega)
  have hft := (H.out.1.gp.fit HN.out.2.2.1.nd).1
  have hfit : ({ nd with vals := nd.vals.set ii v } : Nd).Fit x.sz := ⟨by simp only [List.length_set]; exact hft.vals, hft.most, hft.kids, hft.ki, fun a ha => (List.mem_or_eq_of_mem_set ha).elim (hft.vi a) fun e => e ▸ H.out.2.2.2.2.2.1, hft.ci⟩
  obtain ⟨cq, q1, q2⟩ := H.out.2.2.1.pgs q HN.out.2.2.1.q_mem
  have hNb : N b := by obtain ⟨_, _, _, _, _, _, -, -, -, -, hNb, -⟩ := HN.out.1.at; exact hNb
  have hsv := bsave_any t p root b q F N x cq { nd with vals := nd.vals.set ii v } W2 hbt2 hn2.at hfit H.out.2.1 q1 q2 (hNF b hNb)
  obtain ⟨d9, f9, s9⟩ := bB.facts
  have H2 := Lib.hid (And.intro hsv (And.intro hW2 (And.intro hbt2 (And.intro hfit (And.intro (show Chg F w W2 from Chg.trans hc1 hc2 fun j hj e => by have := HN.out.2.1 j e; omega) (And.intro q1 q2))))))
  have hiN : (ii : Int) < (nd.vals.length : Int) := by omega
  clear hsv hW2 hbt2 hfit hft hNF hn2 hc2 hset bB q1 q2 hg hv0 hor hbt hNb hfb
  go_wp2_with fail
  rw [H2.out.2.1]
  refine H2.out.1.mono ?_
  rintro e w' (⟨rfl, hto⟩ | ⟨hns, -, rfl, hg⟩)
  ·have hout : PuOut w w' t p root F x D0 k v L (.returned (.int .i64 0)) := by
    obtain ⟨F2, h1, h2, h3⟩ := hto
    obtain ⟨-, -, -, hfit, hcW, q1, q2⟩ := H2.out
    have hsz := hcW.size
    have ht := HN.out.2.2.1.upd (v := v) (rd' := (x.put q (.new (ndL { nd with vals := nd.vals.set ii v } x.sz))).nd) H.out.2.2.1.srt H.out.2.2.1.nd HN.out.2.2.2.1 (by rw [HN.out.2.2.2.2]; exact Rp.nd_new hfit (List.getElem?_eq_some_iff.1 q1).1 H.out.2.2.2.2.2.2.1.2.2.2.1) fun i _ hi => Rp.nd_other hi
    exact .inl ⟨rfl, _, F2, D0, P, h1, ⟨Chg.trans hcW h2 fun _ _ e => e, fun j hj => (h3 j hj).imp id fun e => by omega⟩, x.put_like _ _, H.out.2.2.1.write HN.out.2.2.1.q_mem ht (putL_srt H.out.2.2.1.srt k v)⟩
   have HO := Lib.hid hout
   clear hout hto
   go_wp2_with fail
   go_ret
   exact HO.out
  ·have hout : PuOut w w' t p root F x D0 k v L (.returned (.int .i64 21)) := .inr ⟨rfl, x, ⟨F, H2.out.2.2.1.grew hg, H2.out.2.2.2.2.1.grew hg, fun _ e => .inl e⟩, Rp.like.refl x, by omega, fun e => hns e.1⟩
   have HO := Lib.hid hout
   clear hout hns hg
   go_wp2_with fail
   go_ret
   exact HO.out
 | false =>
  have hget : getK L k = none := hg.2 rfl (hor.resolve_left (by rw [HN.out.2.2.2.1]; simp))
  obtain ⟨ndR, hwR⟩ := WayAt.start (k := k) H.out.2.2.1.tr
  obtain ⟨cr, r1, r2, r3⟩ := Rp.nd_some hwR.nd
  have hklR : ndR.keys.length ≤ 300 := by have h1 := (H.out.1.gp.fit hwR.nd).1.most; have h2 := H.out.1.gp.szs; unfold mostN at h1; omega
  have hld := bload_any t p root root F x cr ndR w1 hbt r1 r2 r3
  obtain ⟨c0, f0, s0⟩ := hbt.blk.facts
  have H1 := Lib.hid (And.intro hwR (And.intro hc1 (And.intro hld hget)))
  clear hget hwR r1 r2 r3 hld hc1 hbt hg hor
  go_wp2_with fail
  refine H1.out.2.2.1.mono ?_
  rintro e w2 ⟨b2, N2, rfl, hnd2, hN2, hbt2, hc2⟩
  have hfu := bfull_any t p root b2 root F N2 x ndR w2 hbt2 hnd2.at hklR
  have HF2 := Lib.hid (And.intro hfu (And.intro hnd2 (And.intro hN2 (And.intro hbt2 hc2))))
  clear hfu hnd2 hN2 hbt2 hc2 c0 f0 s0
  go_wp2_with fail
  by_cases hfull : 2 * halfN x.sz - 1 ≤ ndR.keys.length
  ·have t5 : decide (2 * halfN x.sz - 1 ≤ ndR.keys.length) = true := decide_eq_true hfull
   have t6 : decide (2 * halfN x.sz ≤ ndR.keys.length + 1) = true := decide_eq_true (by omega)
   refine HF2.out.1.mono ?_
   rintro e w3 ⟨rfl, hg3⟩
   have hz1 := H1.out.2.1.size
   have hz2 := HF2.out.2.2.2.2.size
   have hz3 := hg3.size
   have hpos := tab_pos H.out.1.gp.tab
   have htl := H.out.1.blk.lt
   have hnode : ndR.keys.length = 2 * halfN x.sz - 1 := by
    obtain ⟨nd', g1, -, g2, -⟩ := H1.out.1.tr.node
    rw [H1.out.1.nd] at g1
    cases g1
    omega
   have hgr := bgrow_any t p root b2 D0 L P F N2 x ndR w3 (HF2.out.2.2.2.1.grew hg3) H.out.2.1 H.out.2.2.1 (HF2.out.2.1.grew hg3) H1.out.1.nd hnode (fun j hj e => by have := HF2.out.2.2.1 j hj; have := H.out.1.gp.lt j e; omega) ⟨fun e => by have := HF2.out.2.2.1 _ e; omega, fun e => by have := HF2.out.2.2.1 _ e; omega⟩
   have hcW : Chg F w w3 := (Chg.trans H1.out.2.1 HF2.out.2.2.2.2 fun _ _ e => e).grew hg3
   have H3 := Lib.hid (And.intro hgr hcW)
   clear hgr hcW hnode hg3 hfull
   go_wp2_with fail
   refine H3.out.1.mono ?_
   rintro e w4 (⟨b5, N5, nd5, F5, y5, P5, rfl, k1, k2, k3, k4, k5, k6, k7, k8, k9, k10, k11⟩ | ⟨v5, rfl, hfu⟩)
   ·obtain ⟨nd6, hw6⟩ := WayAt.start (k := k) k7.tr
    obtain rfl : nd6 = nd5 := by have := hw6.nd; rw [k9] at this; cases this; rfl
    have hJ0 : PuJ w w4 t p root F x k L b5 (D0 + 1) root nd6 F5 y5 (D0 + 1) P5 [] L [] [] P5 [] N5 D0 := ⟨k1, ⟨Chg.trans H3.out.2 k2 fun j hj e => e.resolve_right fun e => by have := HF2.out.2.2.1 j e; omega, fun j hj => (k3 j hj).imp id fun e => by omega⟩, k8, k7, hw6, k4, k5, fun j hj => by have := k6 j hj; omega, by have := half_two k1.gp.szs.2.2.1; omega, by omega, by have := H.out.2.2.2.2.2.2.2.2.1; omega, htl⟩
    obtain ⟨d0, hd0⟩ : ∃ d0, D0 + 1 = d0 := ⟨_, rfl⟩
    rw [hd0] at hJ0
    have HJ0 := Lib.hid hJ0
    clear hJ0 hd0 k1 k2 k3 k4 k5 k6 k7 k8 k9 k10 k11 hw6 hz1 hz2 hz3 hpos htl
    go_wp2_with fail
    go_loopg [11, 12] (d0 + 1) (fun m n e wr => ∃ (bn d q : Nat) (nd : Nd) (F' : Nat → Prop) (y : Rp) (D : Nat) (P : List Nat) (A M B : List KV) (P1 PM P2 : List Nat) (N : Nat → Prop), m = d + 1 ∧ n = .pointer (some ⟨bn, 0, none⟩) ∧ e = .int .i64 0 ∧ PuJ w wr t p root F x k L bn d q nd F' y D P A M B P1 PM P2 N D0)
    case atStart => exact ⟨_, d0, _, _, _, _, _, _, _, _, _, _, _, _, _, rfl, rfl, rfl, HJ0.out⟩
    case round =>
     obtain ⟨bn, d, q, nd, F', y, D, P, A, M, B, P1, PM, P2, N, rfl, rfl, rfl, hJ⟩ := hrel
     have HJ := Lib.hid hJ
     have hkl : nd.keys.length ≤ 300 := by have h1 := (hJ.bt.gp.fit hJ.way.nd).1.most; have h2 := hJ.bt.gp.szs; unfold mostN at h1; omega
     have hlf := leaf_any bn q nd N wr hJ.own.at
     have hks := hJ.way.tr.keys hJ.way.nd (hJ.way.srt hJ.ts.srt)
     have hpl := bplace_any bn q nd N k wr hJ.own.at hks (by omega)
     have hmiss := hJ.way.miss H1.out.2.2.2
     obtain ⟨ii, hii⟩ : ∃ i, atI nd.keys k = i := ⟨_, rfl⟩
     rw [hmiss, hii] at hpl
     have HL := Lib.hid (And.intro hlf (And.intro hpl (And.intro hmiss hii)))
     clear hlf hpl hks hmiss hii hJ
     by_cases h0 : nd.kids.length = 0
     ·have t1 : decide (nd.kids.length = 0) = true := decide_eq_true h0
      obtain rfl : d = 0 := by
       obtain ⟨nd', g1, -, -, g2⟩ := HJ.out.way.tr.node
       rw [HJ.out.way.nd] at g1
       cases g1
       exact g2.1 h0
      go_wp2_with (go_at_call 41; (refine HL.out.1.mono ?_); rintro e w5 ⟨rfl, rfl⟩)
      refine HL.out.2.1.mono ?_
      rintro e w4 ⟨rfl, hg4⟩
      have H4 := Lib.hid (And.intro trivial (And.intro hg4 (And.intro HL.out.2.2.1 HL.out.2.2.2)))
      clear hg4
      obtain ⟨vk, vv, vc, hV⟩ := (HJ.out.own.grew H4.out.2.1).v
      have hne := hV.ne
      have HV := Lib.hid hV
      have hS : w4.drew.cell? ⟨bn, 1, none⟩ = some vk ∧ w4.drew.cell? ⟨bn, 2, none⟩ = some vv := ⟨hV.blk.drew.cell 1, hV.blk.drew.cell 2⟩
      have hiil : ii ≤ nd.keys.length := by rw [← H4.out.2.2.2]; exact atI_le _ _
      have hvl : nd.vals.length = nd.keys.length := (HJ.out.bt.gp.fit HJ.out.way.nd).1.vals
      have hp4 : 1 ≤ w4.heap.size := by have := tab_pos H.out.1.gp.tab; have := HJ.out.rch.chg.size; have := H4.out.2.1.size; omega
      have hkc : nd.kids = [] := List.eq_nil_of_length_eq_zero h0
      have HP := Lib.hid (And.intro hne (And.intro hiil (And.intro hvl (And.intro hp4 (And.intro hkl hkc)))))
      clear hV hne hiil hvl hp4 hkc
      go_wp2_with fail
      refine wp_region_x [1, 10, 11, 12, 14, 15, 20, 21, 22, 23] (S := fun w' => w'.cell? ⟨bn, 1, none⟩ = some vk ∧ w'.cell? ⟨bn, 2, none⟩ = some vv) (by kernel_rfl) hS (fun hHeld => ?_)
      refine Todo.out (is := [1, 10, 11, 12, 14, 15]) ?_
      repeat
       refine tkP (v := ?_) rfl (by kernel_rfl) (by kernel_rfl) (by kernel_rfl) (by rfl) (fun _ _ _ h => h) (Or.inl ⟨by rfl, ?_⟩) ?_
       rotate_left
       ·(intro w hSw; go_simp) <;> with_reducible rfl
       (try simp only [Act.put, lA, lB, lC, lD, lE, lF])
      refine Todo.fin ?_
      refine wpAnyX_mono (X' := [20, 21, 22, 23]) (fun i hi => by simp at hi ⊢; omega) _ _ _ _ ?_
      refine Todo.out (is := [0, 2, 3, 4, 5, 6, 7, 13]) ?_
      repeat
       refine tkX (v := ?_) rfl (by kernel_rfl) (by kernel_rfl) (by kernel_rfl) (by kernel_rfl) (fun _ _ _ h => h) (Or.inl ⟨by rfl, ?_⟩) hHeld ?_
       rotate_left
       ·(intro w hSw; (try dsimp only at hSw); go_simp) <;> with_reducible rfl
       (try simp only [Act.put, lA, lB, lC, lD, lE, lF])
      refine Todo.fin ?_
      refine wpAnyX_ready (rs := [8, 16]) (by kernel_rfl) (by simp) ?_
      refine AllReadyX.cons rfl (fun K hK => ?_) (AllReadyX.cons rfl (fun K hK => ?_) AllReadyX.nil)
      ·go_simp
       obtain ⟨W6, hW6⟩ : ∃ W, (w4.alloc (.cells #[.int .i64 k] 3)).drew = W := ⟨_, rfl⟩
       rw [hW6]
       have gW6 : Grew w4 W6 := hW6 ▸ ((Chg.refl NoF w4).alloc _).drew
       have lW6 : Blk W6 w4.heap.size 3 #[.int .i64 k] := hW6 ▸ (Blk.new w4 _ _).drew
       have hR6 := HV.out.rws.grew gW6
       have hB6 := HV.out.blk.grew gW6
       refine hK.out _ _ (fun _ => (⟨(hB6).cell 1, (hB6).cell 2⟩ : W6.cell? ⟨bn, 1, none⟩ = some vk ∧ W6.cell? ⟨bn, 2, none⟩ = some vv)) ?_
       clear hK K
       (try simp only [Act.put, lA, lB, lC, lD, lE, lF])
       refine wpAnyX_ready (rs := [9, 16]) (by kernel_rfl) (by simp) ?_
       refine AllReadyX.cons rfl (fun K hK => ?_) (AllReadyX.cons rfl (fun K hK => ?_) AllReadyX.nil)
       ·go_simp
        refine (insK hR6 (by omega) HP.out.2.1 lW6 (fun e => by have := HV.out.lt _ (HV.out.nk _ e); have := gW6.size; omega) (by have := HP.out.2.2.2.1; have := gW6.size; (try have := gW8.size); omega)).mono ?_
        rintro e w7 ⟨A7, c7, rfl, hR7, ha7⟩
        have hB7 := hB6.chg ha7.chg HP.out.1.1
        refine hK.out _ _ (fun _ => (⟨(hB7).cell 1, (hB7).cell 2⟩ : w7.cell? ⟨bn, 1, none⟩ = some vk ∧ w7.cell? ⟨bn, 2, none⟩ = some vv)) ?_
        clear hK K
        (try simp only [Act.put, lA, lB, lC, lD, lE, lF])
        refine rdX (i := 16) (by kernel_rfl) rfl fun K hK => ?_
        go_simp
        obtain ⟨W8, hW8⟩ : ∃ W, w7.alloc (.cells #[.int .i64 v] 3) = W := ⟨_, rfl⟩
        rw [hW8]
        have gW8 : Grew w7 W8 := hW8 ▸ (Chg.refl NoF w7).alloc _
        have lW8 : Blk W8 w7.heap.size 3 #[.int .i64 v] := hW8 ▸ Blk.new w7 _ _
        have hR8 := hR7.grew gW8
        have hB8 := hB7.grew gW8
        refine hK.out _ _ (fun _ => (⟨(hB8).cell 1, (hB8).cell 2⟩ : W8.cell? ⟨bn, 1, none⟩ = some vk ∧ W8.cell? ⟨bn, 2, none⟩ = some vv)) ?_
        clear hK K
        (try simp only [Act.put, lA, lB, lC, lD, lE, lF])
        refine rdX (i := 17) (by kernel_rfl) rfl fun K hK => ?_
        go_simp
        refine (insV hR8 (by have := HP.out.2.2.1; omega) (by have := HP.out.2.2.1; have := HP.out.2.1; omega) lW8 (fun e => by have := hR7.lt _ (hR7.nv _ e); omega) (by have := HP.out.2.2.2.1; have := ha7.chg.size; have := gW6.size; have := gW8.size; omega)).mono ?_
        rintro e w10 ⟨A10, c10, rfl, hR10, ha10⟩
        have hB10 := hB8.chg ha10.chg HP.out.1.2.1
        have hC10 : Chg N w4 w10 := Chg.trans (Grew.then gW6 (ha7.chg.mono fun j _ e => HV.out.nk j e)) (Grew.then gW8 (ha10.chg.mono fun j _ e => HV.out.nv j e)) fun _ _ e => e

        have HF := Lib.hid (show Rws w10 (fun j => (N j ∨ (Value.slice A7 (nd.keys.length + 1) c7).ownBlock = some j) ∨ (Value.slice A10 (nd.vals.length + 1) c10).ownBlock = some j) (.slice A7 (nd.keys.length + 1) c7) (.slice A10 (nd.vals.length + 1) c10) vc (iv (insI nd.keys ii k)) (iv (insI nd.vals ii v)) (nv []) ∧ Blk w10 bn 73 #[.int .i64 q, vk, vv, vc] ∧ Chg N w4 w10 from ⟨HP.out.2.2.2.2.2 ▸ hR10, hB10, hC10⟩)
        clear hR10 hB10 hC10
        clear hR6 hB6 hR7 ha7 hB7 hR8 hB8 ha10 lW6 lW8 gW6 gW8 hW6 hW8

        have hb10 := HF.out.2.1
        obtain ⟨d9, f9, s9⟩ := hb10.facts
        have hS10 : w10.cell? ⟨bn, 1, none⟩ = some vk ∧ w10.cell? ⟨bn, 2, none⟩ = some vv := ⟨hb10.cell 1, hb10.cell 2⟩
        refine hK.out _ _ (fun _ => hS10) ?_
        clear hK K
        (try simp only [Act.put, lA, lB, lC, lD, lE, lF])
        refine rdX (i := 18) (by kernel_rfl) rfl fun K hK => ?_
        go_simp
        refine hK.out _ _ (fun _ => hS10) ?_
        clear hK K
        (try simp only [Act.put, lA, lB, lC, lD, lE, lF])
        refine rdX (i := 19) (by kernel_rfl) rfl fun K hK => ?_
        go_simp
        refine hK.out _ _ (fun _ => hS10) ?_
        clear hK K
        (try simp only [Act.put, lA, lB, lC, lD, lE, lF])
        refine rdX (i := 20) (by kernel_rfl) rfl fun K hK => ?_
        go_simp
        obtain ⟨W11, hW11⟩ : ∃ W, w10.setCell ⟨bn, 1, none⟩ (.slice A7 (nd.keys.length + 1) c7) = W := ⟨_, rfl⟩
        rw [hW11]
        have hb11 : Blk W11 bn 73 #[.int .i64 q, .slice A7 (nd.keys.length + 1) c7, vv, vc] := by
         have h9 := hb10.put 1 (.slice A7 (nd.keys.length + 1) c7)
         rw [hW11] at h9
         simpa using h9
        have hc11 : Chg (fun j => j = bn) w10 W11 := hW11 ▸ (Chg.refl (fun j => j = bn) w10).setCell (p := ⟨bn, 1, none⟩) (fun _ => rfl) _
        clear d9 f9 s9 hS10 hb10 hW11
        obtain ⟨d9, f9, s9⟩ := hb11.facts
        refine hK.out _ _ (fun h => by cases h) ?_
        clear hK K
        (try simp only [Act.put, lA, lB, lC, lD, lE, lF])
        refine rdX (i := 21) (by kernel_rfl) rfl fun K hK => ?_
        go_simp
        refine hK.out _ _ (fun h => by cases h) ?_
        clear hK K
        (try simp only [Act.put, lA, lB, lC, lD, lE, lF])
        refine rdX (i := 22) (by kernel_rfl) rfl fun K hK => ?_
        go_simp
        refine hK.out _ _ (fun h => by cases h) ?_
        clear hK K
        (try simp only [Act.put, lA, lB, lC, lD, lE, lF])
        refine rdX (i := 23) (by kernel_rfl) rfl fun K hK => ?_
        go_simp
        obtain ⟨W12, hW12⟩ : ∃ W, W11.setCell ⟨bn, 2, none⟩ (.slice A10 (nd.vals.length + 1) c10) = W := ⟨_, rfl⟩
        rw [hW12]
        have hb12 : Blk W12 bn 73 #[.int .i64 q, .slice A7 (nd.keys.length + 1) c7, .slice A10 (nd.vals.length + 1) c10, vc] := by
         have h9 := hb11.put 2 (.slice A10 (nd.vals.length + 1) c10)
         rw [hW12] at h9
         simpa using h9
        have hc12 : Chg (fun j => j = bn) w10 W12 := Chg.trans hc11 (hW12 ▸ (Chg.refl (fun j => j = bn) W11).setCell (p := ⟨bn, 2, none⟩) (fun _ => rfl) _) fun _ _ e => e
        clear d9 f9 s9 hW12 hb11 hc11
        refine hK.out _ _ (fun h => by cases h) ?_
        clear hK K
        (try simp only [Act.put, lA, lB, lC, lD, lE, lF])
        refine wpAnyX_done (by kernel_rfl) ?_ _
        have hbn10 := HF.out.2.1
        have hn12 : NdOwn W12 (fun j => (N j ∨ (Value.slice A7 (nd.keys.length + 1) c7).ownBlock = some j) ∨ (Value.slice A10 (nd.vals.length + 1) c10).ownBlock = some j) bn q ⟨insI nd.keys ii k, insI nd.vals ii v, []⟩ := by
         refine NdV.own (vk := .slice A7 (nd.keys.length + 1) c7) (vv := .slice A10 (nd.vals.length + 1) c10) (vc := vc) (nd := ⟨insI nd.keys ii k, insI nd.vals ii v, []⟩) ?_
         have hr := HF.out.1
         exact (hr.chg hc12 (fun g hg e => own_blk_ne hr.rk hbn10 (by decide) (by rw [hg, e])) (fun g hg e => own_blk_ne hr.rv hbn10 (by decide) (by rw [hg, e])) (fun g hg e => own_blk_ne hr.rc hbn10 (by decide) (by rw [hg, e]))).ndv hb12 (.inl (.inl HV.out.nb))
        have hcN : Chg N w4 W12 := Chg.trans HF.out.2.2 hc12 fun j _ e => by subst e; exact HV.out.nb
        have hcW : Chg N wr W12 := Grew.then H4.out.2.1 hcN
        have hJ := HJ.out
        have hwz := hJ.rch.chg.size
        have hpos := tab_pos H.out.1.gp.tab
        have hbt12 : BT W12 t p root F' y := hJ.bt.chg hcW (fun j hj e => hJ.nF j e hj) (fun e => by have := hJ.nw _ e; omega) (fun e => by have := hJ.nw _ e; have := hJ.tl; omega)
        have hfit : (⟨insI nd.keys ii k, insI nd.vals ii v, []⟩ : Nd).Fit y.sz := nd_put_fit (hJ.bt.gp.fit hJ.way.nd).1 (by rw [← H4.out.2.2.2]; exact atI_le _ _) (by have := half_most hJ.bt.gp.szs.2.2.1; have := hJ.room; omega) H.out.2.2.2.2.1 H.out.2.2.2.2.2.1
        obtain ⟨cq, q1, q2⟩ := hJ.ts.pgs q hJ.way.q_mem
        have hsv := bsave_any t p root bn q F' _ y cq ⟨insI nd.keys ii k, insI nd.vals ii v, []⟩ W12 hbt12 hn12.at hfit (by rw [hJ.like.was]; exact H.out.2.1) q1 q2 (fun e => hJ.nF _ HV.out.nb e)
        have HE := Lib.hid (And.intro hsv (And.intro hcW (And.intro hfit hbt12)))
        clear hsv hcW hfit hbt12 hn12 hcN hb12 hc12 hbn10 hJ hwz hpos q1 q2 hHeld hS
        go_wp2_with fail
        refine HE.out.1.mono ?_
        rintro e w' (⟨rfl, hto⟩ | ⟨hns, -, rfl, hg⟩)
        ·have hput := HJ.out.put (v := v) H1.out.2.2.2 HE.out.2.1 (fun j e => .inr (HJ.out.nw j e)) HJ.out.bt.gp.szs.2.2.2.1 (by rw [H4.out.2.2.2]; exact hto) (by rw [H4.out.2.2.2]; exact HE.out.2.2.1)
         have HO := Lib.hid hput
         clear hput hto
         go_wp2_with fail
         go_ret
         exact .inl ⟨rfl, HO.out⟩
        ·have hput := HJ.out.fail (m := 0) (G := F') HE.out.2.1 (fun j e => .inr (HJ.out.nw j e)) ⟨y, F', HE.out.2.2.2.grew hg, hg.chg, fun _ e => .inl e, Rp.like.refl y, by omega, fun e => hns e.1⟩ (by omega) (fun j e => .inl e)
         have HO := Lib.hid hput
         clear hput hg hns
         go_wp2_with fail
         go_ret
         exact .inr ⟨rfl, HO.out⟩
       ·go_simp
        obtain ⟨W8, hW8⟩ : ∃ W, W6.alloc (.cells #[.int .i64 v] 3) = W := ⟨_, rfl⟩
        rw [hW8]
        have gW8 : Grew W6 W8 := hW8 ▸ (Chg.refl NoF W6).alloc _
        have lW8 : Blk W8 W6.heap.size 3 #[.int .i64 v] := hW8 ▸ Blk.new W6 _ _
        have hR8 := hR6.grew gW8
        have hB8 := hB6.grew gW8
        refine hK.out _ _ (fun _ => (⟨(hB8).cell 1, (hB8).cell 2⟩ : W8.cell? ⟨bn, 1, none⟩ = some vk ∧ W8.cell? ⟨bn, 2, none⟩ = some vv)) ?_
        clear hK K
        (try simp only [Act.put, lA, lB, lC, lD, lE, lF])
        refine rdX (i := 9) (by kernel_rfl) rfl fun K hK => ?_
        go_simp
        refine (insK hR8 (by omega) HP.out.2.1 (lW6.grew gW8) (fun e => by have := HV.out.lt _ (HV.out.nk _ e); have := gW6.size; omega) (by have := HP.out.2.2.2.1; have := gW6.size; (try have := gW8.size); omega)).mono ?_
        rintro e w9 ⟨A7, c7, rfl, hR9, ha9⟩
        have hB9 := hB8.chg ha9.chg HP.out.1.1
        have hl9 := lW8.chg ha9.chg fun e => by have := HV.out.lt _ (HV.out.nk _ e); have := gW6.size; omega
        refine hK.out _ _ (fun _ => (⟨(hB9).cell 1, (hB9).cell 2⟩ : w9.cell? ⟨bn, 1, none⟩ = some vk ∧ w9.cell? ⟨bn, 2, none⟩ = some vv)) ?_
        clear hK K
        (try simp only [Act.put, lA, lB, lC, lD, lE, lF])
        refine rdX (i := 17) (by kernel_rfl) rfl fun K hK => ?_
        go_simp
        refine (insV hR9 (by have := HP.out.2.2.1; omega) (by have := HP.out.2.2.1; have := HP.out.2.1; omega) hl9 (fun e => by have := HV.out.lt _ (HV.out.nv _ e); have := gW6.size; omega) (by have := HP.out.2.2.2.1; have := ha9.chg.size; have := gW6.size; have := gW8.size; omega)).mono ?_
        rintro e w10 ⟨A10, c10, rfl, hR10, ha10⟩
        have hB10 := hB9.chg ha10.chg HP.out.1.2.1
        have hC10 : Chg N w4 w10 := Chg.trans (Grew.then (Grew.trans gW6 gW8) (ha9.chg.mono fun j _ e => HV.out.nk j e)) (ha10.chg.mono fun j _ e => HV.out.nv j e) fun _ _ e => e

        have HF := Lib.hid (show Rws w10 (fun j => (N j ∨ (Value.slice A7 (nd.keys.length + 1) c7).ownBlock = some j) ∨ (Value.slice A10 (nd.vals.length + 1) c10).ownBlock = some j) (.slice A7 (nd.keys.length + 1) c7) (.slice A10 (nd.vals.length + 1) c10) vc (iv (insI nd.keys ii k)) (iv (insI nd.vals ii v)) (nv []) ∧ Blk w10 bn 73 #[.int .i64 q, vk, vv, vc] ∧ Chg N w4 w10 from ⟨HP.out.2.2.2.2.2 ▸ hR10, hB10, hC10⟩)
        clear hR10 hB10 hC10
        clear hR6 hB6 hR8 hB8 hR9 ha9 hB9 hl9 ha10 lW6 lW8 gW6 gW8 hW6 hW8

        have hb10 := HF.out.2.1
        obtain ⟨d9, f9, s9⟩ := hb10.facts
        have hS10 : w10.cell? ⟨bn, 1, none⟩ = some vk ∧ w10.cell? ⟨bn, 2, none⟩ = some vv := ⟨hb10.cell 1, hb10.cell 2⟩
        refine hK.out _ _ (fun _ => hS10) ?_
        clear hK K
        (try simp only [Act.put, lA, lB, lC, lD, lE, lF])
        refine rdX (i := 18) (by kernel_rfl) rfl fun K hK => ?_
        go_simp
        refine hK.out _ _ (fun _ => hS10) ?_
        clear hK K
        (try simp only [Act.put, lA, lB, lC, lD, lE, lF])
        refine rdX (i := 19) (by kernel_rfl) rfl fun K hK => ?_
        go_simp
        refine hK.out _ _ (fun _ => hS10) ?_
        clear hK K
        (try simp only [Act.put, lA, lB, lC, lD, lE, lF])
        refine rdX (i := 20) (by kernel_rfl) rfl fun K hK => ?_
        go_simp
        obtain ⟨W11, hW11⟩ : ∃ W, w10.setCell ⟨bn, 1, none⟩ (.slice A7 (nd.keys.length + 1) c7) = W := ⟨_, rfl⟩
        rw [hW11]
        have hb11 : Blk W11 bn 73 #[.int .i64 q, .slice A7 (nd.keys.length + 1) c7, vv, vc] := by
         have h9 := hb10.put 1 (.slice A7 (nd.keys.length + 1) c7)
         rw [hW11] at h9
         simpa using h9
        have hc11 : Chg (fun j => j = bn) w10 W11 := hW11 ▸ (Chg.refl (fun j => j = bn) w10).setCell (p := ⟨bn, 1, none⟩) (fun _ => rfl) _
        clear d9 f9 s9 hS10 hb10 hW11
        obtain ⟨d9, f9, s9⟩ := hb11.facts
        refine hK.out _ _ (fun h => by cases h) ?_
        clear hK K
        (try simp only [Act.put, lA, lB, lC, lD, lE, lF])
        refine rdX (i := 21) (by kernel_rfl) rfl fun K hK => ?_
        go_simp
        refine hK.out _ _ (fun h => by cases h) ?_
        clear hK K
        (try simp only [Act.put, lA, lB, lC, lD, lE, lF])
        refine rdX (i := 22) (by kernel_rfl) rfl fun K hK => ?_
        go_simp
        refine hK.out _ _ (fun h => by cases h) ?_
        clear hK K
        (try simp only [Act.put, lA, lB, lC, lD, lE, lF])
        refine rdX (i := 23) (by kernel_rfl) rfl fun K hK => ?_
        go_simp
        obtain ⟨W12, hW12⟩ : ∃ W, W11.setCell ⟨bn, 2, none⟩ (.slice A10 (nd.vals.length + 1) c10) = W := ⟨_, rfl⟩
        rw [hW12]
        have hb12 : Blk W12 bn 73 #[.int .i64 q, .slice A7 (nd.keys.length + 1) c7, .slice A10 (nd.vals.length + 1) c10, vc] := by
         have h9 := hb11.put 2 (.slice A10 (nd.vals.length + 1) c10)
         rw [hW12] at h9
         simpa using h9
        have hc12 : Chg (fun j => j = bn) w10 W12 := Chg.trans hc11 (hW12 ▸ (Chg.refl (fun j => j = bn) W11).setCell (p := ⟨bn, 2, none⟩) (fun _ => rfl) _) fun _ _ e => e
        clear d9 f9 s9 hW12 hb11 hc11
        refine hK.out _ _ (fun h => by cases h) ?_
        clear hK K
        (try simp only [Act.put, lA, lB, lC, lD, lE, lF])
        refine wpAnyX_done (by kernel_rfl) ?_ _
        have hbn10 := HF.out.2.1
        have hn12 : NdOwn W12 (fun j => (N j ∨ (Value.slice A7 (nd.keys.length + 1) c7).ownBlock = some j) ∨ (Value.slice A10 (nd.vals.length + 1) c10).ownBlock = some j) bn q ⟨insI nd.keys ii k, insI nd.vals ii v, []⟩ := by
         refine NdV.own (vk := .slice A7 (nd.keys.length + 1) c7) (vv := .slice A10 (nd.vals.length + 1) c10) (vc := vc) (nd := ⟨insI nd.keys ii k, insI nd.vals ii v, []⟩) ?_
         have hr := HF.out.1
         exact (hr.chg hc12 (fun g hg e => own_blk_ne hr.rk hbn10 (by decide) (by rw [hg, e])) (fun g hg e => own_blk_ne hr.rv hbn10 (by decide) (by rw [hg, e])) (fun g hg e => own_blk_ne hr.rc hbn10 (by decide) (by rw [hg, e]))).ndv hb12 (.inl (.inl HV.out.nb))
        have hcN : Chg N w4 W12 := Chg.trans HF.out.2.2 hc12 fun j _ e => by subst e; exact HV.out.nb
        have hcW : Chg N wr W12 := Grew.then H4.out.2.1 hcN
        have hJ := HJ.out
        have hwz := hJ.rch.chg.size
        have hpos := tab_pos H.out.1.gp.tab
        have hbt12 : BT W12 t p root F' y := hJ.bt.chg hcW (fun j hj e => hJ.nF j e hj) (fun e => by have := hJ.nw _ e; omega) (fun e => by have := hJ.nw _ e; have := hJ.tl; omega)
        have hfit : (⟨insI nd.keys ii k, insI nd.vals ii v, []⟩ : Nd).Fit y.sz := nd_put_fit (hJ.bt.gp.fit hJ.way.nd).1 (by rw [← H4.out.2.2.2]; exact atI_le _ _) (by have := half_most hJ.bt.gp.szs.2.2.1; have := hJ.room; omega) H.out.2.2.2.2.1 H.out.2.2.2.2.2.1
        obtain ⟨cq, q1, q2⟩ := hJ.ts.pgs q hJ.way.q_mem
        have hsv := bsave_any t p root bn q F' _ y cq ⟨insI nd.keys ii k, insI nd.vals ii v, []⟩ W12 hbt12 hn12.at hfit (by rw [hJ.like.was]; exact H.out.2.1) q1 q2 (fun e => hJ.nF _ HV.out.nb e)
        have HE := Lib.hid (And.intro hsv (And.intro hcW (And.intro hfit hbt12)))
        clear hsv hcW hfit hbt12 hn12 hcN hb12 hc12 hbn10 hJ hwz hpos q1 q2 hHeld hS
        go_wp2_with fail
        refine HE.out.1.mono ?_
        rintro e w' (⟨rfl, hto⟩ | ⟨hns, -, rfl, hg⟩)
        ·have hput := HJ.out.put (v := v) H1.out.2.2.2 HE.out.2.1 (fun j e => .inr (HJ.out.nw j e)) HJ.out.bt.gp.szs.2.2.2.1 (by rw [H4.out.2.2.2]; exact hto) (by rw [H4.out.2.2.2]; exact HE.out.2.2.1)
         have HO := Lib.hid hput
         clear hput hto
         go_wp2_with fail
         go_ret
         exact .inl ⟨rfl, HO.out⟩
        ·have hput := HJ.out.fail (m := 0) (G := F') HE.out.2.1 (fun j e => .inr (HJ.out.nw j e)) ⟨y, F', HE.out.2.2.2.grew hg, hg.chg, fun _ e => .inl e, Rp.like.refl y, by omega, fun e => hns e.1⟩ (by omega) (fun j e => .inl e)
         have HO := Lib.hid hput
         clear hput hg hns
         go_wp2_with fail
         go_ret
         exact .inr ⟨rfl, HO.out⟩
      ·go_simp
       obtain ⟨W6, hW6⟩ : ∃ W, (w4.alloc (.cells #[.int .i64 v] 3)).drew = W := ⟨_, rfl⟩
       rw [hW6]
       have gW6 : Grew w4 W6 := hW6 ▸ ((Chg.refl NoF w4).alloc _).drew
       have lW6 : Blk W6 w4.heap.size 3 #[.int .i64 v] := hW6 ▸ (Blk.new w4 _ _).drew
       have hR6 := HV.out.rws.grew gW6
       have hB6 := HV.out.blk.grew gW6
       refine hK.out _ _ (fun _ => (⟨(hB6).cell 1, (hB6).cell 2⟩ : W6.cell? ⟨bn, 1, none⟩ = some vk ∧ W6.cell? ⟨bn, 2, none⟩ = some vv)) ?_
       clear hK K
       (try simp only [Act.put, lA, lB, lC, lD, lE, lF])
       refine rdX (i := 8) (by kernel_rfl) rfl fun K hK => ?_
       go_simp
       obtain ⟨W8, hW8⟩ : ∃ W, W6.alloc (.cells #[.int .i64 k] 3) = W := ⟨_, rfl⟩
       rw [hW8]
       have gW8 : Grew W6 W8 := hW8 ▸ (Chg.refl NoF W6).alloc _
       have lW8 : Blk W8 W6.heap.size 3 #[.int .i64 k] := hW8 ▸ Blk.new W6 _ _
       have hR8 := hR6.grew gW8
       have hB8 := hB6.grew gW8
       refine hK.out _ _ (fun _ => (⟨(hB8).cell 1, (hB8).cell 2⟩ : W8.cell? ⟨bn, 1, none⟩ = some vk ∧ W8.cell? ⟨bn, 2, none⟩ = some vv)) ?_
       clear hK K
       (try simp only [Act.put, lA, lB, lC, lD, lE, lF])
       refine rdX (i := 9) (by kernel_rfl) rfl fun K hK => ?_
       go_simp
       refine (insK hR8 (by omega) HP.out.2.1 lW8 (fun e => by have := HV.out.lt _ (HV.out.nk _ e); have := gW6.size; omega) (by have := HP.out.2.2.2.1; have := gW6.size; (try have := gW8.size); omega)).mono ?_
       rintro e w9 ⟨A7, c7, rfl, hR9, ha9⟩
       have hB9 := hB8.chg ha9.chg HP.out.1.1
       have hl9 := (lW6.grew gW8).chg ha9.chg fun e => by have := HV.out.lt _ (HV.out.nk _ e); have := gW6.size; omega
       refine hK.out _ _ (fun _ => (⟨(hB9).cell 1, (hB9).cell 2⟩ : w9.cell? ⟨bn, 1, none⟩ = some vk ∧ w9.cell? ⟨bn, 2, none⟩ = some vv)) ?_
       clear hK K
       (try simp only [Act.put, lA, lB, lC, lD, lE, lF])
       refine rdX (i := 17) (by kernel_rfl) rfl fun K hK => ?_
       go_simp
       refine (insV hR9 (by have := HP.out.2.2.1; omega) (by have := HP.out.2.2.1; have := HP.out.2.1; omega) hl9 (fun e => by have := HV.out.lt _ (HV.out.nv _ e); have := gW6.size; omega) (by have := HP.out.2.2.2.1; have := ha9.chg.size; have := gW6.size; have := gW8.size; omega)).mono ?_
       rintro e w10 ⟨A10, c10, rfl, hR10, ha10⟩
       have hB10 := hB9.chg ha10.chg HP.out.1.2.1
       have hC10 : Chg N w4 w10 := Chg.trans (Grew.then (Grew.trans gW6 gW8) (ha9.chg.mono fun j _ e => HV.out.nk j e)) (ha10.chg.mono fun j _ e => HV.out.nv j e) fun _ _ e => e

       have HF := Lib.hid (show Rws w10 (fun j => (N j ∨ (Value.slice A7 (nd.keys.length + 1) c7).ownBlock = some j) ∨ (Value.slice A10 (nd.vals.length + 1) c10).ownBlock = some j) (.slice A7 (nd.keys.length + 1) c7) (.slice A10 (nd.vals.length + 1) c10) vc (iv (insI nd.keys ii k)) (iv (insI nd.vals ii v)) (nv []) ∧ Blk w10 bn 73 #[.int .i64 q, vk, vv, vc] ∧ Chg N w4 w10 from ⟨HP.out.2.2.2.2.2 ▸ hR10, hB10, hC10⟩)
       clear hR10 hB10 hC10
       clear hR6 hB6 hR8 hB8 hR9 ha9 hB9 hl9 ha10 lW6 lW8 gW6 gW8 hW6 hW8

       have hb10 := HF.out.2.1
       obtain ⟨d9, f9, s9⟩ := hb10.facts
       have hS10 : w10.cell? ⟨bn, 1, none⟩ = some vk ∧ w10.cell? ⟨bn, 2, none⟩ = some vv := ⟨hb10.cell 1, hb10.cell 2⟩
       refine hK.out _ _ (fun _ => hS10) ?_
       clear hK K
       (try simp only [Act.put, lA, lB, lC, lD, lE, lF])
       refine rdX (i := 18) (by kernel_rfl) rfl fun K hK => ?_
       go_simp
       refine hK.out _ _ (fun _ => hS10) ?_
       clear hK K
       (try simp only [Act.put, lA, lB, lC, lD, lE, lF])
       refine rdX (i := 19) (by kernel_rfl) rfl fun K hK => ?_
       go_simp
       refine hK.out _ _ (fun _ => hS10) ?_
       clear hK K
       (try simp only [Act.put, lA, lB, lC, lD, lE, lF])
       refine rdX (i := 20) (by kernel_rfl) rfl fun K hK => ?_
       go_simp
       obtain ⟨W11, hW11⟩ : ∃ W, w10.setCell ⟨bn, 1, none⟩ (.slice A7 (nd.keys.length + 1) c7) = W := ⟨_, rfl⟩
       rw [hW11]
       have hb11 : Blk W11 bn 73 #[.int .i64 q, .slice A7 (nd.keys.length + 1) c7, vv, vc] := by
        have h9 := hb10.put 1 (.slice A7 (nd.keys.length + 1) c7)
        rw [hW11] at h9
        simpa using h9
       have hc11 : Chg (fun j => j = bn) w10 W11 := hW11 ▸ (Chg.refl (fun j => j = bn) w10).setCell (p := ⟨bn, 1, none⟩) (fun _ => rfl) _
       clear d9 f9 s9 hS10 hb10 hW11
       obtain ⟨d9, f9, s9⟩ := hb11.facts
       refine hK.out _ _ (fun h => by cases h) ?_
       clear hK K
       (try simp only [Act.put, lA, lB, lC, lD, lE, lF])
       refine rdX (i := 21) (by kernel_rfl) rfl fun K hK => ?_
       go_simp
       refine hK.out _ _ (fun h => by cases h) ?_
       clear hK K
       (try simp only [Act.put, lA, lB, lC, lD, lE, lF])
       refine rdX (i := 22) (by kernel_rfl) rfl fun K hK => ?_
       go_simp
       refine hK.out _ _ (fun h => by cases h) ?_
       clear hK K
       (try simp only [Act.put, lA, lB, lC, lD, lE, lF])
       refine rdX (i := 23) (by kernel_rfl) rfl fun K hK => ?_
       go_simp
       obtain ⟨W12, hW12⟩ : ∃ W, W11.setCell ⟨bn, 2, none⟩ (.slice A10 (nd.vals.length + 1) c10) = W := ⟨_, rfl⟩
       rw [hW12]
       have hb12 : Blk W12 bn 73 #[.int .i64 q, .slice A7 (nd.keys.length + 1) c7, .slice A10 (nd.vals.length + 1) c10, vc] := by
        have h9 := hb11.put 2 (.slice A10 (nd.vals.length + 1) c10)
        rw [hW12] at h9
        simpa using h9
       have hc12 : Chg (fun j => j = bn) w10 W12 := Chg.trans hc11 (hW12 ▸ (Chg.refl (fun j => j = bn) W11).setCell (p := ⟨bn, 2, none⟩) (fun _ => rfl) _) fun _ _ e => e
       clear d9 f9 s9 hW12 hb11 hc11
       refine hK.out _ _ (fun h => by cases h) ?_
       clear hK K
       (try simp only [Act.put, lA, lB, lC, lD, lE, lF])
       refine wpAnyX_done (by kernel_rfl) ?_ _
       have hbn10 := HF.out.2.1
       have hn12 : NdOwn W12 (fun j => (N j ∨ (Value.slice A7 (nd.keys.length + 1) c7).ownBlock = some j) ∨ (Value.slice A10 (nd.vals.length + 1) c10).ownBlock = some j) bn q ⟨insI nd.keys ii k, insI nd.vals ii v, []⟩ := by
        refine NdV.own (vk := .slice A7 (nd.keys.length + 1) c7) (vv := .slice A10 (nd.vals.length + 1) c10) (vc := vc) (nd := ⟨insI nd.keys ii k, insI nd.vals ii v, []⟩) ?_
        have hr := HF.out.1
        exact (hr.chg hc12 (fun g hg e => own_blk_ne hr.rk hbn10 (by decide) (by rw [hg, e])) (fun g hg e => own_blk_ne hr.rv hbn10 (by decide) (by rw [hg, e])) (fun g hg e => own_blk_ne hr.rc hbn10 (by decide) (by rw [hg, e]))).ndv hb12 (.inl (.inl HV.out.nb))
       have hcN : Chg N w4 W12 := Chg.trans HF.out.2.2 hc12 fun j _ e => by subst e; exact HV.out.nb
       have hcW : Chg N wr W12 := Grew.then H4.out.2.1 hcN
       have hJ := HJ.out
       have hwz := hJ.rch.chg.size
       have hpos := tab_pos H.out.1.gp.tab
       have hbt12 : BT W12 t p root F' y := hJ.bt.chg hcW (fun j hj e => hJ.nF j e hj) (fun e => by have := hJ.nw _ e; omega) (fun e => by have := hJ.nw _ e; have := hJ.tl; omega)
       have hfit : (⟨insI nd.keys ii k, insI nd.vals ii v, []⟩ : Nd).Fit y.sz := nd_put_fit (hJ.bt.gp.fit hJ.way.nd).1 (by rw [← H4.out.2.2.2]; exact atI_le _ _) (by have := half_most hJ.bt.gp.szs.2.2.1; have := hJ.room; omega) H.out.2.2.2.2.1 H.out.2.2.2.2.2.1
       obtain ⟨cq, q1, q2⟩ := hJ.ts.pgs q hJ.way.q_mem
       have hsv := bsave_any t p root bn q F' _ y cq ⟨insI nd.keys ii k, insI nd.vals ii v, []⟩ W12 hbt12 hn12.at hfit (by rw [hJ.like.was]; exact H.out.2.1) q1 q2 (fun e => hJ.nF _ HV.out.nb e)
       have HE := Lib.hid (And.intro hsv (And.intro hcW (And.intro hfit hbt12)))
       clear hsv hcW hfit hbt12 hn12 hcN hb12 hc12 hbn10 hJ hwz hpos q1 q2 hHeld hS
       go_wp2_with fail
       refine HE.out.1.mono ?_
       rintro e w' (⟨rfl, hto⟩ | ⟨hns, -, rfl, hg⟩)
       ·have hput := HJ.out.put (v := v) H1.out.2.2.2 HE.out.2.1 (fun j e => .inr (HJ.out.nw j e)) HJ.out.bt.gp.szs.2.2.2.1 (by rw [H4.out.2.2.2]; exact hto) (by rw [H4.out.2.2.2]; exact HE.out.2.2.1)
        have HO := Lib.hid hput
        clear hput hto
        go_wp2_with fail
        go_ret
        exact .inl ⟨rfl, HO.out⟩
       ·have hput := HJ.out.fail (m := 0) (G := F') HE.out.2.1 (fun j e => .inr (HJ.out.nw j e)) ⟨y, F', HE.out.2.2.2.grew hg, hg.chg, fun _ e => .inl e, Rp.like.refl y, by omega, fun e => hns e.1⟩ (by omega) (fun j e => .inl e)
        have HO := Lib.hid hput
        clear hput hg hns
        go_wp2_with fail
        go_ret
        exact .inr ⟨rfl, HO.out⟩

     ·have t1 : decide (nd.kids.length = 0) = false := decide_eq_false h0
      have t2 : decide (nd.kids = []) = false := decide_eq_false fun e => h0 (by rw [e]; rfl)
      have H0 := Lib.hid h0
      obtain ⟨d', rfl⟩ : ∃ d', d = d' + 1 := ⟨d - 1, by
       obtain ⟨nd', g1, -, -, g2⟩ := HJ.out.way.tr.node
       rw [HJ.out.way.nd] at g1
       cases g1
       have hd0 : d ≠ 0 := fun e => h0 (g2.2 e)
       omega⟩
      obtain ⟨c2, kd, A2, M2, B2, P3, PM2, P4, hc2, hw2⟩ := HJ.out.way.down HJ.out.ts.srt HL.out.2.2.1
      rw [HL.out.2.2.2] at hc2
      have hil : ii < nd.kids.length := (List.getElem?_eq_some_iff.1 hc2).1
      obtain ⟨cp, cp1, cp2, cp3⟩ := Rp.nd_some hw2.nd
      have hkl2 : kd.keys.length ≤ 300 := by have h1 := (HJ.out.bt.gp.fit hw2.nd).1.most; have h2 := HJ.out.bt.gp.szs; unfold mostN at h1; omega
      have hiN : (ii : Int) < (nd.kids.length : Int) := by omega
      have H2 := Lib.hid (And.intro hc2 (And.intro hw2 (And.intro cp1 (And.intro cp2 cp3))))
      clear hc2 hw2 cp1 cp2 cp3 h0
      go_wp2_with (go_at_call 41; (refine HL.out.1.mono ?_); rintro e w5 ⟨rfl, rfl⟩)
      refine HL.out.2.1.mono ?_
      rintro e w4 ⟨rfl, hg4⟩
      have hbt4 := HJ.out.bt.grew hg4
      have hld := bload_any t p root c2 F' y cp kd w4 hbt4 H2.out.2.2.1 H2.out.2.2.2.1 H2.out.2.2.2.2
      have hn4 := HJ.out.own.grew hg4
      obtain ⟨Ak, ck, Av, cv, Ac, cc, b1, -, -, b4, -⟩ := hn4.at
      obtain ⟨c0, f0, s0⟩ := b1.facts
      obtain ⟨g, off, rfl, hgl, hx⟩ := b4.2 (by omega)
      have hce : w4.cell? ⟨g, off + ii, none⟩ = some (.int .i64 c2) := hx ii _ (by simp [nv, H2.out.1])
      have H4 := Lib.hid (And.intro hld (And.intro hg4 (And.intro hn4 hbt4)))
      clear hld hg4 hn4 hbt4 b1 b4 hx hgl
      go_wp2_with fail
      refine H4.out.1.mono ?_
      rintro e w5 ⟨b3, N3, rfl, hn5, hN5, hbt5, hc5⟩
      clear c0 f0 s0 hce
      have hfu := bfull_any t p root b3 c2 F' N3 y kd w5 hbt5 hn5.at hkl2
      have H5 := Lib.hid (And.intro hfu (And.intro hn5 (And.intro hN5 (And.intro hbt5 hc5))))
      clear hfu hn5 hN5 hbt5 hc5
      go_wp2_with fail
      by_cases hfull : 2 * halfN y.sz - 1 ≤ kd.keys.length
      ·have t5 : decide (2 * halfN y.sz - 1 ≤ kd.keys.length) = true := decide_eq_true hfull
       have t6 : decide (2 * halfN y.sz ≤ kd.keys.length + 1) = true := decide_eq_true (by omega)
       refine H5.out.1.mono ?_
       rintro e w6 ⟨rfl, hg6⟩
       have hJ := HJ.out
       have hwz := hJ.rch.chg.size
       have hz4 := H4.out.2.1.size
       have hz5 := H5.out.2.2.2.2.size
       have hz6 := hg6.size
       have hpos := tab_pos H.out.1.gp.tab
       have hz := hJ.bt.gp.szs
       have h2h := half_two hz.2.2.1
       have hlt := hJ.bt.gp.lt
       have hNlt : ∀ j, N j → j < wr.heap.size := fun j hj => hJ.own.at.lt j hj
       have hcW : Chg F' wr w6 := (Grew.then H4.out.2.1 H5.out.2.2.2.2).grew hg6
       have hnode : kd.keys.length = 2 * halfN y.sz - 1 := by
        obtain ⟨nd', g1, -, g2, -⟩ := H2.out.2.1.tr.node
        rw [H2.out.2.1.nd] at g1
        cases g1
        omega
       have hf1 := hJ.bt.gp.fit hJ.way.nd
       have hf2 := hJ.bt.gp.fit H2.out.2.1.nd
       have hSp : Sp w6 t p root F' y N N3 b3 c2 kd := ⟨H5.out.2.2.2.1.grew hg6, H5.out.2.1.grew hg6, fun j hj e => by have := hNlt j hj; have := H5.out.2.2.1 j e; omega, fun j hj => ⟨hJ.nF j hj, by have := hJ.nw j hj; have := hJ.tl; omega, by have := hJ.nw j hj; omega, by have := hNlt j hj; omega⟩, fun j hj e => by have := H5.out.2.2.1 j hj; have := hlt j e; omega⟩
       have hspl := bsplit_any t p root bn q ii b3 c2 (halfN y.sz) F' N N3 y nd kd w6 hSp (hJ.own.chg hcW hJ.nF) rfl (half_two hz.2.2.1) (by rw [hJ.like.was]; exact H.out.2.1) hnode (hf2.1.vals.trans hnode) (by rcases hf2.1.kids with e | e <;> omega) hJ.room hf1.1.vals (by rcases hf1.1.kids with e | e; exact absurd e H0.out; exact e) (by rw [← HL.out.2.2.2]; exact atI_le _ _) hf1.1 hf2.1 (hJ.ts.pgs q hJ.way.q_mem) ⟨cp, H2.out.2.2.1, H2.out.2.2.2.1⟩ ⟨fun e => by have := H5.out.2.2.1 _ e; have := hJ.tl; omega, fun e => by have := H5.out.2.2.1 _ e; omega⟩
       have H6 := Lib.hid (And.intro hspl (And.intro hcW (And.intro hnode (And.intro hz4 (And.intro hz5 (And.intro hz6 hwz))))))
       clear h2h hspl hSp hcW hnode hf1 hf2 hNlt hlt hz hpos hz4 hz5 hz6 hwz hJ hg6 hfull
       go_wp2_with fail
       refine H6.out.1.mono ?_
       rintro e w7 (⟨rfl, r, k0, v0, F2, N2, hr, hk0, hv0, hbt7, hcg, hFn, hno, hdis, hNn, ff1, ff2, ff3⟩ | ⟨rfl, hfu⟩)
       ·obtain ⟨P', PM', e', ke, A', M', B', P1', PM3, P2', ⟨j1, j2, j3, j4, j5⟩, d1, d2, hke, hus⟩ := HJ.out.split H1.out.2.2.2 (W1 := w6) (G := fun j => F' j ∨ N j ∨ N3 j) (N' := N2) (by rw [HL.out.2.2.2]; exact H2.out.1) H2.out.2.1.nd H6.out.2.2.1 (half_two HJ.out.bt.gp.szs.2.2.1) HJ.out.bt.gp.szs.2.2.2.1 hr hk0 hv0 (by rw [HL.out.2.2.2]; exact hbt7) H6.out.2.1 hcg (fun j e => e.elim .inl fun e => e.elim (fun e => .inr (HJ.out.nw j e)) fun e => .inr (by have := H5.out.2.2.1 j e; have := H6.out.2.2.2; omega)) hFn (by rw [HL.out.2.2.2]; exact hno) hdis hNn ff1 ff2 (by rw [HL.out.2.2.2]; exact ff3)
        rw [HL.out.2.2.2] at j1 j3 j4 j5 d1 d2 hus
        obtain ⟨y2, hy2⟩ : ∃ y2, y.splitP r c2 q (kd.hi (halfN y.sz)) (kd.lo (halfN y.sz)) (nd.ins ii k0 v0 r) = y2 := ⟨_, rfl⟩
        have hsz2 : y2.sz = y.sz := by rw [← hy2]; rfl
        rw [hy2] at j1 j3 j4 j5 d2 hus
        rw [← hsz2] at j5 d2 hke
        obtain ⟨nd2, hnd2⟩ : ∃ nd2, nd.ins ii k0 v0 r = nd2 := ⟨_, rfl⟩
        rw [hnd2] at j5 d1 hno
        have hks2 := j5.tr.keys j5.nd (j5.srt j4.srt)
        have hkl3 : nd2.keys.length ≤ 300 := by have h1 := (j1.gp.fit j5.nd).1.most; have h2 := j1.gp.szs; unfold mostN at h1; omega
        have hpl2 := bplace_any bn q nd2 N2 k w7 hno.at hks2 (by omega)
        obtain ⟨i2, hi2⟩ : ∃ i, atI nd2.keys k = i := ⟨_, rfl⟩
        obtain ⟨f2, hf2⟩ : ∃ f, nd2.keys.contains k = f := ⟨_, rfl⟩
        rw [hi2] at d1
        rw [hi2, hf2] at hpl2
        have hil2 : i2 < nd2.kids.length := (List.getElem?_eq_some_iff.1 d1).1
        have hiN2 : (i2 : Int) < (nd2.kids.length : Int) := by omega
        obtain ⟨cp', cq1, cq2, cq3⟩ := Rp.nd_some d2.nd
        have H7 := Lib.hid (And.intro hpl2 (And.intro (And.intro j1 (And.intro j2 (And.intro j3 (And.intro j4 j5)))) (And.intro d1 (And.intro d2 (And.intro hke (And.intro hus (And.intro hno (And.intro hdis (And.intro hNn (And.intro cq1 (And.intro cq2 cq3)))))))))))
        clear hpl2 j1 j2 j3 j4 j5 d1 d2 hke hus hno hdis hNn cq1 cq2 cq3 hr hk0 hv0 hbt7 hcg hFn ff1 ff2 ff3 hy2 hnd2 hsz2 hks2 hf2 hi2
        go_wp2_with fail
        refine H7.out.1.mono ?_
        rintro e w8 ⟨rfl, hg8⟩
        have hn8 := H7.out.2.2.2.2.2.2.1.grew hg8
        have hbt8 := H7.out.2.1.1.grew hg8
        have hld := bload_any t p root e' F2 y2 cp' ke w8 hbt8 H7.out.2.2.2.2.2.2.2.2.2.1 H7.out.2.2.2.2.2.2.2.2.2.2.1 H7.out.2.2.2.2.2.2.2.2.2.2.2
        obtain ⟨Ak2, ck2, Av2, cv2, Ac2, cc2, b1, -, -, b4, -⟩ := hn8.at
        obtain ⟨c0, f0, s0⟩ := b1.facts
        obtain ⟨g2, off2, rfl, hgl, hx⟩ := b4.2 (by omega)
        have hce : w8.cell? ⟨g2, off2 + i2, none⟩ = some (.int .i64 e') := hx i2 _ (by simp [nv, H7.out.2.2.1])
        have H8 := Lib.hid (And.intro hld (And.intro hg8 hbt8))
        clear hld hg8 hn8 hbt8 b1 b4 hx hgl
        go_wp2_with fail
        refine H8.out.1.mono ?_
        rintro e w9 ⟨b5, N5, rfl, hn9, hN9, hbt9, hc9⟩
        clear c0 f0 s0 hce
        have H9 := Lib.hid (And.intro hn9 (And.intro hN9 (And.intro hbt9 hc9)))
        clear hn9 hN9 hbt9 hc9
        go_wp2_with fail
        go_roundg (d' + 1)
        case measure => omega
        case rel =>
         obtain ⟨j1, j2, j3, j4, j5⟩ := H7.out.2.1
         obtain ⟨hn9, hN9, hbt9, hc9⟩ := H9.out
         have hJ := HJ.out
         have hus := H7.out.2.2.2.2.2.1
         have hu := hJ.used
         have hz8 := H8.out.2.1.size
         have hz7 := j2.chg.size
         have hlt := H7.out.2.1.1.gp.lt
         exact ⟨b5, d', e', ke, F2, y2, D, P', _, _, _, _, _, _, N5, rfl, rfl, rfl, hbt9, j2.trans ⟨Grew.then H8.out.2.1 hc9, fun j e => .inl e⟩, j3, j4, H7.out.2.2.2.1, hn9, fun j hj e => by have := hN9 j hj; have := hlt j e; omega, fun j hj => by have := hN9 j hj; omega, H7.out.2.2.2.2.1, by omega, hJ.dep, hJ.tl⟩
       ·have hput := HJ.out.fail H6.out.2.1 (fun j e => .inl e) hfu (by omega) (fun j e => e.elim .inl fun e => e.elim (fun e => .inr (HJ.out.nw j e)) fun e => .inr (by have := H5.out.2.2.1 j e; have := H6.out.2.2.2; omega))
        have HO := Lib.hid hput
        clear hput hfu
        go_wp2_with fail
        go_ret
        exact .inr ⟨rfl, HO.out⟩
      ·have t5 : decide (2 * halfN y.sz - 1 ≤ kd.keys.length) = false := decide_eq_false hfull
       have t6 : decide (2 * halfN y.sz ≤ kd.keys.length + 1) = false := decide_eq_false (by omega)
       refine H5.out.1.mono ?_
       rintro e w6 ⟨rfl, hg6⟩
       have hbt6 := H5.out.2.2.2.1.grew hg6
       have hld := bload_any t p root c2 F' y cp kd w6 hbt6 H2.out.2.2.1 H2.out.2.2.2.1 H2.out.2.2.2.2
       have hcW : Chg F' wr w6 := (Grew.then H4.out.2.1 H5.out.2.2.2.2).grew hg6
       have hn6 := HJ.out.own.chg hcW HJ.out.nF
       obtain ⟨Ak2, ck2, Av2, cv2, Ac2, cc2, b1, -, -, b4, -⟩ := hn6.at
       obtain ⟨c0, f0, s0⟩ := b1.facts
       obtain ⟨g2, off2, rfl, hgl, hx⟩ := b4.2 (by omega)
       have hce : w6.cell? ⟨g2, off2 + ii, none⟩ = some (.int .i64 c2) := hx ii _ (by simp [nv, H2.out.1])
       have hroom : kd.keys.length + 1 ≤ 2 * halfN y.sz - 1 := by omega
       have H6 := Lib.hid (And.intro hld (And.intro hcW (And.intro hbt6 hroom)))
       clear hld hg6 hn6 hbt6 b1 b4 hx hgl hcW hroom hfull
       go_wp2_with fail
       refine H6.out.1.mono ?_
       rintro e w9 ⟨b5, N5, rfl, hn9, hN9, hbt9, hc9⟩
       clear c0 f0 s0 hce
       have H9 := Lib.hid (And.intro hn9 (And.intro hN9 (And.intro hbt9 hc9)))
       clear hn9 hN9 hbt9 hc9
       go_wp2_with fail
       go_roundg (d' + 1)
       case measure => omega
       case rel =>
        obtain ⟨hn9, hN9, hbt9, hc9⟩ := H9.out
        have hz6 := H6.out.2.1.size
        exact ⟨b5, d', c2, kd, F', y, D, P, _, _, _, _, _, _, N5, rfl, rfl, rfl, HJ.out.down H2.out.2.1 (Chg.trans H6.out.2.1 hc9 fun _ _ e => e) hbt9 hn9 (fun j hj => by have := hN9 j hj; omega) H6.out.2.2.2⟩
   ·have hout : PuOut w w4 t p root F x D0 k v L (.returned (.int .i64 21)) := .inr ⟨rfl, (hfu.more (G' := F) (m' := D0 + 4) (Rp.like.refl x) (by omega) H3.out.2 (fun j e => .inl e) fun j hj e => e.resolve_right fun e => by have := HF2.out.2.2.1 j e; omega).full (Nat.le_refl _)⟩
    have HO := Lib.hid hout
    clear hout hfu hz1 hz2 hz3 hpos htl
    go_wp2_with fail
    go_loopg [11, 12] 1 (fun m n e wr => e = .int .i64 21 ∧ wr = w4)
    case atStart => exact ⟨rfl, rfl⟩
    case round =>
     obtain ⟨rfl, rfl⟩ := hrel
     go_wp2_with fail
     go_ret
     exact HO.out
  ·have t5 : decide (2 * halfN x.sz - 1 ≤ ndR.keys.length) = false := decide_eq_false hfull
   have t6 : decide (2 * halfN x.sz ≤ ndR.keys.length + 1) = false := decide_eq_false (by omega)
   refine HF2.out.1.mono ?_
   rintro e w3 ⟨rfl, hg3⟩
   have hz1 := H1.out.2.1.size
   have hz2 := HF2.out.2.2.2.2.size
   have htl := H.out.1.blk.lt
   have hJ0 : PuJ w w3 t p root F x k L b2 D0 root ndR F x D0 P [] L [] [] P [] N2 D0 := ⟨HF2.out.2.2.2.1.grew hg3, ⟨(Chg.trans H1.out.2.1 HF2.out.2.2.2.2 fun _ _ e => e).grew hg3, fun j e => .inl e⟩, Rp.like.refl x, H.out.2.2.1, H1.out.1, HF2.out.2.1.grew hg3, fun j hj e => by have := HF2.out.2.2.1 j hj; have := H.out.1.gp.lt j e; omega, fun j hj => by have := HF2.out.2.2.1 j hj; omega, by omega, by omega, by have := H.out.2.2.2.2.2.2.2.2.1; omega, htl⟩
   have HJ0 := Lib.hid hJ0
   clear hJ0 hg3 hz1 hz2 htl hfull
   go_wp2_with fail
   go_loopg [11, 12] (D0 + 1) (fun m n e wr => ∃ (bn d q : Nat) (nd : Nd) (F' : Nat → Prop) (y : Rp) (D : Nat) (P : List Nat) (A M B : List KV) (P1 PM P2 : List Nat) (N : Nat → Prop), m = d + 1 ∧ n = .pointer (some ⟨bn, 0, none⟩) ∧ e = .int .i64 0 ∧ PuJ w wr t p root F x k L bn d q nd F' y D P A M B P1 PM P2 N D0)
   case atStart => exact ⟨_, D0, _, _, _, _, _, _, _, _, _, _, _, _, _, rfl, rfl, rfl, HJ0.out⟩
   case round =>
    obtain ⟨bn, d, q, nd, F', y, D, P, A, M, B, P1, PM, P2, N, rfl, rfl, rfl, hJ⟩ := hrel
    have HJ := Lib.hid hJ
    have hkl : nd.keys.length ≤ 300 := by have h1 := (hJ.bt.gp.fit hJ.way.nd).1.most; have h2 := hJ.bt.gp.szs; unfold mostN at h1; omega
    have hlf := leaf_any bn q nd N wr hJ.own.at
    have hks := hJ.way.tr.keys hJ.way.nd (hJ.way.srt hJ.ts.srt)
    have hpl := bplace_any bn q nd N k wr hJ.own.at hks (by omega)
    have hmiss := hJ.way.miss H1.out.2.2.2
    obtain ⟨ii, hii⟩ : ∃ i, atI nd.keys k = i := ⟨_, rfl⟩
    rw [hmiss, hii] at hpl
    have HL := Lib.hid (And.intro hlf (And.intro hpl (And.intro hmiss hii)))
    clear hlf hpl hks hmiss hii hJ
    by_cases h0 : nd.kids.length = 0
    ·have t1 : decide (nd.kids.length = 0) = true := decide_eq_true h0
     obtain rfl : d = 0 := by
      obtain ⟨nd', g1, -, -, g2⟩ := HJ.out.way.tr.node
      rw [HJ.out.way.nd] at g1
      cases g1
      exact g2.1 h0
     go_wp2_with (go_at_call 41; (refine HL.out.1.mono ?_); rintro e w5 ⟨rfl, rfl⟩)
     refine HL.out.2.1.mono ?_
     rintro e w4 ⟨rfl, hg4⟩
     have H4 := Lib.hid (And.intro trivial (And.intro hg4 (And.intro HL.out.2.2.1 HL.out.2.2.2)))
     clear hg4
     obtain ⟨vk, vv, vc, hV⟩ := (HJ.out.own.grew H4.out.2.1).v
     have hne := hV.ne
     have HV := Lib.hid hV
     have hS : w4.drew.cell? ⟨bn, 1, none⟩ = some vk ∧ w4.drew.cell? ⟨bn, 2, none⟩ = some vv := ⟨hV.blk.drew.cell 1, hV.blk.drew.cell 2⟩
     have hiil : ii ≤ nd.keys.length := by rw [← H4.out.2.2.2]; exact atI_le _ _
     have hvl : nd.vals.length = nd.keys.length := (HJ.out.bt.gp.fit HJ.out.way.nd).1.vals
     have hp4 : 1 ≤ w4.heap.size := by have := tab_pos H.out.1.gp.tab; have := HJ.out.rch.chg.size; have := H4.out.2.1.size; omega
     have hkc : nd.kids = [] := List.eq_nil_of_length_eq_zero h0
     have HP := Lib.hid (And.intro hne (And.intro hiil (And.intro hvl (And.intro hp4 (And.intro hkl hkc)))))
     clear hV hne hiil hvl hp4 hkc
     go_wp2_with fail
     refine wp_region_x [1, 10, 11, 12, 14, 15, 20, 21, 22, 23] (S := fun w' => w'.cell? ⟨bn, 1, none⟩ = some vk ∧ w'.cell? ⟨bn, 2, none⟩ = some vv) (by kernel_rfl) hS (fun hHeld => ?_)
     refine Todo.out (is := [1, 10, 11, 12, 14, 15]) ?_
     repeat
      refine tkP (v := ?_) rfl (by kernel_rfl) (by kernel_rfl) (by kernel_rfl) (by rfl) (fun _ _ _ h => h) (Or.inl ⟨by rfl, ?_⟩) ?_
      rotate_left
      ·(intro w hSw; go_simp) <;> with_reducible rfl
      (try simp only [Act.put, lA, lB, lC, lD, lE, lF])
     refine Todo.fin ?_
     refine wpAnyX_mono (X' := [20, 21, 22, 23]) (fun i hi => by simp at hi ⊢; omega) _ _ _ _ ?_
     refine Todo.out (is := [0, 2, 3, 4, 5, 6, 7, 13]) ?_
     repeat
      refine tkX (v := ?_) rfl (by kernel_rfl) (by kernel_rfl) (by kernel_rfl) (by kernel_rfl) (fun _ _ _ h => h) (Or.inl ⟨by rfl, ?_⟩) hHeld ?_
      rotate_left
      ·(intro w hSw; (try dsimp only at hSw); go_simp) <;> with_reducible rfl
      (try simp only [Act.put, lA, lB, lC, lD, lE, lF])
     refine Todo.fin ?_
     refine wpAnyX_ready (rs := [8, 16]) (by kernel_rfl) (by simp) ?_
     refine AllReadyX.cons rfl (fun K hK => ?_) (AllReadyX.cons rfl (fun K hK => ?_) AllReadyX.nil)
     ·go_simp
      obtain ⟨W6, hW6⟩ : ∃ W, (w4.alloc (.cells #[.int .i64 k] 3)).drew = W := ⟨_, rfl⟩
      rw [hW6]
      have gW6 : Grew w4 W6 := hW6 ▸ ((Chg.refl NoF w4).alloc _).drew
      have lW6 : Blk W6 w4.heap.size 3 #[.int .i64 k] := hW6 ▸ (Blk.new w4 _ _).drew
      have hR6 := HV.out.rws.grew gW6
      have hB6 := HV.out.blk.grew gW6
      refine hK.out _ _ (fun _ => (⟨(hB6).cell 1, (hB6).cell 2⟩ : W6.cell? ⟨bn, 1, none⟩ = some vk ∧ W6.cell? ⟨bn, 2, none⟩ = some vv)) ?_
      clear hK K
      (try simp only [Act.put, lA, lB, lC, lD, lE, lF])
      refine wpAnyX_ready (rs := [9, 16]) (by kernel_rfl) (by simp) ?_
      refine AllReadyX.cons rfl (fun K hK => ?_) (AllReadyX.cons rfl (fun K hK => ?_) AllReadyX.nil)
      ·go_simp
       refine (insK hR6 (by omega) HP.out.2.1 lW6 (fun e => by have := HV.out.lt _ (HV.out.nk _ e); have := gW6.size; omega) (by have := HP.out.2.2.2.1; have := gW6.size; (try have := gW8.size); omega)).mono ?_
       rintro e w7 ⟨A7, c7, rfl, hR7, ha7⟩
       have hB7 := hB6.chg ha7.chg HP.out.1.1
       refine hK.out _ _ (fun _ => (⟨(hB7).cell 1, (hB7).cell 2⟩ : w7.cell? ⟨bn, 1, none⟩ = some vk ∧ w7.cell? ⟨bn, 2, none⟩ = some vv)) ?_
       clear hK K
       (try simp only [Act.put, lA, lB, lC, lD, lE, lF])
       refine rdX (i := 16) (by kernel_rfl) rfl fun K hK => ?_
       go_simp
       obtain ⟨W8, hW8⟩ : ∃ W, w7.alloc (.cells #[.int .i64 v] 3) = W := ⟨_, rfl⟩
       rw [hW8]
       have gW8 : Grew w7 W8 := hW8 ▸ (Chg.refl NoF w7).alloc _
       have lW8 : Blk W8 w7.heap.size 3 #[.int .i64 v] := hW8 ▸ Blk.new w7 _ _
       have hR8 := hR7.grew gW8
       have hB8 := hB7.grew gW8
       refine hK.out _ _ (fun _ => (⟨(hB8).cell 1, (hB8).cell 2⟩ : W8.cell? ⟨bn, 1, none⟩ = some vk ∧ W8.cell? ⟨bn, 2, none⟩ = some vv)) ?_
       clear hK K
       (try simp only [Act.put, lA, lB, lC, lD, lE, lF])
       refine rdX (i := 17) (by kernel_rfl) rfl fun K hK => ?_
       go_simp
       refine (insV hR8 (by have := HP.out.2.2.1; omega) (by have := HP.out.2.2.1; have := HP.out.2.1; omega) lW8 (fun e => by have := hR7.lt _ (hR7.nv _ e); omega) (by have := HP.out.2.2.2.1; have := ha7.chg.size; have := gW6.size; have := gW8.size; omega)).mono ?_
       rintro e w10 ⟨A10, c10, rfl, hR10, ha10⟩
       have hB10 := hB8.chg ha10.chg HP.out.1.2.1
       have hC10 : Chg N w4 w10 := Chg.trans (Grew.then gW6 (ha7.chg.mono fun j _ e => HV.out.nk j e)) (Grew.then gW8 (ha10.chg.mono fun j _ e => HV.out.nv j e)) fun _ _ e => e

       have HF := Lib.hid (show Rws w10 (fun j => (N j ∨ (Value.slice A7 (nd.keys.length + 1) c7).ownBlock = some j) ∨ (Value.slice A10 (nd.vals.length + 1) c10).ownBlock = some j) (.slice A7 (nd.keys.length + 1) c7) (.slice A10 (nd.vals.length + 1) c10) vc (iv (insI nd.keys ii k)) (iv (insI nd.vals ii v)) (nv []) ∧ Blk w10 bn 73 #[.int .i64 q, vk, vv, vc] ∧ Chg N w4 w10 from ⟨HP.out.2.2.2.2.2 ▸ hR10, hB10, hC10⟩)
       clear hR10 hB10 hC10
       clear hR6 hB6 hR7 ha7 hB7 hR8 hB8 ha10 lW6 lW8 gW6 gW8 hW6 hW8

       have hb10 := HF.out.2.1
       obtain ⟨d9, f9, s9⟩ := hb10.facts
       have hS10 : w10.cell? ⟨bn, 1, none⟩ = some vk ∧ w10.cell? ⟨bn, 2, none⟩ = some vv := ⟨hb10.cell 1, hb10.cell 2⟩
       refine hK.out _ _ (fun _ => hS10) ?_
       clear hK K
       (try simp only [Act.put, lA, lB, lC, lD, lE, lF])
       refine rdX (i := 18) (by kernel_rfl) rfl fun K hK => ?_
       go_simp
       refine hK.out _ _ (fun _ => hS10) ?_
       clear hK K
       (try simp only [Act.put, lA, lB, lC, lD, lE, lF])
       refine rdX (i := 19) (by kernel_rfl) rfl fun K hK => ?_
       go_simp
       refine hK.out _ _ (fun _ => hS10) ?_
       clear hK K
       (try simp only [Act.put, lA, lB, lC, lD, lE, lF])
       refine rdX (i := 20) (by kernel_rfl) rfl fun K hK => ?_
       go_simp
       obtain ⟨W11, hW11⟩ : ∃ W, w10.setCell ⟨bn, 1, none⟩ (.slice A7 (nd.keys.length + 1) c7) = W := ⟨_, rfl⟩
       rw [hW11]
       have hb11 : Blk W11 bn 73 #[.int .i64 q, .slice A7 (nd.keys.length + 1) c7, vv, vc] := by
        have h9 := hb10.put 1 (.slice A7 (nd.keys.length + 1) c7)
        rw [hW11] at h9
        simpa using h9
       have hc11 : Chg (fun j => j = bn) w10 W11 := hW11 ▸ (Chg.refl (fun j => j = bn) w10).setCell (p := ⟨bn, 1, none⟩) (fun _ => rfl) _
       clear d9 f9 s9 hS10 hb10 hW11
       obtain ⟨d9, f9, s9⟩ := hb11.facts
       refine hK.out _ _ (fun h => by cases h) ?_
       clear hK K
       (try simp only [Act.put, lA, lB, lC, lD, lE, lF])
       refine rdX (i := 21) (by kernel_rfl) rfl fun K hK => ?_
       go_simp
       refine hK.out _ _ (fun h => by cases h) ?_
       clear hK K
       (try simp only [Act.put, lA, lB, lC, lD, lE, lF])
       refine rdX (i := 22) (by kernel_rfl) rfl fun K hK => ?_
       go_simp
       refine hK.out _ _ (fun h => by cases h) ?_
       clear hK K
       (try simp only [Act.put, lA, lB, lC, lD, lE, lF])
       refine rdX (i := 23) (by kernel_rfl) rfl fun K hK => ?_
       go_simp
       obtain ⟨W12, hW12⟩ : ∃ W, W11.setCell ⟨bn, 2, none⟩ (.slice A10 (nd.vals.length + 1) c10) = W := ⟨_, rfl⟩
       rw [hW12]
       have hb12 : Blk W12 bn 73 #[.int .i64 q, .slice A7 (nd.keys.length + 1) c7, .slice A10 (nd.vals.length + 1) c10, vc] := by
        have h9 := hb11.put 2 (.slice A10 (nd.vals.length + 1) c10)
        rw [hW12] at h9
        simpa using h9
       have hc12 : Chg (fun j => j = bn) w10 W12 := Chg.trans hc11 (hW12 ▸ (Chg.refl (fun j => j = bn) W11).setCell (p := ⟨bn, 2, none⟩) (fun _ => rfl) _) fun _ _ e => e
       clear d9 f9 s9 hW12 hb11 hc11
       refine hK.out _ _ (fun h => by cases h) ?_
       clear hK K
       (try simp only [Act.put, lA, lB, lC, lD, lE, lF])
       refine wpAnyX_done (by kernel_rfl) ?_ _
       have hbn10 := HF.out.2.1
       have hn12 : NdOwn W12 (fun j => (N j ∨ (Value.slice A7 (nd.keys.length + 1) c7).ownBlock = some j) ∨ (Value.slice A10 (nd.vals.length + 1) c10).ownBlock = some j) bn q ⟨insI nd.keys ii k, insI nd.vals ii v, []⟩ := by
        refine NdV.own (vk := .slice A7 (nd.keys.length + 1) c7) (vv := .slice A10 (nd.vals.length + 1) c10) (vc := vc) (nd := ⟨insI nd.keys ii k, insI nd.vals ii v, []⟩) ?_
        have hr := HF.out.1
        exact (hr.chg hc12 (fun g hg e => own_blk_ne hr.rk hbn10 (by decide) (by rw [hg, e])) (fun g hg e => own_blk_ne hr.rv hbn10 (by decide) (by rw [hg, e])) (fun g hg e => own_blk_ne hr.rc hbn10 (by decide) (by rw [hg, e]))).ndv hb12 (.inl (.inl HV.out.nb))
       have hcN : Chg N w4 W12 := Chg.trans HF.out.2.2 hc12 fun j _ e => by subst e; exact HV.out.nb
       have hcW : Chg N wr W12 := Grew.then H4.out.2.1 hcN
       have hJ := HJ.out
       have hwz := hJ.rch.chg.size
       have hpos := tab_pos H.out.1.gp.tab
       have hbt12 : BT W12 t p root F' y := hJ.bt.chg hcW (fun j hj e => hJ.nF j e hj) (fun e => by have := hJ.nw _ e; omega) (fun e => by have := hJ.nw _ e; have := hJ.tl; omega)
       have hfit : (⟨insI nd.keys ii k, insI nd.vals ii v, []⟩ : Nd).Fit y.sz := nd_put_fit (hJ.bt.gp.fit hJ.way.nd).1 (by rw [← H4.out.2.2.2]; exact atI_le _ _) (by have := half_most hJ.bt.gp.szs.2.2.1; have := hJ.room; omega) H.out.2.2.2.2.1 H.out.2.2.2.2.2.1
       obtain ⟨cq, q1, q2⟩ := hJ.ts.pgs q hJ.way.q_mem
       have hsv := bsave_any t p root bn q F' _ y cq ⟨insI nd.keys ii k, insI nd.vals ii v, []⟩ W12 hbt12 hn12.at hfit (by rw [hJ.like.was]; exact H.out.2.1) q1 q2 (fun e => hJ.nF _ HV.out.nb e)
       have HE := Lib.hid (And.intro hsv (And.intro hcW (And.intro hfit hbt12)))
       clear hsv hcW hfit hbt12 hn12 hcN hb12 hc12 hbn10 hJ hwz hpos q1 q2 hHeld hS
       go_wp2_with fail
       refine HE.out.1.mono ?_
       rintro e w' (⟨rfl, hto⟩ | ⟨hns, -, rfl, hg⟩)
       ·have hput := HJ.out.put (v := v) H1.out.2.2.2 HE.out.2.1 (fun j e => .inr (HJ.out.nw j e)) HJ.out.bt.gp.szs.2.2.2.1 (by rw [H4.out.2.2.2]; exact hto) (by rw [H4.out.2.2.2]; exact HE.out.2.2.1)
        have HO := Lib.hid hput
        clear hput hto
        go_wp2_with fail
        go_ret
        exact .inl ⟨rfl, HO.out⟩
       ·have hput := HJ.out.fail (m := 0) (G := F') HE.out.2.1 (fun j e => .inr (HJ.out.nw j e)) ⟨y, F', HE.out.2.2.2.grew hg, hg.chg, fun _ e => .inl e, Rp.like.refl y, by omega, fun e => hns e.1⟩ (by omega) (fun j e => .inl e)
        have HO := Lib.hid hput
        clear hput hg hns
        go_wp2_with fail
        go_ret
        exact .inr ⟨rfl, HO.out⟩
      ·go_simp
       obtain ⟨W8, hW8⟩ : ∃ W, W6.alloc (.cells #[.int .i64 v] 3) = W := ⟨_, rfl⟩
       rw [hW8]
       have gW8 : Grew W6 W8 := hW8 ▸ (Chg.refl NoF W6).alloc _
       have lW8 : Blk W8 W6.heap.size 3 #[.int .i64 v] := hW8 ▸ Blk.new W6 _ _
       have hR8 := hR6.grew gW8
       have hB8 := hB6.grew gW8
       refine hK.out _ _ (fun _ => (⟨(hB8).cell 1, (hB8).cell 2⟩ : W8.cell? ⟨bn, 1, none⟩ = some vk ∧ W8.cell? ⟨bn, 2, none⟩ = some vv)) ?_
       clear hK K
       (try simp only [Act.put, lA, lB, lC, lD, lE, lF])
       refine rdX (i := 9) (by kernel_rfl) rfl fun K hK => ?_
       go_simp
       refine (insK hR8 (by omega) HP.out.2.1 (lW6.grew gW8) (fun e => by have := HV.out.lt _ (HV.out.nk _ e); have := gW6.size; omega) (by have := HP.out.2.2.2.1; have := gW6.size; (try have := gW8.size); omega)).mono ?_
       rintro e w9 ⟨A7, c7, rfl, hR9, ha9⟩
       have hB9 := hB8.chg ha9.chg HP.out.1.1
       have hl9 := lW8.chg ha9.chg fun e => by have := HV.out.lt _ (HV.out.nk _ e); have := gW6.size; omega
       refine hK.out _ _ (fun _ => (⟨(hB9).cell 1, (hB9).cell 2⟩ : w9.cell? ⟨bn, 1, none⟩ = some vk ∧ w9.cell? ⟨bn, 2, none⟩ = some vv)) ?_
       clear hK K
       (try simp only [Act.put, lA, lB, lC, lD, lE, lF])
       refine rdX (i := 17) (by kernel_rfl) rfl fun K hK => ?_
       go_simp
       refine (insV hR9 (by have := HP.out.2.2.1; omega) (by have := HP.out.2.2.1; have := HP.out.2.1; omega) hl9 (fun e => by have := HV.out.lt _ (HV.out.nv _ e); have := gW6.size; omega) (by have := HP.out.2.2.2.1; have := ha9.chg.size; have := gW6.size; have := gW8.size; omega)).mono ?_
       rintro e w10 ⟨A10, c10, rfl, hR10, ha10⟩
       have hB10 := hB9.chg ha10.chg HP.out.1.2.1
       have hC10 : Chg N w4 w10 := Chg.trans (Grew.then (Grew.trans gW6 gW8) (ha9.chg.mono fun j _ e => HV.out.nk j e)) (ha10.chg.mono fun j _ e => HV.out.nv j e) fun _ _ e => e

       have HF := Lib.hid (show Rws w10 (fun j => (N j ∨ (Value.slice A7 (nd.keys.length + 1) c7).ownBlock = some j) ∨ (Value.slice A10 (nd.vals.length + 1) c10).ownBlock = some j) (.slice A7 (nd.keys.length + 1) c7) (.slice A10 (nd.vals.length + 1) c10) vc (iv (insI nd.keys ii k)) (iv (insI nd.vals ii v)) (nv []) ∧ Blk w10 bn 73 #[.int .i64 q, vk, vv, vc] ∧ Chg N w4 w10 from ⟨HP.out.2.2.2.2.2 ▸ hR10, hB10, hC10⟩)
       clear hR10 hB10 hC10
       clear hR6 hB6 hR8 hB8 hR9 ha9 hB9 hl9 ha10 lW6 lW8 gW6 gW8 hW6 hW8

       have hb10 := HF.out.2.1
       obtain ⟨d9, f9, s9⟩ := hb10.facts
       have hS10 : w10.cell? ⟨bn, 1, none⟩ = some vk ∧ w10.cell? ⟨bn, 2, none⟩ = some vv := ⟨hb10.cell 1, hb10.cell 2⟩
       refine hK.out _ _ (fun _ => hS10) ?_
       clear hK K
       (try simp only [Act.put, lA, lB, lC, lD, lE, lF])
       refine rdX (i := 18) (by kernel_rfl) rfl fun K hK => ?_
       go_simp
       refine hK.out _ _ (fun _ => hS10) ?_
       clear hK K
       (try simp only [Act.put, lA, lB, lC, lD, lE, lF])
       refine rdX (i := 19) (by kernel_rfl) rfl fun K hK => ?_
       go_simp
       refine hK.out _ _ (fun _ => hS10) ?_
       clear hK K
       (try simp only [Act.put, lA, lB, lC, lD, lE, lF])
       refine rdX (i := 20) (by kernel_rfl) rfl fun K hK => ?_
       go_simp
       obtain ⟨W11, hW11⟩ : ∃ W, w10.setCell ⟨bn, 1, none⟩ (.slice A7 (nd.keys.length + 1) c7) = W := ⟨_, rfl⟩
       rw [hW11]
       have hb11 : Blk W11 bn 73 #[.int .i64 q, .slice A7 (nd.keys.length + 1) c7, vv, vc] := by
        have h9 := hb10.put 1 (.slice A7 (nd.keys.length + 1) c7)
        rw [hW11] at h9
        simpa using h9
       have hc11 : Chg (fun j => j = bn) w10 W11 := hW11 ▸ (Chg.refl (fun j => j = bn) w10).setCell (p := ⟨bn, 1, none⟩) (fun _ => rfl) _
       clear d9 f9 s9 hS10 hb10 hW11
       obtain ⟨d9, f9, s9⟩ := hb11.facts
       refine hK.out _ _ (fun h => by cases h) ?_
       clear hK K
       (try simp only [Act.put, lA, lB, lC, lD, lE, lF])
       refine rdX (i := 21) (by kernel_rfl) rfl fun K hK => ?_
       go_simp
       refine hK.out _ _ (fun h => by cases h) ?_
       clear hK K
       (try simp only [Act.put, lA, lB, lC, lD, lE, lF])
       refine rdX (i := 22) (by kernel_rfl) rfl fun K hK => ?_
       go_simp
       refine hK.out _ _ (fun h => by cases h) ?_
       clear hK K
       (try simp only [Act.put, lA, lB, lC, lD, lE, lF])
       refine rdX (i := 23) (by kernel_rfl) rfl fun K hK => ?_
       go_simp
       obtain ⟨W12, hW12⟩ : ∃ W, W11.setCell ⟨bn, 2, none⟩ (.slice A10 (nd.vals.length + 1) c10) = W := ⟨_, rfl⟩
       rw [hW12]
       have hb12 : Blk W12 bn 73 #[.int .i64 q, .slice A7 (nd.keys.length + 1) c7, .slice A10 (nd.vals.length + 1) c10, vc] := by
        have h9 := hb11.put 2 (.slice A10 (nd.vals.length + 1) c10)
        rw [hW12] at h9
        simpa using h9
       have hc12 : Chg (fun j => j = bn) w10 W12 := Chg.trans hc11 (hW12 ▸ (Chg.refl (fun j => j = bn) W11).setCell (p := ⟨bn, 2, none⟩) (fun _ => rfl) _) fun _ _ e => e
       clear d9 f9 s9 hW12 hb11 hc11
       refine hK.out _ _ (fun h => by cases h) ?_
       clear hK K
       (try simp only [Act.put, lA, lB, lC, lD, lE, lF])
       refine wpAnyX_done (by kernel_rfl) ?_ _
       have hbn10 := HF.out.2.1
       have hn12 : NdOwn W12 (fun j => (N j ∨ (Value.slice A7 (nd.keys.length + 1) c7).ownBlock = some j) ∨ (Value.slice A10 (nd.vals.length + 1) c10).ownBlock = some j) bn q ⟨insI nd.keys ii k, insI nd.vals ii v, []⟩ := by
        refine NdV.own (vk := .slice A7 (nd.keys.length + 1) c7) (vv := .slice A10 (nd.vals.length + 1) c10) (vc := vc) (nd := ⟨insI nd.keys ii k, insI nd.vals ii v, []⟩) ?_
        have hr := HF.out.1
        exact (hr.chg hc12 (fun g hg e => own_blk_ne hr.rk hbn10 (by decide) (by rw [hg, e])) (fun g hg e => own_blk_ne hr.rv hbn10 (by decide) (by rw [hg, e])) (fun g hg e => own_blk_ne hr.rc hbn10 (by decide) (by rw [hg, e]))).ndv hb12 (.inl (.inl HV.out.nb))
       have hcN : Chg N w4 W12 := Chg.trans HF.out.2.2 hc12 fun j _ e => by subst e; exact HV.out.nb
       have hcW : Chg N wr W12 := Grew.then H4.out.2.1 hcN
       have hJ := HJ.out
       have hwz := hJ.rch.chg.size
       have hpos := tab_pos H.out.1.gp.tab
       have hbt12 : BT W12 t p root F' y := hJ.bt.chg hcW (fun j hj e => hJ.nF j e hj) (fun e => by have := hJ.nw _ e; omega) (fun e => by have := hJ.nw _ e; have := hJ.tl; omega)
       have hfit : (⟨insI nd.keys ii k, insI nd.vals ii v, []⟩ : Nd).Fit y.sz := nd_put_fit (hJ.bt.gp.fit hJ.way.nd).1 (by rw [← H4.out.2.2.2]; exact atI_le _ _) (by have := half_most hJ.bt.gp.szs.2.2.1; have := hJ.room; omega) H.out.2.2.2.2.1 H.out.2.2.2.2.2.1
       obtain ⟨cq, q1, q2⟩ := hJ.ts.pgs q hJ.way.q_mem
       have hsv := bsave_any t p root bn q F' _ y cq ⟨insI nd.keys ii k, insI nd.vals ii v, []⟩ W12 hbt12 hn12.at hfit (by rw [hJ.like.was]; exact H.out.2.1) q1 q2 (fun e => hJ.nF _ HV.out.nb e)
       have HE := Lib.hid (And.intro hsv (And.intro hcW (And.intro hfit hbt12)))
       clear hsv hcW hfit hbt12 hn12 hcN hb12 hc12 hbn10 hJ hwz hpos q1 q2 hHeld hS
       go_wp2_with fail
       refine HE.out.1.mono ?_
       rintro e w' (⟨rfl, hto⟩ | ⟨hns, -, rfl, hg⟩)
       ·have hput := HJ.out.put (v := v) H1.out.2.2.2 HE.out.2.1 (fun j e => .inr (HJ.out.nw j e)) HJ.out.bt.gp.szs.2.2.2.1 (by rw [H4.out.2.2.2]; exact hto) (by rw [H4.out.2.2.2]; exact HE.out.2.2.1)
        have HO := Lib.hid hput
        clear hput hto
        go_wp2_with fail
        go_ret
        exact .inl ⟨rfl, HO.out⟩
       ·have hput := HJ.out.fail (m := 0) (G := F') HE.out.2.1 (fun j e => .inr (HJ.out.nw j e)) ⟨y, F', HE.out.2.2.2.grew hg, hg.chg, fun _ e => .inl e, Rp.like.refl y, by omega, fun e => hns e.1⟩ (by omega) (fun j e => .inl e)
        have HO := Lib.hid hput
        clear hput hg hns
        go_wp2_with fail
        go_ret
        exact .inr ⟨rfl, HO.out⟩
     ·go_simp
      obtain ⟨W6, hW6⟩ : ∃ W, (w4.alloc (.cells #[.int .i64 v] 3)).drew = W := ⟨_, rfl⟩
      rw [hW6]
      have gW6 : Grew w4 W6 := hW6 ▸ ((Chg.refl NoF w4).alloc _).drew
      have lW6 : Blk W6 w4.heap.size 3 #[.int .i64 v] := hW6 ▸ (Blk.new w4 _ _).drew
      have hR6 := HV.out.rws.grew gW6
      have hB6 := HV.out.blk.grew gW6
      refine hK.out _ _ (fun _ => (⟨(hB6).cell 1, (hB6).cell 2⟩ : W6.cell? ⟨bn, 1, none⟩ = some vk ∧ W6.cell? ⟨bn, 2, none⟩ = some vv)) ?_
      clear hK K
      (try simp only [Act.put, lA, lB, lC, lD, lE, lF])
      refine rdX (i := 8) (by kernel_rfl) rfl fun K hK => ?_
      go_simp
      obtain ⟨W8, hW8⟩ : ∃ W, W6.alloc (.cells #[.int .i64 k] 3) = W := ⟨_, rfl⟩
      rw [hW8]
      have gW8 : Grew W6 W8 := hW8 ▸ (Chg.refl NoF W6).alloc _
      have lW8 : Blk W8 W6.heap.size 3 #[.int .i64 k] := hW8 ▸ Blk.new W6 _ _
      have hR8 := hR6.grew gW8
      have hB8 := hB6.grew gW8
      refine hK.out _ _ (fun _ => (⟨(hB8).cell 1, (hB8).cell 2⟩ : W8.cell? ⟨bn, 1, none⟩ = some vk ∧ W8.cell? ⟨bn, 2, none⟩ = some vv)) ?_
      clear hK K
      (try simp only [Act.put, lA, lB, lC, lD, lE, lF])
      refine rdX (i := 9) (by kernel_rfl) rfl fun K hK => ?_
      go_simp
      refine (insK hR8 (by omega) HP.out.2.1 lW8 (fun e => by have := HV.out.lt _ (HV.out.nk _ e); have := gW6.size; omega) (by have := HP.out.2.2.2.1; have := gW6.size; (try have := gW8.size); omega)).mono ?_
      rintro e w9 ⟨A7, c7, rfl, hR9, ha9⟩
      have hB9 := hB8.chg ha9.chg HP.out.1.1
      have hl9 := (lW6.grew gW8).chg ha9.chg fun e => by have := HV.out.lt _ (HV.out.nk _ e); have := gW6.size; omega
      refine hK.out _ _ (fun _ => (⟨(hB9).cell 1, (hB9).cell 2⟩ : w9.cell? ⟨bn, 1, none⟩ = some vk ∧ w9.cell? ⟨bn, 2, none⟩ = some vv)) ?_
      clear hK K
      (try simp only [Act.put, lA, lB, lC, lD, lE, lF])
      refine rdX (i := 17) (by kernel_rfl) rfl fun K hK => ?_
      go_simp
      refine (insV hR9 (by have := HP.out.2.2.1; omega) (by have := HP.out.2.2.1; have := HP.out.2.1; omega) hl9 (fun e => by have := HV.out.lt _ (HV.out.nv _ e); have := gW6.size; omega) (by have := HP.out.2.2.2.1; have := ha9.chg.size; have := gW6.size; have := gW8.size; omega)).mono ?_
      rintro e w10 ⟨A10, c10, rfl, hR10, ha10⟩
      have hB10 := hB9.chg ha10.chg HP.out.1.2.1
      have hC10 : Chg N w4 w10 := Chg.trans (Grew.then (Grew.trans gW6 gW8) (ha9.chg.mono fun j _ e => HV.out.nk j e)) (ha10.chg.mono fun j _ e => HV.out.nv j e) fun _ _ e => e

      have HF := Lib.hid (show Rws w10 (fun j => (N j ∨ (Value.slice A7 (nd.keys.length + 1) c7).ownBlock = some j) ∨ (Value.slice A10 (nd.vals.length + 1) c10).ownBlock = some j) (.slice A7 (nd.keys.length + 1) c7) (.slice A10 (nd.vals.length + 1) c10) vc (iv (insI nd.keys ii k)) (iv (insI nd.vals ii v)) (nv []) ∧ Blk w10 bn 73 #[.int .i64 q, vk, vv, vc] ∧ Chg N w4 w10 from ⟨HP.out.2.2.2.2.2 ▸ hR10, hB10, hC10⟩)
      clear hR10 hB10 hC10
      clear hR6 hB6 hR8 hB8 hR9 ha9 hB9 hl9 ha10 lW6 lW8 gW6 gW8 hW6 hW8

      have hb10 := HF.out.2.1
      obtain ⟨d9, f9, s9⟩ := hb10.facts
      have hS10 : w10.cell? ⟨bn, 1, none⟩ = some vk ∧ w10.cell? ⟨bn, 2, none⟩ = some vv := ⟨hb10.cell 1, hb10.cell 2⟩
      refine hK.out _ _ (fun _ => hS10) ?_
      clear hK K
      (try simp only [Act.put, lA, lB, lC, lD, lE, lF])
      refine rdX (i := 18) (by kernel_rfl) rfl fun K hK => ?_
      go_simp
      refine hK.out _ _ (fun _ => hS10) ?_
      clear hK K
      (try simp only [Act.put, lA, lB, lC, lD, lE, lF])
      refine rdX (i := 19) (by kernel_rfl) rfl fun K hK => ?_
      go_simp
      refine hK.out _ _ (fun _ => hS10) ?_
      clear hK K
      (try simp only [Act.put, lA, lB, lC, lD, lE, lF])
      refine rdX (i := 20) (by kernel_rfl) rfl fun K hK => ?_
      go_simp
      obtain ⟨W11, hW11⟩ : ∃ W, w10.setCell ⟨bn, 1, none⟩ (.slice A7 (nd.keys.length + 1) c7) = W := ⟨_, rfl⟩
      rw [hW11]
      have hb11 : Blk W11 bn 73 #[.int .i64 q, .slice A7 (nd.keys.length + 1) c7, vv, vc] := by
       have h9 := hb10.put 1 (.slice A7 (nd.keys.length + 1) c7)
       rw [hW11] at h9
       simpa using h9
      have hc11 : Chg (fun j => j = bn) w10 W11 := hW11 ▸ (Chg.refl (fun j => j = bn) w10).setCell (p := ⟨bn, 1, none⟩) (fun _ => rfl) _
      clear d9 f9 s9 hS10 hb10 hW11
      obtain ⟨d9, f9, s9⟩ := hb11.facts
      refine hK.out _ _ (fun h => by cases h) ?_
      clear hK K
      (try simp only [Act.put, lA, lB, lC, lD, lE, lF])
      refine rdX (i := 21) (by kernel_rfl) rfl fun K hK => ?_
      go_simp
      refine hK.out _ _ (fun h => by cases h) ?_
      clear hK K
      (try simp only [Act.put, lA, lB, lC, lD, lE, lF])
      refine rdX (i := 22) (by kernel_rfl) rfl fun K hK => ?_
      go_simp
      refine hK.out _ _ (fun h => by cases h) ?_
      clear hK K
      (try simp only [Act.put, lA, lB, lC, lD, lE, lF])
      refine rdX (i := 23) (by kernel_rfl) rfl fun K hK => ?_
      go_simp
      obtain ⟨W12, hW12⟩ : ∃ W, W11.setCell ⟨bn, 2, none⟩ (.slice A10 (nd.vals.length + 1) c10) = W := ⟨_, rfl⟩
      rw [hW12]
      have hb12 : Blk W12 bn 73 #[.int .i64 q, .slice A7 (nd.keys.length + 1) c7, .slice A10 (nd.vals.length + 1) c10, vc] := by
       have h9 := hb11.put 2 (.slice A10 (nd.vals.length + 1) c10)
       rw [hW12] at h9
       simpa using h9
      have hc12 : Chg (fun j => j = bn) w10 W12 := Chg.trans hc11 (hW12 ▸ (Chg.refl (fun j => j = bn) W11).setCell (p := ⟨bn, 2, none⟩) (fun _ => rfl) _) fun _ _ e => e
      clear d9 f9 s9 hW12 hb11 hc11
      refine hK.out _ _ (fun h => by cases h) ?_
      clear hK K
      (try simp only [Act.put, lA, lB, lC, lD, lE, lF])
      refine wpAnyX_done (by kernel_rfl) ?_ _
      have hbn10 := HF.out.2.1
      have hn12 : NdOwn W12 (fun j => (N j ∨ (Value.slice A7 (nd.keys.length + 1) c7).ownBlock = some j) ∨ (Value.slice A10 (nd.vals.length + 1) c10).ownBlock = some j) bn q ⟨insI nd.keys ii k, insI nd.vals ii v, []⟩ := by
       refine NdV.own (vk := .slice A7 (nd.keys.length + 1) c7) (vv := .slice A10 (nd.vals.length + 1) c10) (vc := vc) (nd := ⟨insI nd.keys ii k, insI nd.vals ii v, []⟩) ?_
       have hr := HF.out.1
       exact (hr.chg hc12 (fun g hg e => own_blk_ne hr.rk hbn10 (by decide) (by rw [hg, e])) (fun g hg e => own_blk_ne hr.rv hbn10 (by decide) (by rw [hg, e])) (fun g hg e => own_blk_ne hr.rc hbn10 (by decide) (by rw [hg, e]))).ndv hb12 (.inl (.inl HV.out.nb))
      have hcN : Chg N w4 W12 := Chg.trans HF.out.2.2 hc12 fun j _ e => by subst e; exact HV.out.nb
      have hcW : Chg N wr W12 := Grew.then H4.out.2.1 hcN
      have hJ := HJ.out
      have hwz := hJ.rch.chg.size
      have hpos := tab_pos H.out.1.gp.tab
      have hbt12 : BT W12 t p root F' y := hJ.bt.chg hcW (fun j hj e => hJ.nF j e hj) (fun e => by have := hJ.nw _ e; omega) (fun e => by have := hJ.nw _ e; have := hJ.tl; omega)
      have hfit : (⟨insI nd.keys ii k, insI nd.vals ii v, []⟩ : Nd).Fit y.sz := nd_put_fit (hJ.bt.gp.fit hJ.way.nd).1 (by rw [← H4.out.2.2.2]; exact atI_le _ _) (by have := half_most hJ.bt.gp.szs.2.2.1; have := hJ.room; omega) H.out.2.2.2.2.1 H.out.2.2.2.2.2.1
      obtain ⟨cq, q1, q2⟩ := hJ.ts.pgs q hJ.way.q_mem
      have hsv := bsave_any t p root bn q F' _ y cq ⟨insI nd.keys ii k, insI nd.vals ii v, []⟩ W12 hbt12 hn12.at hfit (by rw [hJ.like.was]; exact H.out.2.1) q1 q2 (fun e => hJ.nF _ HV.out.nb e)
      have HE := Lib.hid (And.intro hsv (And.intro hcW (And.intro hfit hbt12)))
      clear hsv hcW hfit hbt12 hn12 hcN hb12 hc12 hbn10 hJ hwz hpos q1 q2 hHeld hS
      go_wp2_with fail
      refine HE.out.1.mono ?_
      rintro e w' (⟨rfl, hto⟩ | ⟨hns, -, rfl, hg⟩)
      ·have hput := HJ.out.put (v := v) H1.out.2.2.2 HE.out.2.1 (fun j e => .inr (HJ.out.nw j e)) HJ.out.bt.gp.szs.2.2.2.1 (by rw [H4.out.2.2.2]; exact hto) (by rw [H4.out.2.2.2]; exact HE.out.2.2.1)
       have HO := Lib.hid hput
       clear hput hto
       go_wp2_with fail
       go_ret
       exact .inl ⟨rfl, HO.out⟩
      ·have hput := HJ.out.fail (m := 0) (G := F') HE.out.2.1 (fun j e => .inr (HJ.out.nw j e)) ⟨y, F', HE.out.2.2.2.grew hg, hg.chg, fun _ e => .inl e, Rp.like.refl y, by omega, fun e => hns e.1⟩ (by omega) (fun j e => .inl e)
       have HO := Lib.hid hput
       clear hput hg hns
       go_wp2_with fail
       go_ret
       exact .inr ⟨rfl, HO.out⟩

    ·have t1 : decide (nd.kids.length = 0) = false := decide_eq_false h0
     have t2 : decide (nd.kids = []) = false := decide_eq_false fun e => h0 (by rw [e]; rfl)
     have H0 := Lib.hid h0
     obtain ⟨d', rfl⟩ : ∃ d', d = d' + 1 := ⟨d - 1, by
      obtain ⟨nd', g1, -, -, g2⟩ := HJ.out.way.tr.node
      rw [HJ.out.way.nd] at g1
      cases g1
      have hd0 : d ≠ 0 := fun e => h0 (g2.2 e)
      omega⟩
     obtain ⟨c2, kd, A2, M2, B2, P3, PM2, P4, hc2, hw2⟩ := HJ.out.way.down HJ.out.ts.srt HL.out.2.2.1
     rw [HL.out.2.2.2] at hc2
     have hil : ii < nd.kids.length := (List.getElem?_eq_some_iff.1 hc2).1
     obtain ⟨cp, cp1, cp2, cp3⟩ := Rp.nd_some hw2.nd
     have hkl2 : kd.keys.length ≤ 300 := by have h1 := (HJ.out.bt.gp.fit hw2.nd).1.most; have h2 := HJ.out.bt.gp.szs; unfold mostN at h1; omega
     have hiN : (ii : Int) < (nd.kids.length : Int) := by omega
     have H2 := Lib.hid (And.intro hc2 (And.intro hw2 (And.intro cp1 (And.intro cp2 cp3))))
     clear hc2 hw2 cp1 cp2 cp3 h0
     go_wp2_with (go_at_call 41; (refine HL.out.1.mono ?_); rintro e w5 ⟨rfl, rfl⟩)
     refine HL.out.2.1.mono ?_
     rintro e w4 ⟨rfl, hg4⟩
     have hbt4 := HJ.out.bt.grew hg4
     have hld := bload_any t p root c2 F' y cp kd w4 hbt4 H2.out.2.2.1 H2.out.2.2.2.1 H2.out.2.2.2.2
     have hn4 := HJ.out.own.grew hg4
     obtain ⟨Ak, ck, Av, cv, Ac, cc, b1, -, -, b4, -⟩ := hn4.at
     obtain ⟨c0, f0, s0⟩ := b1.facts
     obtain ⟨g, off, rfl, hgl, hx⟩ := b4.2 (by omega)
     have hce : w4.cell? ⟨g, off + ii, none⟩ = some (.int .i64 c2) := hx ii _ (by simp [nv, H2.out.1])
     have H4 := Lib.hid (And.intro hld (And.intro hg4 (And.intro hn4 hbt4)))
     clear hld hg4 hn4 hbt4 b1 b4 hx hgl
     go_wp2_with fail
     refine H4.out.1.mono ?_
     rintro e w5 ⟨b3, N3, rfl, hn5, hN5, hbt5, hc5⟩
     clear c0 f0 s0 hce
     have hfu := bfull_any t p root b3 c2 F' N3 y kd w5 hbt5 hn5.at hkl2
     have H5 := Lib.hid (And.intro hfu (And.intro hn5 (And.intro hN5 (And.intro hbt5 hc5))))
     clear hfu hn5 hN5 hbt5 hc5
     go_wp2_with fail
     by_cases hfull : 2 * halfN y.sz - 1 ≤ kd.keys.length
     ·have t5 : decide (2 * halfN y.sz - 1 ≤ kd.keys.length) = true := decide_eq_true hfull
      have t6 : decide (2 * halfN y.sz ≤ kd.keys.length + 1) = true := decide_eq_true (by omega)
      refine H5.out.1.mono ?_
      rintro e w6 ⟨rfl, hg6⟩
      have hJ := HJ.out
      have hwz := hJ.rch.chg.size
      have hz4 := H4.out.2.1.size
      have hz5 := H5.out.2.2.2.2.size
      have hz6 := hg6.size
      have hpos := tab_pos H.out.1.gp.tab
      have hz := hJ.bt.gp.szs
      have h2h := half_two hz.2.2.1
      have hlt := hJ.bt.gp.lt
      have hNlt : ∀ j, N j → j < wr.heap.size := fun j hj => hJ.own.at.lt j hj
      have hcW : Chg F' wr w6 := (Grew.then H4.out.2.1 H5.out.2.2.2.2).grew hg6
      have hnode : kd.keys.length = 2 * halfN y.sz - 1 := by
       obtain ⟨nd', g1, -, g2, -⟩ := H2.out.2.1.tr.node
       rw [H2.out.2.1.nd] at g1
       cases g1
       omega
      have hf1 := hJ.bt.gp.fit hJ.way.nd
      have hf2 := hJ.bt.gp.fit H2.out.2.1.nd
      have hSp : Sp w6 t p root F' y N N3 b3 c2 kd := ⟨H5.out.2.2.2.1.grew hg6, H5.out.2.1.grew hg6, fun j hj e => by have := hNlt j hj; have := H5.out.2.2.1 j e; omega, fun j hj => ⟨hJ.nF j hj, by have := hJ.nw j hj; have := hJ.tl; omega, by have := hJ.nw j hj; omega, by have := hNlt j hj; omega⟩, fun j hj e => by have := H5.out.2.2.1 j hj; have := hlt j e; omega⟩
      have hspl := bsplit_any t p root bn q ii b3 c2 (halfN y.sz) F' N N3 y nd kd w6 hSp (hJ.own.chg hcW hJ.nF) rfl (half_two hz.2.2.1) (by rw [hJ.like.was]; exact H.out.2.1) hnode (hf2.1.vals.trans hnode) (by rcases hf2.1.kids with e | e <;> omega) hJ.room hf1.1.vals (by rcases hf1.1.kids with e | e; exact absurd e H0.out; exact e) (by rw [← HL.out.2.2.2]; exact atI_le _ _) hf1.1 hf2.1 (hJ.ts.pgs q hJ.way.q_mem) ⟨cp, H2.out.2.2.1, H2.out.2.2.2.1⟩ ⟨fun e => by have := H5.out.2.2.1 _ e; have := hJ.tl; omega, fun e => by have := H5.out.2.2.1 _ e; omega⟩
      have H6 := Lib.hid (And.intro hspl (And.intro hcW (And.intro hnode (And.intro hz4 (And.intro hz5 (And.intro hz6 hwz))))))
      clear h2h hspl hSp hcW hnode hf1 hf2 hNlt hlt hz hpos hz4 hz5 hz6 hwz hJ hg6 hfull
      go_wp2_with fail
      refine H6.out.1.mono ?_
      rintro e w7 (⟨rfl, r, k0, v0, F2, N2, hr, hk0, hv0, hbt7, hcg, hFn, hno, hdis, hNn, ff1, ff2, ff3⟩ | ⟨rfl, hfu⟩)
      ·obtain ⟨P', PM', e', ke, A', M', B', P1', PM3, P2', ⟨j1, j2, j3, j4, j5⟩, d1, d2, hke, hus⟩ := HJ.out.split H1.out.2.2.2 (W1 := w6) (G := fun j => F' j ∨ N j ∨ N3 j) (N' := N2) (by rw [HL.out.2.2.2]; exact H2.out.1) H2.out.2.1.nd H6.out.2.2.1 (half_two HJ.out.bt.gp.szs.2.2.1) HJ.out.bt.gp.szs.2.2.2.1 hr hk0 hv0 (by rw [HL.out.2.2.2]; exact hbt7) H6.out.2.1 hcg (fun j e => e.elim .inl fun e => e.elim (fun e => .inr (HJ.out.nw j e)) fun e => .inr (by have := H5.out.2.2.1 j e; have := H6.out.2.2.2; omega)) hFn (by rw [HL.out.2.2.2]; exact hno) hdis hNn ff1 ff2 (by rw [HL.out.2.2.2]; exact ff3)
       rw [HL.out.2.2.2] at j1 j3 j4 j5 d1 d2 hus
       obtain ⟨y2, hy2⟩ : ∃ y2, y.splitP r c2 q (kd.hi (halfN y.sz)) (kd.lo (halfN y.sz)) (nd.ins ii k0 v0 r) = y2 := ⟨_, rfl⟩
       have hsz2 : y2.sz = y.sz := by rw [← hy2]; rfl
       rw [hy2] at j1 j3 j4 j5 d2 hus
       rw [← hsz2] at j5 d2 hke
       obtain ⟨nd2, hnd2⟩ : ∃ nd2, nd.ins ii k0 v0 r = nd2 := ⟨_, rfl⟩
       rw [hnd2] at j5 d1 hno
       have hks2 := j5.tr.keys j5.nd (j5.srt j4.srt)
       have hkl3 : nd2.keys.length ≤ 300 := by have h1 := (j1.gp.fit j5.nd).1.most; have h2 := j1.gp.szs; unfold mostN at h1; omega
       have hpl2 := bplace_any bn q nd2 N2 k w7 hno.at hks2 (by omega)
       obtain ⟨i2, hi2⟩ : ∃ i, atI nd2.keys k = i := ⟨_, rfl⟩
       obtain ⟨f2, hf2⟩ : ∃ f, nd2.keys.contains k = f := ⟨_, rfl⟩
       rw [hi2] at d1
       rw [hi2, hf2] at hpl2
       have hil2 : i2 < nd2.kids.length := (List.getElem?_eq_some_iff.1 d1).1
       have hiN2 : (i2 : Int) < (nd2.kids.length : Int) := by omega
       obtain ⟨cp', cq1, cq2, cq3⟩ := Rp.nd_some d2.nd
       have H7 := Lib.hid (And.intro hpl2 (And.intro (And.intro j1 (And.intro j2 (And.intro j3 (And.intro j4 j5)))) (And.intro d1 (And.intro d2 (And.intro hke (And.intro hus (And.intro hno (And.intro hdis (And.intro hNn (And.intro cq1 (And.intro cq2 cq3)))))))))))
       clear hpl2 j1 j2 j3 j4 j5 d1 d2 hke hus hno hdis hNn cq1 cq2 cq3 hr hk0 hv0 hbt7 hcg hFn ff1 ff2 ff3 hy2 hnd2 hsz2 hks2 hf2 hi2
       go_wp2_with fail
       refine H7.out.1.mono ?_
       rintro e w8 ⟨rfl, hg8⟩
       have hn8 := H7.out.2.2.2.2.2.2.1.grew hg8
       have hbt8 := H7.out.2.1.1.grew hg8
       have hld := bload_any t p root e' F2 y2 cp' ke w8 hbt8 H7.out.2.2.2.2.2.2.2.2.2.1 H7.out.2.2.2.2.2.2.2.2.2.2.1 H7.out.2.2.2.2.2.2.2.2.2.2.2
       obtain ⟨Ak2, ck2, Av2, cv2, Ac2, cc2, b1, -, -, b4, -⟩ := hn8.at
       obtain ⟨c0, f0, s0⟩ := b1.facts
       obtain ⟨g2, off2, rfl, hgl, hx⟩ := b4.2 (by omega)
       have hce : w8.cell? ⟨g2, off2 + i2, none⟩ = some (.int .i64 e') := hx i2 _ (by simp [nv, H7.out.2.2.1])
       have H8 := Lib.hid (And.intro hld (And.intro hg8 hbt8))
       clear hld hg8 hn8 hbt8 b1 b4 hx hgl
       go_wp2_with fail
       refine H8.out.1.mono ?_
       rintro e w9 ⟨b5, N5, rfl, hn9, hN9, hbt9, hc9⟩
       clear c0 f0 s0 hce
       have H9 := Lib.hid (And.intro hn9 (And.intro hN9 (And.intro hbt9 hc9)))
       clear hn9 hN9 hbt9 hc9
       go_wp2_with fail
       go_roundg (d' + 1)
       case measure => omega
       case rel =>
        obtain ⟨j1, j2, j3, j4, j5⟩ := H7.out.2.1
        obtain ⟨hn9, hN9, hbt9, hc9⟩ := H9.out
        have hJ := HJ.out
        have hus := H7.out.2.2.2.2.2.1
        have hu := hJ.used
        have hz8 := H8.out.2.1.size
        have hz7 := j2.chg.size
        have hlt := H7.out.2.1.1.gp.lt
        exact ⟨b5, d', e', ke, F2, y2, D, P', _, _, _, _, _, _, N5, rfl, rfl, rfl, hbt9, j2.trans ⟨Grew.then H8.out.2.1 hc9, fun j e => .inl e⟩, j3, j4, H7.out.2.2.2.1, hn9, fun j hj e => by have := hN9 j hj; have := hlt j e; omega, fun j hj => by have := hN9 j hj; omega, H7.out.2.2.2.2.1, by omega, hJ.dep, hJ.tl⟩
      ·have hput := HJ.out.fail H6.out.2.1 (fun j e => .inl e) hfu (by omega) (fun j e => e.elim .inl fun e => e.elim (fun e => .inr (HJ.out.nw j e)) fun e => .inr (by have := H5.out.2.2.1 j e; have := H6.out.2.2.2; omega))
       have HO := Lib.hid hput
       clear hput hfu
       go_wp2_with fail
       go_ret
       exact .inr ⟨rfl, HO.out⟩
     ·have t5 : decide (2 * halfN y.sz - 1 ≤ kd.keys.length) = false := decide_eq_false hfull
      have t6 : decide (2 * halfN y.sz ≤ kd.keys.length + 1) = false := decide_eq_false (by omega)
      refine H5.out.1.mono ?_
      rintro e w6 ⟨rfl, hg6⟩
      have hbt6 := H5.out.2.2.2.1.grew hg6
      have hld := bload_any t p root c2 F' y cp kd w6 hbt6 H2.out.2.2.1 H2.out.2.2.2.1 H2.out.2.2.2.2
      have hcW : Chg F' wr w6 := (Grew.then H4.out.2.1 H5.out.2.2.2.2).grew hg6
      have hn6 := HJ.out.own.chg hcW HJ.out.nF
      obtain ⟨Ak2, ck2, Av2, cv2, Ac2, cc2, b1, -, -, b4, -⟩ := hn6.at
      obtain ⟨c0, f0, s0⟩ := b1.facts
      obtain ⟨g2, off2, rfl, hgl, hx⟩ := b4.2 (by omega)
      have hce : w6.cell? ⟨g2, off2 + ii, none⟩ = some (.int .i64 c2) := hx ii _ (by simp [nv, H2.out.1])
      have hroom : kd.keys.length + 1 ≤ 2 * halfN y.sz - 1 := by omega
      have H6 := Lib.hid (And.intro hld (And.intro hcW (And.intro hbt6 hroom)))
      clear hld hg6 hn6 hbt6 b1 b4 hx hgl hcW hroom hfull
      go_wp2_with fail
      refine H6.out.1.mono ?_
      rintro e w9 ⟨b5, N5, rfl, hn9, hN9, hbt9, hc9⟩
      clear c0 f0 s0 hce
      have H9 := Lib.hid (And.intro hn9 (And.intro hN9 (And.intro hbt9 hc9)))
      clear hn9 hN9 hbt9 hc9
      go_wp2_with fail
      go_roundg (d' + 1)
      case measure => omega
      case rel =>
       obtain ⟨hn9, hN9, hbt9, hc9⟩ := H9.out
       have hz6 := H6.out.2.1.size
       exact ⟨b5, d', c2, kd, F', y, D, P, _, _, _, _, _, _, N5, rfl, rfl, rfl, HJ.out.down H2.out.2.1 (Chg.trans H6.out.2.1 hc9 fun _ _ e => e) hbt9 hn9 (fun j hj => by have := hN9 j hj; omega) H6.out.2.2.2⟩
end Go.Proofs.YtpkkcicaeldodaaGreatDoor

namespace Go.Proofs.YtpkkcicaeldodaaGreatDoor
open Go.RowKit Go.Maps

theorem bat_any (p r : Nat) (w W : World) (hW : w.alloc (.cells #[.pointer (some ⟨p, 0, none⟩), .int .i64 r] 78) = W) :
  Calls Tryz.prog 22 #[.pointer (some ⟨p, 0, none⟩), .int .i64 r] w fun e w' => e = .returned (.pointer (some ⟨w.heap.size, 0, none⟩)) ∧ W = w' := by
 subst hW
 go_enter Tryz.func22, Tryz.ntmps22
 go_wp2
 go_ret
 exact ⟨rfl, rfl⟩
def nd0 : Nd := ⟨[], [], []⟩
theorem nd0_fit (sz : Nat) : nd0.Fit sz := ⟨rfl, Nat.zero_le _, .inl rfl, fun k h => (by cases h), fun k h => (by cases h), fun k h => (by cases h)⟩
def NwOut (w w' : World) (p : Nat) (F : Nat → Prop) (x : Rp) (e : Ending) : Prop :=
 ∃ t r F', e = .returned (.tuple #[.pointer (some ⟨t, 0, none⟩), .int .i64 0]) ∧ x.now[r]? = some .no ∧ BT w' t p r F' ((x.put r .zero).put r (.new (ndL nd0 x.sz))) ∧ Chg F w w' ∧ (∀ j, F' j → F j ∨ w.heap.size ≤ j) ∧ w.heap.size ≤ t
set_option maxRecDepth 100000 in
set_option maxHeartbeats 1600000 in
theorem bnew_any (p : Nat) (F : Nat → Prop) (x : Rp) (w : World) (h : GP w p F x) (ho : x.was ≠ none) (hs : 1 ≤ x.slack) (hn : Pk.no ∈ x.now) :
  Calls Tryz.prog 35 #[.pointer (some ⟨p, 0, none⟩)] w fun e w' => NwOut w w' p F x e := by
 have hal := gp_alloc_any p F x w h ho
 have H := Lib.hid (And.intro hal (And.intro h (And.intro ho (And.intro hs hn))))
 clear hal h ho hs hn
 go_enter Tryz.func35, Tryz.ntmps35
 go_wp2_with fail
 refine H.out.1.mono ?_
 rintro e w1 (⟨r, hr, hrf, rfl, F1, h1, hc1, hn1⟩ | ⟨hno, rfl, -⟩)
 rotate_left
 ·exact absurd ⟨by have := H.out.2.2.2.1; omega, H.out.2.2.2.2⟩ hno
 obtain ⟨W2, hW2⟩ : ∃ W, w1.alloc (.cells #[.pointer (some ⟨p, 0, none⟩), .int .i64 r] 78) = W := ⟨_, rfl⟩
 have hr4 : r < 4096 := by have := (List.getElem?_eq_some_iff.1 hr).1; have := H.out.2.1.szs; omega
 have H1 := Lib.hid (And.intro h1 (And.intro hc1 (And.intro hn1 hr)))
 clear h1 hc1 hn1 hr hrf
 go_wp2_with (go_at_call 22; (refine (bat_any p r w1 W2 hW2).mono ?_); rintro e w2 ⟨rfl, rfl⟩)
 have hb2 : Blk W2 w1.heap.size 78 #[.pointer (some ⟨p, 0, none⟩), .int .i64 r] := hW2 ▸ Blk.new _ _ _
 have hg2 : Grew w1 W2 := hW2 ▸ (Chg.refl _ _).alloc _
 have hz2 : W2.heap.size = w1.heap.size + 1 := by subst hW2; simp
 obtain ⟨W3, hW3⟩ : ∃ W, W2.alloc (.cells #[.int .i64 r, .slice none 0 0, .slice none 0 0, .slice none 0 0] 73) = W := ⟨_, rfl⟩
 rw [hW3]
 have hg3 : Grew w1 W3 := hW3 ▸ hg2.alloc _
 have hb3 : Blk W3 W2.heap.size 73 #[.int .i64 r, .slice none 0 0, .slice none 0 0, .slice none 0 0] := hW3 ▸ Blk.new _ _ _
 have hz3 : W3.heap.size = W2.heap.size + 1 := by subst hW3; simp
 have hbt : BT W3 w1.heap.size p r F1 (x.put r .zero) := ⟨H1.out.1.grew hg3, hb2.grew (hW3 ▸ (Chg.refl _ _).alloc _), fun e => by have := H1.out.1.lt _ e; omega⟩
 have hna : NdAt W3 (fun j => j = W2.heap.size) W2.heap.size r nd0 := ⟨none, 0, none, 0, none, 0, hb3, Sl.nil _ _ _, Sl.nil _ _ _, Sl.nil _ _ _, rfl, fun a h => (by cases h), fun a h => (by cases h), fun a h => (by cases h), fun j hj => by omega⟩
 have hil : r < x.now.length := (List.getElem?_eq_some_iff.1 H1.out.2.2.2).1
 have hsv := bsave_any w1.heap.size p r W2.heap.size r F1 (fun j => j = W2.heap.size) (x.put r .zero) .zero nd0 W3 hbt hna (nd0_fit _) H.out.2.2.1 (by rw [Rp.put_at hil, if_pos rfl]) rfl (fun e => by have := H1.out.1.lt _ e; omega)
 have H3 := Lib.hid (And.intro hsv (And.intro hg3 hz3))
 clear hsv hbt hna hb2 hb3 hg2 hg3 hW3 hW2 hz2 hz3 hil
 refine H3.out.1.mono ?_
 rintro e w4 (⟨rfl, F2, k1, k2, k3⟩ | ⟨hns, -, -, -⟩)
 rotate_left
 ·have h9 := Rp.put_slack (c := .zero) H.out.2.2.1 H1.out.2.2.2
  simp [Pk.isNew] at h9
  have := H.out.2.2.2.1
  omega
 have H4 := Lib.hid (And.intro k1 (And.intro k2 k3))
 clear k1 k2 k3
 go_wp2_with fail
 go_ret2
 have hs1 := H1.out.2.1.size
 have hs3 := H3.out.2.1.size
 refine ⟨w1.heap.size, r, F2, rfl, H1.out.2.2.2, H4.out.1, Chg.trans (H1.out.2.1.grew H3.out.2.1) H4.out.2.1 fun i hi e => (H1.out.2.2.1 i e).resolve_right (by omega), fun j hj => (H4.out.2.2 j hj).elim (H1.out.2.2.1 j) fun e => .inr (by omega), hs1⟩
end Go.Proofs.YtpkkcicaeldodaaGreatDoor

namespace Go.Proofs.YtpkkcicaeldodaaGreatDoor
open Go.RowKit Go.Maps

set_option maxHeartbeats 800000 in
theorem gopen_range (d : Nat) (F : Nat → Prop) (D : Dk) (w : World) (h : DS w d F D) (hr : D.n < 8 ∨ D.sz < 64) :
  Calls Tryz.prog 33 #[.pointer (some ⟨d, 0, none⟩)] w fun e w' => e = .returned (.tuple #[.pointer none, .int .i64 11]) ∧ w = w' := by
 have H := Lib.hid h
 clear h
 by_cases h8 : D.n < 8
 ·have a1 : decide ((D.n : Int) < 8) = true := decide_eq_true (by omega)
  clear hr h8
  go_enter Tryz.func33, Tryz.ntmps33
  go_wp2_with (first
   | (go_at_call 76; (refine (dsectors_any d F D _ H.out).mono ?_); rintro e w1 ⟨rfl, rfl⟩)
   | (go_at_call 77; (refine (dsize_any d F D _ H.out).mono ?_); rintro e w1 ⟨rfl, rfl⟩))
  go_ret2
  exact ⟨rfl, rfl⟩
 ·have a1 : decide ((D.n : Int) < 8) = false := decide_eq_false (by omega)
  have a2 : decide ((D.sz : Int) < 64) = true := decide_eq_true (by omega)
  clear hr h8
  go_enter Tryz.func33, Tryz.ntmps33
  go_wp2_with (first
   | (go_at_call 76; (refine (dsectors_any d F D _ H.out).mono ?_); rintro e w1 ⟨rfl, rfl⟩)
   | (go_at_call 77; (refine (dsize_any d F D _ H.out).mono ?_); rintro e w1 ⟨rfl, rfl⟩))
  go_ret2
  exact ⟨rfl, rfl⟩

def Gp.fresh (D : Dk) : Gp := { D := D, epoch := 0, row := D.sz / 2, pages := List.replicate (tabN D.n D.sz) 0, table := List.replicate (capN D.n D.sz) 0, free := trn (trn (full D.n) 0) 1, op := none, down := false }

structure NewInts (w0 w : World) (g n : Nat) : Prop where
 blk : Blk w g 3 (nv (List.replicate n 0)).toArray
 new : w0.heap.size ≤ g
structure NewPool (w0 w : World) (b n : Nat) (A : Option Addr) (c : Nat) : Prop where
 p : PIn w b (full n) A c
 new : ∀ j, PF b A j → w0.heap.size ≤ j
theorem NewInts.grew {w0 w w' : World} {g n : Nat} (h : NewInts w0 w g n) (hg : Grew w w') : NewInts w0 w' g n := ⟨h.blk.grew hg, h.new⟩
theorem NewPool.grew {w0 w w' : World} {b n c : Nat} {A : Option Addr} (h : NewPool w0 w b n A c) (hg : Grew w w') : NewPool w0 w' b n A c := ⟨h.p.grew hg, h.new⟩
structure OpenIn (w0 w : World) (p d row T C g1 g2 b n : Nat) (A : Option Addr) (c : Nat) : Prop where
 blk : Blk w p 101 #[.pointer (some ⟨d, 0, none⟩), .int .i64 0, .int .i64 row, .slice (some ⟨g1, 0, none⟩) T T, .slice (some ⟨g2, 0, none⟩) C C, .pointer (some ⟨b, 0, none⟩), .pointer none, .bool false]
 t1 : NewInts w0 w g1 T
 t2 : NewInts w0 w g2 C
 ne : g1 ≠ g2
 pool : NewPool w0 w b n A c
 grew : Grew w0 w
 new : w0.heap.size ≤ p
def OpenJ (w0 : World) (d row T C n : Nat) (v : Value) (w : World) : Prop := ∃ p g1 g2 b A c, v = .pointer (some ⟨p, 0, none⟩) ∧ OpenIn w0 w p d row T C g1 g2 b n A c
theorem openJ_mk {w0 w : World} {d row T C g1 g2 b n c : Nat} {A : Option Addr} {r : Int} (hr : r = (row : Int)) (h1 : NewInts w0 w g1 T) (h2 : NewInts w0 w g2 C) (hne : g1 ≠ g2) (hp : NewPool w0 w b n A c) (hg : Grew w0 w) :
  OpenJ w0 d row T C n (.pointer (some ⟨w.heap.size, 0, none⟩)) (w.alloc (.cells #[.pointer (some ⟨d, 0, none⟩), .int .i64 0, .int .i64 r, .slice (some ⟨g1, 0, none⟩) T T, .slice (some ⟨g2, 0, none⟩) C C, .pointer (some ⟨b, 0, none⟩), .pointer none, .bool false] 101)) := by
 subst hr
 exact ⟨_, g1, g2, b, A, c, rfl, Blk.new _ _ _, h1.grew ((Chg.refl _ _).alloc _), h2.grew ((Chg.refl _ _).alloc _), hne, hp.grew ((Chg.refl _ _).alloc _), hg.alloc _, hg.size⟩

def mkd (n : Nat) : Nat → List Bool
 | 0 => full n
 | k + 1 => trn (mkd n k) k
theorem mkd_len (n : Nat) : ∀ k, (mkd n k).length = n
 | 0 => full_len n
 | k + 1 => by rw [mkd, trn, List.length_set]; exact mkd_len n k
theorem mkd_at (n : Nat) : ∀ k j, k ≤ n → (mkd n k).getD j false = (decide (k ≤ j) && decide (j < n))
 | 0, j, _ => by rw [mkd, full_at]; simp
 | k + 1, j, hk => by
  rw [mkd, trn, getD_set _ _ _ _ (by rw [mkd_len]; omega), mkd_at n k k (by omega), mkd_at n k j (by omega)]
  by_cases e : j = k
  ·subst e; simp; omega
  ·rw [if_neg e]
   by_cases h1 : k ≤ j
   ·simp [h1, show k + 1 ≤ j by omega]
   ·simp [h1, show ¬ k + 1 ≤ j by omega]
theorem mkd_mark (n k : Nat) (hk : k < n) : toL (mkd n k) (k : Int) false = (mkd n (k + 1), 0) := by
 unfold toL
 rw [if_neg (by rw [mkd_len]; omega), Int.toNat_natCast, mkd_at n k k (by omega), if_neg (by simp; omega)]
 rfl
theorem own_new {w : World} {g n : Nat} {t : TypeId} {cs : Array Value} (h : Blk w g t cs) (hn : cs.size = n) (hm : n ≤ maxLen) : w.ownsRow 0 t 1 (.slice (some ⟨g, 0, none⟩) n n) n cs.toList :=
 ⟨by simp [hn], .inr ⟨g, n, cs, rfl, Nat.zero_le _, h, Nat.le_refl _, hm, by simp [hn], by rw [Nat.mul_one, ← hn, ← Array.length_toList, List.take_length]⟩⟩
theorem blk_ne {w : World} {g g' : Nat} {t t' : TypeId} {cs cs' : Array Value} (h : Blk w g t cs) (h' : Blk w g' t' cs') (hne : t ≠ t') : g ≠ g' := by
 rintro rfl
 unfold Blk at h h'
 rw [h] at h'
 injection h' with h'
 injection h' with h1 h2
 exact hne h2
theorem pf_ne {w : World} {b c g : Nat} {x : List Bool} {A : Option Addr} {t : TypeId} {cs : Array Value} (h : PIn w b x A c) (hg : Blk w g t cs) (h1 : t ≠ 152) (h2 : t ≠ 153) : ¬ PF b A g := by
 rintro (rfl | ⟨a, rfl, rfl⟩)
 ·have := h.blk
  unfold Blk at this hg
  rw [this] at hg
  cases hg
  exact h1 rfl
 ·exact own_blk_ne h.own hg (Ne.symm h2) rfl
theorem gfresh_mk {w0 w : World} {d p g1 g2 b c : Nat} {A : Option Addr} {F : Nat → Prop} {D : Dk} (hd : DS w d F D) (hF0 : ∀ j, F j → j < w0.heap.size) (h0 : ¬ F 0) (hpos : 0 < w0.heap.size) (hT : TabAt 0 tab w) (hn : D.n ≤ 4096)
  (hb : Blk w p 101 #[.pointer (some ⟨d, 0, none⟩), .int .i64 0, .int .i64 (D.sz / 2 : Nat), .slice (some ⟨g1, 0, none⟩) (tabN D.n D.sz) (tabN D.n D.sz), .slice (some ⟨g2, 0, none⟩) (capN D.n D.sz) (capN D.n D.sz), .pointer (some ⟨b, 0, none⟩), .pointer none, .bool false])
  (h1 : Blk w g1 3 (nv (List.replicate (tabN D.n D.sz) 0)).toArray) (h2 : Blk w g2 3 (nv (List.replicate (capN D.n D.sz) 0)).toArray) (hne : g1 ≠ g2) (hp : PIn w b (mkd D.n 2) A c)
  (n0 : w0.heap.size ≤ p) (n1 : w0.heap.size ≤ g1) (n2 : w0.heap.size ≤ g2) (n3 : ∀ j, PF b A j → w0.heap.size ≤ j) :
  ∃ F', GS w p F' (Gp.fresh D) ∧ ∀ j, F' j → F j ∨ w0.heap.size ≤ j := by
 classical
 have hC : capN D.n D.sz ≤ 4096 := by unfold capN; split <;> omega
 have hT64 : tabN D.n D.sz ≤ 64 := by have := tabs_le (D.sz / 2) (D.n - 2) D.sz 64 0; unfold tabN; omega
 have d1 : p ≠ g1 := blk_ne hb h1 (by decide)
 have d2 : p ≠ g2 := blk_ne hb h2 (by decide)
 have d3 := pf_ne hp hb (by decide) (by decide)
 have d4 := pf_ne hp h1 (by decide) (by decide)
 have d5 := pf_ne hp h2 (by decide) (by decide)
 obtain ⟨L, hL⟩ : ∃ L : Nat → Nat, L = fun j => if j = p then 1 else if j = g1 then 4 else if j = g2 then 5 else if PF b A j then 3 else if F j then 2 else 0 := ⟨_, rfl⟩
 have l1 : L p = 1 := by rw [hL]; simp
 have l4 : L g1 = 4 := by rw [hL]; simp [Ne.symm d1]
 have l5 : L g2 = 5 := by rw [hL]; simp [Ne.symm d2, Ne.symm hne]
 have l3 : ∀ j, PF b A j → L j = 3 := fun j hj => by
  have e1 : j ≠ p := fun e => d3 (e ▸ hj)
  have e2 : j ≠ g1 := fun e => d4 (e ▸ hj)
  have e3 : j ≠ g2 := fun e => d5 (e ▸ hj)
  rw [hL]; simp [e1, e2, e3, hj]
 have l2 : ∀ j, L j = 2 ↔ F j := fun j => by
  have hlt : F j → j < w0.heap.size := hF0 j
  by_cases e1 : j = p
  ·subst e1; rw [l1]; exact ⟨fun e => by omega, fun e => by have := hlt e; omega⟩
  by_cases e2 : j = g1
  ·subst e2; rw [l4]; exact ⟨fun e => by omega, fun e => by have := hlt e; omega⟩
  by_cases e3 : j = g2
  ·subst e3; rw [l5]; exact ⟨fun e => by omega, fun e => by have := hlt e; omega⟩
  by_cases e4 : PF b A j
  ·rw [l3 j e4]; exact ⟨fun e => by omega, fun e => by have := hlt e; have := n3 j e4; omega⟩
  ·rw [hL]; by_cases e5 : F j <;> simp [e1, e2, e3, e4, e5]
 have l0 : ∀ j, L j ≠ 0 → F j ∨ (w0.heap.size ≤ j ∧ j < w.heap.size) := fun j hj => by
  by_cases e1 : j = p
  ·subst e1; exact .inr ⟨n0, hb.lt⟩
  by_cases e2 : j = g1
  ·subst e2; exact .inr ⟨n1, h1.lt⟩
  by_cases e3 : j = g2
  ·subst e3; exact .inr ⟨n2, h2.lt⟩
  by_cases e4 : PF b A j
  ·exact .inr ⟨n3 j e4, hp.lt j e4⟩
  by_cases e5 : F j
  ·exact .inl e5
  ·rw [hL] at hj; simp [e1, e2, e3, e4, e5] at hj
 refine ⟨fun j => L j ≠ 0, ⟨L, d, b, A, c, _, _, none, ⟨hb, l1, ?_, hp, l3, ?_, fun j hj => ?_, ?_, fun j hj => ?_, rfl, fun j hj => ?_, ?_, hT⟩, fun _ => Iff.rfl⟩, fun j hj => (l0 j hj).imp id fun e => e.1⟩
 ·rw [show (fun j => L j = 2) = F from funext fun j => propext (l2 j)]
  exact hd
 ·have := own_new (n := tabN D.n D.sz) h1 (by simp [nv]) (by simp only [maxLen]; omega)
  simpa [Gp.fresh] using this
 ·have : g1 = j := by simpa [Value.ownBlock] using hj
  rw [← this]; exact l4
 ·have := own_new (n := capN D.n D.sz) h2 (by simp [nv]) (by simp only [maxLen]; omega)
  simpa [Gp.fresh] using this
 ·have : g2 = j := by simpa [Value.ownBlock] using hj
  rw [← this]; exact l5
 ·rcases l0 j hj with e | e
  ·exact hd.lt j e
  ·exact e.2
 ·by_cases e : L 0 = 0
  ·exact e
  ·rcases l0 0 e with e | e
   ·exact absurd e h0
   ·omega

set_option maxRecDepth 100000 in
set_option maxHeartbeats 6400000 in
theorem gopen_new (d : Nat) (F : Nat → Prop) (D : Dk) (w : World) (h : DS w d F D) (hd : D.down = false) (hT : TabAt 0 tab w) (h0 : ¬ F 0) (hn : 8 ≤ D.n) (hz : 64 ≤ D.sz) (hp : ∀ i : Nat, i < 2 → partL ((D.rd i).take (D.sz - 8)) = none) (hby : ∀ i : Nat, i < 2 → ∀ x ∈ D.rd i, 0 ≤ x ∧ x ≤ 255) :
  Calls Tryz.prog 33 #[.pointer (some ⟨d, 0, none⟩)] w fun e w' => ∃ p F', e = .returned (.tuple #[.pointer (some ⟨p, 0, none⟩), .int .i64 0]) ∧ GS w' p F' (Gp.fresh D) ∧ Grew w w' ∧ ∀ j, F' j → F j ∨ w.heap.size ≤ j := by
 have hsm := h.sml
 have a1 : decide ((D.n : Int) < 8) = false := decide_eq_false (by omega)
 have a2 : decide ((D.sz : Int) < 64) = false := decide_eq_false (by omega)
 have H := Lib.hid (And.intro h (And.intro hT (And.intro hp hby)))
 clear h hT hp hby
 go_enter Tryz.func33, Tryz.ntmps33
 go_wp2_with (first
  | (go_at_call 76; (refine (dsectors_any d F D _ H.out.1).mono ?_); rintro e w1 ⟨rfl, rfl⟩)
  | (go_at_call 77; (refine (dsize_any d F D _ H.out.1).mono ?_); rintro e w1 ⟨rfl, rfl⟩)
  | (go_at_call 78; (refine (places_any D.n D.sz _ hn hsm.2.1 hz hsm.2.2.2).mono ?_); rintro e w1 ⟨rfl, hg1⟩; have HG1 := Lib.hid hg1; clear hg1))
 have hT := tabs_le (D.sz / 2) (D.n - 2) D.sz 64 0
 have hT64 : tabN D.n D.sz ≤ 64 := by unfold tabN; omega
 have hC : capN D.n D.sz ≤ 4096 := by unfold capN; split <;> omega
 have eq2 : (D.sz : Int).tdiv 2 = ((D.sz / 2 : Nat) : Int) := by simp
 have ew2 : IntKind.i64.wrap ((D.sz / 2 : Nat) : Int) = ((D.sz / 2 : Nat) : Int) := wrap_nat (by omega)
 have ew3 : IntKind.i64.wrap ((D.sz : Int) / 2) = ((D.sz / 2 : Nat) : Int) := by have := ew2; simpa using this
 have HG0 := Lib.hid (show Grew w1 w1.drew from (Chg.refl _ _).drew)
 clear hT
 go_cut [6] (fun v wx => OpenJ w1 d (D.sz / 2) (tabN D.n D.sz) (capN D.n D.sz) D.n v wx)
 case first =>
  refine wp_region_held_drew (S := fun _ => True) (by kernel_rfl) trivial (fun _ => ?_)
  refine Todo.out (is := [0, 1, 4, 6, 8]) ?_
  repeat
   refine tkH (v := ?_) rfl (by kernel_rfl) (by kernel_rfl) (by kernel_rfl) (fun _ _ _ h => h) (Or.inl ⟨by rfl, ?_⟩) trivial ?_
   rotate_left
   ·(intro w hSw; (try dsimp only at hSw); go_simp) <;> with_reducible rfl
   (try simp only [Act.put, lA, lB, lC])
  refine Todo.fin ?_
  obtain ⟨y5, hr5, hB5, hG5, hs5⟩ := make_ints (tabN D.n D.sz) (w1.drew) (by omega)
  obtain ⟨y7, hr7, hB7, hG7, hs7⟩ := make_ints (capN D.n D.sz) (w1.drew) (by omega)
  refine wpAnyH_ready (rs := [2, 5, 7]) (by kernel_rfl) (by simp) ?_
  refine (AllReadyH.cons rfl (fun K hK => ?_) (AllReadyH.cons rfl (fun K hK => ?_) (AllReadyH.cons rfl (fun K hK => ?_) AllReadyH.nil)))
  ·go_simp
   refine (dsize_any d F D _ (H.out.1.grew (Grew.trans HG1.out HG0.out))).mono ?_
   rintro e u2 ⟨rfl, rfl⟩
   refine hK.out _ _ trivial (fun _ => ?_)
   clear hK K
   (try simp only [Act.put, lA, lB, lC])
   clear hr5 hB5 hG5 hs5 y5 hr7 hB7 hG7 hs7 y7
   refine wpAnyH_take (i := 3) (v := ?_) rfl (by kernel_rfl) (by kernel_rfl) (by kernel_rfl) (fun _ _ _ h => h) (Or.inl ⟨by rfl, ?_⟩) trivial ?_
   rotate_left
   ·(intro w hSw; (try dsimp only at hSw); go_simp) <;> with_reducible rfl
   (try simp only [Act.put, lA, lB, lC])
   obtain ⟨y5, hr5, hB5, hG5, hs5⟩ := make_ints (tabN D.n D.sz) (w1.drew) (by omega)
   obtain ⟨y7, hr7, hB7, hG7, hs7⟩ := make_ints (capN D.n D.sz) (w1.drew) (by omega)
   refine wpAnyH_ready (rs := [5, 7, 9]) (by kernel_rfl) (by simp) ?_
   refine (AllReadyH.cons rfl (fun K hK => ?_) (AllReadyH.cons rfl (fun K hK => ?_) (AllReadyH.cons rfl (fun K hK => ?_) AllReadyH.nil)))
   ·go_simp
    refine hK.out _ _ trivial (fun _ => ?_)
    clear hK K
    (try simp only [Act.put, lA, lB, lC])
    have HQ5 := Lib.hid (show NewInts w1 y5 (w1.drew).heap.size (tabN D.n D.sz) from ⟨hB5, HG0.out.size⟩)
    have HLT5 := Lib.hid (show (w1.drew).heap.size < y5.heap.size from HQ5.out.1.lt)
    have HG5 := Lib.hid (Grew.trans HG0.out hG5)
    clear hr5 hB5 hG5 hs5 hr7 hB7 hG7 hs7 y7
    obtain ⟨y7, hr7, hB7, hG7, hs7⟩ := make_ints (capN D.n D.sz) (y5) (by omega)
    refine wpAnyH_ready (rs := [7, 9]) (by kernel_rfl) (by simp) ?_
    refine (AllReadyH.cons rfl (fun K hK => ?_) (AllReadyH.cons rfl (fun K hK => ?_) AllReadyH.nil))
    ·go_simp
     refine hK.out _ _ trivial (fun _ => ?_)
     clear hK K
     (try simp only [Act.put, lA, lB, lC])
     have HQ5 := Lib.hid (HQ5.out.grew hG7)
     have HQ7 := Lib.hid (show NewInts w1 y7 (y5).heap.size (capN D.n D.sz) from ⟨hB7, HG5.out.size⟩)
     have HD := Lib.hid (show (w1.drew).heap.size ≠ (y5).heap.size from Nat.ne_of_lt HLT5.out)
     have HG7 := Lib.hid (Grew.trans HG5.out hG7)
     clear hr7 hB7 hG7 hs7
     refine wpAnyH_ready (rs := [9]) (by kernel_rfl) (by simp) ?_
     refine (AllReadyH.cons rfl (fun K hK => ?_) AllReadyH.nil)
     ·go_simp
      refine (dsectors_any d F D _ (H.out.1.grew (Grew.trans HG1.out HG7.out))).mono ?_
      rintro e u2 ⟨rfl, rfl⟩
      refine hK.out _ _ trivial (fun _ => ?_)
      clear hK K
      (try simp only [Act.put, lA, lB, lC])
      refine wpAnyH_ready (rs := [10]) (by kernel_rfl) (by simp) ?_
      refine (AllReadyH.cons rfl (fun K hK => ?_) AllReadyH.nil)
      ·go_simp
       refine (pnew_any D.n _ (by omega)).mono ?_
       rintro e y10 ⟨A10, c10, rfl, hp10, hg10, hn10⟩
       refine hK.out _ _ trivial (fun _ => ?_)
       clear hK K
       (try simp only [Act.put, lA, lB, lC])
       have HQ5 := Lib.hid (HQ5.out.grew hg10)
       have HQ7 := Lib.hid (HQ7.out.grew hg10)
       have HQ10 := Lib.hid (show NewPool w1 y10 (y7).heap.size D.n A10 c10 from ⟨hp10, fun j hj => Nat.le_trans HG7.out.size (hn10 j hj)⟩)
       have HG10 := Lib.hid (Grew.trans HG7.out hg10)
       clear hp10 hg10 hn10
       refine wpAnyH_take (i := 11) (v := ?_) rfl (by kernel_rfl) (by kernel_rfl) (by kernel_rfl) (fun _ _ _ h => h) (Or.inl ⟨by rfl, ?_⟩) trivial ?_
       rotate_left
       ·(intro w hSw; (try dsimp only at hSw); go_simp) <;> with_reducible rfl
       (try simp only [Act.put, lA, lB, lC])
       refine rdH (i := 12) (by kernel_rfl) rfl fun K hK => ?_
       go_simp
       refine hK.out _ _ trivial (fun _ => ?_)
       clear hK K
       (try simp only [Act.put, lA, lB, lC])
       refine rdH (i := 13) (by kernel_rfl) rfl fun K hK => ?_
       go_simp
       refine hK.out _ _ trivial (fun _ => ?_)
       clear hK K
       (try simp only [Act.put, lA, lB, lC])
       refine wpAnyH_done (by kernel_rfl) ?_ _
       go_wp2
       go_meet
       exact openJ_mk (by first | exact ew3 | omega) HQ5.out HQ7.out HD.out HQ10.out HG10.out
    ·go_simp
     refine (dsectors_any d F D _ (H.out.1.grew (Grew.trans HG1.out HG5.out))).mono ?_
     rintro e u2 ⟨rfl, rfl⟩
     refine hK.out _ _ trivial (fun _ => ?_)
     clear hK K
     (try simp only [Act.put, lA, lB, lC])
     clear hr7 hB7 hG7 hs7 y7
     obtain ⟨y7, hr7, hB7, hG7, hs7⟩ := make_ints (capN D.n D.sz) (y5) (by omega)
     refine wpAnyH_ready (rs := [7, 10]) (by kernel_rfl) (by simp) ?_
     refine (AllReadyH.cons rfl (fun K hK => ?_) (AllReadyH.cons rfl (fun K hK => ?_) AllReadyH.nil))
     ·go_simp
      refine hK.out _ _ trivial (fun _ => ?_)
      clear hK K
      (try simp only [Act.put, lA, lB, lC])
      have HQ5 := Lib.hid (HQ5.out.grew hG7)
      have HQ7 := Lib.hid (show NewInts w1 y7 (y5).heap.size (capN D.n D.sz) from ⟨hB7, HG5.out.size⟩)
      have HD := Lib.hid (show (w1.drew).heap.size ≠ (y5).heap.size from Nat.ne_of_lt HLT5.out)
      have HG7 := Lib.hid (Grew.trans HG5.out hG7)
      clear hr7 hB7 hG7 hs7
      refine wpAnyH_ready (rs := [10]) (by kernel_rfl) (by simp) ?_
      refine (AllReadyH.cons rfl (fun K hK => ?_) AllReadyH.nil)
      ·go_simp
       refine (pnew_any D.n _ (by omega)).mono ?_
       rintro e y10 ⟨A10, c10, rfl, hp10, hg10, hn10⟩
       refine hK.out _ _ trivial (fun _ => ?_)
       clear hK K
       (try simp only [Act.put, lA, lB, lC])
       have HQ5 := Lib.hid (HQ5.out.grew hg10)
       have HQ7 := Lib.hid (HQ7.out.grew hg10)
       have HQ10 := Lib.hid (show NewPool w1 y10 (y7).heap.size D.n A10 c10 from ⟨hp10, fun j hj => Nat.le_trans HG7.out.size (hn10 j hj)⟩)
       have HG10 := Lib.hid (Grew.trans HG7.out hg10)
       clear hp10 hg10 hn10
       refine wpAnyH_take (i := 11) (v := ?_) rfl (by kernel_rfl) (by kernel_rfl) (by kernel_rfl) (fun _ _ _ h => h) (Or.inl ⟨by rfl, ?_⟩) trivial ?_
       rotate_left
       ·(intro w hSw; (try dsimp only at hSw); go_simp) <;> with_reducible rfl
       (try simp only [Act.put, lA, lB, lC])
       refine rdH (i := 12) (by kernel_rfl) rfl fun K hK => ?_
       go_simp
       refine hK.out _ _ trivial (fun _ => ?_)
       clear hK K
       (try simp only [Act.put, lA, lB, lC])
       refine rdH (i := 13) (by kernel_rfl) rfl fun K hK => ?_
       go_simp
       refine hK.out _ _ trivial (fun _ => ?_)
       clear hK K
       (try simp only [Act.put, lA, lB, lC])
       refine wpAnyH_done (by kernel_rfl) ?_ _
       go_wp2
       go_meet
       exact openJ_mk (by first | exact ew3 | omega) HQ5.out HQ7.out HD.out HQ10.out HG10.out
     ·go_simp
      refine (pnew_any D.n _ (by omega)).mono ?_
      rintro e y10 ⟨A10, c10, rfl, hp10, hg10, hn10⟩
      refine hK.out _ _ trivial (fun _ => ?_)
      clear hK K
      (try simp only [Act.put, lA, lB, lC])
      have HQ5 := Lib.hid (HQ5.out.grew hg10)
      have HLT5 := Lib.hid (Nat.lt_of_lt_of_le HLT5.out hg10.size)
      have HQ10 := Lib.hid (show NewPool w1 y10 (y5).heap.size D.n A10 c10 from ⟨hp10, fun j hj => Nat.le_trans HG5.out.size (hn10 j hj)⟩)
      have HG10 := Lib.hid (Grew.trans HG5.out hg10)
      clear hp10 hg10 hn10
      clear hr7 hB7 hG7 hs7 y7
      obtain ⟨y7, hr7, hB7, hG7, hs7⟩ := make_ints (capN D.n D.sz) (y10) (by omega)
      refine wpAnyH_ready (rs := [7]) (by kernel_rfl) (by simp) ?_
      refine (AllReadyH.cons rfl (fun K hK => ?_) AllReadyH.nil)
      ·go_simp
       refine hK.out _ _ trivial (fun _ => ?_)
       clear hK K
       (try simp only [Act.put, lA, lB, lC])
       have HQ5 := Lib.hid (HQ5.out.grew hG7)
       have HQ10 := Lib.hid (HQ10.out.grew hG7)
       have HQ7 := Lib.hid (show NewInts w1 y7 (y10).heap.size (capN D.n D.sz) from ⟨hB7, HG10.out.size⟩)
       have HD := Lib.hid (show (w1.drew).heap.size ≠ (y10).heap.size from Nat.ne_of_lt HLT5.out)
       have HG7 := Lib.hid (Grew.trans HG10.out hG7)
       clear hr7 hB7 hG7 hs7
       refine wpAnyH_take (i := 11) (v := ?_) rfl (by kernel_rfl) (by kernel_rfl) (by kernel_rfl) (fun _ _ _ h => h) (Or.inl ⟨by rfl, ?_⟩) trivial ?_
       rotate_left
       ·(intro w hSw; (try dsimp only at hSw); go_simp) <;> with_reducible rfl
       (try simp only [Act.put, lA, lB, lC])
       refine rdH (i := 12) (by kernel_rfl) rfl fun K hK => ?_
       go_simp
       refine hK.out _ _ trivial (fun _ => ?_)
       clear hK K
       (try simp only [Act.put, lA, lB, lC])
       refine rdH (i := 13) (by kernel_rfl) rfl fun K hK => ?_
       go_simp
       refine hK.out _ _ trivial (fun _ => ?_)
       clear hK K
       (try simp only [Act.put, lA, lB, lC])
       refine wpAnyH_done (by kernel_rfl) ?_ _
       go_wp2
       go_meet
       exact openJ_mk (by first | exact ew3 | omega) HQ5.out HQ7.out HD.out HQ10.out HG7.out
   ·go_simp
    refine hK.out _ _ trivial (fun _ => ?_)
    clear hK K
    (try simp only [Act.put, lA, lB, lC])
    have HQ7 := Lib.hid (show NewInts w1 y7 (w1.drew).heap.size (capN D.n D.sz) from ⟨hB7, HG0.out.size⟩)
    have HLT7 := Lib.hid (show (w1.drew).heap.size < y7.heap.size from HQ7.out.1.lt)
    have HG7 := Lib.hid (Grew.trans HG0.out hG7)
    clear hr7 hB7 hG7 hs7 hr5 hB5 hG5 hs5 y5
    obtain ⟨y5, hr5, hB5, hG5, hs5⟩ := make_ints (tabN D.n D.sz) (y7) (by omega)
    refine wpAnyH_ready (rs := [5, 9]) (by kernel_rfl) (by simp) ?_
    refine (AllReadyH.cons rfl (fun K hK => ?_) (AllReadyH.cons rfl (fun K hK => ?_) AllReadyH.nil))
    ·go_simp
     refine hK.out _ _ trivial (fun _ => ?_)
     clear hK K
     (try simp only [Act.put, lA, lB, lC])
     have HQ7 := Lib.hid (HQ7.out.grew hG5)
     have HQ5 := Lib.hid (show NewInts w1 y5 (y7).heap.size (tabN D.n D.sz) from ⟨hB5, HG7.out.size⟩)
     have HD := Lib.hid (show (y7).heap.size ≠ (w1.drew).heap.size from Ne.symm (Nat.ne_of_lt HLT7.out))
     have HG5 := Lib.hid (Grew.trans HG7.out hG5)
     clear hr5 hB5 hG5 hs5
     refine wpAnyH_ready (rs := [9]) (by kernel_rfl) (by simp) ?_
     refine (AllReadyH.cons rfl (fun K hK => ?_) AllReadyH.nil)
     ·go_simp
      refine (dsectors_any d F D _ (H.out.1.grew (Grew.trans HG1.out HG5.out))).mono ?_
      rintro e u2 ⟨rfl, rfl⟩
      refine hK.out _ _ trivial (fun _ => ?_)
      clear hK K
      (try simp only [Act.put, lA, lB, lC])
      refine wpAnyH_ready (rs := [10]) (by kernel_rfl) (by simp) ?_
      refine (AllReadyH.cons rfl (fun K hK => ?_) AllReadyH.nil)
      ·go_simp
       refine (pnew_any D.n _ (by omega)).mono ?_
       rintro e y10 ⟨A10, c10, rfl, hp10, hg10, hn10⟩
       refine hK.out _ _ trivial (fun _ => ?_)
       clear hK K
       (try simp only [Act.put, lA, lB, lC])
       have HQ7 := Lib.hid (HQ7.out.grew hg10)
       have HQ5 := Lib.hid (HQ5.out.grew hg10)
       have HQ10 := Lib.hid (show NewPool w1 y10 (y5).heap.size D.n A10 c10 from ⟨hp10, fun j hj => Nat.le_trans HG5.out.size (hn10 j hj)⟩)
       have HG10 := Lib.hid (Grew.trans HG5.out hg10)
       clear hp10 hg10 hn10
       refine wpAnyH_take (i := 11) (v := ?_) rfl (by kernel_rfl) (by kernel_rfl) (by kernel_rfl) (fun _ _ _ h => h) (Or.inl ⟨by rfl, ?_⟩) trivial ?_
       rotate_left
       ·(intro w hSw; (try dsimp only at hSw); go_simp) <;> with_reducible rfl
       (try simp only [Act.put, lA, lB, lC])
       refine rdH (i := 12) (by kernel_rfl) rfl fun K hK => ?_
       go_simp
       refine hK.out _ _ trivial (fun _ => ?_)
       clear hK K
       (try simp only [Act.put, lA, lB, lC])
       refine rdH (i := 13) (by kernel_rfl) rfl fun K hK => ?_
       go_simp
       refine hK.out _ _ trivial (fun _ => ?_)
       clear hK K
       (try simp only [Act.put, lA, lB, lC])
       refine wpAnyH_done (by kernel_rfl) ?_ _
       go_wp2
       go_meet
       exact openJ_mk (by first | exact ew3 | omega) HQ5.out HQ7.out HD.out HQ10.out HG10.out
    ·go_simp
     refine (dsectors_any d F D _ (H.out.1.grew (Grew.trans HG1.out HG7.out))).mono ?_
     rintro e u2 ⟨rfl, rfl⟩
     refine hK.out _ _ trivial (fun _ => ?_)
     clear hK K
     (try simp only [Act.put, lA, lB, lC])
     clear hr5 hB5 hG5 hs5 y5
     obtain ⟨y5, hr5, hB5, hG5, hs5⟩ := make_ints (tabN D.n D.sz) (y7) (by omega)
     refine wpAnyH_ready (rs := [5, 10]) (by kernel_rfl) (by simp) ?_
     refine (AllReadyH.cons rfl (fun K hK => ?_) (AllReadyH.cons rfl (fun K hK => ?_) AllReadyH.nil))
     ·go_simp
      refine hK.out _ _ trivial (fun _ => ?_)
      clear hK K
      (try simp only [Act.put, lA, lB, lC])
      have HQ7 := Lib.hid (HQ7.out.grew hG5)
      have HQ5 := Lib.hid (show NewInts w1 y5 (y7).heap.size (tabN D.n D.sz) from ⟨hB5, HG7.out.size⟩)
      have HD := Lib.hid (show (y7).heap.size ≠ (w1.drew).heap.size from Ne.symm (Nat.ne_of_lt HLT7.out))
      have HG5 := Lib.hid (Grew.trans HG7.out hG5)
      clear hr5 hB5 hG5 hs5
      refine wpAnyH_ready (rs := [10]) (by kernel_rfl) (by simp) ?_
      refine (AllReadyH.cons rfl (fun K hK => ?_) AllReadyH.nil)
      ·go_simp
       refine (pnew_any D.n _ (by omega)).mono ?_
       rintro e y10 ⟨A10, c10, rfl, hp10, hg10, hn10⟩
       refine hK.out _ _ trivial (fun _ => ?_)
       clear hK K
       (try simp only [Act.put, lA, lB, lC])
       have HQ7 := Lib.hid (HQ7.out.grew hg10)
       have HQ5 := Lib.hid (HQ5.out.grew hg10)
       have HQ10 := Lib.hid (show NewPool w1 y10 (y5).heap.size D.n A10 c10 from ⟨hp10, fun j hj => Nat.le_trans HG5.out.size (hn10 j hj)⟩)
       have HG10 := Lib.hid (Grew.trans HG5.out hg10)
       clear hp10 hg10 hn10
       refine wpAnyH_take (i := 11) (v := ?_) rfl (by kernel_rfl) (by kernel_rfl) (by kernel_rfl) (fun _ _ _ h => h) (Or.inl ⟨by rfl, ?_⟩) trivial ?_
       rotate_left
       ·(intro w hSw; (try dsimp only at hSw); go_simp) <;> with_reducible rfl
       (try simp only [Act.put, lA, lB, lC])
       refine rdH (i := 12) (by kernel_rfl) rfl fun K hK => ?_
       go_simp
       refine hK.out _ _ trivial (fun _ => ?_)
       clear hK K
       (try simp only [Act.put, lA, lB, lC])
       refine rdH (i := 13) (by kernel_rfl) rfl fun K hK => ?_
       go_simp
       refine hK.out _ _ trivial (fun _ => ?_)
       clear hK K
       (try simp only [Act.put, lA, lB, lC])
       refine wpAnyH_done (by kernel_rfl) ?_ _
       go_wp2
       go_meet
       exact openJ_mk (by first | exact ew3 | omega) HQ5.out HQ7.out HD.out HQ10.out HG10.out
     ·go_simp
      refine (pnew_any D.n _ (by omega)).mono ?_
      rintro e y10 ⟨A10, c10, rfl, hp10, hg10, hn10⟩
      refine hK.out _ _ trivial (fun _ => ?_)
      clear hK K
      (try simp only [Act.put, lA, lB, lC])
      have HQ7 := Lib.hid (HQ7.out.grew hg10)
      have HLT7 := Lib.hid (Nat.lt_of_lt_of_le HLT7.out hg10.size)
      have HQ10 := Lib.hid (show NewPool w1 y10 (y7).heap.size D.n A10 c10 from ⟨hp10, fun j hj => Nat.le_trans HG7.out.size (hn10 j hj)⟩)
      have HG10 := Lib.hid (Grew.trans HG7.out hg10)
      clear hp10 hg10 hn10
      clear hr5 hB5 hG5 hs5 y5
      obtain ⟨y5, hr5, hB5, hG5, hs5⟩ := make_ints (tabN D.n D.sz) (y10) (by omega)
      refine wpAnyH_ready (rs := [5]) (by kernel_rfl) (by simp) ?_
      refine (AllReadyH.cons rfl (fun K hK => ?_) AllReadyH.nil)
      ·go_simp
       refine hK.out _ _ trivial (fun _ => ?_)
       clear hK K
       (try simp only [Act.put, lA, lB, lC])
       have HQ7 := Lib.hid (HQ7.out.grew hG5)
       have HQ10 := Lib.hid (HQ10.out.grew hG5)
       have HQ5 := Lib.hid (show NewInts w1 y5 (y10).heap.size (tabN D.n D.sz) from ⟨hB5, HG10.out.size⟩)
       have HD := Lib.hid (show (y10).heap.size ≠ (w1.drew).heap.size from Ne.symm (Nat.ne_of_lt HLT7.out))
       have HG5 := Lib.hid (Grew.trans HG10.out hG5)
       clear hr5 hB5 hG5 hs5
       refine wpAnyH_take (i := 11) (v := ?_) rfl (by kernel_rfl) (by kernel_rfl) (by kernel_rfl) (fun _ _ _ h => h) (Or.inl ⟨by rfl, ?_⟩) trivial ?_
       rotate_left
       ·(intro w hSw; (try dsimp only at hSw); go_simp) <;> with_reducible rfl
       (try simp only [Act.put, lA, lB, lC])
       refine rdH (i := 12) (by kernel_rfl) rfl fun K hK => ?_
       go_simp
       refine hK.out _ _ trivial (fun _ => ?_)
       clear hK K
       (try simp only [Act.put, lA, lB, lC])
       refine rdH (i := 13) (by kernel_rfl) rfl fun K hK => ?_
       go_simp
       refine hK.out _ _ trivial (fun _ => ?_)
       clear hK K
       (try simp only [Act.put, lA, lB, lC])
       refine wpAnyH_done (by kernel_rfl) ?_ _
       go_wp2
       go_meet
       exact openJ_mk (by first | exact ew3 | omega) HQ5.out HQ7.out HD.out HQ10.out HG5.out
   ·go_simp
    refine (dsectors_any d F D _ (H.out.1.grew (Grew.trans HG1.out HG0.out))).mono ?_
    rintro e u2 ⟨rfl, rfl⟩
    refine hK.out _ _ trivial (fun _ => ?_)
    clear hK K
    (try simp only [Act.put, lA, lB, lC])
    clear hr5 hB5 hG5 hs5 y5 hr7 hB7 hG7 hs7 y7
    obtain ⟨y5, hr5, hB5, hG5, hs5⟩ := make_ints (tabN D.n D.sz) (w1.drew) (by omega)
    obtain ⟨y7, hr7, hB7, hG7, hs7⟩ := make_ints (capN D.n D.sz) (w1.drew) (by omega)
    refine wpAnyH_ready (rs := [5, 7, 10]) (by kernel_rfl) (by simp) ?_
    refine (AllReadyH.cons rfl (fun K hK => ?_) (AllReadyH.cons rfl (fun K hK => ?_) (AllReadyH.cons rfl (fun K hK => ?_) AllReadyH.nil)))
    ·go_simp
     refine hK.out _ _ trivial (fun _ => ?_)
     clear hK K
     (try simp only [Act.put, lA, lB, lC])
     have HQ5 := Lib.hid (show NewInts w1 y5 (w1.drew).heap.size (tabN D.n D.sz) from ⟨hB5, HG0.out.size⟩)
     have HLT5 := Lib.hid (show (w1.drew).heap.size < y5.heap.size from HQ5.out.1.lt)
     have HG5 := Lib.hid (Grew.trans HG0.out hG5)
     clear hr5 hB5 hG5 hs5 hr7 hB7 hG7 hs7 y7
     obtain ⟨y7, hr7, hB7, hG7, hs7⟩ := make_ints (capN D.n D.sz) (y5) (by omega)
     refine wpAnyH_ready (rs := [7, 10]) (by kernel_rfl) (by simp) ?_
     refine (AllReadyH.cons rfl (fun K hK => ?_) (AllReadyH.cons rfl (fun K hK => ?_) AllReadyH.nil))
     ·go_simp
      refine hK.out _ _ trivial (fun _ => ?_)
      clear hK K
      (try simp only [Act.put, lA, lB, lC])
      have HQ5 := Lib.hid (HQ5.out.grew hG7)
      have HQ7 := Lib.hid (show NewInts w1 y7 (y5).heap.size (capN D.n D.sz) from ⟨hB7, HG5.out.size⟩)
      have HD := Lib.hid (show (w1.drew).heap.size ≠ (y5).heap.size from Nat.ne_of_lt HLT5.out)
      have HG7 := Lib.hid (Grew.trans HG5.out hG7)
      clear hr7 hB7 hG7 hs7
      refine wpAnyH_ready (rs := [10]) (by kernel_rfl) (by simp) ?_
      refine (AllReadyH.cons rfl (fun K hK => ?_) AllReadyH.nil)
      ·go_simp
       refine (pnew_any D.n _ (by omega)).mono ?_
       rintro e y10 ⟨A10, c10, rfl, hp10, hg10, hn10⟩
       refine hK.out _ _ trivial (fun _ => ?_)
       clear hK K
       (try simp only [Act.put, lA, lB, lC])
       have HQ5 := Lib.hid (HQ5.out.grew hg10)
       have HQ7 := Lib.hid (HQ7.out.grew hg10)
       have HQ10 := Lib.hid (show NewPool w1 y10 (y7).heap.size D.n A10 c10 from ⟨hp10, fun j hj => Nat.le_trans HG7.out.size (hn10 j hj)⟩)
       have HG10 := Lib.hid (Grew.trans HG7.out hg10)
       clear hp10 hg10 hn10
       refine wpAnyH_take (i := 11) (v := ?_) rfl (by kernel_rfl) (by kernel_rfl) (by kernel_rfl) (fun _ _ _ h => h) (Or.inl ⟨by rfl, ?_⟩) trivial ?_
       rotate_left
       ·(intro w hSw; (try dsimp only at hSw); go_simp) <;> with_reducible rfl
       (try simp only [Act.put, lA, lB, lC])
       refine rdH (i := 12) (by kernel_rfl) rfl fun K hK => ?_
       go_simp
       refine hK.out _ _ trivial (fun _ => ?_)
       clear hK K
       (try simp only [Act.put, lA, lB, lC])
       refine rdH (i := 13) (by kernel_rfl) rfl fun K hK => ?_
       go_simp
       refine hK.out _ _ trivial (fun _ => ?_)
       clear hK K
       (try simp only [Act.put, lA, lB, lC])
       refine wpAnyH_done (by kernel_rfl) ?_ _
       go_wp2
       go_meet
       exact openJ_mk (by first | exact ew3 | omega) HQ5.out HQ7.out HD.out HQ10.out HG10.out
     ·go_simp
      refine (pnew_any D.n _ (by omega)).mono ?_
      rintro e y10 ⟨A10, c10, rfl, hp10, hg10, hn10⟩
      refine hK.out _ _ trivial (fun _ => ?_)
      clear hK K
      (try simp only [Act.put, lA, lB, lC])
      have HQ5 := Lib.hid (HQ5.out.grew hg10)
      have HLT5 := Lib.hid (Nat.lt_of_lt_of_le HLT5.out hg10.size)
      have HQ10 := Lib.hid (show NewPool w1 y10 (y5).heap.size D.n A10 c10 from ⟨hp10, fun j hj => Nat.le_trans HG5.out.size (hn10 j hj)⟩)
      have HG10 := Lib.hid (Grew.trans HG5.out hg10)
      clear hp10 hg10 hn10
      clear hr7 hB7 hG7 hs7 y7
      obtain ⟨y7, hr7, hB7, hG7, hs7⟩ := make_ints (capN D.n D.sz) (y10) (by omega)
      refine wpAnyH_ready (rs := [7]) (by kernel_rfl) (by simp) ?_
      refine (AllReadyH.cons rfl (fun K hK => ?_) AllReadyH.nil)
      ·go_simp
       refine hK.out _ _ trivial (fun _ => ?_)
       clear hK K
       (try simp only [Act.put, lA, lB, lC])
       have HQ5 := Lib.hid (HQ5.out.grew hG7)
       have HQ10 := Lib.hid (HQ10.out.grew hG7)
       have HQ7 := Lib.hid (show NewInts w1 y7 (y10).heap.size (capN D.n D.sz) from ⟨hB7, HG10.out.size⟩)
       have HD := Lib.hid (show (w1.drew).heap.size ≠ (y10).heap.size from Nat.ne_of_lt HLT5.out)
       have HG7 := Lib.hid (Grew.trans HG10.out hG7)
       clear hr7 hB7 hG7 hs7
       refine wpAnyH_take (i := 11) (v := ?_) rfl (by kernel_rfl) (by kernel_rfl) (by kernel_rfl) (fun _ _ _ h => h) (Or.inl ⟨by rfl, ?_⟩) trivial ?_
       rotate_left
       ·(intro w hSw; (try dsimp only at hSw); go_simp) <;> with_reducible rfl
       (try simp only [Act.put, lA, lB, lC])
       refine rdH (i := 12) (by kernel_rfl) rfl fun K hK => ?_
       go_simp
       refine hK.out _ _ trivial (fun _ => ?_)
       clear hK K
       (try simp only [Act.put, lA, lB, lC])
       refine rdH (i := 13) (by kernel_rfl) rfl fun K hK => ?_
       go_simp
       refine hK.out _ _ trivial (fun _ => ?_)
       clear hK K
       (try simp only [Act.put, lA, lB, lC])
       refine wpAnyH_done (by kernel_rfl) ?_ _
       go_wp2
       go_meet
       exact openJ_mk (by first | exact ew3 | omega) HQ5.out HQ7.out HD.out HQ10.out HG7.out
    ·go_simp
     refine hK.out _ _ trivial (fun _ => ?_)
     clear hK K
     (try simp only [Act.put, lA, lB, lC])
     have HQ7 := Lib.hid (show NewInts w1 y7 (w1.drew).heap.size (capN D.n D.sz) from ⟨hB7, HG0.out.size⟩)
     have HLT7 := Lib.hid (show (w1.drew).heap.size < y7.heap.size from HQ7.out.1.lt)
     have HG7 := Lib.hid (Grew.trans HG0.out hG7)
     clear hr7 hB7 hG7 hs7 hr5 hB5 hG5 hs5 y5
     obtain ⟨y5, hr5, hB5, hG5, hs5⟩ := make_ints (tabN D.n D.sz) (y7) (by omega)
     refine wpAnyH_ready (rs := [5, 10]) (by kernel_rfl) (by simp) ?_
     refine (AllReadyH.cons rfl (fun K hK => ?_) (AllReadyH.cons rfl (fun K hK => ?_) AllReadyH.nil))
     ·go_simp
      refine hK.out _ _ trivial (fun _ => ?_)
      clear hK K
      (try simp only [Act.put, lA, lB, lC])
      have HQ7 := Lib.hid (HQ7.out.grew hG5)
      have HQ5 := Lib.hid (show NewInts w1 y5 (y7).heap.size (tabN D.n D.sz) from ⟨hB5, HG7.out.size⟩)
      have HD := Lib.hid (show (y7).heap.size ≠ (w1.drew).heap.size from Ne.symm (Nat.ne_of_lt HLT7.out))
      have HG5 := Lib.hid (Grew.trans HG7.out hG5)
      clear hr5 hB5 hG5 hs5
      refine wpAnyH_ready (rs := [10]) (by kernel_rfl) (by simp) ?_
      refine (AllReadyH.cons rfl (fun K hK => ?_) AllReadyH.nil)
      ·go_simp
       refine (pnew_any D.n _ (by omega)).mono ?_
       rintro e y10 ⟨A10, c10, rfl, hp10, hg10, hn10⟩
       refine hK.out _ _ trivial (fun _ => ?_)
       clear hK K
       (try simp only [Act.put, lA, lB, lC])
       have HQ7 := Lib.hid (HQ7.out.grew hg10)
       have HQ5 := Lib.hid (HQ5.out.grew hg10)
       have HQ10 := Lib.hid (show NewPool w1 y10 (y5).heap.size D.n A10 c10 from ⟨hp10, fun j hj => Nat.le_trans HG5.out.size (hn10 j hj)⟩)
       have HG10 := Lib.hid (Grew.trans HG5.out hg10)
       clear hp10 hg10 hn10
       refine wpAnyH_take (i := 11) (v := ?_) rfl (by kernel_rfl) (by kernel_rfl) (by kernel_rfl) (fun _ _ _ h => h) (Or.inl ⟨by rfl, ?_⟩) trivial ?_
       rotate_left
       ·(intro w hSw; (try dsimp only at hSw); go_simp) <;> with_reducible rfl
       (try simp only [Act.put, lA, lB, lC])
       refine rdH (i := 12) (by kernel_rfl) rfl fun K hK => ?_
       go_simp
       refine hK.out _ _ trivial (fun _ => ?_)
       clear hK K
       (try simp only [Act.put, lA, lB, lC])
       refine rdH (i := 13) (by kernel_rfl) rfl fun K hK => ?_
       go_simp
       refine hK.out _ _ trivial (fun _ => ?_)
       clear hK K
       (try simp only [Act.put, lA, lB, lC])
       refine wpAnyH_done (by kernel_rfl) ?_ _
       go_wp2
       go_meet
       exact openJ_mk (by first | exact ew3 | omega) HQ5.out HQ7.out HD.out HQ10.out HG10.out
     ·go_simp
      refine (pnew_any D.n _ (by omega)).mono ?_
      rintro e y10 ⟨A10, c10, rfl, hp10, hg10, hn10⟩
      refine hK.out _ _ trivial (fun _ => ?_)
      clear hK K
      (try simp only [Act.put, lA, lB, lC])
      have HQ7 := Lib.hid (HQ7.out.grew hg10)
      have HLT7 := Lib.hid (Nat.lt_of_lt_of_le HLT7.out hg10.size)
      have HQ10 := Lib.hid (show NewPool w1 y10 (y7).heap.size D.n A10 c10 from ⟨hp10, fun j hj => Nat.le_trans HG7.out.size (hn10 j hj)⟩)
      have HG10 := Lib.hid (Grew.trans HG7.out hg10)
      clear hp10 hg10 hn10
      clear hr5 hB5 hG5 hs5 y5
      obtain ⟨y5, hr5, hB5, hG5, hs5⟩ := make_ints (tabN D.n D.sz) (y10) (by omega)
      refine wpAnyH_ready (rs := [5]) (by kernel_rfl) (by simp) ?_
      refine (AllReadyH.cons rfl (fun K hK => ?_) AllReadyH.nil)
      ·go_simp
       refine hK.out _ _ trivial (fun _ => ?_)
       clear hK K
       (try simp only [Act.put, lA, lB, lC])
       have HQ7 := Lib.hid (HQ7.out.grew hG5)
       have HQ10 := Lib.hid (HQ10.out.grew hG5)
       have HQ5 := Lib.hid (show NewInts w1 y5 (y10).heap.size (tabN D.n D.sz) from ⟨hB5, HG10.out.size⟩)
       have HD := Lib.hid (show (y10).heap.size ≠ (w1.drew).heap.size from Ne.symm (Nat.ne_of_lt HLT7.out))
       have HG5 := Lib.hid (Grew.trans HG10.out hG5)
       clear hr5 hB5 hG5 hs5
       refine wpAnyH_take (i := 11) (v := ?_) rfl (by kernel_rfl) (by kernel_rfl) (by kernel_rfl) (fun _ _ _ h => h) (Or.inl ⟨by rfl, ?_⟩) trivial ?_
       rotate_left
       ·(intro w hSw; (try dsimp only at hSw); go_simp) <;> with_reducible rfl
       (try simp only [Act.put, lA, lB, lC])
       refine rdH (i := 12) (by kernel_rfl) rfl fun K hK => ?_
       go_simp
       refine hK.out _ _ trivial (fun _ => ?_)
       clear hK K
       (try simp only [Act.put, lA, lB, lC])
       refine rdH (i := 13) (by kernel_rfl) rfl fun K hK => ?_
       go_simp
       refine hK.out _ _ trivial (fun _ => ?_)
       clear hK K
       (try simp only [Act.put, lA, lB, lC])
       refine wpAnyH_done (by kernel_rfl) ?_ _
       go_wp2
       go_meet
       exact openJ_mk (by first | exact ew3 | omega) HQ5.out HQ7.out HD.out HQ10.out HG5.out
    ·go_simp
     refine (pnew_any D.n _ (by omega)).mono ?_
     rintro e y10 ⟨A10, c10, rfl, hp10, hg10, hn10⟩
     refine hK.out _ _ trivial (fun _ => ?_)
     clear hK K
     (try simp only [Act.put, lA, lB, lC])
     have HQ10 := Lib.hid (show NewPool w1 y10 (w1.drew).heap.size D.n A10 c10 from ⟨hp10, fun j hj => Nat.le_trans HG0.out.size (hn10 j hj)⟩)
     have HG10 := Lib.hid (Grew.trans HG0.out hg10)
     clear hp10 hg10 hn10
     clear hr5 hB5 hG5 hs5 y5 hr7 hB7 hG7 hs7 y7
     obtain ⟨y5, hr5, hB5, hG5, hs5⟩ := make_ints (tabN D.n D.sz) (y10) (by omega)
     obtain ⟨y7, hr7, hB7, hG7, hs7⟩ := make_ints (capN D.n D.sz) (y10) (by omega)
     refine wpAnyH_ready (rs := [5, 7]) (by kernel_rfl) (by simp) ?_
     refine (AllReadyH.cons rfl (fun K hK => ?_) (AllReadyH.cons rfl (fun K hK => ?_) AllReadyH.nil))
     ·go_simp
      refine hK.out _ _ trivial (fun _ => ?_)
      clear hK K
      (try simp only [Act.put, lA, lB, lC])
      have HQ10 := Lib.hid (HQ10.out.grew hG5)
      have HQ5 := Lib.hid (show NewInts w1 y5 (y10).heap.size (tabN D.n D.sz) from ⟨hB5, HG10.out.size⟩)
      have HLT5 := Lib.hid (show (y10).heap.size < y5.heap.size from HQ5.out.1.lt)
      have HG5 := Lib.hid (Grew.trans HG10.out hG5)
      clear hr5 hB5 hG5 hs5 hr7 hB7 hG7 hs7 y7
      obtain ⟨y7, hr7, hB7, hG7, hs7⟩ := make_ints (capN D.n D.sz) (y5) (by omega)
      refine wpAnyH_ready (rs := [7]) (by kernel_rfl) (by simp) ?_
      refine (AllReadyH.cons rfl (fun K hK => ?_) AllReadyH.nil)
      ·go_simp
       refine hK.out _ _ trivial (fun _ => ?_)
       clear hK K
       (try simp only [Act.put, lA, lB, lC])
       have HQ10 := Lib.hid (HQ10.out.grew hG7)
       have HQ5 := Lib.hid (HQ5.out.grew hG7)
       have HQ7 := Lib.hid (show NewInts w1 y7 (y5).heap.size (capN D.n D.sz) from ⟨hB7, HG5.out.size⟩)
       have HD := Lib.hid (show (y10).heap.size ≠ (y5).heap.size from Nat.ne_of_lt HLT5.out)
       have HG7 := Lib.hid (Grew.trans HG5.out hG7)
       clear hr7 hB7 hG7 hs7
       refine wpAnyH_take (i := 11) (v := ?_) rfl (by kernel_rfl) (by kernel_rfl) (by kernel_rfl) (fun _ _ _ h => h) (Or.inl ⟨by rfl, ?_⟩) trivial ?_
       rotate_left
       ·(intro w hSw; (try dsimp only at hSw); go_simp) <;> with_reducible rfl
       (try simp only [Act.put, lA, lB, lC])
       refine rdH (i := 12) (by kernel_rfl) rfl fun K hK => ?_
       go_simp
       refine hK.out _ _ trivial (fun _ => ?_)
       clear hK K
       (try simp only [Act.put, lA, lB, lC])
       refine rdH (i := 13) (by kernel_rfl) rfl fun K hK => ?_
       go_simp
       refine hK.out _ _ trivial (fun _ => ?_)
       clear hK K
       (try simp only [Act.put, lA, lB, lC])
       refine wpAnyH_done (by kernel_rfl) ?_ _
       go_wp2
       go_meet
       exact openJ_mk (by first | exact ew3 | omega) HQ5.out HQ7.out HD.out HQ10.out HG7.out
     ·go_simp
      refine hK.out _ _ trivial (fun _ => ?_)
      clear hK K
      (try simp only [Act.put, lA, lB, lC])
      have HQ10 := Lib.hid (HQ10.out.grew hG7)
      have HQ7 := Lib.hid (show NewInts w1 y7 (y10).heap.size (capN D.n D.sz) from ⟨hB7, HG10.out.size⟩)
      have HLT7 := Lib.hid (show (y10).heap.size < y7.heap.size from HQ7.out.1.lt)
      have HG7 := Lib.hid (Grew.trans HG10.out hG7)
      clear hr7 hB7 hG7 hs7 hr5 hB5 hG5 hs5 y5
      obtain ⟨y5, hr5, hB5, hG5, hs5⟩ := make_ints (tabN D.n D.sz) (y7) (by omega)
      refine wpAnyH_ready (rs := [5]) (by kernel_rfl) (by simp) ?_
      refine (AllReadyH.cons rfl (fun K hK => ?_) AllReadyH.nil)
      ·go_simp
       refine hK.out _ _ trivial (fun _ => ?_)
       clear hK K
       (try simp only [Act.put, lA, lB, lC])
       have HQ10 := Lib.hid (HQ10.out.grew hG5)
       have HQ7 := Lib.hid (HQ7.out.grew hG5)
       have HQ5 := Lib.hid (show NewInts w1 y5 (y7).heap.size (tabN D.n D.sz) from ⟨hB5, HG7.out.size⟩)
       have HD := Lib.hid (show (y7).heap.size ≠ (y10).heap.size from Ne.symm (Nat.ne_of_lt HLT7.out))
       have HG5 := Lib.hid (Grew.trans HG7.out hG5)
       clear hr5 hB5 hG5 hs5
       refine wpAnyH_take (i := 11) (v := ?_) rfl (by kernel_rfl) (by kernel_rfl) (by kernel_rfl) (fun _ _ _ h => h) (Or.inl ⟨by rfl, ?_⟩) trivial ?_
       rotate_left
       ·(intro w hSw; (try dsimp only at hSw); go_simp) <;> with_reducible rfl
       (try simp only [Act.put, lA, lB, lC])
       refine rdH (i := 12) (by kernel_rfl) rfl fun K hK => ?_
       go_simp
       refine hK.out _ _ trivial (fun _ => ?_)
       clear hK K
       (try simp only [Act.put, lA, lB, lC])
       refine rdH (i := 13) (by kernel_rfl) rfl fun K hK => ?_
       go_simp
       refine hK.out _ _ trivial (fun _ => ?_)
       clear hK K
       (try simp only [Act.put, lA, lB, lC])
       refine wpAnyH_done (by kernel_rfl) ?_ _
       go_wp2
       go_meet
       exact openJ_mk (by first | exact ew3 | omega) HQ5.out HQ7.out HD.out HQ10.out HG5.out
  ·go_simp
   refine hK.out _ _ trivial (fun _ => ?_)
   clear hK K
   (try simp only [Act.put, lA, lB, lC])
   have HQ5 := Lib.hid (show NewInts w1 y5 (w1.drew).heap.size (tabN D.n D.sz) from ⟨hB5, HG0.out.size⟩)
   have HLT5 := Lib.hid (show (w1.drew).heap.size < y5.heap.size from HQ5.out.1.lt)
   have HG5 := Lib.hid (Grew.trans HG0.out hG5)
   clear hr5 hB5 hG5 hs5 hr7 hB7 hG7 hs7 y7
   obtain ⟨y7, hr7, hB7, hG7, hs7⟩ := make_ints (capN D.n D.sz) (y5) (by omega)
   refine wpAnyH_ready (rs := [2, 7]) (by kernel_rfl) (by simp) ?_
   refine (AllReadyH.cons rfl (fun K hK => ?_) (AllReadyH.cons rfl (fun K hK => ?_) AllReadyH.nil))
   ·go_simp
    refine (dsize_any d F D _ (H.out.1.grew (Grew.trans HG1.out HG5.out))).mono ?_
    rintro e u2 ⟨rfl, rfl⟩
    refine hK.out _ _ trivial (fun _ => ?_)
    clear hK K
    (try simp only [Act.put, lA, lB, lC])
    clear hr7 hB7 hG7 hs7 y7
    refine wpAnyH_take (i := 3) (v := ?_) rfl (by kernel_rfl) (by kernel_rfl) (by kernel_rfl) (fun _ _ _ h => h) (Or.inl ⟨by rfl, ?_⟩) trivial ?_
    rotate_left
    ·(intro w hSw; (try dsimp only at hSw); go_simp) <;> with_reducible rfl
    (try simp only [Act.put, lA, lB, lC])
    obtain ⟨y7, hr7, hB7, hG7, hs7⟩ := make_ints (capN D.n D.sz) (y5) (by omega)
    refine wpAnyH_ready (rs := [7, 9]) (by kernel_rfl) (by simp) ?_
    refine (AllReadyH.cons rfl (fun K hK => ?_) (AllReadyH.cons rfl (fun K hK => ?_) AllReadyH.nil))
    ·go_simp
     refine hK.out _ _ trivial (fun _ => ?_)
     clear hK K
     (try simp only [Act.put, lA, lB, lC])
     have HQ5 := Lib.hid (HQ5.out.grew hG7)
     have HQ7 := Lib.hid (show NewInts w1 y7 (y5).heap.size (capN D.n D.sz) from ⟨hB7, HG5.out.size⟩)
     have HD := Lib.hid (show (w1.drew).heap.size ≠ (y5).heap.size from Nat.ne_of_lt HLT5.out)
     have HG7 := Lib.hid (Grew.trans HG5.out hG7)
     clear hr7 hB7 hG7 hs7
     refine wpAnyH_ready (rs := [9]) (by kernel_rfl) (by simp) ?_
     refine (AllReadyH.cons rfl (fun K hK => ?_) AllReadyH.nil)
     ·go_simp
      refine (dsectors_any d F D _ (H.out.1.grew (Grew.trans HG1.out HG7.out))).mono ?_
      rintro e u2 ⟨rfl, rfl⟩
      refine hK.out _ _ trivial (fun _ => ?_)
      clear hK K
      (try simp only [Act.put, lA, lB, lC])
      refine wpAnyH_ready (rs := [10]) (by kernel_rfl) (by simp) ?_
      refine (AllReadyH.cons rfl (fun K hK => ?_) AllReadyH.nil)
      ·go_simp
       refine (pnew_any D.n _ (by omega)).mono ?_
       rintro e y10 ⟨A10, c10, rfl, hp10, hg10, hn10⟩
       refine hK.out _ _ trivial (fun _ => ?_)
       clear hK K
       (try simp only [Act.put, lA, lB, lC])
       have HQ5 := Lib.hid (HQ5.out.grew hg10)
       have HQ7 := Lib.hid (HQ7.out.grew hg10)
       have HQ10 := Lib.hid (show NewPool w1 y10 (y7).heap.size D.n A10 c10 from ⟨hp10, fun j hj => Nat.le_trans HG7.out.size (hn10 j hj)⟩)
       have HG10 := Lib.hid (Grew.trans HG7.out hg10)
       clear hp10 hg10 hn10
       refine wpAnyH_take (i := 11) (v := ?_) rfl (by kernel_rfl) (by kernel_rfl) (by kernel_rfl) (fun _ _ _ h => h) (Or.inl ⟨by rfl, ?_⟩) trivial ?_
       rotate_left
       ·(intro w hSw; (try dsimp only at hSw); go_simp) <;> with_reducible rfl
       (try simp only [Act.put, lA, lB, lC])
       refine rdH (i := 12) (by kernel_rfl) rfl fun K hK => ?_
       go_simp
       refine hK.out _ _ trivial (fun _ => ?_)
       clear hK K
       (try simp only [Act.put, lA, lB, lC])
       refine rdH (i := 13) (by kernel_rfl) rfl fun K hK => ?_
       go_simp
       refine hK.out _ _ trivial (fun _ => ?_)
       clear hK K
       (try simp only [Act.put, lA, lB, lC])
       refine wpAnyH_done (by kernel_rfl) ?_ _
       go_wp2
       go_meet
       exact openJ_mk (by first | exact ew3 | omega) HQ5.out HQ7.out HD.out HQ10.out HG10.out
    ·go_simp
     refine (dsectors_any d F D _ (H.out.1.grew (Grew.trans HG1.out HG5.out))).mono ?_
     rintro e u2 ⟨rfl, rfl⟩
     refine hK.out _ _ trivial (fun _ => ?_)
     clear hK K
     (try simp only [Act.put, lA, lB, lC])
     clear hr7 hB7 hG7 hs7 y7
     obtain ⟨y7, hr7, hB7, hG7, hs7⟩ := make_ints (capN D.n D.sz) (y5) (by omega)
     refine wpAnyH_ready (rs := [7, 10]) (by kernel_rfl) (by simp) ?_
     refine (AllReadyH.cons rfl (fun K hK => ?_) (AllReadyH.cons rfl (fun K hK => ?_) AllReadyH.nil))
     ·go_simp
      refine hK.out _ _ trivial (fun _ => ?_)
      clear hK K
      (try simp only [Act.put, lA, lB, lC])
      have HQ5 := Lib.hid (HQ5.out.grew hG7)
      have HQ7 := Lib.hid (show NewInts w1 y7 (y5).heap.size (capN D.n D.sz) from ⟨hB7, HG5.out.size⟩)
      have HD := Lib.hid (show (w1.drew).heap.size ≠ (y5).heap.size from Nat.ne_of_lt HLT5.out)
      have HG7 := Lib.hid (Grew.trans HG5.out hG7)
      clear hr7 hB7 hG7 hs7
      refine wpAnyH_ready (rs := [10]) (by kernel_rfl) (by simp) ?_
      refine (AllReadyH.cons rfl (fun K hK => ?_) AllReadyH.nil)
      ·go_simp
       refine (pnew_any D.n _ (by omega)).mono ?_
       rintro e y10 ⟨A10, c10, rfl, hp10, hg10, hn10⟩
       refine hK.out _ _ trivial (fun _ => ?_)
       clear hK K
       (try simp only [Act.put, lA, lB, lC])
       have HQ5 := Lib.hid (HQ5.out.grew hg10)
       have HQ7 := Lib.hid (HQ7.out.grew hg10)
       have HQ10 := Lib.hid (show NewPool w1 y10 (y7).heap.size D.n A10 c10 from ⟨hp10, fun j hj => Nat.le_trans HG7.out.size (hn10 j hj)⟩)
       have HG10 := Lib.hid (Grew.trans HG7.out hg10)
       clear hp10 hg10 hn10
       refine wpAnyH_take (i := 11) (v := ?_) rfl (by kernel_rfl) (by kernel_rfl) (by kernel_rfl) (fun _ _ _ h => h) (Or.inl ⟨by rfl, ?_⟩) trivial ?_
       rotate_left
       ·(intro w hSw; (try dsimp only at hSw); go_simp) <;> with_reducible rfl
       (try simp only [Act.put, lA, lB, lC])
       refine rdH (i := 12) (by kernel_rfl) rfl fun K hK => ?_
       go_simp
       refine hK.out _ _ trivial (fun _ => ?_)
       clear hK K
       (try simp only [Act.put, lA, lB, lC])
       refine rdH (i := 13) (by kernel_rfl) rfl fun K hK => ?_
       go_simp
       refine hK.out _ _ trivial (fun _ => ?_)
       clear hK K
       (try simp only [Act.put, lA, lB, lC])
       refine wpAnyH_done (by kernel_rfl) ?_ _
       go_wp2
       go_meet
       exact openJ_mk (by first | exact ew3 | omega) HQ5.out HQ7.out HD.out HQ10.out HG10.out
     ·go_simp
      refine (pnew_any D.n _ (by omega)).mono ?_
      rintro e y10 ⟨A10, c10, rfl, hp10, hg10, hn10⟩
      refine hK.out _ _ trivial (fun _ => ?_)
      clear hK K
      (try simp only [Act.put, lA, lB, lC])
      have HQ5 := Lib.hid (HQ5.out.grew hg10)
      have HLT5 := Lib.hid (Nat.lt_of_lt_of_le HLT5.out hg10.size)
      have HQ10 := Lib.hid (show NewPool w1 y10 (y5).heap.size D.n A10 c10 from ⟨hp10, fun j hj => Nat.le_trans HG5.out.size (hn10 j hj)⟩)
      have HG10 := Lib.hid (Grew.trans HG5.out hg10)
      clear hp10 hg10 hn10
      clear hr7 hB7 hG7 hs7 y7
      obtain ⟨y7, hr7, hB7, hG7, hs7⟩ := make_ints (capN D.n D.sz) (y10) (by omega)
      refine wpAnyH_ready (rs := [7]) (by kernel_rfl) (by simp) ?_
      refine (AllReadyH.cons rfl (fun K hK => ?_) AllReadyH.nil)
      ·go_simp
       refine hK.out _ _ trivial (fun _ => ?_)
       clear hK K
       (try simp only [Act.put, lA, lB, lC])
       have HQ5 := Lib.hid (HQ5.out.grew hG7)
       have HQ10 := Lib.hid (HQ10.out.grew hG7)
       have HQ7 := Lib.hid (show NewInts w1 y7 (y10).heap.size (capN D.n D.sz) from ⟨hB7, HG10.out.size⟩)
       have HD := Lib.hid (show (w1.drew).heap.size ≠ (y10).heap.size from Nat.ne_of_lt HLT5.out)
       have HG7 := Lib.hid (Grew.trans HG10.out hG7)
       clear hr7 hB7 hG7 hs7
       refine wpAnyH_take (i := 11) (v := ?_) rfl (by kernel_rfl) (by kernel_rfl) (by kernel_rfl) (fun _ _ _ h => h) (Or.inl ⟨by rfl, ?_⟩) trivial ?_
       rotate_left
       ·(intro w hSw; (try dsimp only at hSw); go_simp) <;> with_reducible rfl
       (try simp only [Act.put, lA, lB, lC])
       refine rdH (i := 12) (by kernel_rfl) rfl fun K hK => ?_
       go_simp
       refine hK.out _ _ trivial (fun _ => ?_)
       clear hK K
       (try simp only [Act.put, lA, lB, lC])
       refine rdH (i := 13) (by kernel_rfl) rfl fun K hK => ?_
       go_simp
       refine hK.out _ _ trivial (fun _ => ?_)
       clear hK K
       (try simp only [Act.put, lA, lB, lC])
       refine wpAnyH_done (by kernel_rfl) ?_ _
       go_wp2
       go_meet
       exact openJ_mk (by first | exact ew3 | omega) HQ5.out HQ7.out HD.out HQ10.out HG7.out
   ·go_simp
    refine hK.out _ _ trivial (fun _ => ?_)
    clear hK K
    (try simp only [Act.put, lA, lB, lC])
    have HQ5 := Lib.hid (HQ5.out.grew hG7)
    have HQ7 := Lib.hid (show NewInts w1 y7 (y5).heap.size (capN D.n D.sz) from ⟨hB7, HG5.out.size⟩)
    have HD := Lib.hid (show (w1.drew).heap.size ≠ (y5).heap.size from Nat.ne_of_lt HLT5.out)
    have HG7 := Lib.hid (Grew.trans HG5.out hG7)
    clear hr7 hB7 hG7 hs7
    refine wpAnyH_ready (rs := [2]) (by kernel_rfl) (by simp) ?_
    refine (AllReadyH.cons rfl (fun K hK => ?_) AllReadyH.nil)
    ·go_simp
     refine (dsize_any d F D _ (H.out.1.grew (Grew.trans HG1.out HG7.out))).mono ?_
     rintro e u2 ⟨rfl, rfl⟩
     refine hK.out _ _ trivial (fun _ => ?_)
     clear hK K
     (try simp only [Act.put, lA, lB, lC])
     refine wpAnyH_take (i := 3) (v := ?_) rfl (by kernel_rfl) (by kernel_rfl) (by kernel_rfl) (fun _ _ _ h => h) (Or.inl ⟨by rfl, ?_⟩) trivial ?_
     rotate_left
     ·(intro w hSw; (try dsimp only at hSw); go_simp) <;> with_reducible rfl
     (try simp only [Act.put, lA, lB, lC])
     refine wpAnyH_ready (rs := [9]) (by kernel_rfl) (by simp) ?_
     refine (AllReadyH.cons rfl (fun K hK => ?_) AllReadyH.nil)
     ·go_simp
      refine (dsectors_any d F D _ (H.out.1.grew (Grew.trans HG1.out HG7.out))).mono ?_
      rintro e u2 ⟨rfl, rfl⟩
      refine hK.out _ _ trivial (fun _ => ?_)
      clear hK K
      (try simp only [Act.put, lA, lB, lC])
      refine wpAnyH_ready (rs := [10]) (by kernel_rfl) (by simp) ?_
      refine (AllReadyH.cons rfl (fun K hK => ?_) AllReadyH.nil)
      ·go_simp
       refine (pnew_any D.n _ (by omega)).mono ?_
       rintro e y10 ⟨A10, c10, rfl, hp10, hg10, hn10⟩
       refine hK.out _ _ trivial (fun _ => ?_)
       clear hK K
       (try simp only [Act.put, lA, lB, lC])
       have HQ5 := Lib.hid (HQ5.out.grew hg10)
       have HQ7 := Lib.hid (HQ7.out.grew hg10)
       have HQ10 := Lib.hid (show NewPool w1 y10 (y7).heap.size D.n A10 c10 from ⟨hp10, fun j hj => Nat.le_trans HG7.out.size (hn10 j hj)⟩)
       have HG10 := Lib.hid (Grew.trans HG7.out hg10)
       clear hp10 hg10 hn10
       refine wpAnyH_take (i := 11) (v := ?_) rfl (by kernel_rfl) (by kernel_rfl) (by kernel_rfl) (fun _ _ _ h => h) (Or.inl ⟨by rfl, ?_⟩) trivial ?_
       rotate_left
       ·(intro w hSw; (try dsimp only at hSw); go_simp) <;> with_reducible rfl
       (try simp only [Act.put, lA, lB, lC])
       refine rdH (i := 12) (by kernel_rfl) rfl fun K hK => ?_
       go_simp
       refine hK.out _ _ trivial (fun _ => ?_)
       clear hK K
       (try simp only [Act.put, lA, lB, lC])
       refine rdH (i := 13) (by kernel_rfl) rfl fun K hK => ?_
       go_simp
       refine hK.out _ _ trivial (fun _ => ?_)
       clear hK K
       (try simp only [Act.put, lA, lB, lC])
       refine wpAnyH_done (by kernel_rfl) ?_ _
       go_wp2
       go_meet
       exact openJ_mk (by first | exact ew3 | omega) HQ5.out HQ7.out HD.out HQ10.out HG10.out
  ·go_simp
   refine hK.out _ _ trivial (fun _ => ?_)
   clear hK K
   (try simp only [Act.put, lA, lB, lC])
   have HQ7 := Lib.hid (show NewInts w1 y7 (w1.drew).heap.size (capN D.n D.sz) from ⟨hB7, HG0.out.size⟩)
   have HLT7 := Lib.hid (show (w1.drew).heap.size < y7.heap.size from HQ7.out.1.lt)
   have HG7 := Lib.hid (Grew.trans HG0.out hG7)
   clear hr7 hB7 hG7 hs7 hr5 hB5 hG5 hs5 y5
   obtain ⟨y5, hr5, hB5, hG5, hs5⟩ := make_ints (tabN D.n D.sz) (y7) (by omega)
   refine wpAnyH_ready (rs := [2, 5]) (by kernel_rfl) (by simp) ?_
   refine (AllReadyH.cons rfl (fun K hK => ?_) (AllReadyH.cons rfl (fun K hK => ?_) AllReadyH.nil))
   ·go_simp
    refine (dsize_any d F D _ (H.out.1.grew (Grew.trans HG1.out HG7.out))).mono ?_
    rintro e u2 ⟨rfl, rfl⟩
    refine hK.out _ _ trivial (fun _ => ?_)
    clear hK K
    (try simp only [Act.put, lA, lB, lC])
    clear hr5 hB5 hG5 hs5 y5
    refine wpAnyH_take (i := 3) (v := ?_) rfl (by kernel_rfl) (by kernel_rfl) (by kernel_rfl) (fun _ _ _ h => h) (Or.inl ⟨by rfl, ?_⟩) trivial ?_
    rotate_left
    ·(intro w hSw; (try dsimp only at hSw); go_simp) <;> with_reducible rfl
    (try simp only [Act.put, lA, lB, lC])
    obtain ⟨y5, hr5, hB5, hG5, hs5⟩ := make_ints (tabN D.n D.sz) (y7) (by omega)
    refine wpAnyH_ready (rs := [5, 9]) (by kernel_rfl) (by simp) ?_
    refine (AllReadyH.cons rfl (fun K hK => ?_) (AllReadyH.cons rfl (fun K hK => ?_) AllReadyH.nil))
    ·go_simp
     refine hK.out _ _ trivial (fun _ => ?_)
     clear hK K
     (try simp only [Act.put, lA, lB, lC])
     have HQ7 := Lib.hid (HQ7.out.grew hG5)
     have HQ5 := Lib.hid (show NewInts w1 y5 (y7).heap.size (tabN D.n D.sz) from ⟨hB5, HG7.out.size⟩)
     have HD := Lib.hid (show (y7).heap.size ≠ (w1.drew).heap.size from Ne.symm (Nat.ne_of_lt HLT7.out))
     have HG5 := Lib.hid (Grew.trans HG7.out hG5)
     clear hr5 hB5 hG5 hs5
     refine wpAnyH_ready (rs := [9]) (by kernel_rfl) (by simp) ?_
     refine (AllReadyH.cons rfl (fun K hK => ?_) AllReadyH.nil)
     ·go_simp
      refine (dsectors_any d F D _ (H.out.1.grew (Grew.trans HG1.out HG5.out))).mono ?_
      rintro e u2 ⟨rfl, rfl⟩
      refine hK.out _ _ trivial (fun _ => ?_)
      clear hK K
      (try simp only [Act.put, lA, lB, lC])
      refine wpAnyH_ready (rs := [10]) (by kernel_rfl) (by simp) ?_
      refine (AllReadyH.cons rfl (fun K hK => ?_) AllReadyH.nil)
      ·go_simp
       refine (pnew_any D.n _ (by omega)).mono ?_
       rintro e y10 ⟨A10, c10, rfl, hp10, hg10, hn10⟩
       refine hK.out _ _ trivial (fun _ => ?_)
       clear hK K
       (try simp only [Act.put, lA, lB, lC])
       have HQ7 := Lib.hid (HQ7.out.grew hg10)
       have HQ5 := Lib.hid (HQ5.out.grew hg10)
       have HQ10 := Lib.hid (show NewPool w1 y10 (y5).heap.size D.n A10 c10 from ⟨hp10, fun j hj => Nat.le_trans HG5.out.size (hn10 j hj)⟩)
       have HG10 := Lib.hid (Grew.trans HG5.out hg10)
       clear hp10 hg10 hn10
       refine wpAnyH_take (i := 11) (v := ?_) rfl (by kernel_rfl) (by kernel_rfl) (by kernel_rfl) (fun _ _ _ h => h) (Or.inl ⟨by rfl, ?_⟩) trivial ?_
       rotate_left
       ·(intro w hSw; (try dsimp only at hSw); go_simp) <;> with_reducible rfl
       (try simp only [Act.put, lA, lB, lC])
       refine rdH (i := 12) (by kernel_rfl) rfl fun K hK => ?_
       go_simp
       refine hK.out _ _ trivial (fun _ => ?_)
       clear hK K
       (try simp only [Act.put, lA, lB, lC])
       refine rdH (i := 13) (by kernel_rfl) rfl fun K hK => ?_
       go_simp
       refine hK.out _ _ trivial (fun _ => ?_)
       clear hK K
       (try simp only [Act.put, lA, lB, lC])
       refine wpAnyH_done (by kernel_rfl) ?_ _
       go_wp2
       go_meet
       exact openJ_mk (by first | exact ew3 | omega) HQ5.out HQ7.out HD.out HQ10.out HG10.out
    ·go_simp
     refine (dsectors_any d F D _ (H.out.1.grew (Grew.trans HG1.out HG7.out))).mono ?_
     rintro e u2 ⟨rfl, rfl⟩
     refine hK.out _ _ trivial (fun _ => ?_)
     clear hK K
     (try simp only [Act.put, lA, lB, lC])
     clear hr5 hB5 hG5 hs5 y5
     obtain ⟨y5, hr5, hB5, hG5, hs5⟩ := make_ints (tabN D.n D.sz) (y7) (by omega)
     refine wpAnyH_ready (rs := [5, 10]) (by kernel_rfl) (by simp) ?_
     refine (AllReadyH.cons rfl (fun K hK => ?_) (AllReadyH.cons rfl (fun K hK => ?_) AllReadyH.nil))
     ·go_simp
      refine hK.out _ _ trivial (fun _ => ?_)
      clear hK K
      (try simp only [Act.put, lA, lB, lC])
      have HQ7 := Lib.hid (HQ7.out.grew hG5)
      have HQ5 := Lib.hid (show NewInts w1 y5 (y7).heap.size (tabN D.n D.sz) from ⟨hB5, HG7.out.size⟩)
      have HD := Lib.hid (show (y7).heap.size ≠ (w1.drew).heap.size from Ne.symm (Nat.ne_of_lt HLT7.out))
      have HG5 := Lib.hid (Grew.trans HG7.out hG5)
      clear hr5 hB5 hG5 hs5
      refine wpAnyH_ready (rs := [10]) (by kernel_rfl) (by simp) ?_
      refine (AllReadyH.cons rfl (fun K hK => ?_) AllReadyH.nil)
      ·go_simp
       refine (pnew_any D.n _ (by omega)).mono ?_
       rintro e y10 ⟨A10, c10, rfl, hp10, hg10, hn10⟩
       refine hK.out _ _ trivial (fun _ => ?_)
       clear hK K
       (try simp only [Act.put, lA, lB, lC])
       have HQ7 := Lib.hid (HQ7.out.grew hg10)
       have HQ5 := Lib.hid (HQ5.out.grew hg10)
       have HQ10 := Lib.hid (show NewPool w1 y10 (y5).heap.size D.n A10 c10 from ⟨hp10, fun j hj => Nat.le_trans HG5.out.size (hn10 j hj)⟩)
       have HG10 := Lib.hid (Grew.trans HG5.out hg10)
       clear hp10 hg10 hn10
       refine wpAnyH_take (i := 11) (v := ?_) rfl (by kernel_rfl) (by kernel_rfl) (by kernel_rfl) (fun _ _ _ h => h) (Or.inl ⟨by rfl, ?_⟩) trivial ?_
       rotate_left
       ·(intro w hSw; (try dsimp only at hSw); go_simp) <;> with_reducible rfl
       (try simp only [Act.put, lA, lB, lC])
       refine rdH (i := 12) (by kernel_rfl) rfl fun K hK => ?_
       go_simp
       refine hK.out _ _ trivial (fun _ => ?_)
       clear hK K
       (try simp only [Act.put, lA, lB, lC])
       refine rdH (i := 13) (by kernel_rfl) rfl fun K hK => ?_
       go_simp
       refine hK.out _ _ trivial (fun _ => ?_)
       clear hK K
       (try simp only [Act.put, lA, lB, lC])
       refine wpAnyH_done (by kernel_rfl) ?_ _
       go_wp2
       go_meet
       exact openJ_mk (by first | exact ew3 | omega) HQ5.out HQ7.out HD.out HQ10.out HG10.out
     ·go_simp
      refine (pnew_any D.n _ (by omega)).mono ?_
      rintro e y10 ⟨A10, c10, rfl, hp10, hg10, hn10⟩
      refine hK.out _ _ trivial (fun _ => ?_)
      clear hK K
      (try simp only [Act.put, lA, lB, lC])
      have HQ7 := Lib.hid (HQ7.out.grew hg10)
      have HLT7 := Lib.hid (Nat.lt_of_lt_of_le HLT7.out hg10.size)
      have HQ10 := Lib.hid (show NewPool w1 y10 (y7).heap.size D.n A10 c10 from ⟨hp10, fun j hj => Nat.le_trans HG7.out.size (hn10 j hj)⟩)
      have HG10 := Lib.hid (Grew.trans HG7.out hg10)
      clear hp10 hg10 hn10
      clear hr5 hB5 hG5 hs5 y5
      obtain ⟨y5, hr5, hB5, hG5, hs5⟩ := make_ints (tabN D.n D.sz) (y10) (by omega)
      refine wpAnyH_ready (rs := [5]) (by kernel_rfl) (by simp) ?_
      refine (AllReadyH.cons rfl (fun K hK => ?_) AllReadyH.nil)
      ·go_simp
       refine hK.out _ _ trivial (fun _ => ?_)
       clear hK K
       (try simp only [Act.put, lA, lB, lC])
       have HQ7 := Lib.hid (HQ7.out.grew hG5)
       have HQ10 := Lib.hid (HQ10.out.grew hG5)
       have HQ5 := Lib.hid (show NewInts w1 y5 (y10).heap.size (tabN D.n D.sz) from ⟨hB5, HG10.out.size⟩)
       have HD := Lib.hid (show (y10).heap.size ≠ (w1.drew).heap.size from Ne.symm (Nat.ne_of_lt HLT7.out))
       have HG5 := Lib.hid (Grew.trans HG10.out hG5)
       clear hr5 hB5 hG5 hs5
       refine wpAnyH_take (i := 11) (v := ?_) rfl (by kernel_rfl) (by kernel_rfl) (by kernel_rfl) (fun _ _ _ h => h) (Or.inl ⟨by rfl, ?_⟩) trivial ?_
       rotate_left
       ·(intro w hSw; (try dsimp only at hSw); go_simp) <;> with_reducible rfl
       (try simp only [Act.put, lA, lB, lC])
       refine rdH (i := 12) (by kernel_rfl) rfl fun K hK => ?_
       go_simp
       refine hK.out _ _ trivial (fun _ => ?_)
       clear hK K
       (try simp only [Act.put, lA, lB, lC])
       refine rdH (i := 13) (by kernel_rfl) rfl fun K hK => ?_
       go_simp
       refine hK.out _ _ trivial (fun _ => ?_)
       clear hK K
       (try simp only [Act.put, lA, lB, lC])
       refine wpAnyH_done (by kernel_rfl) ?_ _
       go_wp2
       go_meet
       exact openJ_mk (by first | exact ew3 | omega) HQ5.out HQ7.out HD.out HQ10.out HG5.out
   ·go_simp
    refine hK.out _ _ trivial (fun _ => ?_)
    clear hK K
    (try simp only [Act.put, lA, lB, lC])
    have HQ7 := Lib.hid (HQ7.out.grew hG5)
    have HQ5 := Lib.hid (show NewInts w1 y5 (y7).heap.size (tabN D.n D.sz) from ⟨hB5, HG7.out.size⟩)
    have HD := Lib.hid (show (y7).heap.size ≠ (w1.drew).heap.size from Ne.symm (Nat.ne_of_lt HLT7.out))
    have HG5 := Lib.hid (Grew.trans HG7.out hG5)
    clear hr5 hB5 hG5 hs5
    refine wpAnyH_ready (rs := [2]) (by kernel_rfl) (by simp) ?_
    refine (AllReadyH.cons rfl (fun K hK => ?_) AllReadyH.nil)
    ·go_simp
     refine (dsize_any d F D _ (H.out.1.grew (Grew.trans HG1.out HG5.out))).mono ?_
     rintro e u2 ⟨rfl, rfl⟩
     refine hK.out _ _ trivial (fun _ => ?_)
     clear hK K
     (try simp only [Act.put, lA, lB, lC])
     refine wpAnyH_take (i := 3) (v := ?_) rfl (by kernel_rfl) (by kernel_rfl) (by kernel_rfl) (fun _ _ _ h => h) (Or.inl ⟨by rfl, ?_⟩) trivial ?_
     rotate_left
     ·(intro w hSw; (try dsimp only at hSw); go_simp) <;> with_reducible rfl
     (try simp only [Act.put, lA, lB, lC])
     refine wpAnyH_ready (rs := [9]) (by kernel_rfl) (by simp) ?_
     refine (AllReadyH.cons rfl (fun K hK => ?_) AllReadyH.nil)
     ·go_simp
      refine (dsectors_any d F D _ (H.out.1.grew (Grew.trans HG1.out HG5.out))).mono ?_
      rintro e u2 ⟨rfl, rfl⟩
      refine hK.out _ _ trivial (fun _ => ?_)
      clear hK K
      (try simp only [Act.put, lA, lB, lC])
      refine wpAnyH_ready (rs := [10]) (by kernel_rfl) (by simp) ?_
      refine (AllReadyH.cons rfl (fun K hK => ?_) AllReadyH.nil)
      ·go_simp
       refine (pnew_any D.n _ (by omega)).mono ?_
       rintro e y10 ⟨A10, c10, rfl, hp10, hg10, hn10⟩
       refine hK.out _ _ trivial (fun _ => ?_)
       clear hK K
       (try simp only [Act.put, lA, lB, lC])
       have HQ7 := Lib.hid (HQ7.out.grew hg10)
       have HQ5 := Lib.hid (HQ5.out.grew hg10)
       have HQ10 := Lib.hid (show NewPool w1 y10 (y5).heap.size D.n A10 c10 from ⟨hp10, fun j hj => Nat.le_trans HG5.out.size (hn10 j hj)⟩)
       have HG10 := Lib.hid (Grew.trans HG5.out hg10)
       clear hp10 hg10 hn10
       refine wpAnyH_take (i := 11) (v := ?_) rfl (by kernel_rfl) (by kernel_rfl) (by kernel_rfl) (fun _ _ _ h => h) (Or.inl ⟨by rfl, ?_⟩) trivial ?_
       rotate_left
       ·(intro w hSw; (try dsimp only at hSw); go_simp) <;> with_reducible rfl
       (try simp only [Act.put, lA, lB, lC])
       refine rdH (i := 12) (by kernel_rfl) rfl fun K hK => ?_
       go_simp
       refine hK.out _ _ trivial (fun _ => ?_)
       clear hK K
       (try simp only [Act.put, lA, lB, lC])
       refine rdH (i := 13) (by kernel_rfl) rfl fun K hK => ?_
       go_simp
       refine hK.out _ _ trivial (fun _ => ?_)
       clear hK K
       (try simp only [Act.put, lA, lB, lC])
       refine wpAnyH_done (by kernel_rfl) ?_ _
       go_wp2
       go_meet
       exact openJ_mk (by first | exact ew3 | omega) HQ5.out HQ7.out HD.out HQ10.out HG10.out
 case rest =>
  obtain ⟨p, g1, g2, b, A, c, rfl, hO⟩ := hcut
  have HO := Lib.hid hO
  obtain ⟨c0, f0, s0⟩ := hO.blk.facts
  clear hO
  have hdF : ∀ u, Chg (PF b A) wc u → DS u d F D := fun u hu => ((H.out.1.grew HG1.out).grew HO.out.grew).chg hu fun j hj e => by
   have h1 := H.out.1.lt j hj
   have h2 := HO.out.pool.new j e
   have h3 := HG1.out.size
   omega
  have hkeep : ∀ u, Chg (PF b A) wc u → Blk u p 101 #[.pointer (some ⟨d, 0, none⟩), .int .i64 0, .int .i64 (D.sz / 2 : Nat), .slice (some ⟨g1, 0, none⟩) (tabN D.n D.sz) (tabN D.n D.sz), .slice (some ⟨g2, 0, none⟩) (capN D.n D.sz) (capN D.n D.sz), .pointer (some ⟨b, 0, none⟩), .pointer none, .bool false] := fun u hu =>
   HO.out.blk.chg hu (pf_ne HO.out.pool.p HO.out.blk (by decide) (by decide))
  have HD := Lib.hid hdF
  have HK := Lib.hid hkeep
  have HX := Lib.hid (show D.n ≤ 65536 by omega)
  clear hdF hkeep
  go_wp2
  go_loopw [41] (fun i wr => ∃ k : Nat, k ≤ 2 ∧ i = .int .i64 k ∧ PIn wr b (mkd D.n k) A c ∧ Chg (PF b A) wc wr) (fun i _ => 2 - (intOf i).toNat)
  case atStart => exact ⟨0, Nat.zero_le _, rfl, HO.out.pool.p, Chg.refl _ _⟩
  case round =>
   obtain ⟨k, hk, rfl, hp, hc⟩ := hrel
   have HP := Lib.hid (And.intro hp hc)
   obtain ⟨c1, f1, s1⟩ := (HK.out wr hc).facts
   clear c0 f0 s0 hp hc
   by_cases hlt : k < 2
   ·go_wp2_with (go_at_call 80; (refine (pmark_any b k _ A c _ HP.out.1 (by rw [mkd_len]; exact HX.out)).mono ?_); rintro e w3 ⟨rfl, h3, h4⟩; have H3 := Lib.hid (And.intro h3 h4); clear h3 h4)
    have H4 := Lib.hid (show PIn w3 b (mkd D.n (k + 1)) A c from by have := H3.out.1; rw [mkd_mark D.n k (by omega)] at this; exact this)
    exact ⟨⟨k + 1, by omega, by simp, H4.out, Chg.trans HP.out.2 H3.out.2 fun _ _ e => e⟩, by simp [intOf]; omega⟩
   ·obtain rfl : k = 2 := by omega
    go_wp2_with (go_at_call 81; (refine (load_none d F D _ (HD.out _ HP.out.2) hd (by omega) (by omega) H.out.2.2.1 H.out.2.2.2).mono ?_); rintro e w4 ⟨rfl, h4⟩; have H4 := Lib.hid h4; clear h4)
    go_ret2
    have hg : Grew w1 w4 := Grew.trans (Chg.trans HO.out.grew HP.out.2 fun i hi e => by have := HO.out.pool.new i e; omega) H4.out
    have hsz := HG1.out.size
    obtain ⟨F', hF, hnew⟩ := gfresh_mk (w0 := w1) ((H.out.1.grew HG1.out).grew hg) (fun j hj => Nat.lt_of_lt_of_le (H.out.1.lt j hj) hsz) h0 (Nat.lt_of_lt_of_le (tab_pos H.out.2.1) hsz) (tab_chg (tab_chg H.out.2.1 HG1.out id) hg id) hsm.2.1
     ((HK.out _ HP.out.2).grew H4.out) ((HO.out.t1.blk.chg HP.out.2 (pf_ne HO.out.pool.p HO.out.t1.blk (by decide) (by decide))).grew H4.out) ((HO.out.t2.blk.chg HP.out.2 (pf_ne HO.out.pool.p HO.out.t2.blk (by decide) (by decide))).grew H4.out) HO.out.ne (HP.out.1.grew H4.out)
     HO.out.new HO.out.t1.new HO.out.t2.new HO.out.pool.new
    exact ⟨p, F', rfl, hF.grew ((Chg.refl _ _).alloc _), (Grew.trans HG1.out hg).alloc _, fun j hj => (hnew j hj).imp id fun e => Nat.le_trans hsz e⟩

end Go.Proofs.YtpkkcicaeldodaaGreatDoor

namespace Go.Proofs.YtpkkcicaeldodaaGreatDoor
open Go.RowKit Go.Maps

def Rp.fresh (n sz : Nat) : Rp := { n := n, sz := sz, now := List.replicate (capN n sz) .no, was := none, touched := fun _ => false, epoch := 0 }
theorem rootL_zeros {ep m : Nat} {pg : List Nat} {sz : Nat} (h1 : 1 ≤ ep) (h2 : ep ≤ 1099511627776) (he : List.replicate m 0 = rootL ep pg sz) : False := by
 have hz : ∀ x ∈ tail8 ep, x = 0 := fun x hx => by
  have : x ∈ rootL ep pg sz := List.mem_append_right _ hx
  rw [← he] at this
  exact (List.mem_replicate.1 this).2
 have e0 := hz ((ep / 1099511627776 % 256 : Nat) : Int) (by simp [tail8])
 have e1 := hz ((ep / 4294967296 % 256 : Nat) : Int) (by simp [tail8])
 have e2 := hz ((ep / 16777216 % 256 : Nat) : Int) (by simp [tail8])
 have e3 := hz ((ep / 65536 % 256 : Nat) : Int) (by simp [tail8])
 have e4 := hz ((ep / 256 % 256 : Nat) : Int) (by simp [tail8])
 have e5 := hz ((ep % 256 : Nat) : Int) (by simp [tail8])
 omega
theorem rep_at {n i s : Nat} (h : (List.replicate n 0)[i]? = some s) : s = 0 := by
 rw [List.getElem?_replicate] at h
 split at h <;> simp at h
 exact h.symm
theorem rep_getD (n i : Nat) : (List.replicate n 0).getD i 0 = 0 := by
 rw [List.getD_eq_getElem?_getD]
 cases h : (List.replicate n 0)[i]? with
 | none => rfl
 | some s => rw [rep_at h]; rfl
theorem Gp.fresh_ok (n sz : Nat) (D : Dk) (hD : D = ⟨n, sz, fun _ => List.replicate sz 0, fun _ => none, false, 0, false, 0⟩) (h : 8 ≤ n ∧ n ≤ 4096 ∧ 64 ≤ sz ∧ sz ≤ 4096) : (Gp.fresh D).Ok ∧ (Gp.fresh D).view = Rp.fresh n sz := by
 subst hD
 have hm : ∀ s, s < n → (mkd n 2).getD s false = decide (2 ≤ s) := fun s hs => by rw [mkd_at n 2 s (by omega)]; simp [hs]
 have hcap : capN n sz ≤ 4096 := by unfold capN; split <;> omega
 refine ⟨⟨⟨h, ⟨mkd_len n 2, by simp [Gp.fresh], by simp [Gp.fresh], by simp [Gp.fresh, Gp.old]⟩, fun i s hi => ?_, fun k s hk h0 => absurd (rep_at hk) h0, fun i j s hi _ h2 => ?_, fun i j s hi _ h0 => absurd (rep_at hi) h0, fun k i s hk _ => ?_, fun s hs => ?_, fun s hs => ?_, fun i s hi h2 => ?_, fun i j s hi _ h2 => ?_, ⟨List.nodup_nil, fun s => ?_⟩, fun i hi => absurd rfl hi, fun k hk => ?_, ?_, fun s _ _ => rfl, ⟨fun e => ?_, fun i e' pg' _ hg _ hr => ?_, fun _ s hs => (List.mem_replicate.1 hs).2, fun k _ i _ => rep_getD _ _, fun k s hk h0 => absurd (rep_at hk) h0, fun k s hk h0 => absurd (rep_at hk) h0⟩, fun s _ x hx => ?_, Nat.zero_le _⟩, rfl, ⟨rfl, rfl, rfl⟩⟩, ?_⟩
 ·have := rep_at hi; show s < n; omega
 ·have := rep_at hi; omega
 ·have := rep_at hk; omega
 ·show (mkd n 2).getD s false = false ↔ _
  rw [hm s hs]
  constructor
  ·intro e; left; simpa using e
  ·rintro (e | ⟨k, e⟩ | ⟨k, e⟩ | e)
   ·simpa using e
   ·have := rep_at e; simp; omega
   ·have := rep_at e; simp; omega
   ·simp [Gp.fresh, Gp.fr] at e
 ·simp [Gp.fresh, Gp.fr] at hs
 ·have := rep_at hi; omega
 ·have := rep_at hi; omega
 ·simp only [Gp.fresh, Gp.lf, List.not_mem_nil, false_iff, not_and, not_exists]
  rintro h2 i hi
  have := rep_at hi
  omega
 ·simp [Gp.fresh, Gp.tc] at hk
 ·rw [show (Gp.fresh _).tc = fun _ => false from rfl, show cntN (fun _ => false) 64 = 0 from cntN_false fun _ _ => rfl]
  exact Nat.zero_le _
 ·simp [Gp.fresh] at e
 ·exact (rootL_zeros hg.1 hg.2.1 (show List.replicate sz 0 = _ from hr)).elim
 ·have : x = 0 := (List.mem_replicate.1 (show x ∈ List.replicate sz 0 from hx)).2
  omega
 ·simp [Gp.view, Rp.fresh, Gp.fresh, Gp.fr, Gp.tc, pk]

theorem gp_open_new (n sz d : Nat) (F : Nat → Prop) (w : World) (h : DS w d F ⟨n, sz, fun _ => List.replicate sz 0, fun _ => none, false, 0, false, 0⟩) (hT : TabAt 0 tab w) (h0 : ¬ F 0) (hn : 8 ≤ n) (hz : 64 ≤ sz) :
  Calls Tryz.prog 33 #[.pointer (some ⟨d, 0, none⟩)] w fun e w' => ∃ p F', e = .returned (.tuple #[.pointer (some ⟨p, 0, none⟩), .int .i64 0]) ∧ GP w' p F' (Rp.fresh n sz) ∧ Grew w w' ∧ ∀ j, F' j → F j ∨ w.heap.size ≤ j := by
 have hs := h.sml
 have hsz : 64 ≤ sz ∧ sz ≤ 4096 := ⟨hz, hs.2.2.2⟩
 have hnn : n ≤ 4096 := hs.2.1
 have hfo := Gp.fresh_ok n sz _ rfl ⟨hn, hnn, hsz⟩
 refine (gopen_new d F _ w h rfl hT h0 hn hz (fun i _ => ?_) (fun i _ x hx => ?_)).mono ?_
 ·show partL (List.take (sz - 8) (List.replicate sz 0)) = none
  rw [List.take_replicate, Nat.min_eq_left (by omega)]
  exact part_zeros _ (by omega) (by omega)
 ·have : x = 0 := (List.mem_replicate.1 (show x ∈ List.replicate sz 0 from hx)).2
  omega
 ·rintro e w' ⟨p, F', rfl, h1, h2, h3⟩
  exact ⟨p, F', rfl, ⟨_, h1, hfo.1, hfo.2⟩, h2, h3⟩

end Go.Proofs.YtpkkcicaeldodaaGreatDoor

namespace Go.Proofs.YtpkkcicaeldodaaGreatDoor
open Go.RowKit Go.Maps

def Rp.opened (n sz : Nat) : Rp := (Rp.fresh n sz).begun
def Rp.tree0 (n sz r : Nat) : Rp := ((Rp.opened n sz).put r .zero).put r (.new (ndL nd0 sz))
def FrOut (w w' : World) (n sz : Nat) (e : Ending) : Prop :=
 ∃ t p d r F, e = .returned (.tuple #[.pointer (some ⟨t, 0, none⟩), .pointer (some ⟨p, 0, none⟩), .pointer (some ⟨d, 0, none⟩)]) ∧ r < capN n sz ∧ BT w' t p r F (Rp.tree0 n sz r) ∧ Grew w w' ∧ (∀ j, F j → w.heap.size ≤ j) ∧ w.heap.size ≤ t
set_option maxRecDepth 100000 in
set_option maxHeartbeats 1600000 in
theorem bfresh_any (n sz : Nat) (w : World) (hT : TabAt 0 tab w) (h1 : 8 ≤ n) (h2 : n ≤ 4096) (h3 : 64 ≤ sz) (h4 : sz ≤ 4096) (hs : 1 ≤ (Rp.opened n sz).slack) (hc : 0 < capN n sz) :
  Calls Tryz.prog 10 #[.int .i64 n, .int .i64 sz] w fun e w' => FrOut w w' n sz e := by
 have H := Lib.hid (And.intro hT (And.intro hs hc))
 clear hT hs hc
 go_enter Tryz.func10, Tryz.ntmps10
 go_wp2_with fail
 refine (dnew_any n sz _ (by omega) h2 (by omega) h4).mono ?_
 rintro e w1 ⟨d, F1, rfl, hd, hg1, hn1⟩
 have hT1 := tab_chg H.out.1 hg1 id
 have hF0 : ¬ F1 0 := fun e => by have := hn1 0 e; have := tab_pos H.out.1; omega
 have H1 := Lib.hid (And.intro hd (And.intro hg1 (And.intro hn1 (And.intro hT1 hF0))))
 clear hd hg1 hn1 hT1 hF0
 go_wp2_with fail
 refine (gp_open_new n sz d F1 w1 H1.out.1 H1.out.2.2.2.1 H1.out.2.2.2.2 h1 h3).mono ?_
 rintro e w2 ⟨p, F2, rfl, hp, hg2, hn2⟩
 have H2 := Lib.hid (And.intro hp (And.intro (Grew.trans H1.out.2.1 hg2) (fun j hj => show w.heap.size ≤ j from (hn2 j hj).elim (H1.out.2.2.1 j) fun e => Nat.le_trans H1.out.2.1.size e)))
 clear hp hg2 hn2
 go_wp2_with fail
 refine (gp_begin p F2 _ w2 H2.out.1 rfl).mono ?_
 rintro e w3 ⟨rfl, F3, k1, k2, k3⟩
 have hg3 : Grew w w3 := Chg.trans H2.out.2.1 k2 fun i hi e => by have := H2.out.2.2 i e; omega
 have hn3 : ∀ j, F3 j → w.heap.size ≤ j := fun j hj => (k3 j hj).elim (H2.out.2.2 j) fun e => Nat.le_trans H2.out.2.1.size e
 have hcap := H.out.2.2
 have hno : Pk.no ∈ (Rp.opened n sz).now := by
  simp only [Rp.opened, Rp.begun, Rp.fresh]
  exact List.mem_replicate.2 ⟨by omega, rfl⟩
 have hnw := bnew_any p F3 (Rp.opened n sz) w3 k1 (by simp [Rp.opened, Rp.begun]) H.out.2.1 hno
 have H3 := Lib.hid (And.intro hnw (And.intro hg3 hn3))
 clear k1 k2 k3 hg3 hn3 hno hnw hcap
 go_wp2_with fail
 refine H3.out.1.mono ?_
 rintro e w4 ⟨t, r, F4, rfl, hr, hb, hc4, hn4, ht⟩
 have hsz3 := H3.out.2.1.size
 have H4 := Lib.hid (And.intro hr (And.intro hb (And.intro (show Grew w w4 from Chg.trans H3.out.2.1 hc4 fun i hi e => by have := H3.out.2.2 i e; omega) (And.intro (fun j hj => show w.heap.size ≤ j from (hn4 j hj).elim (H3.out.2.2 j) fun e => by omega) (show w.heap.size ≤ t by omega)))))
 clear hr hb hc4 hn4 ht hsz3
 go_wp2_with fail
 refine bodyPost_ret (v := .tuple #[.pointer (some ⟨t, 0, none⟩), .pointer (some ⟨p, 0, none⟩), .pointer (some ⟨d, 0, none⟩)]) (by simp [results, Tryz.results10, go_sem]) rfl ?_
 refine ⟨t, p, d, r, F4, rfl, ?_, H4.out.2.1, H4.out.2.2.1, H4.out.2.2.2.1, H4.out.2.2.2.2⟩
 have := (List.getElem?_eq_some_iff.1 H4.out.1).1
 simpa [Rp.opened, Rp.begun, Rp.fresh] using this

theorem tree0_tr {n sz r : Nat} (hr : r < capN n sz) (hz : sz ≤ 4096) : Tr (Rp.tree0 n sz r).nd (halfN sz) 0 r [] [r] := by
 refine ⟨nd0, ?_, rfl, rfl, Nat.zero_le _, rfl, rfl⟩
 have hl : r < ((Rp.opened n sz).put r .zero).now.length := by rw [Rp.put_len]; simpa [Rp.opened, Rp.begun, Rp.fresh] using hr
 exact Rp.nd_new (nd0_fit _) hl hz
theorem tree0_used {n sz r : Nat} (hr : r < capN n sz) : (Rp.tree0 n sz r).now.countP Pk.used = 1 := by
 have hl : r < (Rp.opened n sz).now.length := by simpa [Rp.opened, Rp.begun, Rp.fresh] using hr
 have h0 : (Rp.opened n sz).now[r]? = some .no := by
  simp only [Rp.opened, Rp.begun, Rp.fresh] at hl ⊢
  rw [List.getElem?_eq_getElem hl, List.getElem_replicate]
 have h1 := Rp.put_used (c := .zero) h0
 have h2 := Rp.put_used (x := (Rp.opened n sz).put r .zero) (c := .new (ndL nd0 sz)) (c0 := .zero) (i := r) (by rw [Rp.put_at hl, if_pos rfl])
 have h3 : (Rp.opened n sz).now.countP Pk.used = 0 := by
  simp only [Rp.opened, Rp.begun, Rp.fresh]
  rw [List.countP_replicate]
  simp [Pk.used]
 simp [Pk.used] at h1 h2
 unfold Rp.tree0
 rw [h2, h1, h3]
end Go.Proofs.YtpkkcicaeldodaaGreatDoor

namespace Go.Proofs.YtpkkcicaeldodaaGreatDoor
open Go.RowKit Go.Maps

def Rp.roomy (x : Rp) (K : Nat) : Prop := x.was ≠ none ∧ (K : Int) + 1 ≤ x.slack + x.now.countP Pk.isNew ∧ K < x.now.length
theorem Rp.like.vol {x y : Rp} (h : x.like y) (hw : x.was ≠ none) : y.slack + y.now.countP Pk.isNew = x.slack + x.now.countP Pk.isNew := by
 have hb : y.base = x.base := by
  unfold Rp.base
  rw [h.was]
  cases hx : x.was with
  | none => exact absurd hx hw
  | some b => rfl
 unfold Rp.slack Rp.free
 rw [hb, h.n, h.sz]
 omega
theorem new_used (l : List Pk) : l.countP Pk.isNew ≤ l.countP Pk.used := List.countP_mono_left fun c _ h => by cases c <;> simp_all [Pk.isNew, Pk.used]
theorem no_mem {l : List Pk} (h : l.countP Pk.used < l.length) : Pk.no ∈ l := by
 refine Classical.byContradiction fun hn => ?_
 have : l.countP Pk.used = l.length := List.countP_eq_length.2 fun c hc => by
  cases c with
  | no => exact absurd hc hn
  | _ => rfl
 omega
theorem never_full {x z : Rp} {K : Nat} (hr : x.roomy K) (hl : x.like z) (hu : z.now.countP Pk.used ≤ K) : 1 ≤ z.slack ∧ Pk.no ∈ z.now := by
 have h1 := hl.vol hr.1
 have h2 := new_used z.now
 have h3 := hl.len
 exact ⟨by have := hr.2.1; omega, no_mem (by have := hr.2.2; omega)⟩
def PuOk (w w' : World) (t p root : Nat) (F : Nat → Prop) (x0 : Rp) (k v : Int) (L : List KV) (e : Ending) : Prop :=
 e = .returned (.int .i64 0) ∧ ∃ y F' D P, BT w' t p root F' y ∧ Rch F F' w w' ∧ x0.like y ∧ TS y D root (putL L k v) P
theorem put_sure {w w' : World} {t p root D K : Nat} {F : Nat → Prop} {x0 x : Rp} {k v : Int} {L : List KV} {P : List Nat} {e : Ending} (h : PuOut w w' t p root F x D k v L e) (hr : x0.roomy K) (hl : x0.like x) (hs : TS x D root L P) (hh : 2 ≤ halfN x.sz) (hK : L.length + D + 5 ≤ K) : PuOk w w' t p root F x0 k v L e := by
 rcases h with ⟨rfl, y, F', D', P', h1, h2, h3, h4⟩ | ⟨rfl, z, -, h2, h3, h4⟩
 ·exact ⟨rfl, y, F', D', P', h1, h2, hl.trans h3, h4⟩
 ·exact absurd (never_full hr (hl.trans h2) (by have := hs.used; have := hs.tr.pages hh; omega)) h4
theorem TS.depth2 {x : Rp} {D root : Nat} {L : List KV} {P : List Nat} (h : TS x D root L P) (hh : 2 ≤ halfN x.sz) (hl : L.length ≤ 2) : D = 0 := by
 rcases h.tr.deep hh with e | e
 ·exact e
 ·by_cases hD : D = 0
  ·exact hD
  ·have : 2 ^ 2 ≤ 2 ^ (D + 1) := Nat.pow_le_pow_right (by omega) (by omega)
   omega
theorem tree0_ts {n sz r : Nat} (hr : r < capN n sz) (hz : sz ≤ 4096) : TS (Rp.tree0 n sz r) 0 r [] [r] := ⟨tree0_tr hr hz, by simp, List.Pairwise.nil, tree0_used hr⟩
theorem tree0_like {n sz r : Nat} : (Rp.opened n sz).like (Rp.tree0 n sz r) := (Rp.put_like _ _ _).trans (Rp.put_like _ _ _)
theorem opened12 : (Rp.opened 12 64).slack = 9 ∧ capN 12 64 = 10 ∧ (Rp.opened 12 64).now.countP Pk.isNew = 0 := ⟨by kernel_rfl, by kernel_rfl, by kernel_rfl⟩
theorem opened400 : (Rp.opened 400 64).slack = 385 ∧ capN 400 64 = 398 ∧ (Rp.opened 400 64).now.countP Pk.isNew = 0 := ⟨by kernel_rfl, by kernel_rfl, by kernel_rfl⟩
theorem opened_len (n sz : Nat) : (Rp.opened n sz).now.length = capN n sz := by simp [Rp.opened, Rp.begun, Rp.fresh]
theorem roomy12 : (Rp.opened 12 64).roomy 7 := ⟨by simp [Rp.opened, Rp.begun], by rw [opened12.1, opened12.2.2]; omega, by rw [opened_len, opened12.2.1]; omega⟩
theorem roomy400 : (Rp.opened 400 64).roomy 380 := ⟨by simp [Rp.opened, Rp.begun], by rw [opened400.1, opened400.2.2]; omega, by rw [opened_len, opened400.2.1]; omega⟩
end Go.Proofs.YtpkkcicaeldodaaGreatDoor

namespace Go.Proofs.YtpkkcicaeldodaaGreatDoor
open Go.RowKit Go.Maps

structure Trop where
 kind : Int
 key : Int
 val : Int
 deriving DecidableEq
def Trop.vals (x : Trop) : List Value := [.int .i64 x.kind, .int .i64 x.key, .int .i64 x.val]
theorem Trop.vals_len (l : List Trop) : (l.flatMap Trop.vals).length = l.length * 3 := by
 induction l with
 | nil => rfl
 | cons x l ih => rw [List.flatMap_cons, List.length_append, ih, List.length_cons]; simp only [Trop.vals, List.length_cons, List.length_nil]; omega
theorem Trop.vals_at (l : List Trop) : ∀ (k : Nat) (x : Trop), l[k]? = some x → ∀ j, j < 3 → (l.flatMap Trop.vals)[k * 3 + j]? = x.vals[j]? := by
 induction l with
 | nil => intro k x h; simp at h
 | cons y l ih =>
  intro k x h j hj
  cases k with
  | zero =>
   simp only [List.getElem?_cons_zero, Option.some.injEq] at h
   subst h
   rw [List.flatMap_cons, Nat.zero_mul, Nat.zero_add, List.getElem?_append_left (by simp [Trop.vals]; omega)]
  | succ k =>
   simp only [List.getElem?_cons_succ] at h
   rw [List.flatMap_cons, List.getElem?_append_right (by simp [Trop.vals]; omega)]
   rw [← ih k x h j hj]
   congr 1
   simp [Trop.vals]
   omega
theorem Sl.atTrop {w : World} {A : Option Addr} {l : List Trop} (h : Sl w 3 A l.length (l.flatMap Trop.vals)) {k : Nat} {x : Trop} (hx : l[k]? = some x) :
  ∃ b off, A = some ⟨b, off, none⟩ ∧ b < w.heap.size ∧ w.cell? ⟨b, off + k * 3, none⟩ = some (.int .i64 x.kind) ∧ w.cell? ⟨b, off + k * 3 + 1, none⟩ = some (.int .i64 x.key) ∧ w.cell? ⟨b, off + k * 3 + 2, none⟩ = some (.int .i64 x.val) := by
 have hk : k < l.length := (List.getElem?_eq_some_iff.1 hx).1
 obtain ⟨b, off, hA, hb, hc⟩ := h.2 (by omega)
 have hv := Trop.vals_at l k x hx
 refine ⟨b, off, hA, hb, ?_, ?_, ?_⟩
 ·have := hc (k * 3 + 0) (.int .i64 x.kind) ((hv 0 (by omega)).trans rfl)
  simpa [Nat.add_assoc] using this
 ·have := hc (k * 3 + 1) (.int .i64 x.key) ((hv 1 (by omega)).trans rfl)
  simpa [Nat.add_assoc] using this
 ·have := hc (k * 3 + 2) (.int .i64 x.val) ((hv 2 (by omega)).trans rfl)
  simpa [Nat.add_assoc] using this
theorem Trop.sl_mk {w : World} {b off : Nat} {l : List Trop} (hb : b < w.heap.size) (h : ∀ i r, l[i]? = some r → ∀ j u, r.vals[j]? = some u → w.cell? ⟨b, off + (i * 3 + j), none⟩ = some u) : Sl w 3 (some ⟨b, off, none⟩) l.length (l.flatMap Trop.vals) := by
 refine ⟨Trop.vals_len l, fun _ => ⟨b, off, rfl, hb, fun j u hu => ?_⟩⟩
 have hj : j < l.length * 3 := by
  rw [← Trop.vals_len l]; exact (List.getElem?_eq_some_iff.1 hu).1
 have hi : j / 3 < l.length := by omega
 have hr : l[j / 3]? = some l[j / 3] := List.getElem?_eq_getElem hi
 have he : j = j / 3 * 3 + j % 3 := by omega
 have hv := Trop.vals_at l (j / 3) _ hr (j % 3) (by omega)
 rw [← he, hu] at hv
 have := h (j / 3) _ hr (j % 3) u hv.symm
 rwa [← he] at this
def Trop.ok (x : Trop) : Prop := -9223372036854775808 ≤ x.kind ∧ x.kind ≤ 9223372036854775807 ∧ -9223372036854775808 ≤ x.key ∧ x.key ≤ 9223372036854775807 ∧ -9223372036854775808 ≤ x.val ∧ x.val ≤ 9223372036854775807
def stL (L : List KV) (o : Trop) : List KV := if o.kind = 1 then putL L o.key o.val else if o.kind = 2 then delL L o.key else L
theorem del_sure {w w' : World} {t p root D K : Nat} {F : Nat → Prop} {x0 x : Rp} {k : Int} {L : List KV} {P : List Nat} {e : Ending} (h : DeOut w w' t p root F x L k e) (hb : BT w t p root F x) (hr : x0.roomy K) (hl : x0.like x) (hs : TS x D root L P) (hh : 2 ≤ halfN x.sz) (hK : L.length + 1 ≤ K) :
  ∃ y F' D' P', BT w' t p root F' y ∧ Rch F F' w w' ∧ x0.like y ∧ TS y D' root (delL L k) P' ∧ ((e = .returned (.int .i64 0) ∧ ∃ v, getK L k = some v) ∨ (e = .returned (.int .i64 14) ∧ getK L k = none)) := by
 rcases h with ⟨rfl, h0, y, F', D', P', h1, h2, h3, h4⟩ | ⟨rfl, h1, h2, h3⟩ | ⟨rfl, z, -, h2, h3, h4⟩
 ·exact ⟨y, F', D', P', h1, h2, hl.trans h3, h4, .inl ⟨rfl, h0⟩⟩
 ·refine ⟨x, F, D, P, h2, ⟨h3, fun j e => .inl e⟩, hl, ?_, .inr ⟨rfl, h1⟩⟩
  have e : delL L k = L := delL_free fun y hy e => by
   unfold getK at h1
   rw [Option.map_eq_none_iff, List.find?_eq_none] at h1
   exact h1 y hy (by simpa using e)
  rw [e]
  exact hs
 ·exact absurd (never_full hr (hl.trans h2) (by have := hs.used; have := hs.tr.pages hh; omega)) h4
theorem fd_some {L : List KV} {k r : Int} (hs : Srt L) (h : FdOut L k r) : (∃ (i : Nat) (v : Int), r = i ∧ L[i]? = some (k, v) ∧ getK L k = some v) ∨ (r = -1 ∧ getK L k = none) := by
 rcases h with ⟨i, x, rfl, h1, h2⟩ | ⟨rfl, h1⟩
 ·left
  obtain ⟨a, b⟩ := x
  simp only at h2
  subst h2
  exact ⟨i, b, rfl, h1, getK_mem hs (List.mem_of_getElem? h1)⟩
 ·exact .inr ⟨rfl, getK_none h1⟩
def StpOut (w w' : World) (t p root : Nat) (F : Nat → Prop) (x0 : Rp) (A : Option Addr) (R : List KV) (e : Ending) : Prop :=
 ∃ A' c' y F' D' P', e = .returned (.tuple #[.slice A' R.length c', .bool true]) ∧ BT w' t p root F' y ∧ Rch F F' w w' ∧ x0.like y ∧ TS y D' root R P' ∧ Sl w' 2 A' R.length (kvs2 R) ∧ ∀ a, A' = some a → ¬ F' a.block ∧ a.block < w'.heap.size ∧ (A = some a ∨ w.heap.size ≤ a.block)
set_option maxRecDepth 100000 in
set_option maxHeartbeats 6400000 in
theorem bstep_any (t p root D K c : Nat) (L : List KV) (P : List Nat) (F : Nat → Prop) (x0 x : Rp) (A : Option Addr) (o : Trop) (w : World) (hb : BT w t p root F x) (hr : x0.roomy K) (hx : x0.like x) (hs : TS x D root L P) (hl : L.length ≤ 1000) (hK : L.length + 15 ≤ K) (hok : o.ok) (hsl : Sl w 2 A L.length (kvs2 L)) (hA : ∀ a, A = some a → ¬ F a.block ∧ a.block < w.heap.size) :
  Calls Tryz.prog 15 #[.pointer (some ⟨t, 0, none⟩), .slice A L.length c, (.agg #[.int .i64 o.kind, .int .i64 o.key, .int .i64 o.val])] w fun e w' => StpOut w w' t p root F x0 A (stL L o) e := by
 obtain ⟨W0, hW0⟩ : ∃ W, w.alloc (.cells #[.int .i64 o.kind, .int .i64 o.key, .int .i64 o.val] 37) = W := ⟨_, rfl⟩
 have hg0 : Grew w W0 := hW0 ▸ (Chg.refl _ _).alloc _
 have hbx : Blk W0 w.heap.size 37 #[.int .i64 o.kind, .int .i64 o.key, .int .i64 o.val] := hW0 ▸ Blk.new w _ _
 have hz := hb.gp.szs
 have hh := half_two hz.2.2.1
 have hD := hs.depth hh hl
 have hw : x.was ≠ none := by rw [hx.was]; exact hr.1
 have hfd := xfind_any o.key L A c W0 (hsl.grew hg0) (by omega)
 have hz0 : W0.heap.size = w.heap.size + 1 := by subst hW0; simp
 have H := Lib.hid (And.intro hfd (And.intro (hb.grew hg0) (And.intro hr (And.intro hx (And.intro hs (And.intro hok (And.intro (hsl.grew hg0) (And.intro hA (And.intro hW0 (And.intro hg0 (And.intro hbx (And.intro hh (And.intro hw hb)))))))))))))
 have HF := Lib.hid hb.gp.lt
 have Hz := Lib.hid hz0
 clear hfd hb hr hx hs hok hsl hA hW0 hg0 hbx hz hh hw hz0
 go_enter Tryz.func15, Tryz.ntmps15
 go_wp2_with fail
 rw [H.out.2.2.2.2.2.2.2.2.1]
 refine H.out.1.mono ?_
 rintro e w1 ⟨r, rfl, hfo, rfl⟩
 obtain ⟨c0, f0, s0⟩ := H.out.2.2.2.2.2.2.2.2.2.2.1.facts
 have HFO := Lib.hid (fd_some H.out.2.2.2.2.1.srt hfo)
 clear hfo
 by_cases hk1 : o.kind = 1
 ·have hst : stL L o = putL L o.key o.val := by unfold stL; rw [if_pos hk1]
  have t1 : (o.kind == 1) = true := by simp [hk1]
  have hxp := xput_any o.key o.val L A c W0.drew (H.out.2.2.2.2.2.2.1.grew (Chg.refl NoF _).drew) (by omega) H.out.2.2.2.2.1.srt
  have HP := Lib.hid (And.intro hxp hst)
  have hd1 : (fun w' : World => w'.cell? ⟨w.heap.size, 1, none⟩ = some (.int .i64 o.key) ∧ w'.cell? ⟨w.heap.size, 2, none⟩ = some (.int .i64 o.val)) W0.drew := ⟨H.out.2.2.2.2.2.2.2.2.2.2.1.drew.cell 1, H.out.2.2.2.2.2.2.2.2.2.2.1.drew.cell 2⟩
  clear hxp hst hk1
  go_wp2_with fail
  refine wp_region_held_drew (S := fun w' => w'.cell? ⟨w.heap.size, 1, none⟩ = some (.int .i64 o.key) ∧ w'.cell? ⟨w.heap.size, 2, none⟩ = some (.int .i64 o.val)) (by kernel_rfl) hd1 (fun hHeld => ?_)
  refine Todo.out (is := [0, 1, 2, 3, 4, 6, 7, 8, 9, 10]) ?_
  repeat
   refine tkH (v := ?_) rfl (by kernel_rfl) (by kernel_rfl) (by kernel_rfl) (fun _ _ _ h => h) (Or.inl ⟨by rfl, ?_⟩) hHeld ?_
   rotate_left
   ·(intro w hSw; (try dsimp only at hSw); go_simp) <;> with_reducible rfl
   (try simp only [Act.put, lA, lB, lC, lD, lE, lF])
  refine Todo.fin ?_
  refine rdH (i := 5) (by kernel_rfl) rfl fun K hK => ?_
  go_simp
  refine HP.out.1.mono ?_
  rintro e w2 ⟨A2, c2, rfl, ho2, hg2⟩
  have hg02 : Grew W0 w2 := Grew.trans ((Chg.refl NoF _).drew) hg2
  have hb2 := H.out.2.1.grew hg02
  have hbx2 := H.out.2.2.2.2.2.2.2.2.2.2.1.grew hg02
  have hd2 : (fun w' : World => w'.cell? ⟨w.heap.size, 1, none⟩ = some (.int .i64 o.key) ∧ w'.cell? ⟨w.heap.size, 2, none⟩ = some (.int .i64 o.val)) w2 := ⟨hbx2.cell 1, hbx2.cell 2⟩
  have hpu := bput2_any t p root D o.key o.val L P F x w2 hb2 H.out.2.2.2.2.2.2.2.2.2.2.2.2.1 H.out.2.2.2.2.1 hl ⟨H.out.2.2.2.2.2.1.2.2.1, H.out.2.2.2.2.2.1.2.2.2.1⟩ ⟨H.out.2.2.2.2.2.1.2.2.2.2.1, H.out.2.2.2.2.2.1.2.2.2.2.2⟩
  have H2 := Lib.hid (And.intro hpu (And.intro ho2 (And.intro hg02 (And.intro hbx2 hg2))))
  clear hpu ho2 hg02 hb2 hbx2 hg2
  refine hK.out _ _ hd2 (fun _ => ?_)
  clear hK K
  (try simp only [Act.put, lA, lB, lC, lD, lE, lF])
  refine rdH (i := 11) (by kernel_rfl) rfl fun K hK => ?_
  go_simp
  refine H2.out.1.mono ?_
  rintro e w3 hpu
  obtain ⟨rfl, y, F', D', P', b1, b2, b3, b4⟩ := put_sure hpu H.out.2.2.1 H.out.2.2.2.1 H.out.2.2.2.2.1 H.out.2.2.2.2.2.2.2.2.2.2.2.1 (by omega)
  have hbl := H2.out.2.2.2.1.lt
  have hrch : Rch F F' w w3 := (Rch.grew (Grew.trans H.out.2.2.2.2.2.2.2.2.2.1 H2.out.2.2.1)).trans b2
  have hout : StpOut w w3 t p root F x0 A (stL L o) (.returned (.tuple #[.slice A2 (putL L o.key o.val).length c2, .bool true])) := by
   refine ⟨A2, c2, y, F', D', P', by rw [HP.out.2], b1, hrch, b3, by rw [HP.out.2]; exact b4, ?_, fun a ha => ?_⟩
   ·rw [HP.out.2]
    exact (Sl.of_own H2.out.2.1).chg b2.chg fun a ha e => by have h1 := (own_rng H2.out.2.1 a ha).1; have h2 := HF.out _ e; have := H.out.2.2.2.2.2.2.2.2.2.1.size; simp at h1; omega
   ·have h1 := own_rng H2.out.2.1 a ha
    have := b2.chg.size
    have h3 := H.out.2.2.2.2.2.2.2.2.2.1.size
    simp at h1
    exact ⟨fun e => (b2.new _ e).elim (fun e => by have := HF.out _ e; omega) fun e => by omega, by omega, .inr (by omega)⟩
  have hd3 : (fun w' : World => w'.cell? ⟨w.heap.size, 1, none⟩ = some (.int .i64 o.key) ∧ w'.cell? ⟨w.heap.size, 2, none⟩ = some (.int .i64 o.val)) w3 := by
   have h9 := H2.out.2.2.2.1.chg b2.chg fun e => by have := HF.out _ e; omega
   exact ⟨h9.cell 1, h9.cell 2⟩
  have HO := Lib.hid hout
  clear hout hrch b1 b2 b3 b4 hbl hpu
  refine hK.out _ _ hd3 (fun _ => ?_)
  clear hK K
  (try simp only [Act.put, lA, lB, lC, lD, lE, lF])
  refine Todo.out (is := [12, 13, 14]) ?_
  repeat
   refine tkH (v := ?_) rfl (by kernel_rfl) (by kernel_rfl) (by kernel_rfl) (fun _ _ _ h => h) (Or.inl ⟨by rfl, ?_⟩) hd3 ?_
   rotate_left
   ·(intro w hSw; (try dsimp only at hSw); go_simp) <;> with_reducible rfl
   (try simp only [Act.put, lA, lB, lC, lD, lE, lF])
  refine Todo.fin ?_
  refine wpAnyH_done (by kernel_rfl) ?_ _
  clear hHeld hd1 hd2 hd3 c0 f0 s0
  go_wp2_with fail
  go_ret2
  exact HO.out
 have t1 : (o.kind == 1) = false := by simp [hk1]
 by_cases hk2 : o.kind = 2
 ·have hst : stL L o = delL L o.key := by unfold stL; rw [if_neg hk1, if_pos hk2]
  have t2 : (o.kind == 2) = true := by simp [hk2]
  have hde := bdel2_any t p root D o.key L P F x W0 H.out.2.1 H.out.2.2.2.2.2.2.2.2.2.2.2.2.1 H.out.2.2.2.2.1 hl
  have HP := Lib.hid (And.intro hde hst)
  clear hde hst hk1 hk2
  go_wp2_with fail
  refine HP.out.1.mono ?_
  clear c0 f0 s0
  rintro e w2 hdo
  obtain ⟨y, F', D', P', b1, b2, b3, b4, b5⟩ := del_sure hdo H.out.2.1 H.out.2.2.1 H.out.2.2.2.1 H.out.2.2.2.2.1 H.out.2.2.2.2.2.2.2.2.2.2.2.1 (by omega)
  have hFb : ¬ F w.heap.size := fun e => by have := HF.out _ e; omega
  have hbx2 := H.out.2.2.2.2.2.2.2.2.2.2.1.chg b2.chg hFb
  have hs2 := H.out.2.2.2.2.2.2.1.chg b2.chg fun a ha => (H.out.2.2.2.2.2.2.2.1 a ha).1
  have hxd := xdel_any o.key L A c w2 hs2 (by omega)
  have hrch : Rch F F' w w2 := (Rch.grew H.out.2.2.2.2.2.2.2.2.2.1).trans b2
  have H2 := Lib.hid (And.intro hxd (And.intro b1 (And.intro hrch (And.intro b3 b4))))
  have H5 := Lib.hid b5
  have hF2 := b1.gp.lt
  have HF2 := Lib.hid hF2
  obtain ⟨c0, f0, s0⟩ := hbx2.facts
  clear hdo b1 b2 b3 b4 b5 hFb hbx2 hs2 hxd hrch hF2
  have hfin : ∀ (A2 : Option Addr) (c2 : Nat) (w3 : World), w3.ownsRow w2.heap.size 41 2 (.slice A2 (delL L o.key).length c2) (delL L o.key).length (kvs2 (delL L o.key)) → Grew w2 w3 → StpOut w w3 t p root F x0 A (stL L o) (.returned (.tuple #[.slice A2 (delL L o.key).length c2, .bool true])) := fun A2 c2 w3 ho hg =>
   ⟨A2, c2, y, F', D', P', by rw [HP.out.2], H2.out.2.1.grew hg, H2.out.2.2.1.trans (Rch.grew hg), H2.out.2.2.2.1, by rw [HP.out.2]; exact H2.out.2.2.2.2, by rw [HP.out.2]; exact Sl.of_own ho, fun a ha => by have h1 := own_rng ho a ha; exact ⟨fun e => by have := HF2.out _ e; omega, h1.2, .inr (by have := H2.out.2.2.1.chg.size; omega)⟩⟩
  have HFIN := Lib.hid hfin
  clear hfin
  rcases HFO.out with ⟨i, v, rfl, hi, hg⟩ | ⟨rfl, hg⟩
  ·rcases H5.out with ⟨rfl, -⟩ | ⟨-, h9⟩
   rotate_left
   ·rw [hg] at h9; cases h9
   have t3 : decide ((0 : Int) ≤ (i : Int)) = true := decide_eq_true (by omega)
   clear hi hg
   go_wp2_with fail
   refine H2.out.1.mono ?_
   rintro e w3 ⟨A2, c2, rfl, ho2, hg2⟩
   have HO := Lib.hid (HFIN.out A2 c2 w3 ho2 hg2)
   clear ho2 hg2
   go_wp2_with fail
   go_ret2
   exact HO.out
  ·rcases H5.out with ⟨-, v, h9⟩ | ⟨rfl, -⟩
   ·rw [hg] at h9; cases h9
   clear hg
   go_wp2_with fail
   refine H2.out.1.mono ?_
   rintro e w3 ⟨A2, c2, rfl, ho2, hg2⟩
   have HO := Lib.hid (HFIN.out A2 c2 w3 ho2 hg2)
   clear ho2 hg2
   go_wp2_with fail
   go_ret2
   exact HO.out
 have hst : stL L o = L := by unfold stL; rw [if_neg hk1, if_neg hk2]
 have t2 : (o.kind == 2) = false := by simp [hk2]
 by_cases hk3 : o.kind = 3
 ·have t3 : (o.kind == 3) = true := by simp [hk3]
  have hge := bget2_any t p root (halfN x.sz) D o.key L P F x W0 H.out.2.1 H.out.2.2.2.2.1.tr H.out.2.2.2.2.1.srt (by omega) H.out.2.2.2.2.1.nd
  have HP := Lib.hid (And.intro hge hst)
  clear hge hst hk1 hk2 hk3
  go_wp2_with fail
  refine HP.out.1.mono ?_
  clear c0 f0 s0
  rintro e w2 ⟨rfl, b1, b2⟩
  have hs2 := H.out.2.2.2.2.2.2.1.chg b2 fun a ha => (H.out.2.2.2.2.2.2.2.1 a ha).1
  have hout : StpOut w w2 t p root F x0 A (stL L o) (.returned (.tuple #[.slice A L.length c, .bool true])) := by
   have hz := H.out.2.2.2.2.2.2.2.2.2.1.size
   have hz2 := b2.size
   exact ⟨A, c, x, F, D, P, by rw [HP.out.2], b1, (Rch.grew H.out.2.2.2.2.2.2.2.2.2.1).trans ⟨b2, fun j e => .inl e⟩, H.out.2.2.2.1, by rw [HP.out.2]; exact H.out.2.2.2.2.1, by rw [HP.out.2]; exact hs2, fun a ha => by have := H.out.2.2.2.2.2.2.2.1 a ha; exact ⟨this.1, by omega, .inl ha⟩⟩
  have HO := Lib.hid hout
  have HS2 := Lib.hid hs2
  clear hout hs2 b1 b2
  rcases HFO.out with ⟨i, v, rfl, hi, hg⟩ | ⟨rfl, hg⟩
  ·rw [hg]
   simp only [gV, gE]
   have t4 : decide ((0 : Int) ≤ (i : Int)) = true := decide_eq_true (by omega)
   have hiL : i < L.length := (List.getElem?_eq_some_iff.1 hi).1
   have hiI : (i : Int) < (L.length : Int) := by omega
   obtain ⟨b, off, rfl, hbl, hc1, hc2⟩ := HS2.out.atKv hi
   simp only at hc1 hc2
   have t5 : (v == v) = true := by simp
   clear hi hg hbl
   go_wp2_with fail
   go_ret2
   exact HO.out
  ·rw [hg]
   simp only [gV, gE]
   clear hg
   go_wp2_with fail
   go_ret2
   exact HO.out
 ·have t3 : (o.kind == 3) = false := by simp [hk3]
  have hout : StpOut w W0 t p root F x0 A (stL L o) (.returned (.tuple #[.slice A L.length c, .bool true])) := by
   have hz := H.out.2.2.2.2.2.2.2.2.2.1.size
   exact ⟨A, c, x, F, D, P, by rw [hst], H.out.2.1, Rch.grew H.out.2.2.2.2.2.2.2.2.2.1, H.out.2.2.2.1, by rw [hst]; exact H.out.2.2.2.2.1, by rw [hst]; exact H.out.2.2.2.2.2.2.1, fun a ha => by have := H.out.2.2.2.2.2.2.2.1 a ha; exact ⟨this.1, by omega, .inl ha⟩⟩
  have HO := Lib.hid hout
  clear hout hst hk1 hk2 hk3
  go_wp2_with fail
  go_ret2
  exact HO.out
end Go.Proofs.YtpkkcicaeldodaaGreatDoor

namespace Go.Proofs.YtpkkcicaeldodaaGreatDoor
open Go.RowKit Go.Maps
attribute [local go_sem] Oper.semAt_some

end Go.Proofs.YtpkkcicaeldodaaGreatDoor

namespace Go.Proofs.YtpkkcicaeldodaaGreatDoor
open Go.RowKit Go.Maps

def sM (l : List Nat) : Int → Option Value := fun i => if 0 ≤ i ∧ i.toNat ∈ l then some (.int .i64 1) else none
theorem zIntB (w : World) : (zeroValue 3).run Tryz.prog w = .ok (.int .i64 0) w := by kernel_rfl
theorem sM_nil : sM [] = fun _ => none := by funext i; simp [sM]
theorem sM_at (l : List Nat) (k : Nat) : sM l (k : Int) = if k ∈ l then some (.int .i64 1) else none := by unfold sM; simp
theorem sM_more (l : List Nat) (k : Nat) : upd (sM l) (k : Int) (some (.int .i64 1)) = sM (l ++ [k]) := by
 funext i
 by_cases h : i = (k : Int)
 ·subst h; rw [upd_same, sM_at]; simp
 ·rw [upd_other h]
  unfold sM
  by_cases h0 : 0 ≤ i
  ·have : i.toNat ≠ k := by omega
   simp [h0, this]
  ·simp [h0]
def BP (W : World) (F : Nat → Prop) (sb : Nat) (v : Value) : Option Int → Prop
 | none => v = .pointer none
 | some k => ∃ a, v = .pointer (some a) ∧ W.cell? a = some (.int .i64 k) ∧ a.block < W.heap.size ∧ ¬ F a.block ∧ a.block ≠ sb
theorem BP.chg {W W' : World} {F : Nat → Prop} {sb : Nat} {v : Value} {o : Option Int} (h : BP W F sb v o) (hc : Chg (fun j => F j ∨ j = sb) W W') : BP W' F sb v o := by
 cases o with
 | none => exact h
 | some k =>
  obtain ⟨a, h1, h2, h3, h4, h5⟩ := h
  exact ⟨a, h1, (hc.cell h3 (fun e => e.elim h4 h5)).trans h2, Nat.lt_of_lt_of_le h3 hc.size, h4, h5⟩
def LkOut (w w' : World) (t p root sb : Nat) (F : Nat → Prop) (x : Rp) (d : Nat) (S : List Nat) (e : Ending) : Prop :=
 e = .returned (.tuple #[.int .i64 d, .bool true]) ∧ BT w' t p root F x ∧ IMap Tryz.prog 3 w' sb (sM S) S.length ∧ Chg (fun j => F j ∨ j = sb) w w'
structure LkJ (w3 W : World) (t p root sb b q d : Nat) (nd : Nd) (F : Nat → Prop) (x : Rp) (lo hi : Option Int) (S0 PM : List Nat) (i : Nat) (L : List KV) (P S : List Nat) : Prop where
 bt : BT W t p root F x
 mp : IMap Tryz.prog 3 W sb (sM S) S.length
 rest : Rest x.nd (halfN x.sz) d nd i L P
 srt : Srt L
 pg : S0 ++ PM = S ++ P
 pre : ∃ Z, S = S0 ++ q :: Z
 lb : ∀ y ∈ L, ∀ k, (if i = 0 then lo else nd.keys[i - 1]?) = some k → k < y.1
 ub : ∀ y ∈ L, ∀ k, hi = some k → y.1 < k
 chg : Chg (fun j => F j ∨ j = sb) w3 W
set_option maxRecDepth 100000 in
set_option maxHeartbeats 6400000 in
theorem blook_any (t p root sb : Nat) (F : Nat → Prop) (x : Rp) (hsb : ¬ F sb ∧ sb ≠ t ∧ sb ≠ 0) :
  ∀ (d q : Nat) (M : List KV) (PM S : List Nat) (lo hi : Option Int) (vlo vhi : Value) (deep : Nat) (w : World), Tr x.nd (halfN x.sz) d q M PM → ((q = root) ∨ (root ∉ PM ∧ halfN x.sz - 1 ≤ nk x.nd q)) → (S ++ PM).Nodup → (S ++ PM).length ≤ 100000 → Srt M → (∀ y ∈ M, ∀ k, lo = some k → k < y.1) → (∀ y ∈ M, ∀ k, hi = some k → y.1 < k) →
   BP w F sb vlo lo → BP w F sb vhi hi → deep + d ≤ 40 → BT w t p root F x → IMap Tryz.prog 3 w sb (sM S) S.length →
   Calls Tryz.prog 47 #[.pointer (some ⟨t, 0, none⟩), .int .i64 q, .int .i64 deep, vlo, vhi, .map (some sb)] w fun e w' => LkOut w w' t p root sb F x d (S ++ PM) e := by
 intro d
 induction d using Nat.strongRecOn with
 | ind d ih =>
 intro q M PM S lo hi vlo vhi deep w ht hq hnp hsl hs hlo hhi hvlo hvhi hdp hb hmp
 obtain ⟨nd, hnd, hvl, hmx, hdz⟩ := ht.node
 obtain ⟨cp, cp1, cp2, cp3⟩ := Rp.nd_some hnd
 have hft := hb.gp.fit hnd
 have hkl : nd.keys.length ≤ 300 := by have h1 := hft.1.most; have h2 := hb.gp.szs; unfold mostN at h1; omega
 have hld := bload_any t p root q F x cp nd w hb cp1 cp2 cp3
 have hks := ht.keys hnd hs
 have hq4 : q < 4096 := by have h1 := (List.getElem?_eq_some_iff.1 cp1).1; have := hb.gp.szs; omega
 have h2h := half_two hb.gp.szs.2.2.1
 have h3h : halfN x.sz ≤ 300 := by have := hb.gp.szs; unfold halfN mostN; omega
 have hqS : q ∉ S := fun e => (List.nodup_append.1 hnp).2.2 q e q ht.root_mem rfl
 have hsub : nd.kvs.Sublist M := by
  cases d with
  | zero => obtain ⟨nd', g1, -, -, -, g5, -⟩ := ht; rw [hnd] at g1; cases g1; rw [g5]; exact List.Sublist.refl _
  | succ d => obtain ⟨nd', P', g1, -, -, -, g5, -⟩ := ht; rw [hnd] at g1; cases g1; exact g5.sub
 have hklo : ∀ a ∈ nd.keys, ∀ k, lo = some k → k < a := fun a ha k hk => by
  rw [← kvs_keys hvl] at ha
  obtain ⟨y, hy, rfl⟩ := List.mem_map.1 ha
  exact hlo y (hsub.subset hy) k hk
 have hkhi : ∀ a ∈ nd.keys, ∀ k, hi = some k → a < k := fun a ha k hk => by
  rw [← kvs_keys hvl] at ha
  obtain ⟨y, hy, rfl⟩ := List.mem_map.1 ha
  exact hhi y (hsub.subset hy) k hk
 have hsbl : sb < w.heap.size := hmp.lt
 have H := Lib.hid (And.intro ht (And.intro hq (And.intro hnp (And.intro hsl (And.intro hs (And.intro hlo (And.intro hhi (And.intro hvlo (And.intro hvhi (And.intro hb (And.intro hmp (And.intro hnd (And.intro hft (And.intro hks (And.intro hld (And.intro hqS (And.intro hklo (And.intro hkhi hvl))))))))))))))))))
 have HX := Lib.hid (And.intro hmx (And.intro hdz (And.intro hsb hsub)))
 have IH := Lib.hid ih
 have hdp1 : deep ≤ 40 := by omega
 have t0 : decide ((40 : Int) < (deep : Int)) = false := decide_eq_false (by omega)
 have hmm := @run_makeMap Tryz.prog
 clear ih ht hq hnp hsl hs hlo hhi hvlo hvhi hb hmp hnd hft hks hld hqS hklo hkhi hvl hmx hdz hsub cp1 cp2 cp3
 go_enter Tryz.func47, Tryz.ntmps47
 go_wp2_with fail
 refine H.out.2.2.2.2.2.2.2.2.2.2.2.2.2.2.1.mono ?_
 rintro e w2 ⟨b, N, rfl, hn2, hN2, hbt2, hc2⟩
 have hM2 := H.out.2.2.2.2.2.2.2.2.2.2.1.chg hc2 HX.out.2.2.1.1
 have hlk := hM2.look (t := 88) kInt Tryz.underlying3 Tryz.underlying88 (zIntB w2) (i := (q : Int)) (wfInt (by omega) (by omega))
 rw [sM_at, if_neg H.out.2.2.2.2.2.2.2.2.2.2.2.2.2.2.2.1] at hlk
 simp only [Option.getD_none] at hlk
 obtain ⟨W3, hput, hM3, hc3⟩ := hM2.put (t := 88) kInt Tryz.underlying3 Tryz.underlying88 (by have h9 := H.out.2.2.2.1; rw [List.length_append] at h9; simp only [maxLen]; omega) (i := (q : Int)) (wfInt (by omega) (by omega)) (.int .i64 1)
 rw [sM_more, sM_at, if_neg H.out.2.2.2.2.2.2.2.2.2.2.2.2.2.2.2.1] at hM3
 simp only [Option.isSome_none, Bool.false_eq_true, if_false] at hM3
 have hlt3 := hbt2.gp.lt
 have hsb := HX.out.2.2.1
 have hbt3 : BT W3 t p root F x := hbt2.chg hc3 (fun j hj e => hsb.1 (e ▸ hj)) (fun e => hsb.2.2 e.symm) (fun e => hsb.2.1 e.symm)
 have hn3 : NdOwn W3 N b q nd := hn2.chg hc3 fun j hj e => by have := hN2 j hj; omega
 have hcW : Chg (fun j => F j ∨ j = sb) w W3 := Chg.trans (hc2.mono fun j _ e => .inl e) hc3 fun j _ e => .inr e
 have hNa : ∀ j, N j → ¬ F j ∧ j ≠ sb ∧ j < W3.heap.size := fun j hj => ⟨fun e => by have := hN2 j hj; have := H.out.2.2.2.2.2.2.2.2.2.1.gp.lt j e; omega, by have := hN2 j hj; omega, hn3.at.lt j hj⟩
 have hhf := bhalf_any t p root F x
 have hM3' : IMap Tryz.prog 3 W3 sb (sM (S ++ [q])) (S ++ [q]).length := by simpa using hM3
 have H3 := Lib.hid (And.intro hbt3 (And.intro hn3 (And.intro hcW (And.intro hNa (And.intro hhf hM3')))))
 obtain ⟨c3, f3, s3⟩ := hbt3.blk.facts
 obtain ⟨Ak, ck, Av, cv, Ac, cc, bB, sK, sV, sC, nb, nK, nV, nC, -⟩ := hn3.at
 obtain ⟨c0, f0, s0⟩ := bB.facts
 have HB := Lib.hid (And.intro bB (And.intro sK (And.intro sC (And.intro nb (And.intro nK nC)))))
 clear hn2 hN2 hbt2 hc2 hM2 hM3 hc3 hlt3 hbt3 hn3 hcW hNa hhf hM3' bB sK sV sC nb nK nV nC hmm hsb
 have hmx := HX.out.1
 have w1 : wrap64 (wrap64 (2 * (halfN x.sz : Int)) - 1) = 2 * (halfN x.sz : Int) - 1 := by rw [IntWalk.wrap64_in (2 * (halfN x.sz : Int)) ⟨by omega, by omega⟩, IntWalk.wrap64_in _ ⟨by omega, by omega⟩]
 have u3 : decide (wrap64 (wrap64 (2 * (halfN x.sz : Int)) - 1) < (nd.keys.length : Int)) = false := by rw [w1]; exact decide_eq_false (by omega)
 by_cases hqr : q = root
 case' neg =>
  have tq : ((q : Int) == (root : Int)) = false := by simp; omega
  have hnk : halfN x.sz - 1 ≤ nd.keys.length := by
   have := (H.out.2.1.resolve_left hqr).2
   rwa [nk_eq H.out.2.2.2.2.2.2.2.2.2.2.2.1] at this
  have u1 : decide ((nd.keys.length : Int) < (halfN x.sz : Int) - 1) = false := decide_eq_false (by omega)
  have u2 : decide (2 * (halfN x.sz : Int) - 1 < (nd.keys.length : Int)) = false := decide_eq_false (by omega)
  have Hq := Lib.hid hqr
  clear hqr
 case' pos =>
  have tq : ((q : Int) == (root : Int)) = true := by simp [hqr]
  by_cases h0 : nd.kids.length = 0
  case' pos =>
   have Hq := Lib.hid (And.intro hqr h0)
   have h0' : nd.kids = [] := List.eq_nil_of_length_eq_zero h0
   clear hqr
   rw [h0] at c0
   have m1 : min (0 : Int) 1 = 0 := rfl
   have u0 : decide ((nd.keys.length : Int) < min (0 : Int) 1) = false := decide_eq_false (by omega)
   have u1 : decide ((nd.keys.length : Int) < (0 : Int)) = false := decide_eq_false (by omega)
   have u2 : decide (2 * (halfN x.sz : Int) - 1 < (nd.keys.length : Int)) = false := decide_eq_false (by omega)
   clear h0 h0'
  case' neg =>
   have hl1 : 1 ≤ nd.keys.length := by
    cases d with
    | zero => exact absurd (HX.out.2.1.2 rfl) h0
    | succ d => obtain ⟨nd', P', g1, -, -, g4, -⟩ := H.out.1; rw [H.out.2.2.2.2.2.2.2.2.2.2.2.1] at g1; cases g1; exact g4
   have hk1 : 1 ≤ nd.kids.length := by omega
   have m1 : min (nd.kids.length : Int) 1 = 1 := by omega
   have u0 : decide ((nd.keys.length : Int) < min (nd.kids.length : Int) 1) = false := decide_eq_false (by omega)
   have u1 : decide ((nd.keys.length : Int) < (1 : Int)) = false := decide_eq_false (by omega)
   have u2 : decide (2 * (halfN x.sz : Int) - 1 < (nd.keys.length : Int)) = false := decide_eq_false (by omega)
   have Hq := Lib.hid (And.intro hqr h0)
   clear hqr h0
 all_goals
  go_wp2_with fail
  refine (H3.out.2.2.2.2.1 W3 H3.out.1).mono ?_
  rintro e w4 ⟨rfl, rfl⟩
  go_wp2_with fail
  go_quiet ((go_at_call 71; exact Calls.quiet_of_same ((H3.out.2.2.2.2.1 _ (H3.out.1.grew ((Chg.refl _ _).drewN _))).mono fun _ _ h => ⟨h.1, h.2.symm⟩)))
  go_wp2_with fail

  obtain ⟨W4, hW4⟩ : ∃ W, W3.drewN nq = W := ⟨_, rfl⟩
  rw [hW4]
  have hg4 : Grew W3 W4 := hW4 ▸ (Chg.refl NoF W3).drewN nq
  have hk4 := HB.out.2.1.grew hg4
  have hc4 : Chg (fun j => F j ∨ j = sb) w W4 := H3.out.2.2.1.grew hg4
  have H4 := Lib.hid (And.intro hg4 (And.intro hk4 (And.intro hc4 (And.intro (H.out.2.2.2.2.2.2.2.1.chg hc4) (H.out.2.2.2.2.2.2.2.2.1.chg hc4)))))
  clear hg4 hk4 hc4 hW4
  go_loopg [87] (nd.keys.length) (fun n iv wr => ∃ i : Nat, n = nd.keys.length - i ∧ i ≤ nd.keys.length ∧ iv = .int .i64 i ∧ wr = W4)
  case atStart => exact ⟨0, by simp, Nat.zero_le _, rfl, rfl⟩
  case round =>
   obtain ⟨i, rfl, hil, rfl, hwr⟩ := hrel
   replace hwr := hwr.symm
   subst hwr
   by_cases hlt : i < nd.keys.length
   ·obtain ⟨a, ha⟩ : ∃ a, nd.keys[i]? = some a := ⟨_, List.getElem?_eq_getElem hlt⟩
    obtain ⟨gk, ok, rfl, hgk, hxk⟩ := H4.out.2.1.2 (by omega)
    have hck : W4.cell? ⟨gk, ok + i, none⟩ = some (.int .i64 a) := hxk i _ (by simp [iv, ha])
    have hall := H.out.2.2.2.2.2.2.2.2.2.2.2.2.2.2.2.2.1 a (List.mem_of_getElem? ha)
    have hahi := H.out.2.2.2.2.2.2.2.2.2.2.2.2.2.2.2.2.2.1 a (List.mem_of_getElem? ha)
    have hpl := H4.out.2.2.2.1
    have hph := H4.out.2.2.2.2
    have hcb := (HB.out.1.grew H4.out.1).cell 1
    have hi2 : (i : Int) < (nd.keys.length : Int) := by omega
    cases lo with
    | none =>
     obtain rfl : vlo = .pointer none := hpl
     cases hi with
     | none =>
      obtain rfl : vhi = .pointer none := hph
      by_cases hz : i = 0
      ·obtain rfl : i = 0 := hz
       rw [Nat.add_zero] at hck
       clear hall hahi hxk hgk
       go_wp2_with fail
       go_roundg (nd.keys.length - (0 + 1))
       case measure => omega
       case rel => exact ⟨0 + 1, rfl, by omega, by simp, rfl⟩
      ·obtain ⟨j, rfl⟩ : ∃ j, i = j + 1 := ⟨i - 1, by omega⟩
       obtain ⟨a', ha'⟩ : ∃ a', nd.keys[j]? = some a' := ⟨_, List.getElem?_eq_getElem (by omega)⟩
       have hck' : W4.cell? ⟨gk, ok + j, none⟩ = some (.int .i64 a') := hxk j _ (by simp [iv, ha'])
       have hlt' : a' < a := by
        obtain ⟨p1, e1⟩ := List.getElem?_eq_some_iff.1 ha
        obtain ⟨p2, e2⟩ := List.getElem?_eq_some_iff.1 ha'
        have := List.pairwise_iff_getElem.1 H.out.2.2.2.2.2.2.2.2.2.2.2.2.2.1 j (j + 1) p2 p1 (by omega)
        rw [e1, e2] at this
        exact this
       have t9 : decide (a ≤ a') = false := decide_eq_false (by omega)
       clear hall hahi hxk hgk ha' hlt'
       go_wp2_with fail
       go_roundg (nd.keys.length - ((j + 1) + 1))
       case measure => omega
       case rel => exact ⟨(j + 1) + 1, rfl, by omega, by simp, rfl⟩
     | some kh =>
      obtain ⟨ah, rfl, hch, -⟩ := hph
      have t8 : decide (kh ≤ a) = false := decide_eq_false (by have := hahi kh rfl; omega)
      by_cases hz : i = 0
      ·obtain rfl : i = 0 := hz
       rw [Nat.add_zero] at hck
       clear hall hahi hxk hgk
       go_wp2_with fail
       go_roundg (nd.keys.length - (0 + 1))
       case measure => omega
       case rel => exact ⟨0 + 1, rfl, by omega, by simp, rfl⟩
      ·obtain ⟨j, rfl⟩ : ∃ j, i = j + 1 := ⟨i - 1, by omega⟩
       obtain ⟨a', ha'⟩ : ∃ a', nd.keys[j]? = some a' := ⟨_, List.getElem?_eq_getElem (by omega)⟩
       have hck' : W4.cell? ⟨gk, ok + j, none⟩ = some (.int .i64 a') := hxk j _ (by simp [iv, ha'])
       have hlt' : a' < a := by
        obtain ⟨p1, e1⟩ := List.getElem?_eq_some_iff.1 ha
        obtain ⟨p2, e2⟩ := List.getElem?_eq_some_iff.1 ha'
        have := List.pairwise_iff_getElem.1 H.out.2.2.2.2.2.2.2.2.2.2.2.2.2.1 j (j + 1) p2 p1 (by omega)
        rw [e1, e2] at this
        exact this
       have t9 : decide (a ≤ a') = false := decide_eq_false (by omega)
       clear hall hahi hxk hgk ha' hlt'
       go_wp2_with fail
       go_roundg (nd.keys.length - ((j + 1) + 1))
       case measure => omega
       case rel => exact ⟨(j + 1) + 1, rfl, by omega, by simp, rfl⟩
    | some kl =>
     obtain ⟨al, rfl, hcl, -⟩ := hpl
     have t7 : decide (a ≤ kl) = false := decide_eq_false (by have := hall kl rfl; omega)
     cases hi with
     | none =>
      obtain rfl : vhi = .pointer none := hph
      by_cases hz : i = 0
      ·obtain rfl : i = 0 := hz
       rw [Nat.add_zero] at hck
       clear hall hahi hxk hgk
       go_wp2_with fail
       go_roundg (nd.keys.length - (0 + 1))
       case measure => omega
       case rel => exact ⟨0 + 1, rfl, by omega, by simp, rfl⟩
      ·obtain ⟨j, rfl⟩ : ∃ j, i = j + 1 := ⟨i - 1, by omega⟩
       obtain ⟨a', ha'⟩ : ∃ a', nd.keys[j]? = some a' := ⟨_, List.getElem?_eq_getElem (by omega)⟩
       have hck' : W4.cell? ⟨gk, ok + j, none⟩ = some (.int .i64 a') := hxk j _ (by simp [iv, ha'])
       have hlt' : a' < a := by
        obtain ⟨p1, e1⟩ := List.getElem?_eq_some_iff.1 ha
        obtain ⟨p2, e2⟩ := List.getElem?_eq_some_iff.1 ha'
        have := List.pairwise_iff_getElem.1 H.out.2.2.2.2.2.2.2.2.2.2.2.2.2.1 j (j + 1) p2 p1 (by omega)
        rw [e1, e2] at this
        exact this
       have t9 : decide (a ≤ a') = false := decide_eq_false (by omega)
       clear hall hahi hxk hgk ha' hlt'
       go_wp2_with fail
       go_roundg (nd.keys.length - ((j + 1) + 1))
       case measure => omega
       case rel => exact ⟨(j + 1) + 1, rfl, by omega, by simp, rfl⟩
     | some kh =>
      obtain ⟨ah, rfl, hch, -⟩ := hph
      have t8 : decide (kh ≤ a) = false := decide_eq_false (by have := hahi kh rfl; omega)
      by_cases hz : i = 0
      ·obtain rfl : i = 0 := hz
       rw [Nat.add_zero] at hck
       clear hall hahi hxk hgk
       go_wp2_with fail
       go_roundg (nd.keys.length - (0 + 1))
       case measure => omega
       case rel => exact ⟨0 + 1, rfl, by omega, by simp, rfl⟩
      ·obtain ⟨j, rfl⟩ : ∃ j, i = j + 1 := ⟨i - 1, by omega⟩
       obtain ⟨a', ha'⟩ : ∃ a', nd.keys[j]? = some a' := ⟨_, List.getElem?_eq_getElem (by omega)⟩
       have hck' : W4.cell? ⟨gk, ok + j, none⟩ = some (.int .i64 a') := hxk j _ (by simp [iv, ha'])
       have hlt' : a' < a := by
        obtain ⟨p1, e1⟩ := List.getElem?_eq_some_iff.1 ha
        obtain ⟨p2, e2⟩ := List.getElem?_eq_some_iff.1 ha'
        have := List.pairwise_iff_getElem.1 H.out.2.2.2.2.2.2.2.2.2.2.2.2.2.1 j (j + 1) p2 p1 (by omega)
        rw [e1, e2] at this
        exact this
       have t9 : decide (a ≤ a') = false := decide_eq_false (by omega)
       clear hall hahi hxk hgk ha' hlt'
       go_wp2_with fail
       go_roundg (nd.keys.length - ((j + 1) + 1))
       case measure => omega
       case rel => exact ⟨(j + 1) + 1, rfl, by omega, by simp, rfl⟩
   ·obtain rfl : i = nd.keys.length := by omega
    obtain ⟨c1', c2', c3'⟩ : True ∧ True ∧ True := ⟨trivial, trivial, trivial⟩
    clear hlt c1' c2' c3'
    have hn4 := H3.out.2.1.grew H4.out.1
    have hb4 := H3.out.1.grew H4.out.1
    have hstart : ∃ A L0 P0, M = A ++ L0 ∧ PM = q :: P0 ∧ Rest x.nd (halfN x.sz) d nd 0 L0 P0 := by
     cases d with
     | zero =>
      obtain ⟨nd', g1, g2, g3, g4, g5, g6⟩ := H.out.1
      rw [H.out.2.2.2.2.2.2.2.2.2.2.2.1] at g1
      cases g1
      exact ⟨[], M, [], rfl, g6, .inl ⟨Nat.zero_le _, fun _ => ⟨by rw [g5]; rfl, rfl⟩, fun d' e => by omega⟩⟩
     | succ d =>
      obtain ⟨nd', P', g1, g2, g3, g4, g5, g6⟩ := H.out.1
      rw [H.out.2.2.2.2.2.2.2.2.2.2.2.1] at g1
      cases g1
      exact ⟨[], M, P', rfl, g6, .inl ⟨Nat.zero_le _, fun e => by omega, fun d' e => by cases e; exact g5⟩⟩
    obtain ⟨A0, L0, P0, r1, r2, r3⟩ := hstart
    have hsL : Srt L0 := H.out.2.2.2.2.1.sub (by rw [r1]; exact List.sublist_append_right _ _)
    have hJ0 : LkJ W4 W4 t p root sb b q d nd F x lo hi S PM 0 L0 P0 (S ++ [q]) := ⟨hb4, H3.out.2.2.2.2.2.chg H4.out.1 id, r3, hsL, by rw [r2]; simp, ⟨[], rfl⟩, fun y hy k hk => H.out.2.2.2.2.2.1 y (by rw [r1]; exact List.mem_append_right _ hy) k (by simpa using hk), fun y hy k hk => H.out.2.2.2.2.2.2.1 y (by rw [r1]; exact List.mem_append_right _ hy) k hk, Chg.refl _ _⟩
    have hMi : ∀ y ∈ L0, y ∈ M := fun y hy => by rw [r1]; exact List.mem_append_right _ hy
    have HJ0 := Lib.hid (And.intro hJ0 (And.intro hn4 r2))
    obtain ⟨Ak5, ck5, Av5, cv5, Ac5, cc5, bB5, sK5, -, sC5, -⟩ := hn4.at
    clear hn4 hb4 r1 r2 r3 hsL hJ0 hMi bB5 sK5 sC5
    have hcb := (HB.out.1.grew H4.out.1).cell 3
    go_wp2_with fail
    go_loopg [19, 134] (nd.kids.length) (fun n bl iv wr => ∃ (i : Nat) (L' : List KV) (P' S' : List Nat) (bv : Int), n = nd.kids.length - i ∧ i ≤ nd.kids.length ∧ bl = .int .i64 bv ∧ iv = .int .i64 i ∧ (i = 0 → bv = -1) ∧ (0 < i → bv = (d : Int) - 1) ∧ LkJ W4 wr t p root sb b q d nd F x lo hi S PM i L' P' S')
    case atStart => exact ⟨0, L0, P0, S ++ [q], -1, by simp, Nat.zero_le _, rfl, rfl, fun _ => rfl, fun h => by omega, HJ0.out.1⟩
    case round =>
     obtain ⟨i, L', P', S', bv, rfl, hil, rfl, rfl, hbv0, hbv1, hJ⟩ := hrel
     have HJ := Lib.hid hJ
     clear hJ hcb
     by_cases hlt : i < nd.kids.length
     ·obtain ⟨d', rfl⟩ : ∃ d', d = d' + 1 := ⟨d - 1, by have hd0 : d ≠ 0 := (fun e => by have := HX.out.2.1.2 e; omega); omega⟩
      have hcl : nd.kids.length = nd.keys.length + 1 := H.out.2.2.2.2.2.2.2.2.2.2.2.2.1.1.kids.resolve_left (by omega)
      have hvl' := H.out.2.2.2.2.2.2.2.2.2.2.2.2.2.2.2.2.2.2
      have hk1 : 1 ≤ nd.keys.length := by
       obtain ⟨nd', P1, g1, -, -, g4, -⟩ := H.out.1
       rw [H.out.2.2.2.2.2.2.2.2.2.2.2.1] at g1
       cases g1
       exact g4
      by_cases hz : i = 0
      ·obtain rfl : i = 0 := hz
       have hbv : bv = -1 := hbv0 rfl
       subst hbv
       clear hbv0 hbv1
       obtain ⟨c, M1, Q, a, v, L2, P2, hci, hTc, ha, hv, hmem, hL2, hP2, hrest2⟩ := HJ.out.rest.inner hvl' hcl (by omega)
       have hsr := HJ.out.srt
       rw [hL2] at hsr
       obtain ⟨q1, q2, q3⟩ := srt_app.1 hsr
       obtain ⟨q4, q5⟩ := List.pairwise_cons.1 q2
       have hsr2 : Srt L2 := q5
       have hlb2 : ∀ y ∈ L2, ∀ k, (if 0 + 1 = 0 then lo else nd.keys[0 + 1 - 1]?) = some k → k < y.1 := fun y hy k hk => by
        rw [if_neg (by omega), Nat.add_sub_cancel, ha] at hk
        cases hk
        exact q4 y hy
       have hub2 : ∀ y ∈ L2, ∀ k, hi = some k → y.1 < k := fun y hy k hk => HJ.out.ub y (by rw [hL2]; exact List.mem_append_right _ (List.mem_cons_of_mem _ hy)) k hk
       have hup : ∀ y ∈ M1, ∀ k, some a = some k → y.1 < k := fun y hy k hk => by cases hk; exact q3 y hy (a, v) List.mem_cons_self
       have hsM1 : Srt M1 := q1
       have hmm1 : ∀ y ∈ M1, y ∈ L' := fun y hy => by rw [hL2]; exact List.mem_append_left _ hy
       clear hsr q1 q2 q3 q4 q5 hmem hv
       have hNc : ∀ j, N j → ¬ (F j ∨ j = sb) := fun j hj e => e.elim (H3.out.2.2.2.1 j hj).1 (H3.out.2.2.2.1 j hj).2.1
       have hWc : Chg (fun j => F j ∨ j = sb) W3 wr := Grew.then H4.out.1 HJ.out.chg
       have hb5 := HB.out.1.chg hWc (hNc _ HB.out.2.2.2.1)
       obtain ⟨gc, oc, rfl, hgc, hxc⟩ := HB.out.2.2.1.2 (by omega)
       have hcc : wr.cell? ⟨gc, oc + 0, none⟩ = some (.int .i64 c) := (hWc.cell (p := ⟨gc, oc + 0, none⟩) hgc (hNc _ (HB.out.2.2.2.2.2 ⟨gc, oc, none⟩ rfl))).trans (hxc (0) _ (by simp [nv, hci]))
       obtain ⟨gk, ok, rfl, hgk, hxk⟩ := HB.out.2.1.2 (by omega)
       have hNk := HB.out.2.2.2.2.1 ⟨gk, ok, none⟩ rfl
       have hkp : ∀ (m : Nat) (z : Int), nd.keys[m]? = some z → BP wr F sb (.pointer (some ⟨gk, ok + m, none⟩)) (some z) := fun m z hz => ⟨_, rfl, (hWc.cell (p := ⟨gk, ok + m, none⟩) hgk (hNc _ hNk)).trans (hxk m _ (by simp [iv, hz])), Nat.lt_of_lt_of_le hgk hWc.size, (H3.out.2.2.2.1 gk hNk).1, (H3.out.2.2.2.1 gk hNk).2.1⟩
       obtain ⟨Z, hZ⟩ := HJ.out.pre
       have hpg := HJ.out.pg
       have hPM : PM = q :: (Z ++ P') := by
        rw [hZ] at hpg
        have : S ++ PM = S ++ (q :: (Z ++ P')) := by rw [hpg]; simp
        exact List.append_cancel_left this
       have hroot : root ∉ Q := fun e => by
        have hin : root ∈ Z ++ P' := by rw [hP2]; simp [e]
        rcases H.out.2.1 with h | h
        ·have h1 := (List.nodup_append.1 H.out.2.2.1).2.1
         rw [hPM] at h1
         exact (List.nodup_cons.1 h1).1 (h ▸ hin)
        ·exact h.1 (by rw [hPM]; exact List.mem_cons_of_mem _ hin)
       have hnp2 : (S' ++ Q).Nodup := by
        have h1 := H.out.2.2.1
        rw [hpg, hP2, ← List.append_assoc] at h1
        exact List.Nodup.sublist (List.sublist_append_left _ _) h1
       have hsl2 : (S' ++ Q).length ≤ 100000 := by
        have h1 := H.out.2.2.2.1
        rw [hpg, hP2] at h1
        simp only [List.length_append] at h1 ⊢
        omega
       have hdp2 : deep + 1 + d' ≤ 40 := by omega
       have hrec := IH.out d' (by omega) c M1 Q S' lo (some a) vlo (.pointer (some ⟨gk, ok + 0, none⟩)) (deep + 1) wr hTc.1 (.inr ⟨hroot, hTc.2⟩) hnp2 hsl2 hsM1 (fun y hy k hk => HJ.out.lb y (hmm1 y hy) k (by simpa using hk)) hup (H4.out.2.2.2.1.chg HJ.out.chg) (hkp 0 a ha) hdp2 HJ.out.bt HJ.out.mp
       rw [Nat.add_zero] at hrec hcc
       have t5 : decide ((0 : Int) < (nd.keys.length : Int)) = true := decide_eq_true (by omega)
       have t5' : 0 < nd.keys.length := by omega
       clear hup hsM1 hmm1 ha hTc
       rw [show ((deep + 1 : Nat) : Int) = (deep : Int) + 1 from by omega] at hrec
       obtain ⟨c0, f0, s0⟩ := hb5.facts
       have hic : (0 : Int) < (nd.kids.length : Int) := by omega
       have hic2 : 0 < nd.kids.length := by omega
       have HR := Lib.hid (And.intro hrec (And.intro hrest2 (And.intro hpg (And.intro hP2 (And.intro hZ (And.intro hsr2 (And.intro hlb2 hub2)))))))
       clear hcl hvl'
       (try clear hje)
       clear hrec hrest2 hpg hP2 hZ hsr2 hlb2 hub2 hroot hnp2 hsl2 hkp hPM hxk hxc hgc hgk hNk hNc hWc hb5 hci
       go_wp2_with fail
       refine HR.out.1.mono ?_
       rintro e w5 ⟨rfl, hbt5, hm5, hc5⟩
       have H5 := Lib.hid (And.intro hbt5 (And.intro hm5 hc5))
       clear hbt5 hm5 hc5 c0 f0 s0 hcc
       go_wp2_with fail
       go_roundg (nd.kids.length - (0 + 1))
       case measure => omega
       case rel => exact ⟨0 + 1, L2, P2, S' ++ Q, (d' : Int), rfl, by omega, by simp, rfl, fun e => by omega, fun _ => by omega, H5.out.1, H5.out.2.1, HR.out.2.1, HR.out.2.2.2.2.2.1, by rw [HR.out.2.2.1, HR.out.2.2.2.1]; simp, by rw [HR.out.2.2.2.2.1]; exact ⟨Z ++ Q, by simp⟩, HR.out.2.2.2.2.2.2.1, HR.out.2.2.2.2.2.2.2, Chg.trans HJ.out.chg H5.out.2.2 fun _ _ e => e⟩
      ·obtain ⟨j, rfl⟩ : ∃ j, i = j + 1 := ⟨i - 1, by omega⟩
       have hbv : bv = (d' : Int) := by have := hbv1 (by omega); omega
       subst hbv
       clear hbv0 hbv1
       obtain ⟨aj, haj⟩ : ∃ aj, nd.keys[j]? = some aj := ⟨_, List.getElem?_eq_getElem (by omega)⟩
       have hjl : j < nd.keys.length := by omega
       by_cases hlk : j + 1 < nd.keys.length
       ·skip
        obtain ⟨c, M1, Q, a, v, L2, P2, hci, hTc, ha, hv, hmem, hL2, hP2, hrest2⟩ := HJ.out.rest.inner hvl' hcl hlk
        have hsr := HJ.out.srt
        rw [hL2] at hsr
        obtain ⟨q1, q2, q3⟩ := srt_app.1 hsr
        obtain ⟨q4, q5⟩ := List.pairwise_cons.1 q2
        have hsr2 : Srt L2 := q5
        have hlb2 : ∀ y ∈ L2, ∀ k, (if (j + 1) + 1 = 0 then lo else nd.keys[(j + 1) + 1 - 1]?) = some k → k < y.1 := fun y hy k hk => by
         rw [if_neg (by omega), Nat.add_sub_cancel, ha] at hk
         cases hk
         exact q4 y hy
        have hub2 : ∀ y ∈ L2, ∀ k, hi = some k → y.1 < k := fun y hy k hk => HJ.out.ub y (by rw [hL2]; exact List.mem_append_right _ (List.mem_cons_of_mem _ hy)) k hk
        have hup : ∀ y ∈ M1, ∀ k, some a = some k → y.1 < k := fun y hy k hk => by cases hk; exact q3 y hy (a, v) List.mem_cons_self
        have hsM1 : Srt M1 := q1
        have hmm1 : ∀ y ∈ M1, y ∈ L' := fun y hy => by rw [hL2]; exact List.mem_append_left _ hy
        clear hsr q1 q2 q3 q4 q5 hmem hv
        have hNc : ∀ j, N j → ¬ (F j ∨ j = sb) := fun j hj e => e.elim (H3.out.2.2.2.1 j hj).1 (H3.out.2.2.2.1 j hj).2.1
        have hWc : Chg (fun j => F j ∨ j = sb) W3 wr := Grew.then H4.out.1 HJ.out.chg
        have hb5 := HB.out.1.chg hWc (hNc _ HB.out.2.2.2.1)
        obtain ⟨gc, oc, rfl, hgc, hxc⟩ := HB.out.2.2.1.2 (by omega)
        have hcc : wr.cell? ⟨gc, oc + (j + 1), none⟩ = some (.int .i64 c) := (hWc.cell (p := ⟨gc, oc + (j + 1), none⟩) hgc (hNc _ (HB.out.2.2.2.2.2 ⟨gc, oc, none⟩ rfl))).trans (hxc ((j + 1)) _ (by simp [nv, hci]))
        obtain ⟨gk, ok, rfl, hgk, hxk⟩ := HB.out.2.1.2 (by omega)
        have hNk := HB.out.2.2.2.2.1 ⟨gk, ok, none⟩ rfl
        have hkp : ∀ (m : Nat) (z : Int), nd.keys[m]? = some z → BP wr F sb (.pointer (some ⟨gk, ok + m, none⟩)) (some z) := fun m z hz => ⟨_, rfl, (hWc.cell (p := ⟨gk, ok + m, none⟩) hgk (hNc _ hNk)).trans (hxk m _ (by simp [iv, hz])), Nat.lt_of_lt_of_le hgk hWc.size, (H3.out.2.2.2.1 gk hNk).1, (H3.out.2.2.2.1 gk hNk).2.1⟩
        obtain ⟨Z, hZ⟩ := HJ.out.pre
        have hpg := HJ.out.pg
        have hPM : PM = q :: (Z ++ P') := by
         rw [hZ] at hpg
         have : S ++ PM = S ++ (q :: (Z ++ P')) := by rw [hpg]; simp
         exact List.append_cancel_left this
        have hroot : root ∉ Q := fun e => by
         have hin : root ∈ Z ++ P' := by rw [hP2]; simp [e]
         rcases H.out.2.1 with h | h
         ·have h1 := (List.nodup_append.1 H.out.2.2.1).2.1
          rw [hPM] at h1
          exact (List.nodup_cons.1 h1).1 (h ▸ hin)
         ·exact h.1 (by rw [hPM]; exact List.mem_cons_of_mem _ hin)
        have hnp2 : (S' ++ Q).Nodup := by
         have h1 := H.out.2.2.1
         rw [hpg, hP2, ← List.append_assoc] at h1
         exact List.Nodup.sublist (List.sublist_append_left _ _) h1
        have hsl2 : (S' ++ Q).length ≤ 100000 := by
         have h1 := H.out.2.2.2.1
         rw [hpg, hP2] at h1
         simp only [List.length_append] at h1 ⊢
         omega
        have hdp2 : deep + 1 + d' ≤ 40 := by omega
        have hrec := IH.out d' (by omega) c M1 Q S' (some aj) (some a) (.pointer (some ⟨gk, ok + j, none⟩)) (.pointer (some ⟨gk, ok + (j + 1), none⟩)) (deep + 1) wr hTc.1 (.inr ⟨hroot, hTc.2⟩) hnp2 hsl2 hsM1 (fun y hy k hk => HJ.out.lb y (hmm1 y hy) k (by rw [if_neg (by omega), Nat.add_sub_cancel, haj]; exact hk)) hup (hkp j aj haj) (hkp (j + 1) a ha) hdp2 HJ.out.bt HJ.out.mp
        have t5 : decide (((j : Int) + 1) < (nd.keys.length : Int)) = true := decide_eq_true (by omega)
        clear hup hsM1 hmm1 ha hTc haj
        rw [show ((deep + 1 : Nat) : Int) = (deep : Int) + 1 from by omega] at hrec
        obtain ⟨c0, f0, s0⟩ := hb5.facts
        have hic : ((j : Int) + 1 : Int) < (nd.kids.length : Int) := by omega
        have hic2 : (j + 1) < nd.kids.length := by omega
        have HR := Lib.hid (And.intro hrec (And.intro hrest2 (And.intro hpg (And.intro hP2 (And.intro hZ (And.intro hsr2 (And.intro hlb2 hub2)))))))
        clear hcl hvl'
        (try clear hje)
        clear hrec hrest2 hpg hP2 hZ hsr2 hlb2 hub2 hroot hnp2 hsl2 hkp hPM hxk hxc hgc hgk hNk hNc hWc hb5 hci
        go_wp2_with fail
        refine HR.out.1.mono ?_
        rintro e w5 ⟨rfl, hbt5, hm5, hc5⟩
        have H5 := Lib.hid (And.intro hbt5 (And.intro hm5 hc5))
        clear hbt5 hm5 hc5 c0 f0 s0 hcc
        go_wp2_with fail
        go_roundg (nd.kids.length - ((j + 1) + 1))
        case measure => omega
        case rel => exact ⟨(j + 1) + 1, L2, P2, S' ++ Q, (d' : Int), rfl, by omega, by simp, rfl, fun e => by omega, fun _ => by omega, H5.out.1, H5.out.2.1, HR.out.2.1, HR.out.2.2.2.2.2.1, by rw [HR.out.2.2.1, HR.out.2.2.2.1]; simp, by rw [HR.out.2.2.2.2.1]; exact ⟨Z ++ Q, by simp⟩, HR.out.2.2.2.2.2.2.1, HR.out.2.2.2.2.2.2.2, Chg.trans HJ.out.chg H5.out.2.2 fun _ _ e => e⟩
       ·have hje : nd.keys.length = j + 1 := by omega
        obtain ⟨c, hci, hTc, hrest2⟩ := (show Rest x.nd (halfN x.sz) (d' + 1) nd nd.keys.length L' P' from hje ▸ HJ.out.rest).inner_end hvl' hcl
        rw [hje] at hci hrest2
        obtain ⟨Q, hQ⟩ : ∃ Q, P' = Q := ⟨_, rfl⟩
        obtain ⟨P2, hP20⟩ : ∃ P2 : List Nat, P2 = [] := ⟨_, rfl⟩
        obtain ⟨L2, hL20⟩ : ∃ L2 : List KV, L2 = [] := ⟨_, rfl⟩
        have hP2 : P' = Q ++ P2 := by rw [hP20, List.append_nil]; exact hQ
        rw [← hP20, ← hL20] at hrest2
        rw [hQ] at hTc
        have hsr2 : Srt L2 := by rw [hL20]; exact List.Pairwise.nil
        have hlb2 : ∀ y ∈ L2, ∀ k, (if j + 1 + 1 = 0 then lo else nd.keys[j + 1 + 1 - 1]?) = some k → k < y.1 := fun y hy => by rw [hL20] at hy; cases hy
        have hub2 : ∀ y ∈ L2, ∀ k, hi = some k → y.1 < k := fun y hy => by rw [hL20] at hy; cases hy
        have hNc : ∀ j, N j → ¬ (F j ∨ j = sb) := fun j hj e => e.elim (H3.out.2.2.2.1 j hj).1 (H3.out.2.2.2.1 j hj).2.1
        have hWc : Chg (fun j => F j ∨ j = sb) W3 wr := Grew.then H4.out.1 HJ.out.chg
        have hb5 := HB.out.1.chg hWc (hNc _ HB.out.2.2.2.1)
        obtain ⟨gc, oc, rfl, hgc, hxc⟩ := HB.out.2.2.1.2 (by omega)
        have hcc : wr.cell? ⟨gc, oc + (j + 1), none⟩ = some (.int .i64 c) := (hWc.cell (p := ⟨gc, oc + (j + 1), none⟩) hgc (hNc _ (HB.out.2.2.2.2.2 ⟨gc, oc, none⟩ rfl))).trans (hxc ((j + 1)) _ (by simp [nv, hci]))
        obtain ⟨gk, ok, rfl, hgk, hxk⟩ := HB.out.2.1.2 (by omega)
        have hNk := HB.out.2.2.2.2.1 ⟨gk, ok, none⟩ rfl
        have hkp : ∀ (m : Nat) (z : Int), nd.keys[m]? = some z → BP wr F sb (.pointer (some ⟨gk, ok + m, none⟩)) (some z) := fun m z hz => ⟨_, rfl, (hWc.cell (p := ⟨gk, ok + m, none⟩) hgk (hNc _ hNk)).trans (hxk m _ (by simp [iv, hz])), Nat.lt_of_lt_of_le hgk hWc.size, (H3.out.2.2.2.1 gk hNk).1, (H3.out.2.2.2.1 gk hNk).2.1⟩
        obtain ⟨Z, hZ⟩ := HJ.out.pre
        have hpg := HJ.out.pg
        have hPM : PM = q :: (Z ++ P') := by
         rw [hZ] at hpg
         have : S ++ PM = S ++ (q :: (Z ++ P')) := by rw [hpg]; simp
         exact List.append_cancel_left this
        have hroot : root ∉ Q := fun e => by
         have hin : root ∈ Z ++ P' := by rw [hP2]; simp [e]
         rcases H.out.2.1 with h | h
         ·have h1 := (List.nodup_append.1 H.out.2.2.1).2.1
          rw [hPM] at h1
          exact (List.nodup_cons.1 h1).1 (h ▸ hin)
         ·exact h.1 (by rw [hPM]; exact List.mem_cons_of_mem _ hin)
        have hnp2 : (S' ++ Q).Nodup := by
         have h1 := H.out.2.2.1
         rw [hpg, hP2, ← List.append_assoc] at h1
         exact List.Nodup.sublist (List.sublist_append_left _ _) h1
        have hsl2 : (S' ++ Q).length ≤ 100000 := by
         have h1 := H.out.2.2.2.1
         rw [hpg, hP2] at h1
         simp only [List.length_append] at h1 ⊢
         omega
        have hdp2 : deep + 1 + d' ≤ 40 := by omega
        have hrec := IH.out d' (by omega) c L' Q S' (some aj) hi (.pointer (some ⟨gk, ok + j, none⟩)) vhi (deep + 1) wr hTc.1 (.inr ⟨hroot, hTc.2⟩) hnp2 hsl2 HJ.out.srt (fun y hy k hk => HJ.out.lb y hy k (by rw [if_neg (by omega), Nat.add_sub_cancel, haj]; exact hk)) (fun y hy k hk => HJ.out.ub y hy k hk) (hkp j aj haj) (H4.out.2.2.2.2.chg HJ.out.chg) hdp2 HJ.out.bt HJ.out.mp
        have t5 : decide (((j : Int) + 1) < (nd.keys.length : Int)) = false := decide_eq_false (by omega)
        clear hTc haj hQ hP20 hL20
        rw [show ((deep + 1 : Nat) : Int) = (deep : Int) + 1 from by omega] at hrec
        obtain ⟨c0, f0, s0⟩ := hb5.facts
        have hic : ((j : Int) + 1 : Int) < (nd.kids.length : Int) := by omega
        have hic2 : (j + 1) < nd.kids.length := by omega
        have HR := Lib.hid (And.intro hrec (And.intro hrest2 (And.intro hpg (And.intro hP2 (And.intro hZ (And.intro hsr2 (And.intro hlb2 hub2)))))))
        clear hcl hvl'
        (try clear hje)
        clear hrec hrest2 hpg hP2 hZ hsr2 hlb2 hub2 hroot hnp2 hsl2 hkp hPM hxk hxc hgc hgk hNk hNc hWc hb5 hci
        go_wp2_with fail
        refine HR.out.1.mono ?_
        rintro e w5 ⟨rfl, hbt5, hm5, hc5⟩
        have H5 := Lib.hid (And.intro hbt5 (And.intro hm5 hc5))
        clear hbt5 hm5 hc5 c0 f0 s0 hcc
        go_wp2_with fail
        go_roundg (nd.kids.length - ((j + 1) + 1))
        case measure => omega
        case rel => exact ⟨(j + 1) + 1, L2, P2, S' ++ Q, (d' : Int), rfl, by omega, by simp, rfl, fun e => by omega, fun _ => by omega, H5.out.1, H5.out.2.1, HR.out.2.1, HR.out.2.2.2.2.2.1, by rw [HR.out.2.2.1, HR.out.2.2.2.1]; simp, by rw [HR.out.2.2.2.2.1]; exact ⟨Z ++ Q, by simp⟩, HR.out.2.2.2.2.2.2.1, HR.out.2.2.2.2.2.2.2, Chg.trans HJ.out.chg H5.out.2.2 fun _ _ e => e⟩
     ·obtain rfl : i = nd.kids.length := by omega
      have hfin : S' = S ++ PM := by
       have hpg := HJ.out.pg
       have : P' = [] := by
        rcases HJ.out.rest with ⟨e1, e2, e3⟩ | ⟨-, -, e⟩
        ·cases d with
         | zero => exact (e2 rfl).2
         | succ d =>
          have := H.out.2.2.2.2.2.2.2.2.2.2.2.2.1.1.kids.resolve_left (fun e => by have := HX.out.2.1.1 e; omega)
          omega
        ·exact e
       rw [hpg, this, List.append_nil]
      have hbd : bv + 1 = (d : Int) := by
       by_cases hk0 : nd.kids.length = 0
       ·have := hbv0 hk0; have := HX.out.2.1.1 hk0; omega
       ·have := hbv1 (by omega); omega
      have HE := Lib.hid hfin
      have hbd2 : bv = (d : Int) - 1 := by omega
      subst hbd2
      clear hfin hbd hbv0 hbv1
      go_wp2_with fail
      go_ret2
      have h := HJ.out
      refine ⟨?_, h.bt, HE.out ▸ h.mp, Chg.trans H4.out.2.2.1 h.chg fun _ _ e => e⟩
      congr 4
end Go.Proofs.YtpkkcicaeldodaaGreatDoor

namespace Go.Proofs.YtpkkcicaeldodaaGreatDoor
open Go.RowKit Go.Maps

set_option maxRecDepth 100000 in
set_option maxHeartbeats 1600000 in
theorem bcheck_any (t p root D : Nat) (L : List KV) (P : List Nat) (F : Nat → Prop) (x : Rp) (w : World) (hb : BT w t p root F x) (hs : TS x D root L P) (hD : D ≤ 40) (hl : P.length ≤ 100000) :
  Calls Tryz.prog 14 #[.pointer (some ⟨t, 0, none⟩)] w fun e w' => e = .returned (.bool true) ∧ BT w' t p root F x ∧ Chg F w w' := by
 obtain ⟨W1, hW1⟩ : ∃ W, w.alloc (.map #[] 0) = W := ⟨_, rfl⟩
 have hg1 : Grew w W1 := hW1 ▸ (Chg.refl _ _).alloc _
 have hmp : IMap Tryz.prog 3 W1 w.heap.size (sM []) 0 := by
  rw [sM_nil, ← hW1]
  exact IMap.made _ _ _
 have hFl := hb.gp.lt
 have htl := hb.blk.lt
 have hpos := tab_pos hb.gp.tab
 have hlk := blook_any t p root w.heap.size F x ⟨fun e => by have := hFl _ e; omega, by omega, by omega⟩ D root L P [] none none (.pointer none) (.pointer none) 0 W1 hs.tr (.inl rfl) (by simpa using hs.nd) (by simpa using hl) hs.srt (fun _ _ k h => by cases h) (fun _ _ k h => by cases h) rfl rfl (by omega) (hb.grew hg1) hmp
 rw [show ((0 : Nat) : Int) = 0 from rfl] at hlk
 have hmm := @run_makeMap Tryz.prog
 obtain ⟨c0, f0, s0⟩ := (hb.grew hg1).blk.facts
 have c1 := hb.blk.cell 1
 have H := Lib.hid (And.intro hlk (And.intro hW1 (And.intro hg1 hFl)))
 clear hlk hmp hb hs hg1 hW1 hFl
 go_enter Tryz.func14, Tryz.ntmps14
 go_wp2_with (rw [H.out.2.1])
 refine H.out.1.mono ?_
 rintro e w2 ⟨rfl, hb2, -, hc2⟩
 have hc3 : Chg F w w2 := (Chg.trans (F := fun j => F j ∨ j = w.heap.size) H.out.2.2.1.chg hc2 fun j _ e => e).mono fun j hj e => e.resolve_right (by omega)
 have H2 := Lib.hid (And.intro hb2 hc3)
 clear hb2 hc2 hc3 c0 f0 s0
 go_wp2_with fail
 go_ret
 exact ⟨rfl, H2.out⟩
end Go.Proofs.YtpkkcicaeldodaaGreatDoor

namespace Go.Proofs.YtpkkcicaeldodaaGreatDoor
open Go.RowKit Go.Maps

theorem newer {w w1 w2 : World} {F : Nat → Prop} (h : Grew w w1) (hc : Chg F w1 w2) (hF : ∀ j, F j → w.heap.size ≤ j) : Grew w w2 := Chg.trans h hc fun i hi e => by have := hF i e; omega
theorem newerF {w w1 w2 : World} {F F' : Nat → Prop} (h : Grew w w1) (hc : Rch F F' w1 w2) (hF : ∀ j, F j → w.heap.size ≤ j) : ∀ j, F' j → w.heap.size ≤ j := fun j hj => (hc.new j hj).elim (hF j) fun e => Nat.le_trans h.size e
set_option maxRecDepth 100000 in
set_option maxHeartbeats 3200000 in
theorem bawake_any (w : World) (hT : TabAt 0 tab w) :
  Calls Tryz.prog 9 #[] w fun e w' => e = .returned (.bool true) ∧ Grew w w' := by
 have hfr := bfresh_any 12 64 w hT (by omega) (by omega) (by omega) (by omega) (by rw [opened12.1]; omega) (by rw [opened12.2.1]; omega)
 have H := Lib.hid hfr
 clear hfr hT
 go_enter Tryz.func9, Tryz.ntmps9
 go_wp2_with fail
 refine H.out.mono ?_
 rintro e w1 ⟨t, p, d, r, F, rfl, hr, hb, hg, hF, ht⟩
 have hts := tree0_ts (n := 12) (sz := 64) hr (by omega)
 have hp1 := bput2_any t p r 0 5 50 [] [r] F _ w1 hb (by simp [Rp.tree0, Rp.opened, Rp.begun, Rp.put]) hts (by simp) (by unfold i64; omega) (by unfold i64; omega)
 have H1 := Lib.hid (And.intro hp1 (And.intro hts (And.intro hg (And.intro hF ht))))
 clear hp1 hts hg hF ht hr hb
 go_wp2_with fail
 refine H1.out.1.mono ?_
 rintro e w2 hpu
 obtain ⟨rfl, y2, F2, D2, P2, hb2, hr2, hl2, ht2⟩ := put_sure hpu roomy12 tree0_like H1.out.2.1 (show 2 ≤ halfN 64 by decide) (by simp)
 have hL2 : putL [] 5 50 = [(5, 50)] := rfl
 rw [hL2] at ht2
 have hy2 : y2.sz = 64 := hl2.sz
 have hD2 := ht2.depth2 (by rw [hy2]; decide) (by simp)
 have hp2 := bput2_any t p r D2 3 30 [(5, 50)] P2 F2 y2 w2 hb2 (by rw [hl2.was]; simp [Rp.opened, Rp.begun]) ht2 (by simp) (by unfold i64; omega) (by unfold i64; omega)
 have hg2 := newer H1.out.2.2.1 hr2.chg H1.out.2.2.2.1
 have hF2 := newerF H1.out.2.2.1 hr2 H1.out.2.2.2.1
 have H2 := Lib.hid (And.intro hp2 (And.intro ht2 (And.intro hl2 (And.intro hD2 (And.intro hg2 hF2)))))
 clear hp2 ht2 hl2 hD2 hg2 hF2 hb2 hr2 hL2 hpu
 go_wp2_with fail
 refine H2.out.1.mono ?_
 rintro e w3 hpu
 obtain ⟨rfl, y3, F3, D3, P3, hb3, hr3, hl3, ht3⟩ := put_sure hpu roomy12 H2.out.2.2.1 H2.out.2.1 (by rw [hy2]; decide) (by rw [H2.out.2.2.2.1]; simp)
 have hL3 : putL [(5, 50)] 3 30 = [(3, 30), (5, 50)] := rfl
 rw [hL3] at ht3
 have hy3 : y3.sz = 64 := hl3.sz
 have hD3 := ht3.depth2 (by rw [hy3]; decide) (by simp)
 have hg3 := newer H2.out.2.2.2.2.1 hr3.chg H2.out.2.2.2.2.2
 have hF3 := newerF H2.out.2.2.2.2.1 hr3 H2.out.2.2.2.2.2
 have hge := bget2_any t p r (halfN y3.sz) D3 3 _ P3 F3 y3 w3 hb3 ht3.tr ht3.srt (by omega) ht3.nd
 rw [show getK [((3 : Int), (30 : Int)), (5, 50)] 3 = some 30 from rfl] at hge
 have H3 := Lib.hid (And.intro hge (And.intro ht3 (And.intro hD3 (And.intro hg3 hF3))))
 clear hge ht3 hD3 hg3 hF3 hb3 hr3 hL3 hpu hl3
 go_wp2_with fail
 refine H3.out.1.mono ?_
 rintro e w4 ⟨rfl, hb4, hc4⟩
 have hge := bget2_any t p r (halfN y3.sz) D3 4 _ P3 F3 y3 w4 hb4 H3.out.2.1.tr H3.out.2.1.srt (by have := H3.out.2.2.1; omega) H3.out.2.1.nd
 rw [show getK [((3 : Int), (30 : Int)), (5, 50)] 4 = none from rfl] at hge
 have hg4 := newer H3.out.2.2.2.1 hc4 H3.out.2.2.2.2
 have H4 := Lib.hid (And.intro hge hg4)
 simp only [gV, gE]
 clear hge hg4 hb4 hc4
 go_wp2_with fail
 refine H4.out.1.mono ?_
 rintro e w5 ⟨rfl, hb5, hc5⟩
 have hle := blen_any t p r D3 _ P3 F3 y3 w5 hb5 H3.out.2.1 (by simp)
 have hg5 := newer H4.out.2 hc5 H3.out.2.2.2.2
 have H5 := Lib.hid (And.intro hle hg5)
 simp only [gV, gE]
 clear hle hg5 hb5 hc5
 go_wp2_with fail
 refine H5.out.1.mono ?_
 rintro e w6 ⟨rfl, hb6, hc6⟩
 have hch := bcheck_any t p r D3 _ P3 F3 y3 w6 hb6 H3.out.2.1 (by have := H3.out.2.2.1; omega) (by have := H3.out.2.1.tr.pages (by rw [hy3]; decide); simp at this; omega)
 have hg6 := newer H5.out.2 hc6 H3.out.2.2.2.2
 have H6 := Lib.hid (And.intro hch hg6)
 simp only [List.length_cons, List.length_nil]
 clear hch hg6 hb6 hc6
 go_wp2_with fail
 refine H6.out.1.mono ?_
 rintro e w7 ⟨rfl, hb7, hc7⟩
 have H7 := Lib.hid (newer H6.out.2 hc7 H3.out.2.2.2.2)
 clear hb7 hc7
 go_wp2_with fail
 go_ret
 exact ⟨rfl, H7.out⟩
end Go.Proofs.YtpkkcicaeldodaaGreatDoor

namespace Go.Proofs.YtpkkcicaeldodaaGreatDoor
open Go.RowKit Go.Maps

def fo (ks : List Int) : List KV := ks.foldl (fun L k => putL L k k) []
structure OJ (w W : World) (ta pa ra tb pb rb : Nat) (Fa Fb : Nat → Prop) (ya yb : Rp) (Da Db : Nat) (La Lb : List KV) (Pa Pb : List Nat) (A : Option Addr) (Lx : List KV) : Prop where
 a : BT W ta pa ra Fa ya
 b : BT W tb pb rb Fb yb
 sa : TS ya Da ra La Pa
 sb : TS yb Db rb Lb Pb
 la : (Rp.opened 400 64).like ya
 lb : (Rp.opened 400 64).like yb
 dis : ∀ j, Fa j → ¬ Fb j
 nab : ¬ Fa tb ∧ ¬ Fb ta
 gr : Grew w W
 fa : ∀ j, Fa j → w.heap.size ≤ j
 fb : ∀ j, Fb j → w.heap.size ≤ j
 x : Sl W 2 A Lx.length (kvs2 Lx)
 xf : ∀ q, A = some q → ¬ Fa q.block ∧ ¬ Fb q.block ∧ q.block < W.heap.size
section
variable {w W W' : World} {ta pa ra tb pb rb : Nat} {Fa Fb F' : Nat → Prop} {ya yb y' : Rp} {Da Db D' : Nat} {La Lb L' : List KV} {Pa Pb P' : List Nat} {A : Option Addr} {Lx : List KV}
end
end Go.Proofs.YtpkkcicaeldodaaGreatDoor

namespace Go.Proofs.YtpkkcicaeldodaaGreatDoor
open Go.RowKit Go.Maps
attribute [local go_sem] Oper.semAt_some

def stsL (l : List Trop) : List KV := l.foldl stL []
theorem stL_len (L : List KV) (o : Trop) : (stL L o).length ≤ L.length + 1 := by
 unfold stL
 split
 ·exact putL_le _ _ _
 ·split
  ·unfold delL; have := List.length_filter_le (fun x : KV => decide (x.1 ≠ o.key)) L; omega
  ·omega
theorem stsL_snoc (l : List Trop) (o : Trop) : stsL (l ++ [o]) = stL (stsL l) o := by simp [stsL]
theorem stsL_le : ∀ (l : List Trop) (L : List KV), (l.foldl stL L).length ≤ L.length + l.length
 | [], L => by simp
 | o :: l, L => by
  have h1 := stsL_le l (stL L o)
  have h2 := stL_len L o
  simp only [List.foldl_cons, List.length_cons]
  omega
theorem stsL_len (l : List Trop) : (stsL l).length ≤ l.length := by have := stsL_le l []; simpa [stsL] using this
theorem geL_drop {L : List KV} {k : Int} {n : Nat} (hs : Srt L) (hn : n ≤ L.length) (h1 : ∀ x ∈ L.take n, x.1 < k) (h2 : ∀ x, L[n]? = some x → k ≤ x.1) : geL L k = L.drop n := by
 conv => lhs; rw [← List.take_append_drop n L]
 rw [geL_app, geL_none h1, List.nil_append]
 refine geL_all fun x hx => ?_
 obtain ⟨j, hj⟩ := List.mem_iff_getElem?.1 hx
 rw [List.getElem?_drop] at hj
 by_cases e : j = 0
 ·subst e; exact h2 x hj
 ·obtain ⟨y, hy⟩ : ∃ y, L[n]? = some y := ⟨_, List.getElem?_eq_getElem (by have := (List.getElem?_eq_some_iff.1 hj).1; omega)⟩
  have h3 := h2 y hy
  obtain ⟨l1, e1⟩ := List.getElem?_eq_some_iff.1 hy
  obtain ⟨l2, e2⟩ := List.getElem?_eq_some_iff.1 hj
  have := List.pairwise_iff_getElem.1 hs n (n + j) l1 l2 (by omega)
  rw [e1, e2] at this
  omega
structure EJ (w W : World) (t p r bx : Nat) (x0 : Rp) (L : List KV) (F : Nat → Prop) (y : Rp) (D : Nat) (P : List Nat) (A : Option Addr) (c : Nat) : Prop where
 bt : BT W t p r F y
 ts : TS y D r L P
 like : x0.like y
 gr : Grew w W
 fn : ∀ j, F j → w.heap.size ≤ j ∧ j ≠ bx
 xb : Blk W bx 29 #[.slice A L.length c]
 sl : Sl W 2 A L.length (kvs2 L)
 af : ∀ a, A = some a → ¬ F a.block ∧ a.block < W.heap.size ∧ a.block ≠ bx ∧ w.heap.size ≤ a.block
 tx : t ≠ bx ∧ bx ≠ 0 ∧ w.heap.size ≤ bx ∧ w.heap.size ≤ t
section
variable {w W W1 W2 : World} {t p r bx : Nat} {x0 : Rp} {L R : List KV} {F F' : Nat → Prop} {y : Rp} {D : Nat} {P : List Nat} {A : Option Addr} {c : Nat}
theorem EJ.grew (h : EJ w W t p r bx x0 L F y D P A c) (hg : Grew W W1) : EJ w W1 t p r bx x0 L F y D P A c :=
 ⟨h.bt.grew hg, h.ts, h.like, Grew.trans h.gr hg, h.fn, h.xb.grew hg, h.sl.grew hg, fun a ha => by have h1 := h.af a ha; have := hg.size; exact ⟨h1.1, by omega, h1.2.2⟩, h.tx⟩
theorem EJ.step {e : Ending} (h : EJ w W t p r bx x0 L F y D P A c) (hs : StpOut W W1 t p r F x0 A R e) :
  ∃ A' c', e = .returned (.tuple #[.slice A' R.length c', .bool true]) ∧ (∃ u, W1.cell? ⟨bx, 0, none⟩ = some u) ∧ W1.frozen? ⟨bx, 0, none⟩ = false ∧ ∀ W2, W1.setCell ⟨bx, 0, none⟩ (.slice A' R.length c') = W2 → ∃ F' y' D' P', EJ w W2 t p r bx x0 R F' y' D' P' A' c' := by
 obtain ⟨A', c', y', F', D', P', rfl, h1, h2, h3, h4, h5, h6⟩ := hs
 have hbx : ¬ F bx := fun e => (h.fn bx e).2 rfl
 have hb1 := h.xb.chg h2.chg hbx
 have hbl := h.xb.lt
 refine ⟨A', c', rfl, ⟨_, hb1.cell 0⟩, hb1.frozen 0, fun W2 hW => ⟨F', y', D', P', ?_⟩⟩
 have hc : Chg (fun j => j = bx) W1 W2 := hW ▸ (Chg.refl (fun j => j = bx) W1).setCell (p := ⟨bx, 0, none⟩) (fun _ => rfl) _
 have hz := h.gr.size
 have hz1 := h2.chg.size
 have hF' : ∀ j, F' j → w.heap.size ≤ j ∧ j ≠ bx := fun j hj => (h2.new j hj).elim (h.fn j) fun e => by omega
 have ha : ∀ a, A' = some a → ¬ F' a.block ∧ a.block < W1.heap.size ∧ a.block ≠ bx ∧ w.heap.size ≤ a.block := fun a ha => by
  obtain ⟨g1, g2, g3⟩ := h6 a ha
  rcases g3 with e | e
  ·have := h.af a e; exact ⟨g1, g2, this.2.2⟩
  ·exact ⟨g1, g2, by omega, by omega⟩
 refine ⟨h1.chg hc (fun j hj e => (hF' j hj).2 e) (fun e => h.tx.2.1 e.symm) (fun e => h.tx.1 e), h4, h3, Chg.trans (Chg.trans h.gr h2.chg fun j hj e => by have := (h.fn j e).1; omega) hc fun j hj e => by have := h.tx.2.2.1; omega, hF', ?_, h5.chg hc fun a h9 e => (ha a h9).2.2.1 e, fun a h9 => by have h1 := ha a h9; have := hc.size; exact ⟨h1.1, by omega, h1.2.2⟩, h.tx⟩
 subst hW
 have := hb1.put 0 (.slice A' R.length c')
 simpa using this
end
end Go.Proofs.YtpkkcicaeldodaaGreatDoor
