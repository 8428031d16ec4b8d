/- BtreeOrders returns true, for every input. It has no condition; the table of math/bits that its row lists is tied to the program. -/
import Derived.Test.YtpkkcicaeldodaaGreatDoorMgBtreeOrders6
import Derived.Test.YtpkkcicaeldodaaGreatDoorRows
import Derived.Test.YtpkkcicaeldodaaGreatDoorTie
import Derived.Test.YtpkkcicaeldodaaGreatDoorCards
import Derived.Lib.LaidTab
import Derived.LaidLaws
import Derived.LaidHandle
import Derived.SevenTiedAt
import Derived.ProofKit
import Derived.OpenShut
import Derived.ShutString
import Derived.ChangeOld
import Derived.Deep.Slices
import Derived.Deep.Fields
set_option linter.unusedSimpArgs false
set_option linter.unusedVariables false

/- The tree: Put, walked. (Printed by genBtY.py.) -/
namespace Go.Proofs.YtpkkcicaeldodaaGreatDoor
open Go.RowKit Go.Maps

set_option maxRecDepth 100000 in
set_option maxHeartbeats 6400000 in
theorem bput2_any (t p root D0 : Nat) (k v : Int) (L : List KV) (P : List Nat) (F : Nat → Prop) (x : Rp) (w : World) (hb : BT w t p root F x) (ho : x.was ≠ none) (hs : TS x D0 root L P) (hl : L.length ≤ 1000) (hk : i64 k) (hv : i64 v) :
    Calls Tryz.prog 11 #[.pointer (some ⟨t, 0, none⟩), .int .i64 k, .int .i64 v] w fun e w' => PuOut w w' t p root F x D0 k v L e := by
  have hz := hb.gp.szs
  have hh := half_two hz.2.2.1
  have hD := hs.depth hh hl
  have hway := bway_any t p root (halfN x.sz) D0 k L P F x w hb hs.tr hs.srt (by omega)
  have H := Lib.hid (And.intro hb (And.intro ho (And.intro hs (And.intro hl (And.intro hk (And.intro hv (And.intro hz (And.intro hh (And.intro hD hway)))))))))
  clear hb ho hs hl hk hv hz hh hD hway
  go_enter Tryz.func11, Tryz.ntmps11
  go_wp2_with fail
  refine H.out.2.2.2.2.2.2.2.2.2.mono ?_
  rintro e w1 ⟨b, N, d, q, nd, A, M, B, P1, PM, P2, rfl, hnd, hNn, hbt, hc1, hw, hor⟩
  have hg := hw.get H.out.2.2.1.srt H.out.2.2.1.nd
  obtain ⟨fb, hfb⟩ : ∃ f, nd.keys.contains k = f := ⟨_, rfl⟩
  obtain ⟨ii, hii⟩ : ∃ i, atI nd.keys k = i := ⟨_, rfl⟩
  rw [hfb, hii] at hg ⊢
  have HN := Lib.hid (And.intro hnd (And.intro hNn (And.intro hw (And.intro hfb hii))))
  clear hnd hNn hw hii
  cases fb with
  | true =>
    obtain ⟨v0, hv0, -⟩ := hg.1 rfl
    have hil := (List.getElem?_eq_some_iff.1 hv0).1
    obtain ⟨gv, ck, cv, cc, Ak, Ac, bB, hgN, hgl, ⟨u, hcu⟩, hfr, hset⟩ := HN.out.1.setVal hil
    obtain ⟨W2, hW2⟩ : ∃ W, w1.setCell ⟨gv, ii, none⟩ (.int .i64 v) = W := ⟨_, rfl⟩
    obtain ⟨hn2, hc2⟩ := hset v W2 hW2
    have hz1 := hc1.size
    have hpos := tab_pos H.out.1.gp.tab
    have htl := H.out.1.blk.lt
    have hNF : ∀ j, N j → ¬ F j := fun j hj e => by have := HN.out.2.1 j hj; have := H.out.1.gp.lt j e; omega
    have hbt2 : BT W2 t p root F x := hbt.chg hc2 (fun j hj e => hNF j e hj) (fun e => by have := HN.out.2.1 _ e; omega) (fun e => by have := HN.out.2.1 _ e; omega)
    have hft := (H.out.1.gp.fit HN.out.2.2.1.nd).1
    have hfit : ({ nd with vals := nd.vals.set ii v } : Nd).Fit x.sz := ⟨by simp only [List.length_set]; exact hft.vals, hft.most, hft.kids, hft.ki, fun a ha => (List.mem_or_eq_of_mem_set ha).elim (hft.vi a) fun e => e ▸ H.out.2.2.2.2.2.1, hft.ci⟩
    obtain ⟨cq, q1, q2⟩ := H.out.2.2.1.pgs q HN.out.2.2.1.q_mem
    have hNb : N b := by obtain ⟨_, _, _, _, _, _, -, -, -, -, hNb, -⟩ := HN.out.1.at; exact hNb
    have hsv := bsave_any t p root b q F N x cq { nd with vals := nd.vals.set ii v } W2 hbt2 hn2.at hfit H.out.2.1 q1 q2 (hNF b hNb)
    obtain ⟨d9, f9, s9⟩ := bB.facts
    have H2 := Lib.hid (And.intro hsv (And.intro hW2 (And.intro hbt2 (And.intro hfit (And.intro (show Chg F w W2 from Chg.trans hc1 hc2 fun j hj e => by have := HN.out.2.1 j e; omega) (And.intro q1 q2))))))
    have hiN : (ii : Int) < (nd.vals.length : Int) := by omega
    clear hsv hW2 hbt2 hfit hft hNF hn2 hc2 hset bB q1 q2 hg hv0 hor hbt hNb hfb
    go_wp2_with fail
    rw [H2.out.2.1]
    refine H2.out.1.mono ?_
    rintro e w' (⟨rfl, hto⟩ | ⟨hns, -, rfl, hg⟩)
    · have hout : PuOut w w' t p root F x D0 k v L (.returned (.int .i64 0)) := by
        obtain ⟨F2, h1, h2, h3⟩ := hto
        obtain ⟨-, -, -, hfit, hcW, q1, q2⟩ := H2.out
        have hsz := hcW.size
        have ht := HN.out.2.2.1.upd (v := v) (rd' := (x.put q (.new (ndL { nd with vals := nd.vals.set ii v } x.sz))).nd) H.out.2.2.1.srt H.out.2.2.1.nd HN.out.2.2.2.1 (by rw [HN.out.2.2.2.2]; exact Rp.nd_new hfit (List.getElem?_eq_some_iff.1 q1).1 H.out.2.2.2.2.2.2.1.2.2.2.1) fun i _ hi => Rp.nd_other hi
        exact .inl ⟨rfl, _, F2, D0, P, h1, ⟨Chg.trans hcW h2 fun _ _ e => e, fun j hj => (h3 j hj).imp id fun e => by omega⟩, x.put_like _ _, H.out.2.2.1.write HN.out.2.2.1.q_mem ht (putL_srt H.out.2.2.1.srt k v)⟩
      have HO := Lib.hid hout
      clear hout hto
      go_wp2_with fail
      go_ret
      exact HO.out
    · have hout : PuOut w w' t p root F x D0 k v L (.returned (.int .i64 21)) := .inr ⟨rfl, x, ⟨F, H2.out.2.2.1.grew hg, H2.out.2.2.2.2.1.grew hg, fun _ e => .inl e⟩, Rp.like.refl x, by omega, fun e => hns e.1⟩
      have HO := Lib.hid hout
      clear hout hns hg
      go_wp2_with fail
      go_ret
      exact HO.out
  | false =>
    have hget : getK L k = none := hg.2 rfl (hor.resolve_left (by rw [HN.out.2.2.2.1]; simp))
    obtain ⟨ndR, hwR⟩ := WayAt.start (k := k) H.out.2.2.1.tr
    obtain ⟨cr, r1, r2, r3⟩ := Rp.nd_some hwR.nd
    have hklR : ndR.keys.length ≤ 300 := by have h1 := (H.out.1.gp.fit hwR.nd).1.most; have h2 := H.out.1.gp.szs; unfold mostN at h1; omega
    have hld := bload_any t p root root F x cr ndR w1 hbt r1 r2 r3
    obtain ⟨c0, f0, s0⟩ := hbt.blk.facts
    have H1 := Lib.hid (And.intro hwR (And.intro hc1 (And.intro hld hget)))
    clear hget hwR r1 r2 r3 hld hc1 hbt hg hor
    go_wp2_with fail
    refine H1.out.2.2.1.mono ?_
    rintro e w2 ⟨b2, N2, rfl, hnd2, hN2, hbt2, hc2⟩
    have hfu := bfull_any t p root b2 root F N2 x ndR w2 hbt2 hnd2.at hklR
    have HF2 := Lib.hid (And.intro hfu (And.intro hnd2 (And.intro hN2 (And.intro hbt2 hc2))))
    clear hfu hnd2 hN2 hbt2 hc2 c0 f0 s0
    go_wp2_with fail
    by_cases hfull : 2 * halfN x.sz - 1 ≤ ndR.keys.length
    · have t5 : decide (2 * halfN x.sz - 1 ≤ ndR.keys.length) = true := decide_eq_true hfull
      have t6 : decide (2 * halfN x.sz ≤ ndR.keys.length + 1) = true := decide_eq_true (by omega)
      refine HF2.out.1.mono ?_
      rintro e w3 ⟨rfl, hg3⟩
      have hz1 := H1.out.2.1.size
      have hz2 := HF2.out.2.2.2.2.size
      have hz3 := hg3.size
      have hpos := tab_pos H.out.1.gp.tab
      have htl := H.out.1.blk.lt
      have hnode : ndR.keys.length = 2 * halfN x.sz - 1 := by
        obtain ⟨nd', g1, -, g2, -⟩ := H1.out.1.tr.node
        rw [H1.out.1.nd] at g1
        cases g1
        omega
      have hgr := bgrow_any t p root b2 D0 L P F N2 x ndR w3 (HF2.out.2.2.2.1.grew hg3) H.out.2.1 H.out.2.2.1 (HF2.out.2.1.grew hg3) H1.out.1.nd hnode (fun j hj e => by have := HF2.out.2.2.1 j hj; have := H.out.1.gp.lt j e; omega) ⟨fun e => by have := HF2.out.2.2.1 _ e; omega, fun e => by have := HF2.out.2.2.1 _ e; omega⟩
      have hcW : Chg F w w3 := (Chg.trans H1.out.2.1 HF2.out.2.2.2.2 fun _ _ e => e).grew hg3
      have H3 := Lib.hid (And.intro hgr hcW)
      clear hgr hcW hnode hg3 hfull
      go_wp2_with fail
      refine H3.out.1.mono ?_
      rintro e w4 (⟨b5, N5, nd5, F5, y5, P5, rfl, k1, k2, k3, k4, k5, k6, k7, k8, k9, k10, k11⟩ | ⟨v5, rfl, hfu⟩)
      · obtain ⟨nd6, hw6⟩ := WayAt.start (k := k) k7.tr
        obtain rfl : nd6 = nd5 := by have := hw6.nd; rw [k9] at this; cases this; rfl
        have hJ0 : PuJ w w4 t p root F x k L b5 (D0 + 1) root nd6 F5 y5 (D0 + 1) P5 [] L [] [] P5 [] N5 D0 := ⟨k1, ⟨Chg.trans H3.out.2 k2 fun j hj e => e.resolve_right fun e => by have := HF2.out.2.2.1 j e; omega, fun j hj => (k3 j hj).imp id fun e => by omega⟩, k8, k7, hw6, k4, k5, fun j hj => by have := k6 j hj; omega, by have := half_two k1.gp.szs.2.2.1; omega, by omega, by have := H.out.2.2.2.2.2.2.2.2.1; omega, htl⟩
        obtain ⟨d0, hd0⟩ : ∃ d0, D0 + 1 = d0 := ⟨_, rfl⟩
        rw [hd0] at hJ0
        have HJ0 := Lib.hid hJ0
        clear hJ0 hd0 k1 k2 k3 k4 k5 k6 k7 k8 k9 k10 k11 hw6 hz1 hz2 hz3 hpos htl
        go_wp2_with fail
        go_loopg [11, 12] (d0 + 1) (fun m n e wr => ∃ (bn d q : Nat) (nd : Nd) (F' : Nat → Prop) (y : Rp) (D : Nat) (P : List Nat) (A M B : List KV) (P1 PM P2 : List Nat) (N : Nat → Prop), m = d + 1 ∧ n = .pointer (some ⟨bn, 0, none⟩) ∧ e = .int .i64 0 ∧ PuJ w wr t p root F x k L bn d q nd F' y D P A M B P1 PM P2 N D0)
        case atStart => exact ⟨_, d0, _, _, _, _, _, _, _, _, _, _, _, _, _, rfl, rfl, rfl, HJ0.out⟩
        case round =>
          obtain ⟨bn, d, q, nd, F', y, D, P, A, M, B, P1, PM, P2, N, rfl, rfl, rfl, hJ⟩ := hrel
          have HJ := Lib.hid hJ
          have hkl : nd.keys.length ≤ 300 := by have h1 := (hJ.bt.gp.fit hJ.way.nd).1.most; have h2 := hJ.bt.gp.szs; unfold mostN at h1; omega
          have hlf := leaf_any bn q nd N wr hJ.own.at
          have hks := hJ.way.tr.keys hJ.way.nd (hJ.way.srt hJ.ts.srt)
          have hpl := bplace_any bn q nd N k wr hJ.own.at hks (by omega)
          have hmiss := hJ.way.miss H1.out.2.2.2
          obtain ⟨ii, hii⟩ : ∃ i, atI nd.keys k = i := ⟨_, rfl⟩
          rw [hmiss, hii] at hpl
          have HL := Lib.hid (And.intro hlf (And.intro hpl (And.intro hmiss hii)))
          clear hlf hpl hks hmiss hii hJ
          by_cases h0 : nd.kids.length = 0
          · have t1 : decide (nd.kids.length = 0) = true := decide_eq_true h0
            obtain rfl : d = 0 := by
              obtain ⟨nd', g1, -, -, g2⟩ := HJ.out.way.tr.node
              rw [HJ.out.way.nd] at g1
              cases g1
              exact g2.1 h0
            go_wp2_with (go_at_call 41; (refine HL.out.1.mono ?_); rintro e w5 ⟨rfl, rfl⟩)
            refine HL.out.2.1.mono ?_
            rintro e w4 ⟨rfl, hg4⟩
            have H4 := Lib.hid (And.intro trivial (And.intro hg4 (And.intro HL.out.2.2.1 HL.out.2.2.2)))
            clear hg4
            obtain ⟨vk, vv, vc, hV⟩ := (HJ.out.own.grew H4.out.2.1).v
            have hne := hV.ne
            have HV := Lib.hid hV
            have hS : w4.drew.cell? ⟨bn, 1, none⟩ = some vk ∧ w4.drew.cell? ⟨bn, 2, none⟩ = some vv := ⟨hV.blk.drew.cell 1, hV.blk.drew.cell 2⟩
            have hiil : ii ≤ nd.keys.length := by rw [← H4.out.2.2.2]; exact atI_le _ _
            have hvl : nd.vals.length = nd.keys.length := (HJ.out.bt.gp.fit HJ.out.way.nd).1.vals
            have hp4 : 1 ≤ w4.heap.size := by have := tab_pos H.out.1.gp.tab; have := HJ.out.rch.chg.size; have := H4.out.2.1.size; omega
            have hkc : nd.kids = [] := List.eq_nil_of_length_eq_zero h0
            have HP := Lib.hid (And.intro hne (And.intro hiil (And.intro hvl (And.intro hp4 (And.intro hkl hkc)))))
            clear hV hne hiil hvl hp4 hkc
            go_wp2_with fail
            refine wp_region_x [1, 10, 11, 12, 14, 15, 20, 21, 22, 23] (S := fun w' => w'.cell? ⟨bn, 1, none⟩ = some vk ∧ w'.cell? ⟨bn, 2, none⟩ = some vv) (by kernel_rfl) hS (fun hHeld => ?_)
            refine wpAnyX_takeP (i := 1) (v := ?_) rfl (by kernel_rfl) (by kernel_rfl) (by kernel_rfl) (by rfl) (fun _ _ _ h => h) (Or.inl ⟨by rfl, ?_⟩) ?_
            rotate_left
            · (intro w hSw; go_simp) <;> with_reducible rfl
            (try simp only [Act.put, List.setIfInBounds_toArray, List.set_cons_zero, List.set_cons_succ, List.getElem_toArray, List.getElem_cons_zero, List.getElem_cons_succ])
            refine wpAnyX_takeP (i := 10) (v := ?_) rfl (by kernel_rfl) (by kernel_rfl) (by kernel_rfl) (by rfl) (fun _ _ _ h => h) (Or.inl ⟨by rfl, ?_⟩) ?_
            rotate_left
            · (intro w hSw; go_simp) <;> with_reducible rfl
            (try simp only [Act.put, List.setIfInBounds_toArray, List.set_cons_zero, List.set_cons_succ, List.getElem_toArray, List.getElem_cons_zero, List.getElem_cons_succ])
            refine wpAnyX_takeP (i := 11) (v := ?_) rfl (by kernel_rfl) (by kernel_rfl) (by kernel_rfl) (by rfl) (fun _ _ _ h => h) (Or.inl ⟨by rfl, ?_⟩) ?_
            rotate_left
            · (intro w hSw; go_simp) <;> with_reducible rfl
            (try simp only [Act.put, List.setIfInBounds_toArray, List.set_cons_zero, List.set_cons_succ, List.getElem_toArray, List.getElem_cons_zero, List.getElem_cons_succ])
            refine wpAnyX_takeP (i := 12) (v := ?_) rfl (by kernel_rfl) (by kernel_rfl) (by kernel_rfl) (by rfl) (fun _ _ _ h => h) (Or.inl ⟨by rfl, ?_⟩) ?_
            rotate_left
            · (intro w hSw; go_simp) <;> with_reducible rfl
            (try simp only [Act.put, List.setIfInBounds_toArray, List.set_cons_zero, List.set_cons_succ, List.getElem_toArray, List.getElem_cons_zero, List.getElem_cons_succ])
            refine wpAnyX_takeP (i := 14) (v := ?_) rfl (by kernel_rfl) (by kernel_rfl) (by kernel_rfl) (by rfl) (fun _ _ _ h => h) (Or.inl ⟨by rfl, ?_⟩) ?_
            rotate_left
            · (intro w hSw; go_simp) <;> with_reducible rfl
            (try simp only [Act.put, List.setIfInBounds_toArray, List.set_cons_zero, List.set_cons_succ, List.getElem_toArray, List.getElem_cons_zero, List.getElem_cons_succ])
            refine wpAnyX_takeP (i := 15) (v := ?_) rfl (by kernel_rfl) (by kernel_rfl) (by kernel_rfl) (by rfl) (fun _ _ _ h => h) (Or.inl ⟨by rfl, ?_⟩) ?_
            rotate_left
            · (intro w hSw; go_simp) <;> with_reducible rfl
            (try simp only [Act.put, List.setIfInBounds_toArray, List.set_cons_zero, List.set_cons_succ, List.getElem_toArray, List.getElem_cons_zero, List.getElem_cons_succ])
            refine wpAnyX_mono (X' := [20, 21, 22, 23]) (fun i hi => by simp at hi ⊢; omega) _ _ _ _ ?_
            refine wpAnyX_take (i := 0) (v := ?_) rfl (by kernel_rfl) (by kernel_rfl) (by kernel_rfl) (by kernel_rfl) (fun _ _ _ h => h) (Or.inl ⟨by rfl, ?_⟩) hHeld ?_
            rotate_left
            · (intro w hSw; (try dsimp only at hSw); go_simp) <;> with_reducible rfl
            (try simp only [Act.put, List.setIfInBounds_toArray, List.set_cons_zero, List.set_cons_succ, List.getElem_toArray, List.getElem_cons_zero, List.getElem_cons_succ])
            refine wpAnyX_take (i := 2) (v := ?_) rfl (by kernel_rfl) (by kernel_rfl) (by kernel_rfl) (by kernel_rfl) (fun _ _ _ h => h) (Or.inl ⟨by rfl, ?_⟩) hHeld ?_
            rotate_left
            · (intro w hSw; (try dsimp only at hSw); go_simp) <;> with_reducible rfl
            (try simp only [Act.put, List.setIfInBounds_toArray, List.set_cons_zero, List.set_cons_succ, List.getElem_toArray, List.getElem_cons_zero, List.getElem_cons_succ])
            refine wpAnyX_take (i := 3) (v := ?_) rfl (by kernel_rfl) (by kernel_rfl) (by kernel_rfl) (by kernel_rfl) (fun _ _ _ h => h) (Or.inl ⟨by rfl, ?_⟩) hHeld ?_
            rotate_left
            · (intro w hSw; (try dsimp only at hSw); go_simp) <;> with_reducible rfl
            (try simp only [Act.put, List.setIfInBounds_toArray, List.set_cons_zero, List.set_cons_succ, List.getElem_toArray, List.getElem_cons_zero, List.getElem_cons_succ])
            refine wpAnyX_take (i := 4) (v := ?_) rfl (by kernel_rfl) (by kernel_rfl) (by kernel_rfl) (by kernel_rfl) (fun _ _ _ h => h) (Or.inl ⟨by rfl, ?_⟩) hHeld ?_
            rotate_left
            · (intro w hSw; (try dsimp only at hSw); go_simp) <;> with_reducible rfl
            (try simp only [Act.put, List.setIfInBounds_toArray, List.set_cons_zero, List.set_cons_succ, List.getElem_toArray, List.getElem_cons_zero, List.getElem_cons_succ])
            refine wpAnyX_take (i := 5) (v := ?_) rfl (by kernel_rfl) (by kernel_rfl) (by kernel_rfl) (by kernel_rfl) (fun _ _ _ h => h) (Or.inl ⟨by rfl, ?_⟩) hHeld ?_
            rotate_left
            · (intro w hSw; (try dsimp only at hSw); go_simp) <;> with_reducible rfl
            (try simp only [Act.put, List.setIfInBounds_toArray, List.set_cons_zero, List.set_cons_succ, List.getElem_toArray, List.getElem_cons_zero, List.getElem_cons_succ])
            refine wpAnyX_take (i := 6) (v := ?_) rfl (by kernel_rfl) (by kernel_rfl) (by kernel_rfl) (by kernel_rfl) (fun _ _ _ h => h) (Or.inl ⟨by rfl, ?_⟩) hHeld ?_
            rotate_left
            · (intro w hSw; (try dsimp only at hSw); go_simp) <;> with_reducible rfl
            (try simp only [Act.put, List.setIfInBounds_toArray, List.set_cons_zero, List.set_cons_succ, List.getElem_toArray, List.getElem_cons_zero, List.getElem_cons_succ])
            refine wpAnyX_take (i := 7) (v := ?_) rfl (by kernel_rfl) (by kernel_rfl) (by kernel_rfl) (by kernel_rfl) (fun _ _ _ h => h) (Or.inl ⟨by rfl, ?_⟩) hHeld ?_
            rotate_left
            · (intro w hSw; (try dsimp only at hSw); go_simp) <;> with_reducible rfl
            (try simp only [Act.put, List.setIfInBounds_toArray, List.set_cons_zero, List.set_cons_succ, List.getElem_toArray, List.getElem_cons_zero, List.getElem_cons_succ])
            refine wpAnyX_take (i := 13) (v := ?_) rfl (by kernel_rfl) (by kernel_rfl) (by kernel_rfl) (by kernel_rfl) (fun _ _ _ h => h) (Or.inl ⟨by rfl, ?_⟩) hHeld ?_
            rotate_left
            · (intro w hSw; (try dsimp only at hSw); go_simp) <;> with_reducible rfl
            (try simp only [Act.put, List.setIfInBounds_toArray, List.set_cons_zero, List.set_cons_succ, List.getElem_toArray, List.getElem_cons_zero, List.getElem_cons_succ])
            refine wpAnyX_ready (rs := [8, 16]) (by kernel_rfl) (by simp) ?_
            refine AllReadyX.cons rfl (fun K hK => ?_) (AllReadyX.cons rfl (fun K hK => ?_) AllReadyX.nil)
            · go_simp
              obtain ⟨W6, hW6⟩ : ∃ W, (w4.alloc (.cells #[.int .i64 k] 3)).drew = W := ⟨_, rfl⟩
              rw [hW6]
              have gW6 : Grew w4 W6 := hW6 ▸ ((Chg.refl NoF w4).alloc _).drew
              have lW6 : Blk W6 w4.heap.size 3 #[.int .i64 k] := hW6 ▸ (Blk.new w4 _ _).drew
              have hR6 := HV.out.rws.grew gW6
              have hB6 := HV.out.blk.grew gW6
              refine hK.out _ _ (fun _ => (⟨(hB6).cell 1, (hB6).cell 2⟩ : W6.cell? ⟨bn, 1, none⟩ = some vk ∧ W6.cell? ⟨bn, 2, none⟩ = some vv)) ?_
              clear hK K
              (try simp only [Act.put, List.setIfInBounds_toArray, List.set_cons_zero, List.set_cons_succ, List.getElem_toArray, List.getElem_cons_zero, List.getElem_cons_succ])
              refine wpAnyX_ready (rs := [9, 16]) (by kernel_rfl) (by simp) ?_
              refine AllReadyX.cons rfl (fun K hK => ?_) (AllReadyX.cons rfl (fun K hK => ?_) AllReadyX.nil)
              · go_simp
                refine (insK hR6 (by omega) HP.out.2.1 lW6 (fun e => by have := HV.out.lt _ (HV.out.nk _ e); have := gW6.size; omega) (by have := HP.out.2.2.2.1; have := gW6.size; (try have := gW8.size); omega)).mono ?_
                rintro e w7 ⟨A7, c7, rfl, hR7, ha7⟩
                have hB7 := hB6.chg ha7.chg HP.out.1.1
                refine hK.out _ _ (fun _ => (⟨(hB7).cell 1, (hB7).cell 2⟩ : w7.cell? ⟨bn, 1, none⟩ = some vk ∧ w7.cell? ⟨bn, 2, none⟩ = some vv)) ?_
                clear hK K
                (try simp only [Act.put, List.setIfInBounds_toArray, List.set_cons_zero, List.set_cons_succ, List.getElem_toArray, List.getElem_cons_zero, List.getElem_cons_succ])
                refine wpAnyX_ready (rs := [16]) (by kernel_rfl) (by simp) ?_
                refine AllReadyX.cons rfl (fun K hK => ?_) AllReadyX.nil
                go_simp
                obtain ⟨W8, hW8⟩ : ∃ W, w7.alloc (.cells #[.int .i64 v] 3) = W := ⟨_, rfl⟩
                rw [hW8]
                have gW8 : Grew w7 W8 := hW8 ▸ (Chg.refl NoF w7).alloc _
                have lW8 : Blk W8 w7.heap.size 3 #[.int .i64 v] := hW8 ▸ Blk.new w7 _ _
                have hR8 := hR7.grew gW8
                have hB8 := hB7.grew gW8
                refine hK.out _ _ (fun _ => (⟨(hB8).cell 1, (hB8).cell 2⟩ : W8.cell? ⟨bn, 1, none⟩ = some vk ∧ W8.cell? ⟨bn, 2, none⟩ = some vv)) ?_
                clear hK K
                (try simp only [Act.put, List.setIfInBounds_toArray, List.set_cons_zero, List.set_cons_succ, List.getElem_toArray, List.getElem_cons_zero, List.getElem_cons_succ])
                refine wpAnyX_ready (rs := [17]) (by kernel_rfl) (by simp) ?_
                refine AllReadyX.cons rfl (fun K hK => ?_) AllReadyX.nil
                go_simp
                refine (insV hR8 (by have := HP.out.2.2.1; omega) (by have := HP.out.2.2.1; have := HP.out.2.1; omega) lW8 (fun e => by have := hR7.lt _ (hR7.nv _ e); omega) (by have := HP.out.2.2.2.1; have := ha7.chg.size; have := gW6.size; have := gW8.size; omega)).mono ?_
                rintro e w10 ⟨A10, c10, rfl, hR10, ha10⟩
                have hB10 := hB8.chg ha10.chg HP.out.1.2.1
                have hC10 : Chg N w4 w10 := Chg.trans (Grew.then gW6 (ha7.chg.mono fun j _ e => HV.out.nk j e)) (Grew.then gW8 (ha10.chg.mono fun j _ e => HV.out.nv j e)) fun _ _ e => e

                have HF := Lib.hid (show Rws w10 (fun j => (N j ∨ (Value.slice A7 (nd.keys.length + 1) c7).ownBlock = some j) ∨ (Value.slice A10 (nd.vals.length + 1) c10).ownBlock = some j) (.slice A7 (nd.keys.length + 1) c7) (.slice A10 (nd.vals.length + 1) c10) vc (iv (insI nd.keys ii k)) (iv (insI nd.vals ii v)) (nv []) ∧ Blk w10 bn 73 #[.int .i64 q, vk, vv, vc] ∧ Chg N w4 w10 from ⟨HP.out.2.2.2.2.2 ▸ hR10, hB10, hC10⟩)
                clear hR10 hB10 hC10
                clear hR6 hB6 hR7 ha7 hB7 hR8 hB8 ha10 lW6 lW8 gW6 gW8 hW6 hW8

                have hb10 := HF.out.2.1
                obtain ⟨d9, f9, s9⟩ := hb10.facts
                have hS10 : w10.cell? ⟨bn, 1, none⟩ = some vk ∧ w10.cell? ⟨bn, 2, none⟩ = some vv := ⟨hb10.cell 1, hb10.cell 2⟩
                refine hK.out _ _ (fun _ => hS10) ?_
                clear hK K
                (try simp only [Act.put, List.setIfInBounds_toArray, List.set_cons_zero, List.set_cons_succ, List.getElem_toArray, List.getElem_cons_zero, List.getElem_cons_succ])
                refine wpAnyX_ready (rs := [18]) (by kernel_rfl) (by simp) ?_
                refine AllReadyX.cons rfl (fun K hK => ?_) AllReadyX.nil
                go_simp
                refine hK.out _ _ (fun _ => hS10) ?_
                clear hK K
                (try simp only [Act.put, List.setIfInBounds_toArray, List.set_cons_zero, List.set_cons_succ, List.getElem_toArray, List.getElem_cons_zero, List.getElem_cons_succ])
                refine wpAnyX_ready (rs := [19]) (by kernel_rfl) (by simp) ?_
                refine AllReadyX.cons rfl (fun K hK => ?_) AllReadyX.nil
                go_simp
                refine hK.out _ _ (fun _ => hS10) ?_
                clear hK K
                (try simp only [Act.put, List.setIfInBounds_toArray, List.set_cons_zero, List.set_cons_succ, List.getElem_toArray, List.getElem_cons_zero, List.getElem_cons_succ])
                refine wpAnyX_ready (rs := [20]) (by kernel_rfl) (by simp) ?_
                refine AllReadyX.cons rfl (fun K hK => ?_) AllReadyX.nil
                go_simp
                obtain ⟨W11, hW11⟩ : ∃ W, w10.setCell ⟨bn, 1, none⟩ (.slice A7 (nd.keys.length + 1) c7) = W := ⟨_, rfl⟩
                rw [hW11]
                have hb11 : Blk W11 bn 73 #[.int .i64 q, .slice A7 (nd.keys.length + 1) c7, vv, vc] := by
                  have h9 := hb10.put 1 (.slice A7 (nd.keys.length + 1) c7)
                  rw [hW11] at h9
                  simpa using h9
                have hc11 : Chg (fun j => j = bn) w10 W11 := hW11 ▸ (Chg.refl (fun j => j = bn) w10).setCell (p := ⟨bn, 1, none⟩) (fun _ => rfl) _
                clear d9 f9 s9 hS10 hb10 hW11
                obtain ⟨d9, f9, s9⟩ := hb11.facts
                refine hK.out _ _ (fun h => by cases h) ?_
                clear hK K
                (try simp only [Act.put, List.setIfInBounds_toArray, List.set_cons_zero, List.set_cons_succ, List.getElem_toArray, List.getElem_cons_zero, List.getElem_cons_succ])
                refine wpAnyX_ready (rs := [21]) (by kernel_rfl) (by simp) ?_
                refine AllReadyX.cons rfl (fun K hK => ?_) AllReadyX.nil
                go_simp
                refine hK.out _ _ (fun h => by cases h) ?_
                clear hK K
                (try simp only [Act.put, List.setIfInBounds_toArray, List.set_cons_zero, List.set_cons_succ, List.getElem_toArray, List.getElem_cons_zero, List.getElem_cons_succ])
                refine wpAnyX_ready (rs := [22]) (by kernel_rfl) (by simp) ?_
                refine AllReadyX.cons rfl (fun K hK => ?_) AllReadyX.nil
                go_simp
                refine hK.out _ _ (fun h => by cases h) ?_
                clear hK K
                (try simp only [Act.put, List.setIfInBounds_toArray, List.set_cons_zero, List.set_cons_succ, List.getElem_toArray, List.getElem_cons_zero, List.getElem_cons_succ])
                refine wpAnyX_ready (rs := [23]) (by kernel_rfl) (by simp) ?_
                refine AllReadyX.cons rfl (fun K hK => ?_) AllReadyX.nil
                go_simp
                obtain ⟨W12, hW12⟩ : ∃ W, W11.setCell ⟨bn, 2, none⟩ (.slice A10 (nd.vals.length + 1) c10) = W := ⟨_, rfl⟩
                rw [hW12]
                have hb12 : Blk W12 bn 73 #[.int .i64 q, .slice A7 (nd.keys.length + 1) c7, .slice A10 (nd.vals.length + 1) c10, vc] := by
                  have h9 := hb11.put 2 (.slice A10 (nd.vals.length + 1) c10)
                  rw [hW12] at h9
                  simpa using h9
                have hc12 : Chg (fun j => j = bn) w10 W12 := Chg.trans hc11 (hW12 ▸ (Chg.refl (fun j => j = bn) W11).setCell (p := ⟨bn, 2, none⟩) (fun _ => rfl) _) fun _ _ e => e
                clear d9 f9 s9 hW12 hb11 hc11
                refine hK.out _ _ (fun h => by cases h) ?_
                clear hK K
                (try simp only [Act.put, List.setIfInBounds_toArray, List.set_cons_zero, List.set_cons_succ, List.getElem_toArray, List.getElem_cons_zero, List.getElem_cons_succ])
                refine wpAnyX_done (by kernel_rfl) ?_ _
                have hbn10 := HF.out.2.1
                have hn12 : NdOwn W12 (fun j => (N j ∨ (Value.slice A7 (nd.keys.length + 1) c7).ownBlock = some j) ∨ (Value.slice A10 (nd.vals.length + 1) c10).ownBlock = some j) bn q ⟨insI nd.keys ii k, insI nd.vals ii v, []⟩ := by
                  refine NdV.own (vk := .slice A7 (nd.keys.length + 1) c7) (vv := .slice A10 (nd.vals.length + 1) c10) (vc := vc) (nd := ⟨insI nd.keys ii k, insI nd.vals ii v, []⟩) ?_
                  have hr := HF.out.1
                  exact (hr.chg hc12 (fun g hg e => own_blk_ne hr.rk hbn10 (by decide) (by rw [hg, e])) (fun g hg e => own_blk_ne hr.rv hbn10 (by decide) (by rw [hg, e])) (fun g hg e => own_blk_ne hr.rc hbn10 (by decide) (by rw [hg, e]))).ndv hb12 (.inl (.inl HV.out.nb))
                have hcN : Chg N w4 W12 := Chg.trans HF.out.2.2 hc12 fun j _ e => by subst e; exact HV.out.nb
                have hcW : Chg N wr W12 := Grew.then H4.out.2.1 hcN
                have hJ := HJ.out
                have hwz := hJ.rch.chg.size
                have hpos := tab_pos H.out.1.gp.tab
                have hbt12 : BT W12 t p root F' y := hJ.bt.chg hcW (fun j hj e => hJ.nF j e hj) (fun e => by have := hJ.nw _ e; omega) (fun e => by have := hJ.nw _ e; have := hJ.tl; omega)
                have hfit : (⟨insI nd.keys ii k, insI nd.vals ii v, []⟩ : Nd).Fit y.sz := nd_put_fit (hJ.bt.gp.fit hJ.way.nd).1 (by rw [← H4.out.2.2.2]; exact atI_le _ _) (by have := half_most hJ.bt.gp.szs.2.2.1; have := hJ.room; omega) H.out.2.2.2.2.1 H.out.2.2.2.2.2.1
                obtain ⟨cq, q1, q2⟩ := hJ.ts.pgs q hJ.way.q_mem
                have hsv := bsave_any t p root bn q F' _ y cq ⟨insI nd.keys ii k, insI nd.vals ii v, []⟩ W12 hbt12 hn12.at hfit (by rw [hJ.like.was]; exact H.out.2.1) q1 q2 (fun e => hJ.nF _ HV.out.nb e)
                have HE := Lib.hid (And.intro hsv (And.intro hcW (And.intro hfit hbt12)))
                clear hsv hcW hfit hbt12 hn12 hcN hb12 hc12 hbn10 hJ hwz hpos q1 q2 hHeld hS
                go_wp2_with fail
                refine HE.out.1.mono ?_
                rintro e w' (⟨rfl, hto⟩ | ⟨hns, -, rfl, hg⟩)
                · have hput := HJ.out.put (v := v) H1.out.2.2.2 HE.out.2.1 (fun j e => .inr (HJ.out.nw j e)) HJ.out.bt.gp.szs.2.2.2.1 (by rw [H4.out.2.2.2]; exact hto) (by rw [H4.out.2.2.2]; exact HE.out.2.2.1)
                  have HO := Lib.hid hput
                  clear hput hto
                  go_wp2_with fail
                  go_ret
                  exact .inl ⟨rfl, HO.out⟩
                · have hput := HJ.out.fail (m := 0) (G := F') HE.out.2.1 (fun j e => .inr (HJ.out.nw j e)) ⟨y, F', HE.out.2.2.2.grew hg, hg.chg, fun _ e => .inl e, Rp.like.refl y, by omega, fun e => hns e.1⟩ (by omega) (fun j e => .inl e)
                  have HO := Lib.hid hput
                  clear hput hg hns
                  go_wp2_with fail
                  go_ret
                  exact .inr ⟨rfl, HO.out⟩
              · go_simp
                obtain ⟨W8, hW8⟩ : ∃ W, W6.alloc (.cells #[.int .i64 v] 3) = W := ⟨_, rfl⟩
                rw [hW8]
                have gW8 : Grew W6 W8 := hW8 ▸ (Chg.refl NoF W6).alloc _
                have lW8 : Blk W8 W6.heap.size 3 #[.int .i64 v] := hW8 ▸ Blk.new W6 _ _
                have hR8 := hR6.grew gW8
                have hB8 := hB6.grew gW8
                refine hK.out _ _ (fun _ => (⟨(hB8).cell 1, (hB8).cell 2⟩ : W8.cell? ⟨bn, 1, none⟩ = some vk ∧ W8.cell? ⟨bn, 2, none⟩ = some vv)) ?_
                clear hK K
                (try simp only [Act.put, List.setIfInBounds_toArray, List.set_cons_zero, List.set_cons_succ, List.getElem_toArray, List.getElem_cons_zero, List.getElem_cons_succ])
                refine wpAnyX_ready (rs := [9]) (by kernel_rfl) (by simp) ?_
                refine AllReadyX.cons rfl (fun K hK => ?_) AllReadyX.nil
                go_simp
                refine (insK hR8 (by omega) HP.out.2.1 (lW6.grew gW8) (fun e => by have := HV.out.lt _ (HV.out.nk _ e); have := gW6.size; omega) (by have := HP.out.2.2.2.1; have := gW6.size; (try have := gW8.size); omega)).mono ?_
                rintro e w9 ⟨A7, c7, rfl, hR9, ha9⟩
                have hB9 := hB8.chg ha9.chg HP.out.1.1
                have hl9 := lW8.chg ha9.chg fun e => by have := HV.out.lt _ (HV.out.nk _ e); have := gW6.size; omega
                refine hK.out _ _ (fun _ => (⟨(hB9).cell 1, (hB9).cell 2⟩ : w9.cell? ⟨bn, 1, none⟩ = some vk ∧ w9.cell? ⟨bn, 2, none⟩ = some vv)) ?_
                clear hK K
                (try simp only [Act.put, List.setIfInBounds_toArray, List.set_cons_zero, List.set_cons_succ, List.getElem_toArray, List.getElem_cons_zero, List.getElem_cons_succ])
                refine wpAnyX_ready (rs := [17]) (by kernel_rfl) (by simp) ?_
                refine AllReadyX.cons rfl (fun K hK => ?_) AllReadyX.nil
                go_simp
                refine (insV hR9 (by have := HP.out.2.2.1; omega) (by have := HP.out.2.2.1; have := HP.out.2.1; omega) hl9 (fun e => by have := HV.out.lt _ (HV.out.nv _ e); have := gW6.size; omega) (by have := HP.out.2.2.2.1; have := ha9.chg.size; have := gW6.size; have := gW8.size; omega)).mono ?_
                rintro e w10 ⟨A10, c10, rfl, hR10, ha10⟩
                have hB10 := hB9.chg ha10.chg HP.out.1.2.1
                have hC10 : Chg N w4 w10 := Chg.trans (Grew.then (Grew.trans gW6 gW8) (ha9.chg.mono fun j _ e => HV.out.nk j e)) (ha10.chg.mono fun j _ e => HV.out.nv j e) fun _ _ e => e

                have HF := Lib.hid (show Rws w10 (fun j => (N j ∨ (Value.slice A7 (nd.keys.length + 1) c7).ownBlock = some j) ∨ (Value.slice A10 (nd.vals.length + 1) c10).ownBlock = some j) (.slice A7 (nd.keys.length + 1) c7) (.slice A10 (nd.vals.length + 1) c10) vc (iv (insI nd.keys ii k)) (iv (insI nd.vals ii v)) (nv []) ∧ Blk w10 bn 73 #[.int .i64 q, vk, vv, vc] ∧ Chg N w4 w10 from ⟨HP.out.2.2.2.2.2 ▸ hR10, hB10, hC10⟩)
                clear hR10 hB10 hC10
                clear hR6 hB6 hR8 hB8 hR9 ha9 hB9 hl9 ha10 lW6 lW8 gW6 gW8 hW6 hW8

                have hb10 := HF.out.2.1
                obtain ⟨d9, f9, s9⟩ := hb10.facts
                have hS10 : w10.cell? ⟨bn, 1, none⟩ = some vk ∧ w10.cell? ⟨bn, 2, none⟩ = some vv := ⟨hb10.cell 1, hb10.cell 2⟩
                refine hK.out _ _ (fun _ => hS10) ?_
                clear hK K
                (try simp only [Act.put, List.setIfInBounds_toArray, List.set_cons_zero, List.set_cons_succ, List.getElem_toArray, List.getElem_cons_zero, List.getElem_cons_succ])
                refine wpAnyX_ready (rs := [18]) (by kernel_rfl) (by simp) ?_
                refine AllReadyX.cons rfl (fun K hK => ?_) AllReadyX.nil
                go_simp
                refine hK.out _ _ (fun _ => hS10) ?_
                clear hK K
                (try simp only [Act.put, List.setIfInBounds_toArray, List.set_cons_zero, List.set_cons_succ, List.getElem_toArray, List.getElem_cons_zero, List.getElem_cons_succ])
                refine wpAnyX_ready (rs := [19]) (by kernel_rfl) (by simp) ?_
                refine AllReadyX.cons rfl (fun K hK => ?_) AllReadyX.nil
                go_simp
                refine hK.out _ _ (fun _ => hS10) ?_
                clear hK K
                (try simp only [Act.put, List.setIfInBounds_toArray, List.set_cons_zero, List.set_cons_succ, List.getElem_toArray, List.getElem_cons_zero, List.getElem_cons_succ])
                refine wpAnyX_ready (rs := [20]) (by kernel_rfl) (by simp) ?_
                refine AllReadyX.cons rfl (fun K hK => ?_) AllReadyX.nil
                go_simp
                obtain ⟨W11, hW11⟩ : ∃ W, w10.setCell ⟨bn, 1, none⟩ (.slice A7 (nd.keys.length + 1) c7) = W := ⟨_, rfl⟩
                rw [hW11]
                have hb11 : Blk W11 bn 73 #[.int .i64 q, .slice A7 (nd.keys.length + 1) c7, vv, vc] := by
                  have h9 := hb10.put 1 (.slice A7 (nd.keys.length + 1) c7)
                  rw [hW11] at h9
                  simpa using h9
                have hc11 : Chg (fun j => j = bn) w10 W11 := hW11 ▸ (Chg.refl (fun j => j = bn) w10).setCell (p := ⟨bn, 1, none⟩) (fun _ => rfl) _
                clear d9 f9 s9 hS10 hb10 hW11
                obtain ⟨d9, f9, s9⟩ := hb11.facts
                refine hK.out _ _ (fun h => by cases h) ?_
                clear hK K
                (try simp only [Act.put, List.setIfInBounds_toArray, List.set_cons_zero, List.set_cons_succ, List.getElem_toArray, List.getElem_cons_zero, List.getElem_cons_succ])
                refine wpAnyX_ready (rs := [21]) (by kernel_rfl) (by simp) ?_
                refine AllReadyX.cons rfl (fun K hK => ?_) AllReadyX.nil
                go_simp
                refine hK.out _ _ (fun h => by cases h) ?_
                clear hK K
                (try simp only [Act.put, List.setIfInBounds_toArray, List.set_cons_zero, List.set_cons_succ, List.getElem_toArray, List.getElem_cons_zero, List.getElem_cons_succ])
                refine wpAnyX_ready (rs := [22]) (by kernel_rfl) (by simp) ?_
                refine AllReadyX.cons rfl (fun K hK => ?_) AllReadyX.nil
                go_simp
                refine hK.out _ _ (fun h => by cases h) ?_
                clear hK K
                (try simp only [Act.put, List.setIfInBounds_toArray, List.set_cons_zero, List.set_cons_succ, List.getElem_toArray, List.getElem_cons_zero, List.getElem_cons_succ])
                refine wpAnyX_ready (rs := [23]) (by kernel_rfl) (by simp) ?_
                refine AllReadyX.cons rfl (fun K hK => ?_) AllReadyX.nil
                go_simp
                obtain ⟨W12, hW12⟩ : ∃ W, W11.setCell ⟨bn, 2, none⟩ (.slice A10 (nd.vals.length + 1) c10) = W := ⟨_, rfl⟩
                rw [hW12]
                have hb12 : Blk W12 bn 73 #[.int .i64 q, .slice A7 (nd.keys.length + 1) c7, .slice A10 (nd.vals.length + 1) c10, vc] := by
                  have h9 := hb11.put 2 (.slice A10 (nd.vals.length + 1) c10)
                  rw [hW12] at h9
                  simpa using h9
                have hc12 : Chg (fun j => j = bn) w10 W12 := Chg.trans hc11 (hW12 ▸ (Chg.refl (fun j => j = bn) W11).setCell (p := ⟨bn, 2, none⟩) (fun _ => rfl) _) fun _ _ e => e
                clear d9 f9 s9 hW12 hb11 hc11
                refine hK.out _ _ (fun h => by cases h) ?_
                clear hK K
                (try simp only [Act.put, List.setIfInBounds_toArray, List.set_cons_zero, List.set_cons_succ, List.getElem_toArray, List.getElem_cons_zero, List.getElem_cons_succ])
                refine wpAnyX_done (by kernel_rfl) ?_ _
                have hbn10 := HF.out.2.1
                have hn12 : NdOwn W12 (fun j => (N j ∨ (Value.slice A7 (nd.keys.length + 1) c7).ownBlock = some j) ∨ (Value.slice A10 (nd.vals.length + 1) c10).ownBlock = some j) bn q ⟨insI nd.keys ii k, insI nd.vals ii v, []⟩ := by
                  refine NdV.own (vk := .slice A7 (nd.keys.length + 1) c7) (vv := .slice A10 (nd.vals.length + 1) c10) (vc := vc) (nd := ⟨insI nd.keys ii k, insI nd.vals ii v, []⟩) ?_
                  have hr := HF.out.1
                  exact (hr.chg hc12 (fun g hg e => own_blk_ne hr.rk hbn10 (by decide) (by rw [hg, e])) (fun g hg e => own_blk_ne hr.rv hbn10 (by decide) (by rw [hg, e])) (fun g hg e => own_blk_ne hr.rc hbn10 (by decide) (by rw [hg, e]))).ndv hb12 (.inl (.inl HV.out.nb))
                have hcN : Chg N w4 W12 := Chg.trans HF.out.2.2 hc12 fun j _ e => by subst e; exact HV.out.nb
                have hcW : Chg N wr W12 := Grew.then H4.out.2.1 hcN
                have hJ := HJ.out
                have hwz := hJ.rch.chg.size
                have hpos := tab_pos H.out.1.gp.tab
                have hbt12 : BT W12 t p root F' y := hJ.bt.chg hcW (fun j hj e => hJ.nF j e hj) (fun e => by have := hJ.nw _ e; omega) (fun e => by have := hJ.nw _ e; have := hJ.tl; omega)
                have hfit : (⟨insI nd.keys ii k, insI nd.vals ii v, []⟩ : Nd).Fit y.sz := nd_put_fit (hJ.bt.gp.fit hJ.way.nd).1 (by rw [← H4.out.2.2.2]; exact atI_le _ _) (by have := half_most hJ.bt.gp.szs.2.2.1; have := hJ.room; omega) H.out.2.2.2.2.1 H.out.2.2.2.2.2.1
                obtain ⟨cq, q1, q2⟩ := hJ.ts.pgs q hJ.way.q_mem
                have hsv := bsave_any t p root bn q F' _ y cq ⟨insI nd.keys ii k, insI nd.vals ii v, []⟩ W12 hbt12 hn12.at hfit (by rw [hJ.like.was]; exact H.out.2.1) q1 q2 (fun e => hJ.nF _ HV.out.nb e)
                have HE := Lib.hid (And.intro hsv (And.intro hcW (And.intro hfit hbt12)))
                clear hsv hcW hfit hbt12 hn12 hcN hb12 hc12 hbn10 hJ hwz hpos q1 q2 hHeld hS
                go_wp2_with fail
                refine HE.out.1.mono ?_
                rintro e w' (⟨rfl, hto⟩ | ⟨hns, -, rfl, hg⟩)
                · have hput := HJ.out.put (v := v) H1.out.2.2.2 HE.out.2.1 (fun j e => .inr (HJ.out.nw j e)) HJ.out.bt.gp.szs.2.2.2.1 (by rw [H4.out.2.2.2]; exact hto) (by rw [H4.out.2.2.2]; exact HE.out.2.2.1)
                  have HO := Lib.hid hput
                  clear hput hto
                  go_wp2_with fail
                  go_ret
                  exact .inl ⟨rfl, HO.out⟩
                · have hput := HJ.out.fail (m := 0) (G := F') HE.out.2.1 (fun j e => .inr (HJ.out.nw j e)) ⟨y, F', HE.out.2.2.2.grew hg, hg.chg, fun _ e => .inl e, Rp.like.refl y, by omega, fun e => hns e.1⟩ (by omega) (fun j e => .inl e)
                  have HO := Lib.hid hput
                  clear hput hg hns
                  go_wp2_with fail
                  go_ret
                  exact .inr ⟨rfl, HO.out⟩
            · go_simp
              obtain ⟨W6, hW6⟩ : ∃ W, (w4.alloc (.cells #[.int .i64 v] 3)).drew = W := ⟨_, rfl⟩
              rw [hW6]
              have gW6 : Grew w4 W6 := hW6 ▸ ((Chg.refl NoF w4).alloc _).drew
              have lW6 : Blk W6 w4.heap.size 3 #[.int .i64 v] := hW6 ▸ (Blk.new w4 _ _).drew
              have hR6 := HV.out.rws.grew gW6
              have hB6 := HV.out.blk.grew gW6
              refine hK.out _ _ (fun _ => (⟨(hB6).cell 1, (hB6).cell 2⟩ : W6.cell? ⟨bn, 1, none⟩ = some vk ∧ W6.cell? ⟨bn, 2, none⟩ = some vv)) ?_
              clear hK K
              (try simp only [Act.put, List.setIfInBounds_toArray, List.set_cons_zero, List.set_cons_succ, List.getElem_toArray, List.getElem_cons_zero, List.getElem_cons_succ])
              refine wpAnyX_ready (rs := [8]) (by kernel_rfl) (by simp) ?_
              refine AllReadyX.cons rfl (fun K hK => ?_) AllReadyX.nil
              go_simp
              obtain ⟨W8, hW8⟩ : ∃ W, W6.alloc (.cells #[.int .i64 k] 3) = W := ⟨_, rfl⟩
              rw [hW8]
              have gW8 : Grew W6 W8 := hW8 ▸ (Chg.refl NoF W6).alloc _
              have lW8 : Blk W8 W6.heap.size 3 #[.int .i64 k] := hW8 ▸ Blk.new W6 _ _
              have hR8 := hR6.grew gW8
              have hB8 := hB6.grew gW8
              refine hK.out _ _ (fun _ => (⟨(hB8).cell 1, (hB8).cell 2⟩ : W8.cell? ⟨bn, 1, none⟩ = some vk ∧ W8.cell? ⟨bn, 2, none⟩ = some vv)) ?_
              clear hK K
              (try simp only [Act.put, List.setIfInBounds_toArray, List.set_cons_zero, List.set_cons_succ, List.getElem_toArray, List.getElem_cons_zero, List.getElem_cons_succ])
              refine wpAnyX_ready (rs := [9]) (by kernel_rfl) (by simp) ?_
              refine AllReadyX.cons rfl (fun K hK => ?_) AllReadyX.nil
              go_simp
              refine (insK hR8 (by omega) HP.out.2.1 lW8 (fun e => by have := HV.out.lt _ (HV.out.nk _ e); have := gW6.size; omega) (by have := HP.out.2.2.2.1; have := gW6.size; (try have := gW8.size); omega)).mono ?_
              rintro e w9 ⟨A7, c7, rfl, hR9, ha9⟩
              have hB9 := hB8.chg ha9.chg HP.out.1.1
              have hl9 := (lW6.grew gW8).chg ha9.chg fun e => by have := HV.out.lt _ (HV.out.nk _ e); have := gW6.size; omega
              refine hK.out _ _ (fun _ => (⟨(hB9).cell 1, (hB9).cell 2⟩ : w9.cell? ⟨bn, 1, none⟩ = some vk ∧ w9.cell? ⟨bn, 2, none⟩ = some vv)) ?_
              clear hK K
              (try simp only [Act.put, List.setIfInBounds_toArray, List.set_cons_zero, List.set_cons_succ, List.getElem_toArray, List.getElem_cons_zero, List.getElem_cons_succ])
              refine wpAnyX_ready (rs := [17]) (by kernel_rfl) (by simp) ?_
              refine AllReadyX.cons rfl (fun K hK => ?_) AllReadyX.nil
              go_simp
              refine (insV hR9 (by have := HP.out.2.2.1; omega) (by have := HP.out.2.2.1; have := HP.out.2.1; omega) hl9 (fun e => by have := HV.out.lt _ (HV.out.nv _ e); have := gW6.size; omega) (by have := HP.out.2.2.2.1; have := ha9.chg.size; have := gW6.size; have := gW8.size; omega)).mono ?_
              rintro e w10 ⟨A10, c10, rfl, hR10, ha10⟩
              have hB10 := hB9.chg ha10.chg HP.out.1.2.1
              have hC10 : Chg N w4 w10 := Chg.trans (Grew.then (Grew.trans gW6 gW8) (ha9.chg.mono fun j _ e => HV.out.nk j e)) (ha10.chg.mono fun j _ e => HV.out.nv j e) fun _ _ e => e

              have HF := Lib.hid (show Rws w10 (fun j => (N j ∨ (Value.slice A7 (nd.keys.length + 1) c7).ownBlock = some j) ∨ (Value.slice A10 (nd.vals.length + 1) c10).ownBlock = some j) (.slice A7 (nd.keys.length + 1) c7) (.slice A10 (nd.vals.length + 1) c10) vc (iv (insI nd.keys ii k)) (iv (insI nd.vals ii v)) (nv []) ∧ Blk w10 bn 73 #[.int .i64 q, vk, vv, vc] ∧ Chg N w4 w10 from ⟨HP.out.2.2.2.2.2 ▸ hR10, hB10, hC10⟩)
              clear hR10 hB10 hC10
              clear hR6 hB6 hR8 hB8 hR9 ha9 hB9 hl9 ha10 lW6 lW8 gW6 gW8 hW6 hW8

              have hb10 := HF.out.2.1
              obtain ⟨d9, f9, s9⟩ := hb10.facts
              have hS10 : w10.cell? ⟨bn, 1, none⟩ = some vk ∧ w10.cell? ⟨bn, 2, none⟩ = some vv := ⟨hb10.cell 1, hb10.cell 2⟩
              refine hK.out _ _ (fun _ => hS10) ?_
              clear hK K
              (try simp only [Act.put, List.setIfInBounds_toArray, List.set_cons_zero, List.set_cons_succ, List.getElem_toArray, List.getElem_cons_zero, List.getElem_cons_succ])
              refine wpAnyX_ready (rs := [18]) (by kernel_rfl) (by simp) ?_
              refine AllReadyX.cons rfl (fun K hK => ?_) AllReadyX.nil
              go_simp
              refine hK.out _ _ (fun _ => hS10) ?_
              clear hK K
              (try simp only [Act.put, List.setIfInBounds_toArray, List.set_cons_zero, List.set_cons_succ, List.getElem_toArray, List.getElem_cons_zero, List.getElem_cons_succ])
              refine wpAnyX_ready (rs := [19]) (by kernel_rfl) (by simp) ?_
              refine AllReadyX.cons rfl (fun K hK => ?_) AllReadyX.nil
              go_simp
              refine hK.out _ _ (fun _ => hS10) ?_
              clear hK K
              (try simp only [Act.put, List.setIfInBounds_toArray, List.set_cons_zero, List.set_cons_succ, List.getElem_toArray, List.getElem_cons_zero, List.getElem_cons_succ])
              refine wpAnyX_ready (rs := [20]) (by kernel_rfl) (by simp) ?_
              refine AllReadyX.cons rfl (fun K hK => ?_) AllReadyX.nil
              go_simp
              obtain ⟨W11, hW11⟩ : ∃ W, w10.setCell ⟨bn, 1, none⟩ (.slice A7 (nd.keys.length + 1) c7) = W := ⟨_, rfl⟩
              rw [hW11]
              have hb11 : Blk W11 bn 73 #[.int .i64 q, .slice A7 (nd.keys.length + 1) c7, vv, vc] := by
                have h9 := hb10.put 1 (.slice A7 (nd.keys.length + 1) c7)
                rw [hW11] at h9
                simpa using h9
              have hc11 : Chg (fun j => j = bn) w10 W11 := hW11 ▸ (Chg.refl (fun j => j = bn) w10).setCell (p := ⟨bn, 1, none⟩) (fun _ => rfl) _
              clear d9 f9 s9 hS10 hb10 hW11
              obtain ⟨d9, f9, s9⟩ := hb11.facts
              refine hK.out _ _ (fun h => by cases h) ?_
              clear hK K
              (try simp only [Act.put, List.setIfInBounds_toArray, List.set_cons_zero, List.set_cons_succ, List.getElem_toArray, List.getElem_cons_zero, List.getElem_cons_succ])
              refine wpAnyX_ready (rs := [21]) (by kernel_rfl) (by simp) ?_
              refine AllReadyX.cons rfl (fun K hK => ?_) AllReadyX.nil
              go_simp
              refine hK.out _ _ (fun h => by cases h) ?_
              clear hK K
              (try simp only [Act.put, List.setIfInBounds_toArray, List.set_cons_zero, List.set_cons_succ, List.getElem_toArray, List.getElem_cons_zero, List.getElem_cons_succ])
              refine wpAnyX_ready (rs := [22]) (by kernel_rfl) (by simp) ?_
              refine AllReadyX.cons rfl (fun K hK => ?_) AllReadyX.nil
              go_simp
              refine hK.out _ _ (fun h => by cases h) ?_
              clear hK K
              (try simp only [Act.put, List.setIfInBounds_toArray, List.set_cons_zero, List.set_cons_succ, List.getElem_toArray, List.getElem_cons_zero, List.getElem_cons_succ])
              refine wpAnyX_ready (rs := [23]) (by kernel_rfl) (by simp) ?_
              refine AllReadyX.cons rfl (fun K hK => ?_) AllReadyX.nil
              go_simp
              obtain ⟨W12, hW12⟩ : ∃ W, W11.setCell ⟨bn, 2, none⟩ (.slice A10 (nd.vals.length + 1) c10) = W := ⟨_, rfl⟩
              rw [hW12]
              have hb12 : Blk W12 bn 73 #[.int .i64 q, .slice A7 (nd.keys.length + 1) c7, .slice A10 (nd.vals.length + 1) c10, vc] := by
                have h9 := hb11.put 2 (.slice A10 (nd.vals.length + 1) c10)
                rw [hW12] at h9
                simpa using h9
              have hc12 : Chg (fun j => j = bn) w10 W12 := Chg.trans hc11 (hW12 ▸ (Chg.refl (fun j => j = bn) W11).setCell (p := ⟨bn, 2, none⟩) (fun _ => rfl) _) fun _ _ e => e
              clear d9 f9 s9 hW12 hb11 hc11
              refine hK.out _ _ (fun h => by cases h) ?_
              clear hK K
              (try simp only [Act.put, List.setIfInBounds_toArray, List.set_cons_zero, List.set_cons_succ, List.getElem_toArray, List.getElem_cons_zero, List.getElem_cons_succ])
              refine wpAnyX_done (by kernel_rfl) ?_ _
              have hbn10 := HF.out.2.1
              have hn12 : NdOwn W12 (fun j => (N j ∨ (Value.slice A7 (nd.keys.length + 1) c7).ownBlock = some j) ∨ (Value.slice A10 (nd.vals.length + 1) c10).ownBlock = some j) bn q ⟨insI nd.keys ii k, insI nd.vals ii v, []⟩ := by
                refine NdV.own (vk := .slice A7 (nd.keys.length + 1) c7) (vv := .slice A10 (nd.vals.length + 1) c10) (vc := vc) (nd := ⟨insI nd.keys ii k, insI nd.vals ii v, []⟩) ?_
                have hr := HF.out.1
                exact (hr.chg hc12 (fun g hg e => own_blk_ne hr.rk hbn10 (by decide) (by rw [hg, e])) (fun g hg e => own_blk_ne hr.rv hbn10 (by decide) (by rw [hg, e])) (fun g hg e => own_blk_ne hr.rc hbn10 (by decide) (by rw [hg, e]))).ndv hb12 (.inl (.inl HV.out.nb))
              have hcN : Chg N w4 W12 := Chg.trans HF.out.2.2 hc12 fun j _ e => by subst e; exact HV.out.nb
              have hcW : Chg N wr W12 := Grew.then H4.out.2.1 hcN
              have hJ := HJ.out
              have hwz := hJ.rch.chg.size
              have hpos := tab_pos H.out.1.gp.tab
              have hbt12 : BT W12 t p root F' y := hJ.bt.chg hcW (fun j hj e => hJ.nF j e hj) (fun e => by have := hJ.nw _ e; omega) (fun e => by have := hJ.nw _ e; have := hJ.tl; omega)
              have hfit : (⟨insI nd.keys ii k, insI nd.vals ii v, []⟩ : Nd).Fit y.sz := nd_put_fit (hJ.bt.gp.fit hJ.way.nd).1 (by rw [← H4.out.2.2.2]; exact atI_le _ _) (by have := half_most hJ.bt.gp.szs.2.2.1; have := hJ.room; omega) H.out.2.2.2.2.1 H.out.2.2.2.2.2.1
              obtain ⟨cq, q1, q2⟩ := hJ.ts.pgs q hJ.way.q_mem
              have hsv := bsave_any t p root bn q F' _ y cq ⟨insI nd.keys ii k, insI nd.vals ii v, []⟩ W12 hbt12 hn12.at hfit (by rw [hJ.like.was]; exact H.out.2.1) q1 q2 (fun e => hJ.nF _ HV.out.nb e)
              have HE := Lib.hid (And.intro hsv (And.intro hcW (And.intro hfit hbt12)))
              clear hsv hcW hfit hbt12 hn12 hcN hb12 hc12 hbn10 hJ hwz hpos q1 q2 hHeld hS
              go_wp2_with fail
              refine HE.out.1.mono ?_
              rintro e w' (⟨rfl, hto⟩ | ⟨hns, -, rfl, hg⟩)
              · have hput := HJ.out.put (v := v) H1.out.2.2.2 HE.out.2.1 (fun j e => .inr (HJ.out.nw j e)) HJ.out.bt.gp.szs.2.2.2.1 (by rw [H4.out.2.2.2]; exact hto) (by rw [H4.out.2.2.2]; exact HE.out.2.2.1)
                have HO := Lib.hid hput
                clear hput hto
                go_wp2_with fail
                go_ret
                exact .inl ⟨rfl, HO.out⟩
              · have hput := HJ.out.fail (m := 0) (G := F') HE.out.2.1 (fun j e => .inr (HJ.out.nw j e)) ⟨y, F', HE.out.2.2.2.grew hg, hg.chg, fun _ e => .inl e, Rp.like.refl y, by omega, fun e => hns e.1⟩ (by omega) (fun j e => .inl e)
                have HO := Lib.hid hput
                clear hput hg hns
                go_wp2_with fail
                go_ret
                exact .inr ⟨rfl, HO.out⟩

          · have t1 : decide (nd.kids.length = 0) = false := decide_eq_false h0
            have t2 : decide (nd.kids = []) = false := decide_eq_false fun e => h0 (by rw [e]; rfl)
            have H0 := Lib.hid h0
            obtain ⟨d', rfl⟩ : ∃ d', d = d' + 1 := ⟨d - 1, by
              obtain ⟨nd', g1, -, -, g2⟩ := HJ.out.way.tr.node
              rw [HJ.out.way.nd] at g1
              cases g1
              have hd0 : d ≠ 0 := fun e => h0 (g2.2 e)
              omega⟩
            obtain ⟨c2, kd, A2, M2, B2, P3, PM2, P4, hc2, hw2⟩ := HJ.out.way.down HJ.out.ts.srt HL.out.2.2.1
            rw [HL.out.2.2.2] at hc2
            have hil : ii < nd.kids.length := (List.getElem?_eq_some_iff.1 hc2).1
            obtain ⟨cp, cp1, cp2, cp3⟩ := Rp.nd_some hw2.nd
            have hkl2 : kd.keys.length ≤ 300 := by have h1 := (HJ.out.bt.gp.fit hw2.nd).1.most; have h2 := HJ.out.bt.gp.szs; unfold mostN at h1; omega
            have hiN : (ii : Int) < (nd.kids.length : Int) := by omega
            have H2 := Lib.hid (And.intro hc2 (And.intro hw2 (And.intro cp1 (And.intro cp2 cp3))))
            clear hc2 hw2 cp1 cp2 cp3 h0
            go_wp2_with (go_at_call 41; (refine HL.out.1.mono ?_); rintro e w5 ⟨rfl, rfl⟩)
            refine HL.out.2.1.mono ?_
            rintro e w4 ⟨rfl, hg4⟩
            have hbt4 := HJ.out.bt.grew hg4
            have hld := bload_any t p root c2 F' y cp kd w4 hbt4 H2.out.2.2.1 H2.out.2.2.2.1 H2.out.2.2.2.2
            have hn4 := HJ.out.own.grew hg4
            obtain ⟨Ak, ck, Av, cv, Ac, cc, b1, -, -, b4, -⟩ := hn4.at
            obtain ⟨c0, f0, s0⟩ := b1.facts
            obtain ⟨g, off, rfl, hgl, hx⟩ := b4.2 (by omega)
            have hce : w4.cell? ⟨g, off + ii, none⟩ = some (.int .i64 c2) := hx ii _ (by simp [nv, H2.out.1])
            have H4 := Lib.hid (And.intro hld (And.intro hg4 (And.intro hn4 hbt4)))
            clear hld hg4 hn4 hbt4 b1 b4 hx hgl
            go_wp2_with fail
            refine H4.out.1.mono ?_
            rintro e w5 ⟨b3, N3, rfl, hn5, hN5, hbt5, hc5⟩
            clear c0 f0 s0 hce
            have hfu := bfull_any t p root b3 c2 F' N3 y kd w5 hbt5 hn5.at hkl2
            have H5 := Lib.hid (And.intro hfu (And.intro hn5 (And.intro hN5 (And.intro hbt5 hc5))))
            clear hfu hn5 hN5 hbt5 hc5
            go_wp2_with fail
            by_cases hfull : 2 * halfN y.sz - 1 ≤ kd.keys.length
            · have t5 : decide (2 * halfN y.sz - 1 ≤ kd.keys.length) = true := decide_eq_true hfull
              have t6 : decide (2 * halfN y.sz ≤ kd.keys.length + 1) = true := decide_eq_true (by omega)
              refine H5.out.1.mono ?_
              rintro e w6 ⟨rfl, hg6⟩
              have hJ := HJ.out
              have hwz := hJ.rch.chg.size
              have hz4 := H4.out.2.1.size
              have hz5 := H5.out.2.2.2.2.size
              have hz6 := hg6.size
              have hpos := tab_pos H.out.1.gp.tab
              have hz := hJ.bt.gp.szs
              have h2h := half_two hz.2.2.1
              have hlt := hJ.bt.gp.lt
              have hNlt : ∀ j, N j → j < wr.heap.size := fun j hj => hJ.own.at.lt j hj
              have hcW : Chg F' wr w6 := (Grew.then H4.out.2.1 H5.out.2.2.2.2).grew hg6
              have hnode : kd.keys.length = 2 * halfN y.sz - 1 := by
                obtain ⟨nd', g1, -, g2, -⟩ := H2.out.2.1.tr.node
                rw [H2.out.2.1.nd] at g1
                cases g1
                omega
              have hf1 := hJ.bt.gp.fit hJ.way.nd
              have hf2 := hJ.bt.gp.fit H2.out.2.1.nd
              have hSp : Sp w6 t p root F' y N N3 b3 c2 kd := ⟨H5.out.2.2.2.1.grew hg6, H5.out.2.1.grew hg6, fun j hj e => by have := hNlt j hj; have := H5.out.2.2.1 j e; omega, fun j hj => ⟨hJ.nF j hj, by have := hJ.nw j hj; have := hJ.tl; omega, by have := hJ.nw j hj; omega, by have := hNlt j hj; omega⟩, fun j hj e => by have := H5.out.2.2.1 j hj; have := hlt j e; omega⟩
              have hspl := bsplit_any t p root bn q ii b3 c2 (halfN y.sz) F' N N3 y nd kd w6 hSp (hJ.own.chg hcW hJ.nF) rfl (half_two hz.2.2.1) (by rw [hJ.like.was]; exact H.out.2.1) hnode (hf2.1.vals.trans hnode) (by rcases hf2.1.kids with e | e <;> omega) hJ.room hf1.1.vals (by rcases hf1.1.kids with e | e; exact absurd e H0.out; exact e) (by rw [← HL.out.2.2.2]; exact atI_le _ _) hf1.1 hf2.1 (hJ.ts.pgs q hJ.way.q_mem) ⟨cp, H2.out.2.2.1, H2.out.2.2.2.1⟩ ⟨fun e => by have := H5.out.2.2.1 _ e; have := hJ.tl; omega, fun e => by have := H5.out.2.2.1 _ e; omega⟩
              have H6 := Lib.hid (And.intro hspl (And.intro hcW (And.intro hnode (And.intro hz4 (And.intro hz5 (And.intro hz6 hwz))))))
              clear h2h hspl hSp hcW hnode hf1 hf2 hNlt hlt hz hpos hz4 hz5 hz6 hwz hJ hg6 hfull
              go_wp2_with fail
              refine H6.out.1.mono ?_
              rintro e w7 (⟨rfl, r, k0, v0, F2, N2, hr, hk0, hv0, hbt7, hcg, hFn, hno, hdis, hNn, ff1, ff2, ff3⟩ | ⟨rfl, hfu⟩)
              · obtain ⟨P', PM', e', ke, A', M', B', P1', PM3, P2', ⟨j1, j2, j3, j4, j5⟩, d1, d2, hke, hus⟩ := HJ.out.split H1.out.2.2.2 (W1 := w6) (G := fun j => F' j ∨ N j ∨ N3 j) (N' := N2) (by rw [HL.out.2.2.2]; exact H2.out.1) H2.out.2.1.nd H6.out.2.2.1 (half_two HJ.out.bt.gp.szs.2.2.1) HJ.out.bt.gp.szs.2.2.2.1 hr hk0 hv0 (by rw [HL.out.2.2.2]; exact hbt7) H6.out.2.1 hcg (fun j e => e.elim .inl fun e => e.elim (fun e => .inr (HJ.out.nw j e)) fun e => .inr (by have := H5.out.2.2.1 j e; have := H6.out.2.2.2; omega)) hFn (by rw [HL.out.2.2.2]; exact hno) hdis hNn ff1 ff2 (by rw [HL.out.2.2.2]; exact ff3)
                rw [HL.out.2.2.2] at j1 j3 j4 j5 d1 d2 hus
                obtain ⟨y2, hy2⟩ : ∃ y2, y.splitP r c2 q (kd.hi (halfN y.sz)) (kd.lo (halfN y.sz)) (nd.ins ii k0 v0 r) = y2 := ⟨_, rfl⟩
                have hsz2 : y2.sz = y.sz := by rw [← hy2]; rfl
                rw [hy2] at j1 j3 j4 j5 d2 hus
                rw [← hsz2] at j5 d2 hke
                obtain ⟨nd2, hnd2⟩ : ∃ nd2, nd.ins ii k0 v0 r = nd2 := ⟨_, rfl⟩
                rw [hnd2] at j5 d1 hno
                have hks2 := j5.tr.keys j5.nd (j5.srt j4.srt)
                have hkl3 : nd2.keys.length ≤ 300 := by have h1 := (j1.gp.fit j5.nd).1.most; have h2 := j1.gp.szs; unfold mostN at h1; omega
                have hpl2 := bplace_any bn q nd2 N2 k w7 hno.at hks2 (by omega)
                obtain ⟨i2, hi2⟩ : ∃ i, atI nd2.keys k = i := ⟨_, rfl⟩
                obtain ⟨f2, hf2⟩ : ∃ f, nd2.keys.contains k = f := ⟨_, rfl⟩
                rw [hi2] at d1
                rw [hi2, hf2] at hpl2
                have hil2 : i2 < nd2.kids.length := (List.getElem?_eq_some_iff.1 d1).1
                have hiN2 : (i2 : Int) < (nd2.kids.length : Int) := by omega
                obtain ⟨cp', cq1, cq2, cq3⟩ := Rp.nd_some d2.nd
                have H7 := Lib.hid (And.intro hpl2 (And.intro (And.intro j1 (And.intro j2 (And.intro j3 (And.intro j4 j5)))) (And.intro d1 (And.intro d2 (And.intro hke (And.intro hus (And.intro hno (And.intro hdis (And.intro hNn (And.intro cq1 (And.intro cq2 cq3)))))))))))
                clear hpl2 j1 j2 j3 j4 j5 d1 d2 hke hus hno hdis hNn cq1 cq2 cq3 hr hk0 hv0 hbt7 hcg hFn ff1 ff2 ff3 hy2 hnd2 hsz2 hks2 hf2 hi2
                go_wp2_with fail
                refine H7.out.1.mono ?_
                rintro e w8 ⟨rfl, hg8⟩
                have hn8 := H7.out.2.2.2.2.2.2.1.grew hg8
                have hbt8 := H7.out.2.1.1.grew hg8
                have hld := bload_any t p root e' F2 y2 cp' ke w8 hbt8 H7.out.2.2.2.2.2.2.2.2.2.1 H7.out.2.2.2.2.2.2.2.2.2.2.1 H7.out.2.2.2.2.2.2.2.2.2.2.2
                obtain ⟨Ak2, ck2, Av2, cv2, Ac2, cc2, b1, -, -, b4, -⟩ := hn8.at
                obtain ⟨c0, f0, s0⟩ := b1.facts
                obtain ⟨g2, off2, rfl, hgl, hx⟩ := b4.2 (by omega)
                have hce : w8.cell? ⟨g2, off2 + i2, none⟩ = some (.int .i64 e') := hx i2 _ (by simp [nv, H7.out.2.2.1])
                have H8 := Lib.hid (And.intro hld (And.intro hg8 hbt8))
                clear hld hg8 hn8 hbt8 b1 b4 hx hgl
                go_wp2_with fail
                refine H8.out.1.mono ?_
                rintro e w9 ⟨b5, N5, rfl, hn9, hN9, hbt9, hc9⟩
                clear c0 f0 s0 hce
                have H9 := Lib.hid (And.intro hn9 (And.intro hN9 (And.intro hbt9 hc9)))
                clear hn9 hN9 hbt9 hc9
                go_wp2_with fail
                go_roundg (d' + 1)
                case measure => omega
                case rel =>
                  obtain ⟨j1, j2, j3, j4, j5⟩ := H7.out.2.1
                  obtain ⟨hn9, hN9, hbt9, hc9⟩ := H9.out
                  have hJ := HJ.out
                  have hus := H7.out.2.2.2.2.2.1
                  have hu := hJ.used
                  have hz8 := H8.out.2.1.size
                  have hz7 := j2.chg.size
                  have hlt := H7.out.2.1.1.gp.lt
                  exact ⟨b5, d', e', ke, F2, y2, D, P', _, _, _, _, _, _, N5, rfl, rfl, rfl, hbt9, j2.trans ⟨Grew.then H8.out.2.1 hc9, fun j e => .inl e⟩, j3, j4, H7.out.2.2.2.1, hn9, fun j hj e => by have := hN9 j hj; have := hlt j e; omega, fun j hj => by have := hN9 j hj; omega, H7.out.2.2.2.2.1, by omega, hJ.dep, hJ.tl⟩
              · have hput := HJ.out.fail H6.out.2.1 (fun j e => .inl e) hfu (by omega) (fun j e => e.elim .inl fun e => e.elim (fun e => .inr (HJ.out.nw j e)) fun e => .inr (by have := H5.out.2.2.1 j e; have := H6.out.2.2.2; omega))
                have HO := Lib.hid hput
                clear hput hfu
                go_wp2_with fail
                go_ret
                exact .inr ⟨rfl, HO.out⟩
            · have t5 : decide (2 * halfN y.sz - 1 ≤ kd.keys.length) = false := decide_eq_false hfull
              have t6 : decide (2 * halfN y.sz ≤ kd.keys.length + 1) = false := decide_eq_false (by omega)
              refine H5.out.1.mono ?_
              rintro e w6 ⟨rfl, hg6⟩
              have hbt6 := H5.out.2.2.2.1.grew hg6
              have hld := bload_any t p root c2 F' y cp kd w6 hbt6 H2.out.2.2.1 H2.out.2.2.2.1 H2.out.2.2.2.2
              have hcW : Chg F' wr w6 := (Grew.then H4.out.2.1 H5.out.2.2.2.2).grew hg6
              have hn6 := HJ.out.own.chg hcW HJ.out.nF
              obtain ⟨Ak2, ck2, Av2, cv2, Ac2, cc2, b1, -, -, b4, -⟩ := hn6.at
              obtain ⟨c0, f0, s0⟩ := b1.facts
              obtain ⟨g2, off2, rfl, hgl, hx⟩ := b4.2 (by omega)
              have hce : w6.cell? ⟨g2, off2 + ii, none⟩ = some (.int .i64 c2) := hx ii _ (by simp [nv, H2.out.1])
              have hroom : kd.keys.length + 1 ≤ 2 * halfN y.sz - 1 := by omega
              have H6 := Lib.hid (And.intro hld (And.intro hcW (And.intro hbt6 hroom)))
              clear hld hg6 hn6 hbt6 b1 b4 hx hgl hcW hroom hfull
              go_wp2_with fail
              refine H6.out.1.mono ?_
              rintro e w9 ⟨b5, N5, rfl, hn9, hN9, hbt9, hc9⟩
              clear c0 f0 s0 hce
              have H9 := Lib.hid (And.intro hn9 (And.intro hN9 (And.intro hbt9 hc9)))
              clear hn9 hN9 hbt9 hc9
              go_wp2_with fail
              go_roundg (d' + 1)
              case measure => omega
              case rel =>
                obtain ⟨hn9, hN9, hbt9, hc9⟩ := H9.out
                have hz6 := H6.out.2.1.size
                exact ⟨b5, d', c2, kd, F', y, D, P, _, _, _, _, _, _, N5, rfl, rfl, rfl, HJ.out.down H2.out.2.1 (Chg.trans H6.out.2.1 hc9 fun _ _ e => e) hbt9 hn9 (fun j hj => by have := hN9 j hj; omega) H6.out.2.2.2⟩
      · have hout : PuOut w w4 t p root F x D0 k v L (.returned (.int .i64 21)) := .inr ⟨rfl, (hfu.more (G' := F) (m' := D0 + 4) (Rp.like.refl x) (by omega) H3.out.2 (fun j e => .inl e) fun j hj e => e.resolve_right fun e => by have := HF2.out.2.2.1 j e; omega).full (Nat.le_refl _)⟩
        have HO := Lib.hid hout
        clear hout hfu hz1 hz2 hz3 hpos htl
        go_wp2_with fail
        go_loopg [11, 12] 1 (fun m n e wr => e = .int .i64 21 ∧ wr = w4)
        case atStart => exact ⟨rfl, rfl⟩
        case round =>
          obtain ⟨rfl, rfl⟩ := hrel
          go_wp2_with fail
          go_ret
          exact HO.out
    · have t5 : decide (2 * halfN x.sz - 1 ≤ ndR.keys.length) = false := decide_eq_false hfull
      have t6 : decide (2 * halfN x.sz ≤ ndR.keys.length + 1) = false := decide_eq_false (by omega)
      refine HF2.out.1.mono ?_
      rintro e w3 ⟨rfl, hg3⟩
      have hz1 := H1.out.2.1.size
      have hz2 := HF2.out.2.2.2.2.size
      have htl := H.out.1.blk.lt
      have hJ0 : PuJ w w3 t p root F x k L b2 D0 root ndR F x D0 P [] L [] [] P [] N2 D0 := ⟨HF2.out.2.2.2.1.grew hg3, ⟨(Chg.trans H1.out.2.1 HF2.out.2.2.2.2 fun _ _ e => e).grew hg3, fun j e => .inl e⟩, Rp.like.refl x, H.out.2.2.1, H1.out.1, HF2.out.2.1.grew hg3, fun j hj e => by have := HF2.out.2.2.1 j hj; have := H.out.1.gp.lt j e; omega, fun j hj => by have := HF2.out.2.2.1 j hj; omega, by omega, by omega, by have := H.out.2.2.2.2.2.2.2.2.1; omega, htl⟩
      have HJ0 := Lib.hid hJ0
      clear hJ0 hg3 hz1 hz2 htl hfull
      go_wp2_with fail
      go_loopg [11, 12] (D0 + 1) (fun m n e wr => ∃ (bn d q : Nat) (nd : Nd) (F' : Nat → Prop) (y : Rp) (D : Nat) (P : List Nat) (A M B : List KV) (P1 PM P2 : List Nat) (N : Nat → Prop), m = d + 1 ∧ n = .pointer (some ⟨bn, 0, none⟩) ∧ e = .int .i64 0 ∧ PuJ w wr t p root F x k L bn d q nd F' y D P A M B P1 PM P2 N D0)
      case atStart => exact ⟨_, D0, _, _, _, _, _, _, _, _, _, _, _, _, _, rfl, rfl, rfl, HJ0.out⟩
      case round =>
        obtain ⟨bn, d, q, nd, F', y, D, P, A, M, B, P1, PM, P2, N, rfl, rfl, rfl, hJ⟩ := hrel
        have HJ := Lib.hid hJ
        have hkl : nd.keys.length ≤ 300 := by have h1 := (hJ.bt.gp.fit hJ.way.nd).1.most; have h2 := hJ.bt.gp.szs; unfold mostN at h1; omega
        have hlf := leaf_any bn q nd N wr hJ.own.at
        have hks := hJ.way.tr.keys hJ.way.nd (hJ.way.srt hJ.ts.srt)
        have hpl := bplace_any bn q nd N k wr hJ.own.at hks (by omega)
        have hmiss := hJ.way.miss H1.out.2.2.2
        obtain ⟨ii, hii⟩ : ∃ i, atI nd.keys k = i := ⟨_, rfl⟩
        rw [hmiss, hii] at hpl
        have HL := Lib.hid (And.intro hlf (And.intro hpl (And.intro hmiss hii)))
        clear hlf hpl hks hmiss hii hJ
        by_cases h0 : nd.kids.length = 0
        · have t1 : decide (nd.kids.length = 0) = true := decide_eq_true h0
          obtain rfl : d = 0 := by
            obtain ⟨nd', g1, -, -, g2⟩ := HJ.out.way.tr.node
            rw [HJ.out.way.nd] at g1
            cases g1
            exact g2.1 h0
          go_wp2_with (go_at_call 41; (refine HL.out.1.mono ?_); rintro e w5 ⟨rfl, rfl⟩)
          refine HL.out.2.1.mono ?_
          rintro e w4 ⟨rfl, hg4⟩
          have H4 := Lib.hid (And.intro trivial (And.intro hg4 (And.intro HL.out.2.2.1 HL.out.2.2.2)))
          clear hg4
          obtain ⟨vk, vv, vc, hV⟩ := (HJ.out.own.grew H4.out.2.1).v
          have hne := hV.ne
          have HV := Lib.hid hV
          have hS : w4.drew.cell? ⟨bn, 1, none⟩ = some vk ∧ w4.drew.cell? ⟨bn, 2, none⟩ = some vv := ⟨hV.blk.drew.cell 1, hV.blk.drew.cell 2⟩
          have hiil : ii ≤ nd.keys.length := by rw [← H4.out.2.2.2]; exact atI_le _ _
          have hvl : nd.vals.length = nd.keys.length := (HJ.out.bt.gp.fit HJ.out.way.nd).1.vals
          have hp4 : 1 ≤ w4.heap.size := by have := tab_pos H.out.1.gp.tab; have := HJ.out.rch.chg.size; have := H4.out.2.1.size; omega
          have hkc : nd.kids = [] := List.eq_nil_of_length_eq_zero h0
          have HP := Lib.hid (And.intro hne (And.intro hiil (And.intro hvl (And.intro hp4 (And.intro hkl hkc)))))
          clear hV hne hiil hvl hp4 hkc
          go_wp2_with fail
          refine wp_region_x [1, 10, 11, 12, 14, 15, 20, 21, 22, 23] (S := fun w' => w'.cell? ⟨bn, 1, none⟩ = some vk ∧ w'.cell? ⟨bn, 2, none⟩ = some vv) (by kernel_rfl) hS (fun hHeld => ?_)
          refine wpAnyX_takeP (i := 1) (v := ?_) rfl (by kernel_rfl) (by kernel_rfl) (by kernel_rfl) (by rfl) (fun _ _ _ h => h) (Or.inl ⟨by rfl, ?_⟩) ?_
          rotate_left
          · (intro w hSw; go_simp) <;> with_reducible rfl
          (try simp only [Act.put, List.setIfInBounds_toArray, List.set_cons_zero, List.set_cons_succ, List.getElem_toArray, List.getElem_cons_zero, List.getElem_cons_succ])
          refine wpAnyX_takeP (i := 10) (v := ?_) rfl (by kernel_rfl) (by kernel_rfl) (by kernel_rfl) (by rfl) (fun _ _ _ h => h) (Or.inl ⟨by rfl, ?_⟩) ?_
          rotate_left
          · (intro w hSw; go_simp) <;> with_reducible rfl
          (try simp only [Act.put, List.setIfInBounds_toArray, List.set_cons_zero, List.set_cons_succ, List.getElem_toArray, List.getElem_cons_zero, List.getElem_cons_succ])
          refine wpAnyX_takeP (i := 11) (v := ?_) rfl (by kernel_rfl) (by kernel_rfl) (by kernel_rfl) (by rfl) (fun _ _ _ h => h) (Or.inl ⟨by rfl, ?_⟩) ?_
          rotate_left
          · (intro w hSw; go_simp) <;> with_reducible rfl
          (try simp only [Act.put, List.setIfInBounds_toArray, List.set_cons_zero, List.set_cons_succ, List.getElem_toArray, List.getElem_cons_zero, List.getElem_cons_succ])
          refine wpAnyX_takeP (i := 12) (v := ?_) rfl (by kernel_rfl) (by kernel_rfl) (by kernel_rfl) (by rfl) (fun _ _ _ h => h) (Or.inl ⟨by rfl, ?_⟩) ?_
          rotate_left
          · (intro w hSw; go_simp) <;> with_reducible rfl
          (try simp only [Act.put, List.setIfInBounds_toArray, List.set_cons_zero, List.set_cons_succ, List.getElem_toArray, List.getElem_cons_zero, List.getElem_cons_succ])
          refine wpAnyX_takeP (i := 14) (v := ?_) rfl (by kernel_rfl) (by kernel_rfl) (by kernel_rfl) (by rfl) (fun _ _ _ h => h) (Or.inl ⟨by rfl, ?_⟩) ?_
          rotate_left
          · (intro w hSw; go_simp) <;> with_reducible rfl
          (try simp only [Act.put, List.setIfInBounds_toArray, List.set_cons_zero, List.set_cons_succ, List.getElem_toArray, List.getElem_cons_zero, List.getElem_cons_succ])
          refine wpAnyX_takeP (i := 15) (v := ?_) rfl (by kernel_rfl) (by kernel_rfl) (by kernel_rfl) (by rfl) (fun _ _ _ h => h) (Or.inl ⟨by rfl, ?_⟩) ?_
          rotate_left
          · (intro w hSw; go_simp) <;> with_reducible rfl
          (try simp only [Act.put, List.setIfInBounds_toArray, List.set_cons_zero, List.set_cons_succ, List.getElem_toArray, List.getElem_cons_zero, List.getElem_cons_succ])
          refine wpAnyX_mono (X' := [20, 21, 22, 23]) (fun i hi => by simp at hi ⊢; omega) _ _ _ _ ?_
          refine wpAnyX_take (i := 0) (v := ?_) rfl (by kernel_rfl) (by kernel_rfl) (by kernel_rfl) (by kernel_rfl) (fun _ _ _ h => h) (Or.inl ⟨by rfl, ?_⟩) hHeld ?_
          rotate_left
          · (intro w hSw; (try dsimp only at hSw); go_simp) <;> with_reducible rfl
          (try simp only [Act.put, List.setIfInBounds_toArray, List.set_cons_zero, List.set_cons_succ, List.getElem_toArray, List.getElem_cons_zero, List.getElem_cons_succ])
          refine wpAnyX_take (i := 2) (v := ?_) rfl (by kernel_rfl) (by kernel_rfl) (by kernel_rfl) (by kernel_rfl) (fun _ _ _ h => h) (Or.inl ⟨by rfl, ?_⟩) hHeld ?_
          rotate_left
          · (intro w hSw; (try dsimp only at hSw); go_simp) <;> with_reducible rfl
          (try simp only [Act.put, List.setIfInBounds_toArray, List.set_cons_zero, List.set_cons_succ, List.getElem_toArray, List.getElem_cons_zero, List.getElem_cons_succ])
          refine wpAnyX_take (i := 3) (v := ?_) rfl (by kernel_rfl) (by kernel_rfl) (by kernel_rfl) (by kernel_rfl) (fun _ _ _ h => h) (Or.inl ⟨by rfl, ?_⟩) hHeld ?_
          rotate_left
          · (intro w hSw; (try dsimp only at hSw); go_simp) <;> with_reducible rfl
          (try simp only [Act.put, List.setIfInBounds_toArray, List.set_cons_zero, List.set_cons_succ, List.getElem_toArray, List.getElem_cons_zero, List.getElem_cons_succ])
          refine wpAnyX_take (i := 4) (v := ?_) rfl (by kernel_rfl) (by kernel_rfl) (by kernel_rfl) (by kernel_rfl) (fun _ _ _ h => h) (Or.inl ⟨by rfl, ?_⟩) hHeld ?_
          rotate_left
          · (intro w hSw; (try dsimp only at hSw); go_simp) <;> with_reducible rfl
          (try simp only [Act.put, List.setIfInBounds_toArray, List.set_cons_zero, List.set_cons_succ, List.getElem_toArray, List.getElem_cons_zero, List.getElem_cons_succ])
          refine wpAnyX_take (i := 5) (v := ?_) rfl (by kernel_rfl) (by kernel_rfl) (by kernel_rfl) (by kernel_rfl) (fun _ _ _ h => h) (Or.inl ⟨by rfl, ?_⟩) hHeld ?_
          rotate_left
          · (intro w hSw; (try dsimp only at hSw); go_simp) <;> with_reducible rfl
          (try simp only [Act.put, List.setIfInBounds_toArray, List.set_cons_zero, List.set_cons_succ, List.getElem_toArray, List.getElem_cons_zero, List.getElem_cons_succ])
          refine wpAnyX_take (i := 6) (v := ?_) rfl (by kernel_rfl) (by kernel_rfl) (by kernel_rfl) (by kernel_rfl) (fun _ _ _ h => h) (Or.inl ⟨by rfl, ?_⟩) hHeld ?_
          rotate_left
          · (intro w hSw; (try dsimp only at hSw); go_simp) <;> with_reducible rfl
          (try simp only [Act.put, List.setIfInBounds_toArray, List.set_cons_zero, List.set_cons_succ, List.getElem_toArray, List.getElem_cons_zero, List.getElem_cons_succ])
          refine wpAnyX_take (i := 7) (v := ?_) rfl (by kernel_rfl) (by kernel_rfl) (by kernel_rfl) (by kernel_rfl) (fun _ _ _ h => h) (Or.inl ⟨by rfl, ?_⟩) hHeld ?_
          rotate_left
          · (intro w hSw; (try dsimp only at hSw); go_simp) <;> with_reducible rfl
          (try simp only [Act.put, List.setIfInBounds_toArray, List.set_cons_zero, List.set_cons_succ, List.getElem_toArray, List.getElem_cons_zero, List.getElem_cons_succ])
          refine wpAnyX_take (i := 13) (v := ?_) rfl (by kernel_rfl) (by kernel_rfl) (by kernel_rfl) (by kernel_rfl) (fun _ _ _ h => h) (Or.inl ⟨by rfl, ?_⟩) hHeld ?_
          rotate_left
          · (intro w hSw; (try dsimp only at hSw); go_simp) <;> with_reducible rfl
          (try simp only [Act.put, List.setIfInBounds_toArray, List.set_cons_zero, List.set_cons_succ, List.getElem_toArray, List.getElem_cons_zero, List.getElem_cons_succ])
          refine wpAnyX_ready (rs := [8, 16]) (by kernel_rfl) (by simp) ?_
          refine AllReadyX.cons rfl (fun K hK => ?_) (AllReadyX.cons rfl (fun K hK => ?_) AllReadyX.nil)
          · go_simp
            obtain ⟨W6, hW6⟩ : ∃ W, (w4.alloc (.cells #[.int .i64 k] 3)).drew = W := ⟨_, rfl⟩
            rw [hW6]
            have gW6 : Grew w4 W6 := hW6 ▸ ((Chg.refl NoF w4).alloc _).drew
            have lW6 : Blk W6 w4.heap.size 3 #[.int .i64 k] := hW6 ▸ (Blk.new w4 _ _).drew
            have hR6 := HV.out.rws.grew gW6
            have hB6 := HV.out.blk.grew gW6
            refine hK.out _ _ (fun _ => (⟨(hB6).cell 1, (hB6).cell 2⟩ : W6.cell? ⟨bn, 1, none⟩ = some vk ∧ W6.cell? ⟨bn, 2, none⟩ = some vv)) ?_
            clear hK K
            (try simp only [Act.put, List.setIfInBounds_toArray, List.set_cons_zero, List.set_cons_succ, List.getElem_toArray, List.getElem_cons_zero, List.getElem_cons_succ])
            refine wpAnyX_ready (rs := [9, 16]) (by kernel_rfl) (by simp) ?_
            refine AllReadyX.cons rfl (fun K hK => ?_) (AllReadyX.cons rfl (fun K hK => ?_) AllReadyX.nil)
            · go_simp
              refine (insK hR6 (by omega) HP.out.2.1 lW6 (fun e => by have := HV.out.lt _ (HV.out.nk _ e); have := gW6.size; omega) (by have := HP.out.2.2.2.1; have := gW6.size; (try have := gW8.size); omega)).mono ?_
              rintro e w7 ⟨A7, c7, rfl, hR7, ha7⟩
              have hB7 := hB6.chg ha7.chg HP.out.1.1
              refine hK.out _ _ (fun _ => (⟨(hB7).cell 1, (hB7).cell 2⟩ : w7.cell? ⟨bn, 1, none⟩ = some vk ∧ w7.cell? ⟨bn, 2, none⟩ = some vv)) ?_
              clear hK K
              (try simp only [Act.put, List.setIfInBounds_toArray, List.set_cons_zero, List.set_cons_succ, List.getElem_toArray, List.getElem_cons_zero, List.getElem_cons_succ])
              refine wpAnyX_ready (rs := [16]) (by kernel_rfl) (by simp) ?_
              refine AllReadyX.cons rfl (fun K hK => ?_) AllReadyX.nil
              go_simp
              obtain ⟨W8, hW8⟩ : ∃ W, w7.alloc (.cells #[.int .i64 v] 3) = W := ⟨_, rfl⟩
              rw [hW8]
              have gW8 : Grew w7 W8 := hW8 ▸ (Chg.refl NoF w7).alloc _
              have lW8 : Blk W8 w7.heap.size 3 #[.int .i64 v] := hW8 ▸ Blk.new w7 _ _
              have hR8 := hR7.grew gW8
              have hB8 := hB7.grew gW8
              refine hK.out _ _ (fun _ => (⟨(hB8).cell 1, (hB8).cell 2⟩ : W8.cell? ⟨bn, 1, none⟩ = some vk ∧ W8.cell? ⟨bn, 2, none⟩ = some vv)) ?_
              clear hK K
              (try simp only [Act.put, List.setIfInBounds_toArray, List.set_cons_zero, List.set_cons_succ, List.getElem_toArray, List.getElem_cons_zero, List.getElem_cons_succ])
              refine wpAnyX_ready (rs := [17]) (by kernel_rfl) (by simp) ?_
              refine AllReadyX.cons rfl (fun K hK => ?_) AllReadyX.nil
              go_simp
              refine (insV hR8 (by have := HP.out.2.2.1; omega) (by have := HP.out.2.2.1; have := HP.out.2.1; omega) lW8 (fun e => by have := hR7.lt _ (hR7.nv _ e); omega) (by have := HP.out.2.2.2.1; have := ha7.chg.size; have := gW6.size; have := gW8.size; omega)).mono ?_
              rintro e w10 ⟨A10, c10, rfl, hR10, ha10⟩
              have hB10 := hB8.chg ha10.chg HP.out.1.2.1
              have hC10 : Chg N w4 w10 := Chg.trans (Grew.then gW6 (ha7.chg.mono fun j _ e => HV.out.nk j e)) (Grew.then gW8 (ha10.chg.mono fun j _ e => HV.out.nv j e)) fun _ _ e => e

              have HF := Lib.hid (show Rws w10 (fun j => (N j ∨ (Value.slice A7 (nd.keys.length + 1) c7).ownBlock = some j) ∨ (Value.slice A10 (nd.vals.length + 1) c10).ownBlock = some j) (.slice A7 (nd.keys.length + 1) c7) (.slice A10 (nd.vals.length + 1) c10) vc (iv (insI nd.keys ii k)) (iv (insI nd.vals ii v)) (nv []) ∧ Blk w10 bn 73 #[.int .i64 q, vk, vv, vc] ∧ Chg N w4 w10 from ⟨HP.out.2.2.2.2.2 ▸ hR10, hB10, hC10⟩)
              clear hR10 hB10 hC10
              clear hR6 hB6 hR7 ha7 hB7 hR8 hB8 ha10 lW6 lW8 gW6 gW8 hW6 hW8

              have hb10 := HF.out.2.1
              obtain ⟨d9, f9, s9⟩ := hb10.facts
              have hS10 : w10.cell? ⟨bn, 1, none⟩ = some vk ∧ w10.cell? ⟨bn, 2, none⟩ = some vv := ⟨hb10.cell 1, hb10.cell 2⟩
              refine hK.out _ _ (fun _ => hS10) ?_
              clear hK K
              (try simp only [Act.put, List.setIfInBounds_toArray, List.set_cons_zero, List.set_cons_succ, List.getElem_toArray, List.getElem_cons_zero, List.getElem_cons_succ])
              refine wpAnyX_ready (rs := [18]) (by kernel_rfl) (by simp) ?_
              refine AllReadyX.cons rfl (fun K hK => ?_) AllReadyX.nil
              go_simp
              refine hK.out _ _ (fun _ => hS10) ?_
              clear hK K
              (try simp only [Act.put, List.setIfInBounds_toArray, List.set_cons_zero, List.set_cons_succ, List.getElem_toArray, List.getElem_cons_zero, List.getElem_cons_succ])
              refine wpAnyX_ready (rs := [19]) (by kernel_rfl) (by simp) ?_
              refine AllReadyX.cons rfl (fun K hK => ?_) AllReadyX.nil
              go_simp
              refine hK.out _ _ (fun _ => hS10) ?_
              clear hK K
              (try simp only [Act.put, List.setIfInBounds_toArray, List.set_cons_zero, List.set_cons_succ, List.getElem_toArray, List.getElem_cons_zero, List.getElem_cons_succ])
              refine wpAnyX_ready (rs := [20]) (by kernel_rfl) (by simp) ?_
              refine AllReadyX.cons rfl (fun K hK => ?_) AllReadyX.nil
              go_simp
              obtain ⟨W11, hW11⟩ : ∃ W, w10.setCell ⟨bn, 1, none⟩ (.slice A7 (nd.keys.length + 1) c7) = W := ⟨_, rfl⟩
              rw [hW11]
              have hb11 : Blk W11 bn 73 #[.int .i64 q, .slice A7 (nd.keys.length + 1) c7, vv, vc] := by
                have h9 := hb10.put 1 (.slice A7 (nd.keys.length + 1) c7)
                rw [hW11] at h9
                simpa using h9
              have hc11 : Chg (fun j => j = bn) w10 W11 := hW11 ▸ (Chg.refl (fun j => j = bn) w10).setCell (p := ⟨bn, 1, none⟩) (fun _ => rfl) _
              clear d9 f9 s9 hS10 hb10 hW11
              obtain ⟨d9, f9, s9⟩ := hb11.facts
              refine hK.out _ _ (fun h => by cases h) ?_
              clear hK K
              (try simp only [Act.put, List.setIfInBounds_toArray, List.set_cons_zero, List.set_cons_succ, List.getElem_toArray, List.getElem_cons_zero, List.getElem_cons_succ])
              refine wpAnyX_ready (rs := [21]) (by kernel_rfl) (by simp) ?_
              refine AllReadyX.cons rfl (fun K hK => ?_) AllReadyX.nil
              go_simp
              refine hK.out _ _ (fun h => by cases h) ?_
              clear hK K
              (try simp only [Act.put, List.setIfInBounds_toArray, List.set_cons_zero, List.set_cons_succ, List.getElem_toArray, List.getElem_cons_zero, List.getElem_cons_succ])
              refine wpAnyX_ready (rs := [22]) (by kernel_rfl) (by simp) ?_
              refine AllReadyX.cons rfl (fun K hK => ?_) AllReadyX.nil
              go_simp
              refine hK.out _ _ (fun h => by cases h) ?_
              clear hK K
              (try simp only [Act.put, List.setIfInBounds_toArray, List.set_cons_zero, List.set_cons_succ, List.getElem_toArray, List.getElem_cons_zero, List.getElem_cons_succ])
              refine wpAnyX_ready (rs := [23]) (by kernel_rfl) (by simp) ?_
              refine AllReadyX.cons rfl (fun K hK => ?_) AllReadyX.nil
              go_simp
              obtain ⟨W12, hW12⟩ : ∃ W, W11.setCell ⟨bn, 2, none⟩ (.slice A10 (nd.vals.length + 1) c10) = W := ⟨_, rfl⟩
              rw [hW12]
              have hb12 : Blk W12 bn 73 #[.int .i64 q, .slice A7 (nd.keys.length + 1) c7, .slice A10 (nd.vals.length + 1) c10, vc] := by
                have h9 := hb11.put 2 (.slice A10 (nd.vals.length + 1) c10)
                rw [hW12] at h9
                simpa using h9
              have hc12 : Chg (fun j => j = bn) w10 W12 := Chg.trans hc11 (hW12 ▸ (Chg.refl (fun j => j = bn) W11).setCell (p := ⟨bn, 2, none⟩) (fun _ => rfl) _) fun _ _ e => e
              clear d9 f9 s9 hW12 hb11 hc11
              refine hK.out _ _ (fun h => by cases h) ?_
              clear hK K
              (try simp only [Act.put, List.setIfInBounds_toArray, List.set_cons_zero, List.set_cons_succ, List.getElem_toArray, List.getElem_cons_zero, List.getElem_cons_succ])
              refine wpAnyX_done (by kernel_rfl) ?_ _
              have hbn10 := HF.out.2.1
              have hn12 : NdOwn W12 (fun j => (N j ∨ (Value.slice A7 (nd.keys.length + 1) c7).ownBlock = some j) ∨ (Value.slice A10 (nd.vals.length + 1) c10).ownBlock = some j) bn q ⟨insI nd.keys ii k, insI nd.vals ii v, []⟩ := by
                refine NdV.own (vk := .slice A7 (nd.keys.length + 1) c7) (vv := .slice A10 (nd.vals.length + 1) c10) (vc := vc) (nd := ⟨insI nd.keys ii k, insI nd.vals ii v, []⟩) ?_
                have hr := HF.out.1
                exact (hr.chg hc12 (fun g hg e => own_blk_ne hr.rk hbn10 (by decide) (by rw [hg, e])) (fun g hg e => own_blk_ne hr.rv hbn10 (by decide) (by rw [hg, e])) (fun g hg e => own_blk_ne hr.rc hbn10 (by decide) (by rw [hg, e]))).ndv hb12 (.inl (.inl HV.out.nb))
              have hcN : Chg N w4 W12 := Chg.trans HF.out.2.2 hc12 fun j _ e => by subst e; exact HV.out.nb
              have hcW : Chg N wr W12 := Grew.then H4.out.2.1 hcN
              have hJ := HJ.out
              have hwz := hJ.rch.chg.size
              have hpos := tab_pos H.out.1.gp.tab
              have hbt12 : BT W12 t p root F' y := hJ.bt.chg hcW (fun j hj e => hJ.nF j e hj) (fun e => by have := hJ.nw _ e; omega) (fun e => by have := hJ.nw _ e; have := hJ.tl; omega)
              have hfit : (⟨insI nd.keys ii k, insI nd.vals ii v, []⟩ : Nd).Fit y.sz := nd_put_fit (hJ.bt.gp.fit hJ.way.nd).1 (by rw [← H4.out.2.2.2]; exact atI_le _ _) (by have := half_most hJ.bt.gp.szs.2.2.1; have := hJ.room; omega) H.out.2.2.2.2.1 H.out.2.2.2.2.2.1
              obtain ⟨cq, q1, q2⟩ := hJ.ts.pgs q hJ.way.q_mem
              have hsv := bsave_any t p root bn q F' _ y cq ⟨insI nd.keys ii k, insI nd.vals ii v, []⟩ W12 hbt12 hn12.at hfit (by rw [hJ.like.was]; exact H.out.2.1) q1 q2 (fun e => hJ.nF _ HV.out.nb e)
              have HE := Lib.hid (And.intro hsv (And.intro hcW (And.intro hfit hbt12)))
              clear hsv hcW hfit hbt12 hn12 hcN hb12 hc12 hbn10 hJ hwz hpos q1 q2 hHeld hS
              go_wp2_with fail
              refine HE.out.1.mono ?_
              rintro e w' (⟨rfl, hto⟩ | ⟨hns, -, rfl, hg⟩)
              · have hput := HJ.out.put (v := v) H1.out.2.2.2 HE.out.2.1 (fun j e => .inr (HJ.out.nw j e)) HJ.out.bt.gp.szs.2.2.2.1 (by rw [H4.out.2.2.2]; exact hto) (by rw [H4.out.2.2.2]; exact HE.out.2.2.1)
                have HO := Lib.hid hput
                clear hput hto
                go_wp2_with fail
                go_ret
                exact .inl ⟨rfl, HO.out⟩
              · have hput := HJ.out.fail (m := 0) (G := F') HE.out.2.1 (fun j e => .inr (HJ.out.nw j e)) ⟨y, F', HE.out.2.2.2.grew hg, hg.chg, fun _ e => .inl e, Rp.like.refl y, by omega, fun e => hns e.1⟩ (by omega) (fun j e => .inl e)
                have HO := Lib.hid hput
                clear hput hg hns
                go_wp2_with fail
                go_ret
                exact .inr ⟨rfl, HO.out⟩
            · go_simp
              obtain ⟨W8, hW8⟩ : ∃ W, W6.alloc (.cells #[.int .i64 v] 3) = W := ⟨_, rfl⟩
              rw [hW8]
              have gW8 : Grew W6 W8 := hW8 ▸ (Chg.refl NoF W6).alloc _
              have lW8 : Blk W8 W6.heap.size 3 #[.int .i64 v] := hW8 ▸ Blk.new W6 _ _
              have hR8 := hR6.grew gW8
              have hB8 := hB6.grew gW8
              refine hK.out _ _ (fun _ => (⟨(hB8).cell 1, (hB8).cell 2⟩ : W8.cell? ⟨bn, 1, none⟩ = some vk ∧ W8.cell? ⟨bn, 2, none⟩ = some vv)) ?_
              clear hK K
              (try simp only [Act.put, List.setIfInBounds_toArray, List.set_cons_zero, List.set_cons_succ, List.getElem_toArray, List.getElem_cons_zero, List.getElem_cons_succ])
              refine wpAnyX_ready (rs := [9]) (by kernel_rfl) (by simp) ?_
              refine AllReadyX.cons rfl (fun K hK => ?_) AllReadyX.nil
              go_simp
              refine (insK hR8 (by omega) HP.out.2.1 (lW6.grew gW8) (fun e => by have := HV.out.lt _ (HV.out.nk _ e); have := gW6.size; omega) (by have := HP.out.2.2.2.1; have := gW6.size; (try have := gW8.size); omega)).mono ?_
              rintro e w9 ⟨A7, c7, rfl, hR9, ha9⟩
              have hB9 := hB8.chg ha9.chg HP.out.1.1
              have hl9 := lW8.chg ha9.chg fun e => by have := HV.out.lt _ (HV.out.nk _ e); have := gW6.size; omega
              refine hK.out _ _ (fun _ => (⟨(hB9).cell 1, (hB9).cell 2⟩ : w9.cell? ⟨bn, 1, none⟩ = some vk ∧ w9.cell? ⟨bn, 2, none⟩ = some vv)) ?_
              clear hK K
              (try simp only [Act.put, List.setIfInBounds_toArray, List.set_cons_zero, List.set_cons_succ, List.getElem_toArray, List.getElem_cons_zero, List.getElem_cons_succ])
              refine wpAnyX_ready (rs := [17]) (by kernel_rfl) (by simp) ?_
              refine AllReadyX.cons rfl (fun K hK => ?_) AllReadyX.nil
              go_simp
              refine (insV hR9 (by have := HP.out.2.2.1; omega) (by have := HP.out.2.2.1; have := HP.out.2.1; omega) hl9 (fun e => by have := HV.out.lt _ (HV.out.nv _ e); have := gW6.size; omega) (by have := HP.out.2.2.2.1; have := ha9.chg.size; have := gW6.size; have := gW8.size; omega)).mono ?_
              rintro e w10 ⟨A10, c10, rfl, hR10, ha10⟩
              have hB10 := hB9.chg ha10.chg HP.out.1.2.1
              have hC10 : Chg N w4 w10 := Chg.trans (Grew.then (Grew.trans gW6 gW8) (ha9.chg.mono fun j _ e => HV.out.nk j e)) (ha10.chg.mono fun j _ e => HV.out.nv j e) fun _ _ e => e

              have HF := Lib.hid (show Rws w10 (fun j => (N j ∨ (Value.slice A7 (nd.keys.length + 1) c7).ownBlock = some j) ∨ (Value.slice A10 (nd.vals.length + 1) c10).ownBlock = some j) (.slice A7 (nd.keys.length + 1) c7) (.slice A10 (nd.vals.length + 1) c10) vc (iv (insI nd.keys ii k)) (iv (insI nd.vals ii v)) (nv []) ∧ Blk w10 bn 73 #[.int .i64 q, vk, vv, vc] ∧ Chg N w4 w10 from ⟨HP.out.2.2.2.2.2 ▸ hR10, hB10, hC10⟩)
              clear hR10 hB10 hC10
              clear hR6 hB6 hR8 hB8 hR9 ha9 hB9 hl9 ha10 lW6 lW8 gW6 gW8 hW6 hW8

              have hb10 := HF.out.2.1
              obtain ⟨d9, f9, s9⟩ := hb10.facts
              have hS10 : w10.cell? ⟨bn, 1, none⟩ = some vk ∧ w10.cell? ⟨bn, 2, none⟩ = some vv := ⟨hb10.cell 1, hb10.cell 2⟩
              refine hK.out _ _ (fun _ => hS10) ?_
              clear hK K
              (try simp only [Act.put, List.setIfInBounds_toArray, List.set_cons_zero, List.set_cons_succ, List.getElem_toArray, List.getElem_cons_zero, List.getElem_cons_succ])
              refine wpAnyX_ready (rs := [18]) (by kernel_rfl) (by simp) ?_
              refine AllReadyX.cons rfl (fun K hK => ?_) AllReadyX.nil
              go_simp
              refine hK.out _ _ (fun _ => hS10) ?_
              clear hK K
              (try simp only [Act.put, List.setIfInBounds_toArray, List.set_cons_zero, List.set_cons_succ, List.getElem_toArray, List.getElem_cons_zero, List.getElem_cons_succ])
              refine wpAnyX_ready (rs := [19]) (by kernel_rfl) (by simp) ?_
              refine AllReadyX.cons rfl (fun K hK => ?_) AllReadyX.nil
              go_simp
              refine hK.out _ _ (fun _ => hS10) ?_
              clear hK K
              (try simp only [Act.put, List.setIfInBounds_toArray, List.set_cons_zero, List.set_cons_succ, List.getElem_toArray, List.getElem_cons_zero, List.getElem_cons_succ])
              refine wpAnyX_ready (rs := [20]) (by kernel_rfl) (by simp) ?_
              refine AllReadyX.cons rfl (fun K hK => ?_) AllReadyX.nil
              go_simp
              obtain ⟨W11, hW11⟩ : ∃ W, w10.setCell ⟨bn, 1, none⟩ (.slice A7 (nd.keys.length + 1) c7) = W := ⟨_, rfl⟩
              rw [hW11]
              have hb11 : Blk W11 bn 73 #[.int .i64 q, .slice A7 (nd.keys.length + 1) c7, vv, vc] := by
                have h9 := hb10.put 1 (.slice A7 (nd.keys.length + 1) c7)
                rw [hW11] at h9
                simpa using h9
              have hc11 : Chg (fun j => j = bn) w10 W11 := hW11 ▸ (Chg.refl (fun j => j = bn) w10).setCell (p := ⟨bn, 1, none⟩) (fun _ => rfl) _
              clear d9 f9 s9 hS10 hb10 hW11
              obtain ⟨d9, f9, s9⟩ := hb11.facts
              refine hK.out _ _ (fun h => by cases h) ?_
              clear hK K
              (try simp only [Act.put, List.setIfInBounds_toArray, List.set_cons_zero, List.set_cons_succ, List.getElem_toArray, List.getElem_cons_zero, List.getElem_cons_succ])
              refine wpAnyX_ready (rs := [21]) (by kernel_rfl) (by simp) ?_
              refine AllReadyX.cons rfl (fun K hK => ?_) AllReadyX.nil
              go_simp
              refine hK.out _ _ (fun h => by cases h) ?_
              clear hK K
              (try simp only [Act.put, List.setIfInBounds_toArray, List.set_cons_zero, List.set_cons_succ, List.getElem_toArray, List.getElem_cons_zero, List.getElem_cons_succ])
              refine wpAnyX_ready (rs := [22]) (by kernel_rfl) (by simp) ?_
              refine AllReadyX.cons rfl (fun K hK => ?_) AllReadyX.nil
              go_simp
              refine hK.out _ _ (fun h => by cases h) ?_
              clear hK K
              (try simp only [Act.put, List.setIfInBounds_toArray, List.set_cons_zero, List.set_cons_succ, List.getElem_toArray, List.getElem_cons_zero, List.getElem_cons_succ])
              refine wpAnyX_ready (rs := [23]) (by kernel_rfl) (by simp) ?_
              refine AllReadyX.cons rfl (fun K hK => ?_) AllReadyX.nil
              go_simp
              obtain ⟨W12, hW12⟩ : ∃ W, W11.setCell ⟨bn, 2, none⟩ (.slice A10 (nd.vals.length + 1) c10) = W := ⟨_, rfl⟩
              rw [hW12]
              have hb12 : Blk W12 bn 73 #[.int .i64 q, .slice A7 (nd.keys.length + 1) c7, .slice A10 (nd.vals.length + 1) c10, vc] := by
                have h9 := hb11.put 2 (.slice A10 (nd.vals.length + 1) c10)
                rw [hW12] at h9
                simpa using h9
              have hc12 : Chg (fun j => j = bn) w10 W12 := Chg.trans hc11 (hW12 ▸ (Chg.refl (fun j => j = bn) W11).setCell (p := ⟨bn, 2, none⟩) (fun _ => rfl) _) fun _ _ e => e
              clear d9 f9 s9 hW12 hb11 hc11
              refine hK.out _ _ (fun h => by cases h) ?_
              clear hK K
              (try simp only [Act.put, List.setIfInBounds_toArray, List.set_cons_zero, List.set_cons_succ, List.getElem_toArray, List.getElem_cons_zero, List.getElem_cons_succ])
              refine wpAnyX_done (by kernel_rfl) ?_ _
              have hbn10 := HF.out.2.1
              have hn12 : NdOwn W12 (fun j => (N j ∨ (Value.slice A7 (nd.keys.length + 1) c7).ownBlock = some j) ∨ (Value.slice A10 (nd.vals.length + 1) c10).ownBlock = some j) bn q ⟨insI nd.keys ii k, insI nd.vals ii v, []⟩ := by
                refine NdV.own (vk := .slice A7 (nd.keys.length + 1) c7) (vv := .slice A10 (nd.vals.length + 1) c10) (vc := vc) (nd := ⟨insI nd.keys ii k, insI nd.vals ii v, []⟩) ?_
                have hr := HF.out.1
                exact (hr.chg hc12 (fun g hg e => own_blk_ne hr.rk hbn10 (by decide) (by rw [hg, e])) (fun g hg e => own_blk_ne hr.rv hbn10 (by decide) (by rw [hg, e])) (fun g hg e => own_blk_ne hr.rc hbn10 (by decide) (by rw [hg, e]))).ndv hb12 (.inl (.inl HV.out.nb))
              have hcN : Chg N w4 W12 := Chg.trans HF.out.2.2 hc12 fun j _ e => by subst e; exact HV.out.nb
              have hcW : Chg N wr W12 := Grew.then H4.out.2.1 hcN
              have hJ := HJ.out
              have hwz := hJ.rch.chg.size
              have hpos := tab_pos H.out.1.gp.tab
              have hbt12 : BT W12 t p root F' y := hJ.bt.chg hcW (fun j hj e => hJ.nF j e hj) (fun e => by have := hJ.nw _ e; omega) (fun e => by have := hJ.nw _ e; have := hJ.tl; omega)
              have hfit : (⟨insI nd.keys ii k, insI nd.vals ii v, []⟩ : Nd).Fit y.sz := nd_put_fit (hJ.bt.gp.fit hJ.way.nd).1 (by rw [← H4.out.2.2.2]; exact atI_le _ _) (by have := half_most hJ.bt.gp.szs.2.2.1; have := hJ.room; omega) H.out.2.2.2.2.1 H.out.2.2.2.2.2.1
              obtain ⟨cq, q1, q2⟩ := hJ.ts.pgs q hJ.way.q_mem
              have hsv := bsave_any t p root bn q F' _ y cq ⟨insI nd.keys ii k, insI nd.vals ii v, []⟩ W12 hbt12 hn12.at hfit (by rw [hJ.like.was]; exact H.out.2.1) q1 q2 (fun e => hJ.nF _ HV.out.nb e)
              have HE := Lib.hid (And.intro hsv (And.intro hcW (And.intro hfit hbt12)))
              clear hsv hcW hfit hbt12 hn12 hcN hb12 hc12 hbn10 hJ hwz hpos q1 q2 hHeld hS
              go_wp2_with fail
              refine HE.out.1.mono ?_
              rintro e w' (⟨rfl, hto⟩ | ⟨hns, -, rfl, hg⟩)
              · have hput := HJ.out.put (v := v) H1.out.2.2.2 HE.out.2.1 (fun j e => .inr (HJ.out.nw j e)) HJ.out.bt.gp.szs.2.2.2.1 (by rw [H4.out.2.2.2]; exact hto) (by rw [H4.out.2.2.2]; exact HE.out.2.2.1)
                have HO := Lib.hid hput
                clear hput hto
                go_wp2_with fail
                go_ret
                exact .inl ⟨rfl, HO.out⟩
              · have hput := HJ.out.fail (m := 0) (G := F') HE.out.2.1 (fun j e => .inr (HJ.out.nw j e)) ⟨y, F', HE.out.2.2.2.grew hg, hg.chg, fun _ e => .inl e, Rp.like.refl y, by omega, fun e => hns e.1⟩ (by omega) (fun j e => .inl e)
                have HO := Lib.hid hput
                clear hput hg hns
                go_wp2_with fail
                go_ret
                exact .inr ⟨rfl, HO.out⟩
          · go_simp
            obtain ⟨W6, hW6⟩ : ∃ W, (w4.alloc (.cells #[.int .i64 v] 3)).drew = W := ⟨_, rfl⟩
            rw [hW6]
            have gW6 : Grew w4 W6 := hW6 ▸ ((Chg.refl NoF w4).alloc _).drew
            have lW6 : Blk W6 w4.heap.size 3 #[.int .i64 v] := hW6 ▸ (Blk.new w4 _ _).drew
            have hR6 := HV.out.rws.grew gW6
            have hB6 := HV.out.blk.grew gW6
            refine hK.out _ _ (fun _ => (⟨(hB6).cell 1, (hB6).cell 2⟩ : W6.cell? ⟨bn, 1, none⟩ = some vk ∧ W6.cell? ⟨bn, 2, none⟩ = some vv)) ?_
            clear hK K
            (try simp only [Act.put, List.setIfInBounds_toArray, List.set_cons_zero, List.set_cons_succ, List.getElem_toArray, List.getElem_cons_zero, List.getElem_cons_succ])
            refine wpAnyX_ready (rs := [8]) (by kernel_rfl) (by simp) ?_
            refine AllReadyX.cons rfl (fun K hK => ?_) AllReadyX.nil
            go_simp
            obtain ⟨W8, hW8⟩ : ∃ W, W6.alloc (.cells #[.int .i64 k] 3) = W := ⟨_, rfl⟩
            rw [hW8]
            have gW8 : Grew W6 W8 := hW8 ▸ (Chg.refl NoF W6).alloc _
            have lW8 : Blk W8 W6.heap.size 3 #[.int .i64 k] := hW8 ▸ Blk.new W6 _ _
            have hR8 := hR6.grew gW8
            have hB8 := hB6.grew gW8
            refine hK.out _ _ (fun _ => (⟨(hB8).cell 1, (hB8).cell 2⟩ : W8.cell? ⟨bn, 1, none⟩ = some vk ∧ W8.cell? ⟨bn, 2, none⟩ = some vv)) ?_
            clear hK K
            (try simp only [Act.put, List.setIfInBounds_toArray, List.set_cons_zero, List.set_cons_succ, List.getElem_toArray, List.getElem_cons_zero, List.getElem_cons_succ])
            refine wpAnyX_ready (rs := [9]) (by kernel_rfl) (by simp) ?_
            refine AllReadyX.cons rfl (fun K hK => ?_) AllReadyX.nil
            go_simp
            refine (insK hR8 (by omega) HP.out.2.1 lW8 (fun e => by have := HV.out.lt _ (HV.out.nk _ e); have := gW6.size; omega) (by have := HP.out.2.2.2.1; have := gW6.size; (try have := gW8.size); omega)).mono ?_
            rintro e w9 ⟨A7, c7, rfl, hR9, ha9⟩
            have hB9 := hB8.chg ha9.chg HP.out.1.1
            have hl9 := (lW6.grew gW8).chg ha9.chg fun e => by have := HV.out.lt _ (HV.out.nk _ e); have := gW6.size; omega
            refine hK.out _ _ (fun _ => (⟨(hB9).cell 1, (hB9).cell 2⟩ : w9.cell? ⟨bn, 1, none⟩ = some vk ∧ w9.cell? ⟨bn, 2, none⟩ = some vv)) ?_
            clear hK K
            (try simp only [Act.put, List.setIfInBounds_toArray, List.set_cons_zero, List.set_cons_succ, List.getElem_toArray, List.getElem_cons_zero, List.getElem_cons_succ])
            refine wpAnyX_ready (rs := [17]) (by kernel_rfl) (by simp) ?_
            refine AllReadyX.cons rfl (fun K hK => ?_) AllReadyX.nil
            go_simp
            refine (insV hR9 (by have := HP.out.2.2.1; omega) (by have := HP.out.2.2.1; have := HP.out.2.1; omega) hl9 (fun e => by have := HV.out.lt _ (HV.out.nv _ e); have := gW6.size; omega) (by have := HP.out.2.2.2.1; have := ha9.chg.size; have := gW6.size; have := gW8.size; omega)).mono ?_
            rintro e w10 ⟨A10, c10, rfl, hR10, ha10⟩
            have hB10 := hB9.chg ha10.chg HP.out.1.2.1
            have hC10 : Chg N w4 w10 := Chg.trans (Grew.then (Grew.trans gW6 gW8) (ha9.chg.mono fun j _ e => HV.out.nk j e)) (ha10.chg.mono fun j _ e => HV.out.nv j e) fun _ _ e => e

            have HF := Lib.hid (show Rws w10 (fun j => (N j ∨ (Value.slice A7 (nd.keys.length + 1) c7).ownBlock = some j) ∨ (Value.slice A10 (nd.vals.length + 1) c10).ownBlock = some j) (.slice A7 (nd.keys.length + 1) c7) (.slice A10 (nd.vals.length + 1) c10) vc (iv (insI nd.keys ii k)) (iv (insI nd.vals ii v)) (nv []) ∧ Blk w10 bn 73 #[.int .i64 q, vk, vv, vc] ∧ Chg N w4 w10 from ⟨HP.out.2.2.2.2.2 ▸ hR10, hB10, hC10⟩)
            clear hR10 hB10 hC10
            clear hR6 hB6 hR8 hB8 hR9 ha9 hB9 hl9 ha10 lW6 lW8 gW6 gW8 hW6 hW8

            have hb10 := HF.out.2.1
            obtain ⟨d9, f9, s9⟩ := hb10.facts
            have hS10 : w10.cell? ⟨bn, 1, none⟩ = some vk ∧ w10.cell? ⟨bn, 2, none⟩ = some vv := ⟨hb10.cell 1, hb10.cell 2⟩
            refine hK.out _ _ (fun _ => hS10) ?_
            clear hK K
            (try simp only [Act.put, List.setIfInBounds_toArray, List.set_cons_zero, List.set_cons_succ, List.getElem_toArray, List.getElem_cons_zero, List.getElem_cons_succ])
            refine wpAnyX_ready (rs := [18]) (by kernel_rfl) (by simp) ?_
            refine AllReadyX.cons rfl (fun K hK => ?_) AllReadyX.nil
            go_simp
            refine hK.out _ _ (fun _ => hS10) ?_
            clear hK K
            (try simp only [Act.put, List.setIfInBounds_toArray, List.set_cons_zero, List.set_cons_succ, List.getElem_toArray, List.getElem_cons_zero, List.getElem_cons_succ])
            refine wpAnyX_ready (rs := [19]) (by kernel_rfl) (by simp) ?_
            refine AllReadyX.cons rfl (fun K hK => ?_) AllReadyX.nil
            go_simp
            refine hK.out _ _ (fun _ => hS10) ?_
            clear hK K
            (try simp only [Act.put, List.setIfInBounds_toArray, List.set_cons_zero, List.set_cons_succ, List.getElem_toArray, List.getElem_cons_zero, List.getElem_cons_succ])
            refine wpAnyX_ready (rs := [20]) (by kernel_rfl) (by simp) ?_
            refine AllReadyX.cons rfl (fun K hK => ?_) AllReadyX.nil
            go_simp
            obtain ⟨W11, hW11⟩ : ∃ W, w10.setCell ⟨bn, 1, none⟩ (.slice A7 (nd.keys.length + 1) c7) = W := ⟨_, rfl⟩
            rw [hW11]
            have hb11 : Blk W11 bn 73 #[.int .i64 q, .slice A7 (nd.keys.length + 1) c7, vv, vc] := by
              have h9 := hb10.put 1 (.slice A7 (nd.keys.length + 1) c7)
              rw [hW11] at h9
              simpa using h9
            have hc11 : Chg (fun j => j = bn) w10 W11 := hW11 ▸ (Chg.refl (fun j => j = bn) w10).setCell (p := ⟨bn, 1, none⟩) (fun _ => rfl) _
            clear d9 f9 s9 hS10 hb10 hW11
            obtain ⟨d9, f9, s9⟩ := hb11.facts
            refine hK.out _ _ (fun h => by cases h) ?_
            clear hK K
            (try simp only [Act.put, List.setIfInBounds_toArray, List.set_cons_zero, List.set_cons_succ, List.getElem_toArray, List.getElem_cons_zero, List.getElem_cons_succ])
            refine wpAnyX_ready (rs := [21]) (by kernel_rfl) (by simp) ?_
            refine AllReadyX.cons rfl (fun K hK => ?_) AllReadyX.nil
            go_simp
            refine hK.out _ _ (fun h => by cases h) ?_
            clear hK K
            (try simp only [Act.put, List.setIfInBounds_toArray, List.set_cons_zero, List.set_cons_succ, List.getElem_toArray, List.getElem_cons_zero, List.getElem_cons_succ])
            refine wpAnyX_ready (rs := [22]) (by kernel_rfl) (by simp) ?_
            refine AllReadyX.cons rfl (fun K hK => ?_) AllReadyX.nil
            go_simp
            refine hK.out _ _ (fun h => by cases h) ?_
            clear hK K
            (try simp only [Act.put, List.setIfInBounds_toArray, List.set_cons_zero, List.set_cons_succ, List.getElem_toArray, List.getElem_cons_zero, List.getElem_cons_succ])
            refine wpAnyX_ready (rs := [23]) (by kernel_rfl) (by simp) ?_
            refine AllReadyX.cons rfl (fun K hK => ?_) AllReadyX.nil
            go_simp
            obtain ⟨W12, hW12⟩ : ∃ W, W11.setCell ⟨bn, 2, none⟩ (.slice A10 (nd.vals.length + 1) c10) = W := ⟨_, rfl⟩
            rw [hW12]
            have hb12 : Blk W12 bn 73 #[.int .i64 q, .slice A7 (nd.keys.length + 1) c7, .slice A10 (nd.vals.length + 1) c10, vc] := by
              have h9 := hb11.put 2 (.slice A10 (nd.vals.length + 1) c10)
              rw [hW12] at h9
              simpa using h9
            have hc12 : Chg (fun j => j = bn) w10 W12 := Chg.trans hc11 (hW12 ▸ (Chg.refl (fun j => j = bn) W11).setCell (p := ⟨bn, 2, none⟩) (fun _ => rfl) _) fun _ _ e => e
            clear d9 f9 s9 hW12 hb11 hc11
            refine hK.out _ _ (fun h => by cases h) ?_
            clear hK K
            (try simp only [Act.put, List.setIfInBounds_toArray, List.set_cons_zero, List.set_cons_succ, List.getElem_toArray, List.getElem_cons_zero, List.getElem_cons_succ])
            refine wpAnyX_done (by kernel_rfl) ?_ _
            have hbn10 := HF.out.2.1
            have hn12 : NdOwn W12 (fun j => (N j ∨ (Value.slice A7 (nd.keys.length + 1) c7).ownBlock = some j) ∨ (Value.slice A10 (nd.vals.length + 1) c10).ownBlock = some j) bn q ⟨insI nd.keys ii k, insI nd.vals ii v, []⟩ := by
              refine NdV.own (vk := .slice A7 (nd.keys.length + 1) c7) (vv := .slice A10 (nd.vals.length + 1) c10) (vc := vc) (nd := ⟨insI nd.keys ii k, insI nd.vals ii v, []⟩) ?_
              have hr := HF.out.1
              exact (hr.chg hc12 (fun g hg e => own_blk_ne hr.rk hbn10 (by decide) (by rw [hg, e])) (fun g hg e => own_blk_ne hr.rv hbn10 (by decide) (by rw [hg, e])) (fun g hg e => own_blk_ne hr.rc hbn10 (by decide) (by rw [hg, e]))).ndv hb12 (.inl (.inl HV.out.nb))
            have hcN : Chg N w4 W12 := Chg.trans HF.out.2.2 hc12 fun j _ e => by subst e; exact HV.out.nb
            have hcW : Chg N wr W12 := Grew.then H4.out.2.1 hcN
            have hJ := HJ.out
            have hwz := hJ.rch.chg.size
            have hpos := tab_pos H.out.1.gp.tab
            have hbt12 : BT W12 t p root F' y := hJ.bt.chg hcW (fun j hj e => hJ.nF j e hj) (fun e => by have := hJ.nw _ e; omega) (fun e => by have := hJ.nw _ e; have := hJ.tl; omega)
            have hfit : (⟨insI nd.keys ii k, insI nd.vals ii v, []⟩ : Nd).Fit y.sz := nd_put_fit (hJ.bt.gp.fit hJ.way.nd).1 (by rw [← H4.out.2.2.2]; exact atI_le _ _) (by have := half_most hJ.bt.gp.szs.2.2.1; have := hJ.room; omega) H.out.2.2.2.2.1 H.out.2.2.2.2.2.1
            obtain ⟨cq, q1, q2⟩ := hJ.ts.pgs q hJ.way.q_mem
            have hsv := bsave_any t p root bn q F' _ y cq ⟨insI nd.keys ii k, insI nd.vals ii v, []⟩ W12 hbt12 hn12.at hfit (by rw [hJ.like.was]; exact H.out.2.1) q1 q2 (fun e => hJ.nF _ HV.out.nb e)
            have HE := Lib.hid (And.intro hsv (And.intro hcW (And.intro hfit hbt12)))
            clear hsv hcW hfit hbt12 hn12 hcN hb12 hc12 hbn10 hJ hwz hpos q1 q2 hHeld hS
            go_wp2_with fail
            refine HE.out.1.mono ?_
            rintro e w' (⟨rfl, hto⟩ | ⟨hns, -, rfl, hg⟩)
            · have hput := HJ.out.put (v := v) H1.out.2.2.2 HE.out.2.1 (fun j e => .inr (HJ.out.nw j e)) HJ.out.bt.gp.szs.2.2.2.1 (by rw [H4.out.2.2.2]; exact hto) (by rw [H4.out.2.2.2]; exact HE.out.2.2.1)
              have HO := Lib.hid hput
              clear hput hto
              go_wp2_with fail
              go_ret
              exact .inl ⟨rfl, HO.out⟩
            · have hput := HJ.out.fail (m := 0) (G := F') HE.out.2.1 (fun j e => .inr (HJ.out.nw j e)) ⟨y, F', HE.out.2.2.2.grew hg, hg.chg, fun _ e => .inl e, Rp.like.refl y, by omega, fun e => hns e.1⟩ (by omega) (fun j e => .inl e)
              have HO := Lib.hid hput
              clear hput hg hns
              go_wp2_with fail
              go_ret
              exact .inr ⟨rfl, HO.out⟩

        · have t1 : decide (nd.kids.length = 0) = false := decide_eq_false h0
          have t2 : decide (nd.kids = []) = false := decide_eq_false fun e => h0 (by rw [e]; rfl)
          have H0 := Lib.hid h0
          obtain ⟨d', rfl⟩ : ∃ d', d = d' + 1 := ⟨d - 1, by
            obtain ⟨nd', g1, -, -, g2⟩ := HJ.out.way.tr.node
            rw [HJ.out.way.nd] at g1
            cases g1
            have hd0 : d ≠ 0 := fun e => h0 (g2.2 e)
            omega⟩
          obtain ⟨c2, kd, A2, M2, B2, P3, PM2, P4, hc2, hw2⟩ := HJ.out.way.down HJ.out.ts.srt HL.out.2.2.1
          rw [HL.out.2.2.2] at hc2
          have hil : ii < nd.kids.length := (List.getElem?_eq_some_iff.1 hc2).1
          obtain ⟨cp, cp1, cp2, cp3⟩ := Rp.nd_some hw2.nd
          have hkl2 : kd.keys.length ≤ 300 := by have h1 := (HJ.out.bt.gp.fit hw2.nd).1.most; have h2 := HJ.out.bt.gp.szs; unfold mostN at h1; omega
          have hiN : (ii : Int) < (nd.kids.length : Int) := by omega
          have H2 := Lib.hid (And.intro hc2 (And.intro hw2 (And.intro cp1 (And.intro cp2 cp3))))
          clear hc2 hw2 cp1 cp2 cp3 h0
          go_wp2_with (go_at_call 41; (refine HL.out.1.mono ?_); rintro e w5 ⟨rfl, rfl⟩)
          refine HL.out.2.1.mono ?_
          rintro e w4 ⟨rfl, hg4⟩
          have hbt4 := HJ.out.bt.grew hg4
          have hld := bload_any t p root c2 F' y cp kd w4 hbt4 H2.out.2.2.1 H2.out.2.2.2.1 H2.out.2.2.2.2
          have hn4 := HJ.out.own.grew hg4
          obtain ⟨Ak, ck, Av, cv, Ac, cc, b1, -, -, b4, -⟩ := hn4.at
          obtain ⟨c0, f0, s0⟩ := b1.facts
          obtain ⟨g, off, rfl, hgl, hx⟩ := b4.2 (by omega)
          have hce : w4.cell? ⟨g, off + ii, none⟩ = some (.int .i64 c2) := hx ii _ (by simp [nv, H2.out.1])
          have H4 := Lib.hid (And.intro hld (And.intro hg4 (And.intro hn4 hbt4)))
          clear hld hg4 hn4 hbt4 b1 b4 hx hgl
          go_wp2_with fail
          refine H4.out.1.mono ?_
          rintro e w5 ⟨b3, N3, rfl, hn5, hN5, hbt5, hc5⟩
          clear c0 f0 s0 hce
          have hfu := bfull_any t p root b3 c2 F' N3 y kd w5 hbt5 hn5.at hkl2
          have H5 := Lib.hid (And.intro hfu (And.intro hn5 (And.intro hN5 (And.intro hbt5 hc5))))
          clear hfu hn5 hN5 hbt5 hc5
          go_wp2_with fail
          by_cases hfull : 2 * halfN y.sz - 1 ≤ kd.keys.length
          · have t5 : decide (2 * halfN y.sz - 1 ≤ kd.keys.length) = true := decide_eq_true hfull
            have t6 : decide (2 * halfN y.sz ≤ kd.keys.length + 1) = true := decide_eq_true (by omega)
            refine H5.out.1.mono ?_
            rintro e w6 ⟨rfl, hg6⟩
            have hJ := HJ.out
            have hwz := hJ.rch.chg.size
            have hz4 := H4.out.2.1.size
            have hz5 := H5.out.2.2.2.2.size
            have hz6 := hg6.size
            have hpos := tab_pos H.out.1.gp.tab
            have hz := hJ.bt.gp.szs
            have h2h := half_two hz.2.2.1
            have hlt := hJ.bt.gp.lt
            have hNlt : ∀ j, N j → j < wr.heap.size := fun j hj => hJ.own.at.lt j hj
            have hcW : Chg F' wr w6 := (Grew.then H4.out.2.1 H5.out.2.2.2.2).grew hg6
            have hnode : kd.keys.length = 2 * halfN y.sz - 1 := by
              obtain ⟨nd', g1, -, g2, -⟩ := H2.out.2.1.tr.node
              rw [H2.out.2.1.nd] at g1
              cases g1
              omega
            have hf1 := hJ.bt.gp.fit hJ.way.nd
            have hf2 := hJ.bt.gp.fit H2.out.2.1.nd
            have hSp : Sp w6 t p root F' y N N3 b3 c2 kd := ⟨H5.out.2.2.2.1.grew hg6, H5.out.2.1.grew hg6, fun j hj e => by have := hNlt j hj; have := H5.out.2.2.1 j e; omega, fun j hj => ⟨hJ.nF j hj, by have := hJ.nw j hj; have := hJ.tl; omega, by have := hJ.nw j hj; omega, by have := hNlt j hj; omega⟩, fun j hj e => by have := H5.out.2.2.1 j hj; have := hlt j e; omega⟩
            have hspl := bsplit_any t p root bn q ii b3 c2 (halfN y.sz) F' N N3 y nd kd w6 hSp (hJ.own.chg hcW hJ.nF) rfl (half_two hz.2.2.1) (by rw [hJ.like.was]; exact H.out.2.1) hnode (hf2.1.vals.trans hnode) (by rcases hf2.1.kids with e | e <;> omega) hJ.room hf1.1.vals (by rcases hf1.1.kids with e | e; exact absurd e H0.out; exact e) (by rw [← HL.out.2.2.2]; exact atI_le _ _) hf1.1 hf2.1 (hJ.ts.pgs q hJ.way.q_mem) ⟨cp, H2.out.2.2.1, H2.out.2.2.2.1⟩ ⟨fun e => by have := H5.out.2.2.1 _ e; have := hJ.tl; omega, fun e => by have := H5.out.2.2.1 _ e; omega⟩
            have H6 := Lib.hid (And.intro hspl (And.intro hcW (And.intro hnode (And.intro hz4 (And.intro hz5 (And.intro hz6 hwz))))))
            clear h2h hspl hSp hcW hnode hf1 hf2 hNlt hlt hz hpos hz4 hz5 hz6 hwz hJ hg6 hfull
            go_wp2_with fail
            refine H6.out.1.mono ?_
            rintro e w7 (⟨rfl, r, k0, v0, F2, N2, hr, hk0, hv0, hbt7, hcg, hFn, hno, hdis, hNn, ff1, ff2, ff3⟩ | ⟨rfl, hfu⟩)
            · obtain ⟨P', PM', e', ke, A', M', B', P1', PM3, P2', ⟨j1, j2, j3, j4, j5⟩, d1, d2, hke, hus⟩ := HJ.out.split H1.out.2.2.2 (W1 := w6) (G := fun j => F' j ∨ N j ∨ N3 j) (N' := N2) (by rw [HL.out.2.2.2]; exact H2.out.1) H2.out.2.1.nd H6.out.2.2.1 (half_two HJ.out.bt.gp.szs.2.2.1) HJ.out.bt.gp.szs.2.2.2.1 hr hk0 hv0 (by rw [HL.out.2.2.2]; exact hbt7) H6.out.2.1 hcg (fun j e => e.elim .inl fun e => e.elim (fun e => .inr (HJ.out.nw j e)) fun e => .inr (by have := H5.out.2.2.1 j e; have := H6.out.2.2.2; omega)) hFn (by rw [HL.out.2.2.2]; exact hno) hdis hNn ff1 ff2 (by rw [HL.out.2.2.2]; exact ff3)
              rw [HL.out.2.2.2] at j1 j3 j4 j5 d1 d2 hus
              obtain ⟨y2, hy2⟩ : ∃ y2, y.splitP r c2 q (kd.hi (halfN y.sz)) (kd.lo (halfN y.sz)) (nd.ins ii k0 v0 r) = y2 := ⟨_, rfl⟩
              have hsz2 : y2.sz = y.sz := by rw [← hy2]; rfl
              rw [hy2] at j1 j3 j4 j5 d2 hus
              rw [← hsz2] at j5 d2 hke
              obtain ⟨nd2, hnd2⟩ : ∃ nd2, nd.ins ii k0 v0 r = nd2 := ⟨_, rfl⟩
              rw [hnd2] at j5 d1 hno
              have hks2 := j5.tr.keys j5.nd (j5.srt j4.srt)
              have hkl3 : nd2.keys.length ≤ 300 := by have h1 := (j1.gp.fit j5.nd).1.most; have h2 := j1.gp.szs; unfold mostN at h1; omega
              have hpl2 := bplace_any bn q nd2 N2 k w7 hno.at hks2 (by omega)
              obtain ⟨i2, hi2⟩ : ∃ i, atI nd2.keys k = i := ⟨_, rfl⟩
              obtain ⟨f2, hf2⟩ : ∃ f, nd2.keys.contains k = f := ⟨_, rfl⟩
              rw [hi2] at d1
              rw [hi2, hf2] at hpl2
              have hil2 : i2 < nd2.kids.length := (List.getElem?_eq_some_iff.1 d1).1
              have hiN2 : (i2 : Int) < (nd2.kids.length : Int) := by omega
              obtain ⟨cp', cq1, cq2, cq3⟩ := Rp.nd_some d2.nd
              have H7 := Lib.hid (And.intro hpl2 (And.intro (And.intro j1 (And.intro j2 (And.intro j3 (And.intro j4 j5)))) (And.intro d1 (And.intro d2 (And.intro hke (And.intro hus (And.intro hno (And.intro hdis (And.intro hNn (And.intro cq1 (And.intro cq2 cq3)))))))))))
              clear hpl2 j1 j2 j3 j4 j5 d1 d2 hke hus hno hdis hNn cq1 cq2 cq3 hr hk0 hv0 hbt7 hcg hFn ff1 ff2 ff3 hy2 hnd2 hsz2 hks2 hf2 hi2
              go_wp2_with fail
              refine H7.out.1.mono ?_
              rintro e w8 ⟨rfl, hg8⟩
              have hn8 := H7.out.2.2.2.2.2.2.1.grew hg8
              have hbt8 := H7.out.2.1.1.grew hg8
              have hld := bload_any t p root e' F2 y2 cp' ke w8 hbt8 H7.out.2.2.2.2.2.2.2.2.2.1 H7.out.2.2.2.2.2.2.2.2.2.2.1 H7.out.2.2.2.2.2.2.2.2.2.2.2
              obtain ⟨Ak2, ck2, Av2, cv2, Ac2, cc2, b1, -, -, b4, -⟩ := hn8.at
              obtain ⟨c0, f0, s0⟩ := b1.facts
              obtain ⟨g2, off2, rfl, hgl, hx⟩ := b4.2 (by omega)
              have hce : w8.cell? ⟨g2, off2 + i2, none⟩ = some (.int .i64 e') := hx i2 _ (by simp [nv, H7.out.2.2.1])
              have H8 := Lib.hid (And.intro hld (And.intro hg8 hbt8))
              clear hld hg8 hn8 hbt8 b1 b4 hx hgl
              go_wp2_with fail
              refine H8.out.1.mono ?_
              rintro e w9 ⟨b5, N5, rfl, hn9, hN9, hbt9, hc9⟩
              clear c0 f0 s0 hce
              have H9 := Lib.hid (And.intro hn9 (And.intro hN9 (And.intro hbt9 hc9)))
              clear hn9 hN9 hbt9 hc9
              go_wp2_with fail
              go_roundg (d' + 1)
              case measure => omega
              case rel =>
                obtain ⟨j1, j2, j3, j4, j5⟩ := H7.out.2.1
                obtain ⟨hn9, hN9, hbt9, hc9⟩ := H9.out
                have hJ := HJ.out
                have hus := H7.out.2.2.2.2.2.1
                have hu := hJ.used
                have hz8 := H8.out.2.1.size
                have hz7 := j2.chg.size
                have hlt := H7.out.2.1.1.gp.lt
                exact ⟨b5, d', e', ke, F2, y2, D, P', _, _, _, _, _, _, N5, rfl, rfl, rfl, hbt9, j2.trans ⟨Grew.then H8.out.2.1 hc9, fun j e => .inl e⟩, j3, j4, H7.out.2.2.2.1, hn9, fun j hj e => by have := hN9 j hj; have := hlt j e; omega, fun j hj => by have := hN9 j hj; omega, H7.out.2.2.2.2.1, by omega, hJ.dep, hJ.tl⟩
            · have hput := HJ.out.fail H6.out.2.1 (fun j e => .inl e) hfu (by omega) (fun j e => e.elim .inl fun e => e.elim (fun e => .inr (HJ.out.nw j e)) fun e => .inr (by have := H5.out.2.2.1 j e; have := H6.out.2.2.2; omega))
              have HO := Lib.hid hput
              clear hput hfu
              go_wp2_with fail
              go_ret
              exact .inr ⟨rfl, HO.out⟩
          · have t5 : decide (2 * halfN y.sz - 1 ≤ kd.keys.length) = false := decide_eq_false hfull
            have t6 : decide (2 * halfN y.sz ≤ kd.keys.length + 1) = false := decide_eq_false (by omega)
            refine H5.out.1.mono ?_
            rintro e w6 ⟨rfl, hg6⟩
            have hbt6 := H5.out.2.2.2.1.grew hg6
            have hld := bload_any t p root c2 F' y cp kd w6 hbt6 H2.out.2.2.1 H2.out.2.2.2.1 H2.out.2.2.2.2
            have hcW : Chg F' wr w6 := (Grew.then H4.out.2.1 H5.out.2.2.2.2).grew hg6
            have hn6 := HJ.out.own.chg hcW HJ.out.nF
            obtain ⟨Ak2, ck2, Av2, cv2, Ac2, cc2, b1, -, -, b4, -⟩ := hn6.at
            obtain ⟨c0, f0, s0⟩ := b1.facts
            obtain ⟨g2, off2, rfl, hgl, hx⟩ := b4.2 (by omega)
            have hce : w6.cell? ⟨g2, off2 + ii, none⟩ = some (.int .i64 c2) := hx ii _ (by simp [nv, H2.out.1])
            have hroom : kd.keys.length + 1 ≤ 2 * halfN y.sz - 1 := by omega
            have H6 := Lib.hid (And.intro hld (And.intro hcW (And.intro hbt6 hroom)))
            clear hld hg6 hn6 hbt6 b1 b4 hx hgl hcW hroom hfull
            go_wp2_with fail
            refine H6.out.1.mono ?_
            rintro e w9 ⟨b5, N5, rfl, hn9, hN9, hbt9, hc9⟩
            clear c0 f0 s0 hce
            have H9 := Lib.hid (And.intro hn9 (And.intro hN9 (And.intro hbt9 hc9)))
            clear hn9 hN9 hbt9 hc9
            go_wp2_with fail
            go_roundg (d' + 1)
            case measure => omega
            case rel =>
              obtain ⟨hn9, hN9, hbt9, hc9⟩ := H9.out
              have hz6 := H6.out.2.1.size
              exact ⟨b5, d', c2, kd, F', y, D, P, _, _, _, _, _, _, N5, rfl, rfl, rfl, HJ.out.down H2.out.2.1 (Chg.trans H6.out.2.1 hc9 fun _ _ e => e) hbt9 hn9 (fun j hj => by have := hN9 j hj; omega) H6.out.2.2.2⟩
end Go.Proofs.YtpkkcicaeldodaaGreatDoor

/- The tree's laws: awake. -/
namespace Go.Proofs.YtpkkcicaeldodaaGreatDoor
open Go.RowKit Go.Maps

theorem newer {w w1 w2 : World} {F : Nat → Prop} (h : Grew w w1) (hc : Chg F w1 w2) (hF : ∀ j, F j → w.heap.size ≤ j) : Grew w w2 := Chg.trans h hc fun i hi e => by have := hF i e; omega
theorem newerF {w w1 w2 : World} {F F' : Nat → Prop} (h : Grew w w1) (hc : Rch F F' w1 w2) (hF : ∀ j, F j → w.heap.size ≤ j) : ∀ j, F' j → w.heap.size ≤ j := fun j hj => (hc.new j hj).elim (hF j) fun e => Nat.le_trans h.size e
set_option maxRecDepth 100000 in
set_option maxHeartbeats 3200000 in
theorem bawake_any (w : World) (hT : TabAt 0 tab w) :
    Calls Tryz.prog 9 #[] w fun e w' => e = .returned (.bool true) ∧ Grew w w' := by
  have hfr := bfresh_any 12 64 w hT (by omega) (by omega) (by omega) (by omega) (by rw [opened12.1]; omega) (by rw [opened12.2.1]; omega)
  have H := Lib.hid hfr
  clear hfr hT
  go_enter Tryz.func9, Tryz.ntmps9
  go_wp2_with fail
  refine H.out.mono ?_
  rintro e w1 ⟨t, p, d, r, F, rfl, hr, hb, hg, hF, ht⟩
  have hts := tree0_ts (n := 12) (sz := 64) hr (by omega)
  have hp1 := bput2_any t p r 0 5 50 [] [r] F _ w1 hb (by simp [Rp.tree0, Rp.opened, Rp.begun, Rp.put]) hts (by simp) (by unfold i64; omega) (by unfold i64; omega)
  have H1 := Lib.hid (And.intro hp1 (And.intro hts (And.intro hg (And.intro hF ht))))
  clear hp1 hts hg hF ht hr hb
  go_wp2_with fail
  refine H1.out.1.mono ?_
  rintro e w2 hpu
  obtain ⟨rfl, y2, F2, D2, P2, hb2, hr2, hl2, ht2⟩ := put_sure hpu roomy12 tree0_like H1.out.2.1 (show 2 ≤ halfN 64 by decide) (by simp)
  have hL2 : putL [] 5 50 = [(5, 50)] := rfl
  rw [hL2] at ht2
  have hy2 : y2.sz = 64 := hl2.sz
  have hD2 := ht2.depth2 (by rw [hy2]; decide) (by simp)
  have hp2 := bput2_any t p r D2 3 30 [(5, 50)] P2 F2 y2 w2 hb2 (by rw [hl2.was]; simp [Rp.opened, Rp.begun]) ht2 (by simp) (by unfold i64; omega) (by unfold i64; omega)
  have hg2 := newer H1.out.2.2.1 hr2.chg H1.out.2.2.2.1
  have hF2 := newerF H1.out.2.2.1 hr2 H1.out.2.2.2.1
  have H2 := Lib.hid (And.intro hp2 (And.intro ht2 (And.intro hl2 (And.intro hD2 (And.intro hg2 hF2)))))
  clear hp2 ht2 hl2 hD2 hg2 hF2 hb2 hr2 hL2 hpu
  go_wp2_with fail
  refine H2.out.1.mono ?_
  rintro e w3 hpu
  obtain ⟨rfl, y3, F3, D3, P3, hb3, hr3, hl3, ht3⟩ := put_sure hpu roomy12 H2.out.2.2.1 H2.out.2.1 (by rw [hy2]; decide) (by rw [H2.out.2.2.2.1]; simp)
  have hL3 : putL [(5, 50)] 3 30 = [(3, 30), (5, 50)] := rfl
  rw [hL3] at ht3
  have hy3 : y3.sz = 64 := hl3.sz
  have hD3 := ht3.depth2 (by rw [hy3]; decide) (by simp)
  have hg3 := newer H2.out.2.2.2.2.1 hr3.chg H2.out.2.2.2.2.2
  have hF3 := newerF H2.out.2.2.2.2.1 hr3 H2.out.2.2.2.2.2
  have hge := bget2_any t p r (halfN y3.sz) D3 3 _ P3 F3 y3 w3 hb3 ht3.tr ht3.srt (by omega) ht3.nd
  rw [show getK [((3 : Int), (30 : Int)), (5, 50)] 3 = some 30 from rfl] at hge
  have H3 := Lib.hid (And.intro hge (And.intro ht3 (And.intro hD3 (And.intro hg3 hF3))))
  clear hge ht3 hD3 hg3 hF3 hb3 hr3 hL3 hpu hl3
  go_wp2_with fail
  refine H3.out.1.mono ?_
  rintro e w4 ⟨rfl, hb4, hc4⟩
  have hge := bget2_any t p r (halfN y3.sz) D3 4 _ P3 F3 y3 w4 hb4 H3.out.2.1.tr H3.out.2.1.srt (by have := H3.out.2.2.1; omega) H3.out.2.1.nd
  rw [show getK [((3 : Int), (30 : Int)), (5, 50)] 4 = none from rfl] at hge
  have hg4 := newer H3.out.2.2.2.1 hc4 H3.out.2.2.2.2
  have H4 := Lib.hid (And.intro hge hg4)
  simp only [gV, gE]
  clear hge hg4 hb4 hc4
  go_wp2_with fail
  refine H4.out.1.mono ?_
  rintro e w5 ⟨rfl, hb5, hc5⟩
  have hle := blen_any t p r D3 _ P3 F3 y3 w5 hb5 H3.out.2.1 (by simp)
  have hg5 := newer H4.out.2 hc5 H3.out.2.2.2.2
  have H5 := Lib.hid (And.intro hle hg5)
  simp only [gV, gE]
  clear hle hg5 hb5 hc5
  go_wp2_with fail
  refine H5.out.1.mono ?_
  rintro e w6 ⟨rfl, hb6, hc6⟩
  have hch := bcheck_any t p r D3 _ P3 F3 y3 w6 hb6 H3.out.2.1 (by have := H3.out.2.2.1; omega) (by have := H3.out.2.1.tr.pages (by rw [hy3]; decide); simp at this; omega)
  have hg6 := newer H5.out.2 hc6 H3.out.2.2.2.2
  have H6 := Lib.hid (And.intro hch hg6)
  simp only [List.length_cons, List.length_nil]
  clear hch hg6 hb6 hc6
  go_wp2_with fail
  refine H6.out.1.mono ?_
  rintro e w7 ⟨rfl, hb7, hc7⟩
  have H7 := Lib.hid (newer H6.out.2 hc7 H3.out.2.2.2.2)
  clear hb7 hc7
  go_wp2_with fail
  go_ret
  exact ⟨rfl, H7.out⟩
end Go.Proofs.YtpkkcicaeldodaaGreatDoor

/- The tree's laws: BtreeOrders. -/
namespace Go.Proofs.YtpkkcicaeldodaaGreatDoor
open Go.RowKit Go.Maps

theorem putL_mem {L : List KV} {k v : Int} {y : KV} : y ∈ putL L k v ↔ (y ∈ L ∧ y.1 ≠ k) ∨ y = (k, v) := by
  unfold putL
  simp only [List.mem_append, List.mem_filter, List.mem_cons, decide_eq_true_eq]
  constructor
  · rintro (⟨h1, h2⟩ | h | ⟨h1, h2⟩)
    · exact .inl ⟨h1, by omega⟩
    · exact .inr h
    · exact .inl ⟨h1, by omega⟩
  · rintro (⟨h1, h2⟩ | h)
    · rcases Int.lt_or_gt_of_ne h2 with e | e
      · exact .inl ⟨h1, e⟩
      · exact .inr (.inr ⟨h1, e⟩)
    · exact .inr (.inl h)
/-- Keys that were put, each as its own value. -/
def fo (ks : List Int) : List KV := ks.foldl (fun L k => putL L k k) []
theorem fo_snoc (ks : List Int) (k : Int) : fo (ks ++ [k]) = putL (fo ks) k k := by simp [fo, List.foldl_append]
theorem foldl_mem (y : KV) : ∀ (ks : List Int) (L : List KV), y ∈ ks.foldl (fun L k => putL L k k) L ↔ (y ∈ L ∧ y.1 ∉ ks) ∨ (y.1 = y.2 ∧ y.1 ∈ ks)
  | [], L => by simp
  | k :: ks, L => by
    rw [List.foldl_cons, foldl_mem y ks, putL_mem]
    simp only [List.mem_cons, not_or]
    constructor
    · rintro (⟨⟨h1, h2⟩ | rfl, h3⟩ | ⟨h1, h2⟩)
      · exact .inl ⟨h1, h2, h3⟩
      · exact .inr ⟨rfl, .inl rfl⟩
      · exact .inr ⟨h1, .inr h2⟩
    · rintro (⟨h1, h2, h3⟩ | ⟨h1, h2 | h2⟩)
      · exact .inl ⟨.inl ⟨h1, h2⟩, h3⟩
      · by_cases h3 : y.1 ∈ ks
        · exact .inr ⟨h1, h3⟩
        · exact .inl ⟨.inr (Prod.ext h2 (by rw [← h1]; exact h2)), h3⟩
      · exact .inr ⟨h1, h2⟩
theorem fo_mem (ks : List Int) (y : KV) : y ∈ fo ks ↔ y.1 = y.2 ∧ y.1 ∈ ks := by unfold fo; rw [foldl_mem]; simp
theorem srt_ext : ∀ {L M : List KV}, Srt L → Srt M → (∀ y, y ∈ L ↔ y ∈ M) → L = M
  | [], [], _, _, _ => rfl
  | [], b :: M, _, _, h => absurd ((h b).2 List.mem_cons_self) (by simp)
  | a :: L, [], _, _, h => absurd ((h a).1 List.mem_cons_self) (by simp)
  | a :: L, b :: M, hL, hM, h => by
    obtain ⟨h1, h2⟩ := List.pairwise_cons.1 hL
    obtain ⟨h3, h4⟩ := List.pairwise_cons.1 hM
    have hab : a = b := by
      rcases List.mem_cons.1 ((h a).1 List.mem_cons_self) with e | e
      · exact e
      · rcases List.mem_cons.1 ((h b).2 List.mem_cons_self) with e' | e'
        · exact e'.symm
        · have := h3 a e; have := h1 b e'; omega
    subst hab
    rw [srt_ext h2 h4 fun y => ⟨fun hy => ?_, fun hy => ?_⟩]
    · rcases List.mem_cons.1 ((h y).1 (List.mem_cons_of_mem _ hy)) with e | e
      · subst e; have := h1 y hy; omega
      · exact e
    · rcases List.mem_cons.1 ((h y).2 (List.mem_cons_of_mem _ hy)) with e | e
      · subst e; have := h3 y hy; omega
      · exact e
/-- The other order. -/
def turned (l : List Int) (tn i : Nat) : List Int := (List.range i).map fun j => l.getD ((j + tn) % l.length) 0
theorem turned_succ (l : List Int) (tn i : Nat) : turned l tn (i + 1) = turned l tn i ++ [l.getD ((i + tn) % l.length) 0] := by simp [turned, List.range_succ]
theorem turned_all (l : List Int) (tn : Nat) (a : Int) : a ∈ turned l tn l.length ↔ a ∈ l := by
  unfold turned
  rw [List.mem_map]
  constructor
  · rintro ⟨j, hj, rfl⟩
    have hj' := List.mem_range.1 hj
    have hlt : (j + tn) % l.length < l.length := Nat.mod_lt _ (by omega)
    rw [List.getD_eq_getElem?_getD, List.getElem?_eq_getElem hlt]
    exact List.getElem_mem hlt
  · intro ha
    obtain ⟨m, hm⟩ := List.getElem?_of_mem ha
    have hml := (List.getElem?_eq_some_iff.1 hm).1
    have hmod : tn % l.length < l.length := Nat.mod_lt _ (by omega)
    refine ⟨(m + (l.length - tn % l.length)) % l.length, List.mem_range.2 (Nat.mod_lt _ (by omega)), ?_⟩
    have e : ((m + (l.length - tn % l.length)) % l.length + tn) % l.length = m := by
      rw [Nat.mod_add_mod, Nat.add_assoc, ← Nat.add_mod_mod m]
      have : (l.length - tn % l.length + tn) % l.length = 0 := by
        rw [← Nat.add_mod_mod, show l.length - tn % l.length + tn % l.length = l.length by omega, Nat.mod_self]
      rw [this, Nat.add_zero, Nat.mod_eq_of_lt hml]
    rw [e, List.getD_eq_getElem?_getD, hm]
    rfl
theorem fo_turned (l : List Int) (tn : Nat) (h1 : Srt (fo l)) (h2 : Srt (fo (turned l tn l.length))) : fo (turned l tn l.length) = fo l := srt_ext h2 h1 fun y => by rw [fo_mem, fo_mem, turned_all]
theorem fo_len (ks : List Int) : (fo ks).length ≤ ks.length := by
  have : ∀ (ks : List Int) (L : List KV), (ks.foldl (fun L k => putL L k k) L).length ≤ L.length + ks.length := by
    intro ks
    induction ks with
    | nil => intro L; simp
    | cons k ks ih => intro L; rw [List.foldl_cons, List.length_cons]; have := ih (putL L k k); have := putL_le L k k; omega
  have := this ks []
  simpa [fo] using this
/-- Between two rounds: both trees, and the list. -/
structure OJ (w W : World) (ta pa ra tb pb rb : Nat) (Fa Fb : Nat → Prop) (ya yb : Rp) (Da Db : Nat) (La Lb : List KV) (Pa Pb : List Nat) (A : Option Addr) (Lx : List KV) : Prop where
  a : BT W ta pa ra Fa ya
  b : BT W tb pb rb Fb yb
  sa : TS ya Da ra La Pa
  sb : TS yb Db rb Lb Pb
  la : (Rp.opened 400 64).like ya
  lb : (Rp.opened 400 64).like yb
  dis : ∀ j, Fa j → ¬ Fb j
  nab : ¬ Fa tb ∧ ¬ Fb ta
  gr : Grew w W
  fa : ∀ j, Fa j → w.heap.size ≤ j
  fb : ∀ j, Fb j → w.heap.size ≤ j
  x : Sl W 2 A Lx.length (kvs2 Lx)
  xf : ∀ q, A = some q → ¬ Fa q.block ∧ ¬ Fb q.block ∧ q.block < W.heap.size
section
variable {w W W' : World} {ta pa ra tb pb rb : Nat} {Fa Fb F' : Nat → Prop} {ya yb y' : Rp} {Da Db D' : Nat} {La Lb L' : List KV} {Pa Pb P' : List Nat} {A : Option Addr} {Lx : List KV}
theorem OJ.putA (h : OJ w W ta pa ra tb pb rb Fa Fb ya yb Da Db La Lb Pa Pb A Lx) (hb : BT W' ta pa ra F' y') (hr : Rch Fa F' W W') (hl : (Rp.opened 400 64).like y') :
    BT W' tb pb rb Fb yb ∧ (∀ j, F' j → ¬ Fb j) ∧ (¬ F' tb ∧ ¬ Fb ta) ∧ Grew w W' ∧ (∀ j, F' j → w.heap.size ≤ j) ∧ Sl W' 2 A Lx.length (kvs2 Lx) ∧ ∀ q, A = some q → ¬ F' q.block ∧ ¬ Fb q.block ∧ q.block < W'.heap.size := by
  have hz := hr.chg.size
  have h0 : ¬ Fa 0 := fun e => by have := h.fa 0 e; have := tab_pos h.a.gp.tab; have := h.gr.size; exact h.a.gp.zero e
  refine ⟨h.b.chg hr.chg (fun j hj e => h.dis j e hj) h0 h.nab.1, fun j hj e => (hr.new j hj).elim (fun e2 => h.dis j e2 e) fun e2 => by have := h.b.gp.lt j e; omega, ⟨fun e => (hr.new _ e).elim h.nab.1 fun e2 => by have := h.b.blk.lt; omega, h.nab.2⟩, newer h.gr hr.chg h.fa, newerF h.gr hr h.fa, h.x.chg hr.chg fun q hq => (h.xf q hq).1, fun q hq => ?_⟩
  obtain ⟨x1, x2, x3⟩ := h.xf q hq
  exact ⟨fun e => (hr.new _ e).elim x1 fun e2 => by omega, x2, by omega⟩
theorem OJ.putB (h : OJ w W ta pa ra tb pb rb Fa Fb ya yb Da Db La Lb Pa Pb A Lx) (hb : BT W' tb pb rb F' y') (hr : Rch Fb F' W W') :
    BT W' ta pa ra Fa ya ∧ (∀ j, Fa j → ¬ F' j) ∧ (¬ Fa tb ∧ ¬ F' ta) ∧ Grew w W' ∧ (∀ j, F' j → w.heap.size ≤ j) ∧ Sl W' 2 A Lx.length (kvs2 Lx) ∧ ∀ q, A = some q → ¬ Fa q.block ∧ ¬ F' q.block ∧ q.block < W'.heap.size := by
  have hz := hr.chg.size
  have h0 : ¬ Fb 0 := fun e => h.b.gp.zero e
  refine ⟨h.a.chg hr.chg (fun j hj e => h.dis j hj e) h0 h.nab.2, fun j hj e => (hr.new j e).elim (h.dis j hj) fun e2 => by have := h.a.gp.lt j hj; omega, ⟨h.nab.1, fun e => (hr.new _ e).elim h.nab.2 fun e2 => by have := h.a.blk.lt; omega⟩, newer h.gr hr.chg h.fb, newerF h.gr hr h.fb, h.x.chg hr.chg fun q hq => (h.xf q hq).2.1, fun q hq => ?_⟩
  obtain ⟨x1, x2, x3⟩ := h.xf q hq
  exact ⟨x1, fun e => (hr.new _ e).elim x2 fun e2 => by omega, by omega⟩
theorem OJ.row (h : OJ w W ta pa ra tb pb rb Fa Fb ya yb Da Db La Lb Pa Pb A Lx) {A' : Option Addr} {L2 : List KV} (hg : Grew W W') (hs : Sl W' 2 A' L2.length (kvs2 L2)) (hn : ∀ q, A' = some q → W.heap.size ≤ q.block ∧ q.block < W'.heap.size) : OJ w W' ta pa ra tb pb rb Fa Fb ya yb Da Db La Lb Pa Pb A' L2 :=
  ⟨h.a.grew hg, h.b.grew hg, h.sa, h.sb, h.la, h.lb, h.dis, h.nab, Grew.trans h.gr hg, h.fa, h.fb, hs, fun q hq => by
    have h1 := hn q hq
    exact ⟨fun e => by have := h.a.gp.lt _ e; omega, fun e => by have := h.b.gp.lt _ e; omega, h1.2⟩⟩
end
end Go.Proofs.YtpkkcicaeldodaaGreatDoor

/- The tree's laws: BtreeOrders, walked. -/
namespace Go.Proofs.YtpkkcicaeldodaaGreatDoor
open Go.RowKit Go.Maps

theorem orders_out (w : World) (hT : TabAt 0 tab w) (A : Option Addr) (c : Nat) (l : List Int) (turn : Int) (ht : -9223372036854775808 ≤ turn ∧ turn ≤ 9223372036854775807) (hm : l.length ≤ 9223372036854775807) (ho : 120 < l.length ∨ turn < 0 ∨ 1000 < turn) :
    Calls Tryz.prog 3 #[.slice A l.length c, .int .i64 turn] w fun e w' => e = .returned (.bool true) ∧ Grew w w' := by
  have HA := Lib.hid (bawake_any w hT)
  have t0 : (decide ((120 : Int) < (l.length : Int)) = true) ∨ (decide ((120 : Int) < (l.length : Int)) = false ∧ decide (turn < 0) = true) ∨ (decide ((120 : Int) < (l.length : Int)) = false ∧ decide (turn < 0) = false ∧ decide (1000 < turn) = true) := by
    by_cases a : 120 < l.length
    · exact .inl (decide_eq_true (by omega))
    · by_cases b : turn < 0
      · exact .inr (.inl ⟨decide_eq_false (by omega), decide_eq_true b⟩)
      · exact .inr (.inr ⟨decide_eq_false (by omega), decide_eq_false b, decide_eq_true (by omega)⟩)
  obtain ⟨ht1, ht2⟩ := ht
  clear ho hT
  rcases t0 with t1 | ⟨t1, t2⟩ | ⟨t1, t2, t3⟩
  all_goals
    go_enter Tryz.func3, Tryz.ntmps3
    go_wp2_with fail
    refine HA.out.mono ?_
    rintro e w1 ⟨rfl, hg⟩
    have HG := Lib.hid hg
    clear hg
    go_wp2_with fail
    go_ret
    exact ⟨rfl, HG.out⟩

set_option maxRecDepth 100000 in
set_option maxHeartbeats 6400000 in
theorem orders_in (w : World) (hT : TabAt 0 tab w) (A : Option Addr) (c : Nat) (l : List Int) (tn : Nat) (hl : l.length ≤ 120) (htn : tn ≤ 1000) (hs : Sl w 1 A l.length (l.map (Value.int .i64))) (hok : ∀ n ∈ l, -9223372036854775808 ≤ n ∧ n ≤ 9223372036854775807) :
    Calls Tryz.prog 3 #[.slice A l.length c, .int .i64 tn] w fun e w' => e = .returned (.bool true) ∧ Grew w w' := by
  have t1 : decide ((120 : Int) < (l.length : Int)) = false := decide_eq_false (by omega)
  have t2 : decide ((tn : Int) < 0) = false := decide_eq_false (by omega)
  have t3 : decide ((1000 : Int) < (tn : Int)) = false := decide_eq_false (by omega)
  have hfa := bfresh_any 400 64 w hT (by omega) (by omega) (by omega) (by omega) (by rw [opened400.1]; omega) (by rw [opened400.2.1]; omega)
  have H := Lib.hid (And.intro hfa (And.intro hT (And.intro hs hok)))
  clear hfa hT hs hok
  go_enter Tryz.func3, Tryz.ntmps3
  go_wp2_with fail
  refine H.out.1.mono ?_
  rintro e w1 ⟨ta, pa, da, ra, Fa, rfl, hra, hba, hga, hFa, hta⟩
  have hfb := bfresh_any 400 64 w1 (tab_chg H.out.2.1 hga id) (by omega) (by omega) (by omega) (by omega) (by rw [opened400.1]; omega) (by rw [opened400.2.1]; omega)
  have H1 := Lib.hid (And.intro hfb (And.intro hra (And.intro hba (And.intro hga (And.intro hFa hta)))))
  clear hfb hra hba hga hFa hta
  go_wp2_with fail
  refine H1.out.1.mono ?_
  rintro e w2 ⟨tb, pb, db, rb, Fb, rfl, hrb, hbb, hgb, hFb, htb⟩
  have hJ0 : OJ w w2 ta pa ra tb pb rb Fa Fb (Rp.tree0 400 64 ra) (Rp.tree0 400 64 rb) 0 0 [] [] [ra] [rb] none [] := by
    obtain ⟨-, hra, hba, hga, hFa, hta⟩ := H1.out
    have hFal := hba.gp.lt
    have htal := hba.blk.lt
    exact ⟨hba.grew hgb, hbb, tree0_ts hra (by omega), tree0_ts hrb (by omega), tree0_like, tree0_like, fun j hj e => by have := hFal j hj; have := hFb j e; omega, ⟨fun e => by have := hFal _ e; omega, fun e => by have := hFb _ e; omega⟩, Grew.trans hga hgb, hFa, fun j hj => by have := hFb j hj; have := hga.size; omega, Sl.nil _ _ _, fun q hq => by cases hq⟩
  have HJ0 := Lib.hid hJ0
  clear hJ0 hrb hbb hgb hFb htb
  go_wp2_with fail
  go_loopg [11, 45] (l.length) (fun n xv iv wr => ∃ (i : Nat) (Fa Fb : Nat → Prop) (ya yb : Rp) (Da Db : Nat) (Pa Pb : List Nat) (B : Option Addr) (cb : Nat), n = l.length - i ∧ i ≤ l.length ∧ iv = .int .i64 i ∧ xv = .slice B (fo (l.take i)).length cb ∧ OJ w wr ta pa ra tb pb rb Fa Fb ya yb Da Db (fo (l.take i)) (fo (turned l tn i)) Pa Pb B (fo (l.take i)))
  case atStart => exact ⟨0, _, _, _, _, 0, 0, _, _, none, 0, by simp, Nat.zero_le _, rfl, rfl, HJ0.out⟩
  case round =>
    obtain ⟨i, Fa, Fb, ya, yb, Da, Db, Pa, Pb, B, cb, rfl, hi, rfl, rfl, hJ⟩ := hrel
    have HJ := Lib.hid hJ
    clear hJ
    have hya : ya.sz = 64 := HJ.out.la.sz
    have hyb : yb.sz = 64 := HJ.out.lb.sz
    have h2a : 2 ≤ halfN ya.sz := by rw [hya]; decide
    have h2b : 2 ≤ halfN yb.sz := by rw [hyb]; decide
    have hLa : (fo (l.take i)).length ≤ 120 := by have := fo_len (l.take i); rw [List.length_take] at this; omega
    have hLb : (fo (turned l tn i)).length ≤ 120 := by have := fo_len (turned l tn i); have h9 : (turned l tn i).length = i := (by simp [turned]); omega
    have hDa := HJ.out.sa.depth h2a (by omega)
    have hDb := HJ.out.sb.depth h2b (by omega)
    by_cases hlt : i < l.length
    · obtain ⟨k, hk⟩ : ∃ k, l[i]? = some k := ⟨_, List.getElem?_eq_getElem hlt⟩
      obtain ⟨m, hm⟩ : ∃ m, (i + tn) % l.length = m := ⟨_, rfl⟩
      have hml : m < l.length := by rw [← hm]; exact Nat.mod_lt _ (by omega)
      obtain ⟨o, ho⟩ : ∃ o, l[m]? = some o := ⟨_, List.getElem?_eq_getElem hml⟩
      obtain ⟨gl, ol, rfl, hgl, hxl⟩ := (H.out.2.2.1.grew HJ.out.gr).2 (by omega)
      have hck : wr.cell? ⟨gl, ol + i, none⟩ = some (.int .i64 k) := hxl i _ (by simp [hk])
      have hco : wr.cell? ⟨gl, ol + m, none⟩ = some (.int .i64 o) := hxl m _ (by simp [ho])
      have hm2 : ((i : Int) + (tn : Int)) % (l.length : Int) = (m : Int) := by rw [← hm]; simp
      have hm1 : ((i : Int) + (tn : Int)).tmod (l.length : Int) = (m : Int) := by rw [Int.tmod_eq_emod_of_nonneg (by omega)]; exact hm2
      have hki := H.out.2.2.2 k (List.mem_of_getElem? hk)
      have hoi := H.out.2.2.2 o (List.mem_of_getElem? ho)
      have hpa := bput2_any ta pa ra Da k k _ Pa Fa ya wr HJ.out.a (by rw [HJ.out.la.was]; simp [Rp.opened, Rp.begun]) HJ.out.sa (by omega) hki hki
      have e1 : fo (l.take (i + 1)) = putL (fo (l.take i)) k k := by rw [List.take_add_one, hk]; exact fo_snoc _ _
      have e2 : fo (turned l tn (i + 1)) = putL (fo (turned l tn i)) o o := by
        rw [turned_succ, fo_snoc, hm, List.getD_eq_getElem?_getD, ho]
        rfl
      have HP := Lib.hid (And.intro hpa (And.intro e1 (And.intro e2 (And.intro hki hoi))))
      have hn0 : ¬ (l.length : Int) = 0 := by omega
      have hil : (i : Int) < (l.length : Int) := by omega
      have hmi : (m : Int) < (l.length : Int) := by omega
      clear hpa e1 e2 hki hoi hk ho hm hxl hgl
      go_wp2_with fail
      refine HP.out.1.mono ?_
      rintro e w5 hpu
      obtain ⟨rfl, ya', Fa', Da', Pa', b1, b2, b3, b4⟩ := put_sure hpu roomy400 HJ.out.la HJ.out.sa h2a (by omega)
      obtain ⟨p1, p2, p3, p4, p5, p6, p7⟩ := HJ.out.putA b1 b2 b3
      have hJ5 : OJ w w5 ta pa ra tb pb rb Fa' Fb ya' yb Da' Db _ _ Pa' Pb B (fo (l.take i)) := ⟨b1, p1, b4, HJ.out.sb, b3, HJ.out.lb, p2, p3, p4, p5, HJ.out.fb, p6, p7⟩
      have hpb := bput2_any tb pb rb Db o o _ Pb Fb yb w5 p1 (by rw [HJ.out.lb.was]; simp [Rp.opened, Rp.begun]) HJ.out.sb (by omega) HP.out.2.2.2.2 HP.out.2.2.2.2
      have H5 := Lib.hid (And.intro hpb hJ5)
      clear hpb hJ5 p1 p2 p3 p4 p5 p6 p7 b1 b2 b3 b4 hpu hck hco
      go_wp2_with fail
      refine H5.out.1.mono ?_
      rintro e w6 hpu
      obtain ⟨rfl, yb', Fb', Db', Pb', b1, b2, b3, b4⟩ := put_sure hpu roomy400 H5.out.2.lb H5.out.2.sb h2b (by omega)
      obtain ⟨p1, p2, p3, p4, p5, p6, p7⟩ := H5.out.2.putB b1 b2
      have hJ6 : OJ w w6 ta pa ra tb pb rb Fa' Fb' ya' yb' Da' Db' _ _ Pa' Pb' B (fo (l.take i)) := ⟨p1, b1, H5.out.2.sa, b4, H5.out.2.la, b3, p2, p3, p4, H5.out.2.fa, p5, p6, p7⟩
      have hxp := xput_any k k (fo (l.take i)) B cb w6 p6 (by omega) HJ.out.sa.srt
      have H6 := Lib.hid (And.intro hxp hJ6)
      clear hxp hJ6 p1 p2 p3 p4 p5 p6 p7 b1 b2 b3 b4 hpu
      go_wp2_with fail
      refine H6.out.1.mono ?_
      rintro e w7 ⟨A7, c7, rfl, ho7, hg7⟩
      have hJ7 := H6.out.2.row hg7 (Sl.of_own ho7) (fun q hq => own_rng ho7 q hq)
      have H7 := Lib.hid hJ7
      clear hJ7 ho7 hg7
      go_wp2_with fail
      go_roundg (l.length - (i + 1))
      case measure => omega
      case rel => exact ⟨i + 1, Fa', Fb', ya', yb', Da', Db', Pa', Pb', A7, c7, rfl, by omega, by simp, by rw [HP.out.2.1], by rw [HP.out.2.1, HP.out.2.2.1]; exact H7.out⟩
    · obtain rfl : i = l.length := by omega
      have hT1 : l.take l.length = l := List.take_length
      rw [hT1] at HJ hLa ⊢
      have heq := fo_turned l tn (hT1 ▸ HJ.out.sa.srt) HJ.out.sb.srt
      have hsa := bsame_any ta pa ra Da (fo l) Pa Fa ya B cb wr HJ.out.a HJ.out.sa (by omega) (by omega) HJ.out.x (fun q hq => ⟨(HJ.out.xf q hq).1, (HJ.out.xf q hq).2.2⟩)
      have HS := Lib.hid (And.intro hsa heq)
      clear hsa heq hlt
      go_wp2_with fail
      refine HS.out.1.mono ?_
      rintro e w5 ⟨rfl, hb5, hc5⟩
      obtain ⟨p1, p2, p3, p4, p5, p6, p7⟩ := HJ.out.putA hb5 ⟨hc5, fun j e => .inl e⟩ HJ.out.la
      have hsb : TS yb Db rb (fo l) Pb := HS.out.2 ▸ HJ.out.sb
      have hsame := bsame_any tb pb rb Db (fo l) Pb Fb yb B cb w5 p1 hsb (by omega) (by omega) p6 (fun q hq => ⟨(p7 q hq).2.1, (p7 q hq).2.2⟩)
      have hJ5 : OJ w w5 ta pa ra tb pb rb Fa Fb ya yb Da Db (fo l) (fo l) Pa Pb B (fo l) := ⟨hb5, p1, HJ.out.sa, hsb, HJ.out.la, HJ.out.lb, p2, p3, p4, p5, HJ.out.fb, p6, p7⟩
      have H5 := Lib.hid (And.intro hsame hJ5)
      clear hsame hJ5 hsb p1 p2 p3 p4 p5 p6 p7 hb5 hc5
      go_wp2_with fail
      refine H5.out.1.mono ?_
      rintro e w6 ⟨rfl, hb6, hc6⟩
      obtain ⟨p1, p2, p3, p4, p5, p6, p7⟩ := H5.out.2.putB hb6 ⟨hc6, fun j e => .inl e⟩
      have hJ6 : OJ w w6 ta pa ra tb pb rb Fa Fb ya yb Da Db (fo l) (fo l) Pa Pb B (fo l) := ⟨p1, hb6, H5.out.2.sa, H5.out.2.sb, H5.out.2.la, H5.out.2.lb, p2, p3, p4, H5.out.2.fa, p5, p6, p7⟩
      have hch := bcheck_any ta pa ra Da (fo l) Pa Fa ya w6 p1 hJ6.sa (by omega) (by have := hJ6.sa.tr.pages h2a; omega)
      have H6 := Lib.hid (And.intro hch hJ6)
      clear hch hJ6 p1 p2 p3 p4 p5 p6 p7 hb6 hc6
      go_wp2_with fail
      refine H6.out.1.mono ?_
      rintro e w7 ⟨rfl, hb7, hc7⟩
      obtain ⟨p1, p2, p3, p4, p5, p6, p7⟩ := H6.out.2.putA hb7 ⟨hc7, fun j e => .inl e⟩ H6.out.2.la
      have hch := bcheck_any tb pb rb Db (fo l) Pb Fb yb w7 p1 H6.out.2.sb (by omega) (by have := H6.out.2.sb.tr.pages h2b; omega)
      have H7 := Lib.hid (And.intro hch p4)
      clear hch p1 p2 p3 p4 p5 p6 p7 hb7 hc7
      go_wp2_with fail
      refine H7.out.1.mono ?_
      rintro e w8 ⟨rfl, hb8, hc8⟩
      have hg8 : Grew w w8 := newer H7.out.2 hc8 HJ.out.fb
      have haw := bawake_any w8 (tab_chg H.out.2.1 hg8 id)
      have H8 := Lib.hid (And.intro haw hg8)
      clear haw hg8 hb8 hc8
      go_wp2_with fail
      refine H8.out.1.mono ?_
      rintro e w9 ⟨rfl, hg9⟩
      have H9 := Lib.hid (Grew.trans H8.out.2 hg9)
      clear hg9
      go_wp2_with fail
      go_ret
      exact ⟨rfl, H9.out⟩
end Go.Proofs.YtpkkcicaeldodaaGreatDoor

/- The laws: the table that the rows list, in a walk's words; a world that meets it. -/
namespace Go.Proofs.YtpkkcicaeldodaaGreatDoor
open Go.RowKit

def tabI : List Int := tab.map Int.ofNat
/-- The listed variable's name. -/
def laidName : String := Rows.btreeOrdersRow.named.headD (toString 0)
theorem laid_is {H : Type} : (Rows.laid_math_bits_deBruijn64tab : DataW H) = Lib.tabData .u8 tabI := rfl
theorem tab_of_laid {W : World} (h : laidMetH Tryz.prog Rows.btreeOrdersRow.laid W) : TabAt 0 tab W := by
  have h' : laidMet Tryz.prog [(laidName, Lib.tabData .u8 tabI)] W := h
  have hg : Tryz.prog.globalNamed laidName = some 0 := by kernel_rfl
  have ht := Lib.tabIs_of_head (t := 190) (e := 5) (n := 64) hg (by kernel_rfl) Tryz.underlying190 Tryz.underlying5 (by kernel_rfl) (by kernel_rfl) h'
  intro j hj
  have := ht.cell hg j (by simpa [tabI] using hj)
  rw [this]
  congr 2
  unfold tabI
  rw [List.getD_eq_getElem?_getD, List.getElem?_map, List.getD_eq_getElem?_getD]
  cases tab[j]? <;> rfl

noncomputable def laidWorld (os : Os) : World :=
  { World.holding Tryz.prog os ⟨#[], #[], []⟩ with heap := (World.holding Tryz.prog os ⟨#[], #[], []⟩).heap.modify 0 fun
      | .cells _ t frozen => .cells (tabI.map fun z => Value.int .u8 z).toArray t frozen
      | o => o }
theorem laidWorld_met (os : Os) (args : Array Value) : laidMetH Tryz.prog Rows.btreeOrdersRow.laid ((laidWorld os).forCall (fun _ _ => 0) ⟨#[], args, []⟩).memory :=
  laidMetH_of_parts (laidMet_of_run' 8 (by kernel_rfl) (by kernel_rfl)) (by kernel_rfl)

end Go.Proofs.YtpkkcicaeldodaaGreatDoor

/- What a law's arguments are, opened: a slice of whatever element, record by record. No program stands in this text. -/
namespace Go.Proofs.YtpkkcicaeldodaaGreatDoor
open Go.ChangeShapes Go.WideShapes Go.ChangeAt Go.RowKit Go.Deep

theorem choose_list {α : Type} (P : Nat → α → Prop) : ∀ (n : Nat), (∀ i, i < n → ∃ x, P i x) → ∃ l : List α, l.length = n ∧ ∀ i x, l[i]? = some x → P i x
  | 0, _ => ⟨[], rfl, fun i x h => by simp at h⟩
  | n + 1, h => by
    obtain ⟨l, hl, hp⟩ := choose_list P n (fun i hi => h i (by omega))
    obtain ⟨x, hx⟩ := h n (by omega)
    refine ⟨l ++ [x], by simp [hl], fun i y hy => ?_⟩
    by_cases hi : i < l.length
    · rw [List.getElem?_append_left hi] at hy
      exact hp i y hy
    · rw [List.getElem?_append_right (by omega)] at hy
      have h0 : i - l.length = 0 := by
        rcases Nat.eq_zero_or_pos (i - l.length) with h0 | h0
        · exact h0
        · rw [List.getElem?_eq_none (by simp; omega)] at hy; cases hy
      rw [h0] at hy
      simp at hy
      subst hy
      obtain rfl : i = n := by omega
      exact hx

theorem wf_bounds {n : Int} (h : (Lit.int .i64 n).wf = true) : -9223372036854775808 ≤ n ∧ n ≤ 9223372036854775807 := by
  simpa [Lit.wf, IntKind.min, IntKind.max, IntKind.signed, IntKind.bits] using h

section
variable {H : Type} {enc : TypeId × Value → H} {P : Program} {w : World} {base : Nat} {spare : Nat → Bool} {held : Bool}

/-- A slice whose elements have s cells each: for each element its cells, and that they read. -/
theorem open_elems {t e : TypeId} {fuel s len cap : Nat} {A : Option Addr} {x : DataW H × List MemPlace} (ht : P.underlying t = some (.slice e)) (hC : P.cellsOf e = s) (hs : 0 < s)
    (h : DataW.trod enc P w base spare held fuel t [.slice A len cap] = some x) :
    len ≤ maxLen ∧ (len = 0 ∨ ∃ b off, A = some ⟨b, off, none⟩ ∧ b < w.heap.size ∧ ∀ i, i < len → ∃ (cs : List Value) (n : Nat) (y : DataW H × List MemPlace), cs.length = s ∧ (∀ j, j < s → w.cell? ⟨b, off + (i * s + j), none⟩ = cs[j]?) ∧ DataW.trod enc P w base spare held n e cs = some y) := by
  rcases open_slice ht h with ⟨hcs, _⟩ | ⟨a, len', cap', m, n, D, Pl, hcs, hb, hl, hm, hmm, hx, hi⟩
  · simp at hcs
    obtain ⟨rfl, rfl, rfl⟩ := hcs
    exact ⟨Nat.zero_le _, .inl rfl⟩
  · simp at hcs
    obtain ⟨rfl, rfl, rfl⟩ := hcs
    refine ⟨Nat.le_trans hl hm, ?_⟩
    rcases Nat.eq_zero_or_pos len with h0 | h0
    · exact .inl h0
    right
    have hlm : len ≤ m := by rw [hmm]; split <;> omega
    obtain ⟨b, off, spot⟩ := a
    have cellAt : ∀ i, i < len → ∃ cs' y, cs'.length = s ∧ (∀ j, j < s → w.cell? (Addr.add ⟨b, off, spot⟩ (i * s + j)) = cs'[j]?) ∧ DataW.trod enc P w base spare held n e cs' = some y := by
      intro i hil
      obtain ⟨cs', hc, ht'⟩ := hi i (by omega)
      rw [hC] at hc
      obtain ⟨_, hcl, hat⟩ := World.cells?_some hc
      refine ⟨cs', _, hcl, fun j hj => ?_, ht'⟩
      rw [← hat j hj]
      congr 1
      unfold Addr.add
      by_cases h1 : i * s = 0 <;> by_cases h2 : j = 0 <;> simp [h1, h2, Nat.add_assoc]
    have hspot : spot = none := by
      obtain ⟨cs', y, hcl, hat, _⟩ := cellAt 0 h0
      have := hat 0 hs
      have h0' : cs'[0]? = some (cs'[0]'(by omega)) := List.getElem?_eq_getElem (by omega)
      rw [h0'] at this
      simpa [Addr.add] using World.cell?_spot this
    subst hspot
    refine ⟨b, off, rfl, ?_, fun i hil => ?_⟩
    · obtain ⟨cs', y, hcl, hat, _⟩ := cellAt 0 h0
      have := hat 0 hs
      have h0' : cs'[0]? = some (cs'[0]'(by omega)) := List.getElem?_eq_getElem (by omega)
      rw [h0'] at this
      simpa [Addr.add] using World.block_lt_of_cell? w _ this
    · obtain ⟨cs', y, hcl, hat, ht'⟩ := cellAt i hil
      refine ⟨cs', n, y, hcl, fun j hj => ?_, ht'⟩
      have := hat j hj
      rw [Addr.add_lit] at this
      exact this
end

end Go.Proofs.YtpkkcicaeldodaaGreatDoor

/- A law's argument that is a slice of int. No program stands in this text. -/
namespace Go.Proofs.YtpkkcicaeldodaaGreatDoor
open Go.ChangeShapes Go.WideShapes Go.ChangeAt Go.RowKit Go.Deep

theorem ints_opened {H : Type} {enc : TypeId × Value → H} {P : Program} {w : World} {base : Nat} {spare : Nat → Bool} {held : Bool} {t e : TypeId} {fuel len cap : Nat} {A : Option Addr} {x : DataW H × List MemPlace}
    (ht : P.underlying t = some (.slice e)) (he : P.underlying e = some (.int .i64)) (hC : P.cellsOf e = 1) (h : DataW.trod enc P w base spare held fuel t [.slice A len cap] = some x) :
    ∃ l : List Int, len = l.length ∧ len ≤ maxLen ∧ Sl w 1 A l.length (l.map (Value.int .i64)) ∧ ∀ n ∈ l, -9223372036854775808 ≤ n ∧ n ≤ 9223372036854775807 := by
  obtain ⟨hm, hc⟩ := open_elems ht (s := 1) hC (by omega) h
  rcases hc with rfl | ⟨b, off, rfl, hb, hi⟩
  · exact ⟨[], rfl, hm, Sl.nil _ _ _, fun r hr => by cases hr⟩
  · obtain ⟨l, hl, hp⟩ := choose_list (fun i (r : Int) => (-9223372036854775808 ≤ r ∧ r ≤ 9223372036854775807) ∧ w.cell? ⟨b, off + i, none⟩ = some (.int .i64 r)) len (fun i hil => by
      obtain ⟨cs, n, y, hcl, hat, hT⟩ := hi i hil
      match cs, hcl with
      | [c], _ =>
        obtain ⟨r, e1, -, w1⟩ := DataW.trod_int he hT
        simp at e1
        subst e1
        have := hat 0 (by omega)
        exact ⟨r, wf_bounds w1, by simpa using this⟩)
    refine ⟨l, hl.symm, hm, ⟨by simp, fun _ => ⟨b, off, rfl, hb, fun j u hu => ?_⟩⟩, fun r hr => ?_⟩
    · rw [List.getElem?_map] at hu
      cases hj : l[j]? with
      | none => rw [hj] at hu; cases hu
      | some r => rw [hj] at hu; simp at hu; subst hu; exact (hp j r hj).2
    · obtain ⟨i, hi, rfl⟩ := List.getElem_of_mem hr
      exact (hp i _ (List.getElem?_eq_getElem hi)).1

end Go.Proofs.YtpkkcicaeldodaaGreatDoor

namespace Go.Proofs.YtpkkcicaeldodaaGreatDoor
open Go.ChangeShapes Go.WideShapes Go.ChangeAt Go.RowKit
set_option linter.unusedVariables false

theorem orders_walk (w : World) (hT : TabAt 0 tab w) (A : Option Addr) (c : Nat) (l : List Int) (hm : l.length ≤ maxLen) (hs : Sl w 1 A l.length (l.map (Value.int .i64))) (hok : ∀ n ∈ l, -9223372036854775808 ≤ n ∧ n ≤ 9223372036854775807) (turn : Int) (ht : -9223372036854775808 ≤ turn ∧ turn ≤ 9223372036854775807) :
    Calls Tryz.prog 3 #[.slice A l.length c, .int .i64 turn] w fun e w' => e = .returned (.bool true) ∧ Grew w w' := by
  by_cases h : 120 < l.length ∨ turn < 0 ∨ 1000 < turn
  · exact orders_out w hT A c l turn ht (by unfold maxLen at hm; omega) h
  · obtain ⟨tn, rfl⟩ := Int.eq_ofNat_of_zero_le (show 0 ≤ turn by omega)
    exact orders_in w hT A c l tn (by omega) (by omega) hs hok

namespace lawBtreeOrders
theorem own : ownKnob Tryz.prog.godebug = none := by kernel_rfl
theorem laidOut : laidOutB Tryz.prog = true := by kernel_rfl
set_option maxRecDepth 100000 in
theorem lifted (os : Os) (started : os.Started) (H : Type) (enc : TypeId × Value → H) :
    ReturnsInHanded {} Tryz.checked os 3 .any (fun w args => (Rows.btreeOrdersSpec.pre enc Tryz.prog Tryz.f3 [] false w args ∧ laidMetH Tryz.prog Rows.btreeOrdersRow.laid w) ∧ sizedMet enc Tryz.prog Tryz.f3 (OpenSpec.ofChange Rows.btreeOrdersSpec) false w args) (Rows.btreeOrdersSpec.post enc Tryz.prog Tryz.f3 false true false false) := by
  refine returnsInHanded_of_change_and (C := Tryz.checked) (X := fun w _ => laidMetH Tryz.prog Rows.btreeOrdersRow.laid w) (fun _ _ _ hh h => h.of_heap hh) own started (by kernel_rfl) Tryz.func3
    (ChangeSpec.witness_at (enc := enc) (C := Tryz.checked) (os := os) (X := fun w _ => laidMetH Tryz.prog Rows.btreeOrdersRow.laid w) false (laidWorld os) #[.slice none 0 0, .int .i64 0] 8 rfl (by kernel_rfl) (by kernel_rfl) (by kernel_rfl) (by kernel_rfl) (by kernel_rfl) (laidWorld_met os _)) ?_
  intro W base args ds gs before hval0 hW _ _ hL0 _
  have hL : laidMetH Tryz.prog Rows.btreeOrdersRow.laid W := hL0
  have hT0 := tab_of_laid hL
  have hval : ∀ (j : Nat) t v, Tryz.f3.params[j]? = some t → args[j]? = some v → Value.okWide Tryz.prog W .any base t v := hval0
  have hW1 := hW
  obtain ⟨p, q, hA0, hV, rfl, hfz, hnd⟩ := hW
  have hA : DataW.TrodAll enc Tryz.prog W 0 (fun _ => true) true Tryz.f3.params.toList args.toList ds p := hA0
  rw [Tryz.params3] at hA hval
  obtain ⟨v0, vs0, d0, ds0, p0, q0, hargs, rfl, rfl, h0, r0⟩ := trodAll_cons hA
  obtain ⟨v1, vs1, d1, ds1, p1, q1, rfl, rfl, rfl, h1, r1⟩ := trodAll_cons r0
  obtain ⟨rfl, rfl, rfl⟩ := trodAll_nil r1
  obtain rfl : args = #[v0, v1] := by cases args; simp_all
  obtain ⟨rfl, rfl⟩ := trodVars_none hV
  obtain ⟨A0, n0, c0, rfl⟩ := okWide_slice Tryz.underlying22 (hval 0 22 v0 rfl rfl)
  have k0 := h0
  have lt0 : ∀ x ∈ p0, x.block < W.heap.size := by obtain ⟨m, hm⟩ := k0; exact DataW.trod_lt m _ _ _ hm
  obtain ⟨fu0, hf0⟩ := h0
  obtain ⟨l0, rfl, hm0, hs0, ok0⟩ := ints_opened Tryz.underlying22 Tryz.underlying3 (by kernel_rfl) (by simpa [Value.cells] using hf0)
  obtain ⟨a1, rfl, rfl, rfl, w1⟩ := open_int Tryz.underlying3 (hval 1 3 v1 rfl rfl) h1
  clear hA0 hval0
  refine (orders_walk W hT0 A0 c0 l0 hm0 hs0 ok0 a1 (wf_bounds w1)).mono fun e W1 ⟨he, hg⟩ => ?_
  subst he
  have bel := hg.below
  exact ⟨_, rfl, _, _, _, [], _, [], hW1, trodAll_mk1 (shut_bool Tryz.underlying4 _), (trodAll_cons_mk (Below.trod laidOut (by kernel_rfl) (of_decide_eq_true (by kernel_rfl)) k0 bel lt0) (trodAll_cons_mk (shut_int Tryz.underlying3 w1) trodAll_mk0)), rfl, bel.frame _, fun h => by cases h⟩
theorem over : Rows.btreeOrdersRow.holds Tryz.pinned (OpenSpec.ofChange Rows.btreeOrdersSpec) :=
  OpenClaim.holds_of_wide 3 Tryz.f3 rfl rfl rfl rfl rfl rfl rfl ⟨rfl, rfl, rfl, rfl, rfl⟩ rfl rfl rfl rfl rfl (by kernel_rfl) Tryz.func3 (by kernel_rfl)
    (of_decide_eq_true (by kernel_rfl)) (by unfold Func.isWrapper; first | (rw [if_pos (by decide +kernel)]; kernel_rfl) | (rw [if_neg (by decide +kernel)]; exact ⟨rfl, rfl⟩))
    (fun os started H enc _ => lifted os started H enc)
/-- The statement, a card whose listed variable is tied to the program. -/
theorem proved : Rows.BtreeOrdersCardSaid :=
  Claim7.holds_tied_plain_at .later [] [.data] true Rows.btreeOrdersCard.stood.harness false over (fun _ h => by cases h) (by kernel_rfl) (fun _ h => by cases h) btreeOrders_row_tie rfl ⟨rfl, rfl⟩ (by kernel_rfl) rfl
    (fun f fn hf hfn => by
      obtain rfl : f = 3 := Option.some.inj ((show Tryz.prog.funcNamed Rows.btreeOrdersRow.func = some 3 by kernel_rfl).symm.trans hf) |>.symm
      obtain rfl : fn = Tryz.f3 := (Option.some.inj (Tryz.func3.symm.trans hfn)).symm
      refine ⟨by kernel_rfl, fun j t ht => ?_⟩
      have hall : ∀ t ∈ Tryz.f3.params.toList, Tryz.prog.wantsStandIn t = false := by
        rw [Tryz.params3]
        intro t ht
        simp only [List.mem_cons, List.not_mem_nil, or_false] at ht
        rcases ht with rfl | rfl <;> kernel_rfl
      exact hall t (by rw [Array.mem_toList_iff]; exact Array.mem_of_getElem? ht))
    (by kernel_rfl)
#print axioms proved
end lawBtreeOrders

end Go.Proofs.YtpkkcicaeldodaaGreatDoor
