/- Texts 5 of 7 that the proof of BtreeOrders stands on. -/
import Derived.Test.YtpkkcicaeldodaaGreatDoorMgBtreeOrders4
import Derived.Sort.LoopGhostIn
import Derived.BigGuardIn
set_option linter.unusedSimpArgs false
set_option linter.unusedVariables false

/- The tree: walk. -/
namespace Go.Proofs.YtpkkcicaeldodaaGreatDoor
open Go.RowKit Go.Maps
attribute [local go_sem] Oper.semAt_some

/-- What walk leaves. -/
def WkOut (w w' : World) (base lb k m c : Nat) (n : Nat) (J : Nat → World → Prop) (Jx : World → Prop) (e : Ending) : Prop :=
  Chg (fun j => j < base ∨ j = lb) w w' ∧ ((e = .returned (.bool true) ∧ J (k + n) w' ∧ ∃ m' : Nat, Blk w' lb 3 #[.int .i64 m'] ∧ m ≤ m' + c ∧ m' ≤ m) ∨ (e = .returned (.bool false) ∧ Jx w'))
/-- A yield, either way. -/
def Yld (W W' : World) (base k : Nat) (J : Nat → World → Prop) (Jx : World → Prop) (e : Ending) : Prop :=
  ∃ b, e = .returned (.bool b) ∧ Chg (fun j => j < base) W W' ∧ (b = true → J (k + 1) W') ∧ (b = false → Jx W')
theorem yld_of {W W' : World} {base k : Nat} {J : Nat → World → Prop} {Jx : World → Prop} {e : Ending} (h : Rounded (J (k + 1)) Jx e W' ∧ Chg (fun j => j < base) W W') : Yld W W' base k J Jx e := by
  rcases h with ⟨⟨rfl, h1⟩ | ⟨rfl, h1⟩, h2⟩
  · exact ⟨true, rfl, h2, fun _ => h1, fun e => by cases e⟩
  · exact ⟨false, rfl, h2, fun e => by (cases e), fun _ => h1⟩
/-- On the way through a node. -/
structure WkJ (w W : World) (base lb k0 m0 b q d : Nat) (nd : Nd) (N : Nat → Prop) (x : Rp) (from_ : Int) (G M : List KV) (PM : List Nat) (J : Nat → World → Prop) (i : Nat) (L : List KV) (P : List Nat) (k m : Nat) : Prop where
  j : J k W
  rest : Rest x.nd (halfN x.sz) d nd i L P
  cnt : k + (geL L from_).length = k0 + (geL M from_).length
  told : ∃ T, G.drop k = geL L from_ ++ T
  left : Blk W lb 3 #[.int .i64 m]
  pl : P.length ≤ m
  ml : m0 + P.length ≤ m + PM.length
  mm : m ≤ m0
  srt : Srt L
  own : NdOwn W N b q nd
  nb : ∀ j, N j → base ≤ j ∧ j ≠ lb
  chg : Chg (fun j => j < base ∨ j = lb) w W

set_option maxRecDepth 100000 in
set_option maxHeartbeats 6400000 in
theorem bwalk_any (base lb t p root y : Nat) (from_ : Int) (F : Nat → Prop) (x : Rp) (G : List KV) (J : Nat → World → Prop) (Jx : World → Prop)
    (hF : ∀ j, F j → j < base) (hlb : base ≤ lb) (htb : t < base)
    (hin : ∀ k W, J k W → BT W t p root F x)
    (hst : ∀ k W W', J k W → Chg (fun j => F j ∨ base ≤ j) W W' → BT W' t p root F x → J k W')
    (hyl : ∀ k a b W, J k W → G[k]? = some (a, b) → YieldAt Fence.wide 0 Tryz.prog y #[.int .i64 a, .int .i64 b] W fun e W' => Rounded (J (k + 1)) Jx e W' ∧ Chg (fun j => j < base) W W') :
    ∀ (d q : Nat) (M : List KV) (PM : List Nat) (k m : Nat) (w : World), Tr x.nd (halfN x.sz) d q M PM → Srt M → J k w → base ≤ w.heap.size → Blk w lb 3 #[.int .i64 m] → PM.length ≤ m → m ≤ 65536 → (∃ T, G.drop k = geL M from_ ++ T) →
      Calls Tryz.prog 50 #[.pointer (some ⟨t, 0, none⟩), .int .i64 q, .int .i64 from_, .pointer (some ⟨lb, 0, none⟩), .func (.yield y) #[] #[]] w fun e w' => WkOut w w' base lb k m PM.length (geL M from_).length J Jx e := by
  have Hst := Lib.hid (And.intro hF (And.intro hlb (And.intro htb (And.intro hin (And.intro hst hyl)))))
  clear hF hlb htb hin hst hyl
  intro d
  induction d using Nat.strongRecOn with
  | ind d ih =>
  intro q M PM k m w ht hs hj hb hlft hpm hm hG
  obtain ⟨m1, rfl⟩ : ∃ m1, m = m1 + 1 := ⟨m - 1, by have := List.length_pos_of_mem ht.root_mem; omega⟩
  obtain ⟨nd, hnd, -⟩ := ht.node
  obtain ⟨cp, cp1, cp2, cp3⟩ := Rp.nd_some hnd
  have hbt := Hst.out.2.2.2.1 k w hj
  have hft := hbt.gp.fit hnd
  have hkl : nd.keys.length ≤ 300 := by have h1 := hft.1.most; have h2 := hbt.gp.szs; unfold mostN at h1; omega
  obtain ⟨W1, hW1⟩ : ∃ W, w.setCell ⟨lb, 0, none⟩ (.int .i64 m1) = W := ⟨_, rfl⟩
  have hc1 : Chg (fun j => j = lb) w W1 := hW1 ▸ (Chg.refl (fun j => j = lb) w).setCell (p := ⟨lb, 0, none⟩) (fun _ => rfl) _
  have hl1 : Blk W1 lb 3 #[.int .i64 m1] := by
    have h9 := hlft.put 0 (.int .i64 m1)
    rw [hW1] at h9
    simpa using h9
  have hpos := tab_pos hbt.gp.tab
  have hFb := Hst.out.1
  have hlb := Hst.out.2.1
  have htb := Hst.out.2.2.1
  have hb0 : 0 < base := by
    have := hbt.gp.zero
    omega
  have hbt1 : BT W1 t p root F x := hbt.chg hc1 (fun j hj e => by have := hFb j hj; omega) (fun e => by omega) (fun e => by omega)
  have hj1 : J k W1 := Hst.out.2.2.2.2.1 k w W1 hj (hc1.mono fun j _ e => .inr (by omega)) hbt1
  have hld := bload_any t p root q F x cp nd W1 hbt1 cp1 cp2 cp3
  have hks := ht.keys hnd hs
  obtain ⟨c0, f0, s0⟩ := hlft.facts
  have hce : w.cell? ⟨lb, 0, none⟩ = some (.int .i64 ((m1 : Int) + 1)) := by rw [c0]; simp
  have hfe := f0 0
  have t0 : decide ((m1 : Int) < 0) = false := decide_eq_false (by omega)
  have hm1 : m1 + 1 ≤ 65536 := by omega
  have H := Lib.hid (And.intro ht (And.intro hs (And.intro hG (And.intro hpm (And.intro hb (And.intro hnd (And.intro hft (And.intro hks (And.intro hld (And.intro hj1 (And.intro hl1 (And.intro hc1 hW1))))))))))))
  have IH := Lib.hid ih
  clear ih ht hs hG hpm hb hnd hft hks hld hj1 hl1 hc1 hW1 hbt hbt1 hj hlft cp1 cp2 cp3 c0 f0 hpos hFb hlb htb hb0 hm
  (refine (callsIn_wide (n := 1)).1 (callsIn_of_wp Tryz.func50 rfl trivial ?_ rfl); simp only [Tryz.ntmps50, List.size_toArray, List.length_cons, List.length_nil, Nat.reduceAdd, Nat.reduceSub, Array.replicate_succ, Array.replicate_zero, List.push_toArray, List.append_toArray, List.nil_append, List.cons_append])
  gi_wp2_with fail
  rw [H.out.2.2.2.2.2.2.2.2.2.2.2.2]
  refine ⟨trivial, (callsIn_wide.2 H.out.2.2.2.2.2.2.2.2.1).mono ?_⟩
  rintro e w2 ⟨b, N, rfl, hn2, hN2, hbt2, hc2⟩
  have hFb := Hst.out.1
  have hlb := Hst.out.2.1
  have hl2 : Blk w2 lb 3 #[.int .i64 m1] := H.out.2.2.2.2.2.2.2.2.2.2.1.chg hc2 fun e => by have := hFb _ e; omega
  have hj2 : J k w2 := Hst.out.2.2.2.2.1 k W1 w2 H.out.2.2.2.2.2.2.2.2.2.1 (hc2.mono fun j _ e => .inl e) hbt2
  have hpl := bplace_any b q nd N from_ w2 hn2.at H.out.2.2.2.2.2.2.2.1 (by omega)
  obtain ⟨ii, hii⟩ : ∃ i, atI nd.keys from_ = i := ⟨_, rfl⟩
  obtain ⟨fb, hfb⟩ : ∃ f, nd.keys.contains from_ = f := ⟨_, rfl⟩
  rw [hii, hfb] at hpl
  have hb1 := H.out.2.2.2.2.2.2.2.2.2.2.2.1.size
  have hN3 : ∀ j, N j → base ≤ j ∧ j ≠ lb := fun j hj => by
    have h1 := hN2 j hj
    have h2 := H.out.2.2.2.2.2.2.2.2.2.2.1.lt
    have h3 := H.out.2.2.2.2.1
    omega
  obtain ⟨A0, L0, P0, r1, r2, r3, r4, r5⟩ := Rest.start (k := from_) H.out.1 H.out.2.2.2.2.2.1 H.out.2.1
  rw [hii] at r4 r5
  have hgl : geL M from_ = geL L0 from_ := by rw [r1, geL_app, geL_none r2]; rfl
  obtain ⟨T, hT⟩ := H.out.2.2.1
  have hpm := H.out.2.2.2.1
  have hcc : Chg (fun j => j < base ∨ j = lb) w w2 := Chg.trans (H.out.2.2.2.2.2.2.2.2.2.2.2.1.mono fun j _ e => .inr e) hc2 fun j _ e => .inl (hFb j e)
  have hsL : Srt L0 := H.out.2.1.sub (by rw [r1]; exact List.sublist_append_right _ _)
  have hJ2 : WkJ w w2 base lb k (m1 + 1) b q d nd N x from_ G M PM J ii L0 P0 k m1 := ⟨hj2, r4, by rw [hgl], ⟨T, by rw [hT, hgl]⟩, hl2, by omega, by omega, by omega, hsL, hn2, hN3, hcc⟩
  have hil : ii ≤ nd.keys.length := hii ▸ atI_le _ _
  obtain ⟨c0, f0, s1⟩ := hl2.facts
  have H2 := Lib.hid (And.intro hpl (And.intro hJ2 (And.intro r5 hbt2)))
  clear hpl hJ2 hn2 hN2 hbt2 hc2 hl2 hj2 hii hfb hb1 hN3 r1 r2 r3 r4 r5 hgl hT hpm hcc hFb hlb hce hfe
  gi_wp2_with fail
  refine ⟨trivial, (callsIn_wide.2 H2.out.1).mono ?_⟩
  rintro e w3 ⟨rfl, hg3⟩
  have hJ3 : WkJ w w3 base lb k (m1 + 1) b q d nd N x from_ G M PM J ii L0 P0 k m1 := by
    have h := H2.out.2.1
    exact ⟨Hst.out.2.2.2.2.1 k w2 w3 h.j hg3.chg (H2.out.2.2.2.grew hg3), h.rest, h.cnt, h.told, h.left.grew hg3, h.pl, h.ml, h.mm, h.srt, h.own.grew hg3, h.nb, h.chg.grew hg3⟩
  have H3 := Lib.hid hJ3
  clear hJ3 hg3 c0 f0 s1
  gi_wp2_with fail
  gi_loopg [13] (nd.keys.length + 1 - ii) (fun n iv wr => ∃ (i : Nat) (L' : List KV) (P' : List Nat) (k' m' : Nat), n = nd.keys.length + 1 - i ∧ ii ≤ i ∧ i ≤ nd.keys.length + 1 ∧ iv = .int .i64 i ∧ WkJ w wr base lb k (m1 + 1) b q d nd N x from_ G M PM J i L' P' k' m')
  case atStart => exact ⟨ii, L0, P0, k, m1, rfl, Nat.le_refl _, by omega, rfl, H3.out⟩
  case round =>
    obtain ⟨i, L', P', k', m', rfl, hi1, hi2, rfl, hJ⟩ := hrel
    have HJ := Lib.hid hJ
    obtain ⟨Ak, ck, Av, cv, Ac, cc, bB, sK, sV, sC, nb, nk, nv', nc, -⟩ := hJ.own.at
    obtain ⟨c0, f0, s0⟩ := bB.facts
    have hlf := leaf_any b q nd N wr hJ.own.at
    have hvl := H.out.2.2.2.2.2.2.1.1.vals
    have HB := Lib.hid (And.intro hlf (And.intro bB (And.intro sK (And.intro sV (And.intro sC hvl)))))
    have HNb := Lib.hid (And.intro nb (And.intro nk (And.intro nv' nc)))
    clear hJ hlf bB sK sV sC hvl nb nk nv' nc
    by_cases hend : i ≤ nd.keys.length
    · have t1 : decide ((i : Int) ≤ (nd.keys.length : Int)) = true := decide_eq_true (by omega)
      have t1' : decide (i ≤ nd.keys.length) = true := decide_eq_true hend
      by_cases h0 : nd.kids.length = 0
      · have t2 : decide (nd.kids.length = 0) = true := decide_eq_true h0
        obtain rfl : d = 0 := by
          obtain ⟨nd', g1, -, -, g2⟩ := H.out.1.node
          rw [H.out.2.2.2.2.2.1] at g1
          cases g1
          exact g2.1 h0
        by_cases hlt : i < nd.keys.length
        · obtain ⟨a, v, L2, ha, hv, hmem, hL2, hrest2⟩ := HJ.out.rest.leaf HB.out.2.2.2.2.2 hlt
          have hfa : from_ ≤ a := H2.out.2.2.1 (a, v) (List.mem_of_mem_drop (i := i - ii) (by rw [List.drop_drop, show ii + (i - ii) = i by omega]; exact hmem))
          have hgl : geL L' from_ = (a, v) :: geL L2 from_ := by rw [hL2]; exact geL_cons hfa
          obtain ⟨T, hT⟩ := HJ.out.told
          rw [hgl] at hT
          obtain ⟨hG1, hG2⟩ := drop_cons' hT
          obtain ⟨gk, ok, rfl, hgkl, hxk⟩ := HB.out.2.2.1.2 (by omega)
          obtain ⟨gv, ov, rfl, hgvl, hxv⟩ := HB.out.2.2.2.1.2 (by have := HB.out.2.2.2.2.2; omega)
          have hck : wr.drew.cell? ⟨gk, ok + i, none⟩ = some (.int .i64 a) := hxk i _ (by simp [iv, ha])
          have hcv : wr.drew.cell? ⟨gv, ov + i, none⟩ = some (.int .i64 v) := hxv i _ (by simp [iv, hv])
          have hlv : i < nd.vals.length := (List.getElem?_eq_some_iff.1 hv).1
          have hjd : J k' wr.drew := Hst.out.2.2.2.2.1 k' wr wr.drew HJ.out.j ((Chg.refl _ _).drew) ((Hst.out.2.2.2.1 k' wr HJ.out.j).grew ((Chg.refl NoF wr).drew))
          obtain ⟨fn, tmps, assign, body, hy, hR⟩ := (Hst.out.2.2.2.2.2 k' a v wr.drew hjd hG1)
          have hR2 := RoundIn.mono hR fun e W' h => (yld_of h : Yld wr.drew W' base k' J Jx e)
          have HR := Lib.hid hR2
          have t3 : decide ((i : Int) < (nd.keys.length : Int)) = true := decide_eq_true (by omega)
          have t3' : decide (i < nd.keys.length) = true := decide_eq_true hlt
          have hs2 : Srt L2 := HJ.out.srt.sub (by rw [hL2]; exact List.sublist_cons_self _ _)
          have HG := Lib.hid (And.intro hrest2 (And.intro hgl (And.intro (show ∃ T, G.drop (k' + 1) = geL L2 from_ ++ T from ⟨T, hG2⟩) hs2)))
          have HSr := Lib.hid (show wr.drew.cell? ⟨b, 1, none⟩ = some (.slice (some ⟨gk, ok, none⟩) nd.keys.length ck) ∧ wr.drew.cell? ⟨b, 2, none⟩ = some (.slice (some ⟨gv, ov, none⟩) nd.vals.length cv) ∧ wr.drew.cell? ⟨gk, ok + i, none⟩ = some (.int .i64 a) ∧ wr.drew.cell? ⟨gv, ov + i, none⟩ = some (.int .i64 v) from ⟨c0 1, c0 2, hck, hcv⟩)
          have HLt := Lib.hid (show b < wr.drew.heap.size ∧ gk < wr.drew.heap.size ∧ gv < wr.drew.heap.size ∧ base ≤ b ∧ base ≤ gk ∧ base ≤ gv from ⟨s0, hgkl, hgvl, (HJ.out.nb _ HNb.out.1).1, (HJ.out.nb _ (HNb.out.2.1 _ rfl)).1, (HJ.out.nb _ (HNb.out.2.2.1 _ rfl)).1⟩)
          clear hR hR2 hrest2 hgl hG1 hG2 hT hjd hxk hxv hmem ha hv hL2 hfa hgkl hgvl hck hcv hs2
          gi_wp2_with (refine ⟨trivial, ?_⟩; gi_at_call 41; refine (callsIn_wide.2 HB.out.1).mono ?_; rintro e w5 ⟨rfl, rfl⟩)
          refine ⟨trivial, ?_⟩
          gi_wp2_with fail
          have hS : wr.drew.cell? ⟨b, 1, none⟩ = some (.slice (some ⟨gk, ok, none⟩) nd.keys.length ck) ∧ wr.drew.cell? ⟨b, 2, none⟩ = some (.slice (some ⟨gv, ov, none⟩) nd.vals.length cv) ∧ wr.drew.cell? ⟨gk, ok + i, none⟩ = some (.int .i64 a) ∧ wr.drew.cell? ⟨gv, ov + i, none⟩ = some (.int .i64 v) := HSr.out
          refine wpIn_region_inH (S := fun w' => w'.cell? ⟨b, 1, none⟩ = some (.slice (some ⟨gk, ok, none⟩) nd.keys.length ck) ∧ w'.cell? ⟨b, 2, none⟩ = some (.slice (some ⟨gv, ov, none⟩) nd.vals.length cv) ∧ w'.cell? ⟨gk, ok + i, none⟩ = some (.int .i64 a) ∧ w'.cell? ⟨gv, ov + i, none⟩ = some (.int .i64 v)) (by kernel_rfl) hS (fun hHeld => ?_)
          refine wpAnyInH_take (i := 0) (v := ?_) rfl (by kernel_rfl) (by kernel_rfl) (by kernel_rfl) (fun _ _ _ h => h) ⟨Or.inl ⟨by rfl, ?_⟩, fun _ => rfl⟩ hHeld ?_
          rotate_left
          · (intro w hSw; (try dsimp only at hSw); go_simp) <;> with_reducible rfl
          (try simp only [Act.put, List.setIfInBounds_toArray, List.set_cons_zero, List.set_cons_succ, List.getElem_toArray, List.getElem_cons_zero, List.getElem_cons_succ])
          refine wpAnyInH_take (i := 1) (v := ?_) rfl (by kernel_rfl) (by kernel_rfl) (by kernel_rfl) (fun _ _ _ h => h) ⟨Or.inl ⟨by rfl, ?_⟩, fun _ => rfl⟩ hHeld ?_
          rotate_left
          · (intro w hSw; (try dsimp only at hSw); go_simp) <;> with_reducible rfl
          (try simp only [Act.put, List.setIfInBounds_toArray, List.set_cons_zero, List.set_cons_succ, List.getElem_toArray, List.getElem_cons_zero, List.getElem_cons_succ])
          refine wpAnyInH_take (i := 2) (v := ?_) rfl (by kernel_rfl) (by kernel_rfl) (by kernel_rfl) (fun _ _ _ h => h) ⟨Or.inl ⟨by rfl, ?_⟩, fun _ => rfl⟩ hHeld ?_
          rotate_left
          · (intro w hSw; (try dsimp only at hSw); go_simp) <;> with_reducible rfl
          (try simp only [Act.put, List.setIfInBounds_toArray, List.set_cons_zero, List.set_cons_succ, List.getElem_toArray, List.getElem_cons_zero, List.getElem_cons_succ])
          refine wpAnyInH_take (i := 3) (v := ?_) rfl (by kernel_rfl) (by kernel_rfl) (by kernel_rfl) (fun _ _ _ h => h) ⟨Or.inl ⟨by rfl, ?_⟩, fun _ => rfl⟩ hHeld ?_
          rotate_left
          · (intro w hSw; (try dsimp only at hSw); go_simp) <;> with_reducible rfl
          (try simp only [Act.put, List.setIfInBounds_toArray, List.set_cons_zero, List.set_cons_succ, List.getElem_toArray, List.getElem_cons_zero, List.getElem_cons_succ])
          refine wpAnyInH_take (i := 4) (v := ?_) rfl (by kernel_rfl) (by kernel_rfl) (by kernel_rfl) (fun _ _ _ h => h) ⟨Or.inl ⟨by rfl, ?_⟩, fun _ => rfl⟩ hHeld ?_
          rotate_left
          · (intro w hSw; (try dsimp only at hSw); go_simp) <;> with_reducible rfl
          (try simp only [Act.put, List.setIfInBounds_toArray, List.set_cons_zero, List.set_cons_succ, List.getElem_toArray, List.getElem_cons_zero, List.getElem_cons_succ])
          refine wpAnyInH_take (i := 5) (v := ?_) rfl (by kernel_rfl) (by kernel_rfl) (by kernel_rfl) (fun _ _ _ h => h) ⟨Or.inl ⟨by rfl, ?_⟩, fun _ => rfl⟩ hHeld ?_
          rotate_left
          · (intro w hSw; (try dsimp only at hSw); go_simp) <;> with_reducible rfl
          (try simp only [Act.put, List.setIfInBounds_toArray, List.set_cons_zero, List.set_cons_succ, List.getElem_toArray, List.getElem_cons_zero, List.getElem_cons_succ])
          refine wpAnyInH_take (i := 6) (v := ?_) rfl (by kernel_rfl) (by kernel_rfl) (by kernel_rfl) (fun _ _ _ h => h) ⟨Or.inl ⟨by rfl, ?_⟩, fun _ => rfl⟩ hHeld ?_
          rotate_left
          · (intro w hSw; (try dsimp only at hSw); go_simp) <;> with_reducible rfl
          (try simp only [Act.put, List.setIfInBounds_toArray, List.set_cons_zero, List.set_cons_succ, List.getElem_toArray, List.getElem_cons_zero, List.getElem_cons_succ])
          refine wpAnyInH_take (i := 7) (v := ?_) rfl (by kernel_rfl) (by kernel_rfl) (by kernel_rfl) (fun _ _ _ h => h) ⟨Or.inl ⟨by rfl, ?_⟩, fun _ => rfl⟩ hHeld ?_
          rotate_left
          · (intro w hSw; (try dsimp only at hSw); go_simp) <;> with_reducible rfl
          (try simp only [Act.put, List.setIfInBounds_toArray, List.set_cons_zero, List.set_cons_succ, List.getElem_toArray, List.getElem_cons_zero, List.getElem_cons_succ])
          refine wpAnyInH_take (i := 8) (v := ?_) rfl (by kernel_rfl) (by kernel_rfl) (by kernel_rfl) (fun _ _ _ h => h) ⟨Or.inl ⟨by rfl, ?_⟩, fun _ => rfl⟩ hHeld ?_
          rotate_left
          · (intro w hSw; (try dsimp only at hSw); go_simp) <;> with_reducible rfl
          (try simp only [Act.put, List.setIfInBounds_toArray, List.set_cons_zero, List.set_cons_succ, List.getElem_toArray, List.getElem_cons_zero, List.getElem_cons_succ])
          refine wpAnyInH_take (i := 9) (v := ?_) rfl (by kernel_rfl) (by kernel_rfl) (by kernel_rfl) (fun _ _ _ h => h) ⟨Or.inl ⟨by rfl, ?_⟩, fun _ => rfl⟩ hHeld ?_
          rotate_left
          · (intro w hSw; (try dsimp only at hSw); go_simp) <;> with_reducible rfl
          (try simp only [Act.put, List.setIfInBounds_toArray, List.set_cons_zero, List.set_cons_succ, List.getElem_toArray, List.getElem_cons_zero, List.getElem_cons_succ])
          refine wpAnyInH_take (i := 10) (v := ?_) rfl (by kernel_rfl) (by kernel_rfl) (by kernel_rfl) (fun _ _ _ h => h) ⟨Or.inl ⟨by rfl, ?_⟩, fun _ => rfl⟩ hHeld ?_
          rotate_left
          · (intro w hSw; (try dsimp only at hSw); go_simp) <;> with_reducible rfl
          (try simp only [Act.put, List.setIfInBounds_toArray, List.set_cons_zero, List.set_cons_succ, List.getElem_toArray, List.getElem_cons_zero, List.getElem_cons_succ])
          refine wpAnyInH_take (i := 11) (v := ?_) rfl (by kernel_rfl) (by kernel_rfl) (by kernel_rfl) (fun _ _ _ h => h) ⟨Or.inl ⟨by rfl, ?_⟩, fun _ => rfl⟩ hHeld ?_
          rotate_left
          · (intro w hSw; (try dsimp only at hSw); go_simp) <;> with_reducible rfl
          (try simp only [Act.put, List.setIfInBounds_toArray, List.set_cons_zero, List.set_cons_succ, List.getElem_toArray, List.getElem_cons_zero, List.getElem_cons_succ])
          refine wpAnyInH_take (i := 12) (v := ?_) rfl (by kernel_rfl) (by kernel_rfl) (by kernel_rfl) (fun _ _ _ h => h) ⟨Or.inl ⟨by rfl, ?_⟩, fun _ => rfl⟩ hHeld ?_
          rotate_left
          · (intro w hSw; (try dsimp only at hSw); go_simp) <;> with_reducible rfl
          (try simp only [Act.put, List.setIfInBounds_toArray, List.set_cons_zero, List.set_cons_succ, List.getElem_toArray, List.getElem_cons_zero, List.getElem_cons_succ])
          refine wpAnyInH_take (i := 13) (v := ?_) rfl (by kernel_rfl) (by kernel_rfl) (by kernel_rfl) (fun _ _ _ h => h) ⟨Or.inl ⟨by rfl, ?_⟩, fun _ => rfl⟩ hHeld ?_
          rotate_left
          · (intro w hSw; (try dsimp only at hSw); go_simp) <;> with_reducible rfl
          (try simp only [Act.put, List.setIfInBounds_toArray, List.set_cons_zero, List.set_cons_succ, List.getElem_toArray, List.getElem_cons_zero, List.getElem_cons_succ])
          refine wpAnyInH_take (i := 14) (v := ?_) rfl (by kernel_rfl) (by kernel_rfl) (by kernel_rfl) (fun _ _ _ h => h) ⟨Or.inl ⟨by rfl, ?_⟩, fun _ => rfl⟩ hHeld ?_
          rotate_left
          · (intro w hSw; (try dsimp only at hSw); go_simp) <;> with_reducible rfl
          (try simp only [Act.put, List.setIfInBounds_toArray, List.set_cons_zero, List.set_cons_succ, List.getElem_toArray, List.getElem_cons_zero, List.getElem_cons_succ])
          refine wpAnyInH_take (i := 15) (v := ?_) rfl (by kernel_rfl) (by kernel_rfl) (by kernel_rfl) (fun _ _ _ h => h) ⟨Or.inl ⟨by rfl, ?_⟩, fun _ => rfl⟩ hHeld ?_
          rotate_left
          · (intro w hSw; (try dsimp only at hSw); go_simp) <;> with_reducible rfl
          (try simp only [Act.put, List.setIfInBounds_toArray, List.set_cons_zero, List.set_cons_succ, List.getElem_toArray, List.getElem_cons_zero, List.getElem_cons_succ])
          refine wpAnyInH_take (i := 16) (v := ?_) rfl (by kernel_rfl) (by kernel_rfl) (by kernel_rfl) (fun _ _ _ h => h) ⟨Or.inl ⟨by rfl, ?_⟩, fun _ => rfl⟩ hHeld ?_
          rotate_left
          · (intro w hSw; (try dsimp only at hSw); go_simp) <;> with_reducible rfl
          (try simp only [Act.put, List.setIfInBounds_toArray, List.set_cons_zero, List.set_cons_succ, List.getElem_toArray, List.getElem_cons_zero, List.getElem_cons_succ])
          refine wpAnyInH_take (i := 17) (v := ?_) rfl (by kernel_rfl) (by kernel_rfl) (by kernel_rfl) (fun _ _ _ h => h) ⟨Or.inl ⟨by rfl, ?_⟩, fun _ => rfl⟩ hHeld ?_
          rotate_left
          · (intro w hSw; (try dsimp only at hSw); go_simp) <;> with_reducible rfl
          (try simp only [Act.put, List.setIfInBounds_toArray, List.set_cons_zero, List.set_cons_succ, List.getElem_toArray, List.getElem_cons_zero, List.getElem_cons_succ])
          refine wpAnyInH_take (i := 18) (v := ?_) rfl (by kernel_rfl) (by kernel_rfl) (by kernel_rfl) (fun _ _ _ h => h) ⟨Or.inl ⟨by rfl, ?_⟩, fun _ => rfl⟩ hHeld ?_
          rotate_left
          · (intro w hSw; (try dsimp only at hSw); go_simp) <;> with_reducible rfl
          (try simp only [Act.put, List.setIfInBounds_toArray, List.set_cons_zero, List.set_cons_succ, List.getElem_toArray, List.getElem_cons_zero, List.getElem_cons_succ])
          refine wpAnyInH_take (i := 19) (v := ?_) rfl (by kernel_rfl) (by kernel_rfl) (by kernel_rfl) (fun _ _ _ h => h) ⟨Or.inl ⟨by rfl, ?_⟩, fun _ => rfl⟩ hHeld ?_
          rotate_left
          · (intro w hSw; (try dsimp only at hSw); go_simp) <;> with_reducible rfl
          (try simp only [Act.put, List.setIfInBounds_toArray, List.set_cons_zero, List.set_cons_succ, List.getElem_toArray, List.getElem_cons_zero, List.getElem_cons_succ])
          refine wpAnyInH_take (i := 20) (v := ?_) rfl (by kernel_rfl) (by kernel_rfl) (by kernel_rfl) (fun _ _ _ h => h) ⟨Or.inl ⟨by rfl, ?_⟩, fun _ => rfl⟩ hHeld ?_
          rotate_left
          · (intro w hSw; (try dsimp only at hSw); go_simp) <;> with_reducible rfl
          (try simp only [Act.put, List.setIfInBounds_toArray, List.set_cons_zero, List.set_cons_succ, List.getElem_toArray, List.getElem_cons_zero, List.getElem_cons_succ])
          refine wpAnyInH_take (i := 21) (v := ?_) rfl (by kernel_rfl) (by kernel_rfl) (by kernel_rfl) (fun _ _ _ h => h) ⟨Or.inl ⟨by rfl, ?_⟩, fun _ => rfl⟩ hHeld ?_
          rotate_left
          · (intro w hSw; (try dsimp only at hSw); go_simp) <;> with_reducible rfl
          (try simp only [Act.put, List.setIfInBounds_toArray, List.set_cons_zero, List.set_cons_succ, List.getElem_toArray, List.getElem_cons_zero, List.getElem_cons_succ])
          refine wpAnyInH_take (i := 22) (v := ?_) rfl (by kernel_rfl) (by kernel_rfl) (by kernel_rfl) (fun _ _ _ h => h) ⟨Or.inl ⟨by rfl, ?_⟩, fun _ => rfl⟩ hHeld ?_
          rotate_left
          · (intro w hSw; (try dsimp only at hSw); go_simp) <;> with_reducible rfl
          (try simp only [Act.put, List.setIfInBounds_toArray, List.set_cons_zero, List.set_cons_succ, List.getElem_toArray, List.getElem_cons_zero, List.getElem_cons_succ])
          refine wpAnyInH_ready (rs := [23]) (by kernel_rfl) (by simp) ?_
          refine AllReadyInH.cons rfl (fun K hK => ?_) AllReadyInH.nil
          go_simp
          refine HR.out.mono ?_
          rintro e w6 ⟨bb, rfl, hc6, hj6, hx6⟩
          have hS6 : w6.cell? ⟨b, 1, none⟩ = some (.slice (some ⟨gk, ok, none⟩) nd.keys.length ck) ∧ w6.cell? ⟨b, 2, none⟩ = some (.slice (some ⟨gv, ov, none⟩) nd.vals.length cv) ∧ w6.cell? ⟨gk, ok + i, none⟩ = some (.int .i64 a) ∧ w6.cell? ⟨gv, ov + i, none⟩ = some (.int .i64 v) := by
            obtain ⟨l1, l2, l3, g1, g2, g3⟩ := HLt.out
            exact ⟨(hc6.cell (p := ⟨b, 1, none⟩) l1 (fun e => Nat.lt_irrefl _ (Nat.lt_of_lt_of_le e g1))).trans hS.1, (hc6.cell (p := ⟨b, 2, none⟩) l1 (fun e => Nat.lt_irrefl _ (Nat.lt_of_lt_of_le e g1))).trans hS.2.1, (hc6.cell (p := ⟨gk, ok + i, none⟩) l2 (fun e => Nat.lt_irrefl _ (Nat.lt_of_lt_of_le e g2))).trans hS.2.2.1, (hc6.cell (p := ⟨gv, ov + i, none⟩) l3 (fun e => Nat.lt_irrefl _ (Nat.lt_of_lt_of_le e g3))).trans hS.2.2.2⟩
          have H6 := Lib.hid (And.intro hc6 (And.intro hj6 hx6))
          clear hc6 hj6 hx6
          refine hK _ _ hS6 ?_
          clear hK K
          (try simp only [Act.put, List.setIfInBounds_toArray, List.set_cons_zero, List.set_cons_succ, List.getElem_toArray, List.getElem_cons_zero, List.getElem_cons_succ])
          refine wpAnyInH_take (i := 24) (v := ?_) rfl (by kernel_rfl) (by kernel_rfl) (by kernel_rfl) (fun _ _ _ h => h) ⟨Or.inl ⟨by rfl, ?_⟩, fun _ => rfl⟩ hS6 ?_
          rotate_left
          · (intro w hSw; (try dsimp only at hSw); go_simp) <;> with_reducible rfl
          (try simp only [Act.put, List.setIfInBounds_toArray, List.set_cons_zero, List.set_cons_succ, List.getElem_toArray, List.getElem_cons_zero, List.getElem_cons_succ])
          refine wpAnyInH_take (i := 25) (v := ?_) rfl (by kernel_rfl) (by kernel_rfl) (by kernel_rfl) (fun _ _ _ h => h) ⟨Or.inl ⟨by rfl, ?_⟩, fun _ => rfl⟩ hS6 ?_
          rotate_left
          · (intro w hSw; (try dsimp only at hSw); go_simp) <;> with_reducible rfl
          (try simp only [Act.put, List.setIfInBounds_toArray, List.set_cons_zero, List.set_cons_succ, List.getElem_toArray, List.getElem_cons_zero, List.getElem_cons_succ])
          refine wpAnyInH_done (by kernel_rfl) ?_ _
          clear hHeld hS hS6
          cases bb with
          | true =>
            gi_wp2_with fail
            gi_roundg (nd.keys.length + 1 - (i + 1))
            case measure => omega
            case rel => 
              have h := HJ.out
              obtain ⟨hrest2, hgl, hT, hs2⟩ := HG.out
              obtain ⟨hc6, hj6, -⟩ := H6.out
              replace hc6 := Grew.then ((Chg.refl NoF wr).drew) hc6
              have hlb := Hst.out.2.1
              exact ⟨i + 1, L2, P', k' + 1, m', rfl, by omega, by omega, by simp, hj6 (by simp), hrest2, by have := h.cnt; rw [hgl, List.length_cons] at this; omega, hT, (h.left.chg hc6 (fun e => Nat.lt_irrefl _ (Nat.lt_of_lt_of_le e hlb)) : Blk w6 lb 3 #[.int .i64 m']), h.pl, h.ml, h.mm, hs2, h.own.chg hc6 (fun j hj e => Nat.lt_irrefl _ (Nat.lt_of_lt_of_le e (h.nb j hj).1)), h.nb, Chg.trans h.chg hc6 fun j _ e => .inl e⟩
          | false =>
            gi_wp2_with fail
            go_ret
            exact ⟨Chg.trans HJ.out.chg ((Grew.then ((Chg.refl NoF wr).drew) H6.out.1).mono fun j _ e => Or.inl e) fun j _ e => e, .inr ⟨rfl, H6.out.2.2 (by simp)⟩⟩
        · obtain rfl : i = nd.keys.length := by omega
          obtain ⟨hL0, hrest2⟩ := HJ.out.rest.leaf_end HB.out.2.2.2.2.2
          have t3 : decide ((nd.keys.length : Int) < (nd.keys.length : Int)) = false := decide_eq_false (by omega)
          have t3' : decide (nd.keys.length < nd.keys.length) = false := decide_eq_false (by omega)
          have HG := Lib.hid (And.intro hL0 hrest2)
          have hSq : wr.drew.cell? ⟨b, 1, none⟩ = some (.slice Ak nd.keys.length ck) := c0 1
          have HSq := Lib.hid hSq
          clear hL0 hrest2 hSq
          gi_wp2_with (refine ⟨trivial, ?_⟩; gi_at_call 41; refine (callsIn_wide.2 HB.out.1).mono ?_; rintro e w5 ⟨rfl, rfl⟩)
          refine ⟨trivial, ?_⟩
          gi_wp2_with fail
          have hSq := HSq.out
          refine wpIn_region_inH (S := fun w' => w'.cell? ⟨b, 1, none⟩ = some (.slice Ak nd.keys.length ck)) (by kernel_rfl) hSq (fun hHeld => ?_)
          refine wpAnyInH_take (i := 0) (v := ?_) rfl (by kernel_rfl) (by kernel_rfl) (by kernel_rfl) (fun _ _ _ h => h) ⟨Or.inl ⟨by rfl, ?_⟩, fun _ => rfl⟩ hHeld ?_
          rotate_left
          · (intro w hSw; (try dsimp only at hSw); go_simp) <;> with_reducible rfl
          (try simp only [Act.put, List.setIfInBounds_toArray, List.set_cons_zero, List.set_cons_succ, List.getElem_toArray, List.getElem_cons_zero, List.getElem_cons_succ])
          refine wpAnyInH_take (i := 1) (v := ?_) rfl (by kernel_rfl) (by kernel_rfl) (by kernel_rfl) (fun _ _ _ h => h) ⟨Or.inl ⟨by rfl, ?_⟩, fun _ => rfl⟩ hHeld ?_
          rotate_left
          · (intro w hSw; (try dsimp only at hSw); go_simp) <;> with_reducible rfl
          (try simp only [Act.put, List.setIfInBounds_toArray, List.set_cons_zero, List.set_cons_succ, List.getElem_toArray, List.getElem_cons_zero, List.getElem_cons_succ])
          refine wpAnyInH_take (i := 2) (v := ?_) rfl (by kernel_rfl) (by kernel_rfl) (by kernel_rfl) (fun _ _ _ h => h) ⟨Or.inl ⟨by rfl, ?_⟩, fun _ => rfl⟩ hHeld ?_
          rotate_left
          · (intro w hSw; (try dsimp only at hSw); go_simp) <;> with_reducible rfl
          (try simp only [Act.put, List.setIfInBounds_toArray, List.set_cons_zero, List.set_cons_succ, List.getElem_toArray, List.getElem_cons_zero, List.getElem_cons_succ])
          refine wpAnyInH_take (i := 3) (v := ?_) rfl (by kernel_rfl) (by kernel_rfl) (by kernel_rfl) (fun _ _ _ h => h) ⟨Or.inl ⟨by rfl, ?_⟩, fun _ => rfl⟩ hHeld ?_
          rotate_left
          · (intro w hSw; (try dsimp only at hSw); go_simp) <;> with_reducible rfl
          (try simp only [Act.put, List.setIfInBounds_toArray, List.set_cons_zero, List.set_cons_succ, List.getElem_toArray, List.getElem_cons_zero, List.getElem_cons_succ])
          refine wpAnyInH_take (i := 4) (v := ?_) rfl (by kernel_rfl) (by kernel_rfl) (by kernel_rfl) (fun _ _ _ h => h) ⟨Or.inl ⟨by rfl, ?_⟩, fun _ => rfl⟩ hHeld ?_
          rotate_left
          · (intro w hSw; (try dsimp only at hSw); go_simp) <;> with_reducible rfl
          (try simp only [Act.put, List.setIfInBounds_toArray, List.set_cons_zero, List.set_cons_succ, List.getElem_toArray, List.getElem_cons_zero, List.getElem_cons_succ])
          refine wpAnyInH_take (i := 5) (v := ?_) rfl (by kernel_rfl) (by kernel_rfl) (by kernel_rfl) (fun _ _ _ h => h) ⟨Or.inl ⟨by rfl, ?_⟩, fun _ => rfl⟩ hHeld ?_
          rotate_left
          · (intro w hSw; (try dsimp only at hSw); go_simp) <;> with_reducible rfl
          (try simp only [Act.put, List.setIfInBounds_toArray, List.set_cons_zero, List.set_cons_succ, List.getElem_toArray, List.getElem_cons_zero, List.getElem_cons_succ])
          refine wpAnyInH_take (i := 6) (v := ?_) rfl (by kernel_rfl) (by kernel_rfl) (by kernel_rfl) (fun _ _ _ h => h) ⟨Or.inl ⟨by rfl, ?_⟩, fun _ => rfl⟩ hHeld ?_
          rotate_left
          · (intro w hSw; (try dsimp only at hSw); go_simp) <;> with_reducible rfl
          (try simp only [Act.put, List.setIfInBounds_toArray, List.set_cons_zero, List.set_cons_succ, List.getElem_toArray, List.getElem_cons_zero, List.getElem_cons_succ])
          refine wpAnyInH_take (i := 7) (v := ?_) rfl (by kernel_rfl) (by kernel_rfl) (by kernel_rfl) (fun _ _ _ h => h) ⟨Or.inl ⟨by rfl, ?_⟩, fun _ => rfl⟩ hHeld ?_
          rotate_left
          · (intro w hSw; (try dsimp only at hSw); go_simp) <;> with_reducible rfl
          (try simp only [Act.put, List.setIfInBounds_toArray, List.set_cons_zero, List.set_cons_succ, List.getElem_toArray, List.getElem_cons_zero, List.getElem_cons_succ])
          refine wpAnyInH_take (i := 8) (v := undef) rfl (by kernel_rfl) (by kernel_rfl) (by kernel_rfl) (fun _ _ _ h => h) ⟨Or.inr ⟨by rfl, rfl⟩, fun _ => rfl⟩ hHeld ?_
          (try simp only [Act.put, List.setIfInBounds_toArray, List.set_cons_zero, List.set_cons_succ, List.getElem_toArray, List.getElem_cons_zero, List.getElem_cons_succ])
          refine wpAnyInH_take (i := 9) (v := undef) rfl (by kernel_rfl) (by kernel_rfl) (by kernel_rfl) (fun _ _ _ h => h) ⟨Or.inr ⟨by rfl, rfl⟩, fun _ => rfl⟩ hHeld ?_
          (try simp only [Act.put, List.setIfInBounds_toArray, List.set_cons_zero, List.set_cons_succ, List.getElem_toArray, List.getElem_cons_zero, List.getElem_cons_succ])
          refine wpAnyInH_take (i := 10) (v := undef) rfl (by kernel_rfl) (by kernel_rfl) (by kernel_rfl) (fun _ _ _ h => h) ⟨Or.inr ⟨by rfl, rfl⟩, fun _ => rfl⟩ hHeld ?_
          (try simp only [Act.put, List.setIfInBounds_toArray, List.set_cons_zero, List.set_cons_succ, List.getElem_toArray, List.getElem_cons_zero, List.getElem_cons_succ])
          refine wpAnyInH_take (i := 11) (v := undef) rfl (by kernel_rfl) (by kernel_rfl) (by kernel_rfl) (fun _ _ _ h => h) ⟨Or.inr ⟨by rfl, rfl⟩, fun _ => rfl⟩ hHeld ?_
          (try simp only [Act.put, List.setIfInBounds_toArray, List.set_cons_zero, List.set_cons_succ, List.getElem_toArray, List.getElem_cons_zero, List.getElem_cons_succ])
          refine wpAnyInH_take (i := 12) (v := undef) rfl (by kernel_rfl) (by kernel_rfl) (by kernel_rfl) (fun _ _ _ h => h) ⟨Or.inr ⟨by rfl, rfl⟩, fun _ => rfl⟩ hHeld ?_
          (try simp only [Act.put, List.setIfInBounds_toArray, List.set_cons_zero, List.set_cons_succ, List.getElem_toArray, List.getElem_cons_zero, List.getElem_cons_succ])
          refine wpAnyInH_take (i := 13) (v := undef) rfl (by kernel_rfl) (by kernel_rfl) (by kernel_rfl) (fun _ _ _ h => h) ⟨Or.inr ⟨by rfl, rfl⟩, fun _ => rfl⟩ hHeld ?_
          (try simp only [Act.put, List.setIfInBounds_toArray, List.set_cons_zero, List.set_cons_succ, List.getElem_toArray, List.getElem_cons_zero, List.getElem_cons_succ])
          refine wpAnyInH_take (i := 14) (v := undef) rfl (by kernel_rfl) (by kernel_rfl) (by kernel_rfl) (fun _ _ _ h => h) ⟨Or.inr ⟨by rfl, rfl⟩, fun _ => rfl⟩ hHeld ?_
          (try simp only [Act.put, List.setIfInBounds_toArray, List.set_cons_zero, List.set_cons_succ, List.getElem_toArray, List.getElem_cons_zero, List.getElem_cons_succ])
          refine wpAnyInH_take (i := 15) (v := undef) rfl (by kernel_rfl) (by kernel_rfl) (by kernel_rfl) (fun _ _ _ h => h) ⟨Or.inr ⟨by rfl, rfl⟩, fun _ => rfl⟩ hHeld ?_
          (try simp only [Act.put, List.setIfInBounds_toArray, List.set_cons_zero, List.set_cons_succ, List.getElem_toArray, List.getElem_cons_zero, List.getElem_cons_succ])
          refine wpAnyInH_take (i := 16) (v := undef) rfl (by kernel_rfl) (by kernel_rfl) (by kernel_rfl) (fun _ _ _ h => h) ⟨Or.inr ⟨by rfl, rfl⟩, fun _ => rfl⟩ hHeld ?_
          (try simp only [Act.put, List.setIfInBounds_toArray, List.set_cons_zero, List.set_cons_succ, List.getElem_toArray, List.getElem_cons_zero, List.getElem_cons_succ])
          refine wpAnyInH_take (i := 17) (v := undef) rfl (by kernel_rfl) (by kernel_rfl) (by kernel_rfl) (fun _ _ _ h => h) ⟨Or.inr ⟨by rfl, rfl⟩, fun _ => rfl⟩ hHeld ?_
          (try simp only [Act.put, List.setIfInBounds_toArray, List.set_cons_zero, List.set_cons_succ, List.getElem_toArray, List.getElem_cons_zero, List.getElem_cons_succ])
          refine wpAnyInH_take (i := 18) (v := undef) rfl (by kernel_rfl) (by kernel_rfl) (by kernel_rfl) (fun _ _ _ h => h) ⟨Or.inr ⟨by rfl, rfl⟩, fun _ => rfl⟩ hHeld ?_
          (try simp only [Act.put, List.setIfInBounds_toArray, List.set_cons_zero, List.set_cons_succ, List.getElem_toArray, List.getElem_cons_zero, List.getElem_cons_succ])
          refine wpAnyInH_take (i := 19) (v := undef) rfl (by kernel_rfl) (by kernel_rfl) (by kernel_rfl) (fun _ _ _ h => h) ⟨Or.inr ⟨by rfl, rfl⟩, fun _ => rfl⟩ hHeld ?_
          (try simp only [Act.put, List.setIfInBounds_toArray, List.set_cons_zero, List.set_cons_succ, List.getElem_toArray, List.getElem_cons_zero, List.getElem_cons_succ])
          refine wpAnyInH_take (i := 20) (v := undef) rfl (by kernel_rfl) (by kernel_rfl) (by kernel_rfl) (fun _ _ _ h => h) ⟨Or.inr ⟨by rfl, rfl⟩, fun _ => rfl⟩ hHeld ?_
          (try simp only [Act.put, List.setIfInBounds_toArray, List.set_cons_zero, List.set_cons_succ, List.getElem_toArray, List.getElem_cons_zero, List.getElem_cons_succ])
          refine wpAnyInH_take (i := 21) (v := undef) rfl (by kernel_rfl) (by kernel_rfl) (by kernel_rfl) (fun _ _ _ h => h) ⟨Or.inr ⟨by rfl, rfl⟩, fun _ => rfl⟩ hHeld ?_
          (try simp only [Act.put, List.setIfInBounds_toArray, List.set_cons_zero, List.set_cons_succ, List.getElem_toArray, List.getElem_cons_zero, List.getElem_cons_succ])
          refine wpAnyInH_take (i := 22) (v := undef) rfl (by kernel_rfl) (by kernel_rfl) (by kernel_rfl) (fun _ _ _ h => h) ⟨Or.inr ⟨by rfl, rfl⟩, fun _ => rfl⟩ hHeld ?_
          (try simp only [Act.put, List.setIfInBounds_toArray, List.set_cons_zero, List.set_cons_succ, List.getElem_toArray, List.getElem_cons_zero, List.getElem_cons_succ])
          refine wpAnyInH_ready (rs := [23]) (by kernel_rfl) (by simp) ?_
          refine AllReadyInH.cons rfl (fun K hK => ?_) AllReadyInH.nil
          go_simp
          refine ⟨fun _ h => (by cases h), ?_⟩
          refine hK _ _ hHeld ?_
          clear hK K
          (try simp only [Act.put, List.setIfInBounds_toArray, List.set_cons_zero, List.set_cons_succ, List.getElem_toArray, List.getElem_cons_zero, List.getElem_cons_succ])
          refine wpAnyInH_take (i := 24) (v := undef) rfl (by kernel_rfl) (by kernel_rfl) (by kernel_rfl) (fun _ _ _ h => h) ⟨Or.inr ⟨by rfl, rfl⟩, fun _ => rfl⟩ hHeld ?_
          (try simp only [Act.put, List.setIfInBounds_toArray, List.set_cons_zero, List.set_cons_succ, List.getElem_toArray, List.getElem_cons_zero, List.getElem_cons_succ])
          refine wpAnyInH_take (i := 25) (v := ?_) rfl (by kernel_rfl) (by kernel_rfl) (by kernel_rfl) (fun _ _ _ h => h) ⟨Or.inl ⟨by rfl, ?_⟩, fun _ => rfl⟩ hHeld ?_
          rotate_left
          · (intro w hSw; (try dsimp only at hSw); go_simp) <;> with_reducible rfl
          (try simp only [Act.put, List.setIfInBounds_toArray, List.set_cons_zero, List.set_cons_succ, List.getElem_toArray, List.getElem_cons_zero, List.getElem_cons_succ])
          refine wpAnyInH_done (by kernel_rfl) ?_ _
          clear hHeld hSq
          gi_wp2_with fail
          gi_roundg (nd.keys.length + 1 - (nd.keys.length + 1))
          case measure => omega
          case rel =>
            have h := HJ.out
            obtain ⟨rfl, hrest2⟩ := HG.out
            have hgd : Grew wr wr.drew := (Chg.refl NoF wr).drew
            exact ⟨nd.keys.length + 1, [], [], k', m', rfl, by omega, by omega, by simp, Hst.out.2.2.2.2.1 k' wr _ h.j hgd.chg ((Hst.out.2.2.2.1 k' wr h.j).grew hgd), hrest2, h.cnt, h.told, h.left.grew hgd, Nat.zero_le _, by have := h.ml; simp only [List.length_nil]; omega, h.mm, List.Pairwise.nil, h.own.grew hgd, h.nb, h.chg.grew hgd⟩
      · have t2 : decide (nd.kids.length = 0) = false := decide_eq_false h0
        have t2' : decide (nd.kids = []) = false := decide_eq_false fun e => h0 (by rw [e]; rfl)
        obtain ⟨d', rfl⟩ : ∃ d', d = d' + 1 := ⟨d - 1, by
          obtain ⟨nd', g1, -, -, g2⟩ := H.out.1.node
          rw [H.out.2.2.2.2.2.1] at g1
          cases g1
          have hd0 : d ≠ 0 := fun e => h0 (g2.2 e)
          omega⟩
        have hcl : nd.kids.length = nd.keys.length + 1 := H.out.2.2.2.2.2.2.1.1.kids.resolve_left h0
        by_cases hlt : i < nd.keys.length
        · obtain ⟨c, M1, Q, a, v, L2, P2, hci, hTc, ha, hv, hmem, hL2, hP2, hrest2⟩ := HJ.out.rest.inner HB.out.2.2.2.2.2 hcl hlt
          have hfa : from_ ≤ a := H2.out.2.2.1 (a, v) (List.mem_of_mem_drop (i := i - ii) (by rw [List.drop_drop, show ii + (i - ii) = i by omega]; exact hmem))
          have hgl : geL L' from_ = geL M1 from_ ++ (a, v) :: geL L2 from_ := by rw [hL2, geL_app, geL_cons hfa]
          obtain ⟨T, hT⟩ := HJ.out.told
          rw [hgl] at hT
          have hT1 : G.drop k' = geL M1 from_ ++ ((a, v) :: geL L2 from_ ++ T) := by rw [hT]; simp
          have hT2 := drop_app hT1
          obtain ⟨hG1, hG2⟩ := drop_cons' hT2
          have hsM : Srt M1 := HJ.out.srt.sub (by rw [hL2]; exact List.sublist_append_left _ _)
          have hs2 : Srt L2 := HJ.out.srt.sub (by rw [hL2]; exact (List.sublist_cons_self _ _).trans (List.sublist_append_right _ _))
          have hrec := IH.out d' (by omega) c M1 Q k' m' wr hTc.1 hsM HJ.out.j (by have := HJ.out.chg.size; have := H.out.2.2.2.2.1; omega) HJ.out.left (by have := HJ.out.pl; rw [hP2, List.length_append] at this; omega) (by have := HJ.out.mm; omega) ⟨_, hT1⟩
          obtain ⟨gc, oc, rfl, hgcl, hxc⟩ := HB.out.2.2.2.2.1.2 (by omega)
          have hcc : wr.cell? ⟨gc, oc + i, none⟩ = some (.int .i64 c) := hxc i _ (by simp [nv, hci])
          have hil : i < nd.kids.length := by omega
          have HG := Lib.hid (And.intro hrest2 (And.intro hgl (And.intro (show ∃ T, G.drop (k' + (geL M1 from_).length + 1) = geL L2 from_ ++ T from ⟨T, hG2⟩) (And.intro hs2 (And.intro hP2 (And.intro hG1 (And.intro hrec (And.intro ha hv))))))))
          have HCl := Lib.hid hcl
          clear hrest2 hgl hG1 hG2 hT hT1 hT2 hs2 hsM hrec hmem hci hTc ha hv hfa hxc hgcl hL2 hP2 hcl h0
          gi_wp2_with (refine ⟨trivial, ?_⟩; gi_at_call 41; refine (callsIn_wide.2 HB.out.1).mono ?_; rintro e w5 ⟨rfl, rfl⟩)
          refine ⟨trivial, (callsIn_wide.2 HG.out.2.2.2.2.2.2.1).mono ?_⟩
          clear c0 f0 s0 hcc
          rintro e w5 ⟨hc5, (⟨rfl, hj5, m2, hl5, hm5, hm5'⟩ | ⟨rfl, hx5⟩)⟩
          rotate_left
          · have HX := Lib.hid (And.intro hc5 hx5)
            clear hc5 hx5
            gi_wp2_with fail
            go_ret
            exact ⟨Chg.trans HJ.out.chg HX.out.1 fun j _ e => e, .inr ⟨rfl, HX.out.2⟩⟩
          have hN5 : ∀ j, N j → ¬ (j < base ∨ j = lb) := fun j hj e => by have := HJ.out.nb j hj; omega
          have hn5 := HJ.out.own.chg hc5 hN5
          obtain ⟨gk, ok, rfl, hgkl, hxk⟩ := HB.out.2.2.1.2 (by omega)
          obtain ⟨gv, ov, rfl, hgvl, hxv⟩ := HB.out.2.2.2.1.2 (by have := HB.out.2.2.2.2.2; omega)
          have hck : w5.drew.cell? ⟨gk, ok + i, none⟩ = some (.int .i64 a) := (hc5.cell (p := ⟨gk, ok + i, none⟩) hgkl (hN5 _ (HNb.out.2.1 ⟨gk, ok, none⟩ rfl))).trans (hxk i _ (by simp [iv, HG.out.2.2.2.2.2.2.2.1]))
          have hcv : w5.drew.cell? ⟨gv, ov + i, none⟩ = some (.int .i64 v) := (hc5.cell (p := ⟨gv, ov + i, none⟩) hgvl (hN5 _ (HNb.out.2.2.1 ⟨gv, ov, none⟩ rfl))).trans (hxv i _ (by simp [iv, HG.out.2.2.2.2.2.2.2.2]))
          have hlv : i < nd.vals.length := (List.getElem?_eq_some_iff.1 HG.out.2.2.2.2.2.2.2.2).1
          have hb5 := HB.out.2.1.chg hc5 (hN5 _ HNb.out.1)
          have hbt5 := Hst.out.2.2.2.1 _ w5 hj5
          have hjd : J (k' + (geL M1 from_).length) w5.drew := Hst.out.2.2.2.2.1 _ w5 w5.drew hj5 ((Chg.refl _ _).drew) (hbt5.grew ((Chg.refl NoF w5).drew))
          obtain ⟨fn, tmps, assign, body, hy, hR⟩ := (Hst.out.2.2.2.2.2 _ a v w5.drew hjd HG.out.2.2.2.2.2.1)
          have hR2 := RoundIn.mono hR fun e W' h => (yld_of h : Yld w5.drew W' base (k' + (geL M1 from_).length) J Jx e)
          have HR := Lib.hid hR2
          have t3 : decide ((i : Int) < (nd.keys.length : Int)) = true := decide_eq_true (by omega)
          have t3' : decide (i < nd.keys.length) = true := decide_eq_true hlt
          have HSr := Lib.hid (show w5.drew.cell? ⟨b, 1, none⟩ = some (.slice (some ⟨gk, ok, none⟩) nd.keys.length ck) ∧ w5.drew.cell? ⟨b, 2, none⟩ = some (.slice (some ⟨gv, ov, none⟩) nd.vals.length cv) ∧ w5.drew.cell? ⟨gk, ok + i, none⟩ = some (.int .i64 a) ∧ w5.drew.cell? ⟨gv, ov + i, none⟩ = some (.int .i64 v) from ⟨hb5.drew.cell 1, hb5.drew.cell 2, hck, hcv⟩)
          have hsz5 := hc5.size
          have HLt := Lib.hid (show b < w5.drew.heap.size ∧ gk < w5.drew.heap.size ∧ gv < w5.drew.heap.size ∧ base ≤ b ∧ base ≤ gk ∧ base ≤ gv from ⟨hb5.lt, Nat.lt_of_lt_of_le hgkl hsz5, Nat.lt_of_lt_of_le hgvl hsz5, (HJ.out.nb _ HNb.out.1).1, (HJ.out.nb _ (HNb.out.2.1 _ rfl)).1, (HJ.out.nb _ (HNb.out.2.2.1 _ rfl)).1⟩)
          have H5 := Lib.hid (And.intro hc5 (And.intro hl5 (And.intro hm5 (And.intro hm5' hn5))))
          clear hR hR2 hjd hxk hxv hgkl hgvl hck hcv hb5 hbt5 hsz5 hc5 hl5 hm5 hm5' hn5 hN5 hj5
          gi_wp2_with fail
          have hS : w5.drew.cell? ⟨b, 1, none⟩ = some (.slice (some ⟨gk, ok, none⟩) nd.keys.length ck) ∧ w5.drew.cell? ⟨b, 2, none⟩ = some (.slice (some ⟨gv, ov, none⟩) nd.vals.length cv) ∧ w5.drew.cell? ⟨gk, ok + i, none⟩ = some (.int .i64 a) ∧ w5.drew.cell? ⟨gv, ov + i, none⟩ = some (.int .i64 v) := HSr.out
          refine wpIn_region_inH (S := fun w' => w'.cell? ⟨b, 1, none⟩ = some (.slice (some ⟨gk, ok, none⟩) nd.keys.length ck) ∧ w'.cell? ⟨b, 2, none⟩ = some (.slice (some ⟨gv, ov, none⟩) nd.vals.length cv) ∧ w'.cell? ⟨gk, ok + i, none⟩ = some (.int .i64 a) ∧ w'.cell? ⟨gv, ov + i, none⟩ = some (.int .i64 v)) (by kernel_rfl) hS (fun hHeld => ?_)
          refine wpAnyInH_take (i := 0) (v := ?_) rfl (by kernel_rfl) (by kernel_rfl) (by kernel_rfl) (fun _ _ _ h => h) ⟨Or.inl ⟨by rfl, ?_⟩, fun _ => rfl⟩ hHeld ?_
          rotate_left
          · (intro w hSw; (try dsimp only at hSw); go_simp) <;> with_reducible rfl
          (try simp only [Act.put, List.setIfInBounds_toArray, List.set_cons_zero, List.set_cons_succ, List.getElem_toArray, List.getElem_cons_zero, List.getElem_cons_succ])
          refine wpAnyInH_take (i := 1) (v := ?_) rfl (by kernel_rfl) (by kernel_rfl) (by kernel_rfl) (fun _ _ _ h => h) ⟨Or.inl ⟨by rfl, ?_⟩, fun _ => rfl⟩ hHeld ?_
          rotate_left
          · (intro w hSw; (try dsimp only at hSw); go_simp) <;> with_reducible rfl
          (try simp only [Act.put, List.setIfInBounds_toArray, List.set_cons_zero, List.set_cons_succ, List.getElem_toArray, List.getElem_cons_zero, List.getElem_cons_succ])
          refine wpAnyInH_take (i := 2) (v := ?_) rfl (by kernel_rfl) (by kernel_rfl) (by kernel_rfl) (fun _ _ _ h => h) ⟨Or.inl ⟨by rfl, ?_⟩, fun _ => rfl⟩ hHeld ?_
          rotate_left
          · (intro w hSw; (try dsimp only at hSw); go_simp) <;> with_reducible rfl
          (try simp only [Act.put, List.setIfInBounds_toArray, List.set_cons_zero, List.set_cons_succ, List.getElem_toArray, List.getElem_cons_zero, List.getElem_cons_succ])
          refine wpAnyInH_take (i := 3) (v := ?_) rfl (by kernel_rfl) (by kernel_rfl) (by kernel_rfl) (fun _ _ _ h => h) ⟨Or.inl ⟨by rfl, ?_⟩, fun _ => rfl⟩ hHeld ?_
          rotate_left
          · (intro w hSw; (try dsimp only at hSw); go_simp) <;> with_reducible rfl
          (try simp only [Act.put, List.setIfInBounds_toArray, List.set_cons_zero, List.set_cons_succ, List.getElem_toArray, List.getElem_cons_zero, List.getElem_cons_succ])
          refine wpAnyInH_take (i := 4) (v := ?_) rfl (by kernel_rfl) (by kernel_rfl) (by kernel_rfl) (fun _ _ _ h => h) ⟨Or.inl ⟨by rfl, ?_⟩, fun _ => rfl⟩ hHeld ?_
          rotate_left
          · (intro w hSw; (try dsimp only at hSw); go_simp) <;> with_reducible rfl
          (try simp only [Act.put, List.setIfInBounds_toArray, List.set_cons_zero, List.set_cons_succ, List.getElem_toArray, List.getElem_cons_zero, List.getElem_cons_succ])
          refine wpAnyInH_take (i := 5) (v := ?_) rfl (by kernel_rfl) (by kernel_rfl) (by kernel_rfl) (fun _ _ _ h => h) ⟨Or.inl ⟨by rfl, ?_⟩, fun _ => rfl⟩ hHeld ?_
          rotate_left
          · (intro w hSw; (try dsimp only at hSw); go_simp) <;> with_reducible rfl
          (try simp only [Act.put, List.setIfInBounds_toArray, List.set_cons_zero, List.set_cons_succ, List.getElem_toArray, List.getElem_cons_zero, List.getElem_cons_succ])
          refine wpAnyInH_take (i := 6) (v := ?_) rfl (by kernel_rfl) (by kernel_rfl) (by kernel_rfl) (fun _ _ _ h => h) ⟨Or.inl ⟨by rfl, ?_⟩, fun _ => rfl⟩ hHeld ?_
          rotate_left
          · (intro w hSw; (try dsimp only at hSw); go_simp) <;> with_reducible rfl
          (try simp only [Act.put, List.setIfInBounds_toArray, List.set_cons_zero, List.set_cons_succ, List.getElem_toArray, List.getElem_cons_zero, List.getElem_cons_succ])
          refine wpAnyInH_take (i := 7) (v := ?_) rfl (by kernel_rfl) (by kernel_rfl) (by kernel_rfl) (fun _ _ _ h => h) ⟨Or.inl ⟨by rfl, ?_⟩, fun _ => rfl⟩ hHeld ?_
          rotate_left
          · (intro w hSw; (try dsimp only at hSw); go_simp) <;> with_reducible rfl
          (try simp only [Act.put, List.setIfInBounds_toArray, List.set_cons_zero, List.set_cons_succ, List.getElem_toArray, List.getElem_cons_zero, List.getElem_cons_succ])
          refine wpAnyInH_take (i := 8) (v := ?_) rfl (by kernel_rfl) (by kernel_rfl) (by kernel_rfl) (fun _ _ _ h => h) ⟨Or.inl ⟨by rfl, ?_⟩, fun _ => rfl⟩ hHeld ?_
          rotate_left
          · (intro w hSw; (try dsimp only at hSw); go_simp) <;> with_reducible rfl
          (try simp only [Act.put, List.setIfInBounds_toArray, List.set_cons_zero, List.set_cons_succ, List.getElem_toArray, List.getElem_cons_zero, List.getElem_cons_succ])
          refine wpAnyInH_take (i := 9) (v := ?_) rfl (by kernel_rfl) (by kernel_rfl) (by kernel_rfl) (fun _ _ _ h => h) ⟨Or.inl ⟨by rfl, ?_⟩, fun _ => rfl⟩ hHeld ?_
          rotate_left
          · (intro w hSw; (try dsimp only at hSw); go_simp) <;> with_reducible rfl
          (try simp only [Act.put, List.setIfInBounds_toArray, List.set_cons_zero, List.set_cons_succ, List.getElem_toArray, List.getElem_cons_zero, List.getElem_cons_succ])
          refine wpAnyInH_take (i := 10) (v := ?_) rfl (by kernel_rfl) (by kernel_rfl) (by kernel_rfl) (fun _ _ _ h => h) ⟨Or.inl ⟨by rfl, ?_⟩, fun _ => rfl⟩ hHeld ?_
          rotate_left
          · (intro w hSw; (try dsimp only at hSw); go_simp) <;> with_reducible rfl
          (try simp only [Act.put, List.setIfInBounds_toArray, List.set_cons_zero, List.set_cons_succ, List.getElem_toArray, List.getElem_cons_zero, List.getElem_cons_succ])
          refine wpAnyInH_take (i := 11) (v := ?_) rfl (by kernel_rfl) (by kernel_rfl) (by kernel_rfl) (fun _ _ _ h => h) ⟨Or.inl ⟨by rfl, ?_⟩, fun _ => rfl⟩ hHeld ?_
          rotate_left
          · (intro w hSw; (try dsimp only at hSw); go_simp) <;> with_reducible rfl
          (try simp only [Act.put, List.setIfInBounds_toArray, List.set_cons_zero, List.set_cons_succ, List.getElem_toArray, List.getElem_cons_zero, List.getElem_cons_succ])
          refine wpAnyInH_take (i := 12) (v := ?_) rfl (by kernel_rfl) (by kernel_rfl) (by kernel_rfl) (fun _ _ _ h => h) ⟨Or.inl ⟨by rfl, ?_⟩, fun _ => rfl⟩ hHeld ?_
          rotate_left
          · (intro w hSw; (try dsimp only at hSw); go_simp) <;> with_reducible rfl
          (try simp only [Act.put, List.setIfInBounds_toArray, List.set_cons_zero, List.set_cons_succ, List.getElem_toArray, List.getElem_cons_zero, List.getElem_cons_succ])
          refine wpAnyInH_take (i := 13) (v := ?_) rfl (by kernel_rfl) (by kernel_rfl) (by kernel_rfl) (fun _ _ _ h => h) ⟨Or.inl ⟨by rfl, ?_⟩, fun _ => rfl⟩ hHeld ?_
          rotate_left
          · (intro w hSw; (try dsimp only at hSw); go_simp) <;> with_reducible rfl
          (try simp only [Act.put, List.setIfInBounds_toArray, List.set_cons_zero, List.set_cons_succ, List.getElem_toArray, List.getElem_cons_zero, List.getElem_cons_succ])
          refine wpAnyInH_take (i := 14) (v := ?_) rfl (by kernel_rfl) (by kernel_rfl) (by kernel_rfl) (fun _ _ _ h => h) ⟨Or.inl ⟨by rfl, ?_⟩, fun _ => rfl⟩ hHeld ?_
          rotate_left
          · (intro w hSw; (try dsimp only at hSw); go_simp) <;> with_reducible rfl
          (try simp only [Act.put, List.setIfInBounds_toArray, List.set_cons_zero, List.set_cons_succ, List.getElem_toArray, List.getElem_cons_zero, List.getElem_cons_succ])
          refine wpAnyInH_take (i := 15) (v := ?_) rfl (by kernel_rfl) (by kernel_rfl) (by kernel_rfl) (fun _ _ _ h => h) ⟨Or.inl ⟨by rfl, ?_⟩, fun _ => rfl⟩ hHeld ?_
          rotate_left
          · (intro w hSw; (try dsimp only at hSw); go_simp) <;> with_reducible rfl
          (try simp only [Act.put, List.setIfInBounds_toArray, List.set_cons_zero, List.set_cons_succ, List.getElem_toArray, List.getElem_cons_zero, List.getElem_cons_succ])
          refine wpAnyInH_take (i := 16) (v := ?_) rfl (by kernel_rfl) (by kernel_rfl) (by kernel_rfl) (fun _ _ _ h => h) ⟨Or.inl ⟨by rfl, ?_⟩, fun _ => rfl⟩ hHeld ?_
          rotate_left
          · (intro w hSw; (try dsimp only at hSw); go_simp) <;> with_reducible rfl
          (try simp only [Act.put, List.setIfInBounds_toArray, List.set_cons_zero, List.set_cons_succ, List.getElem_toArray, List.getElem_cons_zero, List.getElem_cons_succ])
          refine wpAnyInH_take (i := 17) (v := ?_) rfl (by kernel_rfl) (by kernel_rfl) (by kernel_rfl) (fun _ _ _ h => h) ⟨Or.inl ⟨by rfl, ?_⟩, fun _ => rfl⟩ hHeld ?_
          rotate_left
          · (intro w hSw; (try dsimp only at hSw); go_simp) <;> with_reducible rfl
          (try simp only [Act.put, List.setIfInBounds_toArray, List.set_cons_zero, List.set_cons_succ, List.getElem_toArray, List.getElem_cons_zero, List.getElem_cons_succ])
          refine wpAnyInH_take (i := 18) (v := ?_) rfl (by kernel_rfl) (by kernel_rfl) (by kernel_rfl) (fun _ _ _ h => h) ⟨Or.inl ⟨by rfl, ?_⟩, fun _ => rfl⟩ hHeld ?_
          rotate_left
          · (intro w hSw; (try dsimp only at hSw); go_simp) <;> with_reducible rfl
          (try simp only [Act.put, List.setIfInBounds_toArray, List.set_cons_zero, List.set_cons_succ, List.getElem_toArray, List.getElem_cons_zero, List.getElem_cons_succ])
          refine wpAnyInH_take (i := 19) (v := ?_) rfl (by kernel_rfl) (by kernel_rfl) (by kernel_rfl) (fun _ _ _ h => h) ⟨Or.inl ⟨by rfl, ?_⟩, fun _ => rfl⟩ hHeld ?_
          rotate_left
          · (intro w hSw; (try dsimp only at hSw); go_simp) <;> with_reducible rfl
          (try simp only [Act.put, List.setIfInBounds_toArray, List.set_cons_zero, List.set_cons_succ, List.getElem_toArray, List.getElem_cons_zero, List.getElem_cons_succ])
          refine wpAnyInH_take (i := 20) (v := ?_) rfl (by kernel_rfl) (by kernel_rfl) (by kernel_rfl) (fun _ _ _ h => h) ⟨Or.inl ⟨by rfl, ?_⟩, fun _ => rfl⟩ hHeld ?_
          rotate_left
          · (intro w hSw; (try dsimp only at hSw); go_simp) <;> with_reducible rfl
          (try simp only [Act.put, List.setIfInBounds_toArray, List.set_cons_zero, List.set_cons_succ, List.getElem_toArray, List.getElem_cons_zero, List.getElem_cons_succ])
          refine wpAnyInH_take (i := 21) (v := ?_) rfl (by kernel_rfl) (by kernel_rfl) (by kernel_rfl) (fun _ _ _ h => h) ⟨Or.inl ⟨by rfl, ?_⟩, fun _ => rfl⟩ hHeld ?_
          rotate_left
          · (intro w hSw; (try dsimp only at hSw); go_simp) <;> with_reducible rfl
          (try simp only [Act.put, List.setIfInBounds_toArray, List.set_cons_zero, List.set_cons_succ, List.getElem_toArray, List.getElem_cons_zero, List.getElem_cons_succ])
          refine wpAnyInH_take (i := 22) (v := ?_) rfl (by kernel_rfl) (by kernel_rfl) (by kernel_rfl) (fun _ _ _ h => h) ⟨Or.inl ⟨by rfl, ?_⟩, fun _ => rfl⟩ hHeld ?_
          rotate_left
          · (intro w hSw; (try dsimp only at hSw); go_simp) <;> with_reducible rfl
          (try simp only [Act.put, List.setIfInBounds_toArray, List.set_cons_zero, List.set_cons_succ, List.getElem_toArray, List.getElem_cons_zero, List.getElem_cons_succ])
          refine wpAnyInH_ready (rs := [23]) (by kernel_rfl) (by simp) ?_
          refine AllReadyInH.cons rfl (fun K hK => ?_) AllReadyInH.nil
          go_simp
          refine HR.out.mono ?_
          rintro e w6 ⟨bb, rfl, hc6, hj6, hx6⟩
          have hS6 : w6.cell? ⟨b, 1, none⟩ = some (.slice (some ⟨gk, ok, none⟩) nd.keys.length ck) ∧ w6.cell? ⟨b, 2, none⟩ = some (.slice (some ⟨gv, ov, none⟩) nd.vals.length cv) ∧ w6.cell? ⟨gk, ok + i, none⟩ = some (.int .i64 a) ∧ w6.cell? ⟨gv, ov + i, none⟩ = some (.int .i64 v) := by
            obtain ⟨l1, l2, l3, g1, g2, g3⟩ := HLt.out
            exact ⟨(hc6.cell (p := ⟨b, 1, none⟩) l1 (fun e => Nat.lt_irrefl _ (Nat.lt_of_lt_of_le e g1))).trans hS.1, (hc6.cell (p := ⟨b, 2, none⟩) l1 (fun e => Nat.lt_irrefl _ (Nat.lt_of_lt_of_le e g1))).trans hS.2.1, (hc6.cell (p := ⟨gk, ok + i, none⟩) l2 (fun e => Nat.lt_irrefl _ (Nat.lt_of_lt_of_le e g2))).trans hS.2.2.1, (hc6.cell (p := ⟨gv, ov + i, none⟩) l3 (fun e => Nat.lt_irrefl _ (Nat.lt_of_lt_of_le e g3))).trans hS.2.2.2⟩
          have H6 := Lib.hid (And.intro hc6 (And.intro hj6 hx6))
          clear hc6 hj6 hx6
          refine hK _ _ hS6 ?_
          clear hK K
          (try simp only [Act.put, List.setIfInBounds_toArray, List.set_cons_zero, List.set_cons_succ, List.getElem_toArray, List.getElem_cons_zero, List.getElem_cons_succ])
          refine wpAnyInH_take (i := 24) (v := ?_) rfl (by kernel_rfl) (by kernel_rfl) (by kernel_rfl) (fun _ _ _ h => h) ⟨Or.inl ⟨by rfl, ?_⟩, fun _ => rfl⟩ hS6 ?_
          rotate_left
          · (intro w hSw; (try dsimp only at hSw); go_simp) <;> with_reducible rfl
          (try simp only [Act.put, List.setIfInBounds_toArray, List.set_cons_zero, List.set_cons_succ, List.getElem_toArray, List.getElem_cons_zero, List.getElem_cons_succ])
          refine wpAnyInH_take (i := 25) (v := ?_) rfl (by kernel_rfl) (by kernel_rfl) (by kernel_rfl) (fun _ _ _ h => h) ⟨Or.inl ⟨by rfl, ?_⟩, fun _ => rfl⟩ hS6 ?_
          rotate_left
          · (intro w hSw; (try dsimp only at hSw); go_simp) <;> with_reducible rfl
          (try simp only [Act.put, List.setIfInBounds_toArray, List.set_cons_zero, List.set_cons_succ, List.getElem_toArray, List.getElem_cons_zero, List.getElem_cons_succ])
          refine wpAnyInH_done (by kernel_rfl) ?_ _
          clear hHeld hS hS6
          cases bb with
          | true =>
            gi_wp2_with fail
            gi_roundg (nd.keys.length + 1 - (i + 1))
            case measure => omega
            case rel => 
              have h := HJ.out
              obtain ⟨hrest2, hgl, hT, hs2, hP2, -⟩ := HG.out
              obtain ⟨hc6, hj6, -⟩ := H6.out
              replace hc6 := Grew.then ((Chg.refl NoF w5).drew) hc6
              obtain ⟨hc5, hl5, hm5, hm5', hn5⟩ := H5.out
              have hlb := Hst.out.2.1
              have hpl := h.pl
              have hml := h.ml
              rw [hP2, List.length_append] at hpl hml
              exact ⟨i + 1, L2, P2, k' + (geL M1 from_).length + 1, m2, rfl, by omega, by omega, by simp, hj6 (by simp), hrest2, by have := h.cnt; rw [hgl, List.length_append, List.length_cons] at this; omega, hT, (hl5.chg hc6 (fun e => Nat.lt_irrefl _ (Nat.lt_of_lt_of_le e hlb)) : Blk w6 lb 3 #[.int .i64 m2]), by omega, by omega, by have := h.mm; omega, hs2, hn5.chg hc6 (fun j hj e => Nat.lt_irrefl _ (Nat.lt_of_lt_of_le e (h.nb j hj).1)), h.nb, Chg.trans (Chg.trans h.chg hc5 fun j _ e => e) hc6 fun j _ e => .inl e⟩
          | false =>
            gi_wp2_with fail
            go_ret
            exact ⟨Chg.trans (Chg.trans HJ.out.chg H5.out.1 fun j _ e => e) ((Grew.then ((Chg.refl NoF w5).drew) H6.out.1).mono fun j _ e => Or.inl e) fun j _ e => e, .inr ⟨rfl, H6.out.2.2 (by simp)⟩⟩
        · obtain rfl : i = nd.keys.length := by omega
          obtain ⟨c, hci, hTc, hrest2⟩ := HJ.out.rest.inner_end HB.out.2.2.2.2.2 hcl
          obtain ⟨T, hT⟩ := HJ.out.told
          have hT2 := drop_app hT
          have hrec := IH.out d' (by omega) c L' P' k' m' wr hTc.1 HJ.out.srt HJ.out.j (by have := HJ.out.chg.size; have := H.out.2.2.2.2.1; omega) HJ.out.left HJ.out.pl (by have := HJ.out.mm; omega) ⟨_, hT⟩
          obtain ⟨gc, oc, rfl, hgcl, hxc⟩ := HB.out.2.2.2.2.1.2 (by omega)
          have hcc : wr.cell? ⟨gc, oc + nd.keys.length, none⟩ = some (.int .i64 c) := hxc _ _ (by simp [nv, hci])
          have hil : nd.keys.length < nd.kids.length := by omega
          have t3 : decide ((nd.keys.length : Int) < (nd.keys.length : Int)) = false := decide_eq_false (by omega)
          have t3' : decide (nd.keys.length < nd.keys.length) = false := decide_eq_false (by omega)
          have HG := Lib.hid (And.intro hrest2 (And.intro (show ∃ T, G.drop (k' + (geL L' from_).length) = T from ⟨T, hT2⟩) hrec))
          have HCl := Lib.hid hcl
          clear hrest2 hT hT2 hrec hci hTc hxc hgcl hcl h0
          gi_wp2_with (refine ⟨trivial, ?_⟩; gi_at_call 41; refine (callsIn_wide.2 HB.out.1).mono ?_; rintro e w5 ⟨rfl, rfl⟩)
          refine ⟨trivial, (callsIn_wide.2 HG.out.2.2).mono ?_⟩
          clear c0 f0 s0 hcc
          rintro e w5 ⟨hc5, (⟨rfl, hj5, m2, hl5, hm5, hm5'⟩ | ⟨rfl, hx5⟩)⟩
          rotate_left
          · have HX := Lib.hid (And.intro hc5 hx5)
            clear hc5 hx5
            gi_wp2_with fail
            go_ret
            exact ⟨Chg.trans HJ.out.chg HX.out.1 fun j _ e => e, .inr ⟨rfl, HX.out.2⟩⟩
          have hN5 : ∀ j, N j → ¬ (j < base ∨ j = lb) := fun j hj e => by have := HJ.out.nb j hj; omega
          have hn5 := HJ.out.own.chg hc5 hN5
          have hb5 := HB.out.2.1.chg hc5 (hN5 _ HNb.out.1)
          have hSq : w5.drew.cell? ⟨b, 1, none⟩ = some (.slice Ak nd.keys.length ck) := hb5.drew.cell 1
          have HSq := Lib.hid hSq
          have H5 := Lib.hid (And.intro hc5 (And.intro hl5 (And.intro hm5 (And.intro hm5' (And.intro hn5 hj5)))))
          clear hb5 hc5 hl5 hm5 hm5' hn5 hN5 hj5 hSq
          gi_wp2_with fail
          have hSq := HSq.out
          refine wpIn_region_inH (S := fun w' => w'.cell? ⟨b, 1, none⟩ = some (.slice Ak nd.keys.length ck)) (by kernel_rfl) hSq (fun hHeld => ?_)
          refine wpAnyInH_take (i := 0) (v := ?_) rfl (by kernel_rfl) (by kernel_rfl) (by kernel_rfl) (fun _ _ _ h => h) ⟨Or.inl ⟨by rfl, ?_⟩, fun _ => rfl⟩ hHeld ?_
          rotate_left
          · (intro w hSw; (try dsimp only at hSw); go_simp) <;> with_reducible rfl
          (try simp only [Act.put, List.setIfInBounds_toArray, List.set_cons_zero, List.set_cons_succ, List.getElem_toArray, List.getElem_cons_zero, List.getElem_cons_succ])
          refine wpAnyInH_take (i := 1) (v := ?_) rfl (by kernel_rfl) (by kernel_rfl) (by kernel_rfl) (fun _ _ _ h => h) ⟨Or.inl ⟨by rfl, ?_⟩, fun _ => rfl⟩ hHeld ?_
          rotate_left
          · (intro w hSw; (try dsimp only at hSw); go_simp) <;> with_reducible rfl
          (try simp only [Act.put, List.setIfInBounds_toArray, List.set_cons_zero, List.set_cons_succ, List.getElem_toArray, List.getElem_cons_zero, List.getElem_cons_succ])
          refine wpAnyInH_take (i := 2) (v := ?_) rfl (by kernel_rfl) (by kernel_rfl) (by kernel_rfl) (fun _ _ _ h => h) ⟨Or.inl ⟨by rfl, ?_⟩, fun _ => rfl⟩ hHeld ?_
          rotate_left
          · (intro w hSw; (try dsimp only at hSw); go_simp) <;> with_reducible rfl
          (try simp only [Act.put, List.setIfInBounds_toArray, List.set_cons_zero, List.set_cons_succ, List.getElem_toArray, List.getElem_cons_zero, List.getElem_cons_succ])
          refine wpAnyInH_take (i := 3) (v := ?_) rfl (by kernel_rfl) (by kernel_rfl) (by kernel_rfl) (fun _ _ _ h => h) ⟨Or.inl ⟨by rfl, ?_⟩, fun _ => rfl⟩ hHeld ?_
          rotate_left
          · (intro w hSw; (try dsimp only at hSw); go_simp) <;> with_reducible rfl
          (try simp only [Act.put, List.setIfInBounds_toArray, List.set_cons_zero, List.set_cons_succ, List.getElem_toArray, List.getElem_cons_zero, List.getElem_cons_succ])
          refine wpAnyInH_take (i := 4) (v := ?_) rfl (by kernel_rfl) (by kernel_rfl) (by kernel_rfl) (fun _ _ _ h => h) ⟨Or.inl ⟨by rfl, ?_⟩, fun _ => rfl⟩ hHeld ?_
          rotate_left
          · (intro w hSw; (try dsimp only at hSw); go_simp) <;> with_reducible rfl
          (try simp only [Act.put, List.setIfInBounds_toArray, List.set_cons_zero, List.set_cons_succ, List.getElem_toArray, List.getElem_cons_zero, List.getElem_cons_succ])
          refine wpAnyInH_take (i := 5) (v := ?_) rfl (by kernel_rfl) (by kernel_rfl) (by kernel_rfl) (fun _ _ _ h => h) ⟨Or.inl ⟨by rfl, ?_⟩, fun _ => rfl⟩ hHeld ?_
          rotate_left
          · (intro w hSw; (try dsimp only at hSw); go_simp) <;> with_reducible rfl
          (try simp only [Act.put, List.setIfInBounds_toArray, List.set_cons_zero, List.set_cons_succ, List.getElem_toArray, List.getElem_cons_zero, List.getElem_cons_succ])
          refine wpAnyInH_take (i := 6) (v := ?_) rfl (by kernel_rfl) (by kernel_rfl) (by kernel_rfl) (fun _ _ _ h => h) ⟨Or.inl ⟨by rfl, ?_⟩, fun _ => rfl⟩ hHeld ?_
          rotate_left
          · (intro w hSw; (try dsimp only at hSw); go_simp) <;> with_reducible rfl
          (try simp only [Act.put, List.setIfInBounds_toArray, List.set_cons_zero, List.set_cons_succ, List.getElem_toArray, List.getElem_cons_zero, List.getElem_cons_succ])
          refine wpAnyInH_take (i := 7) (v := ?_) rfl (by kernel_rfl) (by kernel_rfl) (by kernel_rfl) (fun _ _ _ h => h) ⟨Or.inl ⟨by rfl, ?_⟩, fun _ => rfl⟩ hHeld ?_
          rotate_left
          · (intro w hSw; (try dsimp only at hSw); go_simp) <;> with_reducible rfl
          (try simp only [Act.put, List.setIfInBounds_toArray, List.set_cons_zero, List.set_cons_succ, List.getElem_toArray, List.getElem_cons_zero, List.getElem_cons_succ])
          refine wpAnyInH_take (i := 8) (v := undef) rfl (by kernel_rfl) (by kernel_rfl) (by kernel_rfl) (fun _ _ _ h => h) ⟨Or.inr ⟨by rfl, rfl⟩, fun _ => rfl⟩ hHeld ?_
          (try simp only [Act.put, List.setIfInBounds_toArray, List.set_cons_zero, List.set_cons_succ, List.getElem_toArray, List.getElem_cons_zero, List.getElem_cons_succ])
          refine wpAnyInH_take (i := 9) (v := undef) rfl (by kernel_rfl) (by kernel_rfl) (by kernel_rfl) (fun _ _ _ h => h) ⟨Or.inr ⟨by rfl, rfl⟩, fun _ => rfl⟩ hHeld ?_
          (try simp only [Act.put, List.setIfInBounds_toArray, List.set_cons_zero, List.set_cons_succ, List.getElem_toArray, List.getElem_cons_zero, List.getElem_cons_succ])
          refine wpAnyInH_take (i := 10) (v := undef) rfl (by kernel_rfl) (by kernel_rfl) (by kernel_rfl) (fun _ _ _ h => h) ⟨Or.inr ⟨by rfl, rfl⟩, fun _ => rfl⟩ hHeld ?_
          (try simp only [Act.put, List.setIfInBounds_toArray, List.set_cons_zero, List.set_cons_succ, List.getElem_toArray, List.getElem_cons_zero, List.getElem_cons_succ])
          refine wpAnyInH_take (i := 11) (v := undef) rfl (by kernel_rfl) (by kernel_rfl) (by kernel_rfl) (fun _ _ _ h => h) ⟨Or.inr ⟨by rfl, rfl⟩, fun _ => rfl⟩ hHeld ?_
          (try simp only [Act.put, List.setIfInBounds_toArray, List.set_cons_zero, List.set_cons_succ, List.getElem_toArray, List.getElem_cons_zero, List.getElem_cons_succ])
          refine wpAnyInH_take (i := 12) (v := undef) rfl (by kernel_rfl) (by kernel_rfl) (by kernel_rfl) (fun _ _ _ h => h) ⟨Or.inr ⟨by rfl, rfl⟩, fun _ => rfl⟩ hHeld ?_
          (try simp only [Act.put, List.setIfInBounds_toArray, List.set_cons_zero, List.set_cons_succ, List.getElem_toArray, List.getElem_cons_zero, List.getElem_cons_succ])
          refine wpAnyInH_take (i := 13) (v := undef) rfl (by kernel_rfl) (by kernel_rfl) (by kernel_rfl) (fun _ _ _ h => h) ⟨Or.inr ⟨by rfl, rfl⟩, fun _ => rfl⟩ hHeld ?_
          (try simp only [Act.put, List.setIfInBounds_toArray, List.set_cons_zero, List.set_cons_succ, List.getElem_toArray, List.getElem_cons_zero, List.getElem_cons_succ])
          refine wpAnyInH_take (i := 14) (v := undef) rfl (by kernel_rfl) (by kernel_rfl) (by kernel_rfl) (fun _ _ _ h => h) ⟨Or.inr ⟨by rfl, rfl⟩, fun _ => rfl⟩ hHeld ?_
          (try simp only [Act.put, List.setIfInBounds_toArray, List.set_cons_zero, List.set_cons_succ, List.getElem_toArray, List.getElem_cons_zero, List.getElem_cons_succ])
          refine wpAnyInH_take (i := 15) (v := undef) rfl (by kernel_rfl) (by kernel_rfl) (by kernel_rfl) (fun _ _ _ h => h) ⟨Or.inr ⟨by rfl, rfl⟩, fun _ => rfl⟩ hHeld ?_
          (try simp only [Act.put, List.setIfInBounds_toArray, List.set_cons_zero, List.set_cons_succ, List.getElem_toArray, List.getElem_cons_zero, List.getElem_cons_succ])
          refine wpAnyInH_take (i := 16) (v := undef) rfl (by kernel_rfl) (by kernel_rfl) (by kernel_rfl) (fun _ _ _ h => h) ⟨Or.inr ⟨by rfl, rfl⟩, fun _ => rfl⟩ hHeld ?_
          (try simp only [Act.put, List.setIfInBounds_toArray, List.set_cons_zero, List.set_cons_succ, List.getElem_toArray, List.getElem_cons_zero, List.getElem_cons_succ])
          refine wpAnyInH_take (i := 17) (v := undef) rfl (by kernel_rfl) (by kernel_rfl) (by kernel_rfl) (fun _ _ _ h => h) ⟨Or.inr ⟨by rfl, rfl⟩, fun _ => rfl⟩ hHeld ?_
          (try simp only [Act.put, List.setIfInBounds_toArray, List.set_cons_zero, List.set_cons_succ, List.getElem_toArray, List.getElem_cons_zero, List.getElem_cons_succ])
          refine wpAnyInH_take (i := 18) (v := undef) rfl (by kernel_rfl) (by kernel_rfl) (by kernel_rfl) (fun _ _ _ h => h) ⟨Or.inr ⟨by rfl, rfl⟩, fun _ => rfl⟩ hHeld ?_
          (try simp only [Act.put, List.setIfInBounds_toArray, List.set_cons_zero, List.set_cons_succ, List.getElem_toArray, List.getElem_cons_zero, List.getElem_cons_succ])
          refine wpAnyInH_take (i := 19) (v := undef) rfl (by kernel_rfl) (by kernel_rfl) (by kernel_rfl) (fun _ _ _ h => h) ⟨Or.inr ⟨by rfl, rfl⟩, fun _ => rfl⟩ hHeld ?_
          (try simp only [Act.put, List.setIfInBounds_toArray, List.set_cons_zero, List.set_cons_succ, List.getElem_toArray, List.getElem_cons_zero, List.getElem_cons_succ])
          refine wpAnyInH_take (i := 20) (v := undef) rfl (by kernel_rfl) (by kernel_rfl) (by kernel_rfl) (fun _ _ _ h => h) ⟨Or.inr ⟨by rfl, rfl⟩, fun _ => rfl⟩ hHeld ?_
          (try simp only [Act.put, List.setIfInBounds_toArray, List.set_cons_zero, List.set_cons_succ, List.getElem_toArray, List.getElem_cons_zero, List.getElem_cons_succ])
          refine wpAnyInH_take (i := 21) (v := undef) rfl (by kernel_rfl) (by kernel_rfl) (by kernel_rfl) (fun _ _ _ h => h) ⟨Or.inr ⟨by rfl, rfl⟩, fun _ => rfl⟩ hHeld ?_
          (try simp only [Act.put, List.setIfInBounds_toArray, List.set_cons_zero, List.set_cons_succ, List.getElem_toArray, List.getElem_cons_zero, List.getElem_cons_succ])
          refine wpAnyInH_take (i := 22) (v := undef) rfl (by kernel_rfl) (by kernel_rfl) (by kernel_rfl) (fun _ _ _ h => h) ⟨Or.inr ⟨by rfl, rfl⟩, fun _ => rfl⟩ hHeld ?_
          (try simp only [Act.put, List.setIfInBounds_toArray, List.set_cons_zero, List.set_cons_succ, List.getElem_toArray, List.getElem_cons_zero, List.getElem_cons_succ])
          refine wpAnyInH_ready (rs := [23]) (by kernel_rfl) (by simp) ?_
          refine AllReadyInH.cons rfl (fun K hK => ?_) AllReadyInH.nil
          go_simp
          refine ⟨fun _ h => (by cases h), ?_⟩
          refine hK _ _ hHeld ?_
          clear hK K
          (try simp only [Act.put, List.setIfInBounds_toArray, List.set_cons_zero, List.set_cons_succ, List.getElem_toArray, List.getElem_cons_zero, List.getElem_cons_succ])
          refine wpAnyInH_take (i := 24) (v := undef) rfl (by kernel_rfl) (by kernel_rfl) (by kernel_rfl) (fun _ _ _ h => h) ⟨Or.inr ⟨by rfl, rfl⟩, fun _ => rfl⟩ hHeld ?_
          (try simp only [Act.put, List.setIfInBounds_toArray, List.set_cons_zero, List.set_cons_succ, List.getElem_toArray, List.getElem_cons_zero, List.getElem_cons_succ])
          refine wpAnyInH_take (i := 25) (v := ?_) rfl (by kernel_rfl) (by kernel_rfl) (by kernel_rfl) (fun _ _ _ h => h) ⟨Or.inl ⟨by rfl, ?_⟩, fun _ => rfl⟩ hHeld ?_
          rotate_left
          · (intro w hSw; (try dsimp only at hSw); go_simp) <;> with_reducible rfl
          (try simp only [Act.put, List.setIfInBounds_toArray, List.set_cons_zero, List.set_cons_succ, List.getElem_toArray, List.getElem_cons_zero, List.getElem_cons_succ])
          refine wpAnyInH_done (by kernel_rfl) ?_ _
          clear hHeld hSq
          gi_wp2_with fail
          gi_roundg (nd.keys.length + 1 - (nd.keys.length + 1))
          case measure => omega
          case rel =>
            have h := HJ.out
            obtain ⟨hrest2, ⟨T, hT2⟩, -⟩ := HG.out
            obtain ⟨hc5, hl5, hm5, hm5', hn5, hj5⟩ := H5.out
            have hgd : Grew w5 w5.drew := (Chg.refl NoF w5).drew
            exact ⟨nd.keys.length + 1, [], [], k' + (geL L' from_).length, m2, rfl, by omega, by omega, by simp, Hst.out.2.2.2.2.1 _ w5 _ hj5 hgd.chg ((Hst.out.2.2.2.1 _ w5 hj5).grew hgd), hrest2, by have := h.cnt; simp only [geL, List.filter_nil, List.length_nil]; exact this, ⟨T, by rw [hT2]; rfl⟩, hl5.grew hgd, Nat.zero_le _, by have := h.ml; simp only [List.length_nil]; omega, by have := h.mm; omega, List.Pairwise.nil, hn5.grew hgd, h.nb, (Chg.trans h.chg hc5 fun j _ e => e).grew hgd⟩
    · have t1 : decide ((i : Int) ≤ (nd.keys.length : Int)) = false := decide_eq_false (by omega)
      have t1' : decide (i ≤ nd.keys.length) = false := decide_eq_false hend
      obtain rfl : i = nd.keys.length + 1 := by omega
      gi_wp2_with fail
      go_ret
      have h := HJ.out
      obtain rfl : L' = [] := by
        rcases h.rest with ⟨e, -⟩ | ⟨-, e, -⟩
        · omega
        · exact e
      have hcnt := h.cnt
      simp only [geL, List.filter_nil, List.length_nil, Nat.add_zero] at hcnt
      have hml := h.ml
      exact ⟨h.chg, .inl ⟨rfl, by have := h.j; rw [hcnt] at this; exact this, m', h.left, by omega, h.mm⟩⟩
end Go.Proofs.YtpkkcicaeldodaaGreatDoor

/- The tree: Each. -/
namespace Go.Proofs.YtpkkcicaeldodaaGreatDoor
open Go.RowKit Go.Maps

theorem bcap_any (p : Nat) (F : Nat → Prop) (x : Rp) (w : World) (h : GP w p F x) :
    Calls Tryz.prog 49 #[.pointer (some ⟨p, 0, none⟩)] w fun e' w' => e' = .returned (.int .i64 x.now.length) ∧ w = w' := by
  obtain ⟨X, ⟨L, d, b, A, ca, vp, vt, vo, h, hF⟩, h2, rfl⟩ := h
  obtain ⟨At, ct, rfl, -⟩ := own_shape h.tbl
  obtain ⟨c0, f0, s0⟩ := h.blk.facts
  have e : X.view.now.length = X.table.length := by simp [Gp.view]
  rw [e]
  clear h hF h2 e
  go_enter Tryz.func49, Tryz.ntmps49
  go_wp2
  go_ret
  exact ⟨rfl, rfl⟩
theorem beach_any (t : Nat) (k : Int) (w W : World) (hW : (w.alloc (.cells #[.pointer (some ⟨t, 0, none⟩)] 24)).alloc (.cells #[.int .i64 k] 3) = W) :
    Calls Tryz.prog 16 #[.pointer (some ⟨t, 0, none⟩), .int .i64 k] w fun e w' => e = .returned (.func (.func 48) #[] #[.pointer (some ⟨w.heap.size, 0, none⟩), .pointer (some ⟨w.heap.size + 1, 0, none⟩)]) ∧ W = w' := by
  subst hW
  go_enter Tryz.func16, Tryz.ntmps16
  go_wp2
  go_ret
  exact ⟨rfl, rfl⟩
attribute [local go_sem] Oper.semAt_some
set_option maxRecDepth 100000 in
set_option maxHeartbeats 1600000 in
theorem beach_iter (bt bf t p root y D : Nat) (from_ : Int) (F : Nat → Prop) (x : Rp) (L : List KV) (P : List Nat) (J : Nat → World → Prop) (Jx : World → Prop) (w : World) (hs : TS x D root L P)
    (hin : ∀ k W, J k W → BT W t p root F x ∧ Blk W bt 24 #[.pointer (some ⟨t, 0, none⟩)] ∧ Blk W bf 3 #[.int .i64 from_])
    (hix : ∀ W, Jx W → BT W t p root F x ∧ Blk W bt 24 #[.pointer (some ⟨t, 0, none⟩)] ∧ Blk W bf 3 #[.int .i64 from_])
    (hst : ∀ k W W', J k W → Chg (fun j => F j ∨ w.heap.size ≤ j) W W' → BT W' t p root F x → J k W')
    (hyl : ∀ k a b W, J k W → (geL L from_)[k]? = some (a, b) → YieldAt Fence.wide 0 Tryz.prog y #[.int .i64 a, .int .i64 b] W fun e W' => Rounded (J (k + 1)) Jx e W' ∧ Chg (fun j => j < w.heap.size) W W')
    (h0 : J 0 w) :
    Calls Tryz.prog 48 #[.func (.yield y) #[] #[], .pointer (some ⟨bt, 0, none⟩), .pointer (some ⟨bf, 0, none⟩)] w fun e w' => IterEnd (J (geL L from_).length) Jx e w' := by
  obtain ⟨hbt, hbb, hbf⟩ := hin 0 w h0
  have hcap := bcap_any p F x w hbt.gp
  obtain ⟨W1, hW1⟩ : ∃ W, w.alloc (.cells #[.int .i64 x.now.length] 3) = W := ⟨_, rfl⟩
  have hg1 : Grew w W1 := hW1 ▸ (Chg.refl _ _).alloc _
  have hl1 : Blk W1 w.heap.size 3 #[.int .i64 x.now.length] := hW1 ▸ Blk.new _ _ _
  have hlen : P.length ≤ x.now.length := by rw [← hs.used]; exact List.countP_le_length
  have hn4 := hbt.gp.szs.2.2.2.2.2
  have hj1 : J 0 W1.drew := hst 0 w W1.drew h0 (hg1.chg.drew) (hbt.grew hg1.drew)
  have hwk := bwalk_any w.heap.size w.heap.size t p root y from_ F x (geL L from_) J Jx (fun j hj => hbt.gp.lt j hj) (Nat.le_refl _) hbt.blk.lt (fun k W h => (hin k W h).1) hst hyl D root L P 0 x.now.length W1.drew hs.tr hs.srt hj1 hg1.size hl1.drew hlen (by omega) ⟨[], by simp⟩
  obtain ⟨c0, f0, s0⟩ := hbb.facts
  obtain ⟨c1, f1, s1⟩ := hbf.facts
  obtain ⟨c2, f2, s2⟩ := hbt.blk.facts
  have hS : W1.drew.cell? ⟨bt, 0, none⟩ = some (.pointer (some ⟨t, 0, none⟩)) ∧ W1.drew.cell? ⟨bf, 0, none⟩ = some (.int .i64 from_) ∧ W1.drew.cell? ⟨t, 1, none⟩ = some (.int .i64 root) := ⟨(hbb.grew hg1).drew.cell 0, (hbf.grew hg1).drew.cell 0, (hbt.blk.grew hg1).drew.cell 1⟩
  have H := Lib.hid (And.intro hcap (And.intro hwk (And.intro hS (And.intro hW1 (And.intro hin hix)))))
  clear hcap hwk hS hW1 hin hix hst hyl h0 hbt hbb hbf hg1 hl1 hj1 hlen hs
  (refine (callsIn_wide (n := 1)).1 (callsIn_of_wp Tryz.func48 rfl trivial ?_ rfl); simp only [Tryz.ntmps48, List.size_toArray, List.length_cons, List.length_nil, Nat.reduceAdd, Nat.reduceSub, Array.replicate_succ, Array.replicate_zero, List.push_toArray, List.append_toArray, List.nil_append, List.cons_append])
  gi_wp2_with (refine ⟨trivial, ?_⟩; gi_at_call 49; refine (callsIn_wide.2 H.out.1).mono ?_; rintro e w5 ⟨rfl, rfl⟩)
  rw [H.out.2.2.2.1]
  have hS := H.out.2.2.1
  refine wpIn_region_inH (S := fun w' => w'.cell? ⟨bt, 0, none⟩ = some (.pointer (some ⟨t, 0, none⟩)) ∧ w'.cell? ⟨bf, 0, none⟩ = some (.int .i64 from_) ∧ w'.cell? ⟨t, 1, none⟩ = some (.int .i64 root)) (by kernel_rfl) hS (fun hHeld => ?_)
  refine wpAnyInH_take (i := 0) (v := ?_) rfl (by kernel_rfl) (by kernel_rfl) (by kernel_rfl) (fun _ _ _ h => h) ⟨Or.inl ⟨by rfl, ?_⟩, fun _ => rfl⟩ hHeld ?_
  rotate_left
  · (intro w hSw; (try dsimp only at hSw); go_simp) <;> with_reducible rfl
  (try simp only [Act.put, List.setIfInBounds_toArray, List.set_cons_zero, List.set_cons_succ, List.getElem_toArray, List.getElem_cons_zero, List.getElem_cons_succ])
  refine wpAnyInH_take (i := 1) (v := ?_) rfl (by kernel_rfl) (by kernel_rfl) (by kernel_rfl) (fun _ _ _ h => h) ⟨Or.inl ⟨by rfl, ?_⟩, fun _ => rfl⟩ hHeld ?_
  rotate_left
  · (intro w hSw; (try dsimp only at hSw); go_simp) <;> with_reducible rfl
  (try simp only [Act.put, List.setIfInBounds_toArray, List.set_cons_zero, List.set_cons_succ, List.getElem_toArray, List.getElem_cons_zero, List.getElem_cons_succ])
  refine wpAnyInH_take (i := 2) (v := ?_) rfl (by kernel_rfl) (by kernel_rfl) (by kernel_rfl) (fun _ _ _ h => h) ⟨Or.inl ⟨by rfl, ?_⟩, fun _ => rfl⟩ hHeld ?_
  rotate_left
  · (intro w hSw; (try dsimp only at hSw); go_simp) <;> with_reducible rfl
  (try simp only [Act.put, List.setIfInBounds_toArray, List.set_cons_zero, List.set_cons_succ, List.getElem_toArray, List.getElem_cons_zero, List.getElem_cons_succ])
  refine wpAnyInH_take (i := 3) (v := ?_) rfl (by kernel_rfl) (by kernel_rfl) (by kernel_rfl) (fun _ _ _ h => h) ⟨Or.inl ⟨by rfl, ?_⟩, fun _ => rfl⟩ hHeld ?_
  rotate_left
  · (intro w hSw; (try dsimp only at hSw); go_simp) <;> with_reducible rfl
  (try simp only [Act.put, List.setIfInBounds_toArray, List.set_cons_zero, List.set_cons_succ, List.getElem_toArray, List.getElem_cons_zero, List.getElem_cons_succ])
  refine wpAnyInH_take (i := 4) (v := ?_) rfl (by kernel_rfl) (by kernel_rfl) (by kernel_rfl) (fun _ _ _ h => h) ⟨Or.inl ⟨by rfl, ?_⟩, fun _ => rfl⟩ hHeld ?_
  rotate_left
  · (intro w hSw; (try dsimp only at hSw); go_simp) <;> with_reducible rfl
  (try simp only [Act.put, List.setIfInBounds_toArray, List.set_cons_zero, List.set_cons_succ, List.getElem_toArray, List.getElem_cons_zero, List.getElem_cons_succ])
  refine wpAnyInH_take (i := 5) (v := ?_) rfl (by kernel_rfl) (by kernel_rfl) (by kernel_rfl) (fun _ _ _ h => h) ⟨Or.inl ⟨by rfl, ?_⟩, fun _ => rfl⟩ hHeld ?_
  rotate_left
  · (intro w hSw; (try dsimp only at hSw); go_simp) <;> with_reducible rfl
  (try simp only [Act.put, List.setIfInBounds_toArray, List.set_cons_zero, List.set_cons_succ, List.getElem_toArray, List.getElem_cons_zero, List.getElem_cons_succ])
  refine wpAnyInH_take (i := 6) (v := ?_) rfl (by kernel_rfl) (by kernel_rfl) (by kernel_rfl) (fun _ _ _ h => h) ⟨Or.inl ⟨by rfl, ?_⟩, fun _ => rfl⟩ hHeld ?_
  rotate_left
  · (intro w hSw; (try dsimp only at hSw); go_simp) <;> with_reducible rfl
  (try simp only [Act.put, List.setIfInBounds_toArray, List.set_cons_zero, List.set_cons_succ, List.getElem_toArray, List.getElem_cons_zero, List.getElem_cons_succ])
  refine wpAnyInH_ready (rs := [7]) (by kernel_rfl) (by simp) ?_
  refine AllReadyInH.cons rfl (fun K hK => ?_) AllReadyInH.nil
  go_simp
  refine ⟨trivial, (callsIn_wide.2 H.out.2.1).mono ?_⟩
  rintro e w3 ⟨-, (⟨rfl, hj3, -⟩ | ⟨rfl, hx3⟩)⟩
  · obtain ⟨g1, g2, g3⟩ := H.out.2.2.2.2.1 _ w3 hj3
    have HJ := Lib.hid hj3
    refine hK _ _ ⟨g2.cell 0, g3.cell 0, g1.blk.cell 1⟩ ?_
    clear hK K hj3
    refine wpAnyInH_done (by kernel_rfl) ?_ _
    gi_wp2
    refine bodyPost_end (results_none rfl _ _ _) rfl ⟨⟨_, rfl⟩, .inl ?_⟩
    have := HJ.out
    rwa [Nat.zero_add] at this
  · obtain ⟨g1, g2, g3⟩ := H.out.2.2.2.2.2 w3 hx3
    have HJ := Lib.hid hx3
    refine hK _ _ ⟨g2.cell 0, g3.cell 0, g1.blk.cell 1⟩ ?_
    clear hK K hx3
    refine wpAnyInH_done (by kernel_rfl) ?_ _
    gi_wp2
    refine bodyPost_end (results_none rfl _ _ _) rfl ⟨⟨_, rfl⟩, .inr ?_⟩
    exact HJ.out
end Go.Proofs.YtpkkcicaeldodaaGreatDoor

/- The tree: Len. -/
namespace Go.Proofs.YtpkkcicaeldodaaGreatDoor
open Go.RowKit Go.Maps
attribute [local go_sem] Oper.semAt_some

theorem Fr.kv_mem {R : Nat → List KV → List Nat → Prop} {ks : List Nat} {kv L : List KV} {P : List Nat} (h : Fr R ks kv L P) {y : KV} (hy : y ∈ L) : y ∈ kv ∨ ∃ q M Q, R q M Q ∧ y ∈ M := by
  induction h with
  | one h1 => exact .inr ⟨_, _, _, h1, hy⟩
  | cons h1 _ ih =>
    rcases List.mem_append.1 hy with e | e
    · exact .inr ⟨_, _, _, h1, e⟩
    · rcases List.mem_cons.1 e with e | e
      · exact .inl (e ▸ List.mem_cons_self)
      · rcases ih e with e | e
        · exact .inl (List.mem_cons_of_mem _ e)
        · exact .inr e
theorem Tr.kv_node {rd : Nat → Option Nd} {h : Nat} : ∀ {d q : Nat} {L : List KV} {P : List Nat}, Tr rd h d q L P → ∀ y ∈ L, ∃ i nd, rd i = some nd ∧ y ∈ nd.kvs
  | 0, q, L, P, ⟨nd, h1, _, _, _, h5, _⟩, y, hy => ⟨q, nd, h1, h5 ▸ hy⟩
  | d + 1, q, L, P, ⟨nd, P', h1, _, _, _, h5, _⟩, y, hy => by
    rcases h5.kv_mem hy with e | ⟨c, M, Q, g1, g2⟩
    · exact ⟨q, nd, h1, e⟩
    · exact Tr.kv_node g1.1 y g2
theorem TS.ints {w : World} {p : Nat} {F : Nat → Prop} {x : Rp} {D root : Nat} {L : List KV} {P : List Nat} (h : TS x D root L P) (hg : GP w p F x) : ∀ y ∈ L, i64 y.1 ∧ i64 y.2 := fun y hy => by
  obtain ⟨i, nd, h1, h2⟩ := h.tr.kv_node y hy
  have hf := (hg.fit h1).1
  have := List.of_mem_zip (show (y.1, y.2) ∈ nd.keys.zip nd.vals from h2)
  exact ⟨hf.ki _ this.1, hf.vi _ this.2⟩
theorem TS.least {w : World} {p : Nat} {F : Nat → Prop} {x : Rp} {D root : Nat} {L : List KV} {P : List Nat} (h : TS x D root L P) (hg : GP w p F x) : geL L (-9223372036854775808) = L := geL_all fun y hy => (h.ints hg y hy).1.1
/-- Between two rounds, and in one: a counter's block and the loop's record alone have changed, and the pager's blocks. -/
structure LnJ (Wr W : World) (t p root : Nat) (F : Nat → Prop) (x : Rp) (bt bf nb L : Nat) (k : Nat) (r : Loop) (st : LoopState) (pe : Option Code) : Prop where
  b0 : BT W t p root F x
  b1 : Blk W bt 24 #[.pointer (some ⟨t, 0, none⟩)]
  b2 : Blk W bf 3 #[.int .i64 (-9223372036854775808)]
  chg : Chg (fun j => F j ∨ j = nb ∨ j = L) Wr W
  cnt : Blk W nb 3 #[.int .i64 k]
  rc : Rec W L (Loop.at_ r st pe)
section
variable {Wr W W' : World} {t p root : Nat} {F : Nat → Prop} {x : Rp} {bt bf nb L k : Nat} {r : Loop} {st st' : LoopState} {pe pe' : Option Code}
/-- What is apart. -/
structure LnA (Wr : World) (t : Nat) (F : Nat → Prop) (bt bf nb L : Nat) : Prop where
  l : ¬ F L ∧ L ≠ t ∧ L ≠ bt ∧ L ≠ bf ∧ L ≠ nb ∧ L ≠ 0
  n : ¬ F nb ∧ nb ≠ t ∧ nb ≠ bt ∧ nb ≠ bf ∧ nb ≠ 0
  b : ¬ F bt ∧ ¬ F bf
  lt : L < Wr.heap.size ∧ nb < Wr.heap.size ∧ bt < Wr.heap.size ∧ bf < Wr.heap.size
theorem LnJ.kept (h : LnJ Wr W t p root F x bt bf nb L k r st pe) (a : LnA Wr t F bt bf nb L) (hk : Kept L W W') (hR : Rec W' L (Loop.at_ r st' pe')) : LnJ Wr W' t p root F x bt bf nb L k r st' pe' := by
  obtain ⟨a1, a2, a3, a4, a5, a6⟩ := a.l
  exact ⟨h.b0.chg hk.chg (fun j hj e => a1 (e ▸ hj)) (fun e => a6 e.symm) (fun e => a2 e.symm), h.b1.kept hk, h.b2.kept hk, Chg.trans h.chg hk.chg fun i _ e => .inr (.inr e), h.cnt.kept hk, hR⟩
theorem LnJ.set (h : LnJ Wr W t p root F x bt bf nb L k r st pe) (a : LnA Wr t F bt bf nb L) {k' : Nat} (hW : W.setCell ⟨nb, 0, none⟩ (.int .i64 k') = W') : LnJ Wr W' t p root F x bt bf nb L k' r st pe := by
  obtain ⟨a1, a2, a3, a4, a5⟩ := a.n
  have hc : Chg (fun j => j = nb) W W' := hW ▸ (Chg.refl (fun j => j = nb) W).setCell (p := ⟨nb, 0, none⟩) (fun _ => rfl) _
  refine ⟨h.b0.chg hc (fun j hj e => a1 (e ▸ hj)) (fun e => a5 e.symm) (fun e => a2 e.symm), h.b1.chg hc (fun e => a3 e.symm), h.b2.chg hc (fun e => a4 e.symm), Chg.trans h.chg hc fun i _ e => .inr (.inl e), ?_, h.rc.chg hc a.l.2.2.2.2.1⟩
  have := h.cnt.put 0 (.int .i64 k')
  rw [hW] at this
  simpa using this
theorem LnJ.far (h : LnJ Wr W t p root F x bt bf nb L k r st pe) (a : LnA Wr t F bt bf nb L) (hc : Chg (fun j => F j ∨ Wr.heap.size ≤ j) W W') (hb : BT W' t p root F x) : LnJ Wr W' t p root F x bt bf nb L k r st pe := by
  obtain ⟨l1, l2, l3, l4⟩ := a.lt
  refine ⟨hb, h.b1.chg hc (fun e => e.elim a.b.1 fun e => by omega), h.b2.chg hc (fun e => e.elim a.b.2 fun e => by omega), Chg.trans h.chg hc fun i hi e => e.elim .inl fun e => by omega, h.cnt.chg hc (fun e => e.elim a.n.1 fun e => by omega), h.rc.chg hc (fun e => e.elim a.l.1 fun e => by omega)⟩
end
set_option maxRecDepth 100000 in
set_option maxHeartbeats 3200000 in
theorem blen_any (t p root D : Nat) (L : List KV) (P : List Nat) (F : Nat → Prop) (x : Rp) (w : World) (hb : BT w t p root F x) (hs : TS x D root L P) (hl : L.length ≤ 1000000) :
    Calls Tryz.prog 24 #[.pointer (some ⟨t, 0, none⟩)] w fun e w' => e = .returned (.int .i64 L.length) ∧ BT w' t p root F x ∧ Chg F w w' := by
  obtain ⟨W0, hW0⟩ : ∃ W0, w.alloc (.cells #[.int .i64 0] 3) = W0 := ⟨_, rfl⟩
  obtain ⟨W1, hW1⟩ : ∃ W1, (W0.alloc (.cells #[.pointer (some ⟨t, 0, none⟩)] 24)).alloc (.cells #[.int .i64 (-9223372036854775808)] 3) = W1 := ⟨_, rfl⟩
  have hz0 : W0.heap.size = w.heap.size + 1 := by subst hW0; simp
  have hz1 : W1.heap.size = w.heap.size + 3 := by subst hW1; simp [hz0]
  have hg0 : Grew w W0 := hW0 ▸ (Chg.refl _ _).alloc _
  have hg1 : Grew W0 W1 := hW1 ▸ ((Chg.refl _ _).alloc _).alloc _
  have hn1 : Blk W1 w.heap.size 3 #[.int .i64 0] := (show Blk W0 w.heap.size 3 #[.int .i64 0] from hW0 ▸ Blk.new _ _ _).grew hg1
  have hb1 : Blk W1 (w.heap.size + 1) 24 #[.pointer (some ⟨t, 0, none⟩)] := by
    have := (Blk.new W0 24 #[.pointer (some ⟨t, 0, none⟩)]).alloc (.cells #[.int .i64 (-9223372036854775808)] 3)
    rw [hW1, hz0] at this
    exact this
  have hb2 : Blk W1 (w.heap.size + 2) 3 #[.int .i64 (-9223372036854775808)] := by
    have := Blk.new (W0.alloc (.cells #[.pointer (some ⟨t, 0, none⟩)] 24)) 3 #[.int .i64 (-9223372036854775808)]
    rw [hW1] at this
    simpa [hz0] using this
  have hea := beach_any t (-9223372036854775808) W0 W1 hW1
  rw [hz0] at hea
  have H := Lib.hid (And.intro hb (And.intro hs (And.intro hea (And.intro hW0 (And.intro hn1 (And.intro hb1 (And.intro hb2 (And.intro (Grew.trans hg0 hg1) hz1))))))))
  clear hb hs hea hW0 hW1 hn1 hb1 hb2 hg0 hg1 hz0 hz1
  (refine calls_of_marks Tryz.func24 rfl ?_; simp only [Tryz.ntmps24, List.size_toArray, List.length_cons, List.length_nil, Nat.reduceAdd, Nat.reduceSub, Array.replicate_succ, Array.replicate_zero, List.push_toArray, List.append_toArray, List.nil_append, List.cons_append])
  go_wp2_with fail
  rw [H.out.2.2.2.1]
  refine H.out.2.2.1.mono ?_
  rintro e w1 ⟨rfl, rfl⟩
  go_wp2_with fail
  refine wp_range (gf := 48) (lb := #[.pointer (some ⟨w.heap.size + 1, 0, none⟩), .pointer (some ⟨w.heap.size + 1 + 1, 0, none⟩)]) rfl (enters_of Tryz.func48 (by kernel_rfl) rfl) ?_
  intro r Wr D2 Lr hr hgr hDl hLl hD hR
  have hDL := Ne.symm (hR.ne_dfr hD)
  have hsr := hgr.size
  have hz1 := H.out.2.2.2.2.2.2.2.2
  have hL2 := hR.lt
  have hD2 := hD.lt
  have htl := H.out.1.blk.lt
  have hpos := tab_pos H.out.1.gp.tab
  have hFl := H.out.1.gp.lt
  have hA : LnA Wr t F (w.heap.size + 1) (w.heap.size + 2) w.heap.size Lr := ⟨⟨fun e => by have := hFl _ e; omega, by omega, by omega, by omega, by omega, by omega⟩, ⟨fun e => by have := hFl _ e; omega, by omega, by omega, by omega, by omega⟩, ⟨fun e => by have := hFl _ e; omega, fun e => by have := hFl _ e; omega⟩, ⟨hL2, by omega, by omega, by omega⟩⟩
  have hgw : Grew w Wr := Grew.trans H.out.2.2.2.2.2.2.2.1 hgr
  have hJ0 : LnJ Wr Wr t p root F x (w.heap.size + 1) (w.heap.size + 2) w.heap.size Lr 0 r .ready none := ⟨H.out.1.grew hgw, H.out.2.2.2.2.2.1.grew hgr, H.out.2.2.2.2.2.2.1.grew hgr, Chg.refl _ _, H.out.2.2.2.2.1.grew hgr, hR⟩
  have HR1 := Lib.hid (And.intro hr (And.intro hA (And.intro hJ0 (And.intro hgw hD))))
  clear hr hA hJ0 hgw hD hR hgr
  refine (beach_iter (w.heap.size + 1) (w.heap.size + 2) t p root Lr D (-9223372036854775808) F x L P (fun k W => LnJ Wr W t p root F x (w.heap.size + 1) (w.heap.size + 2) w.heap.size Lr k r .ready none) (fun _ => False) Wr H.out.2.1
    (fun k W h => ⟨h.b0, h.b1, h.b2⟩) (fun W h => h.elim) (fun k W W' h hc hb => h.far HR1.out.2.1 hc hb) (fun k a b W h hk => ?yld) HR1.out.2.2.1).mono ?post
  case yld =>
    have hkL : k < L.length := by
      have := (List.getElem?_eq_some_iff.1 hk).1
      rw [H.out.2.1.least H.out.1.gp] at this
      exact this
    have HJ := Lib.hid h
    clear h hk
    obtain ⟨hr1, hr2, hr3, hr4⟩ := HR1.out.1
    refine yield_wide HJ.out.rc (by rw [hr2]; rfl) ?_
    rw [hr1, hr2, hr3, hr4]
    clear hr1 hr2 hr3 hr4
    intro K hK
    have HK := Lib.hid hK
    clear hK
    gi_wp2
    refine HK.out _ _ HJ.out.rc fun W3 Q hk3 hR2 hQ => ?_
    have HQ := Lib.hid hQ
    have HJ3 := Lib.hid (HJ.out.kept HR1.out.2.1 hk3 hR2)
    have HK3 := Lib.hid hk3
    clear hk3 hR2 hQ
    obtain ⟨c0, f0, s0⟩ := HJ3.out.cnt.facts
    gi_wp2
    obtain ⟨W5, hW5⟩ : ∃ W5, W3.setCell ⟨w.heap.size, 0, none⟩ (.int .i64 ((k + 1 : Nat) : Int)) = W5 := ⟨_, rfl⟩
    have hJ5 := HJ3.out.set HR1.out.2.1 hW5
    have hW5' : W3.setCell ⟨w.heap.size, 0, none⟩ (.int .i64 ((k : Int) + 1)) = W5 := by rw [← hW5]; simp
    rw [hW5']
    have hc5 : Chg (fun j => j = w.heap.size) W3 W5 := hW5 ▸ (Chg.refl (fun j => j = w.heap.size) W3).setCell (p := ⟨w.heap.size, 0, none⟩) (fun _ => rfl) _
    have hl := HR1.out.2.1.lt
    exact HQ.out _ _ _ ⟨hJ5.rc, fun w' hk' hR' => ⟨.inl ⟨rfl, hJ5.kept HR1.out.2.1 hk' hR'⟩, Chg.trans (Chg.trans (HK3.out.chg.mono fun j _ e => by omega) hc5 fun j _ e => by omega) hk'.chg fun j _ e => by omega⟩⟩
  case post =>
    rintro e w3 ⟨hv, hJ | hJ⟩
    · rw [H.out.2.1.least H.out.1.gp] at hJ
      refine ⟨hv, .inl ⟨hJ.rc, fun w4 hk4 => ?_⟩⟩
      have hc4 := Chg.trans hJ.chg hk4.chg fun i _ e => .inr (.inr e)
      have hD4 := HR1.out.2.2.2.2.chg hc4 (fun e => by rcases e with e | e | e; (have := hFl _ e; omega); omega; omega)
      have hb4 := hJ.b0.chg hk4.chg (fun j hj e => HR1.out.2.1.l.1 (e ▸ hj)) (fun e => HR1.out.2.1.l.2.2.2.2.2 e.symm) (fun e => HR1.out.2.1.l.2.1 e.symm)
      have hn4 := hJ.cnt.kept hk4
      have H4 := Lib.hid (And.intro hc4 (And.intro hD4 hb4))
      clear hc4 hD4 hb4 hJ hk4
      obtain ⟨c2, f2, s2⟩ := hn4.facts
      go_wp2
      refine postM_ret1 (v := .int .i64 L.length) (D := D2) H4.out.2.1 rfl fun w6 hk6 => ?_
      refine ⟨by simp [results, Tryz.results24, go_sem], rfl, ?_, ?_⟩
      · exact H4.out.2.2.chg hk6.chg (fun j hj e => by have := hFl j hj; omega) (fun e => by omega) (fun e => by omega)
      · have hcw := Chg.trans (F := fun j => F j ∨ w.heap.size ≤ j) (HR1.out.2.2.2.1.chg) (Chg.trans (H4.out.1.mono (G := fun j => F j ∨ w.heap.size ≤ j) fun j _ e => by rcases e with e | e | e; exact .inl e; exact .inr (by omega); exact .inr (by omega)) hk6.chg (G := fun j => j = D2) (F := fun j => F j ∨ w.heap.size ≤ j) fun j _ e => .inr (by omega)) fun j _ e => e
        exact hcw.mono fun j hj e => e.resolve_right (by omega)
    · exact hJ.elim
end Go.Proofs.YtpkkcicaeldodaaGreatDoor

/- The tree: edge, Least, Greatest. (Printed by genBtZd.py.) -/
namespace Go.Proofs.YtpkkcicaeldodaaGreatDoor
open Go.RowKit Go.Maps

theorem Fr.first {R : Nat → List KV → List Nat → Prop} {ks : List Nat} {kv L : List KV} {P : List Nat} (h : Fr R ks kv L P) : ∃ q M Q T, ks[0]? = some q ∧ R q M Q ∧ L = M ++ T := by
  cases h with
  | one h1 => exact ⟨_, _, _, [], rfl, h1, by simp⟩
  | cons h1 h2 => exact ⟨_, _, _, _, rfl, h1, rfl⟩
theorem Fr.last {R : Nat → List KV → List Nat → Prop} {ks : List Nat} {kv L : List KV} {P : List Nat} (h : Fr R ks kv L P) : ∃ q M Q T, ks[kv.length]? = some q ∧ R q M Q ∧ L = T ++ M := by
  induction h with
  | one h1 => exact ⟨_, _, _, [], rfl, h1, by simp⟩
  | cons h1 _ ih =>
    obtain ⟨q, M, Q, T, g1, g2, g3⟩ := ih
    exact ⟨q, M, Q, _, by simpa using g1, g2, by rw [g3, ← List.cons_append, ← List.append_assoc]⟩
def edA : Option KV → Int
  | some y => y.1
  | none => 0
def edB : Option KV → Int
  | some y => y.2
  | none => 0
def edE : Option KV → Int
  | some _ => 0
  | none => 14
theorem Tc.some {rd : Nat → Option Nd} {h d q : Nat} {L : List KV} {P : List Nat} (t : Tc rd h d q L P) (hh : 2 ≤ h) : L ≠ [] := fun e => by
  have := Tc.deep hh t
  have hp : 2 ^ 1 ≤ 2 ^ (d + 1) := Nat.pow_le_pow_right (by omega) (by omega)
  rw [e] at this
  simp at this
  try omega
theorem head_app {M T : List KV} (h : M ≠ []) : (M ++ T).head? = M.head? := by
  cases M with
  | nil => exact absurd rfl h
  | cons a t => rfl
theorem last_app {M T : List KV} (h : M ≠ []) : (T ++ M).getLast? = M.getLast? := by
  rw [List.getLast?_append]
  cases hM : M.getLast? with
  | none => exact absurd (List.getLast?_eq_none_iff.1 hM) h
  | some a => rfl

set_option maxRecDepth 100000 in
set_option maxHeartbeats 3200000 in
theorem bedge_false (t p root D : Nat) (L : List KV) (P : List Nat) (F : Nat → Prop) (x : Rp) (w : World) (hb : BT w t p root F x) (hs : TS x D root L P) (hD : D < 40) :
    Calls Tryz.prog 91 #[.pointer (some ⟨t, 0, none⟩), .int .i64 root, .bool false] w fun e w' => e = .returned (.tuple #[.int .i64 (edA L.head?), .int .i64 (edB L.head?), .int .i64 (edE L.head?)]) ∧ BT w' t p root F x ∧ Chg F w w' := by
  have hh := half_two hb.gp.szs.2.2.1
  have H := Lib.hid (And.intro hb (And.intro hs hh))
  clear hb hs hh
  go_enter Tryz.func91, Tryz.ntmps91
  go_wp2
  go_loopg [1, 12] (D + 1) (fun q pg i wr => ∃ (d c : Nat) (M : List KV) (PM : List Nat), q = d + 1 ∧ d ≤ D ∧ pg = .int .i64 c ∧ i = .int .i64 ((D - d : Nat) : Int) ∧ BT wr t p root F x ∧ Chg F w wr ∧ Tr x.nd (halfN x.sz) d c M PM ∧ L.head? = M.head?)
  case atStart => exact ⟨D, root, L, P, rfl, Nat.le_refl _, rfl, by simp, H.out.1, Chg.refl _ _, H.out.2.1.tr, rfl⟩
  case round =>
    obtain ⟨d, c, M, PM, rfl, hd, rfl, rfl, hbt, hc, ht, hM⟩ := hrel
    obtain ⟨j, hj⟩ : ∃ j, D - d = j := ⟨_, rfl⟩
    have hjl : (j : Int) < 40 := by omega
    rw [hj]
    obtain ⟨nd, hnd, hvl, -, hdz⟩ := ht.node
    have hft := hbt.gp.fit hnd
    obtain ⟨cp, hp1, hp2, hp3⟩ := Rp.nd_some hnd
    have hld := bload_any t p root c F x cp nd wr hbt hp1 hp2 hp3
    have hkl : nd.keys.length ≤ 300 := by have h1 := hft.1.most; have h2 := hbt.gp.szs; unfold mostN at h1; omega
    have HW := Lib.hid (And.intro hld (And.intro hc (And.intro ht (And.intro hM (And.intro hnd (And.intro hj (And.intro hd hvl)))))))
    clear hbt hc ht hM hft hp1 hp2 hp3 hld hj hd hvl hnd
    go_wp2_with fail
    refine HW.out.1.mono ?_
    rintro e w3 ⟨b, N, rfl, hn3, hNn, hbt3, hc3⟩
    have hlf := leaf_any b c nd N w3 hn3.at
    have H3 := Lib.hid (And.intro hlf (And.intro hn3 (And.intro hbt3 (Chg.trans HW.out.2.1 hc3 fun _ _ e => e))))
    obtain ⟨Ak, ck, Av, cv, Ac, cc, b1, b2, b3, b4, -⟩ := hn3.at
    clear hlf hn3 hNn hbt3 hc3
    by_cases h0 : nd.kids.length = 0
    · obtain rfl : d = 0 := hdz.1 h0
      have t1 : decide (nd.kids.length = 0) = true := decide_eq_true h0
      have hML : M = nd.kvs := by
        obtain ⟨nd', g1, -, -, -, g5, -⟩ := HW.out.2.2.1
        rw [HW.out.2.2.2.2.1] at g1
        cases g1
        exact g5
      by_cases hk0 : nd.keys.length = 0
      · have hk : nd.keys = [] := List.eq_nil_of_length_eq_zero hk0
        have hL0 : L.head? = none := by rw [HW.out.2.2.2.1, hML]; unfold Nd.kvs; rw [hk]; rfl
        rw [hk0] at b1
        have t2 : ((0 : Int) == 0) = true := rfl
        obtain ⟨c0, f0, s0⟩ := b1.facts
        have HL0 := Lib.hid hL0
        clear hML hk hL0 b1 b2 b3 b4 hk0 hdz
        go_wp2_with (go_at_call 41; (refine H3.out.1.mono ?_); rintro e w5 ⟨rfl, rfl⟩)
        rw [HL0.out]
        refine bodyPost_ret (v := .tuple #[.int .i64 (edA (none : Option KV)), .int .i64 (edB (none : Option KV)), .int .i64 (edE (none : Option KV))]) (by simp [results, Tryz.results91, go_sem, edA, edB, edE]) rfl ?_
        exact ⟨rfl, H3.out.2.2.1, H3.out.2.2.2⟩
      · obtain ⟨m, hm⟩ : ∃ m, nd.keys.length = m + 1 := ⟨nd.keys.length - 1, by omega⟩
        have hvm : nd.vals.length = m + 1 := HW.out.2.2.2.2.2.2.2.trans hm
        obtain ⟨a, ha⟩ : ∃ a, nd.keys[0]? = some a := ⟨_, List.getElem?_eq_getElem (by omega)⟩
        obtain ⟨v, hv⟩ : ∃ v, nd.vals[0]? = some v := ⟨_, List.getElem?_eq_getElem (by omega)⟩
        have hkv := kvs_at HW.out.2.2.2.2.2.2.2 ha hv
        have hL0 : L.head? = some (a, v) := by
          rw [HW.out.2.2.2.1, hML]
          rw [List.head?_eq_getElem?]; exact hkv
        obtain ⟨gk, ok, rfl, hgk, hxk⟩ := b2.2 (by omega)
        obtain ⟨gv, ov, rfl, hgv, hxv⟩ := b3.2 (by omega)
        have hck : w3.cell? ⟨gk, ok + 0, none⟩ = some (.int .i64 a) := hxk 0 _ (by simp [iv, ha])
        have hcv : w3.cell? ⟨gv, ov + 0, none⟩ = some (.int .i64 v) := hxv 0 _ (by simp [iv, hv])
        rw [hm, hvm] at b1
        have t2 : (((m + 1 : Nat) : Int) == 0) = false := by simp; omega
        have t2' : ((m : Int) + 1 == 0) = false := by simp; omega
        obtain ⟨c0, f0, s0⟩ := b1.facts
        have HL0 := Lib.hid hL0
        have hm3 : m ≤ 300 := by omega
        have Hdd := Lib.hid (And.intro hck hcv)
        clear hML hL0 b1 b2 b3 b4 hk0 hdz ha hv hkv hxk hxv hgk hgv hm hvm
        rw [Nat.add_zero] at hck hcv
        go_wp2_with (go_at_call 41; (refine H3.out.1.mono ?_); rintro e w5 ⟨rfl, rfl⟩)
        go_quiet (fail)
        go_wp2_with fail
        rw [HL0.out]
        refine bodyPost_ret (v := .tuple #[.int .i64 (edA (some (a, v) : Option KV)), .int .i64 (edB (some (a, v) : Option KV)), .int .i64 (edE (some (a, v) : Option KV))]) (by simp [results, Tryz.results91, go_sem, edA, edB, edE]) rfl ?_
        exact ⟨rfl, H3.out.2.2.1.grew ((Chg.refl NoF _).drewN _), H3.out.2.2.2.grew ((Chg.refl NoF _).drewN _)⟩
    · have t1 : decide (nd.kids.length = 0) = false := decide_eq_false h0
      have t1' : decide (nd.kids = []) = false := decide_eq_false fun e => h0 (by rw [e]; rfl)
      obtain ⟨d', rfl⟩ : ∃ d', d = d' + 1 := ⟨d - 1, by have hd0 : d ≠ 0 := (fun e => h0 (hdz.2 e)); omega⟩
      obtain ⟨nd', P', g1, g2, g3, g4, g5, -⟩ := HW.out.2.2.1
      rw [HW.out.2.2.2.2.1] at g1
      cases g1
      obtain ⟨m, hm⟩ : ∃ m, nd.keys.length = m + 1 := ⟨nd.keys.length - 1, by omega⟩
      have hvm : nd.vals.length = m + 1 := g2.trans hm
      have hcl := g5.len
      rw [kvs_len g2, hm] at hcl
      obtain ⟨c2, M2, Q2, T2, e1, e2, e3⟩ := g5.first
      skip
      have hM2 : L.head? = M2.head? := by rw [HW.out.2.2.2.1, e3]; exact head_app (Tc.some e2 H.out.2.2)
      obtain ⟨gc, oc, rfl, hgc, hxc⟩ := b4.2 (by omega)
      have hcc : w3.cell? ⟨gc, oc + 0, none⟩ = some (.int .i64 c2) := hxc (0) _ (by simp [nv, e1])
      rw [hm, hvm, hcl] at b1
      rw [Nat.add_zero] at hcc
      obtain ⟨c0, f0, s0⟩ := b1.facts
      have hm3 : m ≤ 300 := by omega
      have H4 := Lib.hid (And.intro e2.1 hM2)
      clear g2 g3 g4 g5 e1 e2 e3 hM2 hcl b1 b2 b3 b4 hxc hgc hdz h0 hm hvm
      go_wp2_with (go_at_call 41; (refine H3.out.1.mono ?_); rintro e w5 ⟨rfl, rfl⟩)
      clear c0 f0 s0 hcc
      have hd4 := HW.out.2.2.2.2.2.2.1
      have hj4 := HW.out.2.2.2.2.2.1
      go_roundg (d' + 1)
      case measure => omega
      case rel => exact ⟨d', c2, M2, Q2, rfl, by omega, rfl, by congr 1; omega, H3.out.2.2.1, H3.out.2.2.2, H4.out.1, H4.out.2⟩

set_option maxRecDepth 100000 in
set_option maxHeartbeats 3200000 in
theorem bedge_true (t p root D : Nat) (L : List KV) (P : List Nat) (F : Nat → Prop) (x : Rp) (w : World) (hb : BT w t p root F x) (hs : TS x D root L P) (hD : D < 40) :
    Calls Tryz.prog 91 #[.pointer (some ⟨t, 0, none⟩), .int .i64 root, .bool true] w fun e w' => e = .returned (.tuple #[.int .i64 (edA L.getLast?), .int .i64 (edB L.getLast?), .int .i64 (edE L.getLast?)]) ∧ BT w' t p root F x ∧ Chg F w w' := by
  have hh := half_two hb.gp.szs.2.2.1
  have H := Lib.hid (And.intro hb (And.intro hs hh))
  clear hb hs hh
  go_enter Tryz.func91, Tryz.ntmps91
  go_wp2
  go_loopg [1, 12] (D + 1) (fun q pg i wr => ∃ (d c : Nat) (M : List KV) (PM : List Nat), q = d + 1 ∧ d ≤ D ∧ pg = .int .i64 c ∧ i = .int .i64 ((D - d : Nat) : Int) ∧ BT wr t p root F x ∧ Chg F w wr ∧ Tr x.nd (halfN x.sz) d c M PM ∧ L.getLast? = M.getLast?)
  case atStart => exact ⟨D, root, L, P, rfl, Nat.le_refl _, rfl, by simp, H.out.1, Chg.refl _ _, H.out.2.1.tr, rfl⟩
  case round =>
    obtain ⟨d, c, M, PM, rfl, hd, rfl, rfl, hbt, hc, ht, hM⟩ := hrel
    obtain ⟨j, hj⟩ : ∃ j, D - d = j := ⟨_, rfl⟩
    have hjl : (j : Int) < 40 := by omega
    rw [hj]
    obtain ⟨nd, hnd, hvl, -, hdz⟩ := ht.node
    have hft := hbt.gp.fit hnd
    obtain ⟨cp, hp1, hp2, hp3⟩ := Rp.nd_some hnd
    have hld := bload_any t p root c F x cp nd wr hbt hp1 hp2 hp3
    have hkl : nd.keys.length ≤ 300 := by have h1 := hft.1.most; have h2 := hbt.gp.szs; unfold mostN at h1; omega
    have HW := Lib.hid (And.intro hld (And.intro hc (And.intro ht (And.intro hM (And.intro hnd (And.intro hj (And.intro hd hvl)))))))
    clear hbt hc ht hM hft hp1 hp2 hp3 hld hj hd hvl hnd
    go_wp2_with fail
    refine HW.out.1.mono ?_
    rintro e w3 ⟨b, N, rfl, hn3, hNn, hbt3, hc3⟩
    have hlf := leaf_any b c nd N w3 hn3.at
    have H3 := Lib.hid (And.intro hlf (And.intro hn3 (And.intro hbt3 (Chg.trans HW.out.2.1 hc3 fun _ _ e => e))))
    obtain ⟨Ak, ck, Av, cv, Ac, cc, b1, b2, b3, b4, -⟩ := hn3.at
    clear hlf hn3 hNn hbt3 hc3
    by_cases h0 : nd.kids.length = 0
    · obtain rfl : d = 0 := hdz.1 h0
      have t1 : decide (nd.kids.length = 0) = true := decide_eq_true h0
      have hML : M = nd.kvs := by
        obtain ⟨nd', g1, -, -, -, g5, -⟩ := HW.out.2.2.1
        rw [HW.out.2.2.2.2.1] at g1
        cases g1
        exact g5
      by_cases hk0 : nd.keys.length = 0
      · have hk : nd.keys = [] := List.eq_nil_of_length_eq_zero hk0
        have hL0 : L.getLast? = none := by rw [HW.out.2.2.2.1, hML]; unfold Nd.kvs; rw [hk]; rfl
        rw [hk0] at b1
        have t2 : ((0 : Int) == 0) = true := rfl
        obtain ⟨c0, f0, s0⟩ := b1.facts
        have HL0 := Lib.hid hL0
        clear hML hk hL0 b1 b2 b3 b4 hk0 hdz
        go_wp2_with (go_at_call 41; (refine H3.out.1.mono ?_); rintro e w5 ⟨rfl, rfl⟩)
        rw [HL0.out]
        refine bodyPost_ret (v := .tuple #[.int .i64 (edA (none : Option KV)), .int .i64 (edB (none : Option KV)), .int .i64 (edE (none : Option KV))]) (by simp [results, Tryz.results91, go_sem, edA, edB, edE]) rfl ?_
        exact ⟨rfl, H3.out.2.2.1, H3.out.2.2.2⟩
      · obtain ⟨m, hm⟩ : ∃ m, nd.keys.length = m + 1 := ⟨nd.keys.length - 1, by omega⟩
        have hvm : nd.vals.length = m + 1 := HW.out.2.2.2.2.2.2.2.trans hm
        obtain ⟨a, ha⟩ : ∃ a, nd.keys[m]? = some a := ⟨_, List.getElem?_eq_getElem (by omega)⟩
        obtain ⟨v, hv⟩ : ∃ v, nd.vals[m]? = some v := ⟨_, List.getElem?_eq_getElem (by omega)⟩
        have hkv := kvs_at HW.out.2.2.2.2.2.2.2 ha hv
        have hL0 : L.getLast? = some (a, v) := by
          rw [HW.out.2.2.2.1, hML]
          rw [List.getLast?_eq_getElem?, kvs_len HW.out.2.2.2.2.2.2.2, hm]; exact hkv
        obtain ⟨gk, ok, rfl, hgk, hxk⟩ := b2.2 (by omega)
        obtain ⟨gv, ov, rfl, hgv, hxv⟩ := b3.2 (by omega)
        have hck : w3.cell? ⟨gk, ok + m, none⟩ = some (.int .i64 a) := hxk m _ (by simp [iv, ha])
        have hcv : w3.cell? ⟨gv, ov + m, none⟩ = some (.int .i64 v) := hxv m _ (by simp [iv, hv])
        rw [hm, hvm] at b1
        have t2 : (((m + 1 : Nat) : Int) == 0) = false := by simp; omega
        have t2' : ((m : Int) + 1 == 0) = false := by simp; omega
        obtain ⟨c0, f0, s0⟩ := b1.facts
        have HL0 := Lib.hid hL0
        have hm3 : m ≤ 300 := by omega
        have Hdd := Lib.hid (And.intro hck hcv)
        clear hML hL0 b1 b2 b3 b4 hk0 hdz ha hv hkv hxk hxv hgk hgv hm hvm
        skip
        go_wp2_with (go_at_call 41; (refine H3.out.1.mono ?_); rintro e w5 ⟨rfl, rfl⟩)
        go_quiet (fail)
        go_wp2_with fail
        rw [HL0.out]
        refine bodyPost_ret (v := .tuple #[.int .i64 (edA (some (a, v) : Option KV)), .int .i64 (edB (some (a, v) : Option KV)), .int .i64 (edE (some (a, v) : Option KV))]) (by simp [results, Tryz.results91, go_sem, edA, edB, edE]) rfl ?_
        exact ⟨rfl, H3.out.2.2.1.grew ((Chg.refl NoF _).drewN _), H3.out.2.2.2.grew ((Chg.refl NoF _).drewN _)⟩
    · have t1 : decide (nd.kids.length = 0) = false := decide_eq_false h0
      have t1' : decide (nd.kids = []) = false := decide_eq_false fun e => h0 (by rw [e]; rfl)
      obtain ⟨d', rfl⟩ : ∃ d', d = d' + 1 := ⟨d - 1, by have hd0 : d ≠ 0 := (fun e => h0 (hdz.2 e)); omega⟩
      obtain ⟨nd', P', g1, g2, g3, g4, g5, -⟩ := HW.out.2.2.1
      rw [HW.out.2.2.2.2.1] at g1
      cases g1
      obtain ⟨m, hm⟩ : ∃ m, nd.keys.length = m + 1 := ⟨nd.keys.length - 1, by omega⟩
      have hvm : nd.vals.length = m + 1 := g2.trans hm
      have hcl := g5.len
      rw [kvs_len g2, hm] at hcl
      obtain ⟨c2, M2, Q2, T2, e1, e2, e3⟩ := g5.last
      rw [kvs_len g2, hm] at e1
      have hM2 : L.getLast? = M2.getLast? := by rw [HW.out.2.2.2.1, e3]; exact last_app (Tc.some e2 H.out.2.2)
      obtain ⟨gc, oc, rfl, hgc, hxc⟩ := b4.2 (by omega)
      have hcc : w3.cell? ⟨gc, oc + (m + 1), none⟩ = some (.int .i64 c2) := hxc ((m + 1)) _ (by simp [nv, e1])
      rw [hm, hvm, hcl] at b1
      skip
      obtain ⟨c0, f0, s0⟩ := b1.facts
      have hm3 : m ≤ 300 := by omega
      have H4 := Lib.hid (And.intro e2.1 hM2)
      clear g2 g3 g4 g5 e1 e2 e3 hM2 hcl b1 b2 b3 b4 hxc hgc hdz h0 hm hvm
      go_wp2_with (go_at_call 41; (refine H3.out.1.mono ?_); rintro e w5 ⟨rfl, rfl⟩)
      clear c0 f0 s0 hcc
      have hd4 := HW.out.2.2.2.2.2.2.1
      have hj4 := HW.out.2.2.2.2.2.1
      go_roundg (d' + 1)
      case measure => omega
      case rel => exact ⟨d', c2, M2, Q2, rfl, by omega, rfl, by congr 1; omega, H3.out.2.2.1, H3.out.2.2.2, H4.out.1, H4.out.2⟩

theorem bleast_any (t p root D : Nat) (L : List KV) (P : List Nat) (F : Nat → Prop) (x : Rp) (w : World) (hb : BT w t p root F x) (hs : TS x D root L P) (hD : D < 40) :
    Calls Tryz.prog 45 #[.pointer (some ⟨t, 0, none⟩)] w fun e w' => e = .returned (.tuple #[.int .i64 (edA L.head?), .int .i64 (edB L.head?), .int .i64 (edE L.head?)]) ∧ BT w' t p root F x ∧ Chg F w w' := by
  obtain ⟨c0, f0, s0⟩ := hb.blk.facts
  have H := Lib.hid (bedge_false t p root D L P F x w hb hs hD)
  clear hb hs
  go_enter Tryz.func45, Tryz.ntmps45
  go_wp2_with fail
  refine H.out.mono ?_
  rintro e w1 ⟨rfl, h1, h2⟩
  have H1 := Lib.hid (And.intro h1 h2)
  clear h1 h2
  go_wp2_with fail
  refine bodyPost_ret (v := .tuple #[.int .i64 (edA L.head?), .int .i64 (edB L.head?), .int .i64 (edE L.head?)]) (by simp [results, Tryz.results45, go_sem]) rfl ?_
  exact ⟨rfl, H1.out⟩
theorem bgreatest_any (t p root D : Nat) (L : List KV) (P : List Nat) (F : Nat → Prop) (x : Rp) (w : World) (hb : BT w t p root F x) (hs : TS x D root L P) (hD : D < 40) :
    Calls Tryz.prog 46 #[.pointer (some ⟨t, 0, none⟩)] w fun e w' => e = .returned (.tuple #[.int .i64 (edA L.getLast?), .int .i64 (edB L.getLast?), .int .i64 (edE L.getLast?)]) ∧ BT w' t p root F x ∧ Chg F w w' := by
  obtain ⟨c0, f0, s0⟩ := hb.blk.facts
  have H := Lib.hid (bedge_true t p root D L P F x w hb hs hD)
  clear hb hs
  go_enter Tryz.func46, Tryz.ntmps46
  go_wp2_with fail
  refine H.out.mono ?_
  rintro e w1 ⟨rfl, h1, h2⟩
  have H1 := Lib.hid (And.intro h1 h2)
  clear h1 h2
  go_wp2_with fail
  refine bodyPost_ret (v := .tuple #[.int .i64 (edA L.getLast?), .int .i64 (edB L.getLast?), .int .i64 (edE L.getLast?)]) (by simp [results, Tryz.results46, go_sem]) rfl ?_
  exact ⟨rfl, H1.out⟩
end Go.Proofs.YtpkkcicaeldodaaGreatDoor

/- The tree's document: Find, Put. -/
namespace Go.Proofs.YtpkkcicaeldodaaGreatDoor
open Go.RowKit

def kvV (x : KV) : List Value := [.int .i64 x.1, .int .i64 x.2]
def kvs2 (l : List KV) : List Value := l.flatMap kvV
theorem kvs2_len (l : List KV) : (kvs2 l).length = l.length * 2 := by
  unfold kvs2
  induction l with
  | nil => rfl
  | cons x l ih => rw [List.flatMap_cons, List.length_append, ih, List.length_cons]; simp only [kvV, List.length_cons, List.length_nil]; omega
theorem kvs2_at : ∀ (l : List KV) (k : Nat) (x : KV), l[k]? = some x → (kvs2 l)[k * 2]? = some (.int .i64 x.1) ∧ (kvs2 l)[k * 2 + 1]? = some (.int .i64 x.2)
  | [], _, _, h => by simp at h
  | y :: l, 0, x, h => by
    simp only [List.getElem?_cons_zero, Option.some.injEq] at h
    subst h
    exact ⟨rfl, rfl⟩
  | y :: l, k + 1, x, h => by
    simp only [List.getElem?_cons_succ] at h
    obtain ⟨h1, h2⟩ := kvs2_at l k x h
    rw [show (k + 1) * 2 = k * 2 + 1 + 1 by omega]
    exact ⟨h1, h2⟩
theorem kvs2_snoc (l : List KV) (a b : Int) : kvs2 l ++ [.int .i64 a, .int .i64 b] = kvs2 (l ++ [(a, b)]) := by simp [kvs2, kvV]
theorem Sl.atKv {w : World} {A : Option Addr} {l : List KV} (h : Sl w 2 A l.length (kvs2 l)) {k : Nat} {x : KV} (hx : l[k]? = some x) : ∃ b off, A = some ⟨b, off, none⟩ ∧ b < w.heap.size ∧ w.cell? ⟨b, off + k * 2, none⟩ = some (.int .i64 x.1) ∧ w.cell? ⟨b, off + k * 2 + 1, none⟩ = some (.int .i64 x.2) := by
  have hk : k < l.length := (List.getElem?_eq_some_iff.1 hx).1
  obtain ⟨b, off, hA, hb, hc⟩ := h.2 (by omega)
  obtain ⟨h1, h2⟩ := kvs2_at l k x hx
  exact ⟨b, off, hA, hb, hc _ _ h1, by rw [Nat.add_assoc]; exact hc _ _ h2⟩
theorem kvInfo : (Tryz.prog.info? 41).map (fun i => (i.zero, i.size, i.bytes)) = some (some (.agg #[.int .i64 0, .int .i64 0]), 2, 16) := by kernel_rfl
theorem app_kv {w : World} {ops : Array Oper} {rest : List Oper} {o : Oper} {a : Act} {Q : Exit → Act → World → Prop} (hgd : o.guard = none) (s x : Operand)
    (ho : o.op = .call { callee := .builtin .append, args := #[s, x], argTypes := #[29, 29] }) (base : Nat) (v : Value) (n : Nat) (xs : List Value) (hs : a.eval s = v) (hown : w.ownsRow base 41 2 v n xs)
    (e1 e2 : Int) (hx : a.eval x = .slice (some ⟨w.heap.size, 0, none⟩) 1 1) (hn : n ≤ 1000000) (hb : base ≤ w.heap.size)
    (h : ∀ v' w', w'.ownsRow base 41 2 v' (n + 1) (xs ++ [.int .i64 e1, .int .i64 e2]) → Ap w w' v v' → wpList Tryz.prog ops Q rest (a.put o.dst v') w') :
    wpList Tryz.prog ops Q (o :: rest) a (w.alloc (.cells #[.int .i64 e1, .int .i64 e2] 41)) := by
  obtain ⟨i0, hi0, hz0, hz1, hz2⟩ := info_parts kvInfo
  refine wpList_append_own_at _ hgd s x 29 ho base 41 i0 _ 2 16 Tryz.underlying29 hi0 hz0 hz1 hz2 rfl (by omega) v n xs hs (own_grew hown ((Chg.refl _ _).alloc _)) ⟨w.heap.size, 0, none⟩ 1 1 [.int .i64 e1, .int .i64 e2] hx rfl (World.news_of_block (Blk.new w 41 #[.int .i64 e1, .int .i64 e2])) (by simp [Value.oneCell']) (by simp only [maxLen]; omega) (by omega) (by simp; omega) ?_
  intro v1 w1 h1 h2 _ h4
  exact h v1 w1 h1 ((Ap.refl _ _).push ((Chg.refl _ _).alloc _) h2 h4)

/-- What stands behind the first ones of a list in order. -/
theorem putL_lt {T : List KV} {k v : Int} (h : ∀ x ∈ T, x.1 < k) : putL T k v = T ++ [(k, v)] := by
  unfold putL
  rw [filter_all fun x hx => by simpa using h x hx, filter_none fun x hx => by have := h x hx; simp; omega]
theorem putL_gt {T : List KV} {k v : Int} {x : KV} (h : k < x.1) : putL (T ++ [x]) k v = putL T k v ++ [x] := by
  unfold putL
  simp only [List.filter_append, List.filter_cons, List.filter_nil]
  rw [if_neg (by simp; omega), if_pos (by simpa using h)]
  simp
theorem putL_ge {T : List KV} {k v : Int} {x : KV} (h : ∀ y ∈ T, y.1 < k) (hx : k ≤ x.1) : putL (T ++ [x]) k v = T ++ [(k, v)] ++ if x.1 ≠ k then [x] else [] := by
  unfold putL
  simp only [List.filter_append, List.filter_cons, List.filter_nil]
  rw [filter_all (l := T) fun y hy => by simpa using h y hy, filter_none (l := T) (p := fun y => decide (k < y.1)) fun y hy => by have := h y hy; simp; omega, if_neg (by simp; omega)]
  by_cases e : x.1 = k
  · rw [if_neg (by simp; omega), if_neg (by simp [e])]; simp
  · rw [if_pos (by simp; omega), if_pos e]; simp

set_option maxRecDepth 100000 in
set_option maxHeartbeats 1600000 in
theorem xput_any (k v : Int) (l : List KV) (A : Option Addr) (c : Nat) (w : World) (hs : Sl w 2 A l.length (kvs2 l)) (hl : l.length ≤ 100000) (hsr : Srt l) :
    Calls Tryz.prog 12 #[.slice A l.length c, .int .i64 k, .int .i64 v] w fun e w' => OwnOut w w' 41 2 (putL l k v).length (kvs2 (putL l k v)) (fun A c => .slice A (putL l k v).length c) e := by
  have H := Lib.hid (And.intro hs hsr)
  clear hs hsr
  go_enter Tryz.func12, Tryz.ntmps12
  go_wp2
  go_loopg [7, 8, 9] l.length (fun q o d i wr => ∃ (j : Nat) (out : List KV) (dn : Bool), q = l.length - j ∧ j ≤ l.length ∧ i = .int .i64 j ∧ d = .bool dn ∧ out.length ≤ j + 1 ∧ wr.ownsRow w.heap.size 41 2 o out.length (kvs2 out) ∧ Grew w wr ∧
    ((dn = false ∧ out = l.take j ∧ ∀ x ∈ l.take j, x.1 < k) ∨ (dn = true ∧ out = putL (l.take j) k v ∧ ∀ x ∈ l.drop j, k < x.1)))
  case atStart => exact ⟨0, [], false, rfl, Nat.zero_le _, rfl, rfl, by simp, World.ownsRow_nil _ _ _ _, Chg.refl _ _, .inl ⟨rfl, by simp, by simp⟩⟩
  case round =>
    obtain ⟨j, out, dn, rfl, hj, rfl, rfl, hol, hown, hg, hst⟩ := hrel
    have HJ := Lib.hid (And.intro hown (And.intro hg hst))
    have hbr : w.heap.size ≤ wr.heap.size := hg.size
    clear hown hg hst
    by_cases hlt : j < l.length
    · obtain ⟨x, hx⟩ : ∃ x, l[j]? = some x := ⟨_, List.getElem?_eq_getElem hlt⟩
      obtain ⟨b, off, rfl, hbl, hc1, hc2⟩ := (H.out.1.grew HJ.out.2.1).atKv hx
      have htk : l.take (j + 1) = l.take j ++ [x] := by rw [List.take_add_one, hx]; rfl
      have hdr : l.drop j = x :: l.drop (j + 1) := by
        obtain ⟨hl, he⟩ := List.getElem?_eq_some_iff.1 hx
        rw [List.drop_eq_getElem_cons hl, he]
      have HX := Lib.hid (And.intro hx (And.intro htk hdr))
      clear hx htk hdr
      obtain ⟨st1, st2⟩ : (dn = false → out = l.take j ∧ ∀ y ∈ l.take j, y.1 < k) ∧ (dn = true → out = putL (l.take j) k v ∧ ∀ y ∈ l.drop j, k < y.1) := by
        rcases HJ.out.2.2 with ⟨rfl, h1⟩ | ⟨rfl, h1⟩
        · exact ⟨fun _ => h1, fun e => by cases e⟩
        · exact ⟨fun e => (by cases e), fun _ => h1⟩
      have hsd : ∀ y ∈ l.drop (j + 1), x.1 < y.1 := by
        have h1 := (H.out.2.sub (List.drop_sublist j l))
        rw [HX.out.2.2] at h1
        exact (List.pairwise_cons.1 h1).1
      have HS := Lib.hid (And.intro st1 (And.intro st2 hsd))
      clear st1 st2 hsd
      cases dn with
      | true =>
        have hgt : k < x.1 := (HS.out.2.1 (by trivial)).2 x (by rw [HX.out.2.2]; exact List.mem_cons_self)
        have t1 : (x.1 != k) = true := by rw [bne_iff_ne]; omega
        have Hgt := Lib.hid hgt
        clear hgt
        go_wp2_with (at_builtin; refine app_kv rfl _ _ rfl w.heap.size _ out.length (kvs2 out) rfl HJ.out.1 x.1 x.2 rfl (by omega) hbr ?_; intro v1 w3 hown1 hap1; have HO1 := Lib.hid (And.intro (show w3.ownsRow w.heap.size 41 2 v1 (out ++ [x]).length (kvs2 (out ++ [x])) from (by have h9 := hown1; rw [kvs2_snoc] at h9; simpa using h9)) (show Grew w w3 from hap1.grow HJ.out.2.1 fun j hj => (HJ.out.1.lt j hj).1)); clear hown1 hap1)
        go_roundg (l.length - (j + 1))
        case measure => omega
        case rel => exact ⟨j + 1, out ++ [x], true, rfl, by omega, by simp, rfl, by simp; omega, HO1.out.1, HO1.out.2, .inr ⟨rfl, by rw [HX.out.2.1, putL_gt Hgt.out, (HS.out.2.1 (by trivial)).1], fun y hy => by have := HS.out.2.2 y hy; have := Hgt.out; omega⟩⟩
      | false =>
        by_cases hge : k ≤ x.1
        · have t0 : decide (k ≤ x.1) = true := decide_eq_true hge
          have Hge := Lib.hid hge
          by_cases heq : x.1 = k
          · have t1 : (x.1 != k) = false := by simp [heq]
            have Heq := Lib.hid heq
            clear hge heq
            go_wp2_with (at_builtin; refine app_kv rfl _ _ rfl w.heap.size _ out.length (kvs2 out) rfl HJ.out.1 k v rfl (by omega) hbr ?_; intro v1 w3 hown1 hap1; have HO1 := Lib.hid (And.intro (show w3.ownsRow w.heap.size 41 2 v1 (out ++ [(k, v)]).length (kvs2 (out ++ [(k, v)])) from (by have h9 := hown1; rw [kvs2_snoc] at h9; simpa using h9)) (show Grew w w3 from hap1.grow HJ.out.2.1 fun j hj => (HJ.out.1.lt j hj).1)); have hbr3 : w.heap.size ≤ w3.heap.size := HO1.out.2.size; have hl3 : (out ++ [(k, v)]).length = out.length + 1 := (by simp); obtain ⟨b2, off2, e2, hbl2, hd1, hd2⟩ := (H.out.1.grew HO1.out.2).atKv HX.out.1; cases e2; clear hown1 hap1)
            go_roundg (l.length - (j + 1))
            case measure => omega
            case rel => exact ⟨j + 1, out ++ [(k, v)], true, rfl, by omega, by simp, rfl, by simp; omega, HO1.out.1, HO1.out.2, .inr ⟨rfl, by rw [HX.out.2.1, putL_ge (HS.out.1 (by trivial)).2 Hge.out, if_neg (by simp [Heq.out]), (HS.out.1 (by trivial)).1]; simp, fun y hy => by have := HS.out.2.2 y hy; have := Heq.out; omega⟩⟩
          · have t1 : (x.1 != k) = true := by rw [bne_iff_ne]; exact heq
            have Heq := Lib.hid heq
            clear hge heq
            go_wp2_with (first | (at_builtin; refine app_kv rfl _ _ rfl w.heap.size _ out.length (kvs2 out) rfl HJ.out.1 k v rfl (by omega) hbr ?_; intro v1 w3 hown1 hap1; have HO1 := Lib.hid (And.intro (show w3.ownsRow w.heap.size 41 2 v1 (out ++ [(k, v)]).length (kvs2 (out ++ [(k, v)])) from (by have h9 := hown1; rw [kvs2_snoc] at h9; simpa using h9)) (show Grew w w3 from hap1.grow HJ.out.2.1 fun j hj => (HJ.out.1.lt j hj).1)); have hbr3 : w.heap.size ≤ w3.heap.size := HO1.out.2.size; have hl3 : (out ++ [(k, v)]).length = out.length + 1 := (by simp); obtain ⟨b2, off2, e2, hbl2, hd1, hd2⟩ := (H.out.1.grew HO1.out.2).atKv HX.out.1; cases e2; clear hown1 hap1) | (at_builtin; refine app_kv rfl _ _ rfl w.heap.size _ (out ++ [(k, v)]).length (kvs2 (out ++ [(k, v)])) rfl HO1.out.1 x.1 x.2 rfl (by omega) hbr3 ?_; intro v2 w4 hown2 hap2; have HO2 := Lib.hid (And.intro (show w4.ownsRow w.heap.size 41 2 v2 (out ++ [(k, v)] ++ [x]).length (kvs2 (out ++ [(k, v)] ++ [x])) from (by have h9 := hown2; rw [kvs2_snoc] at h9; simpa using h9)) (show Grew w w4 from hap2.grow HO1.out.2 fun j hj => (HO1.out.1.lt j hj).1)); clear hown2 hap2))
            go_roundg (l.length - (j + 1))
            case measure => omega
            case rel => exact ⟨j + 1, out ++ [(k, v)] ++ [x], true, rfl, by omega, by simp, rfl, by have h9 := congrArg List.length (HS.out.1 (by trivial)).1; rw [List.length_take] at h9; simp; omega, HO2.out.1, HO2.out.2, .inr ⟨rfl, by rw [HX.out.2.1, putL_ge (HS.out.1 (by trivial)).2 Hge.out, if_pos Heq.out, (HS.out.1 (by trivial)).1], fun y hy => by have := HS.out.2.2 y hy; have := Hge.out; omega⟩⟩
        · have t0 : decide (k ≤ x.1) = false := decide_eq_false hge
          have t1 : (x.1 != k) = true := by rw [bne_iff_ne]; omega
          have Hlt := Lib.hid (show x.1 < k by omega)
          clear hge
          go_wp2_with (at_builtin; refine app_kv rfl _ _ rfl w.heap.size _ out.length (kvs2 out) rfl HJ.out.1 x.1 x.2 rfl (by omega) hbr ?_; intro v1 w3 hown1 hap1; have HO1 := Lib.hid (And.intro (show w3.ownsRow w.heap.size 41 2 v1 (out ++ [x]).length (kvs2 (out ++ [x])) from (by have h9 := hown1; rw [kvs2_snoc] at h9; simpa using h9)) (show Grew w w3 from hap1.grow HJ.out.2.1 fun j hj => (HJ.out.1.lt j hj).1)); clear hown1 hap1)
          go_roundg (l.length - (j + 1))
          case measure => omega
          case rel => exact ⟨j + 1, out ++ [x], false, rfl, by omega, by simp, rfl, by simp; omega, HO1.out.1, HO1.out.2, .inl ⟨rfl, by rw [HX.out.2.1, (HS.out.1 (by trivial)).1], fun y hy => by
            rw [HX.out.2.1] at hy
            rcases List.mem_append.1 hy with e | e
            · exact (HS.out.1 (by trivial)).2 y e
            · simp at e; subst e; exact Hlt.out⟩⟩
    · obtain rfl : j = l.length := by omega
      cases dn with
      | true =>
        have ho := (HJ.out.2.2.resolve_left (by rintro ⟨e, -⟩; cases e)).2.1
        have HO := Lib.hid ho
        clear ho
        go_wp2
        go_ret
        have e1 := HO.out
        rw [List.take_length] at e1
        obtain ⟨A', c', rfl, -⟩ := own_shape HJ.out.1
        subst e1
        exact OwnOut.mk A' c' rfl HJ.out.1 HJ.out.2.1
      | false =>
        have ho := (HJ.out.2.2.resolve_right (by rintro ⟨e, -⟩; cases e)).2
        have HO := Lib.hid ho
        clear ho
        go_wp2_with (at_builtin; refine app_kv rfl _ _ rfl w.heap.size _ out.length (kvs2 out) rfl HJ.out.1 k v rfl (by omega) hbr ?_; intro v1 w3 hown1 hap1; have HO1 := Lib.hid (And.intro (show w3.ownsRow w.heap.size 41 2 v1 (out ++ [(k, v)]).length (kvs2 (out ++ [(k, v)])) from (by have h9 := hown1; rw [kvs2_snoc] at h9; simpa using h9)) (show Grew w w3 from hap1.grow HJ.out.2.1 fun j hj => (HJ.out.1.lt j hj).1)); clear hown1 hap1)
        go_ret
        have e1 := HO.out
        rw [List.take_length] at e1
        have e2 : out ++ [(k, v)] = putL l k v := by rw [putL_lt e1.2, e1.1]
        obtain ⟨A', c', rfl, -⟩ := own_shape HO1.out.1
        have e3 := HO1.out
        rw [e2] at e3
        exact OwnOut.mk A' c' (by rw [← e2]; rfl) e3.1 e3.2
end Go.Proofs.YtpkkcicaeldodaaGreatDoor

/- The tree's laws: same. -/
namespace Go.Proofs.YtpkkcicaeldodaaGreatDoor
open Go.RowKit Go.Maps
attribute [local go_sem] Oper.semAt_some

set_option maxRecDepth 100000 in
set_option maxHeartbeats 6400000 in
theorem bsame_any (t p root D : Nat) (L : List KV) (P : List Nat) (F : Nat → Prop) (x : Rp) (A : Option Addr) (c : Nat) (w : World) (hb : BT w t p root F x) (hs : TS x D root L P) (hD : D < 40) (hl : L.length ≤ 1000) (hsl : Sl w 2 A L.length (kvs2 L)) (hAF : ∀ a, A = some a → ¬ F a.block ∧ a.block < w.heap.size) :
    Calls Tryz.prog 13 #[.pointer (some ⟨t, 0, none⟩), .slice A L.length c] w fun e w' => e = .returned (.bool true) ∧ BT w' t p root F x ∧ Chg F w w' := by
  obtain ⟨W0, hW0⟩ : ∃ W0, ((w.alloc (.cells #[.slice A L.length c] 29)).alloc (.cells #[.bool false] 4)).alloc (.cells #[.int .i64 0] 3) = W0 := ⟨_, rfl⟩
  obtain ⟨W1, hW1⟩ : ∃ W1, (W0.alloc (.cells #[.pointer (some ⟨t, 0, none⟩)] 24)).alloc (.cells #[.int .i64 (-9223372036854775808)] 3) = W1 := ⟨_, rfl⟩
  have hz0 : W0.heap.size = w.heap.size + 3 := by subst hW0; simp
  have hz1 : W1.heap.size = w.heap.size + 5 := by subst hW1; simp [hz0]
  have hg0 : Grew w W0 := hW0 ▸ (((Chg.refl _ _).alloc _).alloc _).alloc _
  have hg1 : Grew W0 W1 := hW1 ▸ ((Chg.refl _ _).alloc _).alloc _
  have hx1 : Blk W1 w.heap.size 29 #[.slice A L.length c] := (show Blk W0 w.heap.size 29 #[.slice A L.length c] from hW0 ▸ ((Blk.new _ _ _).alloc _).alloc _).grew hg1
  have hr1 : Blk W1 (w.heap.size + 1) 4 #[.bool false] := (show Blk W0 (w.heap.size + 1) 4 #[.bool false] from hW0 ▸ (by have := (Blk.new (w.alloc (.cells #[.slice A L.length c] 29)) 4 #[.bool false]).alloc (.cells #[.int .i64 0] 3); simpa using this)).grew hg1
  have hn1 : Blk W1 (w.heap.size + 2) 3 #[.int .i64 0] := (show Blk W0 (w.heap.size + 2) 3 #[.int .i64 0] from hW0 ▸ (by have := Blk.new ((w.alloc (.cells #[.slice A L.length c] 29)).alloc (.cells #[.bool false] 4)) 3 #[.int .i64 0]; simpa using this)).grew hg1
  have hb1 : Blk W1 (w.heap.size + 3) 24 #[.pointer (some ⟨t, 0, none⟩)] := by
    have := (Blk.new W0 24 #[.pointer (some ⟨t, 0, none⟩)]).alloc (.cells #[.int .i64 (-9223372036854775808)] 3)
    rw [hW1, hz0] at this
    exact this
  have hb2 : Blk W1 (w.heap.size + 4) 3 #[.int .i64 (-9223372036854775808)] := by
    have := Blk.new (W0.alloc (.cells #[.pointer (some ⟨t, 0, none⟩)] 24)) 3 #[.int .i64 (-9223372036854775808)]
    rw [hW1] at this
    simpa [hz0] using this
  have hea := beach_any t (-9223372036854775808) W0 W1 hW1
  rw [hz0] at hea
  have H := Lib.hid (And.intro hb (And.intro hs (And.intro hea (And.intro hW0 (And.intro hn1 (And.intro hb1 (And.intro hb2 (And.intro (Grew.trans hg0 hg1) hz1))))))))
  have HX := Lib.hid (And.intro hx1 (And.intro hr1 (And.intro hsl hAF)))
  clear hb hs hea hW0 hW1 hn1 hb1 hb2 hg0 hg1 hz0 hz1 hx1 hr1 hsl hAF
  (refine calls_of_marks Tryz.func13 rfl ?_; simp only [Tryz.ntmps13, List.size_toArray, List.length_cons, List.length_nil, Nat.reduceAdd, Nat.reduceSub, Array.replicate_succ, Array.replicate_zero, List.push_toArray, List.append_toArray, List.nil_append, List.cons_append])
  go_wp2_with fail
  rw [H.out.2.2.2.1]
  refine H.out.2.2.1.mono ?_
  rintro e w1 ⟨rfl, rfl⟩
  go_wp2_with fail
  refine wp_range (gf := 48) (lb := #[.pointer (some ⟨w.heap.size + 3, 0, none⟩), .pointer (some ⟨w.heap.size + 3 + 1, 0, none⟩)]) rfl (enters_of Tryz.func48 (by kernel_rfl) rfl) ?_
  intro r Wr D2 Lr hr hgr hDl hLl hD2' hR
  have hDL := Ne.symm (hR.ne_dfr hD2')
  have hsr := hgr.size
  have hz1 := H.out.2.2.2.2.2.2.2.2
  have hL2 := hR.lt
  have hD2 := hD2'.lt
  have htl := H.out.1.blk.lt
  have hpos := tab_pos H.out.1.gp.tab
  have hFl := H.out.1.gp.lt
  have hA : LnA Wr t F (w.heap.size + 3) (w.heap.size + 4) (w.heap.size + 2) Lr := ⟨⟨fun e => by have := hFl _ e; omega, by omega, by omega, by omega, by omega, by omega⟩, ⟨fun e => by have := hFl _ e; omega, by omega, by omega, by omega, by omega⟩, ⟨fun e => by have := hFl _ e; omega, fun e => by have := hFl _ e; omega⟩, ⟨hL2, by omega, by omega, by omega⟩⟩
  have hgw : Grew w Wr := Grew.trans H.out.2.2.2.2.2.2.2.1 hgr
  have hJ0 : LnJ Wr Wr t p root F x (w.heap.size + 3) (w.heap.size + 4) (w.heap.size + 2) Lr 0 r .ready none := ⟨H.out.1.grew hgw, H.out.2.2.2.2.2.1.grew hgr, H.out.2.2.2.2.2.2.1.grew hgr, Chg.refl _ _, H.out.2.2.2.2.1.grew hgr, hR⟩
  have HR1 := Lib.hid (And.intro hr (And.intro hA (And.intro hJ0 (And.intro hgw hD2'))))
  have HXr := Lib.hid (And.intro (HX.out.1.grew hgr) (And.intro (HX.out.2.1.grew hgr) (HX.out.2.2.1.grew hgw)))
  clear hr hA hJ0 hgw hD2' hR hgr
  refine (beach_iter (w.heap.size + 3) (w.heap.size + 4) t p root Lr D (-9223372036854775808) F x L P (fun k W => LnJ Wr W t p root F x (w.heap.size + 3) (w.heap.size + 4) (w.heap.size + 2) Lr k r .ready none) (fun _ => False) Wr H.out.2.1
    (fun k W h => ⟨h.b0, h.b1, h.b2⟩) (fun W h => h.elim) (fun k W W' h hc hb => h.far HR1.out.2.1 hc hb) (fun k a b W h hk => ?yld) HR1.out.2.2.1).mono ?post
  case yld =>
    rw [H.out.2.1.least H.out.1.gp] at hk
    have hkL : k < L.length := (List.getElem?_eq_some_iff.1 hk).1
    have HJ := Lib.hid h
    have HK := Lib.hid hk
    clear h hk
    obtain ⟨hr1, hr2, hr3, hr4⟩ := HR1.out.1
    refine yield_wide HJ.out.rc (by rw [hr2]; rfl) ?_
    rw [hr1, hr2, hr3, hr4]
    clear hr1 hr2 hr3 hr4
    intro K hK
    have HKK := Lib.hid hK
    clear hK
    gi_wp2
    refine HKK.out _ _ HJ.out.rc fun W3 Q hk3 hR2 hQ => ?_
    have HQ := Lib.hid hQ
    have HJ3 := Lib.hid (HJ.out.kept HR1.out.2.1 hk3 hR2)
    have HK3 := Lib.hid hk3
    clear hk3 hR2 hQ
    have hfar : ∀ j, (F j ∨ j = w.heap.size + 2 ∨ j = Lr) → j ≠ w.heap.size ∧ ∀ a, A = some a → a.block ≠ j := fun j e => by
      refine ⟨by rcases e with e | e | e; (have := hFl _ e; omega); omega; omega, fun a ha e2 => ?_⟩
      have h9 := HX.out.2.2.2 a ha
      rcases e with e | e | e
      · exact h9.1 (e2 ▸ e)
      · omega
      · omega
    obtain ⟨c0, f0, s0⟩ := HJ3.out.cnt.facts
    obtain ⟨c1, f1, s1⟩ := (HXr.out.1.chg HJ3.out.chg fun e => (hfar _ e).1 rfl).facts
    obtain ⟨gx, ox, hA1, hgx, hx1, hx2⟩ := Sl.atKv (HXr.out.2.2.chg HJ3.out.chg fun a ha e => (hfar _ e).2 a ha rfl) HK.out
    subst hA1
    have t1 : decide ((L.length : Int) ≤ (k : Int)) = false := decide_eq_false (by omega)
    have t1' : decide (L.length ≤ k) = false := decide_eq_false (by omega)
    have hkL2 : (k : Int) < (L.length : Int) := by omega
    clear hfar hgx
    simp only at hx1 hx2
    gi_wp2
    obtain ⟨W5, hW5⟩ : ∃ W5, W3.setCell ⟨w.heap.size + 2, 0, none⟩ (.int .i64 ((k + 1 : Nat) : Int)) = W5 := ⟨_, rfl⟩
    have hJ5 := HJ3.out.set HR1.out.2.1 hW5
    have hW5' : W3.setCell ⟨w.heap.size + 1 + 1, 0, none⟩ (.int .i64 ((k : Int) + 1)) = W5 := by rw [← hW5]; simp
    rw [hW5']
    have hc5 : Chg (fun j => j = w.heap.size + 2) W3 W5 := hW5 ▸ (Chg.refl (fun j => j = w.heap.size + 2) W3).setCell (p := ⟨w.heap.size + 2, 0, none⟩) (fun _ => rfl) _
    have hl := HR1.out.2.1.lt
    exact HQ.out _ _ _ ⟨hJ5.rc, fun w' hk' hR' => ⟨.inl ⟨rfl, hJ5.kept HR1.out.2.1 hk' hR'⟩, Chg.trans (Chg.trans (HK3.out.chg.mono fun j _ e => by omega) hc5 fun j _ e => by omega) hk'.chg fun j _ e => by omega⟩⟩
  case post =>
    rintro e w3 ⟨hv, hJ | hJ⟩
    rotate_left
    · exact hJ.elim
    rw [H.out.2.1.least H.out.1.gp] at hJ
    refine ⟨hv, .inl ⟨hJ.rc, fun w4 hk4 => ?_⟩⟩
    have hfar : ∀ j, (F j ∨ j = w.heap.size + 2 ∨ j = Lr) → j ≠ w.heap.size ∧ j ≠ w.heap.size + 1 ∧ ∀ a, A = some a → a.block ≠ j := fun j e => by
      refine ⟨by rcases e with e | e | e; (have := hFl _ e; omega); omega; omega, by rcases e with e | e | e; (have := hFl _ e; omega); omega; omega, fun a ha e2 => ?_⟩
      have h9 := HX.out.2.2.2 a ha
      rcases e with e | e | e
      · exact h9.1 (e2 ▸ e)
      · omega
      · omega
    have hc4 := Chg.trans hJ.chg hk4.chg fun i _ e => .inr (.inr e)
    have hD4 := HR1.out.2.2.2.2.chg hc4 (fun e => by rcases e with e | e | e; (have := hFl _ e; omega); omega; omega)
    have hb4 := hJ.b0.chg hk4.chg (fun j hj e => HR1.out.2.1.l.1 (e ▸ hj)) (fun e => HR1.out.2.1.l.2.2.2.2.2 e.symm) (fun e => HR1.out.2.1.l.2.1 e.symm)
    have hn4 := hJ.cnt.kept hk4
    have hx4 := HXr.out.1.chg hc4 fun e => (hfar _ e).1 rfl
    have hr4 := HXr.out.2.1.chg hc4 fun e => (hfar _ e).2.1 rfl
    have hs4 := HXr.out.2.2.chg hc4 fun a ha e => (hfar _ e).2.2 a ha rfl
    have hle := bleast_any t p root D L P F x w4 hb4 H.out.2.1 hD
    obtain ⟨a1, ha1⟩ : ∃ v, edA L.head? = v := ⟨_, rfl⟩
    obtain ⟨a2, ha2⟩ : ∃ v, edB L.head? = v := ⟨_, rfl⟩
    obtain ⟨a3, ha3⟩ : ∃ v, edE L.head? = v := ⟨_, rfl⟩
    obtain ⟨z1, hz1'⟩ : ∃ v, edA L.getLast? = v := ⟨_, rfl⟩
    obtain ⟨z2, hz2'⟩ : ∃ v, edB L.getLast? = v := ⟨_, rfl⟩
    obtain ⟨z3, hz3'⟩ : ∃ v, edE L.getLast? = v := ⟨_, rfl⟩
    rw [ha1, ha2, ha3] at hle
    have H4 := Lib.hid (And.intro hc4 (And.intro hD4 (And.intro hb4 (And.intro hn4 (And.intro hx4 (And.intro hr4 (And.intro hs4 hle)))))))
    have HV := Lib.hid (And.intro ha1 (And.intro ha2 (And.intro ha3 (And.intro hz1' (And.intro hz2' hz3')))))
    clear hc4 hD4 hb4 hJ hk4 hn4 hx4 hr4 hs4 hle ha1 ha2 ha3 hz1' hz2' hz3' hfar
    go_wp2_with fail
    refine H4.out.2.2.2.2.2.2.2.mono ?_
    rintro e w5 ⟨rfl, hb5, hc5⟩
    have hgr := bgreatest_any t p root D L P F x w5 hb5 H.out.2.1 hD
    rw [HV.out.2.2.2.1, HV.out.2.2.2.2.1, HV.out.2.2.2.2.2] at hgr
    have H5 := Lib.hid (And.intro hgr (And.intro hb5 hc5))
    clear hgr hb5 hc5
    go_wp2_with fail
    refine H5.out.1.mono ?_
    rintro e w6 ⟨rfl, hb6, hc6⟩
    have hc46 : Chg F w4 w6 := Chg.trans H5.out.2.2 hc6 fun _ _ e => e
    have hn6 := H4.out.2.2.2.1.chg hc46 fun e => by have := hFl _ e; omega
    have hx6 := H4.out.2.2.2.2.1.chg hc46 fun e => by have := hFl _ e; omega
    have hr6 := H4.out.2.2.2.2.2.1.chg hc46 fun e => by have := hFl _ e; omega
    have hs6 := H4.out.2.2.2.2.2.2.1.chg hc46 fun a ha e => (HX.out.2.2.2 a ha).1 e
    have H6 := Lib.hid (And.intro hb6 (And.intro hc46 (And.intro hn6 (And.intro hx6 (And.intro hr6 hs6)))))
    have hfin : ∀ W8, BT W8 t p root F x → Chg (fun j => F j ∨ j = w.heap.size + 1) w6 W8 → Dfr W8 D2 ∧ ∀ w9, Kept D2 W8 w9 → BT w9 t p root F x ∧ Chg F w w9 := fun W8 hb8 hc8 => by
      have hc48 : Chg (fun j => F j ∨ j = w.heap.size + 1) w4 W8 := Chg.trans (hc46.mono fun j _ e => .inl e) hc8 fun _ _ e => e
      refine ⟨H4.out.2.1.chg hc48 (fun e => e.elim (fun e => by have := hFl _ e; omega) fun e => by omega), fun w9 hk9 => ⟨hb8.chg hk9.chg (fun j hj e => by have := hFl j hj; omega) (fun e => by omega) (fun e => by omega), ?_⟩⟩
      have h1 : Chg (fun j => F j ∨ w.heap.size ≤ j) w w4 := Chg.trans HR1.out.2.2.2.1.chg H4.out.1 fun j _ e => by rcases e with e | e | e; exact .inl e; exact .inr (by omega); exact .inr (by omega)
      have h2 : Chg (fun j => F j ∨ w.heap.size ≤ j) w W8 := Chg.trans h1 hc48 fun j _ e => e.imp id fun e => by omega
      have h3 : Chg (fun j => F j ∨ w.heap.size ≤ j) w w9 := Chg.trans h2 hk9.chg fun j _ e => .inr (by omega)
      exact h3.mono fun j hj e => e.resolve_right (by omega)
    have HF := Lib.hid hfin
    clear hb6 hc6 hc46 hs6 hfin
    by_cases hL0 : L.length = 0
    · have hLn : L = [] := List.eq_nil_of_length_eq_zero hL0
      have e3 : a3 = 14 := by rw [← HV.out.2.2.1, hLn]; rfl
      have e6 : z3 = 14 := by rw [← HV.out.2.2.2.2.2, hLn]; rfl
      subst e3 e6
      rw [hL0] at hn6 hx6
      clear hLn hL0
      obtain ⟨c0, f0, s0⟩ := hn6.facts
      obtain ⟨c1, f1, s1⟩ := hx6.facts
      obtain ⟨c2, f2, s2⟩ := hr6.facts
      clear hn6 hx6 hr6
      go_wp2_with fail
      obtain ⟨W8, hW8⟩ : ∃ W8, w6.setCell ⟨w.heap.size + 1, 0, none⟩ (.bool true) = W8 := ⟨_, rfl⟩
      rw [hW8]
      have hc8 : Chg (fun j => F j ∨ j = w.heap.size + 1) w6 W8 := hW8 ▸ (Chg.refl _ w6).setCell (p := ⟨w.heap.size + 1, 0, none⟩) (fun _ => .inr rfl) _
      have hb8 : BT W8 t p root F x := H6.out.1.chg (hW8 ▸ (Chg.refl (fun j => j = w.heap.size + 1) w6).setCell (p := ⟨w.heap.size + 1, 0, none⟩) (fun _ => rfl) _) (fun j hj e => by have := hFl j hj; omega) (fun e => by omega) (fun e => by omega)
      have hr8 : Blk W8 (w.heap.size + 1) 4 #[.bool true] := by
        have := H6.out.2.2.2.2.1.put 0 (.bool true)
        rw [hW8] at this
        simpa using this
      obtain ⟨hd8, hk8⟩ := HF.out W8 hb8 hc8
      refine postM_ret1 (v := .bool true) (D := D2) hd8 rfl fun w9 hk9 => ?_
      obtain ⟨c5, f5, s5⟩ := (hr8.kept hk9).facts
      exact ⟨by simp [results, Tryz.results13, go_sem, c5, s5], rfl, hk8 w9 hk9⟩
    · obtain ⟨m, hm⟩ : ∃ m, L.length = m + 1 := ⟨L.length - 1, by omega⟩
      obtain ⟨y0, hy0⟩ : ∃ y, L[0]? = some y := ⟨_, List.getElem?_eq_getElem (by omega)⟩
      obtain ⟨ym, hym⟩ : ∃ y, L[m]? = some y := ⟨_, List.getElem?_eq_getElem (by omega)⟩
      have hh : L.head? = some y0 := by rw [List.head?_eq_getElem?]; exact hy0
      have hg : L.getLast? = some ym := by rw [List.getLast?_eq_getElem?, hm]; exact hym
      obtain ⟨e1, e2, e3, e4, e5, e6⟩ := HV.out
      rw [hh] at e1 e2 e3
      rw [hg] at e4 e5 e6
      simp only [edA, edB, edE] at e1 e2 e3 e4 e5 e6
      subst e1 e2 e3 e4 e5 e6
      have hs6 := H6.out.2.2.2.2.2
      obtain ⟨gx, ox, hA1, hgx, hx1, hx2⟩ := Sl.atKv hs6 hy0
      obtain ⟨gx', ox', hA2, -, hx3, hx4⟩ := Sl.atKv hs6 hym
      subst hA1
      injection hA2 with hA2
      injection hA2 with h1 h2
      subst h1 h2
      rw [Nat.zero_mul, Nat.add_zero] at hx1 hx2
      have hAg := HX.out.2.2.2 _ rfl
      simp only at hAg
      have hbl := H6.out.1
      have hlen := blen_any t p root D L P F x w6.drew (hbl.grew ((Chg.refl NoF w6).drew)) H.out.2.1 (by omega)
      rw [hm] at hn6 hx6 hlen
      have hm3 : m ≤ 1000 := by omega
      have hmi : (m : Int) < (m : Int) + 1 := by omega
      have HLn := Lib.hid (And.intro hlen (And.intro hAg hbl))
      obtain ⟨c0, f0, s0⟩ := hn6.facts
      obtain ⟨c1, f1, s1⟩ := hx6.facts
      obtain ⟨c2, f2, s2⟩ := hr6.facts
      have hS : w6.drew.cell? ⟨w.heap.size + 2, 0, none⟩ = some (.int .i64 ((m : Int) + 1)) ∧ w6.drew.cell? ⟨w.heap.size, 0, none⟩ = some (.slice (some ⟨gx, ox, none⟩) (m + 1) c) ∧ w6.drew.cell? ⟨gx, ox, none⟩ = some (.int .i64 y0.1) ∧ w6.drew.cell? ⟨gx, ox + 1, none⟩ = some (.int .i64 y0.2) ∧ w6.drew.cell? ⟨gx, ox + m * 2, none⟩ = some (.int .i64 ym.1) ∧ w6.drew.cell? ⟨gx, ox + m * 2 + 1, none⟩ = some (.int .i64 ym.2) := ⟨by rw [show ((m : Int) + 1) = ((m + 1 : Nat) : Int) from by omega]; exact c0 0, c1 0, hx1, hx2, hx3, hx4⟩
      have hn6s := hn6.lt
      have hx6s := hx6.lt
      have HS := Lib.hid hS
      clear hL0 hh hg hs6 hy0 hym hAg hbl hlen hm hn6 hx6 hr6 hx1 hx2 hx3 hx4 hS
      have HGx := Lib.hid hgx
      clear hgx
      go_wp2_with fail
      have hS := HS.out
      refine wp_region_held_drew (S := fun w' => w'.cell? ⟨w.heap.size + 2, 0, none⟩ = some (.int .i64 ((m : Int) + 1)) ∧ w'.cell? ⟨w.heap.size, 0, none⟩ = some (.slice (some ⟨gx, ox, none⟩) (m + 1) c) ∧ w'.cell? ⟨gx, ox, none⟩ = some (.int .i64 y0.1) ∧ w'.cell? ⟨gx, ox + 1, none⟩ = some (.int .i64 y0.2) ∧ w'.cell? ⟨gx, ox + m * 2, none⟩ = some (.int .i64 ym.1) ∧ w'.cell? ⟨gx, ox + m * 2 + 1, none⟩ = some (.int .i64 ym.2)) (by kernel_rfl) hS (fun hHeld => ?_)
      refine wpAnyH_take (i := 0) (v := ?_) rfl (by kernel_rfl) (by kernel_rfl) (by kernel_rfl) (fun _ _ _ h => h) (Or.inl ⟨by rfl, ?_⟩) hHeld ?_
      rotate_left
      · (intro w hSw; (try dsimp only at hSw); go_simp) <;> with_reducible rfl
      (try simp only [Act.put, List.setIfInBounds_toArray, List.set_cons_zero, List.set_cons_succ, List.getElem_toArray, List.getElem_cons_zero, List.getElem_cons_succ])
      refine wpAnyH_take (i := 1) (v := ?_) rfl (by kernel_rfl) (by kernel_rfl) (by kernel_rfl) (fun _ _ _ h => h) (Or.inl ⟨by rfl, ?_⟩) hHeld ?_
      rotate_left
      · (intro w hSw; (try dsimp only at hSw); go_simp) <;> with_reducible rfl
      (try simp only [Act.put, List.setIfInBounds_toArray, List.set_cons_zero, List.set_cons_succ, List.getElem_toArray, List.getElem_cons_zero, List.getElem_cons_succ])
      refine wpAnyH_take (i := 2) (v := ?_) rfl (by kernel_rfl) (by kernel_rfl) (by kernel_rfl) (fun _ _ _ h => h) (Or.inl ⟨by rfl, ?_⟩) hHeld ?_
      rotate_left
      · (intro w hSw; (try dsimp only at hSw); go_simp) <;> with_reducible rfl
      (try simp only [Act.put, List.setIfInBounds_toArray, List.set_cons_zero, List.set_cons_succ, List.getElem_toArray, List.getElem_cons_zero, List.getElem_cons_succ])
      refine wpAnyH_take (i := 3) (v := ?_) rfl (by kernel_rfl) (by kernel_rfl) (by kernel_rfl) (fun _ _ _ h => h) (Or.inl ⟨by rfl, ?_⟩) hHeld ?_
      rotate_left
      · (intro w hSw; (try dsimp only at hSw); go_simp) <;> with_reducible rfl
      (try simp only [Act.put, List.setIfInBounds_toArray, List.set_cons_zero, List.set_cons_succ, List.getElem_toArray, List.getElem_cons_zero, List.getElem_cons_succ])
      refine wpAnyH_take (i := 4) (v := ?_) rfl (by kernel_rfl) (by kernel_rfl) (by kernel_rfl) (fun _ _ _ h => h) (Or.inl ⟨by rfl, ?_⟩) hHeld ?_
      rotate_left
      · (intro w hSw; (try dsimp only at hSw); go_simp) <;> with_reducible rfl
      (try simp only [Act.put, List.setIfInBounds_toArray, List.set_cons_zero, List.set_cons_succ, List.getElem_toArray, List.getElem_cons_zero, List.getElem_cons_succ])
      refine wpAnyH_take (i := 5) (v := ?_) rfl (by kernel_rfl) (by kernel_rfl) (by kernel_rfl) (fun _ _ _ h => h) (Or.inl ⟨by rfl, ?_⟩) hHeld ?_
      rotate_left
      · (intro w hSw; (try dsimp only at hSw); go_simp) <;> with_reducible rfl
      (try simp only [Act.put, List.setIfInBounds_toArray, List.set_cons_zero, List.set_cons_succ, List.getElem_toArray, List.getElem_cons_zero, List.getElem_cons_succ])
      refine wpAnyH_take (i := 7) (v := ?_) rfl (by kernel_rfl) (by kernel_rfl) (by kernel_rfl) (fun _ _ _ h => h) (Or.inl ⟨by rfl, ?_⟩) hHeld ?_
      rotate_left
      · (intro w hSw; (try dsimp only at hSw); go_simp) <;> with_reducible rfl
      (try simp only [Act.put, List.setIfInBounds_toArray, List.set_cons_zero, List.set_cons_succ, List.getElem_toArray, List.getElem_cons_zero, List.getElem_cons_succ])
      refine wpAnyH_ready (rs := [6]) (by kernel_rfl) (by simp) ?_
      refine AllReadyH.cons rfl (fun K hK => ?_) AllReadyH.nil
      go_simp
      refine HLn.out.1.mono ?_
      rintro e w7 ⟨rfl, hb7, hc7⟩
      have hc7' : Chg F w6 w7 := Grew.then ((Chg.refl NoF w6).drew) hc7
      have hS7 : w7.cell? ⟨w.heap.size + 2, 0, none⟩ = some (.int .i64 ((m : Int) + 1)) ∧ w7.cell? ⟨w.heap.size, 0, none⟩ = some (.slice (some ⟨gx, ox, none⟩) (m + 1) c) ∧ w7.cell? ⟨gx, ox, none⟩ = some (.int .i64 y0.1) ∧ w7.cell? ⟨gx, ox + 1, none⟩ = some (.int .i64 y0.2) ∧ w7.cell? ⟨gx, ox + m * 2, none⟩ = some (.int .i64 ym.1) ∧ w7.cell? ⟨gx, ox + m * 2 + 1, none⟩ = some (.int .i64 ym.2) := ⟨(hc7'.cell (p := ⟨w.heap.size + 2, 0, none⟩) hn6s (fun e => by have := hFl (w.heap.size + 2) e; omega)).trans hS.1, (hc7'.cell (p := ⟨w.heap.size, 0, none⟩) hx6s (fun e => by have := hFl w.heap.size e; omega)).trans hS.2.1, (hc7'.cell (p := ⟨gx, ox, none⟩) HGx.out HLn.out.2.1.1).trans hS.2.2.1, (hc7'.cell (p := ⟨gx, ox + 1, none⟩) HGx.out HLn.out.2.1.1).trans hS.2.2.2.1, (hc7'.cell (p := ⟨gx, ox + m * 2, none⟩) HGx.out HLn.out.2.1.1).trans hS.2.2.2.2.1, (hc7'.cell (p := ⟨gx, ox + m * 2 + 1, none⟩) HGx.out HLn.out.2.1.1).trans hS.2.2.2.2.2⟩
      have hr7 := H6.out.2.2.2.2.1.chg hc7' fun e => by have := hFl _ e; omega
      have H7 := Lib.hid (And.intro hb7 (And.intro hc7' hr7))
      clear hb7 hc7 hc7' c2 f2 s2 c0 f0 s0 c1 f1 s1
      refine hK.out _ _ hS7 (fun _ => ?_)
      clear hK K
      (try simp only [Act.put, List.setIfInBounds_toArray, List.set_cons_zero, List.set_cons_succ, List.getElem_toArray, List.getElem_cons_zero, List.getElem_cons_succ])
      refine wpAnyH_take (i := 8) (v := ?_) rfl (by kernel_rfl) (by kernel_rfl) (by kernel_rfl) (fun _ _ _ h => h) (Or.inl ⟨by rfl, ?_⟩) hS7 ?_
      rotate_left
      · (intro w hSw; (try dsimp only at hSw); go_simp) <;> with_reducible rfl
      (try simp only [Act.put, List.setIfInBounds_toArray, List.set_cons_zero, List.set_cons_succ, List.getElem_toArray, List.getElem_cons_zero, List.getElem_cons_succ])
      refine wpAnyH_take (i := 9) (v := ?_) rfl (by kernel_rfl) (by kernel_rfl) (by kernel_rfl) (fun _ _ _ h => h) (Or.inl ⟨by rfl, ?_⟩) hS7 ?_
      rotate_left
      · (intro w hSw; (try dsimp only at hSw); go_simp) <;> with_reducible rfl
      (try simp only [Act.put, List.setIfInBounds_toArray, List.set_cons_zero, List.set_cons_succ, List.getElem_toArray, List.getElem_cons_zero, List.getElem_cons_succ])
      refine wpAnyH_take (i := 10) (v := ?_) rfl (by kernel_rfl) (by kernel_rfl) (by kernel_rfl) (fun _ _ _ h => h) (Or.inl ⟨by rfl, ?_⟩) hS7 ?_
      rotate_left
      · (intro w hSw; (try dsimp only at hSw); go_simp) <;> with_reducible rfl
      (try simp only [Act.put, List.setIfInBounds_toArray, List.set_cons_zero, List.set_cons_succ, List.getElem_toArray, List.getElem_cons_zero, List.getElem_cons_succ])
      refine wpAnyH_take (i := 11) (v := ?_) rfl (by kernel_rfl) (by kernel_rfl) (by kernel_rfl) (fun _ _ _ h => h) (Or.inl ⟨by rfl, ?_⟩) hS7 ?_
      rotate_left
      · (intro w hSw; (try dsimp only at hSw); go_simp) <;> with_reducible rfl
      (try simp only [Act.put, List.setIfInBounds_toArray, List.set_cons_zero, List.set_cons_succ, List.getElem_toArray, List.getElem_cons_zero, List.getElem_cons_succ])
      refine wpAnyH_take (i := 12) (v := ?_) rfl (by kernel_rfl) (by kernel_rfl) (by kernel_rfl) (fun _ _ _ h => h) (Or.inl ⟨by rfl, ?_⟩) hS7 ?_
      rotate_left
      · (intro w hSw; (try dsimp only at hSw); go_simp) <;> with_reducible rfl
      (try simp only [Act.put, List.setIfInBounds_toArray, List.set_cons_zero, List.set_cons_succ, List.getElem_toArray, List.getElem_cons_zero, List.getElem_cons_succ])
      refine wpAnyH_take (i := 13) (v := ?_) rfl (by kernel_rfl) (by kernel_rfl) (by kernel_rfl) (fun _ _ _ h => h) (Or.inl ⟨by rfl, ?_⟩) hS7 ?_
      rotate_left
      · (intro w hSw; (try dsimp only at hSw); go_simp) <;> with_reducible rfl
      (try simp only [Act.put, List.setIfInBounds_toArray, List.set_cons_zero, List.set_cons_succ, List.getElem_toArray, List.getElem_cons_zero, List.getElem_cons_succ])
      refine wpAnyH_take (i := 14) (v := ?_) rfl (by kernel_rfl) (by kernel_rfl) (by kernel_rfl) (fun _ _ _ h => h) (Or.inl ⟨by rfl, ?_⟩) hS7 ?_
      rotate_left
      · (intro w hSw; (try dsimp only at hSw); go_simp) <;> with_reducible rfl
      (try simp only [Act.put, List.setIfInBounds_toArray, List.set_cons_zero, List.set_cons_succ, List.getElem_toArray, List.getElem_cons_zero, List.getElem_cons_succ])
      refine wpAnyH_take (i := 15) (v := ?_) rfl (by kernel_rfl) (by kernel_rfl) (by kernel_rfl) (fun _ _ _ h => h) (Or.inl ⟨by rfl, ?_⟩) hS7 ?_
      rotate_left
      · (intro w hSw; (try dsimp only at hSw); go_simp) <;> with_reducible rfl
      (try simp only [Act.put, List.setIfInBounds_toArray, List.set_cons_zero, List.set_cons_succ, List.getElem_toArray, List.getElem_cons_zero, List.getElem_cons_succ])
      refine wpAnyH_take (i := 16) (v := ?_) rfl (by kernel_rfl) (by kernel_rfl) (by kernel_rfl) (fun _ _ _ h => h) (Or.inl ⟨by rfl, ?_⟩) hS7 ?_
      rotate_left
      · (intro w hSw; (try dsimp only at hSw); go_simp) <;> with_reducible rfl
      (try simp only [Act.put, List.setIfInBounds_toArray, List.set_cons_zero, List.set_cons_succ, List.getElem_toArray, List.getElem_cons_zero, List.getElem_cons_succ])
      refine wpAnyH_take (i := 17) (v := ?_) rfl (by kernel_rfl) (by kernel_rfl) (by kernel_rfl) (fun _ _ _ h => h) (Or.inl ⟨by rfl, ?_⟩) hS7 ?_
      rotate_left
      · (intro w hSw; (try dsimp only at hSw); go_simp) <;> with_reducible rfl
      (try simp only [Act.put, List.setIfInBounds_toArray, List.set_cons_zero, List.set_cons_succ, List.getElem_toArray, List.getElem_cons_zero, List.getElem_cons_succ])
      refine wpAnyH_take (i := 18) (v := ?_) rfl (by kernel_rfl) (by kernel_rfl) (by kernel_rfl) (fun _ _ _ h => h) (Or.inl ⟨by rfl, ?_⟩) hS7 ?_
      rotate_left
      · (intro w hSw; (try dsimp only at hSw); go_simp) <;> with_reducible rfl
      (try simp only [Act.put, List.setIfInBounds_toArray, List.set_cons_zero, List.set_cons_succ, List.getElem_toArray, List.getElem_cons_zero, List.getElem_cons_succ])
      refine wpAnyH_take (i := 19) (v := ?_) rfl (by kernel_rfl) (by kernel_rfl) (by kernel_rfl) (fun _ _ _ h => h) (Or.inl ⟨by rfl, ?_⟩) hS7 ?_
      rotate_left
      · (intro w hSw; (try dsimp only at hSw); go_simp) <;> with_reducible rfl
      (try simp only [Act.put, List.setIfInBounds_toArray, List.set_cons_zero, List.set_cons_succ, List.getElem_toArray, List.getElem_cons_zero, List.getElem_cons_succ])
      refine wpAnyH_take (i := 20) (v := ?_) rfl (by kernel_rfl) (by kernel_rfl) (by kernel_rfl) (fun _ _ _ h => h) (Or.inl ⟨by rfl, ?_⟩) hS7 ?_
      rotate_left
      · (intro w hSw; (try dsimp only at hSw); go_simp) <;> with_reducible rfl
      (try simp only [Act.put, List.setIfInBounds_toArray, List.set_cons_zero, List.set_cons_succ, List.getElem_toArray, List.getElem_cons_zero, List.getElem_cons_succ])
      refine wpAnyH_take (i := 21) (v := ?_) rfl (by kernel_rfl) (by kernel_rfl) (by kernel_rfl) (fun _ _ _ h => h) (Or.inl ⟨by rfl, ?_⟩) hS7 ?_
      rotate_left
      · (intro w hSw; (try dsimp only at hSw); go_simp) <;> with_reducible rfl
      (try simp only [Act.put, List.setIfInBounds_toArray, List.set_cons_zero, List.set_cons_succ, List.getElem_toArray, List.getElem_cons_zero, List.getElem_cons_succ])
      refine wpAnyH_take (i := 22) (v := ?_) rfl (by kernel_rfl) (by kernel_rfl) (by kernel_rfl) (fun _ _ _ h => h) (Or.inl ⟨by rfl, ?_⟩) hS7 ?_
      rotate_left
      · (intro w hSw; (try dsimp only at hSw); go_simp) <;> with_reducible rfl
      (try simp only [Act.put, List.setIfInBounds_toArray, List.set_cons_zero, List.set_cons_succ, List.getElem_toArray, List.getElem_cons_zero, List.getElem_cons_succ])
      refine wpAnyH_take (i := 23) (v := ?_) rfl (by kernel_rfl) (by kernel_rfl) (by kernel_rfl) (fun _ _ _ h => h) (Or.inl ⟨by rfl, ?_⟩) hS7 ?_
      rotate_left
      · (intro w hSw; (try dsimp only at hSw); go_simp) <;> with_reducible rfl
      (try simp only [Act.put, List.setIfInBounds_toArray, List.set_cons_zero, List.set_cons_succ, List.getElem_toArray, List.getElem_cons_zero, List.getElem_cons_succ])
      refine wpAnyH_take (i := 24) (v := ?_) rfl (by kernel_rfl) (by kernel_rfl) (by kernel_rfl) (fun _ _ _ h => h) (Or.inl ⟨by rfl, ?_⟩) hS7 ?_
      rotate_left
      · (intro w hSw; (try dsimp only at hSw); go_simp) <;> with_reducible rfl
      (try simp only [Act.put, List.setIfInBounds_toArray, List.set_cons_zero, List.set_cons_succ, List.getElem_toArray, List.getElem_cons_zero, List.getElem_cons_succ])
      refine wpAnyH_take (i := 25) (v := ?_) rfl (by kernel_rfl) (by kernel_rfl) (by kernel_rfl) (fun _ _ _ h => h) (Or.inl ⟨by rfl, ?_⟩) hS7 ?_
      rotate_left
      · (intro w hSw; (try dsimp only at hSw); go_simp) <;> with_reducible rfl
      (try simp only [Act.put, List.setIfInBounds_toArray, List.set_cons_zero, List.set_cons_succ, List.getElem_toArray, List.getElem_cons_zero, List.getElem_cons_succ])
      refine wpAnyH_take (i := 26) (v := ?_) rfl (by kernel_rfl) (by kernel_rfl) (by kernel_rfl) (fun _ _ _ h => h) (Or.inl ⟨by rfl, ?_⟩) hS7 ?_
      rotate_left
      · (intro w hSw; (try dsimp only at hSw); go_simp) <;> with_reducible rfl
      (try simp only [Act.put, List.setIfInBounds_toArray, List.set_cons_zero, List.set_cons_succ, List.getElem_toArray, List.getElem_cons_zero, List.getElem_cons_succ])
      refine wpAnyH_take (i := 27) (v := ?_) rfl (by kernel_rfl) (by kernel_rfl) (by kernel_rfl) (fun _ _ _ h => h) (Or.inl ⟨by rfl, ?_⟩) hS7 ?_
      rotate_left
      · (intro w hSw; (try dsimp only at hSw); go_simp) <;> with_reducible rfl
      (try simp only [Act.put, List.setIfInBounds_toArray, List.set_cons_zero, List.set_cons_succ, List.getElem_toArray, List.getElem_cons_zero, List.getElem_cons_succ])
      refine wpAnyH_take (i := 28) (v := ?_) rfl (by kernel_rfl) (by kernel_rfl) (by kernel_rfl) (fun _ _ _ h => h) (Or.inl ⟨by rfl, ?_⟩) hS7 ?_
      rotate_left
      · (intro w hSw; (try dsimp only at hSw); go_simp) <;> with_reducible rfl
      (try simp only [Act.put, List.setIfInBounds_toArray, List.set_cons_zero, List.set_cons_succ, List.getElem_toArray, List.getElem_cons_zero, List.getElem_cons_succ])
      refine wpAnyH_take (i := 29) (v := ?_) rfl (by kernel_rfl) (by kernel_rfl) (by kernel_rfl) (fun _ _ _ h => h) (Or.inl ⟨by rfl, ?_⟩) hS7 ?_
      rotate_left
      · (intro w hSw; (try dsimp only at hSw); go_simp) <;> with_reducible rfl
      (try simp only [Act.put, List.setIfInBounds_toArray, List.set_cons_zero, List.set_cons_succ, List.getElem_toArray, List.getElem_cons_zero, List.getElem_cons_succ])
      refine wpAnyH_take (i := 30) (v := ?_) rfl (by kernel_rfl) (by kernel_rfl) (by kernel_rfl) (fun _ _ _ h => h) (Or.inl ⟨by rfl, ?_⟩) hS7 ?_
      rotate_left
      · (intro w hSw; (try dsimp only at hSw); go_simp) <;> with_reducible rfl
      (try simp only [Act.put, List.setIfInBounds_toArray, List.set_cons_zero, List.set_cons_succ, List.getElem_toArray, List.getElem_cons_zero, List.getElem_cons_succ])
      refine wpAnyH_take (i := 31) (v := ?_) rfl (by kernel_rfl) (by kernel_rfl) (by kernel_rfl) (fun _ _ _ h => h) (Or.inl ⟨by rfl, ?_⟩) hS7 ?_
      rotate_left
      · (intro w hSw; (try dsimp only at hSw); go_simp) <;> with_reducible rfl
      (try simp only [Act.put, List.setIfInBounds_toArray, List.set_cons_zero, List.set_cons_succ, List.getElem_toArray, List.getElem_cons_zero, List.getElem_cons_succ])
      refine wpAnyH_take (i := 32) (v := ?_) rfl (by kernel_rfl) (by kernel_rfl) (by kernel_rfl) (fun _ _ _ h => h) (Or.inl ⟨by rfl, ?_⟩) hS7 ?_
      rotate_left
      · (intro w hSw; (try dsimp only at hSw); go_simp) <;> with_reducible rfl
      (try simp only [Act.put, List.setIfInBounds_toArray, List.set_cons_zero, List.set_cons_succ, List.getElem_toArray, List.getElem_cons_zero, List.getElem_cons_succ])
      refine wpAnyH_take (i := 33) (v := ?_) rfl (by kernel_rfl) (by kernel_rfl) (by kernel_rfl) (fun _ _ _ h => h) (Or.inl ⟨by rfl, ?_⟩) hS7 ?_
      rotate_left
      · (intro w hSw; (try dsimp only at hSw); go_simp) <;> with_reducible rfl
      (try simp only [Act.put, List.setIfInBounds_toArray, List.set_cons_zero, List.set_cons_succ, List.getElem_toArray, List.getElem_cons_zero, List.getElem_cons_succ])
      refine wpAnyH_take (i := 34) (v := ?_) rfl (by kernel_rfl) (by kernel_rfl) (by kernel_rfl) (fun _ _ _ h => h) (Or.inl ⟨by rfl, ?_⟩) hS7 ?_
      rotate_left
      · (intro w hSw; (try dsimp only at hSw); go_simp) <;> with_reducible rfl
      (try simp only [Act.put, List.setIfInBounds_toArray, List.set_cons_zero, List.set_cons_succ, List.getElem_toArray, List.getElem_cons_zero, List.getElem_cons_succ])
      refine wpAnyH_take (i := 35) (v := ?_) rfl (by kernel_rfl) (by kernel_rfl) (by kernel_rfl) (fun _ _ _ h => h) (Or.inl ⟨by rfl, ?_⟩) hS7 ?_
      rotate_left
      · (intro w hSw; (try dsimp only at hSw); go_simp) <;> with_reducible rfl
      (try simp only [Act.put, List.setIfInBounds_toArray, List.set_cons_zero, List.set_cons_succ, List.getElem_toArray, List.getElem_cons_zero, List.getElem_cons_succ])
      refine wpAnyH_take (i := 36) (v := ?_) rfl (by kernel_rfl) (by kernel_rfl) (by kernel_rfl) (fun _ _ _ h => h) (Or.inl ⟨by rfl, ?_⟩) hS7 ?_
      rotate_left
      · (intro w hSw; (try dsimp only at hSw); go_simp) <;> with_reducible rfl
      (try simp only [Act.put, List.setIfInBounds_toArray, List.set_cons_zero, List.set_cons_succ, List.getElem_toArray, List.getElem_cons_zero, List.getElem_cons_succ])
      refine wpAnyH_take (i := 37) (v := ?_) rfl (by kernel_rfl) (by kernel_rfl) (by kernel_rfl) (fun _ _ _ h => h) (Or.inl ⟨by rfl, ?_⟩) hS7 ?_
      rotate_left
      · (intro w hSw; (try dsimp only at hSw); go_simp) <;> with_reducible rfl
      (try simp only [Act.put, List.setIfInBounds_toArray, List.set_cons_zero, List.set_cons_succ, List.getElem_toArray, List.getElem_cons_zero, List.getElem_cons_succ])
      refine wpAnyH_take (i := 38) (v := ?_) rfl (by kernel_rfl) (by kernel_rfl) (by kernel_rfl) (fun _ _ _ h => h) (Or.inl ⟨by rfl, ?_⟩) hS7 ?_
      rotate_left
      · (intro w hSw; (try dsimp only at hSw); go_simp) <;> with_reducible rfl
      (try simp only [Act.put, List.setIfInBounds_toArray, List.set_cons_zero, List.set_cons_succ, List.getElem_toArray, List.getElem_cons_zero, List.getElem_cons_succ])
      refine wpAnyH_take (i := 39) (v := ?_) rfl (by kernel_rfl) (by kernel_rfl) (by kernel_rfl) (fun _ _ _ h => h) (Or.inl ⟨by rfl, ?_⟩) hS7 ?_
      rotate_left
      · (intro w hSw; (try dsimp only at hSw); go_simp) <;> with_reducible rfl
      (try simp only [Act.put, List.setIfInBounds_toArray, List.set_cons_zero, List.set_cons_succ, List.getElem_toArray, List.getElem_cons_zero, List.getElem_cons_succ])
      refine wpAnyH_take (i := 40) (v := ?_) rfl (by kernel_rfl) (by kernel_rfl) (by kernel_rfl) (fun _ _ _ h => h) (Or.inl ⟨by rfl, ?_⟩) hS7 ?_
      rotate_left
      · (intro w hSw; (try dsimp only at hSw); go_simp) <;> with_reducible rfl
      (try simp only [Act.put, List.setIfInBounds_toArray, List.set_cons_zero, List.set_cons_succ, List.getElem_toArray, List.getElem_cons_zero, List.getElem_cons_succ])
      refine wpAnyH_take (i := 41) (v := ?_) rfl (by kernel_rfl) (by kernel_rfl) (by kernel_rfl) (fun _ _ _ h => h) (Or.inl ⟨by rfl, ?_⟩) hS7 ?_
      rotate_left
      · (intro w hSw; (try dsimp only at hSw); go_simp) <;> with_reducible rfl
      (try simp only [Act.put, List.setIfInBounds_toArray, List.set_cons_zero, List.set_cons_succ, List.getElem_toArray, List.getElem_cons_zero, List.getElem_cons_succ])
      refine wpAnyH_take (i := 42) (v := ?_) rfl (by kernel_rfl) (by kernel_rfl) (by kernel_rfl) (fun _ _ _ h => h) (Or.inl ⟨by rfl, ?_⟩) hS7 ?_
      rotate_left
      · (intro w hSw; (try dsimp only at hSw); go_simp) <;> with_reducible rfl
      (try simp only [Act.put, List.setIfInBounds_toArray, List.set_cons_zero, List.set_cons_succ, List.getElem_toArray, List.getElem_cons_zero, List.getElem_cons_succ])
      refine wpAnyH_take (i := 43) (v := ?_) rfl (by kernel_rfl) (by kernel_rfl) (by kernel_rfl) (fun _ _ _ h => h) (Or.inl ⟨by rfl, ?_⟩) hS7 ?_
      rotate_left
      · (intro w hSw; (try dsimp only at hSw); go_simp) <;> with_reducible rfl
      (try simp only [Act.put, List.setIfInBounds_toArray, List.set_cons_zero, List.set_cons_succ, List.getElem_toArray, List.getElem_cons_zero, List.getElem_cons_succ])
      refine wpAnyH_take (i := 44) (v := ?_) rfl (by kernel_rfl) (by kernel_rfl) (by kernel_rfl) (fun _ _ _ h => h) (Or.inl ⟨by rfl, ?_⟩) hS7 ?_
      rotate_left
      · (intro w hSw; (try dsimp only at hSw); go_simp) <;> with_reducible rfl
      (try simp only [Act.put, List.setIfInBounds_toArray, List.set_cons_zero, List.set_cons_succ, List.getElem_toArray, List.getElem_cons_zero, List.getElem_cons_succ])
      refine wpAnyH_take (i := 45) (v := ?_) rfl (by kernel_rfl) (by kernel_rfl) (by kernel_rfl) (fun _ _ _ h => h) (Or.inl ⟨by rfl, ?_⟩) hS7 ?_
      rotate_left
      · (intro w hSw; (try dsimp only at hSw); go_simp) <;> with_reducible rfl
      (try simp only [Act.put, List.setIfInBounds_toArray, List.set_cons_zero, List.set_cons_succ, List.getElem_toArray, List.getElem_cons_zero, List.getElem_cons_succ])
      refine wpAnyH_take (i := 46) (v := ?_) rfl (by kernel_rfl) (by kernel_rfl) (by kernel_rfl) (fun _ _ _ h => h) (Or.inl ⟨by rfl, ?_⟩) hS7 ?_
      rotate_left
      · (intro w hSw; (try dsimp only at hSw); go_simp) <;> with_reducible rfl
      (try simp only [Act.put, List.setIfInBounds_toArray, List.set_cons_zero, List.set_cons_succ, List.getElem_toArray, List.getElem_cons_zero, List.getElem_cons_succ])
      refine wpAnyH_take (i := 47) (v := ?_) rfl (by kernel_rfl) (by kernel_rfl) (by kernel_rfl) (fun _ _ _ h => h) (Or.inl ⟨by rfl, ?_⟩) hS7 ?_
      rotate_left
      · (intro w hSw; (try dsimp only at hSw); go_simp) <;> with_reducible rfl
      (try simp only [Act.put, List.setIfInBounds_toArray, List.set_cons_zero, List.set_cons_succ, List.getElem_toArray, List.getElem_cons_zero, List.getElem_cons_succ])
      refine wpAnyH_take (i := 48) (v := ?_) rfl (by kernel_rfl) (by kernel_rfl) (by kernel_rfl) (fun _ _ _ h => h) (Or.inl ⟨by rfl, ?_⟩) hS7 ?_
      rotate_left
      · (intro w hSw; (try dsimp only at hSw); go_simp) <;> with_reducible rfl
      (try simp only [Act.put, List.setIfInBounds_toArray, List.set_cons_zero, List.set_cons_succ, List.getElem_toArray, List.getElem_cons_zero, List.getElem_cons_succ])
      refine wpAnyH_take (i := 49) (v := ?_) rfl (by kernel_rfl) (by kernel_rfl) (by kernel_rfl) (fun _ _ _ h => h) (Or.inl ⟨by rfl, ?_⟩) hS7 ?_
      rotate_left
      · (intro w hSw; (try dsimp only at hSw); go_simp) <;> with_reducible rfl
      (try simp only [Act.put, List.setIfInBounds_toArray, List.set_cons_zero, List.set_cons_succ, List.getElem_toArray, List.getElem_cons_zero, List.getElem_cons_succ])
      refine wpAnyH_take (i := 50) (v := ?_) rfl (by kernel_rfl) (by kernel_rfl) (by kernel_rfl) (fun _ _ _ h => h) (Or.inl ⟨by rfl, ?_⟩) hS7 ?_
      rotate_left
      · (intro w hSw; (try dsimp only at hSw); go_simp) <;> with_reducible rfl
      (try simp only [Act.put, List.setIfInBounds_toArray, List.set_cons_zero, List.set_cons_succ, List.getElem_toArray, List.getElem_cons_zero, List.getElem_cons_succ])
      refine wpAnyH_take (i := 51) (v := ?_) rfl (by kernel_rfl) (by kernel_rfl) (by kernel_rfl) (fun _ _ _ h => h) (Or.inl ⟨by rfl, ?_⟩) hS7 ?_
      rotate_left
      · (intro w hSw; (try dsimp only at hSw); go_simp) <;> with_reducible rfl
      (try simp only [Act.put, List.setIfInBounds_toArray, List.set_cons_zero, List.set_cons_succ, List.getElem_toArray, List.getElem_cons_zero, List.getElem_cons_succ])
      obtain ⟨c2, f2, s2⟩ := hr7.facts
      refine wpAnyH_ready (rs := [52]) (by kernel_rfl) (by simp) ?_
      refine AllReadyH.cons rfl (fun K hK => ?_) AllReadyH.nil
      go_simp
      obtain ⟨W8, hW8⟩ : ∃ W8, w7.setCell ⟨w.heap.size + 1, 0, none⟩ (.bool true) = W8 := ⟨_, rfl⟩
      rw [hW8]
      have hc78 : Chg (fun j => j = w.heap.size + 1) w7 W8 := hW8 ▸ (Chg.refl (fun j => j = w.heap.size + 1) w7).setCell (p := ⟨w.heap.size + 1, 0, none⟩) (fun _ => rfl) _
      have hgx7 : gx < w7.heap.size := Nat.lt_of_lt_of_le HGx.out H7.out.2.1.size
      have hn7 : w.heap.size + 2 < w7.heap.size := Nat.lt_of_lt_of_le hn6s H7.out.2.1.size
      have hne : gx ≠ w.heap.size + 1 := by have := HLn.out.2.1.2; omega
      have hS8 : W8.cell? ⟨w.heap.size + 2, 0, none⟩ = some (.int .i64 ((m : Int) + 1)) ∧ W8.cell? ⟨w.heap.size, 0, none⟩ = some (.slice (some ⟨gx, ox, none⟩) (m + 1) c) ∧ W8.cell? ⟨gx, ox, none⟩ = some (.int .i64 y0.1) ∧ W8.cell? ⟨gx, ox + 1, none⟩ = some (.int .i64 y0.2) ∧ W8.cell? ⟨gx, ox + m * 2, none⟩ = some (.int .i64 ym.1) ∧ W8.cell? ⟨gx, ox + m * 2 + 1, none⟩ = some (.int .i64 ym.2) := ⟨(hc78.cell (p := ⟨w.heap.size + 2, 0, none⟩) hn7 (fun e : w.heap.size + 2 = w.heap.size + 1 => by omega)).trans hS7.1, (hc78.cell (p := ⟨w.heap.size, 0, none⟩) (show w.heap.size < w7.heap.size by omega) (fun e : w.heap.size = w.heap.size + 1 => by omega)).trans hS7.2.1, (hc78.cell (p := ⟨gx, ox, none⟩) hgx7 hne).trans hS7.2.2.1, (hc78.cell (p := ⟨gx, ox + 1, none⟩) hgx7 hne).trans hS7.2.2.2.1, (hc78.cell (p := ⟨gx, ox + m * 2, none⟩) hgx7 hne).trans hS7.2.2.2.2.1, (hc78.cell (p := ⟨gx, ox + m * 2 + 1, none⟩) hgx7 hne).trans hS7.2.2.2.2.2⟩
      have hr8 : Blk W8 (w.heap.size + 1) 4 #[.bool true] := by
        have := hr7.put 0 (.bool true)
        rw [hW8] at this
        simpa using this
      have hb8 : BT W8 t p root F x := H7.out.1.chg hc78 (fun j hj e => by have := hFl j hj; omega) (fun e => by omega) (fun e => by omega)
      have hc8 : Chg (fun j => F j ∨ j = w.heap.size + 1) w6 W8 := Chg.trans (H7.out.2.1.mono fun j _ e => .inl e) hc78 fun j _ e => .inr e
      have H8 := Lib.hid (And.intro hr8 (And.intro hb8 hc8))
      clear hr8 hb8 hc8 hc78 hgx7 hn7 hne hW8 c2 f2 s2
      refine hK.out _ _ hS8 (fun _ => ?_)
      clear hK K
      (try simp only [Act.put, List.setIfInBounds_toArray, List.set_cons_zero, List.set_cons_succ, List.getElem_toArray, List.getElem_cons_zero, List.getElem_cons_succ])
      refine wpAnyH_done (by kernel_rfl) ?_ _
      clear hHeld hS hS7 hS8
      go_wp2_with fail
      obtain ⟨hd8, hk8⟩ := HF.out W8 H8.out.2.1 H8.out.2.2
      refine postM_ret1 (v := .bool true) (D := D2) hd8 rfl fun w9 hk9 => ?_
      obtain ⟨c5, f5, s5⟩ := (H8.out.1.kept hk9).facts
      exact ⟨by simp [results, Tryz.results13, go_sem, c5, s5], rfl, hk8 w9 hk9⟩
end Go.Proofs.YtpkkcicaeldodaaGreatDoor
