/- Texts 4 of 7 that the proof of Small stands on. -/
import Derived.Test.YtpkkcicaeldodaaGreatDoorMgSmall3
import Derived.Sort.LoopGhostIn
import Derived.BigGuardIn
import Derived.Maps.OwnIn
import Derived.Deep.LoopGhost
import Derived.Test.YtpkkcicaeldodaaGreatDoorRows
import Derived.Shelf.Sort.Plain
import Derived.Lib.SortBridge
import Derived.Lib.AppendZerosOnto
set_option linter.unusedSimpArgs false
set_option linter.unusedVariables false

namespace Go.Proofs.YtpkkcicaeldodaaGreatDoor
open Go.RowKit Go.Maps

section
variable {W W' : World} {N G : Nat → Prop} {b q : Nat} {nd : Nd} {vk vv vc v' : Value} {lk lv lc l' : List Value}
structure Rws (W : World) (N : Nat → Prop) (vk vv vc : Value) (lk lv lc : List Value) : Prop where
 rk : W.ownsRow 1 3 1 vk lk.length lk
 rv : W.ownsRow 1 3 1 vv lv.length lv
 rc : W.ownsRow 1 3 1 vc lc.length lc
 nk : ∀ g, vk.ownBlock = some g → N g
 nv : ∀ g, vv.ownBlock = some g → N g
 nc : ∀ g, vc.ownBlock = some g → N g
 lt : ∀ j, N j → j < W.heap.size
 kv : ∀ g, vk.ownBlock = some g → vv.ownBlock ≠ some g
 kc : ∀ g, vk.ownBlock = some g → vc.ownBlock ≠ some g
 vc_ : ∀ g, vv.ownBlock = some g → vc.ownBlock ≠ some g
theorem NdV.rws (h : NdV W N b q vk vv vc lk lv lc) : Rws W N vk vv vc lk lv lc := ⟨h.rk, h.rv, h.rc, h.nk, h.nv, h.nc, h.lt, h.kv, h.kc, h.vc_⟩
theorem Rws.ndv (h : Rws W N vk vv vc lk lv lc) (hb : Blk W b 73 #[.int .i64 q, vk, vv, vc]) (hn : N b) : NdV W N b q vk vv vc lk lv lc := ⟨hb, h.rk, h.rv, h.rc, hn, h.nk, h.nv, h.nc, h.lt, h.kv, h.kc, h.vc_⟩
theorem Rws.chg (h : Rws W N vk vv vc lk lv lc) (hc : Chg G W W') (hk : ∀ g, vk.ownBlock = some g → ¬ G g) (hv : ∀ g, vv.ownBlock = some g → ¬ G g) (hcc : ∀ g, vc.ownBlock = some g → ¬ G g) : Rws W' N vk vv vc lk lv lc :=
 ⟨own_chg h.rk hc hk, own_chg h.rv hc hv, own_chg h.rc hc hcc, h.nk, h.nv, h.nc, fun j hj => Nat.lt_of_lt_of_le (h.lt j hj) hc.size, h.kv, h.kc, h.vc_⟩
theorem Rws.grew (h : Rws W N vk vv vc lk lv lc) (hc : Grew W W') : Rws W' N vk vv vc lk lv lc := h.chg hc (fun _ _ => id) (fun _ _ => id) fun _ _ => id
theorem Rws.setK (h : Rws W N vk vv vc lk lv lc) (ha : Ap W W' vk v') (ho : W'.ownsRow 1 3 1 v' l'.length l') : Rws W' (fun j => N j ∨ v'.ownBlock = some j) v' vv vc l' lv lc := by
 obtain ⟨a1, a2⟩ := ha.own h.rv h.kv
 obtain ⟨b1, b2⟩ := ha.own h.rc h.kc
 have hz1 := ha.chg.size
 refine ⟨ho, a1, b1, fun g hg => .inr hg, fun g hg => .inl (h.nv g hg), fun g hg => .inl (h.nc g hg), fun j hj => ?_, fun g hg e => a2 g hg e, fun g hg e => b2 g hg e, h.vc_⟩
 rcases hj with e | e
 ·have := h.lt j e; omega
 ·exact (ho.lt j e).2
theorem Rws.setV (h : Rws W N vk vv vc lk lv lc) (ha : Ap W W' vv v') (ho : W'.ownsRow 1 3 1 v' l'.length l') : Rws W' (fun j => N j ∨ v'.ownBlock = some j) vk v' vc lk l' lc := by
 obtain ⟨a1, a2⟩ := ha.own h.rk fun g hg e => h.kv g e hg
 obtain ⟨b1, b2⟩ := ha.own h.rc h.vc_
 have hz1 := ha.chg.size
 refine ⟨a1, ho, b1, fun g hg => .inl (h.nk g hg), fun g hg => .inr hg, fun g hg => .inl (h.nc g hg), fun j hj => ?_, fun g hg e => a2 g e hg, h.kc, fun g hg e => b2 g hg e⟩
 rcases hj with e | e
 ·have := h.lt j e; omega
 ·exact (ho.lt j e).2
theorem own_set {w : World} {base g n cap i : Nat} {xs : List Value} {u : Value} (h : w.ownsRow base 3 1 (.slice (some ⟨g, 0, none⟩) n cap) n xs) (hi : i < n) :
  (w.setCell ⟨g, i, none⟩ u).ownsRow base 3 1 (.slice (some ⟨g, 0, none⟩) n cap) n (xs.set i u) := by
 obtain ⟨cur, hb, hg, hnc, hcm, hcs, htake, hxl⟩ := own_row h
 have hB : Blk w g 3 cur := hg
 have hB2 := hB.put i u
 refine own_mk hb hB2 hnc hcm (by simpa using hcs) (by rw [List.length_set]; omega) fun j hj => ?_
 rw [Array.getElem?_setIfInBounds, List.getElem?_set]
 have hj2 : cur[j]? = xs[j]? := by
  rw [← htake, List.getElem?_take, if_pos (by omega)]
  simp
 by_cases e : i = j
 ·subst e
  rw [if_pos rfl, if_pos rfl, if_pos (by omega), if_pos (by omega)]
 ·rw [if_neg e, if_neg e, hj2]
end
theorem NdOwn.setVal {W : World} {N : Nat → Prop} {b q : Nat} {nd : Nd} {i : Nat} (h : NdOwn W N b q nd) (hi : i < nd.vals.length) :
  ∃ gv ck cv cc Ak Ac, Blk W b 73 #[.int .i64 q, .slice Ak nd.keys.length ck, .slice (some ⟨gv, 0, none⟩) nd.vals.length cv, .slice Ac nd.kids.length cc] ∧ N gv ∧ gv < W.heap.size ∧ (∃ u, W.cell? ⟨gv, i, none⟩ = some u) ∧ W.frozen? ⟨gv, i, none⟩ = false ∧
   ∀ (v : Int) (W2 : World), W.setCell ⟨gv, i, none⟩ (.int .i64 v) = W2 → NdOwn W2 N b q { nd with vals := nd.vals.set i v } ∧ Chg N W W2 := by
 obtain ⟨vk, vv, vc, hV⟩ := h.v
 have hne := hV.ne
 have rk := hV.rk
 have rv := hV.rv
 have rc := hV.rc
 rw [iv_len] at rk rv
 rw [nv_len] at rc
 obtain ⟨Ak, ck, rfl, -⟩ := own_shape rk
 obtain ⟨Av, cv, rfl, -⟩ := own_shape rv
 obtain ⟨Ac, cc, rfl, -⟩ := own_shape rc
 obtain ⟨gv, rfl, hgl⟩ := own_block rv (by omega)
 have hown : (Value.slice (some ⟨gv, 0, none⟩) nd.vals.length cv).ownBlock = some gv := own_blockOf rv _ rfl
 obtain ⟨cur, hb, hg, hnc, hcm, hcs, htake, hxl⟩ := own_row rv
 have hB : Blk W gv 3 cur := hg
 have hcell : W.cell? ⟨gv, i, none⟩ = some cur[i] := by rw [hB.cell]; exact Array.getElem?_eq_getElem (by omega)
 refine ⟨gv, ck, cv, cc, Ak, Ac, hV.blk, hV.nv _ hown, hgl, ⟨_, hcell⟩, hB.frozen i, fun v W2 hW => ?_⟩
 have hc : Chg (fun j => j = gv) W W2 := hW ▸ (Chg.refl (fun j => j = gv) W).setCell (p := ⟨gv, i, none⟩) (fun _ => rfl) _
 have hl : (iv (nd.vals.set i v)).length = nd.vals.length := by rw [iv_len, List.length_set]
 refine ⟨NdV.own (vk := .slice Ak nd.keys.length ck) (vv := .slice (some ⟨gv, 0, none⟩) nd.vals.length cv) (vc := .slice Ac nd.kids.length cc) (nd := { nd with vals := nd.vals.set i v })
  ⟨hV.blk.chg hc fun e => hne.2.1 (by rw [e]; exact hown), own_chg hV.rk hc fun g hg e => hV.kv g hg (by rw [e]; exact hown), ?_, own_chg hV.rc hc fun g hg e => hV.vc_ gv hown (by rw [← e]; exact hg), hV.nb, hV.nk, hV.nv, hV.nc, fun j hj => Nat.lt_of_lt_of_le (hV.lt j hj) hc.size, hV.kv, hV.kc, hV.vc_⟩, hc.mono fun j _ e => by subst e; exact hV.nv _ hown⟩
 rw [hl]
 have := own_set (u := .int .i64 v) rv hi
 rw [hW] at this
 have e : (iv nd.vals).set i (.int .i64 v) = iv (nd.vals.set i v) := by simp [iv, List.map_set]
 rw [e] at this
 exact this
end Go.Proofs.YtpkkcicaeldodaaGreatDoor

namespace Go.Proofs.YtpkkcicaeldodaaGreatDoor
open Go.RowKit Go.Maps

theorem WayAt.whole {rd : Nat → Option Nd} {h D root : Nat} {k : Int} {L : List KV} {P : List Nat} {d q : Nat} {nd : Nd} {A M B : List KV} {P1 PM P2 : List Nat} (a : WayAt rd h D root k L P d q nd A M B P1 PM P2) : Tr rd h D root L P := by
 have := a.ctx.plug rd M PM (fun _ _ => rfl) (fun _ _ => rfl) a.tr a.occ
 rwa [← a.l, ← a.p] at this
theorem TS.depth {x : Rp} {D root : Nat} {L : List KV} {P : List Nat} (h : TS x D root L P) (hh : 2 ≤ halfN x.sz) (hl : L.length ≤ 1000) : D ≤ 9 := by
 rcases h.tr.deep hh with e | e
 ·omega
 ·by_cases hD : D ≤ 9
  ·exact hD
  ·have : 2 ^ 10 ≤ 2 ^ (D + 1) := Nat.pow_le_pow_right (by omega) (by omega)
   omega
theorem TS.write {x : Rp} {D root q : Nat} {L L' : List KV} {P : List Nat} {bs : List Int} (h : TS x D root L P) (hq : q ∈ P) (t : Tr (x.put q (.new bs)).nd (halfN x.sz) D root L' P) (hs : Srt L') : TS (x.put q (.new bs)) D root L' P := by
 obtain ⟨c, h1, h2⟩ := h.pgs q hq
 refine ⟨t, h.nd, hs, ?_⟩
 rw [Rp.put_usedU h1 h2 rfl, h.used]
theorem WayAt.q_mem {rd : Nat → Option Nd} {h D root : Nat} {k : Int} {L : List KV} {P : List Nat} {d q : Nat} {nd : Nd} {A M B : List KV} {P1 PM P2 : List Nat} (a : WayAt rd h D root k L P d q nd A M B P1 PM P2) : q ∈ P := by
 rw [a.p]
 exact List.mem_append_left _ (List.mem_append_right _ a.tr.root_mem)
def PuOut (w w' : World) (t p root : Nat) (F : Nat → Prop) (x : Rp) (D0 : Nat) (k v : Int) (L : List KV) (e : Ending) : Prop :=
 (e = .returned (.int .i64 0) ∧ ∃ y F' D P, BT w' t p root F' y ∧ Rch F F' w w' ∧ x.like y ∧ TS y D root (putL L k v) P) ∨ (e = .returned (.int .i64 21) ∧ Full w w' t p root F x (D0 + 4))
theorem FullG.full {w w' : World} {t p root m m' : Nat} {F : Nat → Prop} {x : Rp} (h : FullG F w w' t p root F x m) (hm : m ≤ m') : Full w w' t p root F x m' := by
 obtain ⟨z, F', h1, h2, h3, h4, h5, h6⟩ := h
 exact ⟨z, ⟨F', h1, h2, h3⟩, h4, by omega, h6⟩
structure PuJ (w W : World) (t p root : Nat) (F : Nat → Prop) (x : Rp) (k : Int) (L : List KV) (bn d q : Nat) (nd : Nd) (F' : Nat → Prop) (y : Rp) (D : Nat) (P : List Nat) (A M B : List KV) (P1 PM P2 : List Nat) (N : Nat → Prop) (D0 : Nat) : Prop where
 bt : BT W t p root F' y
 rch : Rch F F' w W
 like : x.like y
 ts : TS y D root L P
 way : WayAt y.nd (halfN y.sz) D root k L P d q nd A M B P1 PM P2
 own : NdOwn W N bn q nd
 nF : ∀ j, N j → ¬ F' j
 nw : ∀ j, N j → w.heap.size ≤ j
 room : nd.keys.length + 1 ≤ 2 * halfN y.sz - 1
 used : y.now.countP Pk.used + d ≤ x.now.countP Pk.used + 2 + D
 dep : D ≤ D0 + 1
 tl : t < w.heap.size
theorem nd_put_fit {nd : Nd} {sz i : Nat} {k v : Int} (f : nd.Fit sz) (hi : i ≤ nd.keys.length) (hm : nd.keys.length + 1 ≤ mostN sz) (hk : i64 k) (hv : i64 v) : (⟨insI nd.keys i k, insI nd.vals i v, []⟩ : Nd).Fit sz := by
 have l1 := insI_len (l := nd.keys) (i := i) k hi
 have l2 := insI_len (l := nd.vals) (i := i) v (by rw [f.vals]; exact hi)
 have hvl := f.vals
 exact ⟨by simp only; omega, by simp only; omega, .inl rfl, fun a ha => (insI_mem ha).elim (fun e => e ▸ hk) (f.ki a), fun a ha => (insI_mem ha).elim (fun e => e ▸ hv) (f.vi a), fun c hc => (by cases hc)⟩
theorem half_most {sz : Nat} (h : 64 ≤ sz) : 2 * halfN sz - 1 ≤ mostN sz := by unfold halfN; unfold mostN; omega
section
variable {w W : World} {t p root : Nat} {F : Nat → Prop} {x : Rp} {k v : Int} {L : List KV} {bn d q : Nat} {nd : Nd} {F' : Nat → Prop} {y : Rp} {D : Nat} {P : List Nat} {A M B : List KV} {P1 PM P2 : List Nat} {N : Nat → Prop} {D0 : Nat}
theorem PuJ.fail (h : PuJ w W t p root F x k L bn d q nd F' y D P A M B P1 PM P2 N D0) {W1 w' : World} {G G1 : Nat → Prop} {m : Nat} (hc : Chg G1 W W1) (hG1 : ∀ j, G1 j → F' j ∨ w.heap.size ≤ j) (hf : FullG G W1 w' t p root F' y m) (hm : m ≤ 1) (hG : ∀ j, G j → F' j ∨ w.heap.size ≤ j) : Full w w' t p root F x (D0 + 4) := by
 have hu := h.used
 have hd := h.dep
 have hF' : ∀ j, j < w.heap.size → F' j → F j := fun j hj e => (h.rch.new j e).resolve_right (by omega)
 have h1 : Chg F w W1 := Chg.trans h.rch.chg hc fun j hj e => hF' j hj ((hG1 j e).resolve_right (by omega))
 exact (hf.more (m' := D0 + 4) h.like (by omega) h1 h.rch.new fun j hj e => hF' j hj ((hG j e).resolve_right (by omega))).full (Nat.le_refl _)
theorem PuJ.put (h : PuJ w W t p root F x k L bn 0 q nd F' y D P A M B P1 PM P2 N D0) (hk : getK L k = none) {W1 w' : World} {G1 : Nat → Prop} (hc : Chg G1 W W1) (hG1 : ∀ j, G1 j → F' j ∨ w.heap.size ≤ j) (hz : y.sz ≤ 4096)
  (hto : BTTo W1 w' t p root F' (y.put q (.new (ndL ⟨insI nd.keys (atI nd.keys k) k, insI nd.vals (atI nd.keys k) v, []⟩ y.sz)))) (hfit : (⟨insI nd.keys (atI nd.keys k) k, insI nd.vals (atI nd.keys k) v, []⟩ : Nd).Fit y.sz) :
  ∃ y F' D P, BT w' t p root F' y ∧ Rch F F' w w' ∧ x.like y ∧ TS y D root (putL L k v) P := by
 obtain ⟨F2, h1, h2, h3⟩ := hto
 have hsz := hc.size
 have hw := h.rch.chg.size
 have hF' : ∀ j, j < w.heap.size → F' j → F j := fun j hj e => (h.rch.new j e).resolve_right (by omega)
 have hr1 : Chg F w W1 := Chg.trans h.rch.chg hc fun j hj e => hF' j hj ((hG1 j e).resolve_right (by omega))
 obtain ⟨c, p1, p2⟩ := h.ts.pgs q h.way.q_mem
 have ht := h.way.put (v := v) h.ts.srt h.ts.nd (h.way.miss hk) h.room (Rp.nd_new hfit (List.getElem?_eq_some_iff.1 p1).1 hz) fun i _ hi => Rp.nd_other hi
 exact ⟨_, F2, D, P, h1, ⟨Chg.trans hr1 h2 fun j hj e => hF' j hj e, fun j hj => (h3 j hj).elim (h.rch.new j) fun e => .inr (by omega)⟩, h.like.trans (y.put_like _ _), h.ts.write h.way.q_mem ht (putL_srt h.ts.srt k v)⟩
theorem PuJ.down (h : PuJ w W t p root F x k L bn (d + 1) q nd F' y D P A M B P1 PM P2 N D0) {W1 : World} {b3 c : Nat} {kd : Nd} {N3 : Nat → Prop} {A' M' B' : List KV} {P1' PM' P2' : List Nat} (hw : WayAt y.nd (halfN y.sz) D root k L P d c kd A' M' B' P1' PM' P2') (hc : Chg F' W W1) (hb : BT W1 t p root F' y) (hn : NdOwn W1 N3 b3 c kd) (hN : ∀ j, N3 j → W.heap.size ≤ j) (hr : kd.keys.length + 1 ≤ 2 * halfN y.sz - 1) :
  PuJ w W1 t p root F x k L b3 d c kd F' y D P A' M' B' P1' PM' P2' N3 D0 := by
 have hsz := h.rch.chg.size
 have hlt := h.bt.gp.lt
 exact ⟨hb, h.rch.trans ⟨hc, fun j e => .inl e⟩, h.like, h.ts, hw, hn, fun j hj e => by have := hN j hj; have := hlt j e; omega, fun j hj => by have := hN j hj; omega, hr, by have := h.used; omega, h.dep, h.tl⟩
theorem PuJ.split (h : PuJ w W t p root F x k L bn (d + 1) q nd F' y D P A M B P1 PM P2 N D0) (hk : getK L k = none) {W1 w' : World} {c r : Nat} {kd : Nd} {N' F2 : Nat → Prop} {k0 v0 : Int} {G : Nat → Prop} (hci : nd.kids[atI nd.keys k]? = some c) (hkd : y.nd c = some kd) (hf : kd.keys.length = 2 * halfN y.sz - 1) (hh : 2 ≤ halfN y.sz) (hz : y.sz ≤ 4096)
  (hr : y.now[r]? = some .no) (hk0 : kd.keys[halfN y.sz - 1]? = some k0) (hv0 : kd.vals[halfN y.sz - 1]? = some v0) (hb : BT w' t p root F2 (y.splitP r c q (kd.hi (halfN y.sz)) (kd.lo (halfN y.sz)) (nd.ins (atI nd.keys k) k0 v0 r)))
  (hc1 : Chg F' W W1) (hc : Chg G W1 w') (hG : ∀ j, G j → F' j ∨ w.heap.size ≤ j) (hF2 : ∀ j, F2 j → F' j ∨ W1.heap.size ≤ j) (hn : NdOwn w' N' bn q (nd.ins (atI nd.keys k) k0 v0 r)) (hnF : ∀ j, N' j → ¬ F2 j) (hnw : ∀ j, N' j → N j ∨ W1.heap.size ≤ j)
  (f1 : (kd.hi (halfN y.sz)).Fit y.sz) (f2 : (kd.lo (halfN y.sz)).Fit y.sz) (f3 : (nd.ins (atI nd.keys k) k0 v0 r).Fit y.sz) :
  ∃ P' PM' e ke A' M' B' P1' PM2 P2', (BT w' t p root F2 (y.splitP r c q (kd.hi (halfN y.sz)) (kd.lo (halfN y.sz)) (nd.ins (atI nd.keys k) k0 v0 r)) ∧ Rch F F2 w w' ∧ x.like (y.splitP r c q (kd.hi (halfN y.sz)) (kd.lo (halfN y.sz)) (nd.ins (atI nd.keys k) k0 v0 r)) ∧
   TS (y.splitP r c q (kd.hi (halfN y.sz)) (kd.lo (halfN y.sz)) (nd.ins (atI nd.keys k) k0 v0 r)) D root L P' ∧ WayAt (y.splitP r c q (kd.hi (halfN y.sz)) (kd.lo (halfN y.sz)) (nd.ins (atI nd.keys k) k0 v0 r)).nd (halfN y.sz) D root k L P' (d + 1) q (nd.ins (atI nd.keys k) k0 v0 r) A M B P1 PM' P2) ∧
   (nd.ins (atI nd.keys k) k0 v0 r).kids[atI (nd.ins (atI nd.keys k) k0 v0 r).keys k]? = some e ∧ WayAt (y.splitP r c q (kd.hi (halfN y.sz)) (kd.lo (halfN y.sz)) (nd.ins (atI nd.keys k) k0 v0 r)).nd (halfN y.sz) D root k L P' d e ke A' M' B' P1' PM2 P2' ∧ ke.keys.length + 1 ≤ 2 * halfN y.sz - 1 ∧
   (y.splitP r c q (kd.hi (halfN y.sz)) (kd.lo (halfN y.sz)) (nd.ins (atI nd.keys k) k0 v0 r)).now.countP Pk.used = y.now.countP Pk.used + 1 := by
 have hrP := h.ts.new hr
 have hqP := h.way.q_mem
 obtain ⟨cq, q1, q2⟩ := h.ts.pgs q hqP
 obtain ⟨cc, c1, c2, -⟩ := Rp.nd_some hkd
 have hcP : c ∈ P := by
  obtain ⟨e, nd', A', M', B', P1', PM', P2', g1, g2⟩ := h.way.down h.ts.srt (h.way.miss hk)
  rw [hci] at g1; cases g1
  exact g2.q_mem
 have hrc : r ≠ c := fun e => hrP (e ▸ hcP)
 have hrq : r ≠ q := fun e => hrP (e ▸ hqP)
 have hcq : c ≠ q := fun e => by
  subst e
  obtain ⟨nd', P0, g1, g2, g3, g4, g5, g6⟩ := h.way.tr
  rw [h.way.nd] at g1; cases g1
  obtain ⟨e1, e2, e3, e4⟩ := h.way.apart h.ts.nd
  obtain ⟨M', Q, t1, t2⟩ := g5.mem (List.mem_of_getElem? hci)
  rw [g6] at e3
  exact (List.nodup_cons.1 e3).1 (t2 c t1.1.root_mem)
 obtain ⟨k1, v1, g1, g2, g3⟩ := h.way.split (r := r) h.ts.nd hh hci hkd hf h.room hrP
 rw [hk0] at g1; cases g1
 rw [hv0] at g2; cases g2
 obtain ⟨n1, n2, n3, n4⟩ := Rp.splitP_nd (x := y) (r := r) (qk := c) (qn := q) (List.getElem?_eq_some_iff.1 hr).1 (List.getElem?_eq_some_iff.1 c1).1 (List.getElem?_eq_some_iff.1 q1).1 f1 f2 f3 hz hrc hrq hcq
 obtain ⟨P', PM', w1, w2⟩ := g3 _ n2 n1 n3 fun j hj j1 j2 => n4 j (fun e => hrP (e ▸ hj)) j1 j2
 have hu := Rp.splitP_used (hi := kd.hi (halfN y.sz)) (lo := kd.lo (halfN y.sz)) (pn := nd.ins (atI nd.keys k) k0 v0 r) hr c1 c2 q1 q2
 have hts : TS (y.splitP r c q (kd.hi (halfN y.sz)) (kd.lo (halfN y.sz)) (nd.ins (atI nd.keys k) k0 v0 r)) D root L P' := ⟨w1.whole, w2.nodup_iff.2 (List.nodup_cons.2 ⟨hrP, h.ts.nd⟩), h.ts.srt, by rw [hu, w2.length_eq, h.ts.used]; rfl⟩
 obtain ⟨e, ke, A', M', B', P1', PM2, P2', d1, d2⟩ := w1.down h.ts.srt (w1.miss hk)
 have hke : ke.keys.length + 1 ≤ 2 * halfN y.sz - 1 := by
  have l1 : (kd.lo (halfN y.sz)).keys.length = halfN y.sz - 1 := by simp [Nd.lo]; omega
  have l2 : (kd.hi (halfN y.sz)).keys.length = halfN y.sz - 1 := by simp [Nd.hi]; omega
  have hen := d2.nd
  rcases ins_kid (kd := kd) hci d1 with e1 | e1
  ·rw [e1, n2] at hen; cases hen; omega
  ·rw [e1, n1] at hen; cases hen; omega
 have hsz := h.rch.chg.size
 have hsz1 := hc1.size
 have hF' : ∀ j, j < w.heap.size → F' j → F j := fun j hj e => (h.rch.new j e).resolve_right (by omega)
 refine ⟨P', PM', e, ke, A', M', B', P1', PM2, P2', ⟨hb, ⟨Chg.trans (Chg.trans h.rch.chg hc1 hF') hc fun j hj e => hF' j hj ((hG j e).resolve_right (by omega)), fun j hj => (hF2 j hj).elim (h.rch.new j) fun e => .inr (by omega)⟩, h.like.trans Rp.splitP_like, hts, w1⟩, d1, d2, hke, hu⟩
end
end Go.Proofs.YtpkkcicaeldodaaGreatDoor

namespace Go.Proofs.YtpkkcicaeldodaaGreatDoor
open Go.RowKit Go.Maps

theorem bat_any (p r : Nat) (w W : World) (hW : w.alloc (.cells #[.pointer (some ⟨p, 0, none⟩), .int .i64 r] 78) = W) :
  Calls Tryz.prog 22 #[.pointer (some ⟨p, 0, none⟩), .int .i64 r] w fun e w' => e = .returned (.pointer (some ⟨w.heap.size, 0, none⟩)) ∧ W = w' := by
 subst hW
 go_enter Tryz.func22, Tryz.ntmps22
 go_wp2
 go_ret
 exact ⟨rfl, rfl⟩
def nd0 : Nd := ⟨[], [], []⟩
theorem nd0_fit (sz : Nat) : nd0.Fit sz := ⟨rfl, Nat.zero_le _, .inl rfl, fun k h => (by cases h), fun k h => (by cases h), fun k h => (by cases h)⟩
def NwOut (w w' : World) (p : Nat) (F : Nat → Prop) (x : Rp) (e : Ending) : Prop :=
 ∃ t r F', e = .returned (.tuple #[.pointer (some ⟨t, 0, none⟩), .int .i64 0]) ∧ x.now[r]? = some .no ∧ BT w' t p r F' ((x.put r .zero).put r (.new (ndL nd0 x.sz))) ∧ Chg F w w' ∧ (∀ j, F' j → F j ∨ w.heap.size ≤ j) ∧ w.heap.size ≤ t
set_option maxRecDepth 100000 in
set_option maxHeartbeats 1600000 in
theorem bnew_any (p : Nat) (F : Nat → Prop) (x : Rp) (w : World) (h : GP w p F x) (ho : x.was ≠ none) (hs : 1 ≤ x.slack) (hn : Pk.no ∈ x.now) :
  Calls Tryz.prog 35 #[.pointer (some ⟨p, 0, none⟩)] w fun e w' => NwOut w w' p F x e := by
 have hal := gp_alloc_any p F x w h ho
 have H := Lib.hid (And.intro hal (And.intro h (And.intro ho (And.intro hs hn))))
 clear hal h ho hs hn
 go_enter Tryz.func35, Tryz.ntmps35
 go_wp2_with fail
 refine H.out.1.mono ?_
 rintro e w1 (⟨r, hr, hrf, rfl, F1, h1, hc1, hn1⟩ | ⟨hno, rfl, -⟩)
 rotate_left
 ·exact absurd ⟨by have := H.out.2.2.2.1; omega, H.out.2.2.2.2⟩ hno
 obtain ⟨W2, hW2⟩ : ∃ W, w1.alloc (.cells #[.pointer (some ⟨p, 0, none⟩), .int .i64 r] 78) = W := ⟨_, rfl⟩
 have hr4 : r < 4096 := by have := (List.getElem?_eq_some_iff.1 hr).1; have := H.out.2.1.szs; omega
 have H1 := Lib.hid (And.intro h1 (And.intro hc1 (And.intro hn1 hr)))
 clear h1 hc1 hn1 hr hrf
 go_wp2_with (go_at_call 22; (refine (bat_any p r w1 W2 hW2).mono ?_); rintro e w2 ⟨rfl, rfl⟩)
 have hb2 : Blk W2 w1.heap.size 78 #[.pointer (some ⟨p, 0, none⟩), .int .i64 r] := hW2 ▸ Blk.new _ _ _
 have hg2 : Grew w1 W2 := hW2 ▸ (Chg.refl _ _).alloc _
 have hz2 : W2.heap.size = w1.heap.size + 1 := by subst hW2; simp
 obtain ⟨W3, hW3⟩ : ∃ W, W2.alloc (.cells #[.int .i64 r, .slice none 0 0, .slice none 0 0, .slice none 0 0] 73) = W := ⟨_, rfl⟩
 rw [hW3]
 have hg3 : Grew w1 W3 := hW3 ▸ hg2.alloc _
 have hb3 : Blk W3 W2.heap.size 73 #[.int .i64 r, .slice none 0 0, .slice none 0 0, .slice none 0 0] := hW3 ▸ Blk.new _ _ _
 have hz3 : W3.heap.size = W2.heap.size + 1 := by subst hW3; simp
 have hbt : BT W3 w1.heap.size p r F1 (x.put r .zero) := ⟨H1.out.1.grew hg3, hb2.grew (hW3 ▸ (Chg.refl _ _).alloc _), fun e => by have := H1.out.1.lt _ e; omega⟩
 have hna : NdAt W3 (fun j => j = W2.heap.size) W2.heap.size r nd0 := ⟨none, 0, none, 0, none, 0, hb3, Sl.nil _ _ _, Sl.nil _ _ _, Sl.nil _ _ _, rfl, fun a h => (by cases h), fun a h => (by cases h), fun a h => (by cases h), fun j hj => by omega⟩
 have hil : r < x.now.length := (List.getElem?_eq_some_iff.1 H1.out.2.2.2).1
 have hsv := bsave_any w1.heap.size p r W2.heap.size r F1 (fun j => j = W2.heap.size) (x.put r .zero) .zero nd0 W3 hbt hna (nd0_fit _) H.out.2.2.1 (by rw [Rp.put_at hil, if_pos rfl]) rfl (fun e => by have := H1.out.1.lt _ e; omega)
 have H3 := Lib.hid (And.intro hsv (And.intro hg3 hz3))
 clear hsv hbt hna hb2 hb3 hg2 hg3 hW3 hW2 hz2 hz3 hil
 refine H3.out.1.mono ?_
 rintro e w4 (⟨rfl, F2, k1, k2, k3⟩ | ⟨hns, -, -, -⟩)
 rotate_left
 ·have h9 := Rp.put_slack (c := .zero) H.out.2.2.1 H1.out.2.2.2
  simp [Pk.isNew] at h9
  have := H.out.2.2.2.1
  omega
 have H4 := Lib.hid (And.intro k1 (And.intro k2 k3))
 clear k1 k2 k3
 go_wp2_with fail
 go_ret2
 have hs1 := H1.out.2.1.size
 have hs3 := H3.out.2.1.size
 refine ⟨w1.heap.size, r, F2, rfl, H1.out.2.2.2, H4.out.1, Chg.trans (H1.out.2.1.grew H3.out.2.1) H4.out.2.1 fun i hi e => (H1.out.2.2.1 i e).resolve_right (by omega), fun j hj => (H4.out.2.2 j hj).elim (H1.out.2.2.1 j) fun e => .inr (by omega), hs1⟩
end Go.Proofs.YtpkkcicaeldodaaGreatDoor

namespace Go.Proofs.YtpkkcicaeldodaaGreatDoor
open Go.RowKit Go.Maps

set_option maxHeartbeats 800000 in
theorem gopen_range (d : Nat) (F : Nat → Prop) (D : Dk) (w : World) (h : DS w d F D) (hr : D.n < 8 ∨ D.sz < 64) :
  Calls Tryz.prog 33 #[.pointer (some ⟨d, 0, none⟩)] w fun e w' => e = .returned (.tuple #[.pointer none, .int .i64 11]) ∧ w = w' := by
 have H := Lib.hid h
 clear h
 by_cases h8 : D.n < 8
 case' _ =>
  have a1 : decide ((D.n : Int) < 8) = true := decide_eq_true (by omega)
 rotate_left
 case' _ =>
  have a1 : decide ((D.n : Int) < 8) = false := decide_eq_false (by omega)
  have a2 : decide ((D.sz : Int) < 64) = true := decide_eq_true (by omega)
 rotate_left
 all_goals
  clear hr h8
  go_enter Tryz.func33, Tryz.ntmps33
  go_wp2_with (first
   | (go_at_call 76; (refine (dsectors_any d F D _ H.out).mono ?_); rintro e w1 ⟨rfl, rfl⟩)
   | (go_at_call 77; (refine (dsize_any d F D _ H.out).mono ?_); rintro e w1 ⟨rfl, rfl⟩))
  go_ret2
  exact ⟨rfl, rfl⟩

def Gp.fresh (D : Dk) : Gp := { D := D, epoch := 0, row := D.sz / 2, pages := List.replicate (tabN D.n D.sz) 0, table := List.replicate (capN D.n D.sz) 0, free := trn (trn (full D.n) 0) 1, op := none, down := false }

structure NewInts (w0 w : World) (g n : Nat) : Prop where
 blk : Blk w g 3 (nv (List.replicate n 0)).toArray
 new : w0.heap.size ≤ g
structure NewPool (w0 w : World) (b n : Nat) (A : Option Addr) (c : Nat) : Prop where
 p : PIn w b (full n) A c
 new : ∀ j, PF b A j → w0.heap.size ≤ j
theorem NewInts.grew {w0 w w' : World} {g n : Nat} (h : NewInts w0 w g n) (hg : Grew w w') : NewInts w0 w' g n := ⟨h.blk.grew hg, h.new⟩
theorem NewPool.grew {w0 w w' : World} {b n c : Nat} {A : Option Addr} (h : NewPool w0 w b n A c) (hg : Grew w w') : NewPool w0 w' b n A c := ⟨h.p.grew hg, h.new⟩
structure OpenIn (w0 w : World) (p d row T C g1 g2 b n : Nat) (A : Option Addr) (c : Nat) : Prop where
 blk : Blk w p 101 #[.pointer (some ⟨d, 0, none⟩), .int .i64 0, .int .i64 row, .slice (some ⟨g1, 0, none⟩) T T, .slice (some ⟨g2, 0, none⟩) C C, .pointer (some ⟨b, 0, none⟩), .pointer none, .bool false]
 t1 : NewInts w0 w g1 T
 t2 : NewInts w0 w g2 C
 ne : g1 ≠ g2
 pool : NewPool w0 w b n A c
 grew : Grew w0 w
 new : w0.heap.size ≤ p
def OpenJ (w0 : World) (d row T C n : Nat) (v : Value) (w : World) : Prop := ∃ p g1 g2 b A c, v = .pointer (some ⟨p, 0, none⟩) ∧ OpenIn w0 w p d row T C g1 g2 b n A c
theorem openJ_mk {w0 w : World} {d row T C g1 g2 b n c : Nat} {A : Option Addr} {r : Int} (hr : r = (row : Int)) (h1 : NewInts w0 w g1 T) (h2 : NewInts w0 w g2 C) (hne : g1 ≠ g2) (hp : NewPool w0 w b n A c) (hg : Grew w0 w) :
  OpenJ w0 d row T C n (.pointer (some ⟨w.heap.size, 0, none⟩)) (w.alloc (.cells #[.pointer (some ⟨d, 0, none⟩), .int .i64 0, .int .i64 r, .slice (some ⟨g1, 0, none⟩) T T, .slice (some ⟨g2, 0, none⟩) C C, .pointer (some ⟨b, 0, none⟩), .pointer none, .bool false] 101)) := by
 subst hr
 exact ⟨_, g1, g2, b, A, c, rfl, Blk.new _ _ _, h1.grew ((Chg.refl _ _).alloc _), h2.grew ((Chg.refl _ _).alloc _), hne, hp.grew ((Chg.refl _ _).alloc _), hg.alloc _, hg.size⟩

def mkd (n : Nat) : Nat → List Bool
 | 0 => full n
 | k + 1 => trn (mkd n k) k
theorem mkd_len (n : Nat) : ∀ k, (mkd n k).length = n
 | 0 => full_len n
 | k + 1 => by rw [mkd, trn, List.length_set]; exact mkd_len n k
theorem mkd_at (n : Nat) : ∀ k j, k ≤ n → (mkd n k).getD j false = (decide (k ≤ j) && decide (j < n))
 | 0, j, _ => by rw [mkd, full_at]; simp
 | k + 1, j, hk => by
  rw [mkd, trn, getD_set _ _ _ _ (by rw [mkd_len]; omega), mkd_at n k k (by omega), mkd_at n k j (by omega)]
  by_cases e : j = k
  ·subst e; simp; omega
  ·rw [if_neg e]
   by_cases h1 : k ≤ j
   ·simp [h1, show k + 1 ≤ j by omega]
   ·simp [h1, show ¬ k + 1 ≤ j by omega]
theorem mkd_mark (n k : Nat) (hk : k < n) : toL (mkd n k) (k : Int) false = (mkd n (k + 1), 0) := by
 unfold toL
 rw [if_neg (by rw [mkd_len]; omega), Int.toNat_natCast, mkd_at n k k (by omega), if_neg (by simp; omega)]
 rfl

theorem own_new {w : World} {g n : Nat} {t : TypeId} {cs : Array Value} (h : Blk w g t cs) (hn : cs.size = n) (hm : n ≤ maxLen) : w.ownsRow 0 t 1 (.slice (some ⟨g, 0, none⟩) n n) n cs.toList :=
 ⟨by simp [hn], .inr ⟨g, n, cs, rfl, Nat.zero_le _, h, Nat.le_refl _, hm, by simp [hn], by rw [Nat.mul_one, ← hn, ← Array.length_toList, List.take_length]⟩⟩
theorem blk_ne {w : World} {g g' : Nat} {t t' : TypeId} {cs cs' : Array Value} (h : Blk w g t cs) (h' : Blk w g' t' cs') (hne : t ≠ t') : g ≠ g' := by
 rintro rfl
 unfold Blk at h h'
 rw [h] at h'
 injection h' with h'
 injection h' with h1 h2
 exact hne h2

theorem pf_ne {w : World} {b c g : Nat} {x : List Bool} {A : Option Addr} {t : TypeId} {cs : Array Value} (h : PIn w b x A c) (hg : Blk w g t cs) (h1 : t ≠ 152) (h2 : t ≠ 153) : ¬ PF b A g := by
 rintro (rfl | ⟨a, rfl, rfl⟩)
 ·have := h.blk
  unfold Blk at this hg
  rw [this] at hg
  cases hg
  exact h1 rfl
 ·exact own_blk_ne h.own hg (Ne.symm h2) rfl

theorem gfresh_mk {w0 w : World} {d p g1 g2 b c : Nat} {A : Option Addr} {F : Nat → Prop} {D : Dk} (hd : DS w d F D) (hF0 : ∀ j, F j → j < w0.heap.size) (h0 : ¬ F 0) (hpos : 0 < w0.heap.size) (hT : TabAt 0 tab w) (hn : D.n ≤ 4096)
  (hb : Blk w p 101 #[.pointer (some ⟨d, 0, none⟩), .int .i64 0, .int .i64 (D.sz / 2 : Nat), .slice (some ⟨g1, 0, none⟩) (tabN D.n D.sz) (tabN D.n D.sz), .slice (some ⟨g2, 0, none⟩) (capN D.n D.sz) (capN D.n D.sz), .pointer (some ⟨b, 0, none⟩), .pointer none, .bool false])
  (h1 : Blk w g1 3 (nv (List.replicate (tabN D.n D.sz) 0)).toArray) (h2 : Blk w g2 3 (nv (List.replicate (capN D.n D.sz) 0)).toArray) (hne : g1 ≠ g2) (hp : PIn w b (mkd D.n 2) A c)
  (n0 : w0.heap.size ≤ p) (n1 : w0.heap.size ≤ g1) (n2 : w0.heap.size ≤ g2) (n3 : ∀ j, PF b A j → w0.heap.size ≤ j) :
  ∃ F', GS w p F' (Gp.fresh D) ∧ ∀ j, F' j → F j ∨ w0.heap.size ≤ j := by
 classical
 have hC : capN D.n D.sz ≤ 4096 := by unfold capN; split <;> omega
 have hT64 : tabN D.n D.sz ≤ 64 := by have := tabs_le (D.sz / 2) (D.n - 2) D.sz 64 0; unfold tabN; omega
 have d1 : p ≠ g1 := blk_ne hb h1 (by decide)
 have d2 : p ≠ g2 := blk_ne hb h2 (by decide)
 have d3 := pf_ne hp hb (by decide) (by decide)
 have d4 := pf_ne hp h1 (by decide) (by decide)
 have d5 := pf_ne hp h2 (by decide) (by decide)
 obtain ⟨L, hL⟩ : ∃ L : Nat → Nat, L = fun j => if j = p then 1 else if j = g1 then 4 else if j = g2 then 5 else if PF b A j then 3 else if F j then 2 else 0 := ⟨_, rfl⟩
 have l1 : L p = 1 := by rw [hL]; simp
 have l4 : L g1 = 4 := by rw [hL]; simp [Ne.symm d1]
 have l5 : L g2 = 5 := by rw [hL]; simp [Ne.symm d2, Ne.symm hne]
 have l3 : ∀ j, PF b A j → L j = 3 := fun j hj => by
  have e1 : j ≠ p := fun e => d3 (e ▸ hj)
  have e2 : j ≠ g1 := fun e => d4 (e ▸ hj)
  have e3 : j ≠ g2 := fun e => d5 (e ▸ hj)
  rw [hL]; simp [e1, e2, e3, hj]
 have l2 : ∀ j, L j = 2 ↔ F j := fun j => by
  have hlt : F j → j < w0.heap.size := hF0 j
  by_cases e1 : j = p
  ·subst e1; rw [l1]; exact ⟨fun e => by omega, fun e => by have := hlt e; omega⟩
  by_cases e2 : j = g1
  ·subst e2; rw [l4]; exact ⟨fun e => by omega, fun e => by have := hlt e; omega⟩
  by_cases e3 : j = g2
  ·subst e3; rw [l5]; exact ⟨fun e => by omega, fun e => by have := hlt e; omega⟩
  by_cases e4 : PF b A j
  ·rw [l3 j e4]; exact ⟨fun e => by omega, fun e => by have := hlt e; have := n3 j e4; omega⟩
  ·rw [hL]; by_cases e5 : F j <;> simp [e1, e2, e3, e4, e5]
 have l0 : ∀ j, L j ≠ 0 → F j ∨ (w0.heap.size ≤ j ∧ j < w.heap.size) := fun j hj => by
  by_cases e1 : j = p
  ·subst e1; exact .inr ⟨n0, hb.lt⟩
  by_cases e2 : j = g1
  ·subst e2; exact .inr ⟨n1, h1.lt⟩
  by_cases e3 : j = g2
  ·subst e3; exact .inr ⟨n2, h2.lt⟩
  by_cases e4 : PF b A j
  ·exact .inr ⟨n3 j e4, hp.lt j e4⟩
  by_cases e5 : F j
  ·exact .inl e5
  ·rw [hL] at hj; simp [e1, e2, e3, e4, e5] at hj
 refine ⟨fun j => L j ≠ 0, ⟨L, d, b, A, c, _, _, none, ⟨hb, l1, ?_, hp, l3, ?_, fun j hj => ?_, ?_, fun j hj => ?_, rfl, fun j hj => ?_, ?_, hT⟩, fun _ => Iff.rfl⟩, fun j hj => (l0 j hj).imp id fun e => e.1⟩
 ·rw [show (fun j => L j = 2) = F from funext fun j => propext (l2 j)]
  exact hd
 ·have := own_new (n := tabN D.n D.sz) h1 (by simp [nv]) (by simp only [maxLen]; omega)
  simpa [Gp.fresh] using this
 ·have : g1 = j := by simpa [Value.ownBlock] using hj
  rw [← this]; exact l4
 ·have := own_new (n := capN D.n D.sz) h2 (by simp [nv]) (by simp only [maxLen]; omega)
  simpa [Gp.fresh] using this
 ·have : g2 = j := by simpa [Value.ownBlock] using hj
  rw [← this]; exact l5
 ·rcases l0 j hj with e | e
  ·exact hd.lt j e
  ·exact e.2
 ·by_cases e : L 0 = 0
  ·exact e
  ·rcases l0 0 e with e | e
   ·exact absurd e h0
   ·omega

set_option maxRecDepth 100000 in
set_option maxHeartbeats 6400000 in
theorem gopen_new (d : Nat) (F : Nat → Prop) (D : Dk) (w : World) (h : DS w d F D) (hd : D.down = false) (hT : TabAt 0 tab w) (h0 : ¬ F 0) (hn : 8 ≤ D.n) (hz : 64 ≤ D.sz) (hp : ∀ i : Nat, i < 2 → partL ((D.rd i).take (D.sz - 8)) = none) (hby : ∀ i : Nat, i < 2 → ∀ x ∈ D.rd i, 0 ≤ x ∧ x ≤ 255) :
  Calls Tryz.prog 33 #[.pointer (some ⟨d, 0, none⟩)] w fun e w' => ∃ p F', e = .returned (.tuple #[.pointer (some ⟨p, 0, none⟩), .int .i64 0]) ∧ GS w' p F' (Gp.fresh D) ∧ Grew w w' ∧ ∀ j, F' j → F j ∨ w.heap.size ≤ j := by
 have hsm := h.sml
 have a1 : decide ((D.n : Int) < 8) = false := decide_eq_false (by omega)
 have a2 : decide ((D.sz : Int) < 64) = false := decide_eq_false (by omega)
 have H := Lib.hid (And.intro h (And.intro hT (And.intro hp hby)))
 clear h hT hp hby
 go_enter Tryz.func33, Tryz.ntmps33
 go_wp2_with (first
  | (go_at_call 76; (refine (dsectors_any d F D _ H.out.1).mono ?_); rintro e w1 ⟨rfl, rfl⟩)
  | (go_at_call 77; (refine (dsize_any d F D _ H.out.1).mono ?_); rintro e w1 ⟨rfl, rfl⟩)
  | (go_at_call 78; (refine (places_any D.n D.sz _ hn hsm.2.1 hz hsm.2.2.2).mono ?_); rintro e w1 ⟨rfl, hg1⟩; have HG1 := Lib.hid hg1; clear hg1))
 have hT := tabs_le (D.sz / 2) (D.n - 2) D.sz 64 0
 have hT64 : tabN D.n D.sz ≤ 64 := by unfold tabN; omega
 have hC : capN D.n D.sz ≤ 4096 := by unfold capN; split <;> omega
 have eq2 : (D.sz : Int).tdiv 2 = ((D.sz / 2 : Nat) : Int) := by simp
 have ew2 : IntKind.i64.wrap ((D.sz / 2 : Nat) : Int) = ((D.sz / 2 : Nat) : Int) := wrap_nat (by omega)
 have ew3 : IntKind.i64.wrap ((D.sz : Int) / 2) = ((D.sz / 2 : Nat) : Int) := by have := ew2; simpa using this
 have HG0 := Lib.hid (show Grew w1 w1.drew from (Chg.refl _ _).drew)
 clear hT
 go_cut [6] (fun v wx => OpenJ w1 d (D.sz / 2) (tabN D.n D.sz) (capN D.n D.sz) D.n v wx)
 case first =>
  refine wp_region_held_drew (S := fun _ => True) (by kernel_rfl) trivial (fun _ => ?_)
  refine Todo.out (is := [0, 1, 4, 6, 8]) ?_
  repeat
   refine tkH (v := ?_) rfl (by kernel_rfl) (by kernel_rfl) (by kernel_rfl) (fun _ _ _ h => h) (Or.inl ⟨by rfl, ?_⟩) trivial ?_
   rotate_left
   ·(intro w hSw; (try dsimp only at hSw); go_simp) <;> with_reducible rfl
   (try simp only [Act.put, lA, lB, lC])
  refine Todo.fin ?_
  obtain ⟨y5, hr5, hB5, hG5, hs5⟩ := make_ints (tabN D.n D.sz) (w1.drew) (by omega)
  obtain ⟨y7, hr7, hB7, hG7, hs7⟩ := make_ints (capN D.n D.sz) (w1.drew) (by omega)
  refine wpAnyH_ready (rs := [2, 5, 7]) (by kernel_rfl) (by simp) ?_
  refine (AllReadyH.cons rfl (fun K hK => ?_) (AllReadyH.cons rfl (fun K hK => ?_) (AllReadyH.cons rfl (fun K hK => ?_) AllReadyH.nil)))
  case' _ =>
   go_simp
   refine (dsize_any d F D _ (H.out.1.grew (Grew.trans HG1.out HG0.out))).mono ?_
   rintro e u2 ⟨rfl, rfl⟩
   refine hK.out _ _ trivial (fun _ => ?_)
   clear hK K
   (try simp only [Act.put, lA, lB, lC])
   clear hr5 hB5 hG5 hs5 y5 hr7 hB7 hG7 hs7 y7
   refine wpAnyH_take (i := 3) (v := ?_) rfl (by kernel_rfl) (by kernel_rfl) (by kernel_rfl) (fun _ _ _ h => h) (Or.inl ⟨by rfl, ?_⟩) trivial ?_
   rotate_left
   ·(intro w hSw; (try dsimp only at hSw); go_simp) <;> with_reducible rfl
   (try simp only [Act.put, lA, lB, lC])
   obtain ⟨y5, hr5, hB5, hG5, hs5⟩ := make_ints (tabN D.n D.sz) (w1.drew) (by omega)
   obtain ⟨y7, hr7, hB7, hG7, hs7⟩ := make_ints (capN D.n D.sz) (w1.drew) (by omega)
   refine wpAnyH_ready (rs := [5, 7, 9]) (by kernel_rfl) (by simp) ?_
   refine (AllReadyH.cons rfl (fun K hK => ?_) (AllReadyH.cons rfl (fun K hK => ?_) (AllReadyH.cons rfl (fun K hK => ?_) AllReadyH.nil)))
   case' _ =>
    go_simp
    refine hK.out _ _ trivial (fun _ => ?_)
    clear hK K
    (try simp only [Act.put, lA, lB, lC])
    have HQ5 := Lib.hid (show NewInts w1 y5 (w1.drew).heap.size (tabN D.n D.sz) from ⟨hB5, HG0.out.size⟩)
    have HLT5 := Lib.hid (show (w1.drew).heap.size < y5.heap.size from HQ5.out.1.lt)
    have HG5 := Lib.hid (Grew.trans HG0.out hG5)
    clear hr5 hB5 hG5 hs5 hr7 hB7 hG7 hs7 y7
    obtain ⟨y7, hr7, hB7, hG7, hs7⟩ := make_ints (capN D.n D.sz) (y5) (by omega)
    refine wpAnyH_ready (rs := [7, 9]) (by kernel_rfl) (by simp) ?_
    refine (AllReadyH.cons rfl (fun K hK => ?_) (AllReadyH.cons rfl (fun K hK => ?_) AllReadyH.nil))
    case' _ =>
     go_simp
     refine hK.out _ _ trivial (fun _ => ?_)
     clear hK K
     (try simp only [Act.put, lA, lB, lC])
     have HQ5 := Lib.hid (HQ5.out.grew hG7)
     have HQ7 := Lib.hid (show NewInts w1 y7 (y5).heap.size (capN D.n D.sz) from ⟨hB7, HG5.out.size⟩)
     have HD := Lib.hid (show (w1.drew).heap.size ≠ (y5).heap.size from Nat.ne_of_lt HLT5.out)
     have HG7 := Lib.hid (Grew.trans HG5.out hG7)
     clear hr7 hB7 hG7 hs7
     refine wpAnyH_ready (rs := [9]) (by kernel_rfl) (by simp) ?_
     refine (AllReadyH.cons rfl (fun K hK => ?_) AllReadyH.nil)
     go_simp
     refine (dsectors_any d F D _ (H.out.1.grew (Grew.trans HG1.out HG7.out))).mono ?_
     rintro e u2 ⟨rfl, rfl⟩
     refine hK.out _ _ trivial (fun _ => ?_)
     clear hK K
     (try simp only [Act.put, lA, lB, lC])
     refine wpAnyH_ready (rs := [10]) (by kernel_rfl) (by simp) ?_
     refine (AllReadyH.cons rfl (fun K hK => ?_) AllReadyH.nil)
     go_simp
     refine (pnew_any D.n _ (by omega)).mono ?_
     rintro e y10 ⟨A10, c10, rfl, hp10, hg10, hn10⟩
     refine hK.out _ _ trivial (fun _ => ?_)
     clear hK K
     (try simp only [Act.put, lA, lB, lC])
     have HQ5 := Lib.hid (HQ5.out.grew hg10)
     have HQ7 := Lib.hid (HQ7.out.grew hg10)
     have HQ10 := Lib.hid (show NewPool w1 y10 (y7).heap.size D.n A10 c10 from ⟨hp10, fun j hj => Nat.le_trans HG7.out.size (hn10 j hj)⟩)
     have HG10 := Lib.hid (Grew.trans HG7.out hg10)
     clear hp10 hg10 hn10
    rotate_left
    case' _ =>
     go_simp
     refine (dsectors_any d F D _ (H.out.1.grew (Grew.trans HG1.out HG5.out))).mono ?_
     rintro e u2 ⟨rfl, rfl⟩
     refine hK.out _ _ trivial (fun _ => ?_)
     clear hK K
     (try simp only [Act.put, lA, lB, lC])
     clear hr7 hB7 hG7 hs7 y7
     obtain ⟨y7, hr7, hB7, hG7, hs7⟩ := make_ints (capN D.n D.sz) (y5) (by omega)
     refine wpAnyH_ready (rs := [7, 10]) (by kernel_rfl) (by simp) ?_
     refine (AllReadyH.cons rfl (fun K hK => ?_) (AllReadyH.cons rfl (fun K hK => ?_) AllReadyH.nil))
     case' _ =>
      go_simp
      refine hK.out _ _ trivial (fun _ => ?_)
      clear hK K
      (try simp only [Act.put, lA, lB, lC])
      have HQ5 := Lib.hid (HQ5.out.grew hG7)
      have HQ7 := Lib.hid (show NewInts w1 y7 (y5).heap.size (capN D.n D.sz) from ⟨hB7, HG5.out.size⟩)
      have HD := Lib.hid (show (w1.drew).heap.size ≠ (y5).heap.size from Nat.ne_of_lt HLT5.out)
      have HG7 := Lib.hid (Grew.trans HG5.out hG7)
      clear hr7 hB7 hG7 hs7
      refine wpAnyH_ready (rs := [10]) (by kernel_rfl) (by simp) ?_
      refine (AllReadyH.cons rfl (fun K hK => ?_) AllReadyH.nil)
      go_simp
      refine (pnew_any D.n _ (by omega)).mono ?_
      rintro e y10 ⟨A10, c10, rfl, hp10, hg10, hn10⟩
      refine hK.out _ _ trivial (fun _ => ?_)
      clear hK K
      (try simp only [Act.put, lA, lB, lC])
      have HQ5 := Lib.hid (HQ5.out.grew hg10)
      have HQ7 := Lib.hid (HQ7.out.grew hg10)
      have HQ10 := Lib.hid (show NewPool w1 y10 (y7).heap.size D.n A10 c10 from ⟨hp10, fun j hj => Nat.le_trans HG7.out.size (hn10 j hj)⟩)
      have HG10 := Lib.hid (Grew.trans HG7.out hg10)
      clear hp10 hg10 hn10
     rotate_left
     case' _ =>
      go_simp
      refine (pnew_any D.n _ (by omega)).mono ?_
      rintro e y10 ⟨A10, c10, rfl, hp10, hg10, hn10⟩
      refine hK.out _ _ trivial (fun _ => ?_)
      clear hK K
      (try simp only [Act.put, lA, lB, lC])
      have HQ5 := Lib.hid (HQ5.out.grew hg10)
      have HLT5 := Lib.hid (Nat.lt_of_lt_of_le HLT5.out hg10.size)
      have HQ10 := Lib.hid (show NewPool w1 y10 (y5).heap.size D.n A10 c10 from ⟨hp10, fun j hj => Nat.le_trans HG5.out.size (hn10 j hj)⟩)
      have HG10 := Lib.hid (Grew.trans HG5.out hg10)
      clear hp10 hg10 hn10
      clear hr7 hB7 hG7 hs7 y7
      obtain ⟨y7, hr7, hB7, hG7, hs7⟩ := make_ints (capN D.n D.sz) (y10) (by omega)
      refine wpAnyH_ready (rs := [7]) (by kernel_rfl) (by simp) ?_
      refine (AllReadyH.cons rfl (fun K hK => ?_) AllReadyH.nil)
      go_simp
      refine hK.out _ _ trivial (fun _ => ?_)
      clear hK K
      (try simp only [Act.put, lA, lB, lC])
      have HQ5 := Lib.hid (HQ5.out.grew hG7)
      have HQ10 := Lib.hid (HQ10.out.grew hG7)
      have HQ7 := Lib.hid (show NewInts w1 y7 (y10).heap.size (capN D.n D.sz) from ⟨hB7, HG10.out.size⟩)
      have HD := Lib.hid (show (w1.drew).heap.size ≠ (y10).heap.size from Nat.ne_of_lt HLT5.out)
      have HG7 := Lib.hid (Grew.trans HG10.out hG7)
      clear hr7 hB7 hG7 hs7
     rotate_left
    rotate_left 2
   rotate_left 3
   case' _ =>
    go_simp
    refine hK.out _ _ trivial (fun _ => ?_)
    clear hK K
    (try simp only [Act.put, lA, lB, lC])
    have HQ7 := Lib.hid (show NewInts w1 y7 (w1.drew).heap.size (capN D.n D.sz) from ⟨hB7, HG0.out.size⟩)
    have HLT7 := Lib.hid (show (w1.drew).heap.size < y7.heap.size from HQ7.out.1.lt)
    have HG7 := Lib.hid (Grew.trans HG0.out hG7)
    clear hr7 hB7 hG7 hs7 hr5 hB5 hG5 hs5 y5
    obtain ⟨y5, hr5, hB5, hG5, hs5⟩ := make_ints (tabN D.n D.sz) (y7) (by omega)
    refine wpAnyH_ready (rs := [5, 9]) (by kernel_rfl) (by simp) ?_
    refine (AllReadyH.cons rfl (fun K hK => ?_) (AllReadyH.cons rfl (fun K hK => ?_) AllReadyH.nil))
    case' _ =>
     go_simp
     refine hK.out _ _ trivial (fun _ => ?_)
     clear hK K
     (try simp only [Act.put, lA, lB, lC])
     have HQ7 := Lib.hid (HQ7.out.grew hG5)
     have HQ5 := Lib.hid (show NewInts w1 y5 (y7).heap.size (tabN D.n D.sz) from ⟨hB5, HG7.out.size⟩)
     have HD := Lib.hid (show (y7).heap.size ≠ (w1.drew).heap.size from Ne.symm (Nat.ne_of_lt HLT7.out))
     have HG5 := Lib.hid (Grew.trans HG7.out hG5)
     clear hr5 hB5 hG5 hs5
     refine wpAnyH_ready (rs := [9]) (by kernel_rfl) (by simp) ?_
     refine (AllReadyH.cons rfl (fun K hK => ?_) AllReadyH.nil)
     go_simp
     refine (dsectors_any d F D _ (H.out.1.grew (Grew.trans HG1.out HG5.out))).mono ?_
     rintro e u2 ⟨rfl, rfl⟩
     refine hK.out _ _ trivial (fun _ => ?_)
     clear hK K
     (try simp only [Act.put, lA, lB, lC])
     refine wpAnyH_ready (rs := [10]) (by kernel_rfl) (by simp) ?_
     refine (AllReadyH.cons rfl (fun K hK => ?_) AllReadyH.nil)
     go_simp
     refine (pnew_any D.n _ (by omega)).mono ?_
     rintro e y10 ⟨A10, c10, rfl, hp10, hg10, hn10⟩
     refine hK.out _ _ trivial (fun _ => ?_)
     clear hK K
     (try simp only [Act.put, lA, lB, lC])
     have HQ7 := Lib.hid (HQ7.out.grew hg10)
     have HQ5 := Lib.hid (HQ5.out.grew hg10)
     have HQ10 := Lib.hid (show NewPool w1 y10 (y5).heap.size D.n A10 c10 from ⟨hp10, fun j hj => Nat.le_trans HG5.out.size (hn10 j hj)⟩)
     have HG10 := Lib.hid (Grew.trans HG5.out hg10)
     clear hp10 hg10 hn10
    rotate_left
    case' _ =>
     go_simp
     refine (dsectors_any d F D _ (H.out.1.grew (Grew.trans HG1.out HG7.out))).mono ?_
     rintro e u2 ⟨rfl, rfl⟩
     refine hK.out _ _ trivial (fun _ => ?_)
     clear hK K
     (try simp only [Act.put, lA, lB, lC])
     clear hr5 hB5 hG5 hs5 y5
     obtain ⟨y5, hr5, hB5, hG5, hs5⟩ := make_ints (tabN D.n D.sz) (y7) (by omega)
     refine wpAnyH_ready (rs := [5, 10]) (by kernel_rfl) (by simp) ?_
     refine (AllReadyH.cons rfl (fun K hK => ?_) (AllReadyH.cons rfl (fun K hK => ?_) AllReadyH.nil))
     case' _ =>
      go_simp
      refine hK.out _ _ trivial (fun _ => ?_)
      clear hK K
      (try simp only [Act.put, lA, lB, lC])
      have HQ7 := Lib.hid (HQ7.out.grew hG5)
      have HQ5 := Lib.hid (show NewInts w1 y5 (y7).heap.size (tabN D.n D.sz) from ⟨hB5, HG7.out.size⟩)
      have HD := Lib.hid (show (y7).heap.size ≠ (w1.drew).heap.size from Ne.symm (Nat.ne_of_lt HLT7.out))
      have HG5 := Lib.hid (Grew.trans HG7.out hG5)
      clear hr5 hB5 hG5 hs5
      refine wpAnyH_ready (rs := [10]) (by kernel_rfl) (by simp) ?_
      refine (AllReadyH.cons rfl (fun K hK => ?_) AllReadyH.nil)
      go_simp
      refine (pnew_any D.n _ (by omega)).mono ?_
      rintro e y10 ⟨A10, c10, rfl, hp10, hg10, hn10⟩
      refine hK.out _ _ trivial (fun _ => ?_)
      clear hK K
      (try simp only [Act.put, lA, lB, lC])
      have HQ7 := Lib.hid (HQ7.out.grew hg10)
      have HQ5 := Lib.hid (HQ5.out.grew hg10)
      have HQ10 := Lib.hid (show NewPool w1 y10 (y5).heap.size D.n A10 c10 from ⟨hp10, fun j hj => Nat.le_trans HG5.out.size (hn10 j hj)⟩)
      have HG10 := Lib.hid (Grew.trans HG5.out hg10)
      clear hp10 hg10 hn10
     rotate_left
     case' _ =>
      go_simp
      refine (pnew_any D.n _ (by omega)).mono ?_
      rintro e y10 ⟨A10, c10, rfl, hp10, hg10, hn10⟩
      refine hK.out _ _ trivial (fun _ => ?_)
      clear hK K
      (try simp only [Act.put, lA, lB, lC])
      have HQ7 := Lib.hid (HQ7.out.grew hg10)
      have HLT7 := Lib.hid (Nat.lt_of_lt_of_le HLT7.out hg10.size)
      have HQ10 := Lib.hid (show NewPool w1 y10 (y7).heap.size D.n A10 c10 from ⟨hp10, fun j hj => Nat.le_trans HG7.out.size (hn10 j hj)⟩)
      have HG10 := Lib.hid (Grew.trans HG7.out hg10)
      clear hp10 hg10 hn10
      clear hr5 hB5 hG5 hs5 y5
      obtain ⟨y5, hr5, hB5, hG5, hs5⟩ := make_ints (tabN D.n D.sz) (y10) (by omega)
      refine wpAnyH_ready (rs := [5]) (by kernel_rfl) (by simp) ?_
      refine (AllReadyH.cons rfl (fun K hK => ?_) AllReadyH.nil)
      go_simp
      refine hK.out _ _ trivial (fun _ => ?_)
      clear hK K
      (try simp only [Act.put, lA, lB, lC])
      have HQ7 := Lib.hid (HQ7.out.grew hG5)
      have HQ10 := Lib.hid (HQ10.out.grew hG5)
      have HQ5 := Lib.hid (show NewInts w1 y5 (y10).heap.size (tabN D.n D.sz) from ⟨hB5, HG10.out.size⟩)
      have HD := Lib.hid (show (y10).heap.size ≠ (w1.drew).heap.size from Ne.symm (Nat.ne_of_lt HLT7.out))
      have HG5 := Lib.hid (Grew.trans HG10.out hG5)
      clear hr5 hB5 hG5 hs5
     rotate_left
    rotate_left 2
   rotate_left 3
   case' _ =>
    go_simp
    refine (dsectors_any d F D _ (H.out.1.grew (Grew.trans HG1.out HG0.out))).mono ?_
    rintro e u2 ⟨rfl, rfl⟩
    refine hK.out _ _ trivial (fun _ => ?_)
    clear hK K
    (try simp only [Act.put, lA, lB, lC])
    clear hr5 hB5 hG5 hs5 y5 hr7 hB7 hG7 hs7 y7
    obtain ⟨y5, hr5, hB5, hG5, hs5⟩ := make_ints (tabN D.n D.sz) (w1.drew) (by omega)
    obtain ⟨y7, hr7, hB7, hG7, hs7⟩ := make_ints (capN D.n D.sz) (w1.drew) (by omega)
    refine wpAnyH_ready (rs := [5, 7, 10]) (by kernel_rfl) (by simp) ?_
    refine (AllReadyH.cons rfl (fun K hK => ?_) (AllReadyH.cons rfl (fun K hK => ?_) (AllReadyH.cons rfl (fun K hK => ?_) AllReadyH.nil)))
    case' _ =>
     go_simp
     refine hK.out _ _ trivial (fun _ => ?_)
     clear hK K
     (try simp only [Act.put, lA, lB, lC])
     have HQ5 := Lib.hid (show NewInts w1 y5 (w1.drew).heap.size (tabN D.n D.sz) from ⟨hB5, HG0.out.size⟩)
     have HLT5 := Lib.hid (show (w1.drew).heap.size < y5.heap.size from HQ5.out.1.lt)
     have HG5 := Lib.hid (Grew.trans HG0.out hG5)
     clear hr5 hB5 hG5 hs5 hr7 hB7 hG7 hs7 y7
     obtain ⟨y7, hr7, hB7, hG7, hs7⟩ := make_ints (capN D.n D.sz) (y5) (by omega)
     refine wpAnyH_ready (rs := [7, 10]) (by kernel_rfl) (by simp) ?_
     refine (AllReadyH.cons rfl (fun K hK => ?_) (AllReadyH.cons rfl (fun K hK => ?_) AllReadyH.nil))
     case' _ =>
      go_simp
      refine hK.out _ _ trivial (fun _ => ?_)
      clear hK K
      (try simp only [Act.put, lA, lB, lC])
      have HQ5 := Lib.hid (HQ5.out.grew hG7)
      have HQ7 := Lib.hid (show NewInts w1 y7 (y5).heap.size (capN D.n D.sz) from ⟨hB7, HG5.out.size⟩)
      have HD := Lib.hid (show (w1.drew).heap.size ≠ (y5).heap.size from Nat.ne_of_lt HLT5.out)
      have HG7 := Lib.hid (Grew.trans HG5.out hG7)
      clear hr7 hB7 hG7 hs7
      refine wpAnyH_ready (rs := [10]) (by kernel_rfl) (by simp) ?_
      refine (AllReadyH.cons rfl (fun K hK => ?_) AllReadyH.nil)
      go_simp
      refine (pnew_any D.n _ (by omega)).mono ?_
      rintro e y10 ⟨A10, c10, rfl, hp10, hg10, hn10⟩
      refine hK.out _ _ trivial (fun _ => ?_)
      clear hK K
      (try simp only [Act.put, lA, lB, lC])
      have HQ5 := Lib.hid (HQ5.out.grew hg10)
      have HQ7 := Lib.hid (HQ7.out.grew hg10)
      have HQ10 := Lib.hid (show NewPool w1 y10 (y7).heap.size D.n A10 c10 from ⟨hp10, fun j hj => Nat.le_trans HG7.out.size (hn10 j hj)⟩)
      have HG10 := Lib.hid (Grew.trans HG7.out hg10)
      clear hp10 hg10 hn10
     rotate_left
     case' _ =>
      go_simp
      refine (pnew_any D.n _ (by omega)).mono ?_
      rintro e y10 ⟨A10, c10, rfl, hp10, hg10, hn10⟩
      refine hK.out _ _ trivial (fun _ => ?_)
      clear hK K
      (try simp only [Act.put, lA, lB, lC])
      have HQ5 := Lib.hid (HQ5.out.grew hg10)
      have HLT5 := Lib.hid (Nat.lt_of_lt_of_le HLT5.out hg10.size)
      have HQ10 := Lib.hid (show NewPool w1 y10 (y5).heap.size D.n A10 c10 from ⟨hp10, fun j hj => Nat.le_trans HG5.out.size (hn10 j hj)⟩)
      have HG10 := Lib.hid (Grew.trans HG5.out hg10)
      clear hp10 hg10 hn10
      clear hr7 hB7 hG7 hs7 y7
      obtain ⟨y7, hr7, hB7, hG7, hs7⟩ := make_ints (capN D.n D.sz) (y10) (by omega)
      refine wpAnyH_ready (rs := [7]) (by kernel_rfl) (by simp) ?_
      refine (AllReadyH.cons rfl (fun K hK => ?_) AllReadyH.nil)
      go_simp
      refine hK.out _ _ trivial (fun _ => ?_)
      clear hK K
      (try simp only [Act.put, lA, lB, lC])
      have HQ5 := Lib.hid (HQ5.out.grew hG7)
      have HQ10 := Lib.hid (HQ10.out.grew hG7)
      have HQ7 := Lib.hid (show NewInts w1 y7 (y10).heap.size (capN D.n D.sz) from ⟨hB7, HG10.out.size⟩)
      have HD := Lib.hid (show (w1.drew).heap.size ≠ (y10).heap.size from Nat.ne_of_lt HLT5.out)
      have HG7 := Lib.hid (Grew.trans HG10.out hG7)
      clear hr7 hB7 hG7 hs7
     rotate_left
    rotate_left 2
    case' _ =>
     go_simp
     refine hK.out _ _ trivial (fun _ => ?_)
     clear hK K
     (try simp only [Act.put, lA, lB, lC])
     have HQ7 := Lib.hid (show NewInts w1 y7 (w1.drew).heap.size (capN D.n D.sz) from ⟨hB7, HG0.out.size⟩)
     have HLT7 := Lib.hid (show (w1.drew).heap.size < y7.heap.size from HQ7.out.1.lt)
     have HG7 := Lib.hid (Grew.trans HG0.out hG7)
     clear hr7 hB7 hG7 hs7 hr5 hB5 hG5 hs5 y5
     obtain ⟨y5, hr5, hB5, hG5, hs5⟩ := make_ints (tabN D.n D.sz) (y7) (by omega)
     refine wpAnyH_ready (rs := [5, 10]) (by kernel_rfl) (by simp) ?_
     refine (AllReadyH.cons rfl (fun K hK => ?_) (AllReadyH.cons rfl (fun K hK => ?_) AllReadyH.nil))
     case' _ =>
      go_simp
      refine hK.out _ _ trivial (fun _ => ?_)
      clear hK K
      (try simp only [Act.put, lA, lB, lC])
      have HQ7 := Lib.hid (HQ7.out.grew hG5)
      have HQ5 := Lib.hid (show NewInts w1 y5 (y7).heap.size (tabN D.n D.sz) from ⟨hB5, HG7.out.size⟩)
      have HD := Lib.hid (show (y7).heap.size ≠ (w1.drew).heap.size from Ne.symm (Nat.ne_of_lt HLT7.out))
      have HG5 := Lib.hid (Grew.trans HG7.out hG5)
      clear hr5 hB5 hG5 hs5
      refine wpAnyH_ready (rs := [10]) (by kernel_rfl) (by simp) ?_
      refine (AllReadyH.cons rfl (fun K hK => ?_) AllReadyH.nil)
      go_simp
      refine (pnew_any D.n _ (by omega)).mono ?_
      rintro e y10 ⟨A10, c10, rfl, hp10, hg10, hn10⟩
      refine hK.out _ _ trivial (fun _ => ?_)
      clear hK K
      (try simp only [Act.put, lA, lB, lC])
      have HQ7 := Lib.hid (HQ7.out.grew hg10)
      have HQ5 := Lib.hid (HQ5.out.grew hg10)
      have HQ10 := Lib.hid (show NewPool w1 y10 (y5).heap.size D.n A10 c10 from ⟨hp10, fun j hj => Nat.le_trans HG5.out.size (hn10 j hj)⟩)
      have HG10 := Lib.hid (Grew.trans HG5.out hg10)
      clear hp10 hg10 hn10
     rotate_left
     case' _ =>
      go_simp
      refine (pnew_any D.n _ (by omega)).mono ?_
      rintro e y10 ⟨A10, c10, rfl, hp10, hg10, hn10⟩
      refine hK.out _ _ trivial (fun _ => ?_)
      clear hK K
      (try simp only [Act.put, lA, lB, lC])
      have HQ7 := Lib.hid (HQ7.out.grew hg10)
      have HLT7 := Lib.hid (Nat.lt_of_lt_of_le HLT7.out hg10.size)
      have HQ10 := Lib.hid (show NewPool w1 y10 (y7).heap.size D.n A10 c10 from ⟨hp10, fun j hj => Nat.le_trans HG7.out.size (hn10 j hj)⟩)
      have HG10 := Lib.hid (Grew.trans HG7.out hg10)
      clear hp10 hg10 hn10
      clear hr5 hB5 hG5 hs5 y5
      obtain ⟨y5, hr5, hB5, hG5, hs5⟩ := make_ints (tabN D.n D.sz) (y10) (by omega)
      refine wpAnyH_ready (rs := [5]) (by kernel_rfl) (by simp) ?_
      refine (AllReadyH.cons rfl (fun K hK => ?_) AllReadyH.nil)
      go_simp
      refine hK.out _ _ trivial (fun _ => ?_)
      clear hK K
      (try simp only [Act.put, lA, lB, lC])
      have HQ7 := Lib.hid (HQ7.out.grew hG5)
      have HQ10 := Lib.hid (HQ10.out.grew hG5)
      have HQ5 := Lib.hid (show NewInts w1 y5 (y10).heap.size (tabN D.n D.sz) from ⟨hB5, HG10.out.size⟩)
      have HD := Lib.hid (show (y10).heap.size ≠ (w1.drew).heap.size from Ne.symm (Nat.ne_of_lt HLT7.out))
      have HG5 := Lib.hid (Grew.trans HG10.out hG5)
      clear hr5 hB5 hG5 hs5
     rotate_left
    rotate_left 2
    case' _ =>
     go_simp
     refine (pnew_any D.n _ (by omega)).mono ?_
     rintro e y10 ⟨A10, c10, rfl, hp10, hg10, hn10⟩
     refine hK.out _ _ trivial (fun _ => ?_)
     clear hK K
     (try simp only [Act.put, lA, lB, lC])
     have HQ10 := Lib.hid (show NewPool w1 y10 (w1.drew).heap.size D.n A10 c10 from ⟨hp10, fun j hj => Nat.le_trans HG0.out.size (hn10 j hj)⟩)
     have HG10 := Lib.hid (Grew.trans HG0.out hg10)
     clear hp10 hg10 hn10
     clear hr5 hB5 hG5 hs5 y5 hr7 hB7 hG7 hs7 y7
     obtain ⟨y5, hr5, hB5, hG5, hs5⟩ := make_ints (tabN D.n D.sz) (y10) (by omega)
     obtain ⟨y7, hr7, hB7, hG7, hs7⟩ := make_ints (capN D.n D.sz) (y10) (by omega)
     refine wpAnyH_ready (rs := [5, 7]) (by kernel_rfl) (by simp) ?_
     refine (AllReadyH.cons rfl (fun K hK => ?_) (AllReadyH.cons rfl (fun K hK => ?_) AllReadyH.nil))
     case' _ =>
      go_simp
      refine hK.out _ _ trivial (fun _ => ?_)
      clear hK K
      (try simp only [Act.put, lA, lB, lC])
      have HQ10 := Lib.hid (HQ10.out.grew hG5)
      have HQ5 := Lib.hid (show NewInts w1 y5 (y10).heap.size (tabN D.n D.sz) from ⟨hB5, HG10.out.size⟩)
      have HLT5 := Lib.hid (show (y10).heap.size < y5.heap.size from HQ5.out.1.lt)
      have HG5 := Lib.hid (Grew.trans HG10.out hG5)
      clear hr5 hB5 hG5 hs5 hr7 hB7 hG7 hs7 y7
      obtain ⟨y7, hr7, hB7, hG7, hs7⟩ := make_ints (capN D.n D.sz) (y5) (by omega)
      refine wpAnyH_ready (rs := [7]) (by kernel_rfl) (by simp) ?_
      refine (AllReadyH.cons rfl (fun K hK => ?_) AllReadyH.nil)
      go_simp
      refine hK.out _ _ trivial (fun _ => ?_)
      clear hK K
      (try simp only [Act.put, lA, lB, lC])
      have HQ10 := Lib.hid (HQ10.out.grew hG7)
      have HQ5 := Lib.hid (HQ5.out.grew hG7)
      have HQ7 := Lib.hid (show NewInts w1 y7 (y5).heap.size (capN D.n D.sz) from ⟨hB7, HG5.out.size⟩)
      have HD := Lib.hid (show (y10).heap.size ≠ (y5).heap.size from Nat.ne_of_lt HLT5.out)
      have HG7 := Lib.hid (Grew.trans HG5.out hG7)
      clear hr7 hB7 hG7 hs7
     rotate_left
     case' _ =>
      go_simp
      refine hK.out _ _ trivial (fun _ => ?_)
      clear hK K
      (try simp only [Act.put, lA, lB, lC])
      have HQ10 := Lib.hid (HQ10.out.grew hG7)
      have HQ7 := Lib.hid (show NewInts w1 y7 (y10).heap.size (capN D.n D.sz) from ⟨hB7, HG10.out.size⟩)
      have HLT7 := Lib.hid (show (y10).heap.size < y7.heap.size from HQ7.out.1.lt)
      have HG7 := Lib.hid (Grew.trans HG10.out hG7)
      clear hr7 hB7 hG7 hs7 hr5 hB5 hG5 hs5 y5
      obtain ⟨y5, hr5, hB5, hG5, hs5⟩ := make_ints (tabN D.n D.sz) (y7) (by omega)
      refine wpAnyH_ready (rs := [5]) (by kernel_rfl) (by simp) ?_
      refine (AllReadyH.cons rfl (fun K hK => ?_) AllReadyH.nil)
      go_simp
      refine hK.out _ _ trivial (fun _ => ?_)
      clear hK K
      (try simp only [Act.put, lA, lB, lC])
      have HQ10 := Lib.hid (HQ10.out.grew hG5)
      have HQ7 := Lib.hid (HQ7.out.grew hG5)
      have HQ5 := Lib.hid (show NewInts w1 y5 (y7).heap.size (tabN D.n D.sz) from ⟨hB5, HG7.out.size⟩)
      have HD := Lib.hid (show (y7).heap.size ≠ (y10).heap.size from Ne.symm (Nat.ne_of_lt HLT7.out))
      have HG5 := Lib.hid (Grew.trans HG7.out hG5)
      clear hr5 hB5 hG5 hs5
     rotate_left
    rotate_left 2
   rotate_left 6
  rotate_left 12
  case' _ =>
   go_simp
   refine hK.out _ _ trivial (fun _ => ?_)
   clear hK K
   (try simp only [Act.put, lA, lB, lC])
   have HQ5 := Lib.hid (show NewInts w1 y5 (w1.drew).heap.size (tabN D.n D.sz) from ⟨hB5, HG0.out.size⟩)
   have HLT5 := Lib.hid (show (w1.drew).heap.size < y5.heap.size from HQ5.out.1.lt)
   have HG5 := Lib.hid (Grew.trans HG0.out hG5)
   clear hr5 hB5 hG5 hs5 hr7 hB7 hG7 hs7 y7
   obtain ⟨y7, hr7, hB7, hG7, hs7⟩ := make_ints (capN D.n D.sz) (y5) (by omega)
   refine wpAnyH_ready (rs := [2, 7]) (by kernel_rfl) (by simp) ?_
   refine (AllReadyH.cons rfl (fun K hK => ?_) (AllReadyH.cons rfl (fun K hK => ?_) AllReadyH.nil))
   case' _ =>
    go_simp
    refine (dsize_any d F D _ (H.out.1.grew (Grew.trans HG1.out HG5.out))).mono ?_
    rintro e u2 ⟨rfl, rfl⟩
    refine hK.out _ _ trivial (fun _ => ?_)
    clear hK K
    (try simp only [Act.put, lA, lB, lC])
    clear hr7 hB7 hG7 hs7 y7
    refine wpAnyH_take (i := 3) (v := ?_) rfl (by kernel_rfl) (by kernel_rfl) (by kernel_rfl) (fun _ _ _ h => h) (Or.inl ⟨by rfl, ?_⟩) trivial ?_
    rotate_left
    ·(intro w hSw; (try dsimp only at hSw); go_simp) <;> with_reducible rfl
    (try simp only [Act.put, lA, lB, lC])
    obtain ⟨y7, hr7, hB7, hG7, hs7⟩ := make_ints (capN D.n D.sz) (y5) (by omega)
    refine wpAnyH_ready (rs := [7, 9]) (by kernel_rfl) (by simp) ?_
    refine (AllReadyH.cons rfl (fun K hK => ?_) (AllReadyH.cons rfl (fun K hK => ?_) AllReadyH.nil))
    case' _ =>
     go_simp
     refine hK.out _ _ trivial (fun _ => ?_)
     clear hK K
     (try simp only [Act.put, lA, lB, lC])
     have HQ5 := Lib.hid (HQ5.out.grew hG7)
     have HQ7 := Lib.hid (show NewInts w1 y7 (y5).heap.size (capN D.n D.sz) from ⟨hB7, HG5.out.size⟩)
     have HD := Lib.hid (show (w1.drew).heap.size ≠ (y5).heap.size from Nat.ne_of_lt HLT5.out)
     have HG7 := Lib.hid (Grew.trans HG5.out hG7)
     clear hr7 hB7 hG7 hs7
     refine wpAnyH_ready (rs := [9]) (by kernel_rfl) (by simp) ?_
     refine (AllReadyH.cons rfl (fun K hK => ?_) AllReadyH.nil)
     go_simp
     refine (dsectors_any d F D _ (H.out.1.grew (Grew.trans HG1.out HG7.out))).mono ?_
     rintro e u2 ⟨rfl, rfl⟩
     refine hK.out _ _ trivial (fun _ => ?_)
     clear hK K
     (try simp only [Act.put, lA, lB, lC])
     refine wpAnyH_ready (rs := [10]) (by kernel_rfl) (by simp) ?_
     refine (AllReadyH.cons rfl (fun K hK => ?_) AllReadyH.nil)
     go_simp
     refine (pnew_any D.n _ (by omega)).mono ?_
     rintro e y10 ⟨A10, c10, rfl, hp10, hg10, hn10⟩
     refine hK.out _ _ trivial (fun _ => ?_)
     clear hK K
     (try simp only [Act.put, lA, lB, lC])
     have HQ5 := Lib.hid (HQ5.out.grew hg10)
     have HQ7 := Lib.hid (HQ7.out.grew hg10)
     have HQ10 := Lib.hid (show NewPool w1 y10 (y7).heap.size D.n A10 c10 from ⟨hp10, fun j hj => Nat.le_trans HG7.out.size (hn10 j hj)⟩)
     have HG10 := Lib.hid (Grew.trans HG7.out hg10)
     clear hp10 hg10 hn10
    rotate_left
    case' _ =>
     go_simp
     refine (dsectors_any d F D _ (H.out.1.grew (Grew.trans HG1.out HG5.out))).mono ?_
     rintro e u2 ⟨rfl, rfl⟩
     refine hK.out _ _ trivial (fun _ => ?_)
     clear hK K
     (try simp only [Act.put, lA, lB, lC])
     clear hr7 hB7 hG7 hs7 y7
     obtain ⟨y7, hr7, hB7, hG7, hs7⟩ := make_ints (capN D.n D.sz) (y5) (by omega)
     refine wpAnyH_ready (rs := [7, 10]) (by kernel_rfl) (by simp) ?_
     refine (AllReadyH.cons rfl (fun K hK => ?_) (AllReadyH.cons rfl (fun K hK => ?_) AllReadyH.nil))
     case' _ =>
      go_simp
      refine hK.out _ _ trivial (fun _ => ?_)
      clear hK K
      (try simp only [Act.put, lA, lB, lC])
      have HQ5 := Lib.hid (HQ5.out.grew hG7)
      have HQ7 := Lib.hid (show NewInts w1 y7 (y5).heap.size (capN D.n D.sz) from ⟨hB7, HG5.out.size⟩)
      have HD := Lib.hid (show (w1.drew).heap.size ≠ (y5).heap.size from Nat.ne_of_lt HLT5.out)
      have HG7 := Lib.hid (Grew.trans HG5.out hG7)
      clear hr7 hB7 hG7 hs7
      refine wpAnyH_ready (rs := [10]) (by kernel_rfl) (by simp) ?_
      refine (AllReadyH.cons rfl (fun K hK => ?_) AllReadyH.nil)
      go_simp
      refine (pnew_any D.n _ (by omega)).mono ?_
      rintro e y10 ⟨A10, c10, rfl, hp10, hg10, hn10⟩
      refine hK.out _ _ trivial (fun _ => ?_)
      clear hK K
      (try simp only [Act.put, lA, lB, lC])
      have HQ5 := Lib.hid (HQ5.out.grew hg10)
      have HQ7 := Lib.hid (HQ7.out.grew hg10)
      have HQ10 := Lib.hid (show NewPool w1 y10 (y7).heap.size D.n A10 c10 from ⟨hp10, fun j hj => Nat.le_trans HG7.out.size (hn10 j hj)⟩)
      have HG10 := Lib.hid (Grew.trans HG7.out hg10)
      clear hp10 hg10 hn10
     rotate_left
     case' _ =>
      go_simp
      refine (pnew_any D.n _ (by omega)).mono ?_
      rintro e y10 ⟨A10, c10, rfl, hp10, hg10, hn10⟩
      refine hK.out _ _ trivial (fun _ => ?_)
      clear hK K
      (try simp only [Act.put, lA, lB, lC])
      have HQ5 := Lib.hid (HQ5.out.grew hg10)
      have HLT5 := Lib.hid (Nat.lt_of_lt_of_le HLT5.out hg10.size)
      have HQ10 := Lib.hid (show NewPool w1 y10 (y5).heap.size D.n A10 c10 from ⟨hp10, fun j hj => Nat.le_trans HG5.out.size (hn10 j hj)⟩)
      have HG10 := Lib.hid (Grew.trans HG5.out hg10)
      clear hp10 hg10 hn10
      clear hr7 hB7 hG7 hs7 y7
      obtain ⟨y7, hr7, hB7, hG7, hs7⟩ := make_ints (capN D.n D.sz) (y10) (by omega)
      refine wpAnyH_ready (rs := [7]) (by kernel_rfl) (by simp) ?_
      refine (AllReadyH.cons rfl (fun K hK => ?_) AllReadyH.nil)
      go_simp
      refine hK.out _ _ trivial (fun _ => ?_)
      clear hK K
      (try simp only [Act.put, lA, lB, lC])
      have HQ5 := Lib.hid (HQ5.out.grew hG7)
      have HQ10 := Lib.hid (HQ10.out.grew hG7)
      have HQ7 := Lib.hid (show NewInts w1 y7 (y10).heap.size (capN D.n D.sz) from ⟨hB7, HG10.out.size⟩)
      have HD := Lib.hid (show (w1.drew).heap.size ≠ (y10).heap.size from Nat.ne_of_lt HLT5.out)
      have HG7 := Lib.hid (Grew.trans HG10.out hG7)
      clear hr7 hB7 hG7 hs7
     rotate_left
    rotate_left 2
   rotate_left 3
   case' _ =>
    go_simp
    refine hK.out _ _ trivial (fun _ => ?_)
    clear hK K
    (try simp only [Act.put, lA, lB, lC])
    have HQ5 := Lib.hid (HQ5.out.grew hG7)
    have HQ7 := Lib.hid (show NewInts w1 y7 (y5).heap.size (capN D.n D.sz) from ⟨hB7, HG5.out.size⟩)
    have HD := Lib.hid (show (w1.drew).heap.size ≠ (y5).heap.size from Nat.ne_of_lt HLT5.out)
    have HG7 := Lib.hid (Grew.trans HG5.out hG7)
    clear hr7 hB7 hG7 hs7
    refine wpAnyH_ready (rs := [2]) (by kernel_rfl) (by simp) ?_
    refine (AllReadyH.cons rfl (fun K hK => ?_) AllReadyH.nil)
    go_simp
    refine (dsize_any d F D _ (H.out.1.grew (Grew.trans HG1.out HG7.out))).mono ?_
    rintro e u2 ⟨rfl, rfl⟩
    refine hK.out _ _ trivial (fun _ => ?_)
    clear hK K
    (try simp only [Act.put, lA, lB, lC])
    refine wpAnyH_take (i := 3) (v := ?_) rfl (by kernel_rfl) (by kernel_rfl) (by kernel_rfl) (fun _ _ _ h => h) (Or.inl ⟨by rfl, ?_⟩) trivial ?_
    rotate_left
    ·(intro w hSw; (try dsimp only at hSw); go_simp) <;> with_reducible rfl
    (try simp only [Act.put, lA, lB, lC])
    refine wpAnyH_ready (rs := [9]) (by kernel_rfl) (by simp) ?_
    refine (AllReadyH.cons rfl (fun K hK => ?_) AllReadyH.nil)
    go_simp
    refine (dsectors_any d F D _ (H.out.1.grew (Grew.trans HG1.out HG7.out))).mono ?_
    rintro e u2 ⟨rfl, rfl⟩
    refine hK.out _ _ trivial (fun _ => ?_)
    clear hK K
    (try simp only [Act.put, lA, lB, lC])
    refine wpAnyH_ready (rs := [10]) (by kernel_rfl) (by simp) ?_
    refine (AllReadyH.cons rfl (fun K hK => ?_) AllReadyH.nil)
    go_simp
    refine (pnew_any D.n _ (by omega)).mono ?_
    rintro e y10 ⟨A10, c10, rfl, hp10, hg10, hn10⟩
    refine hK.out _ _ trivial (fun _ => ?_)
    clear hK K
    (try simp only [Act.put, lA, lB, lC])
    have HQ5 := Lib.hid (HQ5.out.grew hg10)
    have HQ7 := Lib.hid (HQ7.out.grew hg10)
    have HQ10 := Lib.hid (show NewPool w1 y10 (y7).heap.size D.n A10 c10 from ⟨hp10, fun j hj => Nat.le_trans HG7.out.size (hn10 j hj)⟩)
    have HG10 := Lib.hid (Grew.trans HG7.out hg10)
    clear hp10 hg10 hn10
   rotate_left
  rotate_left 4
  case' _ =>
   go_simp
   refine hK.out _ _ trivial (fun _ => ?_)
   clear hK K
   (try simp only [Act.put, lA, lB, lC])
   have HQ7 := Lib.hid (show NewInts w1 y7 (w1.drew).heap.size (capN D.n D.sz) from ⟨hB7, HG0.out.size⟩)
   have HLT7 := Lib.hid (show (w1.drew).heap.size < y7.heap.size from HQ7.out.1.lt)
   have HG7 := Lib.hid (Grew.trans HG0.out hG7)
   clear hr7 hB7 hG7 hs7 hr5 hB5 hG5 hs5 y5
   obtain ⟨y5, hr5, hB5, hG5, hs5⟩ := make_ints (tabN D.n D.sz) (y7) (by omega)
   refine wpAnyH_ready (rs := [2, 5]) (by kernel_rfl) (by simp) ?_
   refine (AllReadyH.cons rfl (fun K hK => ?_) (AllReadyH.cons rfl (fun K hK => ?_) AllReadyH.nil))
   case' _ =>
    go_simp
    refine (dsize_any d F D _ (H.out.1.grew (Grew.trans HG1.out HG7.out))).mono ?_
    rintro e u2 ⟨rfl, rfl⟩
    refine hK.out _ _ trivial (fun _ => ?_)
    clear hK K
    (try simp only [Act.put, lA, lB, lC])
    clear hr5 hB5 hG5 hs5 y5
    refine wpAnyH_take (i := 3) (v := ?_) rfl (by kernel_rfl) (by kernel_rfl) (by kernel_rfl) (fun _ _ _ h => h) (Or.inl ⟨by rfl, ?_⟩) trivial ?_
    rotate_left
    ·(intro w hSw; (try dsimp only at hSw); go_simp) <;> with_reducible rfl
    (try simp only [Act.put, lA, lB, lC])
    obtain ⟨y5, hr5, hB5, hG5, hs5⟩ := make_ints (tabN D.n D.sz) (y7) (by omega)
    refine wpAnyH_ready (rs := [5, 9]) (by kernel_rfl) (by simp) ?_
    refine (AllReadyH.cons rfl (fun K hK => ?_) (AllReadyH.cons rfl (fun K hK => ?_) AllReadyH.nil))
    case' _ =>
     go_simp
     refine hK.out _ _ trivial (fun _ => ?_)
     clear hK K
     (try simp only [Act.put, lA, lB, lC])
     have HQ7 := Lib.hid (HQ7.out.grew hG5)
     have HQ5 := Lib.hid (show NewInts w1 y5 (y7).heap.size (tabN D.n D.sz) from ⟨hB5, HG7.out.size⟩)
     have HD := Lib.hid (show (y7).heap.size ≠ (w1.drew).heap.size from Ne.symm (Nat.ne_of_lt HLT7.out))
     have HG5 := Lib.hid (Grew.trans HG7.out hG5)
     clear hr5 hB5 hG5 hs5
     refine wpAnyH_ready (rs := [9]) (by kernel_rfl) (by simp) ?_
     refine (AllReadyH.cons rfl (fun K hK => ?_) AllReadyH.nil)
     go_simp
     refine (dsectors_any d F D _ (H.out.1.grew (Grew.trans HG1.out HG5.out))).mono ?_
     rintro e u2 ⟨rfl, rfl⟩
     refine hK.out _ _ trivial (fun _ => ?_)
     clear hK K
     (try simp only [Act.put, lA, lB, lC])
     refine wpAnyH_ready (rs := [10]) (by kernel_rfl) (by simp) ?_
     refine (AllReadyH.cons rfl (fun K hK => ?_) AllReadyH.nil)
     go_simp
     refine (pnew_any D.n _ (by omega)).mono ?_
     rintro e y10 ⟨A10, c10, rfl, hp10, hg10, hn10⟩
     refine hK.out _ _ trivial (fun _ => ?_)
     clear hK K
     (try simp only [Act.put, lA, lB, lC])
     have HQ7 := Lib.hid (HQ7.out.grew hg10)
     have HQ5 := Lib.hid (HQ5.out.grew hg10)
     have HQ10 := Lib.hid (show NewPool w1 y10 (y5).heap.size D.n A10 c10 from ⟨hp10, fun j hj => Nat.le_trans HG5.out.size (hn10 j hj)⟩)
     have HG10 := Lib.hid (Grew.trans HG5.out hg10)
     clear hp10 hg10 hn10
    rotate_left
    case' _ =>
     go_simp
     refine (dsectors_any d F D _ (H.out.1.grew (Grew.trans HG1.out HG7.out))).mono ?_
     rintro e u2 ⟨rfl, rfl⟩
     refine hK.out _ _ trivial (fun _ => ?_)
     clear hK K
     (try simp only [Act.put, lA, lB, lC])
     clear hr5 hB5 hG5 hs5 y5
     obtain ⟨y5, hr5, hB5, hG5, hs5⟩ := make_ints (tabN D.n D.sz) (y7) (by omega)
     refine wpAnyH_ready (rs := [5, 10]) (by kernel_rfl) (by simp) ?_
     refine (AllReadyH.cons rfl (fun K hK => ?_) (AllReadyH.cons rfl (fun K hK => ?_) AllReadyH.nil))
     case' _ =>
      go_simp
      refine hK.out _ _ trivial (fun _ => ?_)
      clear hK K
      (try simp only [Act.put, lA, lB, lC])
      have HQ7 := Lib.hid (HQ7.out.grew hG5)
      have HQ5 := Lib.hid (show NewInts w1 y5 (y7).heap.size (tabN D.n D.sz) from ⟨hB5, HG7.out.size⟩)
      have HD := Lib.hid (show (y7).heap.size ≠ (w1.drew).heap.size from Ne.symm (Nat.ne_of_lt HLT7.out))
      have HG5 := Lib.hid (Grew.trans HG7.out hG5)
      clear hr5 hB5 hG5 hs5
      refine wpAnyH_ready (rs := [10]) (by kernel_rfl) (by simp) ?_
      refine (AllReadyH.cons rfl (fun K hK => ?_) AllReadyH.nil)
      go_simp
      refine (pnew_any D.n _ (by omega)).mono ?_
      rintro e y10 ⟨A10, c10, rfl, hp10, hg10, hn10⟩
      refine hK.out _ _ trivial (fun _ => ?_)
      clear hK K
      (try simp only [Act.put, lA, lB, lC])
      have HQ7 := Lib.hid (HQ7.out.grew hg10)
      have HQ5 := Lib.hid (HQ5.out.grew hg10)
      have HQ10 := Lib.hid (show NewPool w1 y10 (y5).heap.size D.n A10 c10 from ⟨hp10, fun j hj => Nat.le_trans HG5.out.size (hn10 j hj)⟩)
      have HG10 := Lib.hid (Grew.trans HG5.out hg10)
      clear hp10 hg10 hn10
     rotate_left
     case' _ =>
      go_simp
      refine (pnew_any D.n _ (by omega)).mono ?_
      rintro e y10 ⟨A10, c10, rfl, hp10, hg10, hn10⟩
      refine hK.out _ _ trivial (fun _ => ?_)
      clear hK K
      (try simp only [Act.put, lA, lB, lC])
      have HQ7 := Lib.hid (HQ7.out.grew hg10)
      have HLT7 := Lib.hid (Nat.lt_of_lt_of_le HLT7.out hg10.size)
      have HQ10 := Lib.hid (show NewPool w1 y10 (y7).heap.size D.n A10 c10 from ⟨hp10, fun j hj => Nat.le_trans HG7.out.size (hn10 j hj)⟩)
      have HG10 := Lib.hid (Grew.trans HG7.out hg10)
      clear hp10 hg10 hn10
      clear hr5 hB5 hG5 hs5 y5
      obtain ⟨y5, hr5, hB5, hG5, hs5⟩ := make_ints (tabN D.n D.sz) (y10) (by omega)
      refine wpAnyH_ready (rs := [5]) (by kernel_rfl) (by simp) ?_
      refine (AllReadyH.cons rfl (fun K hK => ?_) AllReadyH.nil)
      go_simp
      refine hK.out _ _ trivial (fun _ => ?_)
      clear hK K
      (try simp only [Act.put, lA, lB, lC])
      have HQ7 := Lib.hid (HQ7.out.grew hG5)
      have HQ10 := Lib.hid (HQ10.out.grew hG5)
      have HQ5 := Lib.hid (show NewInts w1 y5 (y10).heap.size (tabN D.n D.sz) from ⟨hB5, HG10.out.size⟩)
      have HD := Lib.hid (show (y10).heap.size ≠ (w1.drew).heap.size from Ne.symm (Nat.ne_of_lt HLT7.out))
      have HG5 := Lib.hid (Grew.trans HG10.out hG5)
      clear hr5 hB5 hG5 hs5
     rotate_left
    rotate_left 2
   rotate_left 3
   case' _ =>
    go_simp
    refine hK.out _ _ trivial (fun _ => ?_)
    clear hK K
    (try simp only [Act.put, lA, lB, lC])
    have HQ7 := Lib.hid (HQ7.out.grew hG5)
    have HQ5 := Lib.hid (show NewInts w1 y5 (y7).heap.size (tabN D.n D.sz) from ⟨hB5, HG7.out.size⟩)
    have HD := Lib.hid (show (y7).heap.size ≠ (w1.drew).heap.size from Ne.symm (Nat.ne_of_lt HLT7.out))
    have HG5 := Lib.hid (Grew.trans HG7.out hG5)
    clear hr5 hB5 hG5 hs5
    refine wpAnyH_ready (rs := [2]) (by kernel_rfl) (by simp) ?_
    refine (AllReadyH.cons rfl (fun K hK => ?_) AllReadyH.nil)
    go_simp
    refine (dsize_any d F D _ (H.out.1.grew (Grew.trans HG1.out HG5.out))).mono ?_
    rintro e u2 ⟨rfl, rfl⟩
    refine hK.out _ _ trivial (fun _ => ?_)
    clear hK K
    (try simp only [Act.put, lA, lB, lC])
    refine wpAnyH_take (i := 3) (v := ?_) rfl (by kernel_rfl) (by kernel_rfl) (by kernel_rfl) (fun _ _ _ h => h) (Or.inl ⟨by rfl, ?_⟩) trivial ?_
    rotate_left
    ·(intro w hSw; (try dsimp only at hSw); go_simp) <;> with_reducible rfl
    (try simp only [Act.put, lA, lB, lC])
    refine wpAnyH_ready (rs := [9]) (by kernel_rfl) (by simp) ?_
    refine (AllReadyH.cons rfl (fun K hK => ?_) AllReadyH.nil)
    go_simp
    refine (dsectors_any d F D _ (H.out.1.grew (Grew.trans HG1.out HG5.out))).mono ?_
    rintro e u2 ⟨rfl, rfl⟩
    refine hK.out _ _ trivial (fun _ => ?_)
    clear hK K
    (try simp only [Act.put, lA, lB, lC])
    refine wpAnyH_ready (rs := [10]) (by kernel_rfl) (by simp) ?_
    refine (AllReadyH.cons rfl (fun K hK => ?_) AllReadyH.nil)
    go_simp
    refine (pnew_any D.n _ (by omega)).mono ?_
    rintro e y10 ⟨A10, c10, rfl, hp10, hg10, hn10⟩
    refine hK.out _ _ trivial (fun _ => ?_)
    clear hK K
    (try simp only [Act.put, lA, lB, lC])
    have HQ7 := Lib.hid (HQ7.out.grew hg10)
    have HQ5 := Lib.hid (HQ5.out.grew hg10)
    have HQ10 := Lib.hid (show NewPool w1 y10 (y5).heap.size D.n A10 c10 from ⟨hp10, fun j hj => Nat.le_trans HG5.out.size (hn10 j hj)⟩)
    have HG10 := Lib.hid (Grew.trans HG5.out hg10)
    clear hp10 hg10 hn10
   rotate_left
  rotate_left 4
  all_goals
   refine wpAnyH_take (i := 11) (v := ?_) rfl (by kernel_rfl) (by kernel_rfl) (by kernel_rfl) (fun _ _ _ h => h) (Or.inl ⟨by rfl, ?_⟩) trivial ?_
   rotate_left
   ·(intro w hSw; (try dsimp only at hSw); go_simp) <;> with_reducible rfl
   (try simp only [Act.put, lA, lB, lC])
   refine rdH (i := 12) (by kernel_rfl) rfl fun K hK => ?_
   go_simp
   refine hK.out _ _ trivial (fun _ => ?_)
   clear hK K
   (try simp only [Act.put, lA, lB, lC])
   refine rdH (i := 13) (by kernel_rfl) rfl fun K hK => ?_
   go_simp
   refine hK.out _ _ trivial (fun _ => ?_)
   clear hK K
   (try simp only [Act.put, lA, lB, lC])
   refine wpAnyH_done (by kernel_rfl) ?_ _
   go_wp2
   go_meet
   exact openJ_mk (by first | exact ew3 | omega) HQ5.out HQ7.out HD.out HQ10.out (by first | exact HG10.out | exact HG7.out | exact HG5.out)
 case rest =>
  obtain ⟨p, g1, g2, b, A, c, rfl, hO⟩ := hcut
  have HO := Lib.hid hO
  obtain ⟨c0, f0, s0⟩ := hO.blk.facts
  clear hO
  have hdF : ∀ u, Chg (PF b A) wc u → DS u d F D := fun u hu => ((H.out.1.grew HG1.out).grew HO.out.grew).chg hu fun j hj e => by
   have h1 := H.out.1.lt j hj
   have h2 := HO.out.pool.new j e
   have h3 := HG1.out.size
   omega
  have hkeep : ∀ u, Chg (PF b A) wc u → Blk u p 101 #[.pointer (some ⟨d, 0, none⟩), .int .i64 0, .int .i64 (D.sz / 2 : Nat), .slice (some ⟨g1, 0, none⟩) (tabN D.n D.sz) (tabN D.n D.sz), .slice (some ⟨g2, 0, none⟩) (capN D.n D.sz) (capN D.n D.sz), .pointer (some ⟨b, 0, none⟩), .pointer none, .bool false] := fun u hu =>
   HO.out.blk.chg hu (pf_ne HO.out.pool.p HO.out.blk (by decide) (by decide))
  have HD := Lib.hid hdF
  have HK := Lib.hid hkeep
  have HX := Lib.hid (show D.n ≤ 65536 by omega)
  clear hdF hkeep
  go_wp2
  go_loopw [41] (fun i wr => ∃ k : Nat, k ≤ 2 ∧ i = .int .i64 k ∧ PIn wr b (mkd D.n k) A c ∧ Chg (PF b A) wc wr) (fun i _ => 2 - (intOf i).toNat)
  case atStart => exact ⟨0, Nat.zero_le _, rfl, HO.out.pool.p, Chg.refl _ _⟩
  case round =>
   obtain ⟨k, hk, rfl, hp, hc⟩ := hrel
   have HP := Lib.hid (And.intro hp hc)
   obtain ⟨c1, f1, s1⟩ := (HK.out wr hc).facts
   clear c0 f0 s0 hp hc
   by_cases hlt : k < 2
   ·go_wp2_with (go_at_call 80; (refine (pmark_any b k _ A c _ HP.out.1 (by rw [mkd_len]; exact HX.out)).mono ?_); rintro e w3 ⟨rfl, h3, h4⟩; have H3 := Lib.hid (And.intro h3 h4); clear h3 h4)
    have H4 := Lib.hid (show PIn w3 b (mkd D.n (k + 1)) A c from by have := H3.out.1; rw [mkd_mark D.n k (by omega)] at this; exact this)
    exact ⟨⟨k + 1, by omega, by simp, H4.out, Chg.trans HP.out.2 H3.out.2 fun _ _ e => e⟩, by simp [intOf]; omega⟩
   ·obtain rfl : k = 2 := by omega
    go_wp2_with (go_at_call 81; (refine (load_none d F D _ (HD.out _ HP.out.2) hd (by omega) (by omega) H.out.2.2.1 H.out.2.2.2).mono ?_); rintro e w4 ⟨rfl, h4⟩; have H4 := Lib.hid h4; clear h4)
    go_ret2
    have hg : Grew w1 w4 := Grew.trans (Chg.trans HO.out.grew HP.out.2 fun i hi e => by have := HO.out.pool.new i e; omega) H4.out
    have hsz := HG1.out.size
    obtain ⟨F', hF, hnew⟩ := gfresh_mk (w0 := w1) ((H.out.1.grew HG1.out).grew hg) (fun j hj => Nat.lt_of_lt_of_le (H.out.1.lt j hj) hsz) h0 (Nat.lt_of_lt_of_le (tab_pos H.out.2.1) hsz) (tab_chg (tab_chg H.out.2.1 HG1.out id) hg id) hsm.2.1
     ((HK.out _ HP.out.2).grew H4.out) ((HO.out.t1.blk.chg HP.out.2 (pf_ne HO.out.pool.p HO.out.t1.blk (by decide) (by decide))).grew H4.out) ((HO.out.t2.blk.chg HP.out.2 (pf_ne HO.out.pool.p HO.out.t2.blk (by decide) (by decide))).grew H4.out) HO.out.ne (HP.out.1.grew H4.out)
     HO.out.new HO.out.t1.new HO.out.t2.new HO.out.pool.new
    exact ⟨p, F', rfl, hF.grew ((Chg.refl _ _).alloc _), (Grew.trans HG1.out hg).alloc _, fun j hj => (hnew j hj).imp id fun e => Nat.le_trans hsz e⟩

end Go.Proofs.YtpkkcicaeldodaaGreatDoor

namespace Go.Proofs.YtpkkcicaeldodaaGreatDoor
open Go.RowKit Go.Maps

def Rp.fresh (n sz : Nat) : Rp := { n := n, sz := sz, now := List.replicate (capN n sz) .no, was := none, touched := fun _ => false, epoch := 0 }
theorem rootL_zeros {ep m : Nat} {pg : List Nat} {sz : Nat} (h1 : 1 ≤ ep) (h2 : ep ≤ 1099511627776) (he : List.replicate m 0 = rootL ep pg sz) : False := by
 have hz : ∀ x ∈ tail8 ep, x = 0 := fun x hx => by
  have : x ∈ rootL ep pg sz := List.mem_append_right _ hx
  rw [← he] at this
  exact (List.mem_replicate.1 this).2
 have e0 := hz ((ep / 1099511627776 % 256 : Nat) : Int) (by simp [tail8])
 have e1 := hz ((ep / 4294967296 % 256 : Nat) : Int) (by simp [tail8])
 have e2 := hz ((ep / 16777216 % 256 : Nat) : Int) (by simp [tail8])
 have e3 := hz ((ep / 65536 % 256 : Nat) : Int) (by simp [tail8])
 have e4 := hz ((ep / 256 % 256 : Nat) : Int) (by simp [tail8])
 have e5 := hz ((ep % 256 : Nat) : Int) (by simp [tail8])
 omega
theorem rep_at {n i s : Nat} (h : (List.replicate n 0)[i]? = some s) : s = 0 := by
 rw [List.getElem?_replicate] at h
 split at h <;> simp at h
 exact h.symm
theorem rep_getD (n i : Nat) : (List.replicate n 0).getD i 0 = 0 := by
 rw [List.getD_eq_getElem?_getD]
 cases h : (List.replicate n 0)[i]? with
 | none => rfl
 | some s => rw [rep_at h]; rfl
theorem Gp.fresh_ok (n sz : Nat) (D : Dk) (hD : D = ⟨n, sz, fun _ => List.replicate sz 0, fun _ => none, false, 0, false, 0⟩) (h : 8 ≤ n ∧ n ≤ 4096 ∧ 64 ≤ sz ∧ sz ≤ 4096) : (Gp.fresh D).Ok ∧ (Gp.fresh D).view = Rp.fresh n sz := by
 subst hD
 have hm : ∀ s, s < n → (mkd n 2).getD s false = decide (2 ≤ s) := fun s hs => by rw [mkd_at n 2 s (by omega)]; simp [hs]
 have hcap : capN n sz ≤ 4096 := by unfold capN; split <;> omega
 refine ⟨⟨⟨h, ⟨mkd_len n 2, by simp [Gp.fresh], by simp [Gp.fresh], by simp [Gp.fresh, Gp.old]⟩, fun i s hi => ?_, fun k s hk h0 => absurd (rep_at hk) h0, fun i j s hi _ h2 => ?_, fun i j s hi _ h0 => absurd (rep_at hi) h0, fun k i s hk _ => ?_, fun s hs => ?_, fun s hs => ?_, fun i s hi h2 => ?_, fun i j s hi _ h2 => ?_, ⟨List.nodup_nil, fun s => ?_⟩, fun i hi => absurd rfl hi, fun k hk => ?_, ?_, fun s _ _ => rfl, ⟨fun e => ?_, fun i e' pg' _ hg _ hr => ?_, fun _ s hs => (List.mem_replicate.1 hs).2, fun k _ i _ => rep_getD _ _, fun k s hk h0 => absurd (rep_at hk) h0, fun k s hk h0 => absurd (rep_at hk) h0⟩, fun s _ x hx => ?_, Nat.zero_le _⟩, rfl, ⟨rfl, rfl, rfl⟩⟩, ?_⟩
 ·have := rep_at hi; show s < n; omega
 ·have := rep_at hi; omega
 ·have := rep_at hk; omega
 ·show (mkd n 2).getD s false = false ↔ _
  rw [hm s hs]
  constructor
  ·intro e; left; simpa using e
  ·rintro (e | ⟨k, e⟩ | ⟨k, e⟩ | e)
   ·simpa using e
   ·have := rep_at e; simp; omega
   ·have := rep_at e; simp; omega
   ·simp [Gp.fresh, Gp.fr] at e
 ·simp [Gp.fresh, Gp.fr] at hs
 ·have := rep_at hi; omega
 ·have := rep_at hi; omega
 ·simp only [Gp.fresh, Gp.lf, List.not_mem_nil, false_iff, not_and, not_exists]
  rintro h2 i hi
  have := rep_at hi
  omega
 ·simp [Gp.fresh, Gp.tc] at hk
 ·rw [show (Gp.fresh _).tc = fun _ => false from rfl, show cntN (fun _ => false) 64 = 0 from cntN_false fun _ _ => rfl]
  exact Nat.zero_le _
 ·simp [Gp.fresh] at e
 ·exact (rootL_zeros hg.1 hg.2.1 (show List.replicate sz 0 = _ from hr)).elim
 ·have : x = 0 := (List.mem_replicate.1 (show x ∈ List.replicate sz 0 from hx)).2
  omega
 ·simp [Gp.view, Rp.fresh, Gp.fresh, Gp.fr, Gp.tc, pk]

theorem gp_open_new (n sz d : Nat) (F : Nat → Prop) (w : World) (h : DS w d F ⟨n, sz, fun _ => List.replicate sz 0, fun _ => none, false, 0, false, 0⟩) (hT : TabAt 0 tab w) (h0 : ¬ F 0) (hn : 8 ≤ n) (hz : 64 ≤ sz) :
  Calls Tryz.prog 33 #[.pointer (some ⟨d, 0, none⟩)] w fun e w' => ∃ p F', e = .returned (.tuple #[.pointer (some ⟨p, 0, none⟩), .int .i64 0]) ∧ GP w' p F' (Rp.fresh n sz) ∧ Grew w w' ∧ ∀ j, F' j → F j ∨ w.heap.size ≤ j := by
 have hs := h.sml
 have hsz : 64 ≤ sz ∧ sz ≤ 4096 := ⟨hz, hs.2.2.2⟩
 have hnn : n ≤ 4096 := hs.2.1
 have hfo := Gp.fresh_ok n sz _ rfl ⟨hn, hnn, hsz⟩
 refine (gopen_new d F _ w h rfl hT h0 hn hz (fun i _ => ?_) (fun i _ x hx => ?_)).mono ?_
 ·show partL (List.take (sz - 8) (List.replicate sz 0)) = none
  rw [List.take_replicate, Nat.min_eq_left (by omega)]
  exact part_zeros _ (by omega) (by omega)
 ·have : x = 0 := (List.mem_replicate.1 (show x ∈ List.replicate sz 0 from hx)).2
  omega
 ·rintro e w' ⟨p, F', rfl, h1, h2, h3⟩
  exact ⟨p, F', rfl, ⟨_, h1, hfo.1, hfo.2⟩, h2, h3⟩

end Go.Proofs.YtpkkcicaeldodaaGreatDoor

namespace Go.Proofs.YtpkkcicaeldodaaGreatDoor
open Go.RowKit Go.Maps

def Rp.opened (n sz : Nat) : Rp := (Rp.fresh n sz).begun
def Rp.tree0 (n sz r : Nat) : Rp := ((Rp.opened n sz).put r .zero).put r (.new (ndL nd0 sz))
def FrOut (w w' : World) (n sz : Nat) (e : Ending) : Prop :=
 ∃ t p d r F, e = .returned (.tuple #[.pointer (some ⟨t, 0, none⟩), .pointer (some ⟨p, 0, none⟩), .pointer (some ⟨d, 0, none⟩)]) ∧ r < capN n sz ∧ BT w' t p r F (Rp.tree0 n sz r) ∧ Grew w w' ∧ (∀ j, F j → w.heap.size ≤ j) ∧ w.heap.size ≤ t
set_option maxRecDepth 100000 in
set_option maxHeartbeats 1600000 in
theorem bfresh_any (n sz : Nat) (w : World) (hT : TabAt 0 tab w) (h1 : 8 ≤ n) (h2 : n ≤ 4096) (h3 : 64 ≤ sz) (h4 : sz ≤ 4096) (hs : 1 ≤ (Rp.opened n sz).slack) (hc : 0 < capN n sz) :
  Calls Tryz.prog 10 #[.int .i64 n, .int .i64 sz] w fun e w' => FrOut w w' n sz e := by
 have H := Lib.hid (And.intro hT (And.intro hs hc))
 clear hT hs hc
 go_enter Tryz.func10, Tryz.ntmps10
 go_wp2_with fail
 refine (dnew_any n sz _ (by omega) h2 (by omega) h4).mono ?_
 rintro e w1 ⟨d, F1, rfl, hd, hg1, hn1⟩
 have hT1 := tab_chg H.out.1 hg1 id
 have hF0 : ¬ F1 0 := fun e => by have := hn1 0 e; have := tab_pos H.out.1; omega
 have H1 := Lib.hid (And.intro hd (And.intro hg1 (And.intro hn1 (And.intro hT1 hF0))))
 clear hd hg1 hn1 hT1 hF0
 go_wp2_with fail
 refine (gp_open_new n sz d F1 w1 H1.out.1 H1.out.2.2.2.1 H1.out.2.2.2.2 h1 h3).mono ?_
 rintro e w2 ⟨p, F2, rfl, hp, hg2, hn2⟩
 have H2 := Lib.hid (And.intro hp (And.intro (Grew.trans H1.out.2.1 hg2) (fun j hj => show w.heap.size ≤ j from (hn2 j hj).elim (H1.out.2.2.1 j) fun e => Nat.le_trans H1.out.2.1.size e)))
 clear hp hg2 hn2
 go_wp2_with fail
 refine (gp_begin p F2 _ w2 H2.out.1 rfl).mono ?_
 rintro e w3 ⟨rfl, F3, k1, k2, k3⟩
 have hg3 : Grew w w3 := Chg.trans H2.out.2.1 k2 fun i hi e => by have := H2.out.2.2 i e; omega
 have hn3 : ∀ j, F3 j → w.heap.size ≤ j := fun j hj => (k3 j hj).elim (H2.out.2.2 j) fun e => Nat.le_trans H2.out.2.1.size e
 have hcap := H.out.2.2
 have hno : Pk.no ∈ (Rp.opened n sz).now := by
  simp only [Rp.opened, Rp.begun, Rp.fresh]
  exact List.mem_replicate.2 ⟨by omega, rfl⟩
 have hnw := bnew_any p F3 (Rp.opened n sz) w3 k1 (by simp [Rp.opened, Rp.begun]) H.out.2.1 hno
 have H3 := Lib.hid (And.intro hnw (And.intro hg3 hn3))
 clear k1 k2 k3 hg3 hn3 hno hnw hcap
 go_wp2_with fail
 refine H3.out.1.mono ?_
 rintro e w4 ⟨t, r, F4, rfl, hr, hb, hc4, hn4, ht⟩
 have hsz3 := H3.out.2.1.size
 have H4 := Lib.hid (And.intro hr (And.intro hb (And.intro (show Grew w w4 from Chg.trans H3.out.2.1 hc4 fun i hi e => by have := H3.out.2.2 i e; omega) (And.intro (fun j hj => show w.heap.size ≤ j from (hn4 j hj).elim (H3.out.2.2 j) fun e => by omega) (show w.heap.size ≤ t by omega)))))
 clear hr hb hc4 hn4 ht hsz3
 go_wp2_with fail
 refine bodyPost_ret (v := .tuple #[.pointer (some ⟨t, 0, none⟩), .pointer (some ⟨p, 0, none⟩), .pointer (some ⟨d, 0, none⟩)]) (by simp [results, Tryz.results10, go_sem]) rfl ?_
 refine ⟨t, p, d, r, F4, rfl, ?_, H4.out.2.1, H4.out.2.2.1, H4.out.2.2.2.1, H4.out.2.2.2.2⟩
 have := (List.getElem?_eq_some_iff.1 H4.out.1).1
 simpa [Rp.opened, Rp.begun, Rp.fresh] using this

theorem tree0_tr {n sz r : Nat} (hr : r < capN n sz) (hz : sz ≤ 4096) : Tr (Rp.tree0 n sz r).nd (halfN sz) 0 r [] [r] := by
 refine ⟨nd0, ?_, rfl, rfl, Nat.zero_le _, rfl, rfl⟩
 have hl : r < ((Rp.opened n sz).put r .zero).now.length := by rw [Rp.put_len]; simpa [Rp.opened, Rp.begun, Rp.fresh] using hr
 exact Rp.nd_new (nd0_fit _) hl hz
theorem tree0_used {n sz r : Nat} (hr : r < capN n sz) : (Rp.tree0 n sz r).now.countP Pk.used = 1 := by
 have hl : r < (Rp.opened n sz).now.length := by simpa [Rp.opened, Rp.begun, Rp.fresh] using hr
 have h0 : (Rp.opened n sz).now[r]? = some .no := by
  simp only [Rp.opened, Rp.begun, Rp.fresh] at hl ⊢
  rw [List.getElem?_eq_getElem hl, List.getElem_replicate]
 have h1 := Rp.put_used (c := .zero) h0
 have h2 := Rp.put_used (x := (Rp.opened n sz).put r .zero) (c := .new (ndL nd0 sz)) (c0 := .zero) (i := r) (by rw [Rp.put_at hl, if_pos rfl])
 have h3 : (Rp.opened n sz).now.countP Pk.used = 0 := by
  simp only [Rp.opened, Rp.begun, Rp.fresh]
  rw [List.countP_replicate]
  simp [Pk.used]
 simp [Pk.used] at h1 h2
 unfold Rp.tree0
 rw [h2, h1, h3]
end Go.Proofs.YtpkkcicaeldodaaGreatDoor

namespace Go.Proofs.YtpkkcicaeldodaaGreatDoor
open Go.RowKit Go.Maps

def Rp.roomy (x : Rp) (K : Nat) : Prop := x.was ≠ none ∧ (K : Int) + 1 ≤ x.slack + x.now.countP Pk.isNew ∧ K < x.now.length
theorem Rp.like.vol {x y : Rp} (h : x.like y) (hw : x.was ≠ none) : y.slack + y.now.countP Pk.isNew = x.slack + x.now.countP Pk.isNew := by
 have hb : y.base = x.base := by
  unfold Rp.base
  rw [h.was]
  cases hx : x.was with
  | none => exact absurd hx hw
  | some b => rfl
 unfold Rp.slack Rp.free
 rw [hb, h.n, h.sz]
 omega
theorem new_used (l : List Pk) : l.countP Pk.isNew ≤ l.countP Pk.used := List.countP_mono_left fun c _ h => by cases c <;> simp_all [Pk.isNew, Pk.used]
theorem no_mem {l : List Pk} (h : l.countP Pk.used < l.length) : Pk.no ∈ l := by
 refine Classical.byContradiction fun hn => ?_
 have : l.countP Pk.used = l.length := List.countP_eq_length.2 fun c hc => by
  cases c with
  | no => exact absurd hc hn
  | _ => rfl
 omega
theorem never_full {x z : Rp} {K : Nat} (hr : x.roomy K) (hl : x.like z) (hu : z.now.countP Pk.used ≤ K) : 1 ≤ z.slack ∧ Pk.no ∈ z.now := by
 have h1 := hl.vol hr.1
 have h2 := new_used z.now
 have h3 := hl.len
 exact ⟨by have := hr.2.1; omega, no_mem (by have := hr.2.2; omega)⟩
def PuOk (w w' : World) (t p root : Nat) (F : Nat → Prop) (x0 : Rp) (k v : Int) (L : List KV) (e : Ending) : Prop :=
 e = .returned (.int .i64 0) ∧ ∃ y F' D P, BT w' t p root F' y ∧ Rch F F' w w' ∧ x0.like y ∧ TS y D root (putL L k v) P
theorem put_sure {w w' : World} {t p root D K : Nat} {F : Nat → Prop} {x0 x : Rp} {k v : Int} {L : List KV} {P : List Nat} {e : Ending} (h : PuOut w w' t p root F x D k v L e) (hr : x0.roomy K) (hl : x0.like x) (hs : TS x D root L P) (hh : 2 ≤ halfN x.sz) (hK : L.length + D + 5 ≤ K) : PuOk w w' t p root F x0 k v L e := by
 rcases h with ⟨rfl, y, F', D', P', h1, h2, h3, h4⟩ | ⟨rfl, z, -, h2, h3, h4⟩
 ·exact ⟨rfl, y, F', D', P', h1, h2, hl.trans h3, h4⟩
 ·exact absurd (never_full hr (hl.trans h2) (by have := hs.used; have := hs.tr.pages hh; omega)) h4
theorem TS.depth2 {x : Rp} {D root : Nat} {L : List KV} {P : List Nat} (h : TS x D root L P) (hh : 2 ≤ halfN x.sz) (hl : L.length ≤ 2) : D = 0 := by
 rcases h.tr.deep hh with e | e
 ·exact e
 ·by_cases hD : D = 0
  ·exact hD
  ·have : 2 ^ 2 ≤ 2 ^ (D + 1) := Nat.pow_le_pow_right (by omega) (by omega)
   omega
theorem tree0_ts {n sz r : Nat} (hr : r < capN n sz) (hz : sz ≤ 4096) : TS (Rp.tree0 n sz r) 0 r [] [r] := ⟨tree0_tr hr hz, by simp, List.Pairwise.nil, tree0_used hr⟩
theorem tree0_like {n sz r : Nat} : (Rp.opened n sz).like (Rp.tree0 n sz r) := (Rp.put_like _ _ _).trans (Rp.put_like _ _ _)
theorem opened12 : (Rp.opened 12 64).slack = 9 ∧ capN 12 64 = 10 ∧ (Rp.opened 12 64).now.countP Pk.isNew = 0 := ⟨by kernel_rfl, by kernel_rfl, by kernel_rfl⟩
theorem opened400 : (Rp.opened 400 64).slack = 385 ∧ capN 400 64 = 398 ∧ (Rp.opened 400 64).now.countP Pk.isNew = 0 := ⟨by kernel_rfl, by kernel_rfl, by kernel_rfl⟩
theorem opened_len (n sz : Nat) : (Rp.opened n sz).now.length = capN n sz := by simp [Rp.opened, Rp.begun, Rp.fresh]
theorem roomy12 : (Rp.opened 12 64).roomy 7 := ⟨by simp [Rp.opened, Rp.begun], by rw [opened12.1, opened12.2.2]; omega, by rw [opened_len, opened12.2.1]; omega⟩
theorem roomy400 : (Rp.opened 400 64).roomy 380 := ⟨by simp [Rp.opened, Rp.begun], by rw [opened400.1, opened400.2.2]; omega, by rw [opened_len, opened400.2.1]; omega⟩
end Go.Proofs.YtpkkcicaeldodaaGreatDoor

namespace Go.Proofs.YtpkkcicaeldodaaGreatDoor

end Go.Proofs.YtpkkcicaeldodaaGreatDoor

namespace Go.Proofs.YtpkkcicaeldodaaGreatDoor
open Go.RowKit Go.Maps

set_option maxRecDepth 100000 in
set_option maxHeartbeats 1600000 in
theorem bindex_no (l : List Int) (x : Int) (A : Option Addr) (c : Nat) (w : World) (hs : Sl w 1 A l.length (l.map (Value.int .i64))) (hl : l.length ≤ 100000) (hx : x ∉ l) :
  Calls Tryz.prog 55 #[.slice A l.length c, .int .i64 x] w fun e w' => e = .returned (.int .i64 (-1)) ∧ w' = w := by
 have H := Lib.hid (And.intro hs hx)
 clear hs hx
 go_enter Tryz.func55, Tryz.ntmps55
 go_wp2_with fail
 go_loopg [8] (l.length) (fun n iv wr => ∃ k : Nat, n = l.length - k ∧ k ≤ l.length ∧ iv = .int .i64 k ∧ wr = w)
 case atStart => exact ⟨0, by simp, Nat.zero_le _, rfl, rfl⟩
 case round =>
  obtain ⟨k, rfl, hk, rfl, hwr⟩ := hrel
  replace hwr := hwr.symm
  subst hwr
  by_cases hlt : k < l.length
  ·obtain ⟨a, ha⟩ : ∃ a, l[k]? = some a := ⟨_, List.getElem?_eq_getElem hlt⟩
   obtain ⟨g, off, rfl, hgl, hc⟩ := H.out.1.2 (by omega)
   have hck : w.cell? ⟨g, off + k, none⟩ = some (.int .i64 a) := hc k _ (by simp [ha])
   have hne : (x == a) = false := by
    have : x ≠ a := fun e => H.out.2 (e ▸ List.mem_of_getElem? ha)
    simpa using this
   have hkI : (k : Int) < (l.length : Int) := by omega
   clear ha hgl hc
   go_wp2_with fail
   go_roundg (l.length - (k + 1))
   case measure => omega
   case rel => exact ⟨k + 1, rfl, by omega, by simp, rfl⟩
  ·obtain rfl : k = l.length := by omega
   clear hlt hk
   go_wp2_with fail
   go_ret
   exact ⟨rfl, rfl⟩
set_option maxRecDepth 100000 in
set_option maxHeartbeats 1600000 in
theorem bcontains_no (l : List Int) (x : Int) (A : Option Addr) (c : Nat) (w : World) (hs : Sl w 1 A l.length (l.map (Value.int .i64))) (hl : l.length ≤ 100000) (hx : x ∉ l) :
  Calls Tryz.prog 73 #[.slice A l.length c, .int .i64 x] w fun e w' => e = .returned (.bool false) ∧ w' = w := by
 have H := Lib.hid (bindex_no l x A c w hs hl hx)
 clear hs hx
 go_enter Tryz.func73, Tryz.ntmps73
 go_wp2_with fail
 refine H.out.mono ?_
 rintro e w1 ⟨rfl, rfl⟩
 go_wp2_with fail
 go_ret
 exact ⟨rfl, rfl⟩
end Go.Proofs.YtpkkcicaeldodaaGreatDoor

namespace Go.Proofs.YtpkkcicaeldodaaGreatDoor

section
variable {R R' : Nat → List KV → List Nat → Prop} {ks ka kb : List Nat} {kv va vb L M A B : List KV} {P PA PB PM : List Nat}
theorem Fr.cat (h : Fr R ka va L P) : ∀ {kb : List Nat} {vb M : List KV} {PM : List Nat} {k : KV}, Fr R kb vb M PM → Fr R (ka ++ kb) (va ++ k :: vb) (L ++ k :: M) (P ++ PM) := by
 induction h with
 | one h1 => intro kb vb M PM k h; exact .cons h1 h
 | @cons q1 M1 P1 k1 ks1 kv1 L1 P2 h1 _ ih =>
  intro kb vb M PM k h
  have := Fr.cons (k := k1) h1 (ih (k := k) h)
  simpa [List.append_assoc] using this
theorem Fr.single {q : Nat} (h : Fr R [q] [] M PM) : R q M PM := by
 generalize hK : [q] = K at h
 generalize hV : ([] : List KV) = V at h
 cases h with
 | one h1 => cases hK; exact h1
 | cons h1 h2 => cases hV
theorem Fr.pair (h : Fr R ks kv L P) {j q1 q2 : Nat} {s : KV} (h1 : ks[j]? = some q1) (h2 : ks[j + 1]? = some q2) (h3 : kv[j]? = some s) :
  ∃ A PA M1 P1 M2 P2 B PB, Pre R (ks.take j) (kv.take j) A PA ∧ R q1 M1 P1 ∧ R q2 M2 P2 ∧ Suf R (ks.drop (j + 2)) (kv.drop (j + 1)) B PB ∧ L = A ++ (M1 ++ s :: M2) ++ B ∧ P = PA ++ (P1 ++ P2) ++ PB := by
 have l1 := (List.getElem?_eq_some_iff.1 h2).1
 have l3 := (List.getElem?_eq_some_iff.1 h3).1
 have e1 : ks = ks.take j ++ [q1, q2] ++ ks.drop (j + 2) := by
  have := at_split h1
  have h4 := at_split h2
  rw [List.take_add_one, h1] at h4
  simpa using h4
 have e2 : kv = kv.take j ++ [s] ++ kv.drop (j + 1) := by
  have := at_split h3
  simpa using this
 rw [e1, e2] at h
 obtain ⟨A, PA, M, PM, B, PB, g1, g2, g3, rfl, rfl⟩ := h.focus (by rw [List.length_take, List.length_take]; omega) rfl
 obtain ⟨M1, P1, M2, P2, t1, t2, rfl, rfl⟩ := g2.inv
 exact ⟨A, PA, M1, P1, M2, P2, B, PB, g1, t1, t2.single, g3, rfl, rfl⟩
theorem Fr.repair {j q1 q2 : Nat} {s : KV} {M1 M2 : List KV} {P1 P2 : List Nat} (h1 : ks[j]? = some q1) (h2 : ks[j + 1]? = some q2) (h3 : j < kv.length) (g1 : Pre R (ks.take j) (kv.take j) A PA) (t1 : R q1 M1 P1) (t2 : R q2 M2 P2) (g3 : Suf R (ks.drop (j + 2)) (kv.drop (j + 1)) B PB) :
  Fr R ks (kv.set j s) (A ++ (M1 ++ s :: M2) ++ B) (PA ++ (P1 ++ P2) ++ PB) := by
 have hb := Fr.build g1 (Fr.cons (k := s) t1 (Fr.one t2)) g3
 have e1 : ks = ks.take j ++ [q1, q2] ++ ks.drop (j + 2) := by
  have h4 := at_split h2
  rw [List.take_add_one, h1] at h4
  simpa using h4
 have e2 : kv.set j s = kv.take j ++ [s] ++ kv.drop (j + 1) := by
  rw [List.set_eq_take_append_cons_drop, if_pos h3]
  simp
 rw [e2]
 conv => arg 2; rw [e1]
 exact hb
theorem Fr.joined {j q1 q2 : Nat} {M1 : List KV} {P1 : List Nat} (h1 : ks[j]? = some q1) (h2 : ks[j + 1]? = some q2) (g1 : Pre R (ks.take j) (kv.take j) A PA) (t1 : R q1 M1 P1) (g3 : Suf R (ks.drop (j + 2)) (kv.drop (j + 1)) B PB) :
  Fr R (ks.eraseIdx (j + 1)) (kv.eraseIdx j) (A ++ M1 ++ B) (PA ++ P1 ++ PB) := by
 have hb := Fr.build g1 (Fr.one t1) g3
 have e1 : ks.eraseIdx (j + 1) = ks.take j ++ [q1] ++ ks.drop (j + 2) := by
  rw [List.eraseIdx_eq_take_drop_succ, List.take_add_one, h1]
  simp
 have e2 : kv.eraseIdx j = kv.take j ++ [] ++ kv.drop (j + 1) := by
  rw [List.eraseIdx_eq_take_drop_succ]
  simp
 rw [e1, e2]
 exact hb
end
def Nd.cutL (nd : Nd) : Nd := ⟨nd.keys.take (nd.keys.length - 1), nd.vals.take (nd.keys.length - 1), nd.kids.take nd.keys.length⟩
def Nd.cutF (nd : Nd) : Nd := ⟨nd.keys.drop 1, nd.vals.drop 1, nd.kids.drop 1⟩
def Nd.addF (nd : Nd) (k v : Int) (c : List Nat) : Nd := ⟨k :: nd.keys, v :: nd.vals, c ++ nd.kids⟩
def Nd.addL (nd : Nd) (k v : Int) (c : List Nat) : Nd := ⟨nd.keys ++ [k], nd.vals ++ [v], nd.kids ++ c⟩
def Nd.one (a b : Nd) (k v : Int) : Nd := ⟨a.keys ++ k :: b.keys, a.vals ++ v :: b.vals, a.kids ++ b.kids⟩
theorem Nd.one_kvs {a b : Nd} (h : a.vals.length = a.keys.length) (k v : Int) : (a.one b k v).kvs = a.kvs ++ (k, v) :: b.kvs := by
 unfold Nd.one Nd.kvs
 rw [List.zip_append h.symm, List.zip_cons_cons]
theorem Nd.addF_kvs (nd : Nd) (k v : Int) (c : List Nat) : (nd.addF k v c).kvs = (k, v) :: nd.kvs := rfl
theorem Nd.addL_kvs {nd : Nd} (h : nd.vals.length = nd.keys.length) (k v : Int) (c : List Nat) : (nd.addL k v c).kvs = nd.kvs ++ [(k, v)] := by
 unfold Nd.addL Nd.kvs
 rw [List.zip_append h.symm]
 rfl
theorem Nd.cutL_kvs (nd : Nd) : nd.cutL.kvs = nd.kvs.take (nd.keys.length - 1) := zip_take _ _ _
theorem Nd.cutF_kvs (nd : Nd) : nd.cutF.kvs = nd.kvs.drop 1 := zip_drop _ _ _
section
variable {rd rd' : Nat → Option Nd} {h d q1 q2 : Nat} {M1 M2 : List KV} {P1 P2 : List Nat} {a b : Nd} {k v : Int}
theorem Tr.merge {q : Nat} (t1 : Tc rd h d q1 M1 P1) (t2 : Tc rd h d q2 M2 P2) (ha : rd q1 = some a) (hb : rd q2 = some b) (hl : a.keys.length + b.keys.length + 1 ≤ 2 * h - 1) (hq : rd' q = some (a.one b k v)) (hr : ∀ i ∈ P1 ++ P2, i ≠ q1 → i ≠ q2 → rd' i = rd i) (hn : (P1 ++ P2).Nodup) :
  ∃ P', Tr rd' h d q (M1 ++ (k, v) :: M2) (q :: P') ∧ (q1 :: q2 :: P').Perm (P1 ++ P2) := by
 have l1 : (a.one b k v).keys.length = a.keys.length + b.keys.length + 1 := by simp [Nd.one]; omega
 cases d with
 | zero =>
  obtain ⟨⟨n1, g1, g2, g3, g4, rfl, rfl⟩, -⟩ := t1
  obtain ⟨⟨n2, k1, k2, k3, k4, rfl, rfl⟩, -⟩ := t2
  rw [ha] at g1; cases g1
  rw [hb] at k1; cases k1
  exact ⟨[], ⟨_, hq, by simp [Nd.one, g2, k2], by simp [Nd.one]; omega, by omega, (Nd.one_kvs g3 k v).symm, rfl⟩, List.Perm.refl _⟩
 | succ d =>
  obtain ⟨⟨n1, Q1, g1, g2, g3, g4, g5, rfl⟩, -⟩ := t1
  obtain ⟨⟨n2, Q2, k1, k2, k3, k4, k5, rfl⟩, -⟩ := t2
  rw [ha] at g1; cases g1
  rw [hb] at k1; cases k1
  have hn1 := List.nodup_append.1 hn
  have hn2 := List.nodup_cons.1 hn1.1
  have hn3 := List.nodup_cons.1 hn1.2.1
  have f1 : Fr (fun q L P => Tr rd' h d q L P ∧ h - 1 ≤ nk rd' q) a.kids a.kvs M1 Q1 := g5.mono fun c M Q hc hQ => Tc.frame hc fun i hi => hr i (by simp [hQ i hi]) (fun e => hn2.1 (e ▸ hQ i hi)) fun e => hn1.2.2 i (List.mem_cons_of_mem _ (hQ i hi)) q2 List.mem_cons_self e
  have f2 : Fr (fun q L P => Tr rd' h d q L P ∧ h - 1 ≤ nk rd' q) b.kids b.kvs M2 Q2 := k5.mono fun c M Q hc hQ => Tc.frame hc fun i hi => hr i (by simp [hQ i hi]) (fun e => hn1.2.2 q1 List.mem_cons_self i (List.mem_cons_of_mem _ (hQ i hi)) e.symm) fun e => hn3.1 (e ▸ hQ i hi)
  refine ⟨Q1 ++ Q2, ⟨_, Q1 ++ Q2, hq, by simp [Nd.one]; omega, by omega, by omega, ?_, rfl⟩, ?_⟩
  ·rw [Nd.one_kvs g2]
   exact f1.cat f2
  ·have : (q1 :: q2 :: (Q1 ++ Q2)).Perm (q1 :: (Q1 ++ q2 :: Q2)) := List.Perm.cons _ List.perm_middle.symm
   exact this
end
end Go.Proofs.YtpkkcicaeldodaaGreatDoor

namespace Go.Proofs.YtpkkcicaeldodaaGreatDoor

section
variable {rd rd' : Nat → Option Nd} {h d q1 q2 : Nat} {M1 M2 : List KV} {P1 P2 : List Nat} {a b : Nd} {k v : Int}
theorem two_frames {Q1 Q2 : List Nat} (hn : (q1 :: Q1 ++ q2 :: Q2).Nodup) (hr : ∀ i ∈ q1 :: Q1 ++ q2 :: Q2, i ≠ q1 → i ≠ q2 → rd' i = rd i)
  (g5 : Fr (fun q L P => Tr rd h d q L P ∧ h - 1 ≤ nk rd q) a.kids a.kvs M1 Q1) (k5 : Fr (fun q L P => Tr rd h d q L P ∧ h - 1 ≤ nk rd q) b.kids b.kvs M2 Q2) :
  Fr (fun q L P => Tr rd' h d q L P ∧ h - 1 ≤ nk rd' q) a.kids a.kvs M1 Q1 ∧ Fr (fun q L P => Tr rd' h d q L P ∧ h - 1 ≤ nk rd' q) b.kids b.kvs M2 Q2 := by
 have hn1 := List.nodup_append.1 hn
 have hn2 := List.nodup_cons.1 hn1.1
 have hn3 := List.nodup_cons.1 hn1.2.1
 exact ⟨g5.mono fun c M Q hc hQ => Tc.frame hc fun i hi => hr i (by simp [hQ i hi]) (fun e => hn2.1 (e ▸ hQ i hi)) fun e => hn1.2.2 i (List.mem_cons_of_mem _ (hQ i hi)) q2 List.mem_cons_self e,
  k5.mono fun c M Q hc hQ => Tc.frame hc fun i hi => hr i (by simp [hQ i hi]) (fun e => hn1.2.2 q1 List.mem_cons_self i (List.mem_cons_of_mem _ (hQ i hi)) e.symm) fun e => hn3.1 (e ▸ hQ i hi)⟩
theorem Tr.fromLeft (t1 : Tc rd h d q1 M1 P1) (t2 : Tc rd h d q2 M2 P2) (ha : rd q1 = some a) (hb : rd q2 = some b) (hh : 2 ≤ h) (h1 : h ≤ a.keys.length) (h2 : b.keys.length + 1 ≤ 2 * h - 1)
  (hq1 : rd' q1 = some a.cutL) (hq2 : rd' q2 = some (b.addF k v (a.kids.drop a.keys.length))) (hr : ∀ i ∈ P1 ++ P2, i ≠ q1 → i ≠ q2 → rd' i = rd i) (hn : (P1 ++ P2).Nodup) :
  ∃ k1 v1 M1' M2' P1' P2', a.keys[a.keys.length - 1]? = some k1 ∧ a.vals[a.keys.length - 1]? = some v1 ∧ Tc rd' h d q1 M1' P1' ∧ Tc rd' h d q2 M2' P2' ∧ M1 ++ (k, v) :: M2 = M1' ++ (k1, v1) :: M2' ∧ (P1' ++ P2').Perm (P1 ++ P2) := by
 have hbk : h - 1 ≤ b.keys.length := by have := t2.2; rwa [nk_eq hb] at this
 have lc : a.cutL.keys.length = a.keys.length - 1 := by simp [Nd.cutL]
 have ld : (b.addF k v (a.kids.drop a.keys.length)).keys.length = b.keys.length + 1 := by simp [Nd.addF]
 have o1 : h - 1 ≤ nk rd' q1 := by rw [nk_eq hq1, lc]; omega
 have o2 : h - 1 ≤ nk rd' q2 := by rw [nk_eq hq2, ld]; omega
 have hvl : a.vals.length = a.keys.length := by
  obtain ⟨n', g1, g2, -⟩ := t1.1.node
  rw [ha] at g1; cases g1; exact g2
 obtain ⟨k1, hk1⟩ : ∃ k1, a.keys[a.keys.length - 1]? = some k1 := ⟨_, List.getElem?_eq_getElem (by omega)⟩
 obtain ⟨v1, hv1⟩ : ∃ v1, a.vals[a.keys.length - 1]? = some v1 := ⟨_, List.getElem?_eq_getElem (by omega)⟩
 have hkv := at_split (kvs_at hvl hk1 hv1)
 rw [show a.keys.length - 1 + 1 = a.keys.length by omega, List.drop_eq_nil_of_le (by rw [kvs_len hvl]; exact Nat.le_refl _)] at hkv
 cases d with
 | zero =>
  obtain ⟨⟨n1, g1, g2, g3, g4, rfl, rfl⟩, -⟩ := t1
  obtain ⟨⟨n2, c1, c2, c3, c4, rfl, rfl⟩, -⟩ := t2
  rw [ha] at g1; cases g1
  rw [hb] at c1; cases c1
  refine ⟨k1, v1, _, _, [q1], [q2], hk1, hv1, ⟨⟨_, hq1, by simp [Nd.cutL, g2], by simp [Nd.cutL, g3], by omega, (Nd.cutL_kvs a).symm, rfl⟩, o1⟩, ⟨⟨_, hq2, by simp [Nd.addF, g2, c2], by simp [Nd.addF, c3], by omega, (Nd.addF_kvs b k v _).symm, rfl⟩, o2⟩, ?_, List.Perm.refl _⟩
  conv => lhs; rw [hkv]
  simp
 | succ d =>
  obtain ⟨⟨n1, Q1, g1, g2, g3, g4, g5, rfl⟩, -⟩ := t1
  obtain ⟨⟨n2, Q2, c1, c2, c3, c4, c5, rfl⟩, -⟩ := t2
  rw [ha] at g1; cases g1
  rw [hb] at c1; cases c1
  obtain ⟨f1, f2⟩ := two_frames hn hr g5 c5
  have hcl := f1.len
  rw [kvs_len hvl] at hcl
  obtain ⟨c, hc⟩ : ∃ c, a.kids[a.keys.length]? = some c := ⟨_, List.getElem?_eq_getElem (by omega)⟩
  have hks := at_split hc
  rw [List.drop_eq_nil_of_le (show a.kids.length ≤ a.keys.length + 1 by omega)] at hks
  have hdr : a.kids.drop a.keys.length = [c] := by
   obtain ⟨hl, he⟩ := List.getElem?_eq_some_iff.1 hc
   rw [List.drop_eq_getElem_cons hl, he, List.drop_eq_nil_of_le (by omega)]
  rw [hks, hkv] at f1
  obtain ⟨M1', PM, B, PB, e1, e2, rfl, rfl⟩ := f1.cutr (by rw [List.length_take, List.length_take, kvs_len hvl]; omega)
  obtain ⟨Mx, rfl, e3⟩ := e2.fr
  refine ⟨k1, v1, M1', Mx ++ (k, v) :: M2, q1 :: PM, q2 :: (PB ++ Q2), hk1, hv1, ⟨⟨_, PM, hq1, by simp [Nd.cutL, g2], by omega, by omega, ?_, rfl⟩, o1⟩, ⟨⟨_, PB ++ Q2, hq2, by simp [Nd.addF, c2], by omega, by omega, ?_, rfl⟩, o2⟩, by simp, ?_⟩
  ·rw [Nd.cutL_kvs]; exact e1
  ·rw [Nd.addF_kvs]
   have : (b.addF k v (a.kids.drop a.keys.length)).kids = c :: b.kids := by simp only [Nd.addF]; rw [hdr]; rfl
   rw [this]
   exact Fr.cons e3.single f2
  ·have s1 : (q2 :: (PB ++ Q2)).Perm (PB ++ q2 :: Q2) := List.perm_middle.symm
   have := (s1.append_left PM).cons q1
   simpa using this
theorem Tr.fromRight (t1 : Tc rd h d q1 M1 P1) (t2 : Tc rd h d q2 M2 P2) (ha : rd q1 = some a) (hb : rd q2 = some b) (hh : 2 ≤ h) (h1 : h ≤ b.keys.length) (h2 : a.keys.length + 1 ≤ 2 * h - 1)
  (hq1 : rd' q1 = some (a.addL k v (b.kids.take 1))) (hq2 : rd' q2 = some b.cutF) (hr : ∀ i ∈ P1 ++ P2, i ≠ q1 → i ≠ q2 → rd' i = rd i) (hn : (P1 ++ P2).Nodup) :
  ∃ k1 v1 M1' M2' P1' P2', b.keys[0]? = some k1 ∧ b.vals[0]? = some v1 ∧ Tc rd' h d q1 M1' P1' ∧ Tc rd' h d q2 M2' P2' ∧ M1 ++ (k, v) :: M2 = M1' ++ (k1, v1) :: M2' ∧ (P1' ++ P2').Perm (P1 ++ P2) := by
 have hak : h - 1 ≤ a.keys.length := by have := t1.2; rwa [nk_eq ha] at this
 have lc : b.cutF.keys.length = b.keys.length - 1 := by simp [Nd.cutF]
 have ld : (a.addL k v (b.kids.take 1)).keys.length = a.keys.length + 1 := by simp [Nd.addL]
 have o1 : h - 1 ≤ nk rd' q1 := by rw [nk_eq hq1, ld]; omega
 have o2 : h - 1 ≤ nk rd' q2 := by rw [nk_eq hq2, lc]; omega
 have hvl : b.vals.length = b.keys.length := by
  obtain ⟨n', g1, g2, -⟩ := t2.1.node
  rw [hb] at g1; cases g1; exact g2
 obtain ⟨k1, hk1⟩ : ∃ k1, b.keys[0]? = some k1 := ⟨_, List.getElem?_eq_getElem (by omega)⟩
 obtain ⟨v1, hv1⟩ : ∃ v1, b.vals[0]? = some v1 := ⟨_, List.getElem?_eq_getElem (by omega)⟩
 have hkv := at_split (kvs_at hvl hk1 hv1)
 rw [List.take_zero, List.nil_append] at hkv
 cases d with
 | zero =>
  obtain ⟨⟨n1, g1, g2, g3, g4, rfl, rfl⟩, -⟩ := t1
  obtain ⟨⟨n2, c1, c2, c3, c4, rfl, rfl⟩, -⟩ := t2
  rw [ha] at g1; cases g1
  rw [hb] at c1; cases c1
  refine ⟨k1, v1, _, _, [q1], [q2], hk1, hv1, ⟨⟨_, hq1, by simp [Nd.addL, g2, c2], by simp [Nd.addL, g3], by omega, (Nd.addL_kvs g3 k v _).symm, rfl⟩, o1⟩, ⟨⟨_, hq2, by simp [Nd.cutF, c2], by simp [Nd.cutF, c3], by omega, (Nd.cutF_kvs b).symm, rfl⟩, o2⟩, ?_, List.Perm.refl _⟩
  conv => lhs; rw [hkv]
  simp
 | succ d =>
  obtain ⟨⟨n1, Q1, g1, g2, g3, g4, g5, rfl⟩, -⟩ := t1
  obtain ⟨⟨n2, Q2, c1, c2, c3, c4, c5, rfl⟩, -⟩ := t2
  rw [ha] at g1; cases g1
  rw [hb] at c1; cases c1
  obtain ⟨f1, f2⟩ := two_frames hn hr g5 c5
  have hcl := f2.len
  rw [kvs_len hvl] at hcl
  obtain ⟨c, hc⟩ : ∃ c, b.kids[0]? = some c := ⟨_, List.getElem?_eq_getElem (by omega)⟩
  have hks := at_split hc
  rw [List.take_zero, List.nil_append] at hks
  have htk : b.kids.take 1 = [c] := by rw [List.take_add_one, hc]; simp
  rw [hks, hkv] at f2
  obtain ⟨Mx, Qx, L', P', e1, e2, rfl, rfl⟩ := f2.inv
  refine ⟨k1, v1, M1 ++ (k, v) :: Mx, L', q1 :: (Q1 ++ Qx), q2 :: P', hk1, hv1, ⟨⟨_, Q1 ++ Qx, hq1, by simp [Nd.addL, g2], by omega, by omega, ?_, rfl⟩, o1⟩, ⟨⟨_, P', hq2, by simp [Nd.cutF, c2], by omega, by omega, ?_, rfl⟩, o2⟩, by simp, ?_⟩
  ·rw [Nd.addL_kvs g2]
   have : (a.addL k v (b.kids.take 1)).kids = a.kids ++ [c] := by simp only [Nd.addL]; rw [htk]
   rw [this]
   exact f1.snoc e1
  ·rw [Nd.cutF_kvs]; exact e2
  ·have s1 : (Qx ++ q2 :: P').Perm (q2 :: (Qx ++ P')) := List.perm_middle
   have := (s1.append_left Q1).cons q1
   simpa using this
end
end Go.Proofs.YtpkkcicaeldodaaGreatDoor

namespace Go.Proofs.YtpkkcicaeldodaaGreatDoor

theorem delL_free {L : List KV} {k : Int} (h : ∀ y ∈ L, y.1 ≠ k) : delL L k = L := filter_all fun y hy => by simpa using h y hy
theorem delL_app (A B : List KV) (k : Int) : delL (A ++ B) k = delL A k ++ delL B k := List.filter_append ..
theorem delL_at {A B : List KV} {y : KV} (hs : Srt (A ++ y :: B)) : delL (A ++ y :: B) y.1 = A ++ B := by
 obtain ⟨h1, h2, h3⟩ := srt_app.1 hs
 obtain ⟨h4, -⟩ := List.pairwise_cons.1 h2
 rw [delL_app, delL_free (L := A) fun z hz => by have := h3 z hz y List.mem_cons_self; omega]
 congr 1
 have : delL (y :: B) y.1 = delL B y.1 := by simp [delL]
 rw [this]
 exact delL_free fun z hz => by have := h4 z hz; omega
structure DelAt (rd : Nat → Option Nd) (h D root : Nat) (R : List KV) (P : List Nat) (k : Int) (d q : Nat) (nd : Nd) (A M B : List KV) (P1 PM P2 : List Nat) : Prop where
 nd : rd q = some nd
 tr : Tr rd h d q M PM
 occ : h - 1 ≤ nk rd q ∨ d = D
 plug : ∀ rd' M' PM', (∀ i ∈ P1, rd' i = rd i) → (∀ i ∈ P2, rd' i = rd i) → Tr rd' h d q M' PM' → (h - 1 ≤ nk rd' q ∨ d = D) → Tr rd' h D root (A ++ M' ++ B) (P1 ++ PM' ++ P2)
 srt : Srt M
 res : R = A ++ delL M k ++ B
 p : P = P1 ++ PM ++ P2
 nod : P.Nodup
 has : ∃ v, (k, v) ∈ M
 le : d ≤ D
 top : d = D → q = root ∧ A = [] ∧ B = [] ∧ P1 = [] ∧ P2 = []
section
variable {rd rd' : Nat → Option Nd} {h D root : Nat} {R : List KV} {P : List Nat} {k : Int} {d q : Nat} {nd : Nd} {A M B : List KV} {P1 PM P2 : List Nat}
theorem DelAt.start {L : List KV} (t : Tr rd h D root L P) (hs : Srt L) (hn : P.Nodup) (hk : ∃ v, (k, v) ∈ L) : ∃ nd, DelAt rd h D root (delL L k) P k D root nd [] L [] [] P [] := by
 obtain ⟨nd, h1, -⟩ := t.node
 exact ⟨nd, h1, t, .inr rfl, fun rd' M' PM' _ _ t _ => by simpa using t, hs, by simp, by simp, hn, hk, Nat.le_refl _, fun _ => ⟨rfl, rfl, rfl, rfl, rfl⟩⟩
theorem DelAt.apart (a : DelAt rd h D root R P k d q nd A M B P1 PM P2) : (∀ i ∈ P1, i ∉ PM) ∧ (∀ i ∈ P2, i ∉ PM) ∧ PM.Nodup ∧ q ∈ PM := by
 have hn := a.nod
 rw [a.p] at hn
 obtain ⟨h1, h2, h3⟩ := List.nodup_append.1 hn
 obtain ⟨h4, h5, h6⟩ := List.nodup_append.1 h1
 exact ⟨fun i hi hm => h6 i hi i hm rfl, fun i hi hm => h3 i (List.mem_append_right _ hm) i hi rfl, h5, a.tr.root_mem⟩
theorem DelAt.leaf (a : DelAt rd h D root R P k 0 q nd A M B P1 PM P2) (hb : h ≤ nd.keys.length ∨ 0 = D) (hh : 1 ≤ h)
  (h1 : rd' q = some ⟨nd.keys.eraseIdx (atI nd.keys k), nd.vals.eraseIdx (atI nd.keys k), []⟩) (h2 : ∀ i ∈ P, i ≠ q → rd' i = rd i) : nd.keys.contains k = true ∧ Tr rd' h D root R P := by
 obtain ⟨e1, e2, e3, e4⟩ := a.apart
 have hks := a.tr.keys a.nd a.srt
 obtain ⟨v, hv⟩ := a.has
 have a' := a
 obtain ⟨nd', g1, g2, g3, g4, g5, g6⟩ := a'.tr
 rw [a.nd] at g1
 cases g1
 have hkm : k ∈ nd.keys := by rw [← kvs_keys g3, ← g5]; exact List.mem_map.2 ⟨(k, v), hv, rfl⟩
 have hc : nd.keys.contains k = true := List.contains_iff_mem.2 hkm
 have hf := (atI_found hks).1 hc
 have hil := (List.getElem?_eq_some_iff.1 hf).1
 obtain ⟨v', hv'⟩ : ∃ v', nd.vals[atI nd.keys k]? = some v' := ⟨_, List.getElem?_eq_getElem (by omega)⟩
 have hkv := at_split (kvs_at g3 hf hv')
 have hdel : delL M k = nd.kvs.take (atI nd.keys k) ++ nd.kvs.drop (atI nd.keys k + 1) := by
  have hs := a.srt
  rw [g5] at hs ⊢
  rw [hkv] at hs
  conv => lhs; rw [hkv]
  exact delL_at hs
 have hkve : Nd.kvs ⟨nd.keys.eraseIdx (atI nd.keys k), nd.vals.eraseIdx (atI nd.keys k), []⟩ = delL M k := by
  rw [hdel]
  unfold Nd.kvs
  simp only [List.eraseIdx_eq_take_drop_succ]
  rw [List.zip_append (by rw [List.length_take, List.length_take]; omega), zip_take, zip_drop]
 have hlk : (nd.keys.eraseIdx (atI nd.keys k)).length = nd.keys.length - 1 := List.length_eraseIdx_of_lt hil
 have hlv : (nd.vals.eraseIdx (atI nd.keys k)).length = nd.vals.length - 1 := List.length_eraseIdx_of_lt (by omega)
 have ht : Tr rd' h 0 q (delL M k) PM := ⟨_, h1, rfl, by simp only; omega, by simp only; omega, hkve.symm, g6⟩
 have := a.plug rd' _ _ (fun i hi => h2 i (by rw [a.p]; simp [hi]) fun e => e1 i hi (e ▸ e4)) (fun i hi => h2 i (by rw [a.p]; simp [hi]) fun e => e2 i hi (e ▸ e4)) ht (by
  rcases hb with e | e
  ·left; rw [nk_eq h1]; simp only; omega
  ·exact .inr e)
 rw [← a.res, ← a.p] at this
 exact ⟨hc, this⟩
theorem DelAt.down (a : DelAt rd h D root R P k (d + 1) q nd A M B P1 PM P2) (hk : nd.keys.contains k = false) :
  ∃ e nd' A' M' B' P1' PM' P2', nd.kids[atI nd.keys k]? = some e ∧ DelAt rd h D root R P k d e nd' A' M' B' P1' PM' P2' := by
 obtain ⟨c, A1, M1, B1, PA, PM1, PB, g1, g2, g3, g4, g5, g6, g7⟩ := a.tr.down a.nd a.srt hk
 obtain ⟨nd', n1, -⟩ := g4.1.node
 have hsM : Srt M1 := a.srt.sub (by rw [g2]; exact (List.sublist_append_right A1 M1).trans (List.sublist_append_left _ _))
 have hle := a.le
 refine ⟨c, nd', A ++ A1, M1, B1 ++ B, P1 ++ q :: PA, PM1, PB ++ P2, g1, n1, g4.1, .inl g4.2, fun rd' M' PM' f1 f2 f3 f4 => ?_, hsM, ?_, ?_, a.nod, ?_, by omega, fun e => by omega⟩
 ·have hq : rd' q = rd q := f1 q (by simp)
  have h8 := g7 rd' M' PM' hq (fun i hi => f1 i (by simp [hi])) (fun i hi => f2 i (by simp [hi])) ⟨f3, f4.resolve_right (by omega)⟩
  have h9 := a.plug rd' _ _ (fun i hi => f1 i (by simp [hi])) (fun i hi => f2 i (by simp [hi])) h8 (by
   have : nk rd' q = nk rd q := by unfold nk; rw [hq]
   rw [this]; exact a.occ)
  simpa using h9
 ·rw [a.res, g2, delL_mid g5 g6]; simp
 ·rw [a.p, g3]; simp
 ·obtain ⟨v, hv⟩ := a.has
  rw [g2] at hv
  rcases List.mem_append.1 hv with e | e
  ·rcases List.mem_append.1 e with e | e
   ·have := g5 _ e; simp at this
   ·exact ⟨v, e⟩
  ·have := g6 _ e; simp at this
theorem DelAt.same (a : DelAt rd h D root R P k d q nd A M B P1 PM P2) {nd' : Nd} {PM' : List Nat} (h1 : rd' q = some nd') (t : Tr rd' h d q M PM') (ho : h - 1 ≤ nd'.keys.length ∨ d = D) (h2 : ∀ i ∈ P1, rd' i = rd i) (h3 : ∀ i ∈ P2, rd' i = rd i) (hn : (P1 ++ PM' ++ P2).Nodup) :
  DelAt rd' h D root R (P1 ++ PM' ++ P2) k d q nd' A M B P1 PM' P2 :=
 ⟨h1, t, by rw [nk_eq h1]; exact ho, fun rd2 M' PM2 f1 f2 f3 f4 => a.plug rd2 M' PM2 (fun i hi => (f1 i hi).trans (h2 i hi)) (fun i hi => (f2 i hi).trans (h3 i hi)) f3 f4, a.srt, a.res, rfl, hn, a.has, a.le, a.top⟩
end
end Go.Proofs.YtpkkcicaeldodaaGreatDoor

namespace Go.Proofs.YtpkkcicaeldodaaGreatDoor

theorem kvs_set2 {nd : Nd} (hv : nd.vals.length = nd.keys.length) {j : Nat} {k0 v0 k v : Int} (hk : nd.keys[j]? = some k0) (hvv : nd.vals[j]? = some v0) : Nd.kvs ⟨nd.keys.set j k, nd.vals.set j v, nd.kids⟩ = nd.kvs.set j (k, v) := by
 have h1 := (List.getElem?_eq_some_iff.1 hk).1
 have h2 := (List.getElem?_eq_some_iff.1 hvv).1
 have hl : nd.kvs.length = nd.keys.length := kvs_len hv
 apply List.ext_getElem?
 intro i
 rw [List.getElem?_set, hl]
 unfold Nd.kvs
 simp only
 by_cases e : j = i
 ·subst e
  rw [if_pos rfl, if_pos h1, List.getElem?_zip_eq_some]
  exact ⟨by rw [List.getElem?_set, if_pos rfl, if_pos h1], by rw [List.getElem?_set, if_pos rfl, if_pos h2]⟩
 ·rw [if_neg e]
  by_cases hi : i < nd.keys.length
  ·obtain ⟨a, ha⟩ : ∃ a, nd.keys[i]? = some a := ⟨_, List.getElem?_eq_getElem hi⟩
   obtain ⟨b, hb⟩ : ∃ b, nd.vals[i]? = some b := ⟨_, List.getElem?_eq_getElem (by omega)⟩
   rw [show (nd.keys.zip nd.vals)[i]? = some (a, b) from List.getElem?_zip_eq_some.2 ⟨ha, hb⟩, List.getElem?_zip_eq_some]
   exact ⟨by rw [List.getElem?_set, if_neg e, ha], by rw [List.getElem?_set, if_neg e, hb]⟩
  ·rw [List.getElem?_eq_none (by rw [List.length_zip, List.length_set, List.length_set]; omega), List.getElem?_eq_none (by rw [List.length_zip]; omega)]
section
variable {rd rd' : Nat → Option Nd} {h d q q1 q2 j : Nat} {M : List KV} {PM : List Nat} {nd a b : Nd} {k v : Int}
theorem Tr.left (t : Tr rd h (d + 1) q M PM) (hn : rd q = some nd) (hd : PM.Nodup) (hh : 2 ≤ h) (h1 : nd.kids[j]? = some q1) (h2 : nd.kids[j + 1]? = some q2) (hk : nd.keys[j]? = some k) (hv : nd.vals[j]? = some v) (ha : rd q1 = some a) (hb : rd q2 = some b) (o1 : h ≤ a.keys.length) (o2 : b.keys.length + 1 ≤ 2 * h - 1) :
  ∃ k1 v1, a.keys[a.keys.length - 1]? = some k1 ∧ a.vals[a.keys.length - 1]? = some v1 ∧ ∀ rd', rd' q1 = some a.cutL → rd' q2 = some (b.addF k v (a.kids.drop a.keys.length)) → rd' q = some ⟨nd.keys.set j k1, nd.vals.set j v1, nd.kids⟩ → (∀ i ∈ PM, i ≠ q1 → i ≠ q2 → i ≠ q → rd' i = rd i) →
   ∃ PM', Tr rd' h (d + 1) q M PM' ∧ PM'.Perm PM := by
 obtain ⟨n', P', g1, g2, g3, g4, g5, rfl⟩ := t
 rw [hn] at g1; cases g1
 have hq := List.nodup_cons.1 hd
 obtain ⟨A, PA, M1, P1, M2, P2, B, PB, f1, f2, f3, f4, rfl, rfl⟩ := g5.pair h1 h2 (kvs_at g2 hk hv)
 have hnd := List.nodup_append.1 hq.2
 have hnd2 := List.nodup_append.1 hnd.1
 have m1 : q1 ∈ P1 := f2.1.root_mem
 have m2 : q2 ∈ P2 := f3.1.root_mem
 have hA : ∀ i ∈ PA, i ≠ q1 ∧ i ≠ q2 := fun i hi => ⟨fun e => hnd2.2.2 i hi q1 (by simp [m1]) e, fun e => hnd2.2.2 i hi q2 (by simp [m2]) e⟩
 have hB : ∀ i ∈ PB, i ≠ q1 ∧ i ≠ q2 := fun i hi => ⟨fun e => hnd.2.2 q1 (by simp [m1]) i hi e.symm, fun e => hnd.2.2 q2 (by simp [m2]) i hi e.symm⟩
 have hvl : a.vals.length = a.keys.length := by
  obtain ⟨n', w1, w2, -⟩ := f2.1.node
  rw [ha] at w1; cases w1; exact w2
 obtain ⟨k1, hk1⟩ : ∃ k1, a.keys[a.keys.length - 1]? = some k1 := ⟨_, List.getElem?_eq_getElem (by omega)⟩
 obtain ⟨v1, hv1⟩ : ∃ v1, a.vals[a.keys.length - 1]? = some v1 := ⟨_, List.getElem?_eq_getElem (by omega)⟩
 refine ⟨k1, v1, hk1, hv1, fun rd' e1 e2 e3 e4 => ?_⟩
 have hne : ∀ i ∈ PA ++ (P1 ++ P2) ++ PB, i ≠ q := fun i hi e => hq.1 (e ▸ hi)
 obtain ⟨k2, v2, M1', M2', P1', P2', w1, w2, w3, w4, w5, w6⟩ := Tr.fromLeft (rd' := rd') (k := k) (v := v) f2 f3 ha hb hh o1 o2 e1 e2 (fun i hi i1 i2 => e4 i (by simp only [List.mem_cons, List.mem_append] at hi ⊢; rcases hi with hi | hi <;> simp [hi]) i1 i2 (hne i (by simp only [List.mem_append] at hi ⊢; rcases hi with hi | hi <;> simp [hi]))) hnd2.2.1
 rw [hk1] at w1; cases w1
 rw [hv1] at w2; cases w2
 have f1' : Pre (fun q L P => Tr rd' h d q L P ∧ h - 1 ≤ nk rd' q) (nd.kids.take j) (nd.kvs.take j) A PA := f1.mono fun c M Q hc hQ => Tc.frame hc fun i hi => e4 i (by simp [hQ i hi]) (hA i (hQ i hi)).1 (hA i (hQ i hi)).2 (hne i (by simp [hQ i hi]))
 have f4' : Suf (fun q L P => Tr rd' h d q L P ∧ h - 1 ≤ nk rd' q) (nd.kids.drop (j + 2)) (nd.kvs.drop (j + 1)) B PB := f4.mono fun c M Q hc hQ => Tc.frame hc fun i hi => e4 i (by simp [hQ i hi]) (hB i (hQ i hi)).1 (hB i (hQ i hi)).2 (hne i (by simp [hQ i hi]))
 have hf := Fr.repair (s := (k1, v1)) h1 h2 (by rw [kvs_len g2]; exact (List.getElem?_eq_some_iff.1 hk).1) f1' w3 w4 f4'
 refine ⟨q :: (PA ++ (P1' ++ P2') ++ PB), ⟨_, _, e3, by simp only [List.length_set]; exact g2, by simp only [List.length_set]; exact g3, by simp only [List.length_set]; exact g4, ?_, rfl⟩, ((w6.append_left PA).append_right PB).cons q⟩
 rw [kvs_set2 g2 hk hv, w5]
 exact hf
end
end Go.Proofs.YtpkkcicaeldodaaGreatDoor

namespace Go.Proofs.YtpkkcicaeldodaaGreatDoor

section
variable {rd rd' : Nat → Option Nd} {h d q q1 q2 j : Nat} {M : List KV} {PM : List Nat} {nd a b : Nd} {k v : Int}
theorem Tr.right (t : Tr rd h (d + 1) q M PM) (hn : rd q = some nd) (hd : PM.Nodup) (hh : 2 ≤ h) (h1 : nd.kids[j]? = some q1) (h2 : nd.kids[j + 1]? = some q2) (hk : nd.keys[j]? = some k) (hv : nd.vals[j]? = some v) (ha : rd q1 = some a) (hb : rd q2 = some b) (o1 : h ≤ b.keys.length) (o2 : a.keys.length + 1 ≤ 2 * h - 1) :
  ∃ k1 v1, b.keys[0]? = some k1 ∧ b.vals[0]? = some v1 ∧ ∀ rd', rd' q1 = some (a.addL k v (b.kids.take 1)) → rd' q2 = some b.cutF → rd' q = some ⟨nd.keys.set j k1, nd.vals.set j v1, nd.kids⟩ → (∀ i ∈ PM, i ≠ q1 → i ≠ q2 → i ≠ q → rd' i = rd i) →
   ∃ PM', Tr rd' h (d + 1) q M PM' ∧ PM'.Perm PM := by
 obtain ⟨n', P', g1, g2, g3, g4, g5, rfl⟩ := t
 rw [hn] at g1; cases g1
 have hq := List.nodup_cons.1 hd
 obtain ⟨A, PA, M1, P1, M2, P2, B, PB, f1, f2, f3, f4, rfl, rfl⟩ := g5.pair h1 h2 (kvs_at g2 hk hv)
 have hnd := List.nodup_append.1 hq.2
 have hnd2 := List.nodup_append.1 hnd.1
 have m1 : q1 ∈ P1 := f2.1.root_mem
 have m2 : q2 ∈ P2 := f3.1.root_mem
 have hA : ∀ i ∈ PA, i ≠ q1 ∧ i ≠ q2 := fun i hi => ⟨fun e => hnd2.2.2 i hi q1 (by simp [m1]) e, fun e => hnd2.2.2 i hi q2 (by simp [m2]) e⟩
 have hB : ∀ i ∈ PB, i ≠ q1 ∧ i ≠ q2 := fun i hi => ⟨fun e => hnd.2.2 q1 (by simp [m1]) i hi e.symm, fun e => hnd.2.2 q2 (by simp [m2]) i hi e.symm⟩
 have hvl : b.vals.length = b.keys.length := by
  obtain ⟨n', w1, w2, -⟩ := f3.1.node
  rw [hb] at w1; cases w1; exact w2
 obtain ⟨k1, hk1⟩ : ∃ k1, b.keys[0]? = some k1 := ⟨_, List.getElem?_eq_getElem (by omega)⟩
 obtain ⟨v1, hv1⟩ : ∃ v1, b.vals[0]? = some v1 := ⟨_, List.getElem?_eq_getElem (by omega)⟩
 refine ⟨k1, v1, hk1, hv1, fun rd' e1 e2 e3 e4 => ?_⟩
 have hne : ∀ i ∈ PA ++ (P1 ++ P2) ++ PB, i ≠ q := fun i hi e => hq.1 (e ▸ hi)
 obtain ⟨k2, v2, M1', M2', P1', P2', w1, w2, w3, w4, w5, w6⟩ := Tr.fromRight (rd' := rd') (k := k) (v := v) f2 f3 ha hb hh o1 o2 e1 e2 (fun i hi i1 i2 => e4 i (by simp only [List.mem_cons, List.mem_append] at hi ⊢; rcases hi with hi | hi <;> simp [hi]) i1 i2 (hne i (by simp only [List.mem_append] at hi ⊢; rcases hi with hi | hi <;> simp [hi]))) hnd2.2.1
 rw [hk1] at w1; cases w1
 rw [hv1] at w2; cases w2
 have f1' : Pre (fun q L P => Tr rd' h d q L P ∧ h - 1 ≤ nk rd' q) (nd.kids.take j) (nd.kvs.take j) A PA := f1.mono fun c M Q hc hQ => Tc.frame hc fun i hi => e4 i (by simp [hQ i hi]) (hA i (hQ i hi)).1 (hA i (hQ i hi)).2 (hne i (by simp [hQ i hi]))
 have f4' : Suf (fun q L P => Tr rd' h d q L P ∧ h - 1 ≤ nk rd' q) (nd.kids.drop (j + 2)) (nd.kvs.drop (j + 1)) B PB := f4.mono fun c M Q hc hQ => Tc.frame hc fun i hi => e4 i (by simp [hQ i hi]) (hB i (hQ i hi)).1 (hB i (hQ i hi)).2 (hne i (by simp [hQ i hi]))
 have hf := Fr.repair (s := (k1, v1)) h1 h2 (by rw [kvs_len g2]; exact (List.getElem?_eq_some_iff.1 hk).1) f1' w3 w4 f4'
 refine ⟨q :: (PA ++ (P1' ++ P2') ++ PB), ⟨_, _, e3, by simp only [List.length_set]; exact g2, by simp only [List.length_set]; exact g3, by simp only [List.length_set]; exact g4, ?_, rfl⟩, ((w6.append_left PA).append_right PB).cons q⟩
 rw [kvs_set2 g2 hk hv, w5]
 exact hf
theorem Tr.merged (t : Tr rd h (d + 1) q M PM) (hn : rd q = some nd) (hd : PM.Nodup) (hh : 2 ≤ h) (h1 : nd.kids[j]? = some q1) (h2 : nd.kids[j + 1]? = some q2) (hk : nd.keys[j]? = some k) (hv : nd.vals[j]? = some v) (ha : rd q1 = some a) (hb : rd q2 = some b) (o : a.keys.length + b.keys.length + 1 ≤ 2 * h - 1) (h2k : 2 ≤ nd.keys.length) :
  ∀ rd', rd' q1 = some (a.one b k v) → rd' q = some ⟨nd.keys.eraseIdx j, nd.vals.eraseIdx j, nd.kids.eraseIdx (j + 1)⟩ → (∀ i ∈ PM, i ≠ q1 → i ≠ q2 → i ≠ q → rd' i = rd i) →
   ∃ PM', Tr rd' h (d + 1) q M PM' ∧ (q2 :: PM').Perm PM := by
 obtain ⟨n', P', g1, g2, g3, g4, g5, rfl⟩ := t
 rw [hn] at g1; cases g1
 have hq := List.nodup_cons.1 hd
 obtain ⟨A, PA, M1, P1, M2, P2, B, PB, f1, f2, f3, f4, rfl, rfl⟩ := g5.pair h1 h2 (kvs_at g2 hk hv)
 have hnd := List.nodup_append.1 hq.2
 have hnd2 := List.nodup_append.1 hnd.1
 have m1 : q1 ∈ P1 := f2.1.root_mem
 have m2 : q2 ∈ P2 := f3.1.root_mem
 have hA : ∀ i ∈ PA, i ≠ q1 ∧ i ≠ q2 := fun i hi => ⟨fun e => hnd2.2.2 i hi q1 (by simp [m1]) e, fun e => hnd2.2.2 i hi q2 (by simp [m2]) e⟩
 have hB : ∀ i ∈ PB, i ≠ q1 ∧ i ≠ q2 := fun i hi => ⟨fun e => hnd.2.2 q1 (by simp [m1]) i hi e.symm, fun e => hnd.2.2 q2 (by simp [m2]) i hi e.symm⟩
 intro rd' e1 e3 e4
 have hjl := (List.getElem?_eq_some_iff.1 hk).1
 have hne : ∀ i ∈ PA ++ (P1 ++ P2) ++ PB, i ≠ q := fun i hi e => hq.1 (e ▸ hi)
 obtain ⟨PX, w1, w2⟩ := Tr.merge (rd' := rd') (k := k) (v := v) f2 f3 ha hb o e1 (fun i hi i1 i2 => e4 i (by simp only [List.mem_cons, List.mem_append] at hi ⊢; rcases hi with hi | hi <;> simp [hi]) i1 i2 (hne i (by simp only [List.mem_append] at hi ⊢; rcases hi with hi | hi <;> simp [hi]))) hnd2.2.1
 have oa : h - 1 ≤ a.keys.length := by have := f2.2; rwa [nk_eq ha] at this
 have ho : h - 1 ≤ nk rd' q1 := by rw [nk_eq e1]; simp only [Nd.one, List.length_append, List.length_cons]; omega
 have f1' : Pre (fun q L P => Tr rd' h d q L P ∧ h - 1 ≤ nk rd' q) (nd.kids.take j) (nd.kvs.take j) A PA := f1.mono fun c M Q hc hQ => Tc.frame hc fun i hi => e4 i (by simp [hQ i hi]) (hA i (hQ i hi)).1 (hA i (hQ i hi)).2 (hne i (by simp [hQ i hi]))
 have f4' : Suf (fun q L P => Tr rd' h d q L P ∧ h - 1 ≤ nk rd' q) (nd.kids.drop (j + 2)) (nd.kvs.drop (j + 1)) B PB := f4.mono fun c M Q hc hQ => Tc.frame hc fun i hi => e4 i (by simp [hQ i hi]) (hB i (hQ i hi)).1 (hB i (hQ i hi)).2 (hne i (by simp [hQ i hi]))
 have hf := Fr.joined h1 h2 f1' ⟨w1, ho⟩ f4'
 have lk : (nd.keys.eraseIdx j).length = nd.keys.length - 1 := List.length_eraseIdx_of_lt hjl
 have lv : (nd.vals.eraseIdx j).length = nd.vals.length - 1 := List.length_eraseIdx_of_lt (by omega)
 have ek : Nd.kvs ⟨nd.keys.eraseIdx j, nd.vals.eraseIdx j, nd.kids.eraseIdx (j + 1)⟩ = nd.kvs.eraseIdx j := by
  unfold Nd.kvs
  simp only [List.eraseIdx_eq_take_drop_succ]
  rw [List.zip_append (by rw [List.length_take, List.length_take]; omega), zip_take, zip_drop]
 refine ⟨q :: (PA ++ (q1 :: PX) ++ PB), ⟨_, _, e3, by simp only; omega, by simp only; omega, by simp only; omega, ?_, rfl⟩, ?_⟩
 ·rw [ek]; exact hf
 ·have s1 : (PA ++ (q1 :: q2 :: PX) ++ PB).Perm (PA ++ (P1 ++ P2) ++ PB) := (w2.append_left PA).append_right PB
  have s2 : (q2 :: (PA ++ (q1 :: PX) ++ PB)).Perm (PA ++ (q1 :: q2 :: PX) ++ PB) := by
   have := List.perm_middle (l₁ := PA ++ [q1]) (a := q2) (l₂ := PX ++ PB)
   have h9 := this.symm
   simpa using h9
  exact (List.Perm.swap q q2 _).trans ((s2.trans s1).cons q)
end
end Go.Proofs.YtpkkcicaeldodaaGreatDoor

namespace Go.Proofs.YtpkkcicaeldodaaGreatDoor

section
variable {rd rd' : Nat → Option Nd} {h d q q1 q2 : Nat} {M : List KV} {PM : List Nat} {nd a b : Nd} {k v : Int}
theorem Tr.shrink (t : Tr rd h (d + 1) q M PM) (hn : rd q = some nd) (hd : PM.Nodup) (h1 : nd.kids[0]? = some q1) (h2 : nd.kids[1]? = some q2) (hk : nd.keys = [k]) (hv : nd.vals = [v]) (ha : rd q1 = some a) (hb : rd q2 = some b) (o : a.keys.length + b.keys.length + 1 ≤ 2 * h - 1) :
  ∀ rd', rd' q = some (a.one b k v) → (∀ i ∈ PM, i ≠ q1 → i ≠ q2 → i ≠ q → rd' i = rd i) →
   ∃ PM', Tr rd' h d q M PM' ∧ (q1 :: q2 :: PM').Perm PM := by
 obtain ⟨n', P', g1, g2, g3, g4, g5, rfl⟩ := t
 rw [hn] at g1; cases g1
 have hq := List.nodup_cons.1 hd
 have hkv : nd.kvs = [(k, v)] := by unfold Nd.kvs; rw [hk, hv]; rfl
 have hl := g5.len
 rw [hkv] at hl
 obtain ⟨A, PA, M1, P1, M2, P2, B, PB, f1, f2, f3, f4, rfl, rfl⟩ := g5.pair h1 h2 (s := (k, v)) (by rw [hkv]; rfl)
 rw [hkv] at f1 f4
 have hA : A = [] ∧ PA = [] := by
  rw [List.take_zero] at f1
  cases f1
  exact ⟨rfl, rfl⟩
 have hB : B = [] ∧ PB = [] := by
  have e : nd.kids.drop (0 + 2) = [] := List.drop_eq_nil_of_le (by simp at hl; omega)
  rw [e] at f4
  cases f4
  exact ⟨rfl, rfl⟩
 obtain ⟨rfl, rfl⟩ := hA
 obtain ⟨rfl, rfl⟩ := hB
 simp only [List.nil_append, List.append_nil] at hq hd ⊢
 intro rd' e1 e4
 have hne : ∀ i ∈ P1 ++ P2, i ≠ q := fun i hi e => hq.1 (e ▸ hi)
 obtain ⟨PX, w1, w2⟩ := Tr.merge (rd' := rd') (k := k) (v := v) f2 f3 ha hb o e1 (fun i hi i1 i2 => e4 i (List.mem_cons_of_mem _ hi) i1 i2 (hne i hi)) hq.2
 refine ⟨q :: PX, w1, ?_⟩
 have s : (q1 :: q2 :: q :: PX).Perm (q :: q1 :: q2 :: PX) := by
  have := List.perm_middle (l₁ := [q1, q2]) (a := q) (l₂ := PX)
  simpa using this
 exact s.trans (w2.cons q)
end
end Go.Proofs.YtpkkcicaeldodaaGreatDoor

namespace Go.Proofs.YtpkkcicaeldodaaGreatDoor

theorem last_split {L : List KV} {y : KV} (h : L.getLast? = some y) : ∃ L', L = L' ++ [y] := by
 obtain ⟨hne, e⟩ := List.getLast?_eq_some_iff.1 h
 exact ⟨hne, e⟩
section
variable {rd rd' : Nat → Option Nd} {h D root : Nat} {R : List KV} {P : List Nat} {k v : Int} {d q q1 q2 j : Nat} {nd na : Nd} {A M B : List KV} {P1 PM P2 : List Nat}
theorem DelAt.pred (a : DelAt rd h D root R P k (d + 1) q nd A M B P1 PM P2) (h1 : nd.kids[j]? = some q1) (h2 : nd.kids[j + 1]? = some q2) (hk : nd.keys[j]? = some k) (hv : nd.vals[j]? = some v) (ha : rd q1 = some na) :
  ∃ M1 Q1, Tc rd h d q1 M1 Q1 ∧ Srt M1 ∧ ∀ k' v' rd', M1.getLast? = some (k', v') → rd' q = some ⟨nd.keys.set j k', nd.vals.set j v', nd.kids⟩ → (∀ i ∈ P, i ≠ q → rd' i = rd i) →
   ∃ A' B' P1' P2', DelAt rd' h D root R P k' d q1 na A' M1 B' P1' Q1 P2' := by
 obtain ⟨n', P', g1, g2, g3, g4, g5, e0⟩ := a.tr
 rw [a.nd] at g1; cases g1
 obtain ⟨A0, PA, M1, Q1, M2, Q2, B0, PB, f1, f2, f3, f4, rfl, rfl⟩ := g5.pair h1 h2 (kvs_at g2 hk hv)
 have hsM : Srt M1 := a.srt.sub (((List.sublist_append_left M1 _).trans (List.sublist_append_right A0 _)).trans (List.sublist_append_left _ B0))
 refine ⟨M1, Q1, f2, hsM, fun k' v' rd' hl e3 e4 => ?_⟩
 obtain ⟨M1', hM1⟩ := last_split hl
 have hnod := a.nod
 rw [a.p, e0] at hnod
 have hPq : ∀ i ∈ PA ++ (Q1 ++ Q2) ++ PB, i ≠ q := by
  have h9 := (List.nodup_append.1 (List.nodup_append.1 hnod).1).2.1
  exact fun i hi e => (List.nodup_cons.1 h9).1 (e ▸ hi)
 have hP1q : ∀ i ∈ P1, i ≠ q := fun i hi e => (List.nodup_append.1 (List.nodup_append.1 hnod).1).2.2 i hi q List.mem_cons_self e
 have hP2q : ∀ i ∈ P2, i ≠ q := fun i hi e => (List.nodup_append.1 hnod).2.2 q (by simp) i hi e.symm
 have hmem : ∀ i ∈ PA ++ (Q1 ++ Q2) ++ PB, i ∈ P := fun i hi => by rw [a.p, e0]; exact List.mem_append_left _ (List.mem_append_right _ (List.mem_cons_of_mem _ hi))
 have hle := a.le
 have hq1 : rd' q1 = rd q1 := e4 q1 (hmem q1 (by simp [f2.1.root_mem])) (hPq q1 (by simp [f2.1.root_mem]))
 refine ⟨A ++ A0, (k', v') :: (M2 ++ B0 ++ B), P1 ++ q :: PA, Q2 ++ PB ++ P2, hq1.trans ha, f2.1.frame fun i hi => e4 i (hmem i (by simp [hi])) (hPq i (by simp [hi])), .inl (by unfold nk; rw [hq1]; exact f2.2), fun rd2 M' PM2 w1 w2 w3 w4 => ?_, hsM, ?_, ?_, a.nod, ⟨v', by rw [hM1]; simp⟩, by omega, fun e => by omega⟩
 ·have hrq : rd2 q = rd' q := w1 q (by simp)
  have f1' : Pre (fun q L P => Tr rd2 h d q L P ∧ h - 1 ≤ nk rd2 q) (nd.kids.take j) (nd.kvs.take j) A0 PA := f1.mono fun c M Q hc hQ => Tc.frame hc fun i hi => (w1 i (by simp [hQ i hi])).trans (e4 i (hmem i (by simp [hQ i hi])) (hPq i (by simp [hQ i hi])))
  have f3' : Tc rd2 h d q2 M2 Q2 := Tc.frame f3 fun i hi => (w2 i (by simp [hi])).trans (e4 i (hmem i (by simp [hi])) (hPq i (by simp [hi])))
  have f4' : Suf (fun q L P => Tr rd2 h d q L P ∧ h - 1 ≤ nk rd2 q) (nd.kids.drop (j + 2)) (nd.kvs.drop (j + 1)) B0 PB := f4.mono fun c M Q hc hQ => Tc.frame hc fun i hi => (w2 i (by simp [hQ i hi])).trans (e4 i (hmem i (by simp [hQ i hi])) (hPq i (by simp [hQ i hi])))
  have hf := Fr.repair (s := (k', v')) h1 h2 (by rw [kvs_len g2]; exact (List.getElem?_eq_some_iff.1 hk).1) f1' ⟨w3, w4.resolve_right (by omega)⟩ f3' f4'
  rw [← kvs_set2 g2 hk hv] at hf
  have hnq := hrq.trans e3
  have ht : Tr rd2 h (d + 1) q (A0 ++ (M' ++ (k', v') :: M2) ++ B0) (q :: (PA ++ (PM2 ++ Q2) ++ PB)) := ⟨_, _, hnq, by simp only [List.length_set]; exact g2, by simp only [List.length_set]; exact g3, by simp only [List.length_set]; exact g4, hf, rfl⟩
  have := a.plug rd2 _ _ (fun i hi => (w1 i (by simp [hi])).trans (e4 i (by rw [a.p]; simp [hi]) (hP1q i hi))) (fun i hi => (w2 i (by simp [hi])).trans (e4 i (by rw [a.p]; simp [hi]) (hP2q i hi))) ht (by
   rcases a.occ with e | e
   ·left; rw [nk_eq hnq]; rw [nk_eq a.nd] at e; simp only [List.length_set]; exact e
   ·exact .inr e)
  simpa using this
 ·have hs := a.srt
  have e5 : A0 ++ (M1 ++ (k, v) :: M2) ++ B0 = (A0 ++ M1) ++ (k, v) :: (M2 ++ B0) := by simp
  rw [e5] at hs
  rw [a.res, e5, delL_at hs]
  have h6 : delL M1 k' = M1' := by
   rw [hM1] at hsM ⊢
   have := delL_at (y := (k', v')) hsM
   simpa using this
  rw [h6, hM1]
  simp
 ·rw [a.p, e0]; simp
end
end Go.Proofs.YtpkkcicaeldodaaGreatDoor

namespace Go.Proofs.YtpkkcicaeldodaaGreatDoor

section
variable {rd rd' : Nat → Option Nd} {h D root : Nat} {R : List KV} {P : List Nat} {k v : Int} {d q q1 q2 j : Nat} {nd na : Nd} {A M B : List KV} {P1 PM P2 : List Nat}
theorem DelAt.succ (a : DelAt rd h D root R P k (d + 1) q nd A M B P1 PM P2) (h1 : nd.kids[j]? = some q1) (h2 : nd.kids[j + 1]? = some q2) (hk : nd.keys[j]? = some k) (hv : nd.vals[j]? = some v) (ha : rd q2 = some na) :
  ∃ M2 Q2, Tc rd h d q2 M2 Q2 ∧ Srt M2 ∧ ∀ k' v' rd', M2.head? = some (k', v') → rd' q = some ⟨nd.keys.set j k', nd.vals.set j v', nd.kids⟩ → (∀ i ∈ P, i ≠ q → rd' i = rd i) →
   ∃ A' B' P1' P2', DelAt rd' h D root R P k' d q2 na A' M2 B' P1' Q2 P2' := by
 obtain ⟨n', P', g1, g2, g3, g4, g5, e0⟩ := a.tr
 rw [a.nd] at g1; cases g1
 obtain ⟨A0, PA, M1, Q1, M2, Q2, B0, PB, f1, f2, f3, f4, rfl, rfl⟩ := g5.pair h1 h2 (kvs_at g2 hk hv)
 have hsM : Srt M2 := a.srt.sub ((((List.sublist_cons_self _ M2).trans (List.sublist_append_right M1 _)).trans (List.sublist_append_right A0 _)).trans (List.sublist_append_left _ B0))
 refine ⟨M2, Q2, f3, hsM, fun k' v' rd' hl e3 e4 => ?_⟩
 obtain ⟨M2', hM2⟩ : ∃ M2', M2 = (k', v') :: M2' := by
  cases M2 with
  | nil => cases hl
  | cons y t => cases hl; exact ⟨t, rfl⟩
 have hnod := a.nod
 rw [a.p, e0] at hnod
 have hPq : ∀ i ∈ PA ++ (Q1 ++ Q2) ++ PB, i ≠ q := by
  have h9 := (List.nodup_append.1 (List.nodup_append.1 hnod).1).2.1
  exact fun i hi e => (List.nodup_cons.1 h9).1 (e ▸ hi)
 have hP1q : ∀ i ∈ P1, i ≠ q := fun i hi e => (List.nodup_append.1 (List.nodup_append.1 hnod).1).2.2 i hi q List.mem_cons_self e
 have hP2q : ∀ i ∈ P2, i ≠ q := fun i hi e => (List.nodup_append.1 hnod).2.2 q (by simp) i hi e.symm
 have hmem : ∀ i ∈ PA ++ (Q1 ++ Q2) ++ PB, i ∈ P := fun i hi => by rw [a.p, e0]; exact List.mem_append_left _ (List.mem_append_right _ (List.mem_cons_of_mem _ hi))
 have hle := a.le
 have hq2 : rd' q2 = rd q2 := e4 q2 (hmem q2 (by simp [f3.1.root_mem])) (hPq q2 (by simp [f3.1.root_mem]))
 refine ⟨A ++ A0 ++ M1 ++ [(k', v')], B0 ++ B, P1 ++ q :: (PA ++ Q1), PB ++ P2, hq2.trans ha, f3.1.frame fun i hi => e4 i (hmem i (by simp [hi])) (hPq i (by simp [hi])), .inl (by unfold nk; rw [hq2]; exact f3.2), fun rd2 M' PM2 w1 w2 w3 w4 => ?_, hsM, ?_, ?_, a.nod, ⟨v', by rw [hM2]; simp⟩, by omega, fun e => by omega⟩
 ·have hrq : rd2 q = rd' q := w1 q (by simp)
  have f1' : Pre (fun q L P => Tr rd2 h d q L P ∧ h - 1 ≤ nk rd2 q) (nd.kids.take j) (nd.kvs.take j) A0 PA := f1.mono fun c M Q hc hQ => Tc.frame hc fun i hi => (w1 i (by simp [hQ i hi])).trans (e4 i (hmem i (by simp [hQ i hi])) (hPq i (by simp [hQ i hi])))
  have f2' : Tc rd2 h d q1 M1 Q1 := Tc.frame f2 fun i hi => (w1 i (by simp [hi])).trans (e4 i (hmem i (by simp [hi])) (hPq i (by simp [hi])))
  have f4' : Suf (fun q L P => Tr rd2 h d q L P ∧ h - 1 ≤ nk rd2 q) (nd.kids.drop (j + 2)) (nd.kvs.drop (j + 1)) B0 PB := f4.mono fun c M Q hc hQ => Tc.frame hc fun i hi => (w2 i (by simp [hQ i hi])).trans (e4 i (hmem i (by simp [hQ i hi])) (hPq i (by simp [hQ i hi])))
  have hf := Fr.repair (s := (k', v')) h1 h2 (by rw [kvs_len g2]; exact (List.getElem?_eq_some_iff.1 hk).1) f1' f2' ⟨w3, w4.resolve_right (by omega)⟩ f4'
  rw [← kvs_set2 g2 hk hv] at hf
  have hnq := hrq.trans e3
  have ht : Tr rd2 h (d + 1) q (A0 ++ (M1 ++ (k', v') :: M') ++ B0) (q :: (PA ++ (Q1 ++ PM2) ++ PB)) := ⟨_, _, hnq, by simp only [List.length_set]; exact g2, by simp only [List.length_set]; exact g3, by simp only [List.length_set]; exact g4, hf, rfl⟩
  have := a.plug rd2 _ _ (fun i hi => (w1 i (by simp [hi])).trans (e4 i (by rw [a.p]; simp [hi]) (hP1q i hi))) (fun i hi => (w2 i (by simp [hi])).trans (e4 i (by rw [a.p]; simp [hi]) (hP2q i hi))) ht (by
   rcases a.occ with e | e
   ·left; rw [nk_eq hnq]; rw [nk_eq a.nd] at e; simp only [List.length_set]; exact e
   ·exact .inr e)
  simpa using this
 ·have hs := a.srt
  have e5 : A0 ++ (M1 ++ (k, v) :: M2) ++ B0 = (A0 ++ M1) ++ (k, v) :: (M2 ++ B0) := by simp
  rw [e5] at hs
  rw [a.res, e5, delL_at hs]
  have h6 : delL M2 k' = M2' := by
   rw [hM2] at hsM ⊢
   exact delL_at (A := []) (y := (k', v')) hsM
  rw [h6, hM2]
  simp
 ·rw [a.p, e0]; simp
end
end Go.Proofs.YtpkkcicaeldodaaGreatDoor

namespace Go.Proofs.YtpkkcicaeldodaaGreatDoor

theorem atI_set {l : List Int} {j : Nat} {a b k : Int} (h : l[j]? = some b) (e : a < k ↔ b < k) : atI (l.set j a) k = atI l k := by
 unfold atI
 have := countP_set' (fun x => decide (x < k)) a b l j h
 by_cases ha : a < k
 ·have hb := e.1 ha
  simp only [ha, hb, decide_true, if_true] at this
  omega
 ·have hb : ¬ b < k := fun hb => ha (e.2 hb)
  simp only [ha, hb, decide_false] at this
  simpa using this
theorem atI_erase {l : List Int} {j : Nat} {b k : Int} (h : l[j]? = some b) : atI l k = atI (l.eraseIdx j) k + if b < k then 1 else 0 := by
 unfold atI
 have e := at_split h
 rw [List.eraseIdx_eq_take_drop_succ]
 conv => lhs; rw [e]
 simp only [List.countP_append, List.countP_cons, List.countP_nil]
 by_cases hb : b < k <;> simp [hb] <;> omega
theorem set_free {l : List Int} {j : Nat} {a k : Int} (h : l.contains k = false) (e : a ≠ k) : (l.set j a).contains k = false := by
 cases hc : (l.set j a).contains k with
 | false => rfl
 | true =>
  rcases List.mem_or_eq_of_mem_set (List.contains_iff_mem.1 hc) with e2 | e2
  ·rw [List.contains_iff_mem.2 e2] at h; cases h
  ·exact absurd e2.symm e
theorem erase_free {l : List Int} {j : Nat} {k : Int} (h : l.contains k = false) : (l.eraseIdx j).contains k = false := by
 cases hc : (l.eraseIdx j).contains k with
 | false => rfl
 | true =>
  have := List.mem_of_mem_eraseIdx (List.contains_iff_mem.1 hc)
  rw [List.contains_iff_mem.2 this] at h; cases h
theorem erase_own {l : List Int} {j : Nat} {k : Int} (h : l[j]? = some k) (hs : l.Pairwise (· < ·)) : (l.eraseIdx j).contains k = false ∧ atI (l.eraseIdx j) k = j := by
 have e := at_split h
 have hl := (List.getElem?_eq_some_iff.1 h).1
 rw [e] at hs
 obtain ⟨h1, h2, h3⟩ := List.pairwise_append.1 hs
 obtain ⟨h4, h5⟩ := List.pairwise_cons.1 h2
 rw [List.eraseIdx_eq_take_drop_succ]
 have hlt : ∀ x ∈ l.take j, x < k := fun x hx => h3 x hx k List.mem_cons_self
 constructor
 ·cases hc : (l.take j ++ l.drop (j + 1)).contains k with
  | false => rfl
  | true =>
   rcases List.mem_append.1 (List.contains_iff_mem.1 hc) with e2 | e2
   ·have := hlt k e2; omega
   ·have := h4 k e2; omega
 ·unfold atI
  rw [List.countP_append, List.countP_eq_length.2 (fun x hx => by simpa using hlt x hx), List.countP_eq_zero.2 (fun x hx => by have := h4 x hx; simp; omega), List.length_take]
  omega
section
variable {rd rd' : Nat → Option Nd} {h d q q1 q2 j : Nat} {M : List KV} {PM : List Nat} {nd a b : Nd} {k v k1 : Int}
theorem Tr.kvs_sub (t : Tr rd h d q M PM) (hn : rd q = some nd) : nd.vals.length = nd.keys.length ∧ nd.kvs.Sublist M := by
 cases d with
 | zero => obtain ⟨nd', h1, h2, h3, h4, rfl, h6⟩ := t; rw [hn] at h1; cases h1; exact ⟨h3, List.Sublist.refl _⟩
 | succ d => obtain ⟨nd', P', h1, h2, h3, h4, h5, h6⟩ := t; rw [hn] at h1; cases h1; exact ⟨h2, h5.sub⟩
theorem Tr.key_mem (t : Tr rd h d q M PM) (hn : rd q = some nd) (hk : k ∈ nd.keys) : ∃ v, (k, v) ∈ M := by
 obtain ⟨h1, h2⟩ := t.kvs_sub hn
 rw [← kvs_keys h1] at hk
 obtain ⟨x, hx, rfl⟩ := List.mem_map.1 hk
 exact ⟨x.2, h2.subset hx⟩
theorem Tr.kid_occ (t : Tr rd h (d + 1) q M PM) (hn : rd q = some nd) (h1 : nd.kids[j]? = some q1) (ha : rd q1 = some a) : h - 1 ≤ a.keys.length := by
 obtain ⟨n', P', g1, g2, g3, g4, g5, rfl⟩ := t
 rw [hn] at g1; cases g1
 obtain ⟨M', Q, f1, -⟩ := g5.mem (List.mem_of_getElem? h1)
 have := f1.2
 rwa [nk_eq ha] at this
theorem Tr.around (t : Tr rd h (d + 1) q M PM) (hn : rd q = some nd) (hs : Srt M) (h1 : nd.kids[j]? = some q1) (h2 : nd.kids[j + 1]? = some q2) (hk : nd.keys[j]? = some k) (ha : rd q1 = some a) (hb : rd q2 = some b) : (∀ x ∈ a.keys, x < k) ∧ (∀ x ∈ b.keys, k < x) ∧ q1 ∈ PM ∧ q2 ∈ PM ∧ (PM.Nodup → q1 ≠ q2 ∧ q1 ≠ q ∧ q2 ≠ q) := by
 obtain ⟨n', P', g1, g2, g3, g4, g5, rfl⟩ := t
 rw [hn] at g1; cases g1
 obtain ⟨v, hv⟩ : ∃ v, nd.vals[j]? = some v := ⟨_, List.getElem?_eq_getElem (by have := (List.getElem?_eq_some_iff.1 hk).1; omega)⟩
 obtain ⟨A, PA, M1, P1, M2, P2, B, PB, f1, f2, f3, f4, rfl, rfl⟩ := g5.pair h1 h2 (kvs_at g2 hk hv)
 have m1 : q1 ∈ P1 := f2.1.root_mem
 have m2 : q2 ∈ P2 := f3.1.root_mem
 have s1 := (srt_app.1 (srt_app.1 hs).1).2.1
 obtain ⟨s2, s3, s4⟩ := srt_app.1 s1
 obtain ⟨s5, -⟩ := List.pairwise_cons.1 s3
 refine ⟨fun x hx => ?_, fun x hx => ?_, by simp [m1], by simp [m2], fun hd => ?_⟩
 ·obtain ⟨v', hm⟩ := f2.1.key_mem ha hx
  exact s4 _ hm _ List.mem_cons_self
 ·obtain ⟨v', hm⟩ := f3.1.key_mem hb hx
  exact s5 _ hm
 ·have hq := List.nodup_cons.1 hd
  have hnd2 := List.nodup_append.1 (List.nodup_append.1 hq.2).1
  exact ⟨fun e => (List.nodup_append.1 hnd2.2.1).2.2 q1 m1 q2 m2 e, fun e => hq.1 (by rw [← e]; simp [m1]), fun e => hq.1 (by rw [← e]; simp [m2])⟩
end
section
variable {rd rd' : Nat → Option Nd} {h D root : Nat} {R : List KV} {P : List Nat} {k : Int} {d q q1 q2 j : Nat} {nd a b : Nd} {A M B : List KV} {P1 PM P2 : List Nat} {kk vv : Int}
theorem DelAt.other (s : DelAt rd h D root R P k (d + 1) q nd A M B P1 PM P2) (h1 : nd.kids[j]? = some q1) (h2 : nd.kids[j + 1]? = some q2) (hk : nd.keys[j]? = some kk) (ha : rd q1 = some a) (hb : rd q2 = some b) (he : ∀ i ∈ P, i ≠ q1 → i ≠ q2 → i ≠ q → rd' i = rd i) :
  (∀ i ∈ PM, i ≠ q1 → i ≠ q2 → i ≠ q → rd' i = rd i) ∧ (∀ i ∈ P1, rd' i = rd i) ∧ (∀ i ∈ P2, rd' i = rd i) := by
 obtain ⟨e1, e2, e3, e4⟩ := s.apart
 obtain ⟨-, -, m1, m2, -⟩ := s.tr.around s.nd s.srt h1 h2 hk ha hb
 refine ⟨fun i hi => he i (by rw [s.p]; simp [hi]), fun i hi => he i (by rw [s.p]; simp [hi]) (fun e => ?_) (fun e => ?_) fun e => ?_, fun i hi => he i (by rw [s.p]; simp [hi]) (fun e => ?_) (fun e => ?_) fun e => ?_⟩
 ·exact e1 i hi (e ▸ m1)
 ·exact e1 i hi (e ▸ m2)
 ·exact e1 i hi (e ▸ e4)
 ·exact e2 i hi (e ▸ m1)
 ·exact e2 i hi (e ▸ m2)
 ·exact e2 i hi (e ▸ e4)
theorem DelAt.goes {nd' kd : Nd} {e : Nat} (s : DelAt rd h D root R P k (d + 1) q nd' A M B P1 PM P2) (hf : nd'.keys.contains k = false) (hi : nd'.kids[atI nd'.keys k]? = some e) (he : rd e = some kd) :
  ∃ A' M' B' P1' PM' P2', DelAt rd h D root R P k d e kd A' M' B' P1' PM' P2' := by
 obtain ⟨e', nd2, A', M', B', P1', PM', P2', g1, g2⟩ := s.down hf
 rw [hi] at g1; cases g1
 have := g2.nd
 rw [he] at this; cases this
 exact ⟨A', M', B', P1', PM', P2', g2⟩
theorem DelAt.fillL (s : DelAt rd h D root R P k (d + 1) q nd A M B P1 PM P2) (hf : nd.keys.contains k = false) (hi : atI nd.keys k = j + 1) (h1 : nd.kids[j]? = some q1) (h2 : nd.kids[j + 1]? = some q2) (hk : nd.keys[j]? = some kk) (hv : nd.vals[j]? = some vv) (ha : rd q1 = some a) (hb : rd q2 = some b) (hh : 2 ≤ h) (o1 : h ≤ a.keys.length) (o2 : b.keys.length + 1 ≤ 2 * h - 1) :
  ∃ k1 v1, a.keys[a.keys.length - 1]? = some k1 ∧ a.vals[a.keys.length - 1]? = some v1 ∧ ∀ rd', rd' q1 = some a.cutL → rd' q2 = some (b.addF kk vv (a.kids.drop a.keys.length)) → rd' q = some ⟨nd.keys.set j k1, nd.vals.set j v1, nd.kids⟩ → (∀ i ∈ P, i ≠ q1 → i ≠ q2 → i ≠ q → rd' i = rd i) →
   ∃ P' A' M' B' P1' PM' P2', P'.Perm P ∧ DelAt rd' h D root R P' k d q2 (b.addF kk vv (a.kids.drop a.keys.length)) A' M' B' P1' PM' P2' := by
 obtain ⟨-, -, e3, e4⟩ := s.apart
 obtain ⟨r1, r2, -, -, -⟩ := s.tr.around s.nd s.srt h1 h2 hk ha hb
 obtain ⟨k1, v1, w1, w2, w3⟩ := s.tr.left s.nd e3 hh h1 h2 hk hv ha hb o1 o2
 refine ⟨k1, v1, w1, w2, fun rd' g1 g2 g3 g4 => ?_⟩
 obtain ⟨x1, x2, x3⟩ := s.other h1 h2 hk ha hb g4
 obtain ⟨PM', t, hp⟩ := w3 rd' g1 g2 g3 x1
 have hpp : (P1 ++ PM' ++ P2).Perm P := by rw [s.p]; exact (hp.append_left P1).append_right P2
 have s2 := s.same g3 t (by
  rcases s.occ with e | e
  ·left; rw [nk_eq s.nd] at e; simp only [List.length_set]; exact e
  ·exact .inr e) x2 x3 (hpp.nodup_iff.2 s.nod)
 have hkk : kk < k := (atI_split nd.keys k (s.tr.keys s.nd s.srt)).1 kk (by
  rw [hi]
  exact List.mem_of_getElem? (show (nd.keys.take (j + 1))[j]? = some kk by rw [List.getElem?_take, if_pos (by omega)]; exact hk))
 have hk1 := r1 k1 (List.mem_of_getElem? w1)
 have ei : atI (nd.keys.set j k1) k = j + 1 := by rw [atI_set hk ⟨fun _ => hkk, fun _ => by omega⟩, hi]
 obtain ⟨A', M', B', P1', PM2, P2', s3⟩ := s2.goes (set_free hf (by omega)) (by rw [ei]; exact h2) g2
 exact ⟨_, A', M', B', P1', PM2, P2', hpp, s3⟩
theorem DelAt.fillR (s : DelAt rd h D root R P k (d + 1) q nd A M B P1 PM P2) (hf : nd.keys.contains k = false) (hi : atI nd.keys k = j) (h1 : nd.kids[j]? = some q1) (h2 : nd.kids[j + 1]? = some q2) (hk : nd.keys[j]? = some kk) (hv : nd.vals[j]? = some vv) (ha : rd q1 = some a) (hb : rd q2 = some b) (hh : 2 ≤ h) (o1 : h ≤ b.keys.length) (o2 : a.keys.length + 1 ≤ 2 * h - 1) :
  ∃ k1 v1, b.keys[0]? = some k1 ∧ b.vals[0]? = some v1 ∧ ∀ rd', rd' q1 = some (a.addL kk vv (b.kids.take 1)) → rd' q2 = some b.cutF → rd' q = some ⟨nd.keys.set j k1, nd.vals.set j v1, nd.kids⟩ → (∀ i ∈ P, i ≠ q1 → i ≠ q2 → i ≠ q → rd' i = rd i) →
   ∃ P' A' M' B' P1' PM' P2', P'.Perm P ∧ DelAt rd' h D root R P' k d q1 (a.addL kk vv (b.kids.take 1)) A' M' B' P1' PM' P2' := by
 obtain ⟨-, -, e3, e4⟩ := s.apart
 obtain ⟨r1, r2, -, -, -⟩ := s.tr.around s.nd s.srt h1 h2 hk ha hb
 obtain ⟨k1, v1, w1, w2, w3⟩ := s.tr.right s.nd e3 hh h1 h2 hk hv ha hb o1 o2
 refine ⟨k1, v1, w1, w2, fun rd' g1 g2 g3 g4 => ?_⟩
 obtain ⟨x1, x2, x3⟩ := s.other h1 h2 hk ha hb g4
 obtain ⟨PM', t, hp⟩ := w3 rd' g1 g2 g3 x1
 have hpp : (P1 ++ PM' ++ P2).Perm P := by rw [s.p]; exact (hp.append_left P1).append_right P2
 have s2 := s.same g3 t (by
  rcases s.occ with e | e
  ·left; rw [nk_eq s.nd] at e; simp only [List.length_set]; exact e
  ·exact .inr e) x2 x3 (hpp.nodup_iff.2 s.nod)
 have hkk : k < kk := atI_missed (s.tr.keys s.nd s.srt) hf kk (by
  rw [hi]
  exact List.mem_of_getElem? (show (nd.keys.drop j)[0]? = some kk by rw [List.getElem?_drop]; exact hk))
 have hk1 := r2 k1 (List.mem_of_getElem? w1)
 have ei : atI (nd.keys.set j k1) k = j := by rw [atI_set hk ⟨fun _ => by omega, fun _ => by omega⟩, hi]
 obtain ⟨A', M', B', P1', PM2, P2', s3⟩ := s2.goes (set_free hf (by omega)) (by rw [ei]; exact h1) g1
 exact ⟨_, A', M', B', P1', PM2, P2', hpp, s3⟩
theorem DelAt.merged (s : DelAt rd h D root R P k (d + 1) q nd A M B P1 PM P2) (hf : (nd.keys.eraseIdx j).contains k = false) (hi : atI (nd.keys.eraseIdx j) k = j) (h1 : nd.kids[j]? = some q1) (h2 : nd.kids[j + 1]? = some q2) (hk : nd.keys[j]? = some kk) (hv : nd.vals[j]? = some vv) (ha : rd q1 = some a) (hb : rd q2 = some b) (hh : 2 ≤ h) (o : a.keys.length + b.keys.length + 1 ≤ 2 * h - 1) (hl : h ≤ nd.keys.length ∨ d + 1 = D) (h2k : 2 ≤ nd.keys.length) :
  ∀ rd', rd' q1 = some (a.one b kk vv) → rd' q = some ⟨nd.keys.eraseIdx j, nd.vals.eraseIdx j, nd.kids.eraseIdx (j + 1)⟩ → (∀ i ∈ P, i ≠ q1 → i ≠ q2 → i ≠ q → rd' i = rd i) →
   ∃ P' A' M' B' P1' PM' P2', (q2 :: P').Perm P ∧ DelAt rd' h D root R P' k d q1 (a.one b kk vv) A' M' B' P1' PM' P2' := by
 obtain ⟨-, -, e3, e4⟩ := s.apart
 intro rd' g1 g3 g4
 obtain ⟨x1, x2, x3⟩ := s.other h1 h2 hk ha hb g4
 obtain ⟨PM', t, hp⟩ := s.tr.merged s.nd e3 hh h1 h2 hk hv ha hb o h2k rd' g1 g3 x1
 have hpp : (q2 :: (P1 ++ PM' ++ P2)).Perm P := by
  rw [s.p]
  have h9 : (q2 :: (P1 ++ (PM' ++ P2))).Perm (P1 ++ q2 :: (PM' ++ P2)) := List.perm_middle.symm
  have h8 : (P1 ++ q2 :: (PM' ++ P2)).Perm (P1 ++ PM ++ P2) := by
   have := (hp.append_left P1).append_right P2
   simpa [List.append_assoc] using this
  rw [List.append_assoc P1 PM' P2]
  exact h9.trans h8
 have hnd := (List.nodup_cons.1 (hpp.nodup_iff.2 s.nod)).2
 have hjl := (List.getElem?_eq_some_iff.1 hk).1
 have lk : (nd.keys.eraseIdx j).length = nd.keys.length - 1 := List.length_eraseIdx_of_lt hjl
 have s2 := s.same g3 t (hl.imp (fun e => by simp only; omega) id) x2 x3 hnd
 have h1l := (List.getElem?_eq_some_iff.1 h1).1
 obtain ⟨A', M', B', P1', PM2, P2', s3⟩ := s2.goes hf (by simp only; rw [hi, List.getElem?_eraseIdx, if_pos (by omega)]; exact h1) g1
 exact ⟨_, A', M', B', P1', PM2, P2', hpp, s3⟩
theorem DelAt.shrunk (s : DelAt rd h D root R P k (d + 1) q nd A M B P1 PM P2) (hd : d + 1 = D) (h1 : nd.kids[0]? = some q1) (h2 : nd.kids[1]? = some q2) (hk : nd.keys = [kk]) (hv : nd.vals = [vv]) (ha : rd q1 = some a) (hb : rd q2 = some b) (o : a.keys.length + b.keys.length + 1 ≤ 2 * h - 1) :
  q = root ∧ ∀ rd', rd' q = some (a.one b kk vv) → (∀ i ∈ P, i ≠ q1 → i ≠ q2 → i ≠ q → rd' i = rd i) →
   ∃ P', (q1 :: q2 :: P').Perm P ∧ DelAt rd' h d root R P' k d root (a.one b kk vv) [] M [] [] P' [] := by
 obtain ⟨-, -, e3, e4⟩ := s.apart
 obtain ⟨rfl, rfl, rfl, rfl, rfl⟩ := s.top hd
 refine ⟨rfl, fun rd' g1 g4 => ?_⟩
 obtain ⟨x1, x2, x3⟩ := s.other (j := 0) h1 h2 (by rw [hk]; rfl) ha hb g4
 obtain ⟨PM', t, hp⟩ := s.tr.shrink s.nd e3 h1 h2 hk hv ha hb o rd' g1 x1
 have hpp : (q1 :: q2 :: PM').Perm P := by rw [s.p]; simpa using hp
 have hnd := (List.nodup_cons.1 (List.nodup_cons.1 (hpp.nodup_iff.2 s.nod)).2).2
 obtain ⟨nd', s2⟩ := DelAt.start t s.srt hnd s.has
 have hr : R = delL M k := by rw [s.res]; simp
 rw [← hr] at s2
 have := s2.nd
 rw [g1] at this; cases this
 exact ⟨PM', hpp, s2⟩
end
end Go.Proofs.YtpkkcicaeldodaaGreatDoor

namespace Go.Proofs.YtpkkcicaeldodaaGreatDoor
open Go.RowKit Go.Maps

section
variable {W : World} {N : Nat → Prop} {vk vv vc : Value} {l : List Int} {lk lv lc : List Value} {i g : Nat} {a : Int}
def InK (W w' : World) (N : Nat → Prop) (vk vv vc : Value) (l : List Int) (lv lc : List Value) (i : Nat) (a : Int) (e : Ending) : Prop :=
 ∃ A c, e = .returned (.slice A (l.length + 1) c) ∧ Rws w' (fun j => N j ∨ (Value.slice A (l.length + 1) c).ownBlock = some j) (.slice A (l.length + 1) c) vv vc (iv (insI l i a)) lv lc ∧ Ap W w' vk (.slice A (l.length + 1) c)
def InV (W w' : World) (N : Nat → Prop) (vk vv vc : Value) (l : List Int) (lk lc : List Value) (i : Nat) (a : Int) (e : Ending) : Prop :=
 ∃ A c, e = .returned (.slice A (l.length + 1) c) ∧ Rws w' (fun j => N j ∨ (Value.slice A (l.length + 1) c).ownBlock = some j) vk (.slice A (l.length + 1) c) vc lk (iv (insI l i a)) lc ∧ Ap W w' vv (.slice A (l.length + 1) c)
theorem insK (h : Rws W N vk vv vc (iv l) lv lc) (hl : l.length ≤ 1000) (hi : i ≤ l.length) (hg : Blk W g 3 #[.int .i64 a]) (hne : vk.ownBlock ≠ some g) (hp : 1 ≤ W.heap.size) :
  Calls Tryz.prog 44 #[vk, .int .i64 i, .slice (some ⟨g, 0, none⟩) 1 1] W fun e w' => InK W w' N vk vv vc l lv lc i a e := by
 have hk := h.rk
 rw [iv_len] at hk
 refine (binsert_any 1 vk l i g a W hk (by omega) hi hg hne hp).mono ?_
 rintro e w' ⟨v', rfl, ho, ha⟩
 obtain ⟨A, c, rfl, -⟩ := own_shape ho
 exact ⟨A, c, rfl, h.setK ha (by rw [iv_len, insI_len a hi]; exact ho), ha⟩
theorem insV (h : Rws W N vk vv vc lk (iv l) lc) (hl : l.length ≤ 1000) (hi : i ≤ l.length) (hg : Blk W g 3 #[.int .i64 a]) (hne : vv.ownBlock ≠ some g) (hp : 1 ≤ W.heap.size) :
  Calls Tryz.prog 44 #[vv, .int .i64 i, .slice (some ⟨g, 0, none⟩) 1 1] W fun e w' => InV W w' N vk vv vc l lk lc i a e := by
 have hk := h.rv
 rw [iv_len] at hk
 refine (binsert_any 1 vv l i g a W hk (by omega) hi hg hne hp).mono ?_
 rintro e w' ⟨v', rfl, ho, ha⟩
 obtain ⟨A, c, rfl, -⟩ := own_shape ho
 exact ⟨A, c, rfl, h.setV ha (by rw [iv_len, insI_len a hi]; exact ho), ha⟩
end
end Go.Proofs.YtpkkcicaeldodaaGreatDoor

namespace Go.Proofs.YtpkkcicaeldodaaGreatDoor
open Go.RowKit Go.Maps
attribute [local go_sem] Oper.semAt_some

theorem gall_any (p : Nat) (w W : World) (hW : w.alloc (.cells #[.pointer (some ⟨p, 0, none⟩)] 25) = W) :
  Calls Tryz.prog 51 #[.pointer (some ⟨p, 0, none⟩)] w fun e w' => e = .returned (.func (.func 92) #[] #[.pointer (some ⟨w.heap.size, 0, none⟩)]) ∧ W = w' := by
 subst hW
 go_enter Tryz.func51, Tryz.ntmps51
 go_wp2
 go_ret
 exact ⟨rfl, rfl⟩

structure GallIn (W : World) (bb p : Nat) (cs : Array Value) (A : Option Addr) (c : Nat) (l : List Nat) : Prop where
 bb : Blk W bb 25 #[.pointer (some ⟨p, 0, none⟩)]
 p : Blk W p 101 cs
 t : Sl W 1 A l.length (nv l)

set_option maxRecDepth 100000 in
set_option maxHeartbeats 1600000 in
theorem gall_iter (bb p y : Nat) (cs : Array Value) (A : Option Addr) (c : Nat) (l : List Nat) (J Jx : Nat → World → Prop) (w : World) (hl : l.length ≤ 65536) (h4 : cs[4]? = some (.slice A l.length c))
  (hin : ∀ i W, J i W → GallIn W bb p cs A c l)
  (hyld : ∀ i W s, J i W → l[i]? = some s → s ≠ 0 → YieldAt Fence.wide 0 Tryz.prog y #[.int .i64 i] W (Rounded (J (i + 1)) (Jx (i + 1))))
  (hskip : ∀ i W, J i W → l[i]? = some 0 → J (i + 1) W) (h0 : J 0 w) :
  Calls Tryz.prog 92 #[.func (.yield y) #[] #[], .pointer (some ⟨bb, 0, none⟩)] w fun e w' => IterEnd (J l.length) (fun W => ∃ i, Jx i W) e w' := by
 have Hin := Lib.hid hin
 have Hyld := Lib.hid hyld
 have Hsk := Lib.hid hskip
 have H0 := Lib.hid h0
 obtain ⟨c0, f0, s0⟩ := (hin 0 w h0).bb.facts
 have cp4 := ((hin 0 w h0).p.cell 4).trans h4
 clear hin hyld h0 hskip
 (refine (callsIn_wide (n := 1)).1 (callsIn_of_wp Tryz.func92 rfl trivial ?_ rfl); simp only [Tryz.ntmps92, List.size_toArray, List.length_cons, List.length_nil, Nat.reduceAdd, Nat.reduceSub, Array.replicate_succ, Array.replicate_zero, List.push_toArray, List.append_toArray, List.nil_append, List.cons_append])
 gi_wp2
 clear c0 f0 s0 cp4
 gi_loopg [3, 4, 10] (l.length) (fun n a1 a2 v wr => ∃ i : Nat, n = l.length - i ∧ i ≤ l.length ∧ v = .int .i64 i ∧ J i wr)
 case atStart => exact ⟨0, by simp, by omega, rfl, H0.out⟩
 case round =>
  obtain ⟨i, rfl, hi, rfl, hJ⟩ := hrel
  have HJ := Lib.hid hJ
  have hI := Hin.out i wr hJ
  clear hJ
  by_cases hlt : i < l.length
  ·obtain ⟨s, hs⟩ : ∃ s, l[i]? = some s := ⟨_, List.getElem?_eq_getElem hlt⟩
   obtain ⟨g, off, rfl, hg, hx⟩ := hI.t.2 (by omega)
   have hc := hx i (.int .i64 s) (by simp [nv, hs])
   have u1 : (0 : Int) ≤ (i : Int) := by omega
   have u2 : (i : Int) < (l.length : Int) := by omega
   have HS := Lib.hid hs
   clear hx hs hI
   by_cases h0 : s = 0
   ·subst h0
    have HJ2 := Lib.hid (Hsk.out i wr HJ.out HS.out)
    gi_wp2
    refine ⟨fun _ h => (by cases h), ?_⟩
    gi_wp2
    gi_roundg (l.length - (i + 1))
    case measure => omega
    case rel => exact ⟨i + 1, rfl, by omega, by simp, HJ2.out⟩
   ·have e1 : ((s : Int) != 0) = true := by simpa using h0
    obtain ⟨fn, tmps, assign, body, hy, hR⟩ := Hyld.out i wr s HJ.out HS.out h0
    have HR := Lib.hid hR
    clear hR
    gi_wp2_with (refine HR.out.mono ?_; rintro e w4 (⟨rfl, hJ2⟩ | ⟨rfl, hJ2⟩) <;> have HJ2 := Lib.hid hJ2 <;> clear hJ2)
    ·gi_roundg (l.length - (i + 1))
     case measure => omega
     case rel => exact ⟨i + 1, rfl, by omega, by simp, HJ2.out⟩
    ·refine bodyPost_end (results_none rfl _ _ _) rfl ?_
     exact ⟨⟨_, rfl⟩, .inr ⟨_, HJ2.out⟩⟩
  ·obtain rfl : i = l.length := by omega
   clear hI
   gi_wp2
   refine bodyPost_end (results_none rfl _ _ _) rfl ?_
   exact ⟨⟨_, rfl⟩, .inl HJ.out⟩

def usedN (l : List Nat) (k : Nat) : Nat := cntN (fun j => l.getD j 0 != 0) k
theorem usedN_succ {l : List Nat} {i s : Nat} (h : l[i]? = some s) : usedN l (i + 1) = usedN l i + if s = 0 then 0 else 1 := by
 unfold usedN
 rw [cntN_succ, List.getD_eq_getElem?_getD, h]
 by_cases h0 : s = 0 <;> simp [h0]

structure UseJ (Wr W : World) (B L : Nat) (l : List Nat) (i : Nat) (r : Loop) (st : LoopState) (pe : Option Code) : Prop where
 chg : Chg (fun j => j = B ∨ j = L) Wr W
 blk : Blk W B 3 #[.int .i64 (usedN l i)]
 rc : Rec W L (Loop.at_ r st pe)
theorem UseJ.kept {Wr W W' : World} {B L i : Nat} {l : List Nat} {r : Loop} {st st' : LoopState} {pe pe' : Option Code} (h : UseJ Wr W B L l i r st pe) (hk : Kept L W W') (hR : Rec W' L (Loop.at_ r st' pe')) : UseJ Wr W' B L l i r st' pe' :=
 ⟨Chg.trans h.chg hk.chg fun i _ e => .inr e, h.blk.kept hk, hR⟩

set_option maxRecDepth 100000 in
set_option maxHeartbeats 3200000 in
theorem gusedn_any (p : Nat) (F : Nat → Prop) (X : Gp) (w : World) (h : GS w p F X) (hl : X.table.length ≤ 4096) :
  Calls Tryz.prog 18 #[.pointer (some ⟨p, 0, none⟩)] w fun e w' => e = .returned (.int .i64 (usedN X.table X.table.length)) ∧ Grew w w' := by
 obtain ⟨L0, d, b, A, ca, vp, vt, vo, h, hF⟩ := h
 obtain ⟨At, ct, rfl, -⟩ := own_shape h.tbl
 obtain ⟨bx, hbx⟩ : ∃ b, w.heap.size = b := ⟨_, rfl⟩
 obtain ⟨W1, hW1⟩ : ∃ W, w.alloc (.cells #[.int .i64 0] 3) = W := ⟨_, rfl⟩
 have HB1 := Lib.hid (show Blk W1 bx 3 #[.int .i64 0] from hW1 ▸ hbx ▸ Blk.new _ _ _)
 have HG1 := Lib.hid (show Grew w W1 from hW1 ▸ (Chg.refl _ _).alloc _)
 have HW1 := Lib.hid hW1
 obtain ⟨W6, hW6⟩ : ∃ W6, W1.alloc (.cells #[.pointer (some ⟨p, 0, none⟩)] 25) = W6 := ⟨_, rfl⟩
 have HB6 := Lib.hid (show Blk W6 W1.heap.size 25 #[.pointer (some ⟨p, 0, none⟩)] from hW6 ▸ Blk.new _ _ _)
 have HG6 := Lib.hid (show Grew W1 W6 from hW6 ▸ (Chg.refl _ _).alloc _)
 have HA := Lib.hid (gall_any p W1 W6 hW6)
 have H := Lib.hid (And.intro h hF)
 have Hbx := Lib.hid hbx
 clear h hF hW1 hW6 hbx
 (refine calls_of_marks Tryz.func18 rfl ?_; simp only [Tryz.ntmps18, List.size_toArray, List.length_cons, List.length_nil, Nat.reduceAdd, Nat.reduceSub, Array.replicate_succ, Array.replicate_zero, List.push_toArray, List.append_toArray, List.nil_append, List.cons_append])
 go_wp2_with fail
 rw [HW1.out, Hbx.out]
 refine HA.out.mono ?_
 rintro e w5 ⟨rfl, rfl⟩
 go_wp2_with fail
 have hz1 := HB1.out.lt
 have hz6 := HB6.out.lt
 have hbw := Hbx.out
 refine wp_range (gf := 92) (lb := #[.pointer (some ⟨W1.heap.size, 0, none⟩)]) rfl (enters_of Tryz.func92 (by kernel_rfl) rfl) ?_
 intro r Wr D L hr hg1 hDl hLl hD hR
 have HR1 := Lib.hid hr
 have hDL := Ne.symm (hR.ne_dfr hD)
 have hz7 := hg1.size
 have hL2 := hR.lt
 have hD2 := hD.lt
 have HGa := Lib.hid (Grew.trans (Grew.trans HG1.out HG6.out) hg1)
 have HBp := Lib.hid (HB6.out.grew hg1)
 have HPr := Lib.hid (H.out.1.grew HGa.out)
 have HJ0 := Lib.hid (show UseJ Wr Wr bx L X.table 0 r .ready none from ⟨Chg.refl _ _, (HB1.out.grew HG6.out).grew hg1, hR⟩)
 have HDf := Lib.hid hD
 have hlt := H.out.1.lt
 have HLT := Lib.hid hlt
 clear hr hg1 hD hR hlt
 refine (gall_iter W1.heap.size p L _ At ct X.table (fun i W => UseJ Wr W bx L X.table i r .ready none) (fun _ _ => False) Wr (by omega) ?h4
  (fun i W hJ => ⟨HBp.out.chg hJ.chg ?h1, HPr.out.blk.chg hJ.chg ?h2, (Sl.of_own HPr.out.tbl).chg hJ.chg ?h3⟩)
  (fun i W s hJ hx h0 => ?yld) (fun i W hJ hx => ?skp) HJ0.out).mono ?post
 case h4 => rfl
 case h1 => rintro (q | q) <;> omega
 case h2 => have := HLT.out p (by rw [H.out.1.lp]; omega); rintro (q | q) <;> omega
 case h3 => intro a ha; have := HLT.out a.block (by rw [H.out.1.lb a.block (by rw [ha]; rfl)]; omega); rintro (q | q) <;> omega
 case skp => exact ⟨hJ.chg, by rw [usedN_succ hx]; exact hJ.blk, hJ.rc⟩
 case yld =>
  have hil : i < X.table.length := (List.getElem?_eq_some_iff.1 hx).1
  have hus := usedN_succ hx
  rw [if_neg h0] at hus
  have hcl : usedN X.table i ≤ i := cntN_le _ _
  have HU := Lib.hid hus
  have HJ := Lib.hid hJ
  clear hx hJ hus
  obtain ⟨hr1, hr2, hr3', hr4⟩ := HR1.out
  refine yield_wide HJ.out.rc (by rw [hr2]; rfl) ?_
  rw [hr1, hr2, hr3', hr4]
  clear hr1 hr2 hr3' hr4
  intro K hK
  have HKK := Lib.hid hK
  clear hK
  gi_wp2
  refine HKK.out _ _ HJ.out.rc fun W5 Q hk3 hR2 hQ => ?_
  refine Code.wpIn_mono hQ ?_
  have HJ5 := Lib.hid (HJ.out.kept hk3 hR2)
  clear hk3 hR2 hQ Q
  obtain ⟨c1, f1, s1⟩ := HJ5.out.blk.facts
  gi_wp2
  obtain ⟨W8, hW8⟩ : ∃ W8, W5.setCell ⟨bx, 0, none⟩ (.int .i64 ((usedN X.table i : Int) + 1)) = W8 := ⟨_, rfl⟩
  rw [hW8]
  have HJ8 : UseJ Wr W8 bx L X.table (i + 1) r .busy none := by
   subst hW8
   refine ⟨HJ5.out.chg.setCell (p := ⟨bx, 0, none⟩) (fun _ => .inl rfl) _, ?_, HJ5.out.rc.chg ((Chg.refl (fun j => j = bx) W5).setCell (p := ⟨bx, 0, none⟩) (fun _ => rfl) _) (by omega)⟩
   have := HJ5.out.blk.put 0 (.int .i64 ((usedN X.table i : Int) + 1))
   rw [HU.out]
   simpa using this
  exact ⟨HJ8.rc, fun w' hk' hR' => .inl ⟨rfl, HJ8.kept hk' hR'⟩⟩
 case post =>
  rintro e w3' ⟨hv, hJ⟩
  refine ⟨hv, ?_⟩
  rcases hJ with hJ | ⟨i, hJ⟩
  rotate_left
  ·exact hJ.elim
  refine .inl ⟨hJ.rc, fun w4 hk4 => ?_⟩
  have HC4 := Lib.hid (Chg.trans hJ.chg hk4.chg fun i _ e => .inr e)
  have HB4 := Lib.hid (hJ.blk.kept hk4)
  clear hJ hk4
  have HD4 := Lib.hid (HDf.out.chg HC4.out (by rintro (e | e) <;> omega))
  have hcw4 := HC4.out.size
  have HGw := Lib.hid (show Grew w w4 from Chg.mono (Chg.trans (F := fun j => w.heap.size ≤ j) HGa.out.chg HC4.out fun i hi e => by rcases e with e | e <;> omega) fun i hi e => absurd e (by omega))
  obtain ⟨c1, f1, s1⟩ := HB4.out.facts
  go_wp2_with fail
  refine postM_ret1 (v := .int .i64 (usedN X.table X.table.length)) (D := D) HD4.out rfl fun w5 hk5 => ⟨?_, ?_⟩
  ·simp [results, Tryz.results18, go_sem]
  ·exact ⟨rfl, Chg.kept HGw.out hk5 (by omega)⟩

end Go.Proofs.YtpkkcicaeldodaaGreatDoor

namespace Go.Proofs.YtpkkcicaeldodaaGreatDoor
open Go.RowKit Go.Maps

section
variable (p i : Nat) (F : Nat → Prop) (x : Rp) (w : World)
theorem gp_used (h : GP w p F x) :
  Calls Tryz.prog 18 #[.pointer (some ⟨p, 0, none⟩)] w fun e' w' => e' = .returned (.int .i64 (x.now.countP Pk.used)) ∧ Grew w w' := by
 obtain ⟨X, h1, h2, rfl⟩ := h
 have e : usedN X.table X.table.length = X.view.now.countP Pk.used := by
  unfold usedN Gp.view
  rw [cntN_countP, List.countP_map, countP_range X.table]
  refine List.countP_congr fun k hk => ?_
  simp only [Function.comp, pk_used]
 rw [← e]
 exact gusedn_any p F X w h1 h2.inv.tb4.1
end

end Go.Proofs.YtpkkcicaeldodaaGreatDoor

namespace Go.Proofs.YtpkkcicaeldodaaGreatDoor
open Go.RowKit Go.Maps

set_option maxRecDepth 100000 in
set_option maxHeartbeats 800000 in
theorem gfree_full (p i s : Nat) (F : Nat → Prop) (X : Gp) (o : Cg) (w : World) (h : GS w p F X) (hr : X.rdy = 0) (hx : X.op = some o) (hz : X.Sz) (hn : X.D.n ≤ 4096) (hi : X.table[i]? = some s) (hs : s ≠ 0) (hm : X.room < (o.more (i / X.row) 0 : Nat)) :
  Calls Tryz.prog 63 #[.pointer (some ⟨p, 0, none⟩), .int .i64 i] w fun e' w' => e' = .returned (.int .i64 21) ∧ Grew w w' := by
 have hrd := gready_any p F X w h
 rw [hr] at hrd
 have hus := gused_in p i s F X w h (by have := hz.tab.2; omega) hi
 rw [show (s != 0) = true from by simpa using hs] at hus
 have htf := gtouch_full p i (i / X.row) 0 F X o w h hx (by have := hz.free; omega) (by have := hz.row; omega) rfl (by have := hz.tab.2; have := (List.getElem?_eq_some_iff.1 hi).1; omega) (by omega) hm
 have H := Lib.hid (And.intro hrd (And.intro hus htf))
 clear h hr hrd hus htf hx hz hn hi hs hm
 go_enter Tryz.func63, Tryz.ntmps63
 go_wp2_with (first
  | (go_at_call 54; (refine H.out.1.mono ?_); rintro e w1 ⟨rfl, rfl⟩)
  | (go_at_call 57; (refine H.out.2.1.mono ?_); rintro e w1 ⟨rfl, rfl⟩)
  | (go_at_call 56; (refine H.out.2.2.mono ?_); rintro e w1 ⟨rfl, hg1⟩; have HG1 := Lib.hid hg1; clear hg1))
 go_ret
 exact ⟨rfl, HG1.out⟩

set_option maxRecDepth 100000 in
set_option maxHeartbeats 1600000 in
theorem gfree_ok (p i s : Nat) (F : Nat → Prop) (X : Gp) (o : Cg) (w : World) (h : GS w p F X) (hr : X.rdy = 0) (hx : X.op = some o) (hz : X.Sz) (hn : X.D.n ≤ 4096) (hi : X.table[i]? = some s) (hs : s ≠ 0) (hc : X.canLeave o s) (hll : o.left.length ≤ 100000) (hm : (o.more (i / X.row) 0 : Nat) ≤ X.room) :
  Calls Tryz.prog 63 #[.pointer (some ⟨p, 0, none⟩), .int .i64 i] w fun e' w' => e' = .returned (.int .i64 0) ∧ GTo w w' p F (X.drop o i s) := by
 have hil : i < X.table.length := (List.getElem?_eq_some_iff.1 hi).1
 have hrd := gready_any p F X w h
 rw [hr] at hrd
 have hus := gused_in p i s F X w h (by have := hz.tab.2; omega) hi
 rw [show (s != 0) = true from by simpa using hs] at hus
 have htf := gtouch_ok p i (i / X.row) 0 F X o w h hx (by have := hz.free; omega) (by have := hz.row; omega) rfl (hz.k64 hil) (by have := hz.tab.2; omega) (by omega) hm
 have hlv := fun F1 w1 (h1 : GS w1 p F1 (X.touch o (i / X.row))) => gleave_any p s F1 (X.touch o (i / X.row)) (o.tch (i / X.row)) w1 h1 rfl (by have := hz.free; simp only [Gp.touch]; omega) hc hll
 have htb : ((X.touch o (i / X.row)).leave (o.tch (i / X.row)) s).table = X.table := by obtain ⟨o', -, e, -⟩ := Gp.leave_op (X.touch o (i / X.row)) (o.tch (i / X.row)) s rfl; exact e
 have H := Lib.hid (And.intro hrd (And.intro hus (And.intro htf (And.intro hlv (And.intro hi htb)))))
 have u1 : (0 : Int) ≤ (i : Int) := by omega
 have u2 : (i : Int) < (X.table.length : Int) := by omega
 have u3 : (i : Int) < (((X.touch o (i / X.row)).leave (o.tch (i / X.row)) s).table.length : Int) := by rw [htb]; exact u2
 clear h hr hrd hus htf hlv htb hx hz hn hi hs hm hc hll
 go_enter Tryz.func63, Tryz.ntmps63
 go_wp2_with (first
  | (go_at_call 54; (refine H.out.1.mono ?_); rintro e w1 ⟨rfl, rfl⟩)
  | (go_at_call 57; (refine H.out.2.1.mono ?_); rintro e w1 ⟨rfl, rfl⟩)
  | (go_at_call 56; (refine H.out.2.2.1.mono ?_); rintro e w1 ⟨rfl, F1, hgs, hc1, hn1⟩; have HS1 := Lib.hid hgs; obtain ⟨L1, d1, b1, A1, ca1, vp1, vt1, vo1, hg, -⟩ := hgs; obtain ⟨c9, f9, s9⟩ := hg.blk.facts; obtain ⟨g, ct1, rfl, hgl, hlg, hce, hfe⟩ := hg.entry (i := i) (s := s) H.out.2.2.2.2.1; have HT := Lib.hid (And.intro hc1 hn1); clear hg hc1 hn1)
  | (go_at_call 60; (refine (H.out.2.2.2.1 F1 _ HS1.out).mono ?_); clear c9 f9 s9 hgl hlg hce hfe; rintro e w2 ⟨rfl, F2, ⟨L2, d2, b2, A2, ca2, vp2, vt2, vo2, hg, hF2⟩, hc2, hn2⟩; obtain ⟨c9, f9, s9⟩ := hg.blk.facts; obtain ⟨g2, ct2, rfl, hgl, hlg, hce, hfe⟩ := hg.entry (i := i) (s := s) (by rw [H.out.2.2.2.2.2]; exact H.out.2.2.2.2.1); have HU := Lib.hid (And.intro hg (And.intro hF2 (And.intro hc2 hn2))); clear hg hF2 hc2 hn2))
 go_ret
 refine ⟨rfl, ?_⟩
 have hh := HU.out.1.tset rfl i 0
 refine To.then HT.out.1 HT.out.2 (To.then HU.out.2.2.1 HU.out.2.2.2 ?_)
 have := hh.1.to hh.2 (by omega) HU.out.2.1
 rw [H.out.2.2.2.2.2] at this
 exact this

end Go.Proofs.YtpkkcicaeldodaaGreatDoor

namespace Go.Proofs.YtpkkcicaeldodaaGreatDoor
open Go.RowKit Go.Maps

theorem Gp.Ok.canLeave {X : Gp} {o : Cg} {i s : Nat} (h : X.Ok) (hx : X.op = some o) (hi : X.table[i]? = some s) : X.canLeave o s := by
 intro h2
 have hv := h.inv
 simp only [Gp.old, Gp.fr, Gp.lf, Gp.tc, hx] at hv
 refine ⟨?_, fun hf => ?_⟩
 ·rw [hv.lens.1]
  rcases hv.cur i s hi h2 with e | e
  ·exact (hv.frr s e).2.1
  ·exact hv.rO i s e
 ·exact (hv.acct s (hv.frr s hf).2.1).2 (.inr (.inr (.inr hf)))
theorem Gp.Ok.drop {X : Gp} {o : Cg} {i s : Nat} (h : X.Ok) (hx : X.op = some o) (hi : X.table[i]? = some s) (hm : (o.more (i / X.row) 0 : Nat) ≤ X.room) : (X.drop o i s).Ok ∧ (X.drop o i s).view = X.view.put i .no := by
 obtain ⟨h1, -⟩ := h.tch hx (List.getElem?_eq_some_iff.1 hi).1 hm
 have ht : setB o.touched (i / (X.D.sz / 2)) true (i / (X.D.sz / 2)) = true := by simp [setB]
 have hr := h.row
 by_cases hs : s ≤ 1
 ·have h2 := h1.zero (v := 0) hi (by omega) (by omega) ht
  have e : X.drop o i s = { X.touch o (i / X.row) with table := X.table.set i 0 } := by unfold Gp.drop Gp.leave; rw [if_pos hs]
  rw [e]
  refine ⟨⟨?_, h.row, h.up⟩, ?_⟩
  ·rw [← h.row] at h2
   exact h2
  ·unfold Gp.view Rp.put Gp.touch
   simp only [Gp.fr, Gp.tc, hx, Option.map_some, Rp.row]
   rw [List.map_set, show pk X.D o.fresh 0 = .no from rfl, hr]
 ·cases hf : o.fresh s with
  | true =>
   have h2 := h1.give hi hf ht
   have e : X.drop o i s = { X with free := trn X.free s, table := X.table.set i 0, op := some { o with touched := setB o.touched (i / X.row) true, fresh := setB o.fresh s false } } := by
    unfold Gp.drop Gp.leave Cg.tch
    rw [if_neg hs]
    simp only [hf]
    rfl
   rw [e]
   refine ⟨⟨?_, h.row, h.up⟩, ?_⟩
   ·rw [← h.row] at h2
    exact h2
   ·unfold Gp.view Rp.put
    simp only [Gp.fr, Gp.tc, hx, Option.map_some, Rp.row]
    have e1 : (X.table.set i 0).map (pk X.D (setB o.fresh s false)) = (X.table.map (pk X.D o.fresh)).set i .no := by
     have hil : i < X.table.length := (List.getElem?_eq_some_iff.1 hi).1
     apply List.ext_getElem?
     intro k
     rw [set_at (by simpa using hil), List.getElem?_map, set_at hil, List.getElem?_map]
     by_cases hki : k = i
     ·subst hki
      rw [if_pos rfl, if_pos rfl]
      rfl
     ·rw [if_neg hki, if_neg hki]
      cases hk : X.table[k]? with
      | none => rfl
      | some q =>
       have hq : q ≠ s := by rintro rfl; exact hki (h1.jT k i q hk hi (by omega))
       simp only [Option.map_some, Option.some.injEq]
       unfold pk setB
       rw [if_neg hq]
    rw [e1, hr]
  | false =>
   have h2 := h1.left hi (by omega) hf ht
   have e : X.drop o i s = { X with table := X.table.set i 0, op := some { o with touched := setB o.touched (i / X.row) true, left := o.left ++ [s] } } := by
    unfold Gp.drop Gp.leave Cg.tch
    rw [if_neg hs]
    simp only [hf]
    rfl
   rw [e]
   refine ⟨⟨?_, h.row, h.up⟩, ?_⟩
   ·rw [← h.row] at h2
    exact h2
   ·unfold Gp.view Rp.put
    simp only [Gp.fr, Gp.tc, hx, Option.map_some, Rp.row]
    rw [List.map_set, show pk X.D o.fresh 0 = .no from rfl, hr]

section
variable (p i : Nat) (F : Nat → Prop) (x : Rp) (w : World)
theorem gp_free (c : Pk) (h : GP w p F x) (ho : x.was ≠ none) (hi : x.now[i]? = some c) (hu : c.used = true) (hm : (x.need (i / x.row) 0 : Nat) ≤ x.room) :
  Calls Tryz.prog 63 #[.pointer (some ⟨p, 0, none⟩), .int .i64 i] w fun e' w' => e' = .returned (.int .i64 0) ∧ GPTo w w' p F (x.put i .no) := by
 obtain ⟨X, h1, h2, rfl⟩ := h
 obtain ⟨o, hx⟩ := Gp.view_op ho
 obtain ⟨s, hs, h0, rfl⟩ := Gp.entry_used hi hu
 have hv := h2.inv
 simp only [Gp.old, Gp.fr, Gp.lf, Gp.tc, hx] at hv
 have hm' : (o.more (i / X.row) 0 : Nat) ≤ X.room := by rw [h2.room, Gp.more_need h2 hx]; exact hm
 have := h2.drop hx hs hm'
 refine (gfree_ok p i s F X o w h1 (h2.rdy hx) hx h2.sz hv.sz.2.1 hs h0 (h2.canLeave hx hs) (by have := hv.lfle; omega) hm').mono ?_
 rintro e w1 ⟨rfl, h3⟩
 exact ⟨rfl, h3.gp this.1 this.2⟩
end

end Go.Proofs.YtpkkcicaeldodaaGreatDoor

namespace Go.Proofs.YtpkkcicaeldodaaGreatDoor
open Go.RowKit Go.Maps

section
variable {P : Program} {k t e : TypeId} {w w' : World} {b it s cnt : Nat} {m : Int → Option Value} {left : Int → Bool} {o : Obj}
variable {F : Fence} {n : Nat} {ops : Array Oper} {rest : List Oper} {op : Oper} {a : Act} {Q : Exit → Act → World → Prop}
end

end Go.Proofs.YtpkkcicaeldodaaGreatDoor

namespace Go.Proofs.YtpkkcicaeldodaaGreatDoor
open Go.RowKit Go.Maps

def gvn (fe : List Bool) (f : Nat → Bool) : List Bool := (List.range fe.length).map fun s => fe.getD s false || f s
section
variable {w w' : World} {L : Nat → Nat} {p d b ca c M1 s1 M2 s2 : Nat} {X : Gp} {o : Cg} {A : Option Addr} {vp vt vw vl : Value} {F : Nat → Prop}
end

end Go.Proofs.YtpkkcicaeldodaaGreatDoor

namespace Go.Proofs.YtpkkcicaeldodaaGreatDoor
open Go.Shelf
def sortInt_ren : Go.Shelf.Ren := ⟨fun | 189 => 53 | 125 => 94 | 257 => 93 | 128 => 128 | 129 => 129 | 294 => 120 | 295 => 121 | 296 => 122 | 297 => 123 | 298 => 124 | 299 => 125 | 216 => 117 | 300 => 126 | 301 => 127 | 328 => 152 | 329 => 153 | 330 => 154 | 331 => 155 | 332 => 156 | 215 => 150 | 343 => 173 | n => n, fun | 28 => 22 | 3 => 3 | 46 => 139 | 0 => 0 | 51 => 166 | 53 => 153 | 4 => 4 | 183 => 160 | 182 => 159 | 131 => 81 | 5 => 5 | 9 => 9 | 218 => 185 | 222 => 91 | 228 => 206 | 229 => 122 | n => n, fun | n => n⟩
theorem sortInt : Go.Proofs.Lays.n189 Tryz.prog sortInt_ren := {
 mixed := by kernel_rfl
 f125 := Tryz.func94.trans (congrArg some (by kernel_rfl))
 f128 := Tryz.func128.trans (congrArg some (by kernel_rfl))
 f129 := Tryz.func129.trans (congrArg some (by kernel_rfl))
 f189 := Tryz.func53.trans (congrArg some (by kernel_rfl))
 f215 := Tryz.func150.trans (congrArg some (by kernel_rfl))
 f216 := Tryz.func117.trans (congrArg some (by kernel_rfl))
 f257 := Tryz.func93.trans (congrArg some (by kernel_rfl))
 f294 := Tryz.func120.trans (congrArg some (by kernel_rfl))
 f295 := Tryz.func121.trans (congrArg some (by kernel_rfl))
 f296 := Tryz.func122.trans (congrArg some (by kernel_rfl))
 f297 := Tryz.func123.trans (congrArg some (by kernel_rfl))
 f298 := Tryz.func124.trans (congrArg some (by kernel_rfl))
 f299 := Tryz.func125.trans (congrArg some (by kernel_rfl))
 f300 := Tryz.func126.trans (congrArg some (by kernel_rfl))
 f301 := Tryz.func127.trans (congrArg some (by kernel_rfl))
 f328 := Tryz.func152.trans (congrArg some (by kernel_rfl))
 f329 := Tryz.func153.trans (congrArg some (by kernel_rfl))
 f330 := Tryz.func154.trans (congrArg some (by kernel_rfl))
 f331 := Tryz.func155.trans (congrArg some (by kernel_rfl))
 f332 := Tryz.func156.trans (congrArg some (by kernel_rfl))
 f343 := Tryz.func173.trans (congrArg some (by kernel_rfl))
 t0 := Tryz.underlying0
 a0 := Tryz.isAgg0
 z0 := Tryz.sizeOf0
 v0 := Tryz.zeroValue0
 t3 := Tryz.underlying3
 a3 := Tryz.isAgg3
 z3 := Tryz.sizeOf3
 v3 := Tryz.zeroValue3
 t4 := Tryz.underlying4
 a4 := Tryz.isAgg4
 z4 := Tryz.sizeOf4
 v4 := Tryz.zeroValue4
 t5 := Tryz.underlying5
 a5 := Tryz.isAgg5
 z5 := Tryz.sizeOf5
 v5 := Tryz.zeroValue5
 t9 := Tryz.underlying9
 a9 := Tryz.isAgg9
 z9 := Tryz.sizeOf9
 v9 := Tryz.zeroValue9
 t28 := Tryz.underlying22
 a28 := Tryz.isAgg22
 z28 := Tryz.sizeOf22
 v28 := Tryz.zeroValue22
 t46 := Tryz.underlying139
 a46 := Tryz.isAgg139
 z46 := Tryz.sizeOf139
 v46 := Tryz.zeroValue139
 t51 := Tryz.underlying166
 a51 := Tryz.isAgg166
 z51 := Tryz.sizeOf166
 v51 := Tryz.zeroValue166
 t53 := Tryz.underlying153
 a53 := Tryz.isAgg153
 z53 := Tryz.sizeOf153
 v53 := Tryz.zeroValue153
 t131 := Tryz.underlying81
 a131 := Tryz.isAgg81
 z131 := Tryz.sizeOf81
 v131 := Tryz.zeroValue81
 t182 := Tryz.underlying159
 a182 := Tryz.isAgg159
 z182 := Tryz.sizeOf159
 v182 := Tryz.zeroValue159
 t183 := Tryz.underlying160
 a183 := Tryz.isAgg160
 z183 := Tryz.sizeOf160
 v183 := Tryz.zeroValue160
 t218 := Tryz.underlying185
 a218 := Tryz.isAgg185
 z218 := Tryz.sizeOf185
 v218 := Tryz.zeroValue185
 t222 := Tryz.underlying91
 a222 := Tryz.isAgg91
 z222 := Tryz.sizeOf91
 v222 := Tryz.zeroValue91
 t228 := Tryz.underlying206
 a228 := Tryz.isAgg206
 z228 := Tryz.sizeOf206
 v228 := Tryz.zeroValue206
 t229 := Tryz.underlying122
 a229 := Tryz.isAgg122
 z229 := Tryz.sizeOf122
 v229 := Tryz.zeroValue122 }
end Go.Proofs.YtpkkcicaeldodaaGreatDoor

namespace Go.Proofs.YtpkkcicaeldodaaGreatDoor
open Go.RowKit Go.Maps
attribute [local go_sem] Oper.semAt_some

structure ToldK (f : Nat → Bool) (xs : List Nat) (left : Int → Bool) : Prop where
 nd : xs.Nodup
 sub : ∀ s ∈ xs, f s = true
 left : ∀ i, left i = true ↔ 0 ≤ i ∧ f i.toNat = true ∧ i.toNat ∉ xs
end Go.Proofs.YtpkkcicaeldodaaGreatDoor

namespace Go.Proofs.YtpkkcicaeldodaaGreatDoor
open Go.RowKit Go.Maps Go.Shelf Go.Sort

theorem putCells_takeI {cur : Array Value} {F : Array Int} (h : F.size ≤ cur.size) : (putCells (Value.int .i64) 0 F cur).toList.take F.size = F.toList.map (Value.int .i64) := by
 apply List.ext_getElem?
 intro j
 by_cases hj : j < F.size
 ·rw [List.getElem?_take_of_lt hj, Array.getElem?_toList]
  simp [putCells, hj, show j < cur.size by omega]
 ·rw [List.getElem?_take_eq_none (by omega), List.getElem?_eq_none (by simp; omega)]
theorem own_sortedI {w : World} {base g cap n : Nat} {e : TypeId} {os : Array Obj} {l : List Nat} {ys : List Int} (h : w.ownsRow base e 1 (.slice (some ⟨g, 0, none⟩) l.length cap) l.length (nv l)) (hl : ys.length = l.length) :
  (grow (putRow (Value.int .i64) (Sort.ahead w n) g 0 ys.toArray) os).ownsRow base e 1 (.slice (some ⟨g, 0, none⟩) l.length cap) l.length (ys.map (Value.int .i64)) ∧ w.grownBy (grow (putRow (Value.int .i64) (Sort.ahead w n) g 0 ys.toArray) os) (some g) := by
 obtain ⟨cur, hb, hg, hnc, hcm, hcs, htake, hxl⟩ := own_row h
 have hgl : g < w.heap.size := (Array.getElem?_eq_some_iff.1 hg).1
 have hh : (grow (putRow (Value.int .i64) (Sort.ahead w n) g 0 ys.toArray) os).heap[g]? = some (.cells (putCells (Value.int .i64) 0 ys.toArray cur) e (0, 0)) := by
  rw [heap_grow_old _ _ (by simpa [putRow, mapBlock, Sort.ahead] using hgl)]
  simp [putRow, mapBlock, Sort.ahead, Array.getElem?_modify, hg, onCells]
 refine ⟨⟨by simp [hl], .inr ⟨g, cap, _, rfl, hb, hh, hnc, hcm, by simp [putCells, hcs], ?_⟩⟩, rfl, rfl, rfl, by simp [putRow, mapBlock, Sort.ahead, grow], fun k hk hne => ?_⟩
 ·have := putCells_takeI (cur := cur) (F := ys.toArray) (by simp [hl]; omega)
  rw [Nat.mul_one, ← hl]
  simpa using this
 ·rw [heap_grow_old _ _ (by simpa [putRow, mapBlock, Sort.ahead] using hk)]
  have : g ≠ k := fun e => hne (by rw [e])
  simp [putRow, mapBlock, Sort.ahead, Array.getElem?_modify, this]
end Go.Proofs.YtpkkcicaeldodaaGreatDoor

namespace Go.Proofs.YtpkkcicaeldodaaGreatDoor
open Go.RowKit Go.Maps Go.Sort Go.Shelf

theorem own_putI {w : World} {base g cap q : Nat} {e : TypeId} {l ys : List Int} (h : w.ownsRow base e 1 (.slice (some ⟨g, 0, none⟩) l.length cap) l.length (iv l)) (hl : ys.length = l.length) :
  (putRow (Value.int .i64) (Sort.ahead w q) g 0 ys.toArray).ownsRow base e 1 (.slice (some ⟨g, 0, none⟩) l.length cap) l.length (iv ys) ∧ Chg (fun j => j = g) w (putRow (Value.int .i64) (Sort.ahead w q) g 0 ys.toArray) := by
 obtain ⟨cur, hb, hg, hnc, hcm, hcs, htake, hxl⟩ := own_row h
 have hgl : g < w.heap.size := (Array.getElem?_eq_some_iff.1 hg).1
 have hh : (putRow (Value.int .i64) (Sort.ahead w q) g 0 ys.toArray).heap[g]? = some (.cells (putCells (Value.int .i64) 0 ys.toArray cur) e (0, 0)) := by
  simp [putRow, mapBlock, Sort.ahead, Array.getElem?_modify, hg, onCells]
 refine ⟨⟨by simp [iv, hl], .inr ⟨g, cap, _, rfl, hb, hh, hnc, hcm, by simp [putCells, hcs], ?_⟩⟩, rfl, rfl, rfl, by simp [Sort.ahead], fun k hk hne => ?_⟩
 ·have := putCells_takeI (cur := cur) (F := ys.toArray) (by simp [hl]; omega)
  rw [Nat.mul_one, ← hl]
  simpa [iv] using this
 ·have : g ≠ k := fun e => hne e.symm
  simp [putRow, mapBlock, Sort.ahead, Array.getElem?_modify, this]
def DelOut (w w' : World) (base : Nat) (v : Value) (l : List Int) (i : Nat) (e : Ending) : Prop :=
 ∃ A c, e = .returned (.slice A (l.length - 1) c) ∧ w'.ownsRow base 3 1 (.slice A (l.length - 1) c) (l.length - 1) (iv (l.eraseIdx i)) ∧ Ap w w' v (.slice A (l.length - 1) c)
theorem bdelete_any (base : Nat) (v : Value) (l : List Int) (i : Nat) (w : World) (ho : w.ownsRow base 3 1 v l.length (iv l)) (hi : i < l.length) :
  Calls Tryz.prog 69 #[v, .int .i64 i, .int .i64 (i + 1 : Nat)] w fun e w' => DelOut w w' base v l i e := by
 obtain ⟨A, c, rfl, -⟩ := own_shape ho
 obtain ⟨g, rfl, -⟩ := own_block ho (by omega)
 obtain ⟨cur, hb, hg, hnc, hcm, hcs, htake, hxl⟩ := own_row ho
 have hB : Blk w g 3 cur := hg
 have hH : Sort.Holds (Value.int .i64) w g 0 l.toArray := fun j hj => by
  have hj' : j < l.length := by simpa using hj
  refine ⟨?_, by rw [Nat.zero_add]; exact hB.frozen j⟩
  have h1 : (iv l)[j]? = cur[j]? := by rw [← htake, Nat.mul_one, List.getElem?_take, if_pos hj']; simp
  rw [Nat.zero_add, hB.cell, ← h1]
  simp [iv, hj']
 have hd := Any.slices_Delete_int deleteInt g 0 c i (i + 1) l w hH hnc (by simpa [maxLen] using hcm) (by omega) (by omega)
 refine hd.mono ?_
 rintro e w' ⟨rfl, q, rfl⟩
 have hyl : (l.take i ++ l.drop (i + 1) ++ List.replicate (i + 1 - i) 0).length = l.length := by
  rw [List.length_append, List.length_append, List.length_take, List.length_drop, List.length_replicate]
  omega
 obtain ⟨h1, h2⟩ := own_putI (q := q) (ys := l.take i ++ l.drop (i + 1) ++ List.replicate (i + 1 - i) 0) ho hyl
 have h3 := own_short h1 (m := l.length - 1) (by omega)
 rw [show l.length - (i + 1 - i) = l.length - 1 by omega]
 refine ⟨_, _, rfl, ?_, h2.mono fun j _ e => by subst e; rfl, fun j hj => .inl hj⟩
 have e1 : (iv (l.take i ++ l.drop (i + 1) ++ List.replicate (i + 1 - i) 0)).take ((l.length - 1) * 1) = iv (l.eraseIdx i) := by
  rw [List.eraseIdx_eq_take_drop_succ, ← iv_take]
  congr 1
  refine List.take_left' ?_
  rw [List.length_append, List.length_take, List.length_drop]
  omega
 rw [e1] at h3
 exact h3
section
variable (p : Nat) (F : Nat → Prop) (x : Rp) (w : World)
theorem gp_free_full (i : Nat) (c : Pk) (h : GP w p F x) (ho : x.was ≠ none) (hi : x.now[i]? = some c) (hu : c.used = true) (hm : x.room < (x.need (i / x.row) 0 : Nat)) :
  Calls Tryz.prog 63 #[.pointer (some ⟨p, 0, none⟩), .int .i64 i] w fun e' w' => e' = .returned (.int .i64 21) ∧ Grew w w' := by
 obtain ⟨X, h1, h2, rfl⟩ := h
 obtain ⟨o, hx⟩ := Gp.view_op ho
 obtain ⟨s, hs, h0, rfl⟩ := Gp.entry_used hi hu
 have hv := h2.inv
 have hm' : X.room < (o.more (i / X.row) 0 : Nat) := by rw [h2.room, Gp.more_need h2 hx]; exact hm
 exact gfree_full p i s F X o w h1 (h2.rdy hx) hx h2.sz hv.sz.2.1 hs h0 hm'
theorem gp_free_any (i : Nat) (c : Pk) (h : GP w p F x) (ho : x.was ≠ none) (hi : x.now[i]? = some c) (hu : c.used = true) :
  Calls Tryz.prog 63 #[.pointer (some ⟨p, 0, none⟩), .int .i64 i] w fun e' w' =>
   (e' = .returned (.int .i64 0) ∧ GPTo w w' p F (x.put i .no)) ∨ (¬ (0 ≤ x.slack) ∧ e' = .returned (.int .i64 21) ∧ Grew w w') := by
 by_cases hm : (x.need (i / x.row) 0 : Nat) ≤ x.room
 ·exact (gp_free p i F x w c h ho hi hu hm).mono fun e w' k => .inl k
 ·refine (gp_free_full p F x w i c h ho hi hu (by omega)).mono ?_
  rintro e w' ⟨rfl, h3⟩
  exact .inr ⟨fun hs => hm (h.need (h.part (List.getElem?_eq_some_iff.1 hi).1) (by simpa using hs)), rfl, h3⟩
end
end Go.Proofs.YtpkkcicaeldodaaGreatDoor

namespace Go.Proofs.YtpkkcicaeldodaaGreatDoor
open Go.RowKit Go.Maps Go.Lib

set_option maxHeartbeats 800000 in
theorem bgrow_nil (n : Nat) (w : World) (hn : n ≤ 100000) :
  Calls Tryz.prog 165 #[.slice none 0 0, .int .i64 n] w fun e w' => OwnOut w w' 3 1 0 [] (fun A c => .slice A 0 c) e := by
 obtain ⟨i0, hi0, hz0, hz1, hz2⟩ := info_parts i64Info_
 by_cases h0 : n = 0
 ·subst h0
  clear hi0 hz0 hz1 hz2
  go_enter Tryz.func165, Tryz.ntmps165
  go_wp2
  go_ret
  exact ⟨none, 0, rfl, World.ownsRow_nil _ _ _ _, Chg.refl _ _⟩
 ·have hrz : ∀ ty, (Builtin.append_ #[22, 3] ty #[.slice none 0 0, .int .i64 (n : Nat)]).run Tryz.prog w = .ok (.slice (some ⟨w.heap.size, 0, none⟩) (0 + n) (grownCap w (0 + n) 0 3))
    (w.drew.alloc (.cells ((([] : List Value).toArray ++ Builtin.zeroCells (Value.int .i64 0).cells n) ++ Builtin.zeroCells (Value.int .i64 0).cells (grownCap w (0 + n) 0 3 - (0 + n))) 3)) := fun ty =>
   Lib.run_append_grow_zeros w 22 3 ty 3 i0 (.int .i64 0) .i64 .i64 Tryz.underlying22 Tryz.underlying3 hi0 hz0 none 0 0 [] (run_firstCells_none w.drew i0.size 0 0 0) n (by omega) (by omega) (by omega) (by omega) (by rw [hz2]; omega) (growslice_fits (by omega) (by rw [hz2]; omega))
  have hcap := grownCap_ge w (0 + n) 0 3
  have hcap2 := grownCap_le_maxLen w (0 + n) 0 3 (by simp only [maxLen]; omega)
  obtain ⟨cp, hcp⟩ : ∃ q, grownCap w (0 + n) 0 3 = q := ⟨_, rfl⟩
  rw [hcp] at hcap hcap2
  simp only [hcp] at hrz
  obtain ⟨cur, hcur⟩ : ∃ q, (([] : List Value).toArray ++ Builtin.zeroCells (Value.int .i64 0).cells n) ++ Builtin.zeroCells (Value.int .i64 0).cells (cp - (0 + n)) = q := ⟨_, rfl⟩
  have hcs : cur.size = cp := by
   rw [← hcur]
   simp only [Array.size_append, size_zeroCells, List.size_toArray, List.length_nil]
   simp [Value.cells]
   omega
  simp only [hcur] at hrz
  have hn1 : (0 : Int) < (n : Int) := by omega
  simp only [maxLen] at hcap2
  rw [Nat.zero_add] at hcap
  have HR := Lib.hid (And.intro hrz hcs)
  clear hrz hcs hcur hcp hi0 hz0 hz1 hz2
  go_enter Tryz.func165, Tryz.ntmps165
  go_wp2_with (at_builtin; refine Lib.wpList_append_run _ rfl _ _ _ _ rfl _ _ rfl rfl _ _ (HR.out.1 _) ?_)
  go_ret
  refine ⟨_, _, rfl, ?_, (Chg.refl _ _).drew.alloc _⟩
  exact own_mk (Nat.le_refl _) (Blk.new w.drew 3 cur) (Nat.zero_le _) (by simp only [maxLen]; omega) HR.out.2 rfl (fun j hj => by omega)

theorem run_append_nought {P : Program} {w : World} {t e : TypeId} {i : TypeInfo} (ht : P.underlying t = some (.slice e)) (hi : P.info? e = some i) (ty : TypeId) (b x : Option Addr) (n c c' : Nat) (hn : n ≤ c) :
  (Builtin.append_ #[t, t] ty #[.slice b n c, .slice x 0 c']).run P w = .ok (.slice b n c) w := by
 have hf : (Builtin.firstCells i.size 0 (.slice x 0 c')).run P w = .ok #[] w := by
  cases x with
  | none => exact run_firstCells_none w i.size 0 0 c'
  | some a => exact run_firstCells_some w i.size 0 a 0 c' [] (by simp) (fun j v h => by simp at h)
 cases b with
 | none => simp [Builtin.append_, run_underlying ht, Go.sizeOf, typeInfo, hi, Builtin.lenOf, hf, hn]
 | some a => simp [Builtin.append_, run_underlying ht, Go.sizeOf, typeInfo, hi, Builtin.lenOf, hf, hn, storeCells]
structure CatIt where
 v : Value
 xs : List Value
def catL (ls : List CatIt) : List Value := ls.flatMap fun it => it.xs
def CatOk (w : World) (it : CatIt) : Prop := ∃ A n c, it.v = .slice A n c ∧ Sl w 1 A n it.xs ∧ (∀ u ∈ it.xs, u.oneCell' = true) ∧ n ≤ 1000
theorem catL_succ {ls : List CatIt} {k : Nat} {it : CatIt} (h : ls[k]? = some it) : catL (ls.take (k + 1)) = catL (ls.take k) ++ it.xs := by
 unfold catL
 rw [List.take_add_one, h, List.flatMap_append]
 simp
theorem catL_le {w : World} : ∀ {ls : List CatIt}, (∀ it ∈ ls, CatOk w it) → (catL ls).length ≤ 1000 * ls.length
 | [], _ => by simp [catL]
 | it :: t, h => by
  have h1 := catL_le (ls := t) fun i hi => h i (List.mem_cons_of_mem _ hi)
  obtain ⟨A, n, c, -, h2, -, h3⟩ := h it List.mem_cons_self
  have h4 := h2.1
  unfold catL at h1 ⊢
  rw [List.flatMap_cons, List.length_append, List.length_cons]
  omega
set_option maxRecDepth 100000 in
set_option maxHeartbeats 1600000 in
theorem bconcat_any (g m c N : Nat) (ls : List CatIt) (w : World) (hb : Blk w g 22 (ls.map fun it => it.v).toArray) (hm : ls.length = m) (hm2 : m ≤ 10) (hok : ∀ it ∈ ls, CatOk w it) (hN : (catL ls).length = N) :
  Calls Tryz.prog 141 #[.slice (some ⟨g, 0, none⟩) m c] w fun e w' => OwnOut w w' 3 1 N (catL ls) (fun A c => .slice A N c) e := by
 obtain ⟨i0, hi0, hz0, hz1, hz2⟩ := info_parts i64Info_
 have hle := catL_le hok
 have H := Lib.hid (And.intro hb (And.intro hm (And.intro hok (And.intro hN (And.intro hi0 (And.intro hz0 (And.intro hz1 (And.intro hz2 hle))))))))
 have hsum : ∀ (k : Nat) it A n c0, ls[k]? = some it → it.v = .slice A n c0 → (catL (ls.take (k + 1))).length = (catL (ls.take k)).length + n ∧ (catL (ls.take k)).length ≤ 10000 := fun k it A n c0 h1 h2 => by
  obtain ⟨A', n', c', e, h3, -, -⟩ := hok it (List.mem_of_getElem? h1)
  rw [h2] at e; cases e
  have h4 := h3.1
  refine ⟨by rw [catL_succ h1, List.length_append]; omega, ?_⟩
  have := catL_le (ls := ls.take k) fun i hi => hok i (List.mem_of_mem_take hi)
  rw [List.length_take] at this
  omega
 have HS := Lib.hid hsum
 clear hb hm hok hN hi0 hz0 hz1 hz2 hsum hle
 go_enter Tryz.func141, Tryz.ntmps141
 go_wp2_with fail
 go_loopg [3, 11] m (fun q sz i wr => ∃ k, q = m - k ∧ k ≤ m ∧ i = .int .i64 k ∧ sz = .int .i64 ((catL (ls.take k)).length : Nat) ∧ w = wr)
 case atStart => exact ⟨0, rfl, Nat.zero_le _, rfl, rfl, rfl⟩
 case round =>
  obtain ⟨k, rfl, hk, rfl, rfl, rfl⟩ := hrel
  by_cases hlt : k < m
  ·obtain ⟨it, hit⟩ : ∃ it, ls[k]? = some it := ⟨_, List.getElem?_eq_getElem (by have := H.out.2.1; omega)⟩
   obtain ⟨A, n, c0, hv, hs, -, hn⟩ := H.out.2.2.1 it (List.mem_of_getElem? hit)
   have hce : w.cell? ⟨g, k, none⟩ = some (.slice A n c0) := by
    rw [H.out.1.cell]
    simp [hit, hv]
   obtain ⟨e1, e2⟩ := HS.out k it A n c0 hit hv
   obtain ⟨s0, hs0⟩ : ∃ s, (catL (ls.take k)).length = s := ⟨_, rfl⟩
   rw [hs0] at e1 e2 ⊢
   have E1 := Lib.hid e1
   clear e1 hs hit hv hs0
   go_wp2_with fail
   go_roundg (m - (k + 1))
   case measure => omega
   case rel => exact ⟨k + 1, rfl, by omega, by simp, by rw [E1.out]; simp, rfl⟩
  ·obtain rfl : k = m := by omega
   have hNN : (catL (ls.take k)).length = N := by rw [← H.out.2.2.2.1, List.take_of_length_le (by have := H.out.2.1; omega)]
   have hNb : N ≤ 10000 := by have h1 := H.out.2.2.2.1; have h2 := H.out.2.2.2.2.2.2.2.2; have h3 := H.out.2.1; omega
   rw [hNN]
   clear hNN hlt hk
   have hgr := bgrow_nil N w (by omega)
   have HG := Lib.hid hgr
   clear hgr
   go_wp2_with fail
   refine HG.out.mono ?_
   rintro e w1 ⟨A1, c1, rfl, ho1, hg1⟩
   have H1 := Lib.hid (And.intro ho1 hg1)
   clear ho1 hg1
   go_wp2_with fail
   go_loopg [6, 27] k (fun q v i W2 => ∃ j, q = k - j ∧ j ≤ k ∧ i = .int .i64 j ∧ W2.ownsRow w.heap.size 3 1 v (catL (ls.take j)).length (catL (ls.take j)) ∧ Grew w W2)
   case atStart => exact ⟨0, rfl, Nat.zero_le _, rfl, H1.out.1, H1.out.2⟩
   case round =>
    obtain ⟨j, rfl, hj, rfl, ho, hgr⟩ := hrel
    by_cases hlt : j < k
    ·obtain ⟨it, hit⟩ : ∃ it, ls[j]? = some it := ⟨_, List.getElem?_eq_getElem (by have := H.out.2.1; omega)⟩
     obtain ⟨A, n, c0, hv, hs, h1, hn⟩ := H.out.2.2.1 it (List.mem_of_getElem? hit)
     have hce : w.cell? ⟨g, j, none⟩ = some (.slice A n c0) := by
      rw [H.out.1.cell]
      simp [hit, hv]
     have hgl := H.out.1.lt
     obtain ⟨e1, e2⟩ := HS.out j it A n c0 hit hv
     obtain ⟨Av, cv, rfl, hncv⟩ := own_shape ho
     obtain ⟨s0, hs0⟩ : ∃ s, (catL (ls.take j)).length = s := ⟨_, rfl⟩
     rw [hs0] at e1 e2 ho hncv ⊢
     have hce2 : wr.cell? ⟨g, j, none⟩ = some (.slice A n c0) := (hgr.cell (p := ⟨g, j, none⟩) hgl id).trans hce
     have hs2 := hs.grew hgr
     have hxl : it.xs.length = n := by have := hs.1; omega
     have H2 := Lib.hid (And.intro ho (And.intro hgr (And.intro e1 (And.intro hs2 (And.intro h1 (And.intro hxl hit))))))
     clear ho hgr e1 hs hs2 h1 hxl hit hs0 hce hv
     by_cases hn0 : n = 0
     ·subst hn0
      have hra := fun ty => run_append_nought (P := Tryz.prog) (w := wr) Tryz.underlying22 H.out.2.2.2.2.1 ty Av A s0 cv c0 hncv
      have HRA := Lib.hid hra
      clear hra
      go_wp2_with (at_builtin; refine Lib.wpList_append_run _ rfl _ _ _ _ rfl _ _ rfl rfl _ _ (HRA.out _) ?_)
      go_roundg (k - (j + 1))
      case measure => omega
      case rel =>
       obtain ⟨q1, q2, q3, q4, q5, q6, q7⟩ := H2.out
       refine ⟨j + 1, rfl, by omega, by simp, ?_, q2⟩
       rw [q3, catL_succ q7, List.eq_nil_of_length_eq_zero q6, List.append_nil]
       exact q1
     ·obtain ⟨gb, off, rfl, -, hx⟩ := H2.out.2.2.2.1.2 (by omega)
      have HX := Lib.hid hx
      clear hx
      go_wp2_with (at_builtin; refine wpList_append_own _ rfl _ _ _ rfl w.heap.size 3 i0 _ 1 8 Tryz.underlying22 H.out.2.2.2.2.1 H.out.2.2.2.2.2.1 H.out.2.2.2.2.2.2.1 H.out.2.2.2.2.2.2.2.1 rfl (by omega) (.slice Av s0 cv) s0 (catL (ls.take j)) rfl H2.out.1 ⟨gb, off, none⟩ n c0 it.xs rfl (by rw [Nat.mul_one]; exact H2.out.2.2.2.2.2.1) (fun j u hu => by rw [Addr.add_lit]; exact HX.out j u hu) H2.out.2.2.2.2.1 (by simp only [maxLen]; omega) (by omega) H2.out.2.1.size ?_; intro v1 w1 hown1 hgrow hnil; have HO := Lib.hid hown1; have HG := Lib.hid hgrow; clear hown1 hgrow hnil)
      go_roundg (k - (j + 1))
      case measure => omega
      case rel =>
       obtain ⟨q1, q2, q3, q4, q5, q6, q7⟩ := H2.out
       refine ⟨j + 1, rfl, by omega, by simp, ?_, grew_row q2 q1 HG.out⟩
       rw [q3, catL_succ q7]
       exact HO.out
    ·obtain rfl : j = k := by omega
     rw [List.take_of_length_le (by have := H.out.2.1; omega), H.out.2.2.2.1] at ho
     obtain ⟨A', c', rfl, -⟩ := own_shape ho
     have HO := Lib.hid (And.intro ho hgr)
     clear ho hgr hlt hj
     go_wp2_with fail
     go_ret
     exact ⟨A', c', rfl, HO.out.1, HO.out.2⟩
end Go.Proofs.YtpkkcicaeldodaaGreatDoor

namespace Go.Proofs.YtpkkcicaeldodaaGreatDoor
open Go.RowKit Go.Maps

def MgOut (G : Nat → Prop) (w w' : World) (t p root ba qn q1 q2 : Nat) (F N2 : Nat → Prop) (x : Rp) (one nd' : Nd) (last : Prop) (e : Ending) : Prop :=
 (e = .returned (.int .i64 0) ∧ ∃ y F' N', BT w' t p root F' y ∧ Chg G w w' ∧ (∀ j, F' j → F j ∨ w.heap.size ≤ j) ∧ (∀ j, N' j → ¬ F' j) ∧ (∀ j, N' j → N2 j ∨ w.heap.size ≤ j) ∧ x.like y ∧
  ((last ∧ NdOwn w' N' ba root one ∧ y.nd root = some one ∧ (∀ i, i ≠ q1 → i ≠ q2 → i ≠ root → y.nd i = x.nd i) ∧ y.now.countP Pk.used + 2 = x.now.countP Pk.used) ∨
   (¬ last ∧ NdOwn w' N' ba q1 one ∧ y.nd q1 = some one ∧ y.nd qn = some nd' ∧ (∀ i, i ≠ q1 → i ≠ q2 → i ≠ qn → y.nd i = x.nd i) ∧ y.now.countP Pk.used + 1 = x.now.countP Pk.used))) ∨
 (e = .returned (.int .i64 21) ∧ FullG G w w' t p root F x 0)
structure Mg (W : World) (t p root : Nat) (F : Nat → Prop) (x : Rp) (N1 N2 N3 : Nat → Prop) (bb q2 : Nat) (nb : Nd) : Prop where
 bt : BT W t p root F x
 nb : NdAt W N3 bb q2 nb
 d13 : ∀ j, N1 j → ¬ N3 j
 d23 : ∀ j, N2 j → ¬ N3 j
 d1F : ∀ j, N1 j → ¬ F j ∧ j ≠ t ∧ j ≠ 0 ∧ j < W.heap.size
 d2F : ∀ j, N2 j → ¬ F j ∧ j ≠ t ∧ j ≠ 0 ∧ j < W.heap.size
 d3F : ∀ j, N3 j → ¬ F j
 d12 : ∀ j, N1 j → ¬ N2 j
section
variable {W W' : World} {t p root bb q2 : Nat} {F : Nat → Prop} {x : Rp} {N1 N2 N3 : Nat → Prop} {nb : Nd}
theorem Mg.turn {G N1' N2' : Nat → Prop} (h : Mg W t p root F x N1 N2 N3 bb q2 nb) (hc : Chg G W W') (hG : ∀ j, G j → N1 j ∨ N2 j) (h1 : ∀ j, N1' j → N1 j ∨ W.heap.size ≤ j) (h2 : ∀ j, N2' j → N2 j ∨ W.heap.size ≤ j) (h3 : ∀ j, N1' j → ¬ N2' j) (l1 : ∀ j, N1' j → j < W'.heap.size) (l2 : ∀ j, N2' j → j < W'.heap.size) :
  Mg W' t p root F x N1' N2' N3 bb q2 nb := by
 have hF := h.bt.gp.lt
 have ht := h.bt.blk.lt
 have hp := tab_pos h.bt.gp.tab
 have h3l := h.nb.lt
 have hz := hc.size
 have e : ∀ j, G j → ¬ F j ∧ j ≠ t ∧ j ≠ 0 := fun j hj => (hG j hj).elim (fun e => ⟨(h.d1F j e).1, (h.d1F j e).2.1, (h.d1F j e).2.2.1⟩) fun e => ⟨(h.d2F j e).1, (h.d2F j e).2.1, (h.d2F j e).2.2.1⟩
 have e3 : ∀ j, G j → ¬ N3 j := fun j hj => (hG j hj).elim (h.d13 j) (h.d23 j)
 refine ⟨h.bt.chg hc (fun j hj g => (e j g).1 hj) (fun g => (e 0 g).2.2 rfl) (fun g => (e t g).2.1 rfl), h.nb.chg hc fun j hj g => e3 j g hj, fun j hj g => ?_, fun j hj g => ?_, fun j hj => ?_, fun j hj => ?_, h.d3F, h3⟩
 ·rcases h1 j hj with e | e
  ·exact h.d13 j e g
  ·have := h3l j g; omega
 ·rcases h2 j hj with e | e
  ·exact h.d23 j e g
  ·have := h3l j g; omega
 ·rcases h1 j hj with e | e
  ·obtain ⟨a, b, c, -⟩ := h.d1F j e; exact ⟨a, b, c, l1 j hj⟩
  ·exact ⟨fun f => by have := hF j f; omega, by omega, by omega, l1 j hj⟩
 ·rcases h2 j hj with e | e
  ·obtain ⟨a, b, c, -⟩ := h.d2F j e; exact ⟨a, b, c, l2 j hj⟩
  ·exact ⟨fun f => by have := hF j f; omega, by omega, by omega, l2 j hj⟩
end
theorem cat3 {W : World} {g n1 n2 n3 c1 c2 c3 N : Nat} {A1 A2 A3 : Option Addr} {x1 x2 x3 : List Value} (hb : Blk W g 22 #[.slice A1 n1 c1, .slice A2 n2 c2, .slice A3 n3 c3]) (h1 : Sl W 1 A1 n1 x1) (h2 : Sl W 1 A2 n2 x2) (h3 : Sl W 1 A3 n3 x3)
  (o1 : ∀ u ∈ x1, u.oneCell' = true) (o2 : ∀ u ∈ x2, u.oneCell' = true) (o3 : ∀ u ∈ x3, u.oneCell' = true) (hn : n1 + n2 + n3 ≤ 1000) (hN : n1 + (n2 + n3) = N) :
  Calls Tryz.prog 141 #[.slice (some ⟨g, 0, none⟩) 3 3] W fun e w' => OwnOut W w' 3 1 N (x1 ++ (x2 ++ x3)) (fun A c => .slice A N c) e := by
 have e : catL [⟨.slice A1 n1 c1, x1⟩, ⟨.slice A2 n2 c2, x2⟩, ⟨.slice A3 n3 c3, x3⟩] = x1 ++ (x2 ++ x3) := by simp [catL]
 have := bconcat_any g 3 3 N [⟨.slice A1 n1 c1, x1⟩, ⟨.slice A2 n2 c2, x2⟩, ⟨.slice A3 n3 c3, x3⟩] W hb rfl (by omega) (fun it hit => by
  simp only [List.mem_cons, List.not_mem_nil, or_false] at hit
  rcases hit with rfl | rfl | rfl
  ·exact ⟨A1, n1, c1, rfl, h1, o1, by omega⟩
  ·exact ⟨A2, n2, c2, rfl, h2, o2, by omega⟩
  ·exact ⟨A3, n3, c3, rfl, h3, o3, by omega⟩) (by rw [e, List.length_append, List.length_append]; have := h1.1; have := h2.1; have := h3.1; omega)
 rw [e] at this
 exact this
theorem cat2 {W : World} {g n1 n2 c1 c2 N : Nat} {A1 A2 : Option Addr} {x1 x2 : List Value} (hb : Blk W g 22 #[.slice A1 n1 c1, .slice A2 n2 c2]) (h1 : Sl W 1 A1 n1 x1) (h2 : Sl W 1 A2 n2 x2)
  (o1 : ∀ u ∈ x1, u.oneCell' = true) (o2 : ∀ u ∈ x2, u.oneCell' = true) (hn : n1 + n2 ≤ 1000) (hN : n1 + n2 = N) :
  Calls Tryz.prog 141 #[.slice (some ⟨g, 0, none⟩) 2 2] W fun e w' => OwnOut W w' 3 1 N (x1 ++ x2) (fun A c => .slice A N c) e := by
 have e : catL [⟨.slice A1 n1 c1, x1⟩, ⟨.slice A2 n2 c2, x2⟩] = x1 ++ x2 := by simp [catL]
 have := bconcat_any g 2 2 N [⟨.slice A1 n1 c1, x1⟩, ⟨.slice A2 n2 c2, x2⟩] W hb rfl (by omega) (fun it hit => by
  simp only [List.mem_cons, List.not_mem_nil, or_false] at hit
  rcases hit with rfl | rfl
  ·exact ⟨A1, n1, c1, rfl, h1, o1, by omega⟩
  ·exact ⟨A2, n2, c2, rfl, h2, o2, by omega⟩) (by rw [e, List.length_append]; have := h1.1; have := h2.1; omega)
 rw [e] at this
 exact this
structure MgS (w W : World) (t p root : Nat) (F : Nat → Prop) (x : Rp) (N1 N2 N3 N1' N2' : Nat → Prop) (bb q2 : Nat) (nb : Nd) (ba q1 : Nat) (vk vv vc : Value) (lk lv lc : List Value) (bn qn : Nat) (uk uv uc : Value) (mk mv mc : List Value) : Prop where
 mg : Mg W t p root F x N1' N2' N3 bb q2 nb
 a : NdV W N2' ba q1 vk vv vc lk lv lc
 n : NdV W N1' bn qn uk uv uc mk mv mc
 ch : Chg (fun j => N1 j ∨ N2 j) w W
 n1 : ∀ j, N1' j → N1 j ∨ w.heap.size ≤ j
 n2 : ∀ j, N2' j → N2 j ∨ w.heap.size ≤ j
section
variable {w W W1 w2 W3 : World} {t p root bb q2 ba q1 bn qn : Nat} {F N1 N2 N3 N1' N2' : Nat → Prop} {x : Rp} {nb : Nd} {vk vv vc uk uv uc v' : Value} {lk lv lc mk mv mc l' : List Value}
theorem MgS.start (h1 : Mg w t p root F x N1 N2 N3 bb q2 nb) (h2 : NdV w N2 ba q1 vk vv vc lk lv lc) (h3 : NdV w N1 bn qn uk uv uc mk mv mc) : MgS w w t p root F x N1 N2 N3 N1 N2 bb q2 nb ba q1 vk vv vc lk lv lc bn qn uk uv uc mk mv mc :=
 ⟨h1, h2, h3, Chg.refl _ _, fun _ h => .inl h, fun _ h => .inl h⟩
theorem new_ap {base : Nat} {v v' : Value} {n : Nat} {xs : List Value} (hg : Grew W1 w2) (ho : w2.ownsRow W1.heap.size 3 1 v' n xs) (hb : base = W1.heap.size) : Ap W1 w2 v v' :=
 ⟨hg.chg, fun j hj => .inr (ho.lt j hj).1⟩
theorem MgS.aset (s : MgS w W t p root F x N1 N2 N3 N1' N2' bb q2 nb ba q1 vk vv vc lk lv lc bn qn uk uv uc mk mv mc) (hg1 : Grew W W1) (hg2 : Grew W1 w2) (hlt : ∀ g, v'.ownBlock = some g → W.heap.size ≤ g ∧ g < w2.heap.size) (hc3 : Chg (fun j => j = ba) w2 W3) :
  Mg W3 t p root F x N1' (fun j => N2' j ∨ v'.ownBlock = some j) N3 bb q2 nb ∧ NdV W3 N1' bn qn uk uv uc mk mv mc ∧ Chg (fun j => N1 j ∨ N2 j) w W3 ∧ ∀ j, (N2' j ∨ v'.ownBlock = some j) → N2 j ∨ w.heap.size ≤ j := by
 have hc : Chg (fun j => j = ba) W W3 := Grew.then (Grew.trans hg1 hg2) hc3
 have hba : ba < W.heap.size := s.a.blk.lt
 have hz := hc3.size
 have hz0 := s.ch.size
 have hzg := (Grew.trans hg1 hg2).size
 have hn1l := s.n.lt
 have hn2l := s.a.lt
 refine ⟨s.mg.turn hc (fun j hj => .inr (hj ▸ s.a.nb)) (fun j hj => .inl hj) (fun j hj => hj.imp id fun e => (hlt j e).1) (fun j hj e => ?_) (fun j hj => by have := hn1l j hj; omega) (fun j hj => ?_), s.n.chg hc fun j hj e => s.mg.d12 j hj (e ▸ s.a.nb), Chg.trans s.ch hc fun j hj e => ?_, fun j hj => ?_⟩
 ·rcases e with e | e
  ·exact s.mg.d12 j hj e
  ·have := (hlt j e).1; have := hn1l j hj; omega
 ·rcases hj with e | e
  ·have := hn2l j e; omega
  ·have := (hlt j e).2; omega
 ·subst e
  exact .inr ((s.n2 _ s.a.nb).resolve_right (by omega))
 ·rcases hj with e | e
  ·exact s.n2 j e
  ·have := (hlt j e).1; exact .inr (by omega)
theorem MgS.aK (s : MgS w W t p root F x N1 N2 N3 N1' N2' bb q2 nb ba q1 vk vv vc lk lv lc bn qn uk uv uc mk mv mc) (hg1 : Grew W W1) (hg2 : Grew W1 w2) (ho : w2.ownsRow W1.heap.size 3 1 v' l'.length l') (hW : w2.setCell ⟨ba, 1, none⟩ v' = W3) (hp : 1 ≤ W1.heap.size) :
  MgS w W3 t p root F x N1 N2 N3 N1' (fun j => N2' j ∨ v'.ownBlock = some j) bb q2 nb ba q1 v' vv vc l' lv lc bn qn uk uv uc mk mv mc := by
 have hz := hg1.size
 obtain ⟨h1, h2, h3, h4⟩ := s.aset hg1 hg2 (fun g hg => by have := ho.lt g hg; omega) (hW ▸ (Chg.refl (fun j => j = ba) w2).setCell (p := ⟨ba, 1, none⟩) (fun _ => rfl) v')
 exact ⟨h1, (s.a.chg hg1 fun _ _ => id).setK (new_ap hg2 ho rfl) (own_base ho hp) hW, h2, h3, s.n1, h4⟩
theorem MgS.aV (s : MgS w W t p root F x N1 N2 N3 N1' N2' bb q2 nb ba q1 vk vv vc lk lv lc bn qn uk uv uc mk mv mc) (hg1 : Grew W W1) (hg2 : Grew W1 w2) (ho : w2.ownsRow W1.heap.size 3 1 v' l'.length l') (hW : w2.setCell ⟨ba, 2, none⟩ v' = W3) (hp : 1 ≤ W1.heap.size) :
  MgS w W3 t p root F x N1 N2 N3 N1' (fun j => N2' j ∨ v'.ownBlock = some j) bb q2 nb ba q1 vk v' vc lk l' lc bn qn uk uv uc mk mv mc := by
 have hz := hg1.size
 obtain ⟨h1, h2, h3, h4⟩ := s.aset hg1 hg2 (fun g hg => by have := ho.lt g hg; omega) (hW ▸ (Chg.refl (fun j => j = ba) w2).setCell (p := ⟨ba, 2, none⟩) (fun _ => rfl) v')
 exact ⟨h1, (s.a.chg hg1 fun _ _ => id).setV (new_ap hg2 ho rfl) (own_base ho hp) hW, h2, h3, s.n1, h4⟩
theorem MgS.aC (s : MgS w W t p root F x N1 N2 N3 N1' N2' bb q2 nb ba q1 vk vv vc lk lv lc bn qn uk uv uc mk mv mc) (hg1 : Grew W W1) (hg2 : Grew W1 w2) (ho : w2.ownsRow W1.heap.size 3 1 v' l'.length l') (hW : w2.setCell ⟨ba, 3, none⟩ v' = W3) (hp : 1 ≤ W1.heap.size) :
  MgS w W3 t p root F x N1 N2 N3 N1' (fun j => N2' j ∨ v'.ownBlock = some j) bb q2 nb ba q1 vk vv v' lk lv l' bn qn uk uv uc mk mv mc := by
 have hz := hg1.size
 obtain ⟨h1, h2, h3, h4⟩ := s.aset hg1 hg2 (fun g hg => by have := ho.lt g hg; omega) (hW ▸ (Chg.refl (fun j => j = ba) w2).setCell (p := ⟨ba, 3, none⟩) (fun _ => rfl) v')
 exact ⟨h1, (s.a.chg hg1 fun _ _ => id).setC (new_ap hg2 ho rfl) (own_base ho hp) hW, h2, h3, s.n1, h4⟩
theorem MgS.nset {uk' uv' uc' : Value} {mk' mv' mc' : List Value} {N1'' : Nat → Prop} (s : MgS w W t p root F x N1 N2 N3 N1' N2' bb q2 nb ba q1 vk vv vc lk lv lc bn qn uk uv uc mk mv mc) (hc : Chg N1' W W3) (hn : NdV W3 N1'' bn qn uk' uv' uc' mk' mv' mc') (h1 : ∀ j, N1'' j → N1' j ∨ W.heap.size ≤ j) :
  MgS w W3 t p root F x N1 N2 N3 N1'' N2' bb q2 nb ba q1 vk vv vc lk lv lc bn qn uk' uv' uc' mk' mv' mc' := by
 have hz0 := s.ch.size
 have hz := hc.size
 have hn2l := s.a.lt
 refine ⟨s.mg.turn hc (fun j hj => .inl hj) h1 (fun j hj => .inl hj) (fun j hj e => ?_) hn.lt (fun j hj => by have := hn2l j hj; omega), s.a.chg hc fun j hj e => s.mg.d12 j e hj, hn, Chg.trans s.ch hc fun j hj e => .inl ((s.n1 j e).resolve_right (by omega)), fun j hj => ?_, s.n2⟩
 ·rcases h1 j hj with e2 | e2
  ·exact s.mg.d12 j e2 e
  ·have := hn2l j e; omega
 ·rcases h1 j hj with e2 | e2
  ·exact s.n1 j e2
  ·exact .inr (by omega)
end
theorem eraseIdx_mem {α : Type} {l : List α} {i : Nat} {a : α} (h : a ∈ l.eraseIdx i) : a ∈ l := List.mem_of_mem_eraseIdx h
theorem Nd.del_fit {nd : Nd} {sz i : Nat} (f : nd.Fit sz) (hi : i < nd.keys.length) (hc : nd.kids.length = nd.keys.length + 1) : (⟨nd.keys.eraseIdx i, nd.vals.eraseIdx i, nd.kids.eraseIdx (i + 1)⟩ : Nd).Fit sz := by
 have hv := f.vals
 have hm := f.most
 have l1 : (nd.keys.eraseIdx i).length = nd.keys.length - 1 := List.length_eraseIdx_of_lt hi
 have l2 : (nd.vals.eraseIdx i).length = nd.vals.length - 1 := List.length_eraseIdx_of_lt (by omega)
 have l3 : (nd.kids.eraseIdx (i + 1)).length = nd.kids.length - 1 := List.length_eraseIdx_of_lt (by omega)
 exact ⟨by simp only; omega, by simp only; omega, .inr (by simp only; omega), fun k hk => f.ki k (eraseIdx_mem hk), fun k hk => f.vi k (eraseIdx_mem hk), fun k hk => f.ci k (eraseIdx_mem hk)⟩
theorem Rp.put_usedF {x : Rp} {q : Nat} {c0 : Pk} (h : x.now[q]? = some c0) (u : c0.used = true) : (x.put q .no).now.countP Pk.used + 1 = x.now.countP Pk.used := by
 have := Rp.put_used (c := .no) h
 rw [u] at this
 simpa [Pk.used] using this
theorem Rp.put_keep {x : Rp} {q i : Nat} {c c0 : Pk} (h : x.now[i]? = some c0) (e : i ≠ q) : (x.put q c).now[i]? = some c0 := by
 unfold Rp.put
 simp only
 rw [List.getElem?_set_ne (Ne.symm e)]
 exact h
section
variable {w W : World} {t p root bn ba g qn q1 q2 c : Nat} {F F1 N1' N2 N2' G : Nat → Prop} {x : Rp} {one nd' : Nd} {cn c1 c2 : Pk} {last : Prop}
theorem merge_all (hbt : BT W t p root F1 (x.put q2 .no)) (ho : x.was ≠ none) (hqn : x.now[qn]? = some cn) (un : cn.used = true) (hq1 : x.now[q1]? = some c1) (u1 : c1.used = true) (hq2 : x.now[q2]? = some c2) (u2 : c2.used = true) (e12 : q1 ≠ q2) (e1n : q1 ≠ qn) (e2n : q2 ≠ qn)
  (hA : NdOwn W N2' ba q1 one) (hN : NdOwn W N1' bn qn nd') (fA : one.Fit x.sz) (fN : nd'.Fit x.sz) (d1 : ∀ j, N1' j → ¬ F1 j) (d2 : ∀ j, N2' j → ¬ F1 j)
  (hs : Sl W 1 (some ⟨g, 0, none⟩) 2 [.pointer (some ⟨ba, 0, none⟩), .pointer (some ⟨bn, 0, none⟩)]) (hg : ¬ F1 g) (hc : Chg G w W) (hF1 : ∀ j, F1 j → F j ∨ w.heap.size ≤ j) (hGF : ∀ j, F j → G j) (hN2 : ∀ j, N2' j → N2 j ∨ w.heap.size ≤ j) (hz : x.sz ≤ 4096) (hl : ¬ last) :
  Calls Tryz.prog 88 #[.pointer (some ⟨t, 0, none⟩), .slice (some ⟨g, 0, none⟩) 2 c] W fun e w' => MgOut G w w' t p root ba qn q1 q2 F N2 x one nd' last e := by
 have hgW : g < W.heap.size := by obtain ⟨b, o, e, hb, -⟩ := hs.2 (by omega); cases e; exact hb
 have n1 := Rp.put_keep (c := .no) hqn (Ne.symm e2n)
 have k1 := Rp.put_keep (c := .no) hq1 e12
 have l1 := (List.getElem?_eq_some_iff.1 k1).1
 have ln := (List.getElem?_eq_some_iff.1 n1).1
 have uf := Rp.put_usedF hq2 u2
 have hal := ball_any t p root g 2 c F1 (x.put q2 .no) [⟨ba, N2', q1, one⟩, ⟨bn, N1', qn, nd'⟩] W hbt ho (fun it hit => by
  simp only [List.mem_cons, List.not_mem_nil, or_false] at hit
  rcases hit with rfl | rfl
  ·exact ⟨hA.at, fA, ⟨_, k1, u1⟩, d2⟩
  ·exact ⟨hN.at, fN, ⟨_, n1, un⟩, d1⟩) rfl (by omega) hs hg hgW
 refine hal.mono ?_
 have hsz := hc.size
 have hAlt := hA.at.lt
 rintro e w' (⟨rfl, F2, h1, h2, h3⟩ | ⟨rfl, z, ⟨F2, h1, h2, h3⟩, h4, h5, h6⟩)
 ·refine .inl ⟨rfl, _, F2, N2', h1, Chg.trans hc h2 fun j hj e => hGF j ((hF1 j e).resolve_right (by omega)), fun j hj => (h3 j hj).elim (hF1 j) fun e => .inr (by omega), fun j hj e => (h3 j e).elim (d2 j hj) fun e => by have := hAlt j hj; omega, hN2, (x.put_like _ _).trans (putAll_like _ _), .inr ⟨hl, hA.chg h2 d2, ?_, ?_, fun i i1 i2 i3 => ?_, ?_⟩⟩
  ·show ((((x.put q2 .no).put q1 (.new (ndL one x.sz))).put qn (.new (ndL nd' x.sz)))).nd q1 = _
   rw [Rp.nd_other e1n]
   exact Rp.nd_new (x := x.put q2 .no) fA l1 hz
  ·show ((((x.put q2 .no).put q1 (.new (ndL one x.sz))).put qn (.new (ndL nd' x.sz)))).nd qn = _
   exact Rp.nd_new (x := (x.put q2 .no).put q1 (.new (ndL one x.sz))) fN (by rw [Rp.put_len]; exact ln) hz
  ·show ((((x.put q2 .no).put q1 (.new (ndL one x.sz))).put qn (.new (ndL nd' x.sz)))).nd i = _
   rw [Rp.nd_other i3, Rp.nd_other i1, Rp.nd_other i2]
  ·show ((((x.put q2 .no).put q1 (.new (ndL one x.sz))).put qn (.new (ndL nd' x.sz)))).now.countP Pk.used + 1 = _
   have v1 := Rp.put_usedU (c := .new (ndL one x.sz)) k1 u1 rfl
   have n2 := Rp.put_keep (c := .new (ndL one x.sz)) n1 (Ne.symm e1n)
   have v2 := Rp.put_usedU (c := .new (ndL nd' x.sz)) n2 un rfl
   omega
 ·exact .inr ⟨rfl, z, F2, h1, Chg.trans hc h2 fun j hj e => hGF j ((hF1 j e).resolve_right (by omega)), fun j hj => (h3 j hj).elim (hF1 j) fun e => .inr (by omega), (x.put_like _ _).trans h4, by omega, h6⟩
theorem merge_save (hbt : BT W t p root F1 ((x.put q2 .no).put q1 .no)) (ho : x.was ≠ none) (hqn : x.now[root]? = some cn) (un : cn.used = true) (hq1 : x.now[q1]? = some c1) (u1 : c1.used = true) (hq2 : x.now[q2]? = some c2) (u2 : c2.used = true) (e12 : q1 ≠ q2) (e1n : q1 ≠ root) (e2n : q2 ≠ root)
  (hA : NdOwn W N2' ba root one) (fA : one.Fit x.sz) (d2 : ∀ j, N2' j → ¬ F1 j)
  (hc : Chg G w W) (hF1 : ∀ j, F1 j → F j ∨ w.heap.size ≤ j) (hGF : ∀ j, F j → G j) (hN2 : ∀ j, N2' j → N2 j ∨ w.heap.size ≤ j) (hz : x.sz ≤ 4096) (hl : last) :
  Calls Tryz.prog 37 #[.pointer (some ⟨t, 0, none⟩), .pointer (some ⟨ba, 0, none⟩)] W fun e w' => MgOut G w w' t p root ba qn q1 q2 F N2 x one nd' last e := by
 have n1 := Rp.put_keep (c := .no) hqn (Ne.symm e2n)
 have n2 := Rp.put_keep (c := .no) n1 (Ne.symm e1n)
 have k1 := Rp.put_keep (c := .no) hq1 e12
 have ln := (List.getElem?_eq_some_iff.1 n2).1
 have uf := Rp.put_usedF hq2 u2
 have uf2 := Rp.put_usedF k1 u1
 have hbF : ¬ F1 ba := d2 _ (by obtain ⟨vk, vv, vc, hV⟩ := hA.v; exact hV.nb)
 have hsv := bsave_any t p root ba root F1 N2' ((x.put q2 .no).put q1 .no) cn one W hbt hA.at fA ho n2 un hbF
 refine hsv.mono ?_
 have hsz := hc.size
 have hAlt := hA.at.lt
 rintro e w' (⟨rfl, F2, h1, h2, h3⟩ | ⟨hns, -, rfl, hg⟩)
 ·refine .inl ⟨rfl, _, F2, N2', h1, Chg.trans hc h2 fun j hj e => hGF j ((hF1 j e).resolve_right (by omega)), fun j hj => (h3 j hj).elim (hF1 j) fun e => .inr (by omega), fun j hj e => (h3 j e).elim (d2 j hj) fun e => by have := hAlt j hj; omega, hN2, ((x.put_like _ _).trans (Rp.put_like _ _ _)).trans (Rp.put_like _ _ _), .inl ⟨hl, hA.chg h2 d2, ?_, fun i i1 i2 i3 => ?_, ?_⟩⟩
  ·exact Rp.nd_new (x := (x.put q2 .no).put q1 .no) fA ln hz
  ·rw [Rp.nd_other i3, Rp.nd_other i1, Rp.nd_other i2]
  ·have v2 := Rp.put_usedU (c := .new (ndL one ((x.put q2 .no).put q1 .no).sz)) n2 un rfl
   omega
 ·exact .inr ⟨rfl, _, F1, hbt.grew hg, Chg.trans hc hg.chg fun j hj e => hGF j ((hF1 j e).resolve_right (by omega)), hF1, (x.put_like _ _).trans (Rp.put_like _ _ _), by omega, fun e => hns e.1⟩
end
theorem NdV.page {W W2 : World} {N : Nat → Prop} {b q q' : Nat} {vk vv vc : Value} {lk lv lc : List Value} (h : NdV W N b q vk vv vc lk lv lc) (hW : W.setCell ⟨b, 0, none⟩ (.int .i64 q') = W2) : NdV W2 N b q' vk vv vc lk lv lc ∧ Chg (fun j => j = b) W W2 := by
 obtain ⟨e1, e2, e3⟩ := h.ne
 have hc : Chg (fun j => j = b) W W2 := hW ▸ (Chg.refl (fun j => j = b) W).setCell (p := ⟨b, 0, none⟩) (fun _ => rfl) _
 have hz := hc.size
 refine ⟨⟨?_, own_chg h.rk hc fun g hg e => e1 (e ▸ hg), own_chg h.rv hc fun g hg e => e2 (e ▸ hg), own_chg h.rc hc fun g hg e => e3 (e ▸ hg), h.nb, h.nk, h.nv, h.nc, fun j hj => Nat.lt_of_lt_of_le (h.lt j hj) hz, h.kv, h.kc, h.vc_⟩, hc⟩
 subst hW
 have := h.blk.put 0 (.int .i64 q')
 simpa using this
def NdRd (W : World) (N : Nat → Prop) (b q : Nat) (nd : Nd) (Ak : Option Addr) (ck : Nat) (Av : Option Addr) (cv : Nat) (Ac : Option Addr) (cc : Nat) : Prop :=
 Blk W b 73 #[.int .i64 q, .slice Ak nd.keys.length ck, .slice Av nd.vals.length cv, .slice Ac nd.kids.length cc] ∧
  Sl W 1 Ak nd.keys.length (iv nd.keys) ∧ Sl W 1 Av nd.vals.length (iv nd.vals) ∧ Sl W 1 Ac nd.kids.length (nv nd.kids) ∧
  N b ∧ (∀ a, Ak = some a → N a.block) ∧ (∀ a, Av = some a → N a.block) ∧ (∀ a, Ac = some a → N a.block)
theorem NdAt.rd {W : World} {N : Nat → Prop} {b q : Nat} {nd : Nd} (h : NdAt W N b q nd) : ∃ Ak ck Av cv Ac cc, NdRd W N b q nd Ak ck Av cv Ac cc := by
 obtain ⟨Ak, ck, Av, cv, Ac, cc, h1, h2, h3, h4, h5, h6, h7, h8, h9⟩ := h
 exact ⟨Ak, ck, Av, cv, Ac, cc, h1, h2, h3, h4, h5, h6, h7, h8⟩
theorem NdRd.chg {W W' : World} {N G : Nat → Prop} {b q : Nat} {nd : Nd} {Ak Av Ac : Option Addr} {ck cv cc : Nat} (h : NdRd W N b q nd Ak ck Av cv Ac cc) (hc : Chg G W W') (hG : ∀ j, N j → ¬ G j) : NdRd W' N b q nd Ak ck Av cv Ac cc := by
 obtain ⟨h1, h2, h3, h4, h5, h6, h7, h8⟩ := h
 exact ⟨h1.chg hc (hG _ h5), h2.chg hc fun a ha => hG _ (h6 a ha), h3.chg hc fun a ha => hG _ (h7 a ha), h4.chg hc fun a ha => hG _ (h8 a ha), h5, h6, h7, h8⟩
end Go.Proofs.YtpkkcicaeldodaaGreatDoor
