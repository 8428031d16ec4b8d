/- Texts 4 of 7 that the proof of Each stands on. -/
import Derived.Test.YtpkkcicaeldodaaGreatDoorMgEach3
import Derived.Sort.LoopGhostIn
import Derived.BigGuardIn
import Derived.Maps.OwnIn
import Derived.Deep.LoopGhost
import Derived.Test.YtpkkcicaeldodaaGreatDoorRows
import Derived.Shelf.Sort.Plain
import Derived.Lib.SortBridge
import Derived.Lib.AppendZerosOnto
set_option linter.unusedSimpArgs false
set_option linter.unusedVariables false

namespace Go.Proofs.YtpkkcicaeldodaaGreatDoor
open Go.RowKit Go.Maps

theorem NdOwn.rows {W : World} {N : Nat → Prop} {b q : Nat} {nd : Nd} (h : NdOwn W N b q nd) (h1 : 0 < nd.keys.length) (h2 : 0 < nd.vals.length) :
  ∃ gk ck gv cv Ac cc, Blk W b 73 #[.int .i64 q, .slice (some ⟨gk, 0, none⟩) nd.keys.length ck, .slice (some ⟨gv, 0, none⟩) nd.vals.length cv, .slice Ac nd.kids.length cc] ∧ Sl W 1 (some ⟨gk, 0, none⟩) nd.keys.length (iv nd.keys) ∧ Sl W 1 (some ⟨gv, 0, none⟩) nd.vals.length (iv nd.vals) ∧ Sl W 1 Ac nd.kids.length (nv nd.kids) ∧ N b ∧ N gk ∧ N gv ∧ (∀ a, Ac = some a → N a.block ∧ a.off = 0 ∧ a.spot = none) ∧ (nd.keys.length ≤ ck ∧ nd.vals.length ≤ cv ∧ nd.kids.length ≤ cc) ∧ gk ≠ b ∧ gv ≠ b ∧ ∀ a, Ac = some a → a.block ≠ b := by
 obtain ⟨Ak, ck, Av, cv, Ac, cc, b1, b2, b3, b4, b5, b6, b7, b8, -⟩ := h
 obtain ⟨gk, rfl, -⟩ := own_block b2 h1
 obtain ⟨gv, rfl, -⟩ := own_block b3 h2
 have k1 : nd.keys.length ≤ ck := by obtain ⟨cur, -, -, h3, -⟩ := own_row b2; exact h3
 have k2 : nd.vals.length ≤ cv := by obtain ⟨cur, -, -, h3, -⟩ := own_row b3; exact h3
 have k3 : nd.kids.length ≤ cc := by obtain ⟨A', c', e, h3⟩ := own_shape b4; cases e; exact h3
 refine ⟨gk, ck, gv, cv, Ac, cc, b1, Sl.of_own b2, Sl.of_own b3, Sl.of_own b4, b5, b6 _ rfl, b7 _ rfl, fun a ha => ⟨b8 a ha, ?_⟩, ⟨k1, k2, k3⟩, fun e => own_blk_ne b2 b1 (by decide) (by rw [own_blockOf b2 _ rfl, e]), fun e => own_blk_ne b3 b1 (by decide) (by rw [own_blockOf b3 _ rfl, e]), fun a ha e => own_blk_ne b4 b1 (by decide) (by rw [own_blockOf b4 a ha, e])⟩
 subst ha
 obtain ⟨g, rfl, -⟩ := own_some b4
 exact ⟨rfl, rfl⟩

set_option maxRecDepth 100000 in
set_option maxHeartbeats 3200000 in
theorem bsplit_any (t p root bn qn i bk qk h : Nat) (F N1 N2 : Nat → Prop) (x : Rp) (nd kd : Nd) (w : World) (hs : Sp w t p root F x N1 N2 bk qk kd) (hn : NdOwn w N1 bn qn nd) (hh : halfN x.sz = h) (h2 : 2 ≤ h) (ho : x.was ≠ none)
  (hf : kd.keys.length = 2 * h - 1) (hkv : kd.vals.length = 2 * h - 1) (hkc : kd.kids.length = 0 ∨ kd.kids.length = 2 * h) (hnl : nd.keys.length + 1 ≤ 2 * h - 1) (hnv : nd.vals.length = nd.keys.length) (hnc : nd.kids.length = nd.keys.length + 1) (hi : i ≤ nd.keys.length)
  (fn : nd.Fit x.sz) (fk : kd.Fit x.sz) (hpn : ∃ c, x.now[qn]? = some c ∧ c.used = true) (hpk : ∃ c, x.now[qk]? = some c ∧ c.used = true) (h2t : ¬ N2 t ∧ ¬ N2 0) :
  Calls Tryz.prog 43 #[.pointer (some ⟨t, 0, none⟩), .pointer (some ⟨bn, 0, none⟩), .int .i64 i, .pointer (some ⟨bk, 0, none⟩)] w fun e w' => SplOut (fun j => F j ∨ N1 j ∨ N2 j) w w' t p root bn qn i qk h F N1 x nd kd e := by
 have HX := Lib.hid (And.intro fn (And.intro fk (And.intro hpn (And.intro hpk h2t))))
 clear fn fk hpn hpk h2t
 have hz := hs.bt.gp.szs
 have h300 : h ≤ 300 := by rw [← hh]; unfold halfN mostN; omega
 have hhf := bhalf_any t p root F x w hs.bt
 rw [hh] at hhf
 have hal := gp_alloc_any p F x w hs.bt.gp ho
 obtain ⟨c0, f0, s0⟩ := hs.bt.blk.facts
 have H := Lib.hid (And.intro hhf (And.intro hal (And.intro hs (And.intro hn ho))))
 clear hhf hal hs hn ho hh hz
 go_enter Tryz.func43, Tryz.ntmps43
 go_wp2_with (go_at_call 71; (refine H.out.1.mono ?_); rintro e w1 ⟨rfl, rfl⟩)
 refine H.out.2.1.mono ?_
 rintro e w1 (⟨r, hr, hrf, rfl, hto⟩ | ⟨hno, rfl, hg1⟩)
 rotate_left
 ·have HN := Lib.hid (And.intro hno hg1)
  clear hno hg1
  go_wp2_with fail
  go_ret
  exact .inr ⟨rfl, x, F, H.out.2.2.1.bt.grew HN.out.2, HN.out.2.chg, fun _ e => .inl e, Rp.like.refl x, by omega, fun e => HN.out.1 ⟨by omega, e.2⟩⟩
 obtain ⟨F1, hs1, hrch⟩ := H.out.2.2.1.to hto
 have hr4 : r < 4096 := by have h1 := (List.getElem?_eq_some_iff.1 hr).1; have := H.out.2.2.1.bt.gp.szs; omega
 obtain ⟨gk, ck, gv, cv, Ac, cc, b1, b2, b3, b4, b5, b6, b7, b8, ⟨b9, b10, b11⟩, b12⟩ := hs1.kd.rows (by omega) (by omega)
 have hd1 : w1.drew.cell? ⟨bk, 1, none⟩ = some (.slice (some ⟨gk, 0, none⟩) kd.keys.length ck) ∧ w1.drew.cell? ⟨bk, 2, none⟩ = some (.slice (some ⟨gv, 0, none⟩) kd.vals.length cv) := ⟨b1.drew.cell 1, b1.drew.cell 2⟩
 have H1 := Lib.hid (And.intro hs1 (And.intro hrch (And.intro b1 (And.intro b2 (And.intro b3 (And.intro b4 (And.intro b5 (And.intro b6 (And.intro b7 (And.intro b8 (And.intro hr (And.intro hrf (And.intro b11 b12)))))))))))))
 have s1 : ¬ ck = h := by omega
 have s2 : ¬ cv = h := by omega
 have s3 : (h : Int) ≤ ((2 * h - 1 : Nat) : Int) := by omega
 have hkl : Sl w1 1 (some ⟨gk, h, none⟩) (h - 1) ((iv kd.keys).drop h) := by
  have h9 := Sl.cut (H1.out.2.2.2.1) h (h - 1) (by omega)
  rw [List.take_of_length_le (by rw [List.length_drop, iv_len]; omega), Nat.zero_add] at h9
  exact h9
 have hvl : Sl w1 1 (some ⟨gv, h, none⟩) (h - 1) ((iv kd.vals).drop h) := by
  have h9 := Sl.cut (H1.out.2.2.2.2.1) h (h - 1) (by omega)
  rw [List.take_of_length_le (by rw [List.length_drop, iv_len]; omega), Nat.zero_add] at h9
  exact h9
 have HKL := Lib.hid (And.intro hkl hvl)
 have hck : h - 1 ≤ ck := by omega
 have hcv : h - 1 ≤ cv := by omega
 clear hs1 hrch b1 b2 b3 b4 b5 b6 b7 b8 b12 hr hrf hto c0 f0 s0 hkl hvl
 rw [hf] at hd1
 rw [hkv] at hd1
 go_wp2_with fail
 refine wp_region_held_drew (S := fun w' => w'.cell? ⟨bk, 1, none⟩ = some (.slice (some ⟨gk, 0, none⟩) (2 * h - 1) ck) ∧ w'.cell? ⟨bk, 2, none⟩ = some (.slice (some ⟨gv, 0, none⟩) (2 * h - 1) cv)) (by kernel_rfl) hd1 (fun hHeld => ?_)
 refine Todo.out (is := [0, 1, 2, 3, 4, 5, 6, 8, 9, 10, 11, 12, 13]) ?_
 repeat
  refine tkH (v := ?_) rfl (by kernel_rfl) (by kernel_rfl) (by kernel_rfl) (fun _ _ _ h => h) (Or.inl ⟨by rfl, ?_⟩) hHeld ?_
  rotate_left
  ·(intro w hSw; (try dsimp only at hSw); go_simp) <;> with_reducible rfl
  (try simp only [Act.put, lA, lB, lC, lD, lE, lF])
 refine Todo.fin ?_
 refine rdH (i := 7) (by kernel_rfl) rfl fun K hK => ?_
 go_simp
 have s4 : 2 * h - 1 - h = h - 1 := by omega
 rw [s4]
 refine (bclone_int gk h (h - 1) (ck - h) _ w1.drew (HKL.out.1.grew ((Chg.refl _ _).drew)) (fun u hu => iv_one _ u (List.mem_of_mem_drop hu)) (by omega) (by omega)).mono ?_
 rintro e w3 ⟨A3, c3, rfl, ho3, hg3⟩
 have hd3 : w3.cell? ⟨bk, 1, none⟩ = some (.slice (some ⟨gk, 0, none⟩) (2 * h - 1) ck) ∧ w3.cell? ⟨bk, 2, none⟩ = some (.slice (some ⟨gv, 0, none⟩) (2 * h - 1) cv) := ⟨(hg3.cell (p := ⟨bk, 1, none⟩) H1.out.2.2.1.drew.lt id).trans hd1.1, (hg3.cell (p := ⟨bk, 2, none⟩) H1.out.2.2.1.drew.lt id).trans hd1.2⟩
 refine hK.out _ _ hd3 (fun _ => ?_)
 clear hK K
 (try simp only [Act.put, lA, lB, lC, lD, lE, lF])
 refine rdH (i := 14) (by kernel_rfl) rfl fun K hK => ?_
 go_simp
 refine (bclone_int gv h (h - 1) (cv - h) _ w3 (HKL.out.2.grew (Grew.trans ((Chg.refl _ _).drew) hg3)) (fun u hu => iv_one _ u (List.mem_of_mem_drop hu)) (by omega) (by omega)).mono ?_
 rintro e w4 ⟨A4, c4, rfl, ho4, hg4⟩
 have hd4 : w4.cell? ⟨bk, 1, none⟩ = some (.slice (some ⟨gk, 0, none⟩) (2 * h - 1) ck) ∧ w4.cell? ⟨bk, 2, none⟩ = some (.slice (some ⟨gv, 0, none⟩) (2 * h - 1) cv) := ⟨(hg4.cell (p := ⟨bk, 1, none⟩) (H1.out.2.2.1.drew.grew hg3).lt id).trans hd3.1, (hg4.cell (p := ⟨bk, 2, none⟩) (H1.out.2.2.1.drew.grew hg3).lt id).trans hd3.2⟩
 have H4 := Lib.hid (And.intro ho3 (And.intro ho4 (And.intro (Grew.trans ((Chg.refl NoF w1).drew) hg3) hg4)))
 clear ho3 ho4 hg3 hg4 hd3
 refine hK.out _ _ hd4 (fun _ => ?_)
 clear hK K
 (try simp only [Act.put, lA, lB, lC, lD, lE, lF])
 refine wpAnyH_take (i := 15) (v := ?_) rfl (by kernel_rfl) (by kernel_rfl) (by kernel_rfl) (fun _ _ _ h => h) (Or.inl ⟨by rfl, ?_⟩) hd4 ?_
 rotate_left
 ·(intro w hSw; (try dsimp only at hSw); go_simp) <;> with_reducible rfl
 (try simp only [Act.put, lA, lB, lC, lD, lE, lF])
 refine rdH (i := 16) (by kernel_rfl) rfl fun K hK => ?_
 go_simp
 obtain ⟨W5, hW5⟩ : ∃ W, w4.alloc (.cells #[.int .i64 r, .slice A3 (h - 1) c3, .slice A4 (h - 1) c4, .slice none 0 0] 73) = W := ⟨_, rfl⟩
 rw [hW5]
 obtain ⟨R, hR⟩ : ∃ R, w4.heap.size = R := ⟨_, rfl⟩
 have hg45 : Grew w4 W5 := hW5 ▸ (Chg.refl _ _).alloc _
 have hg15 : Grew w1 W5 := Grew.trans H4.out.2.2.1 (Grew.trans H4.out.2.2.2 hg45)
 have hb5 : Blk W5 R 73 #[.int .i64 r, .slice A3 (h - 1) c3, .slice A4 (h - 1) c4, .slice none 0 0] := by subst hW5 hR; exact Blk.new _ _ _
 have hz5 : W5.heap.size = R + 1 := by subst hW5 hR; simp
 have hd5 : W5.cell? ⟨bk, 1, none⟩ = some (.slice (some ⟨gk, 0, none⟩) (2 * h - 1) ck) ∧ W5.cell? ⟨bk, 2, none⟩ = some (.slice (some ⟨gv, 0, none⟩) (2 * h - 1) cv) := by
  have h9 := H1.out.2.2.1.grew hg15
  rw [hf, hkv] at h9
  exact ⟨h9.cell 1, h9.cell 2⟩
 have hkd : (kd.keys.drop h).length = h - 1 := by rw [List.length_drop]; omega
 have hvd : (kd.vals.drop h).length = h - 1 := by rw [List.length_drop]; omega
 have hp1 : 1 ≤ w1.heap.size := tab_pos H1.out.1.bt.gp.tab
 have hz13 := H4.out.2.2.1.size
 have hz34 := H4.out.2.2.2.size
 rw [hR] at hz34
 have hright : NdOwn W5 (fun j => w1.heap.size ≤ j ∧ j < W5.heap.size) R r ⟨kd.keys.drop h, kd.vals.drop h, []⟩ := by
  refine nd_mk (s1 := w1.heap.size) (s2 := w3.heap.size) (s3 := R) (s4 := W5.heap.size) (s5 := W5.heap.size) (A1 := A3) (A2 := A4) (A3 := none) (c1 := c3) (c2 := c4) (c3 := 0) ?_ ?_ ?_ (World.ownsRow_nil _ _ _ _) (fun a ha => own_rng H4.out.1 a ha) (fun a ha => by have := own_rng H4.out.2.1 a ha; rw [hR] at this; exact this) (fun a ha => by cases ha) (by omega) (by omega)
  ·simp only [hkd, hvd]; exact hb5
  ·have h9 := own_base (own_grew H4.out.1 (Grew.trans H4.out.2.2.2 hg45)) hp1
   simp only [hkd]
   simpa [iv] using h9
  ·have h9 := own_base (own_grew H4.out.2.1 hg45) (show 1 ≤ w3.heap.size by omega)
   simp only [hvd]
   simpa [iv] using h9
 have hsp5 := H1.out.1.grew hg15
 have hn5 := (H.out.2.2.2.1.chg H1.out.2.1.chg fun j hj => (H.out.2.2.1.d1F j hj).1).grew hg15
 have H5 := Lib.hid (And.intro hright (And.intro hsp5 (And.intro hn5 (And.intro hg15 hz5))))
 clear hright hsp5 hn5 hg15 hg45 hb5 hz5 hkd hvd hW5
 refine hK.out _ _ hd5 (fun _ => ?_)
 clear hK K
 (try simp only [Act.put, lA, lB, lC, lD, lE, lF])
 refine rdH (i := 17) (by kernel_rfl) rfl fun K hK => ?_
 go_simp
 refine hK.out _ _ hd5 (fun _ => ?_)
 clear hK K
 (try simp only [Act.put, lA, lB, lC, lD, lE, lF])
 refine wpAnyH_done (by kernel_rfl) ?_ _
 clear hHeld hd1 hd4 hd5
 obtain ⟨k0, hk0⟩ : ∃ k0, kd.keys[h - 1]? = some k0 := ⟨_, List.getElem?_eq_getElem (by omega)⟩
 obtain ⟨v0, hv0⟩ : ∃ v0, kd.vals[h - 1]? = some v0 := ⟨_, List.getElem?_eq_getElem (by omega)⟩
 obtain ⟨vk, vv, vc, hV⟩ := H5.out.2.2.1.v
 have hck0 : w1.cell? ⟨gk, h - 1, none⟩ = some (.int .i64 k0) := by
  obtain ⟨b, o, e, -, hx⟩ := H1.out.2.2.2.1.2 (by omega)
  cases e
  have := hx (h - 1) (.int .i64 k0) (by simp [iv, hk0])
  rwa [Nat.zero_add] at this
 have hcv0 : w1.cell? ⟨gv, h - 1, none⟩ = some (.int .i64 v0) := by
  obtain ⟨b, o, e, -, hx⟩ := H1.out.2.2.2.2.1.2 (by omega)
  cases e
  have := hx (h - 1) (.int .i64 v0) (by simp [iv, hv0])
  rwa [Nat.zero_add] at this
 have hgkl : gk < w1.heap.size := by obtain ⟨b, o, e, hb, -⟩ := H1.out.2.2.2.1.2 (by omega); cases e; exact hb
 have hgvl : gv < w1.heap.size := by obtain ⟨b, o, e, hb, -⟩ := H1.out.2.2.2.2.1.2 (by omega); cases e; exact hb
 have HC := Lib.hid (And.intro hk0 (And.intro hv0 (And.intro hck0 (And.intro hcv0 (And.intro hgkl hgvl)))))
 have hS6 : W5.drew.cell? ⟨bn, 1, none⟩ = some vk ∧ W5.drew.cell? ⟨bk, 1, none⟩ = some (.slice (some ⟨gk, 0, none⟩) (2 * h - 1) ck) ∧ W5.drew.cell? ⟨gk, h - 1, none⟩ = some (.int .i64 k0) := by
  have h9 := H1.out.2.2.1.grew H5.out.2.2.2.1
  rw [hf, hkv] at h9
  exact ⟨hV.blk.drew.cell 1, h9.drew.cell 1, (H5.out.2.2.2.1.cell (p := ⟨gk, h - 1, none⟩) hgkl id).trans hck0⟩
 have HV := Lib.hid hV
 clear hk0 hv0 hV hck0 hcv0 hgkl hgvl
 have hh1 : IntKind.i64.wrap ((h : Int) - 1) = ((h - 1 : Nat) : Int) := by rw [IntWalk.i64_in _ ⟨by omega, by omega⟩]; omega
 have hh2 : h - 1 < 2 * h - 1 := by omega
 go_wp2_with fail
 refine wp_region_x [18] (S := fun w' => w'.cell? ⟨bn, 1, none⟩ = some vk ∧ w'.cell? ⟨bk, 1, none⟩ = some (.slice (some ⟨gk, 0, none⟩) (2 * h - 1) ck) ∧ w'.cell? ⟨gk, h - 1, none⟩ = some (.int .i64 k0)) (by kernel_rfl) hS6 (fun hHeld => ?_)
 refine Todo.out (is := [0, 1, 2, 3, 4, 5, 6, 7, 8, 9, 10, 11, 12, 13]) ?_
 repeat
  refine tkX (v := ?_) rfl (by kernel_rfl) (by kernel_rfl) (by kernel_rfl) (by kernel_rfl) (fun _ _ _ h => h) (Or.inl ⟨by rfl, ?_⟩) hHeld ?_
  rotate_left
  ·(intro w hSw; (try dsimp only at hSw); go_simp) <;> with_reducible rfl
  (try simp only [Act.put, lA, lB, lC, lD, lE, lF])
 refine Todo.fin ?_
 refine rdX (i := 14) (by kernel_rfl) rfl fun K hK => ?_
 go_simp
 obtain ⟨W6, hW6⟩ : ∃ W, (W5.alloc (.cells #[.int .i64 k0] 3)).drew = W := ⟨_, rfl⟩
 rw [hW6]
 have hg56 : Grew W5 W6 := hW6 ▸ ((Chg.refl _ _).alloc _).drew
 have hlit : Blk W6 W5.heap.size 3 #[.int .i64 k0] := hW6 ▸ (Blk.new _ _ _).drew
 have hV6 := HV.out.chg hg56 fun _ _ => id
 have hsz6 := hg56.size
 have hnl6 : nd.keys.length ≤ 1000 := by omega
 have hins := binsert_any 1 vk nd.keys i W5.heap.size k0 W6 (by have := hV6.rk; rwa [iv_len] at this) (by omega) hi hlit (fun e => by have := HV.out.lt _ (HV.out.nk _ e); omega) (by have := tab_pos H5.out.2.1.bt.gp.tab; omega)
 have hS6' : W6.cell? ⟨bn, 1, none⟩ = some vk ∧ W6.cell? ⟨bk, 1, none⟩ = some (.slice (some ⟨gk, 0, none⟩) (2 * h - 1) ck) ∧ W6.cell? ⟨gk, h - 1, none⟩ = some (.int .i64 k0) := by
  have h9 := H1.out.2.2.1.grew (Grew.trans H5.out.2.2.2.1 hg56)
  rw [hf, hkv] at h9
  exact ⟨hV6.blk.cell 1, h9.cell 1, ((Grew.trans H5.out.2.2.2.1 hg56).cell (p := ⟨gk, h - 1, none⟩) HC.out.2.2.2.2.1 id).trans HC.out.2.2.1⟩
 have H6 := Lib.hid (And.intro hins (And.intro hV6 (And.intro hg56 hsz6)))
 clear hins hV6 hg56 hlit hsz6 hW6
 refine hK.out _ _ (fun _ => hS6') ?_
 clear hK K
 (try simp only [Act.put, lA, lB, lC, lD, lE, lF])
 refine rdX (i := 15) (by kernel_rfl) rfl fun K hK => ?_
 go_simp
 refine H6.out.1.mono ?_
 rintro e w7 ⟨v7, rfl, ho7, ha7⟩
 obtain ⟨A7, c7, rfl, -⟩ := own_shape ho7
 have hne7 := H6.out.2.1.ne
 have hb7 := H6.out.2.1.blk.chg ha7.chg hne7.1
 have hown1 : ∀ g, vk.ownBlock = some g → N1 g := HV.out.nk
 have hS7 : w7.cell? ⟨bn, 1, none⟩ = some vk ∧ w7.cell? ⟨bk, 1, none⟩ = some (.slice (some ⟨gk, 0, none⟩) (2 * h - 1) ck) ∧ w7.cell? ⟨gk, h - 1, none⟩ = some (.int .i64 k0) := by
  have h9 := (H1.out.2.2.1.grew (Grew.trans H5.out.2.2.2.1 H6.out.2.2.1)).chg ha7.chg fun e => H.out.2.2.1.d12 _ (hown1 _ e) H1.out.2.2.2.2.2.2.1
  rw [hf, hkv] at h9
  refine ⟨hb7.cell 1, h9.cell 1, ?_⟩
  have hl := HC.out.2.2.2.2.1
  have hsz := H6.out.2.2.2
  have hsz5 := H5.out.2.2.2.1.size
  exact (ha7.chg.cell (p := ⟨gk, h - 1, none⟩) (show gk < W6.heap.size by omega) fun e => H.out.2.2.1.d12 _ (hown1 _ e) H1.out.2.2.2.2.2.2.2.1).trans hS6'.2.2
 have hsp7 := (H5.out.2.1.grew H6.out.2.2.1).ap ha7 hown1 fun g hg => (ho7.lt g hg).2
 obtain ⟨d9, f9, s9⟩ := hb7.facts
 have hl7 : (iv (insI nd.keys i k0)).length = nd.keys.length + 1 := by rw [iv_len, insI_len k0 hi]
 have H7 := Lib.hid (And.intro hsp7 (And.intro ho7 (And.intro ha7 hl7)))
 clear hsp7 ho7 ha7 hb7 hown1 hne7 hl7
 refine hK.out _ _ (fun _ => hS7) ?_
 clear hK K
 (try simp only [Act.put, lA, lB, lC, lD, lE, lF])
 refine wpAnyX_takeM [17] (i := 16) (v := ?_) rfl (by kernel_rfl) (by kernel_rfl) (by kernel_rfl) (by kernel_rfl) (by kernel_rfl) (by kernel_rfl) (fun _ _ _ h => h) (Or.inl ⟨by rfl, ?_⟩) hS7 ?_
 rotate_left
 ·(intro w hSw; (try dsimp only at hSw); go_simp) <;> with_reducible rfl
 (try simp only [Act.put, lA, lB, lC, lD, lE, lF])
 refine wpAnyX_take (i := 17) (v := ?_) rfl (by kernel_rfl) (by kernel_rfl) (by kernel_rfl) (by kernel_rfl) (fun _ _ _ h => h) (Or.inl ⟨by rfl, ?_⟩) hS7 ?_
 rotate_left
 ·(intro w hSw; (try dsimp only at hSw); go_simp) <;> with_reducible rfl
 (try simp only [Act.put, lA, lB, lC, lD, lE, lF])
 refine rdX (i := 18) (by kernel_rfl) rfl fun K hK => ?_
 go_simp
 refine hK.out _ _ (fun h => by cases h) ?_
 clear hK K
 (try simp only [Act.put, lA, lB, lC, lD, lE, lF])
 refine wpAnyX_done (by kernel_rfl) ?_ _
 obtain ⟨W8, hW8⟩ : ∃ W, w7.setCell ⟨bn, 1, none⟩ (.slice A7 (nd.keys.length + 1) c7) = W := ⟨_, rfl⟩
 rw [hW8]
 have hV8 := H6.out.2.1.setK H7.out.2.2.1 (by rw [H7.out.2.2.2]; exact H7.out.2.1) hW8
 have hc8 : Chg (fun j => j = bn) w7 W8 := hW8 ▸ (Chg.refl (fun j => j = bn) w7).setCell (p := ⟨bn, 1, none⟩) (fun _ => rfl) _
 have hsp8 := H7.out.1.st hc8 (.inl HV.out.nb)
 have H8 := Lib.hid (And.intro hV8 (And.intro hsp8 hc8))
 clear hHeld hS6 hS6' hS7 hV8 hsp8 hc8 hW8 d9 f9 s9
 have hg58 : Chg (fun j => N1 j ∨ (Value.slice A7 (nd.keys.length + 1) c7).ownBlock = some j) W5 W8 := Chg.trans (Grew.then H6.out.2.2.1 (H7.out.2.2.1.chg.mono fun j _ e => .inl (HV.out.nk j e))) (H8.out.2.2) fun j _ e => by subst e; exact .inl HV.out.nb
 have hbk8 := H8.out.2.1.kd.rows (by omega) (by omega)
 have hbq : Blk W8 bk 73 #[.int .i64 qk, .slice (some ⟨gk, 0, none⟩) (2 * h - 1) ck, .slice (some ⟨gv, 0, none⟩) (2 * h - 1) cv, .slice Ac kd.kids.length cc] := by
  have h9 := (H1.out.2.2.1.grew H5.out.2.2.2.1).chg hg58 fun e => e.elim (fun e => H.out.2.2.1.d12 _ e H1.out.2.2.2.2.2.2.1) fun e => by
   rcases H7.out.2.2.1.at_ _ e with e2 | e2
   ·exact H.out.2.2.1.d12 _ (HV.out.nk _ e2) H1.out.2.2.2.2.2.2.1
   ·have := H1.out.2.2.1.lt; have := H5.out.2.2.2.1.size; have := H6.out.2.2.2; omega
  rw [hf, hkv] at h9
  exact h9
 have hgv8 : W8.cell? ⟨gv, h - 1, none⟩ = some (.int .i64 v0) := by
  have h9 := (H5.out.2.2.2.1.cell (p := ⟨gv, h - 1, none⟩) HC.out.2.2.2.2.2 id).trans HC.out.2.2.2.1
  have hl := HC.out.2.2.2.2.2
  have hz5 := H5.out.2.2.2.1.size
  have hz6 := H6.out.2.2.2
  refine (hg58.cell (p := ⟨gv, h - 1, none⟩) (show gv < W5.heap.size by omega) fun e => e.elim (fun e => H.out.2.2.1.d12 _ e H1.out.2.2.2.2.2.2.2.2.1) fun e => ?_).trans h9
  rcases H7.out.2.2.1.at_ _ e with e2 | e2
  ·exact H.out.2.2.1.d12 _ (HV.out.nk _ e2) H1.out.2.2.2.2.2.2.2.2.1
  ·have e3 : W6.heap.size ≤ gv := e2
   omega
 have H8b := Lib.hid (And.intro hg58 (And.intro hbq hgv8))
 have hS9 : W8.drew.cell? ⟨bn, 2, none⟩ = some vv ∧ W8.drew.cell? ⟨bk, 2, none⟩ = some (.slice (some ⟨gv, 0, none⟩) (2 * h - 1) cv) ∧ W8.drew.cell? ⟨gv, h - 1, none⟩ = some (.int .i64 v0) := ⟨H8.out.1.blk.drew.cell 2, hbq.drew.cell 2, hgv8⟩
 clear hg58 hbk8 hbq hgv8
 go_wp2_with fail
 refine wp_region_x [18] (S := fun w' => w'.cell? ⟨bn, 2, none⟩ = some vv ∧ w'.cell? ⟨bk, 2, none⟩ = some (.slice (some ⟨gv, 0, none⟩) (2 * h - 1) cv) ∧ w'.cell? ⟨gv, h - 1, none⟩ = some (.int .i64 v0)) (by kernel_rfl) hS9 (fun hHeld => ?_)
 refine Todo.out (is := [0, 1, 2, 3, 4, 5, 6, 7, 8, 9, 10, 11, 12, 13]) ?_
 repeat
  refine tkX (v := ?_) rfl (by kernel_rfl) (by kernel_rfl) (by kernel_rfl) (by kernel_rfl) (fun _ _ _ h => h) (Or.inl ⟨by rfl, ?_⟩) hHeld ?_
  rotate_left
  ·(intro w hSw; (try dsimp only at hSw); go_simp) <;> with_reducible rfl
  (try simp only [Act.put, lA, lB, lC, lD, lE, lF])
 refine Todo.fin ?_
 refine rdX (i := 14) (by kernel_rfl) rfl fun K hK => ?_
 go_simp
 obtain ⟨W9, hW9⟩ : ∃ W, (W8.alloc (.cells #[.int .i64 v0] 3)).drew = W := ⟨_, rfl⟩
 rw [hW9]
 have hg89 : Grew W8 W9 := hW9 ▸ ((Chg.refl _ _).alloc _).drew
 have hlit : Blk W9 W8.heap.size 3 #[.int .i64 v0] := hW9 ▸ (Blk.new _ _ _).drew
 have hV9 := H8.out.1.chg hg89 fun _ _ => id
 have hsz9 := hg89.size
 have hins := binsert_any 1 vv nd.vals i W8.heap.size v0 W9 (by have := hV9.rv; rwa [iv_len] at this) (by omega) (by omega) hlit (fun e => by have := H8.out.1.lt _ (H8.out.1.nv _ e); omega) (by have := tab_pos H8.out.2.1.bt.gp.tab; omega)
 have hS9' : W9.cell? ⟨bn, 2, none⟩ = some vv ∧ W9.cell? ⟨bk, 2, none⟩ = some (.slice (some ⟨gv, 0, none⟩) (2 * h - 1) cv) ∧ W9.cell? ⟨gv, h - 1, none⟩ = some (.int .i64 v0) := by
  have hl := HC.out.2.2.2.2.2
  have hz5 := H5.out.2.2.2.1.size
  have hz8 := H8b.out.1.size
  exact ⟨hV9.blk.cell 2, (H8b.out.2.1.grew hg89).cell 2, (hg89.cell (p := ⟨gv, h - 1, none⟩) (show gv < W8.heap.size by omega) id).trans H8b.out.2.2⟩
 have H9 := Lib.hid (And.intro hins (And.intro hV9 (And.intro hg89 hsz9)))
 clear hins hV9 hg89 hlit hsz9 hW9
 refine hK.out _ _ (fun _ => hS9') ?_
 clear hK K
 (try simp only [Act.put, lA, lB, lC, lD, lE, lF])
 refine rdX (i := 15) (by kernel_rfl) rfl fun K hK => ?_
 go_simp
 refine H9.out.1.mono ?_
 rintro e w10 ⟨v10, rfl, ho10, ha10⟩
 obtain ⟨A10, c10, rfl, -⟩ := own_shape ho10
 have hne10 := H9.out.2.1.ne
 have hb10 := H9.out.2.1.blk.chg ha10.chg hne10.2.1
 have hown1 : ∀ g, vv.ownBlock = some g → (N1 g ∨ (Value.slice A7 (nd.keys.length + 1) c7).ownBlock = some g) := H8.out.1.nv
 have hd12 := H8.out.2.1.d12
 have hS10 : w10.cell? ⟨bn, 2, none⟩ = some vv ∧ w10.cell? ⟨bk, 2, none⟩ = some (.slice (some ⟨gv, 0, none⟩) (2 * h - 1) cv) ∧ w10.cell? ⟨gv, h - 1, none⟩ = some (.int .i64 v0) := by
  have h9 := (H8b.out.2.1.grew H9.out.2.2.1).chg ha10.chg fun e => hd12 _ (hown1 _ e) H1.out.2.2.2.2.2.2.1
  refine ⟨hb10.cell 2, h9.cell 2, ?_⟩
  have hl := HC.out.2.2.2.2.2
  have hz5 := H5.out.2.2.2.1.size
  have hz8 := H8b.out.1.size
  have hz9 := H9.out.2.2.2
  exact (ha10.chg.cell (p := ⟨gv, h - 1, none⟩) (show gv < W9.heap.size by omega) fun e => hd12 _ (hown1 _ e) H1.out.2.2.2.2.2.2.2.2.1).trans hS9'.2.2
 have hsp10 := (H8.out.2.1.grew H9.out.2.2.1).ap ha10 hown1 fun g hg => (ho10.lt g hg).2
 obtain ⟨d9, f9, s9⟩ := hb10.facts
 have hl10 : (iv (insI nd.vals i v0)).length = nd.vals.length + 1 := by rw [iv_len, insI_len v0 (by omega)]
 have H10 := Lib.hid (And.intro hsp10 (And.intro ho10 (And.intro ha10 hl10)))
 clear hsp10 ho10 ha10 hb10 hown1 hne10 hl10 hd12
 refine hK.out _ _ (fun _ => hS10) ?_
 clear hK K
 (try simp only [Act.put, lA, lB, lC, lD, lE, lF])
 refine wpAnyX_takeM [17] (i := 16) (v := ?_) rfl (by kernel_rfl) (by kernel_rfl) (by kernel_rfl) (by kernel_rfl) (by kernel_rfl) (by kernel_rfl) (fun _ _ _ h => h) (Or.inl ⟨by rfl, ?_⟩) hS10 ?_
 rotate_left
 ·(intro w hSw; (try dsimp only at hSw); go_simp) <;> with_reducible rfl
 (try simp only [Act.put, lA, lB, lC, lD, lE, lF])
 refine wpAnyX_take (i := 17) (v := ?_) rfl (by kernel_rfl) (by kernel_rfl) (by kernel_rfl) (by kernel_rfl) (fun _ _ _ h => h) (Or.inl ⟨by rfl, ?_⟩) hS10 ?_
 rotate_left
 ·(intro w hSw; (try dsimp only at hSw); go_simp) <;> with_reducible rfl
 (try simp only [Act.put, lA, lB, lC, lD, lE, lF])
 refine rdX (i := 18) (by kernel_rfl) rfl fun K hK => ?_
 go_simp
 refine hK.out _ _ (fun h => by cases h) ?_
 clear hK K
 (try simp only [Act.put, lA, lB, lC, lD, lE, lF])
 refine wpAnyX_done (by kernel_rfl) ?_ _
 obtain ⟨W11, hW11⟩ : ∃ W, w10.setCell ⟨bn, 2, none⟩ (.slice A10 (nd.vals.length + 1) c10) = W := ⟨_, rfl⟩
 rw [hnv] at hW11
 rw [hW11]
 have hV11 := NdV.setV (W2 := W11) H9.out.2.1 H10.out.2.2.1 (by rw [H10.out.2.2.2]; exact H10.out.2.1) (by rw [hnv]; exact hW11)
 have hc11 : Chg (fun j => j = bn) w10 W11 := hW11 ▸ (Chg.refl (fun j => j = bn) w10).setCell (p := ⟨bn, 2, none⟩) (fun _ => rfl) _
 have hsp11 := H10.out.1.st hc11 (.inl (.inl HV.out.nb))
 have H11 := Lib.hid (And.intro hV11 (And.intro hsp11 hc11))
 clear hHeld hS9 hS9' hS10 hV11 hsp11 hc11 hW11 d9 f9 s9
 obtain ⟨d9, f9, s9⟩ := H11.out.1.blk.facts
 obtain ⟨W12, hW12⟩ : ∃ W, W11.alloc (.cells #[.int .i64 r] 3) = W := ⟨_, rfl⟩
 have hg12 : Grew W11 W12 := hW12 ▸ (Chg.refl _ _).alloc _
 have hlit : Blk W12 W11.heap.size 3 #[.int .i64 r] := hW12 ▸ Blk.new _ _ _
 have hV12 := H11.out.1.chg hg12 fun _ _ => id
 have hiv : nv nd.kids = iv (nd.kids.map Int.ofNat) := by simp [nv, iv]
 have hlc : (nd.kids.map Int.ofNat).length = nd.kids.length := by simp
 have hins := binsert_any 1 vc (nd.kids.map Int.ofNat) (i + 1) W11.heap.size r W12 (by have h9 := hV12.rc; rw [hiv, iv_len] at h9; exact h9) (by omega) (by omega) hlit (fun e => by have := H11.out.1.lt _ (H11.out.1.nc _ e); omega) (by have := tab_pos H11.out.2.1.bt.gp.tab; have := hg12.size; omega)
 rw [show ((i + 1 : Nat) : Int) = (i : Int) + 1 from by omega] at hins
 have H12 := Lib.hid (And.intro hins (And.intro hV12 (And.intro hg12 hW12)))
 clear hins hV12 hg12 hlit hW12 hiv hlc
 go_wp2_with fail
 rw [H12.out.2.2.2]
 refine H12.out.1.mono ?_
 rintro e w13 ⟨v13, rfl, ho13, ha13⟩
 rw [List.length_map] at ho13
 obtain ⟨A13, c13, rfl, -⟩ := own_shape ho13
 have hl13 : (iv (insI (nd.kids.map Int.ofNat) (i + 1) (r : Int))).length = nd.kids.length + 1 := by rw [iv_len, insI_len _ (by rw [List.length_map]; omega), List.length_map]
 have hb13 := H12.out.2.1.blk.chg ha13.chg H12.out.2.1.ne.2.2
 have hownN : ∀ g, vc.ownBlock = some g → ((N1 g ∨ (Value.slice A7 (nd.keys.length + 1) c7).ownBlock = some g) ∨ (Value.slice A10 (nd.vals.length + 1) c10).ownBlock = some g) := H11.out.1.nc
 have hsp13 := (H11.out.2.1.grew H12.out.2.2.1).ap ha13 hownN fun g hg => (ho13.lt g hg).2
 obtain ⟨W14, hW14⟩ : ∃ W, w13.setCell ⟨bn, 3, none⟩ (.slice A13 (nd.kids.length + 1) c13) = W := ⟨_, rfl⟩
 have hV14 := NdV.setC (W2 := W14) H12.out.2.1 ha13 (by rw [hl13]; exact ho13) hW14
 have hc14 : Chg (fun j => j = bn) w13 W14 := hW14 ▸ (Chg.refl (fun j => j = bn) w13).setCell (p := ⟨bn, 3, none⟩) (fun _ => rfl) _
 have hsp14 := hsp13.st hc14 (.inl (.inl (.inl HV.out.nb)))
 clear d9 f9 s9
 obtain ⟨d9, f9, s9⟩ := hb13.facts
 obtain ⟨N13, hN13⟩ : ∃ N : Nat → Prop, (fun j => ((N1 j ∨ (Value.slice A7 (nd.keys.length + 1) c7).ownBlock = some j) ∨ (Value.slice A10 (nd.vals.length + 1) c10).ownBlock = some j) ∨ (Value.slice A13 (nd.kids.length + 1) c13).ownBlock = some j) = N := ⟨_, rfl⟩
 have hN1 : ∀ j, N1 j → N13 j := fun j hj => by subst hN13; exact .inl (.inl (.inl hj))
 have hNv : ∀ j, (N1 j ∨ (Value.slice A7 (nd.keys.length + 1) c7).ownBlock = some j) → N13 j := fun j hj => by subst hN13; exact .inl (.inl hj)
 have hNc : ∀ j, ((N1 j ∨ (Value.slice A7 (nd.keys.length + 1) c7).ownBlock = some j) ∨ (Value.slice A10 (nd.vals.length + 1) c10).ownBlock = some j) → N13 j := fun j hj => by subst hN13; exact .inl hj
 have z5 := H5.out.2.2.2.1.size
 have z6 := H6.out.2.2.1.size
 have z8 := H8b.out.1.size
 have z9 := H9.out.2.2.1.size
 have z10 := H10.out.2.2.1.chg.size
 have z11 := H11.out.2.2.size
 have z12 := H12.out.2.2.1.size
 have z1 := H1.out.2.1.chg.size
 have hNi : ∀ j, N13 j → N1 j ∨ W5.heap.size ≤ j := fun j hj => by
  subst hN13
  rcases hj with ((hj | hj) | hj) | hj
  ·exact .inl hj
  ·exact (H7.out.2.2.1.at_ j hj).elim (fun e => .inl (HV.out.nk j e)) fun e => .inr (by omega)
  ·exact (H10.out.2.2.1.at_ j hj).elim (fun e => .inl (HV.out.nv j e)) fun e => .inr (by omega)
  ·exact (ha13.at_ j hj).elim (fun e => .inl (HV.out.nc j e)) fun e => .inr (by omega)
 have hg8 : Chg N13 W8 W14 := Chg.trans (Grew.then H9.out.2.2.1 (H10.out.2.2.1.chg.mono fun j _ e => hNv j (H8.out.1.nv j e))) (Chg.trans (H11.out.2.2.mono fun j _ e => by subst e; exact hN1 _ HV.out.nb) (Chg.trans (Grew.then H12.out.2.2.1 (ha13.chg.mono fun j _ e => hNc j (hownN j e))) (hc14.mono fun j _ e => by subst e; exact hN1 _ HV.out.nb) fun _ _ e => e) fun _ _ e => e) fun _ _ e => e
 have hg5 : Chg N13 W5 W14 := Chg.trans (H8b.out.1.mono fun j _ e => hNv j e) hg8 fun _ _ e => e
 rw [hN13] at hV14 hsp14
 have hd12 := hsp14.d12
 have hN1lt : ∀ j, N1 j → j < w.heap.size := fun j hj => (H.out.2.2.1.d1F j hj).2.2.2
 have hbk14 := H8b.out.2.1.chg hg8 fun e => hd12 _ e H1.out.2.2.2.2.2.2.1
 have hR14 := H5.out.1.chg hg5 fun j hj e => (hNi j e).elim (fun e => by have := hN1lt j e; omega) fun e => by omega
 have hRd : ∀ j, (w1.heap.size ≤ j ∧ j < W5.heap.size) → ¬ N13 j := fun j hj e => (hNi j e).elim (fun e => by have := hN1lt j e; omega) fun e => by omega
 have hkN : ∀ j, N2 j → j < w.heap.size := fun j hj => H.out.2.2.1.kd.at.lt j hj
 have hc114 : Chg (fun j => F j ∨ N1 j ∨ N2 j) w W14 := Chg.trans ((H1.out.2.1.chg.mono fun j _ e => .inl e).grew H5.out.2.2.2.1) hg5 fun j hj e => (hNi j e).elim (fun e => .inr (.inl e)) fun e => by omega
 have hs14 : Sl W14 1 (some ⟨gk, 0, none⟩) kd.keys.length (iv kd.keys) ∧ Sl W14 1 (some ⟨gv, 0, none⟩) kd.vals.length (iv kd.vals) ∧ Sl W14 1 Ac kd.kids.length (nv kd.kids) := ⟨(H1.out.2.2.2.1.grew H5.out.2.2.2.1).chg hg5 (fun a ha e => by cases ha; exact hd12 _ e H1.out.2.2.2.2.2.2.2.1), (H1.out.2.2.2.2.1.grew H5.out.2.2.2.1).chg hg5 (fun a ha e => by cases ha; exact hd12 _ e H1.out.2.2.2.2.2.2.2.2.1), (H1.out.2.2.2.2.2.1.grew H5.out.2.2.2.1).chg hg5 (fun a ha e => hd12 _ e (H1.out.2.2.2.2.2.2.2.2.2.1 a ha).1)⟩
 have hno : NdOwn W14 N13 bn qn (nd.ins i k0 v0 r) := by
  refine NdV.own (vk := .slice A7 (nd.keys.length + 1) c7) (vv := .slice A10 (nd.vals.length + 1) c10) (vc := .slice A13 (nd.kids.length + 1) c13) (nd := nd.ins i k0 v0 r) ?_
  have e1 : nv (nd.ins i k0 v0 r).kids = iv (insI (nd.kids.map Int.ofNat) (i + 1) (r : Int)) := nv_insN _ _ _
  rw [e1]
  exact hV14
 have hk0i : i64 k0 := HX.out.2.1.ki _ (List.mem_of_getElem? HC.out.1)
 have hv0i : i64 v0 := HX.out.2.1.vi _ (List.mem_of_getElem? HC.out.2.1)
 have hmost : 2 * h - 1 ≤ mostN x.sz := by have := HX.out.2.1.most; omega
 have hfits := And.intro (Nd.ins_fit (sz := x.sz) (nd := nd) (i := i) (k0 := k0) (v0 := v0) (r := r) hnv hnc HX.out.1.ki HX.out.1.vi HX.out.1.ci (by omega) hi hk0i hv0i (by omega)) (And.intro (Nd.lo_fit (h := h) HX.out.2.1 (by omega) hf) (Nd.hi_fit (h := h) HX.out.2.1 (by omega) hf))
 have hlf := leaf_any bk qk kd N2 W14 hsp14.kd.at
 rw [hnc] at hW14
 have HL := Lib.hid (And.intro hlf hW14)
 have HF := Lib.hid (And.intro hsp14 (And.intro hno (And.intro hR14 (And.intro hRd (And.intro hc114 (And.intro hs14 (And.intro hfits (And.intro hkN (And.intro hbk14 hNi)))))))))
 have z14 : W5.heap.size ≤ W14.heap.size := hg5.size
 clear hsp14 hno hR14 hRd hc114 hs14 hfits hlf hW14 hk0i hv0i hmost hbk14 hNi hN1 hNv hNc hg8 hg5 hV14 hc14 hsp13 hb13 hl13 hownN ho13 ha13 hd12 hN1lt hkN hN13
 have HZ := Lib.hid (And.intro z1 (And.intro z5 (And.intro z6 (And.intro z8 (And.intro z9 (And.intro z10 (And.intro z11 (And.intro z12 z14))))))))
 clear z1 z5 z6 z8 z9 z10 z11 z12 z14
 rcases hkc with h0 | h0
 ·have t1 : decide (kd.kids.length = 0) = true := decide_eq_true h0
  go_wp2_with fail
  rw [HL.out.2]
  refine HL.out.1.mono ?_
  rintro e w15 ⟨rfl, rfl⟩
  clear d9 f9 s9
  obtain ⟨d9, f9, s9⟩ := HF.out.2.2.2.2.2.2.2.2.1.facts
  go_wp2_with fail
  go_region
  go_wp2_with fail
  obtain ⟨cn, hcn, hcn2⟩ := HX.out.2.2.1
  obtain ⟨cq, hcq, hcq2⟩ := HX.out.2.2.2.1
  have hkid : kd.kids = [] := List.eq_nil_of_length_eq_zero h0
  have hhi : (⟨kd.keys.drop h, kd.vals.drop h, []⟩ : Nd) = kd.hi h := by unfold Nd.hi; rw [hkid, List.drop_nil]
  refine (split_fin (w := w) (W := W14) (kd := kd) (nd := nd) (F := F) (F1 := F1) (N1 := N1) (N13 := N13) (N2 := N2) (NR := fun j => w1.heap.size ≤ j ∧ j < W5.heap.size) (G := fun j => F j ∨ N1 j ∨ N2 j) (k0 := k0) (v0 := v0) (i := i) (x := x) (root := root) (p := p) (qn := qn) (r := r)
   HF.out.1.bt H.out.2.2.2.2 H1.out.2.2.2.2.2.2.2.2.2.2.1 hcq hcq2 hcn hcn2 HF.out.2.1 (fun j hj => (HF.out.1.d1F j hj).1) HF.out.2.2.2.2.2.2.1.1 HF.out.2.2.2.2.2.2.2.2.1 HF.out.2.2.2.2.2.1.1 HF.out.2.2.2.2.2.1.2.1 HF.out.2.2.2.2.2.1.2.2 (by omega) (by omega) (by rw [hkid, List.take_nil])
   H1.out.2.2.2.2.2.2.1 H1.out.2.2.2.2.2.2.2.1 H1.out.2.2.2.2.2.2.2.2.1 (fun a ha => (H1.out.2.2.2.2.2.2.2.2.2.1 a ha).1) HF.out.1.kd.at.lt H1.out.2.2.2.2.2.2.2.2.2.2.2.2.2.1 H1.out.2.2.2.2.2.2.2.2.2.2.2.2.2.2.1 H1.out.2.2.2.2.2.2.2.2.2.2.2.2.2.2.2 HF.out.1.d2F HF.out.1.d12 HF.out.2.2.2.2.2.2.1.2.1
   (hhi ▸ HF.out.2.2.1.at) (fun j hj e => by have := H1.out.1.bt.gp.lt j e; omega) (fun j hj e => by have := HF.out.2.2.2.2.2.2.2.1 j e; have := HZ.out.1; omega) HF.out.2.2.2.2.2.2.1.2.2 HX.out.2.2.2.2 HF.out.2.2.2.2.1 H1.out.2.1.new (fun j e => .inl e) (fun j e => .inr (.inr e)) (fun j hj => (HF.out.2.2.2.2.2.2.2.2.2 j hj).imp id fun e => by have := HZ.out.1; have := HZ.out.2.1; omega) HC.out.1 HC.out.2.1).mono ?_
  rintro e w' (⟨rfl, hr1⟩ | ⟨rfl, hr1⟩)
  ·have HR1 := Lib.hid hr1
   clear hr1
   go_wp2_with fail
   go_ret
   exact .inl ⟨rfl, HR1.out⟩
  ·have HR1 := Lib.hid hr1
   clear hr1
   go_wp2_with fail
   go_ret
   exact .inr ⟨rfl, HR1.out⟩
 ·have t1 : decide (kd.kids.length = 0) = false := decide_eq_false (by omega)
  have t2 : decide (kd.kids = []) = false := decide_eq_false (fun e => by rw [e] at h0; simp only [List.length_nil] at h0; omega)
  obtain ⟨gc, oc, hA, hgcl, -⟩ := HF.out.2.2.2.2.2.1.2.2.2 (by omega)
  obtain rfl : oc = 0 := by have := (H1.out.2.2.2.2.2.2.2.2.2.1 _ hA).2.1; exact this
  subst hA
  obtain ⟨vk', vv', vc', hVR⟩ := HF.out.2.2.1.v
  have hbk := HF.out.2.2.2.2.2.2.2.2.1
  rw [h0] at hbk
  have hsl : Sl W14 1 (some ⟨gc, h, none⟩) h ((nv kd.kids).drop h) := by
   have h9 := Sl.cut (HF.out.2.2.2.2.2.1.2.2) h h (by omega)
   rw [List.take_of_length_le (by rw [List.length_drop, nv_len]; omega), Nat.zero_add] at h9
   exact h9
  have hcl := bclone_int gc h h (cc - h) _ W14 hsl (fun u hu => nv_one _ u (List.mem_of_mem_drop hu)) (by omega) (by omega)
  have hcc := H1.out.2.2.2.2.2.2.2.2.2.2.2.2.1
  have s5 : ¬ cc = h := by omega
  have s6 : (h : Int) ≤ ((2 * h : Nat) : Int) := by omega
  have s7 : h ≤ cc := by omega
  have s8 : 2 * h - h = h := by omega
  have hRb : w1.heap.size ≤ R ∧ R < W5.heap.size := hVR.nb
  have hne : bk ≠ R := fun e => by have := HF.out.2.2.2.2.2.2.2.1 bk H1.out.2.2.2.2.2.2.1; have := HZ.out.1; omega
  have HB := Lib.hid (And.intro hcl (And.intro hVR (And.intro hbk hRb)))
  have HHc := Lib.hid (And.intro hcc hgcl)
  have H0 := Lib.hid h0
  clear hcl hsl hVR hRb hcc hgcl h0
  go_wp2_with fail
  rw [HL.out.2]
  refine HL.out.1.mono ?_
  rintro e w15 ⟨rfl, rfl⟩
  clear d9 f9 s9
  obtain ⟨d9, f9, s9⟩ := hbk.facts
  go_wp2_with fail
  refine HB.out.1.mono ?_
  rintro e w15 ⟨A15, c15, rfl, ho15, hg15⟩
  clear d9 f9 s9
  obtain ⟨d9, f9, s9⟩ := (hbk.grew hg15).facts
  obtain ⟨d8, f8, s8'⟩ := (HB.out.2.1.blk.grew hg15).facts
  have HO := Lib.hid (And.intro ho15 hg15)
  clear ho15 hg15 hbk
  go_wp2_with fail
  obtain ⟨W16, hW16⟩ : ∃ W, w15.setCell ⟨R, 3, none⟩ (.slice A15 h c15) = W := ⟨_, rfl⟩
  rw [hW16]
  obtain ⟨W17, hW17⟩ : ∃ W, W16.setCell ⟨bk, 3, none⟩ (.slice (some ⟨gc, 0, none⟩) h cc) = W := ⟨_, rfl⟩
  rw [hW17]
  have hkl : ((nv kd.kids).drop h).length = h := by have := H0.out; rw [List.length_drop, nv_len]; omega
  have hVR16 := NdV.setC (W2 := W16) (l' := (nv kd.kids).drop h) (v' := .slice A15 h c15) HB.out.2.1 ⟨HO.out.2.chg, fun j hj => .inr (HO.out.1.lt j hj).1⟩ (by rw [hkl]; exact own_base HO.out.1 (by have := tab_pos HF.out.1.bt.gp.tab; omega)) hW16
  have hc16 : Chg (fun j => j = R) w15 W16 := hW16 ▸ (Chg.refl (fun j => j = R) w15).setCell (p := ⟨R, 3, none⟩) (fun _ => rfl) _
  have hc17 : Chg (fun j => j = bk) W16 W17 := hW17 ▸ (Chg.refl (fun j => j = bk) W16).setCell (p := ⟨bk, 3, none⟩) (fun _ => rfl) _
  have hb17 : Blk W17 bk 73 #[.int .i64 qk, .slice (some ⟨gk, 0, none⟩) (2 * h - 1) ck, .slice (some ⟨gv, 0, none⟩) (2 * h - 1) cv, .slice (some ⟨gc, 0, none⟩) h cc] := by
   have h9 := ((HB.out.2.2.1.grew HO.out.2).chg hc16 hne).put 3 (.slice (some ⟨gc, 0, none⟩) h cc)
   rw [hW17] at h9
   simpa using h9
  have hcA : Chg (fun j => j = R ∨ j = bk) W14 W17 := Chg.trans (Grew.then HO.out.2 (hc16.mono fun j _ e => .inl e)) (hc17.mono fun j _ e => .inr e) fun _ _ e => e
  have n1 := H1.out.2.2.2.2.2.2.1
  have hzw := HZ.out.1
  have hN2R : ∀ j, N2 j → j ≠ R := fun j hj e => by have := HF.out.2.2.2.2.2.2.2.1 j hj; have := HB.out.2.2.2; omega
  have hR17 : NdAt W17 (fun j => (w1.heap.size ≤ j ∧ j < W5.heap.size) ∨ (Value.slice A15 h c15).ownBlock = some j) R r (kd.hi h) := by
   have h9 : NdOwn W16 (fun j => (w1.heap.size ≤ j ∧ j < W5.heap.size) ∨ (Value.slice A15 h c15).ownBlock = some j) R r (kd.hi h) := by
    refine NdV.own (vk := vk') (vv := vv') (vc := .slice A15 h c15) (nd := kd.hi h) ?_
    have e1 : nv (kd.hi h).kids = (nv kd.kids).drop h := nv_drop _ _
    rw [e1]
    exact hVR16
   refine h9.at.chg hc17 fun j hj e => ?_
   subst e
   rcases hj with hj | hj
   ·have := HF.out.2.2.2.2.2.2.2.1 _ n1; omega
   ·have := (HO.out.1.lt _ hj).1; have := HF.out.1.kd.at.lt _ n1; omega
  obtain ⟨cn, hcn, hcn2⟩ := HX.out.2.2.1
  obtain ⟨cq, hcq, hcq2⟩ := HX.out.2.2.2.1
  have z17 : W14.heap.size ≤ W17.heap.size := hcA.size
  have HG := Lib.hid (And.intro hcA (And.intro hR17 (And.intro hN2R (And.intro hb17 (And.intro hcq (And.intro hcq2 (And.intro hcn hcn2)))))))
  clear d9 f9 s9 d8 f8 s8'
  obtain ⟨d9, f9, s9⟩ := hb17.facts
  clear hVR16 hc16 hc17 hW16 hW17 hcA hR17 hN2R hb17 hkl
  go_region
  go_wp2_with fail
  have h0 := H0.out
  have hF14 : ∀ j, F1 j → j < w1.heap.size := fun j hj => H1.out.1.bt.gp.lt j hj
  have hRb := HB.out.2.2.2
  have hz5 := HZ.out.2.1
  have hz14 := HZ.out.2.2.2.2.2.2.2.2
  refine (split_fin (w := w) (W := W17) (kd := kd) (nd := nd) (F := F) (F1 := F1) (N1 := N1) (N13 := N13) (N2 := N2) (NR := fun j => (w1.heap.size ≤ j ∧ j < W5.heap.size) ∨ (Value.slice A15 h c15).ownBlock = some j) (G := fun j => F j ∨ N1 j ∨ N2 j) (k0 := k0) (v0 := v0) (i := i) (x := x) (root := root) (p := p) (qn := qn) (r := r)
   (HF.out.1.bt.chg HG.out.1 (fun j hj e => e.elim (fun e => by have := hF14 j hj; omega) fun e => HF.out.1.d2F j (e ▸ n1) hj) (fun e => e.elim (fun e => by have := tab_pos H1.out.1.bt.gp.tab; omega) fun e => HX.out.2.2.2.2.2 (e ▸ n1)) (fun e => e.elim (fun e => by have := H1.out.1.bt.blk.lt; omega) fun e => HX.out.2.2.2.2.1 (e ▸ n1)))
   H.out.2.2.2.2 H1.out.2.2.2.2.2.2.2.2.2.2.1 HG.out.2.2.2.2.1 HG.out.2.2.2.2.2.1 HG.out.2.2.2.2.2.2.1 HG.out.2.2.2.2.2.2.2
   (HF.out.2.1.chg HG.out.1 fun j hj e => e.elim (fun e => HF.out.2.2.2.1 R HB.out.2.2.2 (e ▸ hj)) fun e => HF.out.1.d12 j hj (e ▸ n1))
   (fun j hj => (HF.out.1.d1F j hj).1) HF.out.2.2.2.2.2.2.1.1 HG.out.2.2.2.1
   (HF.out.2.2.2.2.2.1.1.chg HG.out.1 fun a ha e => by cases ha; exact e.elim (HG.out.2.2.1 _ H1.out.2.2.2.2.2.2.2.1) H1.out.2.2.2.2.2.2.2.2.2.2.2.2.2.1)
   (HF.out.2.2.2.2.2.1.2.1.chg HG.out.1 fun a ha e => by cases ha; exact e.elim (HG.out.2.2.1 _ H1.out.2.2.2.2.2.2.2.2.1) H1.out.2.2.2.2.2.2.2.2.2.2.2.2.2.2.1)
   (HF.out.2.2.2.2.2.1.2.2.chg HG.out.1 fun a ha e => e.elim (HG.out.2.2.1 _ (H1.out.2.2.2.2.2.2.2.2.2.1 a ha).1) (H1.out.2.2.2.2.2.2.2.2.2.2.2.2.2.2.2 a ha))
   (by omega) (by omega) (by rw [List.length_take]; omega)
   n1 H1.out.2.2.2.2.2.2.2.1 H1.out.2.2.2.2.2.2.2.2.1 (fun a ha => (H1.out.2.2.2.2.2.2.2.2.2.1 a ha).1) (fun j hj => Nat.lt_of_lt_of_le (HF.out.1.kd.at.lt j hj) HG.out.1.size) H1.out.2.2.2.2.2.2.2.2.2.2.2.2.2.1 H1.out.2.2.2.2.2.2.2.2.2.2.2.2.2.2.1 H1.out.2.2.2.2.2.2.2.2.2.2.2.2.2.2.2 HF.out.1.d2F HF.out.1.d12 HF.out.2.2.2.2.2.2.1.2.1
   HG.out.2.1 (fun j hj e => hj.elim (fun hj => by have := hF14 j e; omega) fun hj => by have := hF14 j e; have := (HO.out.1.lt _ hj).1; omega) (fun j hj e => hj.elim (fun hj => by have := HF.out.2.2.2.2.2.2.2.1 j e; omega) fun hj => by have := HF.out.1.kd.at.lt j e; have := (HO.out.1.lt _ hj).1; omega) HF.out.2.2.2.2.2.2.1.2.2 HX.out.2.2.2.2
   (Chg.trans HF.out.2.2.2.2.1 HG.out.1 fun j hj e => e.elim (fun e => by omega) fun e => .inr (.inr (e ▸ n1))) H1.out.2.1.new (fun j e => .inl e) (fun j e => .inr (.inr e)) (fun j hj => (HF.out.2.2.2.2.2.2.2.2.2 j hj).imp id fun e => by have := HZ.out.2.1; omega) HC.out.1 HC.out.2.1).mono ?_
  rintro e w' (⟨rfl, hr1⟩ | ⟨rfl, hr1⟩)
  ·have HR1 := Lib.hid hr1
   clear hr1
   go_wp2_with fail
   go_ret
   exact .inl ⟨rfl, HR1.out⟩
  ·have HR1 := Lib.hid hr1
   clear hr1
   go_wp2_with fail
   go_ret
   exact .inr ⟨rfl, HR1.out⟩
end Go.Proofs.YtpkkcicaeldodaaGreatDoor

namespace Go.Proofs.YtpkkcicaeldodaaGreatDoor
open Go.RowKit Go.Maps

theorem NdOwn.move {W : World} {N : Nat → Prop} {b q : Nat} {nd : Nd} (h : NdOwn W N b q nd) : ∃ Ak ck Av cv Ac cc, Blk W b 73 #[.int .i64 q, .slice Ak nd.keys.length ck, .slice Av nd.vals.length cv, .slice Ac nd.kids.length cc] ∧
  ∀ (W' : World) (b' q' : Nat), Grew W W' → W.heap.size ≤ b' → Blk W' b' 73 #[.int .i64 q', .slice Ak nd.keys.length ck, .slice Av nd.vals.length cv, .slice Ac nd.kids.length cc] → NdOwn W' (fun j => (N j ∧ j ≠ b) ∨ j = b') b' q' nd := by
 obtain ⟨vk, vv, vc, hV⟩ := h.v
 have hne := hV.ne
 have rk := hV.rk
 have rv := hV.rv
 have rc := hV.rc
 rw [iv_len] at rk rv
 rw [nv_len] at rc
 obtain ⟨Ak, ck, rfl, -⟩ := own_shape rk
 obtain ⟨Av, cv, rfl, -⟩ := own_shape rv
 obtain ⟨Ac, cc, rfl, -⟩ := own_shape rc
 refine ⟨Ak, ck, Av, cv, Ac, cc, hV.blk, fun W' b' q' hg hb hB => ?_⟩
 have hsz := hg.size
 refine NdV.own (vk := .slice Ak nd.keys.length ck) (vv := .slice Av nd.vals.length cv) (vc := .slice Ac nd.kids.length cc) ⟨hB, own_grew hV.rk hg, own_grew hV.rv hg, own_grew hV.rc hg, .inr rfl, fun g e => .inl ⟨hV.nk g e, fun e2 => hne.1 (e2 ▸ e)⟩, fun g e => .inl ⟨hV.nv g e, fun e2 => hne.2.1 (e2 ▸ e)⟩, fun g e => .inl ⟨hV.nc g e, fun e2 => hne.2.2 (e2 ▸ e)⟩, fun j hj => ?_, hV.kv, hV.kc, hV.vc_⟩
 rcases hj with ⟨hj, -⟩ | rfl
 ·exact Nat.lt_of_lt_of_le (hV.lt j hj) hsz
 ·exact hB.lt
def GwOut (G : Nat → Prop) (w w' : World) (t p root : Nat) (F : Nat → Prop) (x : Rp) (D : Nat) (L : List KV) (e : Ending) : Prop :=
 (∃ bt N' nd' F' y P', e = .returned (.tuple #[.pointer (some ⟨bt, 0, none⟩), .int .i64 0]) ∧ BT w' t p root F' y ∧ Chg G w w' ∧ (∀ j, F' j → F j ∨ w.heap.size ≤ j) ∧ NdOwn w' N' bt root nd' ∧ (∀ j, N' j → ¬ F' j) ∧ (∀ j, N' j → w.heap.size ≤ j) ∧
  TS y (D + 1) root L P' ∧ x.like y ∧ y.nd root = some nd' ∧ nd'.keys.length = 1 ∧ y.now.countP Pk.used = x.now.countP Pk.used + 2) ∨
 (∃ v, e = .returned (.tuple #[v, .int .i64 21]) ∧ FullG G w w' t p root F x 2)
theorem FullG.more {G : Nat → Prop} {w w1 w' : World} {t p root m m' : Nat} {F F1 : Nat → Prop} {x y : Rp} {G' : Nat → Prop} (h : FullG G w1 w' t p root F1 y m) (hl : x.like y) (hu : y.now.countP Pk.used + m ≤ x.now.countP Pk.used + m') (hc : Chg G' w w1) (hF : ∀ j, F1 j → F j ∨ w.heap.size ≤ j) (hG : ∀ j, j < w.heap.size → G j → G' j) : FullG G' w w' t p root F x m' := by
 obtain ⟨z, F', h1, h2, h3, h4, h5, h6⟩ := h
 have hsz := hc.size
 exact ⟨z, F', h1, Chg.trans hc h2 hG, fun j hj => (h3 j hj).elim (hF j) fun e => .inr (by omega), hl.trans h4, by omega, h6⟩

theorem TS.grow {x : Rp} {D root c r : Nat} {L : List KV} {P : List Nat} {kd : Nd} (s : TS x D root L P) (hn : x.nd root = some kd) (hc : x.now[c]? = some .no) (hr : (x.put c .zero).now[r]? = some .no) (hh : 2 ≤ halfN x.sz) (hf : kd.keys.length = 2 * halfN x.sz - 1) (hz : x.sz ≤ 4096)
  {k0 v0 : Int} (hk : kd.keys[halfN x.sz - 1]? = some k0) (hv : kd.vals[halfN x.sz - 1]? = some v0) (f1 : (kd.hi (halfN x.sz)).Fit x.sz) (f2 : (kd.lo (halfN x.sz)).Fit x.sz) (f3 : (Nd.ins ⟨[], [], [c]⟩ 0 k0 v0 r).Fit x.sz) :
  ∃ P', TS ((x.put c .zero).splitP r c root (kd.hi (halfN x.sz)) (kd.lo (halfN x.sz)) (Nd.ins ⟨[], [], [c]⟩ 0 k0 v0 r)) (D + 1) root L P' ∧ ((x.put c .zero).splitP r c root (kd.hi (halfN x.sz)) (kd.lo (halfN x.sz)) (Nd.ins ⟨[], [], [c]⟩ 0 k0 v0 r)).nd root = some (Nd.ins ⟨[], [], [c]⟩ 0 k0 v0 r) ∧
   ((x.put c .zero).splitP r c root (kd.hi (halfN x.sz)) (kd.lo (halfN x.sz)) (Nd.ins ⟨[], [], [c]⟩ 0 k0 v0 r)).now.countP Pk.used = x.now.countP Pk.used + 2 := by
 have hcl := (List.getElem?_eq_some_iff.1 hc).1
 have hcP := s.new hc
 have c1 : (x.put c .zero).now[c]? = some .zero := by rw [Rp.put_at hcl, if_pos rfl]
 have hcr : c ≠ r := fun e => by rw [← e, c1] at hr; cases hr
 have hr0 : x.now[r]? = some .no := by
  rw [Rp.put_at hcl, if_neg (Ne.symm hcr)] at hr
  exact hr
 have hrP := s.new hr0
 have hrt : root ∈ P := s.tr.root_mem
 obtain ⟨ct, ht1, ht2⟩ := s.pgs root hrt
 have hctr : c ≠ root := fun e => hcP (e ▸ hrt)
 have hrtr : r ≠ root := fun e => hrP (e ▸ hrt)
 obtain ⟨k1, v1, g1, g2, g3⟩ := s.tr.grow (r := r) (c := c) s.nd hh hn hf hcP hrP hcr
 rw [hk] at g1; cases g1
 rw [hv] at g2; cases g2
 have hrl := (List.getElem?_eq_some_iff.1 hr).1
 have hl : (x.put c .zero).now.length = x.now.length := Rp.put_len _ _ _
 obtain ⟨n1, n2, n3, n4⟩ := Rp.splitP_nd (x := x.put c .zero) (r := r) (qk := c) (qn := root) hrl (by rw [hl]; exact hcl) (by rw [hl]; exact (List.getElem?_eq_some_iff.1 ht1).1) f1 f2 f3 hz (Ne.symm hcr) hrtr hctr
 obtain ⟨P', h1, h2⟩ := g3 _ n2 n1 n3 fun j hj hjr => by
  have e1 : j ≠ r := fun e => hrP (e ▸ hj)
  have e2 : j ≠ c := fun e => hcP (e ▸ hj)
  rw [n4 j e1 e2 hjr, Rp.nd_other e2]
 have u1 := Rp.put_usedN (c := .zero) hc rfl
 obtain ⟨ct2, ht3, ht4⟩ := Rp.put_same (q := c) (c := .zero) ht1 ht2 rfl
 have u2 := Rp.splitP_used (x := x.put c .zero) (hi := kd.hi (halfN x.sz)) (lo := kd.lo (halfN x.sz)) (pn := Nd.ins ⟨[], [], [c]⟩ 0 k0 v0 r) hr c1 rfl ht3 ht4
 have hu : ((x.put c .zero).splitP r c root (kd.hi (halfN x.sz)) (kd.lo (halfN x.sz)) (Nd.ins ⟨[], [], [c]⟩ 0 k0 v0 r)).now.countP Pk.used = x.now.countP Pk.used + 2 := by omega
 refine ⟨P', ⟨h1, h2.nodup_iff.2 (List.nodup_cons.2 ⟨by simp; exact ⟨fun e => hcr e.symm, hrP⟩, List.nodup_cons.2 ⟨hcP, s.nd⟩⟩), s.srt, ?_⟩, n3, hu⟩
 rw [hu, h2.length_eq, s.used]
 rfl
theorem half_two {sz : Nat} (h : 64 ≤ sz) : 2 ≤ halfN sz := by unfold halfN mostN; omega
set_option maxRecDepth 100000 in
set_option maxHeartbeats 3200000 in
theorem bgrow_any (t p root bn D : Nat) (L : List KV) (P : List Nat) (F N : Nat → Prop) (x : Rp) (nd : Nd) (w : World) (hb : BT w t p root F x) (ho : x.was ≠ none) (hs : TS x D root L P) (hn : NdOwn w N bn root nd) (hnd : x.nd root = some nd) (hf : nd.keys.length = 2 * halfN x.sz - 1) (hNF : ∀ j, N j → ¬ F j) (hN0 : ¬ N t ∧ ¬ N 0) :
  Calls Tryz.prog 40 #[.pointer (some ⟨t, 0, none⟩), .pointer (some ⟨bn, 0, none⟩)] w fun e w' => GwOut (fun j => F j ∨ N j) w w' t p root F x D L e := by
 have hz := hb.gp.szs
 have hal := gp_alloc_any p F x w hb.gp ho
 obtain ⟨c0, f0, s0⟩ := hb.blk.facts
 have H := Lib.hid (And.intro hal (And.intro hb (And.intro ho (And.intro hs (And.intro hn (And.intro hnd (And.intro hf (And.intro hNF (And.intro hN0 hz)))))))))
 clear hal hb ho hs hn hnd hf hNF hN0 hz
 go_enter Tryz.func40, Tryz.ntmps40
 go_wp2_with fail
 refine H.out.1.mono ?_
 rintro e w1 (⟨c, hc, hcf, rfl, hto⟩ | ⟨hno, rfl, hg1⟩)
 rotate_left
 ·have HN := Lib.hid (And.intro hno hg1)
  clear hno hg1
  go_wp2_with fail
  go_ret2
  exact .inr ⟨_, rfl, x, F, H.out.2.1.grew HN.out.2, HN.out.2.chg, fun _ e => .inl e, Rp.like.refl x, by omega, fun e => HN.out.1 ⟨by omega, e.2⟩⟩
 obtain ⟨F1, hb1, hc1, hn1⟩ := H.out.2.1.to hto
 have hc4 : c < 4096 := by have h1 := (List.getElem?_eq_some_iff.1 hc).1; have := H.out.2.2.2.2.2.2.2.2.2; omega
 have hnode1 := H.out.2.2.2.2.1.chg hc1 H.out.2.2.2.2.2.2.2.1
 obtain ⟨Ak, ck, Av, cv, Ac, cc, bB, bmv⟩ := hnode1.move
 have hd1 : w1.drew.cell? ⟨bn, 1, none⟩ = some (.slice Ak nd.keys.length ck) ∧ w1.drew.cell? ⟨bn, 2, none⟩ = some (.slice Av nd.vals.length cv) ∧ w1.drew.cell? ⟨bn, 3, none⟩ = some (.slice Ac nd.kids.length cc) := ⟨bB.drew.cell 1, bB.drew.cell 2, bB.drew.cell 3⟩
 have H1 := Lib.hid (And.intro hb1 (And.intro hc1 (And.intro hn1 (And.intro hc (And.intro bB bmv)))))
 clear hb1 hc1 hn1 hc hcf hto hnode1 bB bmv c0 f0 s0
 go_wp2_with fail
 refine wp_region_held_drew (S := fun w' => w'.cell? ⟨bn, 1, none⟩ = some (.slice Ak nd.keys.length ck) ∧ w'.cell? ⟨bn, 2, none⟩ = some (.slice Av nd.vals.length cv) ∧ w'.cell? ⟨bn, 3, none⟩ = some (.slice Ac nd.kids.length cc)) (by kernel_rfl) hd1 (fun hHeld => ?_)
 refine Todo.out (is := [0, 1, 2, 3, 4, 5, 6, 7, 8, 9, 10, 11, 12, 13]) ?_
 repeat
  refine tkH (v := ?_) rfl (by kernel_rfl) (by kernel_rfl) (by kernel_rfl) (fun _ _ _ h => h) (Or.inl ⟨by rfl, ?_⟩) hHeld ?_
  rotate_left
  ·(intro w hSw; (try dsimp only at hSw); go_simp) <;> with_reducible rfl
  (try simp only [Act.put, lA, lB, lC, lD, lE, lF])
 refine Todo.fin ?_
 refine rdH (i := 14) (by kernel_rfl) rfl fun K hK => ?_
 go_simp
 obtain ⟨W4, hW4⟩ : ∃ W, (w1.alloc (.cells #[.int .i64 c, .slice Ak nd.keys.length ck, .slice Av nd.vals.length cv, .slice Ac nd.kids.length cc] 73)).drew = W := ⟨_, rfl⟩
 rw [hW4]
 have hg4 : Grew w1 W4 := hW4 ▸ ((Chg.refl NoF w1).alloc _).drew
 have hb4 : Blk W4 w1.heap.size 73 #[.int .i64 c, .slice Ak nd.keys.length ck, .slice Av nd.vals.length cv, .slice Ac nd.kids.length cc] := hW4 ▸ (Blk.new w1 _ _).drew
 have hz4 : W4.heap.size = w1.heap.size + 1 := by subst hW4; simp
 have hd4 : W4.cell? ⟨bn, 1, none⟩ = some (.slice Ak nd.keys.length ck) ∧ W4.cell? ⟨bn, 2, none⟩ = some (.slice Av nd.vals.length cv) ∧ W4.cell? ⟨bn, 3, none⟩ = some (.slice Ac nd.kids.length cc) := by
  have h9 := H1.out.2.2.2.2.1.grew hg4
  exact ⟨h9.cell 1, h9.cell 2, h9.cell 3⟩
 refine hK.out _ _ hd4 (fun _ => ?_)
 clear hK K
 (try simp only [Act.put, lA, lB, lC, lD, lE, lF])
 refine rdH (i := 15) (by kernel_rfl) rfl fun K hK => ?_
 go_simp
 refine hK.out _ _ hd4 (fun _ => ?_)
 clear hK K
 (try simp only [Act.put, lA, lB, lC, lD, lE, lF])
 refine wpAnyH_done (by kernel_rfl) ?_ _
 clear hHeld hd1 hd4 hW4
 have hb1' := H1.out.1.grew hg4
 obtain ⟨c0, f0, s0⟩ := hb1'.blk.facts
 obtain ⟨W5, hW5⟩ : ∃ W, W4.alloc (.cells #[.int .i64 c] 3) = W := ⟨_, rfl⟩
 obtain ⟨W6, hW6⟩ : ∃ W, W5.alloc (.cells #[.int .i64 root, .slice none 0 0, .slice none 0 0, .slice (some ⟨W4.heap.size, 0, none⟩) 1 1] 73) = W := ⟨_, rfl⟩
 have hg45 : Grew W4 W5 := hW5 ▸ (Chg.refl _ _).alloc _
 have hg56 : Grew W5 W6 := hW6 ▸ (Chg.refl _ _).alloc _
 have hz5 : W5.heap.size = W4.heap.size + 1 := by subst hW5; simp
 have hz6 : W6.heap.size = W5.heap.size + 1 := by subst hW6; simp
 have hrow : W5.ownsRow 1 3 1 (.slice (some ⟨W4.heap.size, 0, none⟩) 1 1) 1 (nv [c]) := by
  subst hW5
  have := World.ownsRow_lit W4 #[.int .i64 c] 1 (tab_pos hb1'.gp.tab) (by simp [maxLen]) (by simp) (e := 3) (size := 1) (base := 1)
  simpa [nv] using this
 have htop : Blk W6 W5.heap.size 73 #[.int .i64 root, .slice none 0 0, .slice none 0 0, .slice (some ⟨W4.heap.size, 0, none⟩) 1 1] := hW6 ▸ Blk.new _ _ _
 have hg16 : Grew w1 W6 := Grew.trans hg4 (Grew.trans hg45 hg56)
 have hsz1 := H1.out.2.1.size
 have hown : NdOwn W6 (fun j => j = W4.heap.size ∨ j = W5.heap.size) W5.heap.size root ⟨[], [], [c]⟩ :=
  ⟨none, 0, none, 0, some ⟨W4.heap.size, 0, none⟩, 1, htop, World.ownsRow_nil _ _ _ _, World.ownsRow_nil _ _ _ _, own_grew hrow hg56, Or.inr rfl, (fun a ha => by cases ha), (fun a ha => by cases ha), (fun a ha => by cases ha; exact Or.inl rfl), (fun j hj => by rcases hj with e | e <;> omega), (fun a a' ha => by cases ha), (fun a a' ha => by cases ha), (fun a a' ha => by cases ha)⟩
 have hkid : NdOwn W6 (fun j => (N j ∧ j ≠ bn) ∨ j = w1.heap.size) w1.heap.size c nd := H1.out.2.2.2.2.2 W6 w1.heap.size c hg16 (Nat.le_refl _) (hb4.grew (Grew.trans hg45 hg56))
 have hNlt : ∀ j, N j → j < w.heap.size := fun j hj => H.out.2.2.2.2.1.at.lt j hj
 have hF1lt : ∀ j, F1 j → j < w1.heap.size := fun j hj => H1.out.1.gp.lt j hj
 have htl := H.out.2.1.blk.lt
 have hpos := tab_pos H.out.2.1.gp.tab
 have hNF1 : ∀ j, N j → ¬ F1 j := fun j hj e => (H1.out.2.2.1 j e).elim (H.out.2.2.2.2.2.2.2.1 j hj) fun e => by have := hNlt j hj; omega
 have hSp : Sp W6 t p root F1 (x.put c .zero) (fun j => j = W4.heap.size ∨ j = W5.heap.size) (fun j => (N j ∧ j ≠ bn) ∨ j = w1.heap.size) w1.heap.size c nd :=
  ⟨H1.out.1.grew hg16, hkid, fun j hj e => by
   rcases e with ⟨e, -⟩ | e
   ·have := hNlt j e; rcases hj with hj | hj <;> omega
   ·rcases hj with hj | hj <;> omega, fun j hj => ⟨fun e => by have := hF1lt j e; rcases hj with hj | hj <;> omega, by rcases hj with hj | hj <;> omega, by rcases hj with hj | hj <;> omega, by rcases hj with hj | hj <;> omega⟩, fun j hj e => by
   rcases hj with ⟨hj, -⟩ | hj
   ·exact hNF1 j hj e
   ·have := hF1lt j e; omega⟩
 have hft := H.out.2.1.gp.fit H.out.2.2.2.2.2.1
 have hz := H.out.2.2.2.2.2.2.2.2.2
 have hcl := (List.getElem?_eq_some_iff.1 H1.out.2.2.2.1).1
 obtain ⟨ct, ht1, ht2⟩ := H.out.2.2.2.1.pgs root H.out.2.2.2.1.tr.root_mem
 have hfl := H.out.2.2.2.2.2.2.1
 have h2h := half_two hz.2.2.1
 have hspl := bsplit_any t p root W5.heap.size root 0 w1.heap.size c (halfN x.sz) F1 _ _ (x.put c .zero) ⟨[], [], [c]⟩ nd W6 hSp hown rfl h2h H.out.2.2.1 hfl (hft.1.vals.trans hfl) (by rcases hft.1.kids with e | e <;> omega) (by simp only [List.length_nil]; omega) rfl rfl (Nat.le_refl _)
  ⟨rfl, Nat.zero_le _, .inr rfl, fun k h => (by cases h), fun k h => (by cases h), fun k h => by rw [List.mem_singleton] at h; omega⟩ hft.1 (Rp.put_same ht1 ht2 rfl) ⟨.zero, by rw [Rp.put_at hcl, if_pos rfl], rfl⟩
  ⟨fun e => e.elim (fun e => H.out.2.2.2.2.2.2.2.2.1.1 e.1) fun e => by omega, fun e => e.elim (fun e => H.out.2.2.2.2.2.2.2.2.1.2 e.1) fun e => by omega⟩
 rw [show ((0 : Nat) : Int) = 0 from rfl, hz5] at hspl
 have H6 := Lib.hid (And.intro hspl (And.intro hg16 (And.intro hW5 (And.intro hW6 (And.intro hNlt (And.intro hz4 hz5))))))
 clear hspl hg16 hW5 hW6 hown hkid hSp htop hrow hg45 hg56 hb4 hg4 hft hz hcl ht1 ht2 hfl h2h hb1' hNF1 hNlt hF1lt hz4 hz5 hz6
 go_wp2_with fail
 rw [H6.out.2.2.1, H6.out.2.2.2.1]
 have z1 := H1.out.2.1.size
 have z6 := H6.out.2.1.size
 have z4 := H6.out.2.2.2.2.2.1
 have hNlt := H6.out.2.2.2.2.1
 have hc6 : Chg (fun j => F j ∨ N j) w W6 := (H1.out.2.1.mono fun j _ e => .inl e).grew H6.out.2.1
 have hG6 : ∀ j, j < w.heap.size → (F1 j ∨ (j = W4.heap.size ∨ j = W4.heap.size + 1) ∨ ((N j ∧ j ≠ bn) ∨ j = w1.heap.size)) → F j ∨ N j := fun j hj e => by
  rcases e with e | e | e
  ·exact .inl ((H1.out.2.2.1 j e).resolve_right (by omega))
  ·omega
  ·rcases e with e | e
   ·exact .inr e.1
   ·omega
 have hz := H.out.2.2.2.2.2.2.2.2.2
 have hus1 := Rp.put_usedN (c := .zero) H1.out.2.2.2.1 rfl
 have hF6 : ∀ j, F1 j → F j ∨ w.heap.size ≤ j := H1.out.2.2.1
 have HP := Lib.hid (And.intro hc6 (And.intro hG6 (And.intro hF6 (And.intro z1 (And.intro z6 (And.intro z4 hus1))))))
 clear hc6 hG6 hF6 hNlt z1 z6 z4 hus1 hz
 refine H6.out.1.mono ?_
 rintro e w' (⟨rfl, r, k0, v0, F', N', hr, hk0, hv0, hbt', hcg, hFn, hno, hdis, hNn, ff1, ff2, ff3⟩ | ⟨rfl, hfu⟩)
 ·obtain ⟨P', hts, hnr, hus⟩ := H.out.2.2.2.1.grow H.out.2.2.2.2.2.1 H1.out.2.2.2.1 hr (half_two H.out.2.2.2.2.2.2.2.2.2.2.2.1) H.out.2.2.2.2.2.2.1 H.out.2.2.2.2.2.2.2.2.2.2.2.2.1 hk0 hv0 ff1 ff2 ff3
  have hout : GwOut (fun j => F j ∨ N j) w w' t p root F x D L (.returned (.tuple #[.pointer (some ⟨W4.heap.size + 1, 0, none⟩), .int .i64 0])) := by
   obtain ⟨hc6, hG6, hF6, z1, z6, z4, hus1⟩ := HP.out
   refine .inl ⟨_, N', _, F', _, P', rfl, hbt', Chg.trans hc6 hcg hG6, fun j hj => (hFn j hj).elim (hF6 j) fun e => .inr (by omega), hno, hdis, fun j hj => (hNn j hj).elim (fun e => by omega) fun e => by omega, hts, (x.put_like _ _).trans Rp.splitP_like, hnr, by simp [Nd.ins, insI], hus⟩
  have HO := Lib.hid hout
  clear hout hts hnr hus hr hk0 hv0 hbt' hcg hFn hno hdis hNn ff1 ff2 ff3
  go_wp2_with fail
  go_ret2
  exact HO.out
 ·have hout : GwOut (fun j => F j ∨ N j) w w' t p root F x D L (.returned (.tuple #[.pointer (some ⟨W4.heap.size + 1, 0, none⟩), .int .i64 21])) := by
   obtain ⟨hc6, hG6, hF6, z1, z6, z4, hus1⟩ := HP.out
   exact .inr ⟨_, rfl, hfu.more (x.put_like _ _) (by omega) hc6 hF6 hG6⟩
  have HO := Lib.hid hout
  clear hout hfu
  go_wp2_with fail
  go_ret2
  exact HO.out
end Go.Proofs.YtpkkcicaeldodaaGreatDoor

namespace Go.Proofs.YtpkkcicaeldodaaGreatDoor
open Go.RowKit Go.Maps

section
variable {W W' : World} {N G : Nat → Prop} {b q : Nat} {nd : Nd} {vk vv vc v' : Value} {lk lv lc l' : List Value}
structure Rws (W : World) (N : Nat → Prop) (vk vv vc : Value) (lk lv lc : List Value) : Prop where
 rk : W.ownsRow 1 3 1 vk lk.length lk
 rv : W.ownsRow 1 3 1 vv lv.length lv
 rc : W.ownsRow 1 3 1 vc lc.length lc
 nk : ∀ g, vk.ownBlock = some g → N g
 nv : ∀ g, vv.ownBlock = some g → N g
 nc : ∀ g, vc.ownBlock = some g → N g
 lt : ∀ j, N j → j < W.heap.size
 kv : ∀ g, vk.ownBlock = some g → vv.ownBlock ≠ some g
 kc : ∀ g, vk.ownBlock = some g → vc.ownBlock ≠ some g
 vc_ : ∀ g, vv.ownBlock = some g → vc.ownBlock ≠ some g
theorem NdV.rws (h : NdV W N b q vk vv vc lk lv lc) : Rws W N vk vv vc lk lv lc := ⟨h.rk, h.rv, h.rc, h.nk, h.nv, h.nc, h.lt, h.kv, h.kc, h.vc_⟩
theorem Rws.ndv (h : Rws W N vk vv vc lk lv lc) (hb : Blk W b 73 #[.int .i64 q, vk, vv, vc]) (hn : N b) : NdV W N b q vk vv vc lk lv lc := ⟨hb, h.rk, h.rv, h.rc, hn, h.nk, h.nv, h.nc, h.lt, h.kv, h.kc, h.vc_⟩
theorem Rws.chg (h : Rws W N vk vv vc lk lv lc) (hc : Chg G W W') (hk : ∀ g, vk.ownBlock = some g → ¬ G g) (hv : ∀ g, vv.ownBlock = some g → ¬ G g) (hcc : ∀ g, vc.ownBlock = some g → ¬ G g) : Rws W' N vk vv vc lk lv lc :=
 ⟨own_chg h.rk hc hk, own_chg h.rv hc hv, own_chg h.rc hc hcc, h.nk, h.nv, h.nc, fun j hj => Nat.lt_of_lt_of_le (h.lt j hj) hc.size, h.kv, h.kc, h.vc_⟩
theorem Rws.grew (h : Rws W N vk vv vc lk lv lc) (hc : Grew W W') : Rws W' N vk vv vc lk lv lc := h.chg hc (fun _ _ => id) (fun _ _ => id) fun _ _ => id
theorem Rws.setK (h : Rws W N vk vv vc lk lv lc) (ha : Ap W W' vk v') (ho : W'.ownsRow 1 3 1 v' l'.length l') : Rws W' (fun j => N j ∨ v'.ownBlock = some j) v' vv vc l' lv lc := by
 obtain ⟨a1, a2⟩ := ha.own h.rv h.kv
 obtain ⟨b1, b2⟩ := ha.own h.rc h.kc
 have hz1 := ha.chg.size
 refine ⟨ho, a1, b1, fun g hg => .inr hg, fun g hg => .inl (h.nv g hg), fun g hg => .inl (h.nc g hg), fun j hj => ?_, fun g hg e => a2 g hg e, fun g hg e => b2 g hg e, h.vc_⟩
 rcases hj with e | e
 ·have := h.lt j e; omega
 ·exact (ho.lt j e).2
theorem Rws.setV (h : Rws W N vk vv vc lk lv lc) (ha : Ap W W' vv v') (ho : W'.ownsRow 1 3 1 v' l'.length l') : Rws W' (fun j => N j ∨ v'.ownBlock = some j) vk v' vc lk l' lc := by
 obtain ⟨a1, a2⟩ := ha.own h.rk fun g hg e => h.kv g e hg
 obtain ⟨b1, b2⟩ := ha.own h.rc h.vc_
 have hz1 := ha.chg.size
 refine ⟨a1, ho, b1, fun g hg => .inl (h.nk g hg), fun g hg => .inr hg, fun g hg => .inl (h.nc g hg), fun j hj => ?_, fun g hg e => a2 g e hg, h.kc, fun g hg e => b2 g hg e⟩
 rcases hj with e | e
 ·have := h.lt j e; omega
 ·exact (ho.lt j e).2
theorem own_set {w : World} {base g n cap i : Nat} {xs : List Value} {u : Value} (h : w.ownsRow base 3 1 (.slice (some ⟨g, 0, none⟩) n cap) n xs) (hi : i < n) :
  (w.setCell ⟨g, i, none⟩ u).ownsRow base 3 1 (.slice (some ⟨g, 0, none⟩) n cap) n (xs.set i u) := by
 obtain ⟨cur, hb, hg, hnc, hcm, hcs, htake, hxl⟩ := own_row h
 have hB : Blk w g 3 cur := hg
 have hB2 := hB.put i u
 refine own_mk hb hB2 hnc hcm (by simpa using hcs) (by rw [List.length_set]; omega) fun j hj => ?_
 rw [Array.getElem?_setIfInBounds, List.getElem?_set]
 have hj2 : cur[j]? = xs[j]? := by
  rw [← htake, List.getElem?_take, if_pos (by omega)]
  simp
 by_cases e : i = j
 ·subst e
  rw [if_pos rfl, if_pos rfl, if_pos (by omega), if_pos (by omega)]
 ·rw [if_neg e, if_neg e, hj2]
end
theorem NdOwn.setVal {W : World} {N : Nat → Prop} {b q : Nat} {nd : Nd} {i : Nat} (h : NdOwn W N b q nd) (hi : i < nd.vals.length) :
  ∃ gv ck cv cc Ak Ac, Blk W b 73 #[.int .i64 q, .slice Ak nd.keys.length ck, .slice (some ⟨gv, 0, none⟩) nd.vals.length cv, .slice Ac nd.kids.length cc] ∧ N gv ∧ gv < W.heap.size ∧ (∃ u, W.cell? ⟨gv, i, none⟩ = some u) ∧ W.frozen? ⟨gv, i, none⟩ = false ∧
   ∀ (v : Int) (W2 : World), W.setCell ⟨gv, i, none⟩ (.int .i64 v) = W2 → NdOwn W2 N b q { nd with vals := nd.vals.set i v } ∧ Chg N W W2 := by
 obtain ⟨vk, vv, vc, hV⟩ := h.v
 have hne := hV.ne
 have rk := hV.rk
 have rv := hV.rv
 have rc := hV.rc
 rw [iv_len] at rk rv
 rw [nv_len] at rc
 obtain ⟨Ak, ck, rfl, -⟩ := own_shape rk
 obtain ⟨Av, cv, rfl, -⟩ := own_shape rv
 obtain ⟨Ac, cc, rfl, -⟩ := own_shape rc
 obtain ⟨gv, rfl, hgl⟩ := own_block rv (by omega)
 have hown : (Value.slice (some ⟨gv, 0, none⟩) nd.vals.length cv).ownBlock = some gv := own_blockOf rv _ rfl
 obtain ⟨cur, hb, hg, hnc, hcm, hcs, htake, hxl⟩ := own_row rv
 have hB : Blk W gv 3 cur := hg
 have hcell : W.cell? ⟨gv, i, none⟩ = some cur[i] := by rw [hB.cell]; exact Array.getElem?_eq_getElem (by omega)
 refine ⟨gv, ck, cv, cc, Ak, Ac, hV.blk, hV.nv _ hown, hgl, ⟨_, hcell⟩, hB.frozen i, fun v W2 hW => ?_⟩
 have hc : Chg (fun j => j = gv) W W2 := hW ▸ (Chg.refl (fun j => j = gv) W).setCell (p := ⟨gv, i, none⟩) (fun _ => rfl) _
 have hl : (iv (nd.vals.set i v)).length = nd.vals.length := by rw [iv_len, List.length_set]
 refine ⟨NdV.own (vk := .slice Ak nd.keys.length ck) (vv := .slice (some ⟨gv, 0, none⟩) nd.vals.length cv) (vc := .slice Ac nd.kids.length cc) (nd := { nd with vals := nd.vals.set i v })
  ⟨hV.blk.chg hc fun e => hne.2.1 (by rw [e]; exact hown), own_chg hV.rk hc fun g hg e => hV.kv g hg (by rw [e]; exact hown), ?_, own_chg hV.rc hc fun g hg e => hV.vc_ gv hown (by rw [← e]; exact hg), hV.nb, hV.nk, hV.nv, hV.nc, fun j hj => Nat.lt_of_lt_of_le (hV.lt j hj) hc.size, hV.kv, hV.kc, hV.vc_⟩, hc.mono fun j _ e => by subst e; exact hV.nv _ hown⟩
 rw [hl]
 have := own_set (u := .int .i64 v) rv hi
 rw [hW] at this
 have e : (iv nd.vals).set i (.int .i64 v) = iv (nd.vals.set i v) := by simp [iv, List.map_set]
 rw [e] at this
 exact this
end Go.Proofs.YtpkkcicaeldodaaGreatDoor

namespace Go.Proofs.YtpkkcicaeldodaaGreatDoor
open Go.RowKit Go.Maps

theorem WayAt.whole {rd : Nat → Option Nd} {h D root : Nat} {k : Int} {L : List KV} {P : List Nat} {d q : Nat} {nd : Nd} {A M B : List KV} {P1 PM P2 : List Nat} (a : WayAt rd h D root k L P d q nd A M B P1 PM P2) : Tr rd h D root L P := by
 have := a.ctx.plug rd M PM (fun _ _ => rfl) (fun _ _ => rfl) a.tr a.occ
 rwa [← a.l, ← a.p] at this
theorem TS.depth {x : Rp} {D root : Nat} {L : List KV} {P : List Nat} (h : TS x D root L P) (hh : 2 ≤ halfN x.sz) (hl : L.length ≤ 1000) : D ≤ 9 := by
 rcases h.tr.deep hh with e | e
 ·omega
 ·by_cases hD : D ≤ 9
  ·exact hD
  ·have : 2 ^ 10 ≤ 2 ^ (D + 1) := Nat.pow_le_pow_right (by omega) (by omega)
   omega
theorem TS.write {x : Rp} {D root q : Nat} {L L' : List KV} {P : List Nat} {bs : List Int} (h : TS x D root L P) (hq : q ∈ P) (t : Tr (x.put q (.new bs)).nd (halfN x.sz) D root L' P) (hs : Srt L') : TS (x.put q (.new bs)) D root L' P := by
 obtain ⟨c, h1, h2⟩ := h.pgs q hq
 refine ⟨t, h.nd, hs, ?_⟩
 rw [Rp.put_usedU h1 h2 rfl, h.used]
theorem WayAt.q_mem {rd : Nat → Option Nd} {h D root : Nat} {k : Int} {L : List KV} {P : List Nat} {d q : Nat} {nd : Nd} {A M B : List KV} {P1 PM P2 : List Nat} (a : WayAt rd h D root k L P d q nd A M B P1 PM P2) : q ∈ P := by
 rw [a.p]
 exact List.mem_append_left _ (List.mem_append_right _ a.tr.root_mem)
def PuOut (w w' : World) (t p root : Nat) (F : Nat → Prop) (x : Rp) (D0 : Nat) (k v : Int) (L : List KV) (e : Ending) : Prop :=
 (e = .returned (.int .i64 0) ∧ ∃ y F' D P, BT w' t p root F' y ∧ Rch F F' w w' ∧ x.like y ∧ TS y D root (putL L k v) P) ∨ (e = .returned (.int .i64 21) ∧ Full w w' t p root F x (D0 + 4))
theorem FullG.full {w w' : World} {t p root m m' : Nat} {F : Nat → Prop} {x : Rp} (h : FullG F w w' t p root F x m) (hm : m ≤ m') : Full w w' t p root F x m' := by
 obtain ⟨z, F', h1, h2, h3, h4, h5, h6⟩ := h
 exact ⟨z, ⟨F', h1, h2, h3⟩, h4, by omega, h6⟩
structure PuJ (w W : World) (t p root : Nat) (F : Nat → Prop) (x : Rp) (k : Int) (L : List KV) (bn d q : Nat) (nd : Nd) (F' : Nat → Prop) (y : Rp) (D : Nat) (P : List Nat) (A M B : List KV) (P1 PM P2 : List Nat) (N : Nat → Prop) (D0 : Nat) : Prop where
 bt : BT W t p root F' y
 rch : Rch F F' w W
 like : x.like y
 ts : TS y D root L P
 way : WayAt y.nd (halfN y.sz) D root k L P d q nd A M B P1 PM P2
 own : NdOwn W N bn q nd
 nF : ∀ j, N j → ¬ F' j
 nw : ∀ j, N j → w.heap.size ≤ j
 room : nd.keys.length + 1 ≤ 2 * halfN y.sz - 1
 used : y.now.countP Pk.used + d ≤ x.now.countP Pk.used + 2 + D
 dep : D ≤ D0 + 1
 tl : t < w.heap.size
theorem nd_put_fit {nd : Nd} {sz i : Nat} {k v : Int} (f : nd.Fit sz) (hi : i ≤ nd.keys.length) (hm : nd.keys.length + 1 ≤ mostN sz) (hk : i64 k) (hv : i64 v) : (⟨insI nd.keys i k, insI nd.vals i v, []⟩ : Nd).Fit sz := by
 have l1 := insI_len (l := nd.keys) (i := i) k hi
 have l2 := insI_len (l := nd.vals) (i := i) v (by rw [f.vals]; exact hi)
 have hvl := f.vals
 exact ⟨by simp only; omega, by simp only; omega, .inl rfl, fun a ha => (insI_mem ha).elim (fun e => e ▸ hk) (f.ki a), fun a ha => (insI_mem ha).elim (fun e => e ▸ hv) (f.vi a), fun c hc => (by cases hc)⟩
theorem half_most {sz : Nat} (h : 64 ≤ sz) : 2 * halfN sz - 1 ≤ mostN sz := by unfold halfN; unfold mostN; omega
section
variable {w W : World} {t p root : Nat} {F : Nat → Prop} {x : Rp} {k v : Int} {L : List KV} {bn d q : Nat} {nd : Nd} {F' : Nat → Prop} {y : Rp} {D : Nat} {P : List Nat} {A M B : List KV} {P1 PM P2 : List Nat} {N : Nat → Prop} {D0 : Nat}
theorem PuJ.fail (h : PuJ w W t p root F x k L bn d q nd F' y D P A M B P1 PM P2 N D0) {W1 w' : World} {G G1 : Nat → Prop} {m : Nat} (hc : Chg G1 W W1) (hG1 : ∀ j, G1 j → F' j ∨ w.heap.size ≤ j) (hf : FullG G W1 w' t p root F' y m) (hm : m ≤ 1) (hG : ∀ j, G j → F' j ∨ w.heap.size ≤ j) : Full w w' t p root F x (D0 + 4) := by
 have hu := h.used
 have hd := h.dep
 have hF' : ∀ j, j < w.heap.size → F' j → F j := fun j hj e => (h.rch.new j e).resolve_right (by omega)
 have h1 : Chg F w W1 := Chg.trans h.rch.chg hc fun j hj e => hF' j hj ((hG1 j e).resolve_right (by omega))
 exact (hf.more (m' := D0 + 4) h.like (by omega) h1 h.rch.new fun j hj e => hF' j hj ((hG j e).resolve_right (by omega))).full (Nat.le_refl _)
theorem PuJ.put (h : PuJ w W t p root F x k L bn 0 q nd F' y D P A M B P1 PM P2 N D0) (hk : getK L k = none) {W1 w' : World} {G1 : Nat → Prop} (hc : Chg G1 W W1) (hG1 : ∀ j, G1 j → F' j ∨ w.heap.size ≤ j) (hz : y.sz ≤ 4096)
  (hto : BTTo W1 w' t p root F' (y.put q (.new (ndL ⟨insI nd.keys (atI nd.keys k) k, insI nd.vals (atI nd.keys k) v, []⟩ y.sz)))) (hfit : (⟨insI nd.keys (atI nd.keys k) k, insI nd.vals (atI nd.keys k) v, []⟩ : Nd).Fit y.sz) :
  ∃ y F' D P, BT w' t p root F' y ∧ Rch F F' w w' ∧ x.like y ∧ TS y D root (putL L k v) P := by
 obtain ⟨F2, h1, h2, h3⟩ := hto
 have hsz := hc.size
 have hw := h.rch.chg.size
 have hF' : ∀ j, j < w.heap.size → F' j → F j := fun j hj e => (h.rch.new j e).resolve_right (by omega)
 have hr1 : Chg F w W1 := Chg.trans h.rch.chg hc fun j hj e => hF' j hj ((hG1 j e).resolve_right (by omega))
 obtain ⟨c, p1, p2⟩ := h.ts.pgs q h.way.q_mem
 have ht := h.way.put (v := v) h.ts.srt h.ts.nd (h.way.miss hk) h.room (Rp.nd_new hfit (List.getElem?_eq_some_iff.1 p1).1 hz) fun i _ hi => Rp.nd_other hi
 exact ⟨_, F2, D, P, h1, ⟨Chg.trans hr1 h2 fun j hj e => hF' j hj e, fun j hj => (h3 j hj).elim (h.rch.new j) fun e => .inr (by omega)⟩, h.like.trans (y.put_like _ _), h.ts.write h.way.q_mem ht (putL_srt h.ts.srt k v)⟩
theorem PuJ.down (h : PuJ w W t p root F x k L bn (d + 1) q nd F' y D P A M B P1 PM P2 N D0) {W1 : World} {b3 c : Nat} {kd : Nd} {N3 : Nat → Prop} {A' M' B' : List KV} {P1' PM' P2' : List Nat} (hw : WayAt y.nd (halfN y.sz) D root k L P d c kd A' M' B' P1' PM' P2') (hc : Chg F' W W1) (hb : BT W1 t p root F' y) (hn : NdOwn W1 N3 b3 c kd) (hN : ∀ j, N3 j → W.heap.size ≤ j) (hr : kd.keys.length + 1 ≤ 2 * halfN y.sz - 1) :
  PuJ w W1 t p root F x k L b3 d c kd F' y D P A' M' B' P1' PM' P2' N3 D0 := by
 have hsz := h.rch.chg.size
 have hlt := h.bt.gp.lt
 exact ⟨hb, h.rch.trans ⟨hc, fun j e => .inl e⟩, h.like, h.ts, hw, hn, fun j hj e => by have := hN j hj; have := hlt j e; omega, fun j hj => by have := hN j hj; omega, hr, by have := h.used; omega, h.dep, h.tl⟩
theorem PuJ.split (h : PuJ w W t p root F x k L bn (d + 1) q nd F' y D P A M B P1 PM P2 N D0) (hk : getK L k = none) {W1 w' : World} {c r : Nat} {kd : Nd} {N' F2 : Nat → Prop} {k0 v0 : Int} {G : Nat → Prop} (hci : nd.kids[atI nd.keys k]? = some c) (hkd : y.nd c = some kd) (hf : kd.keys.length = 2 * halfN y.sz - 1) (hh : 2 ≤ halfN y.sz) (hz : y.sz ≤ 4096)
  (hr : y.now[r]? = some .no) (hk0 : kd.keys[halfN y.sz - 1]? = some k0) (hv0 : kd.vals[halfN y.sz - 1]? = some v0) (hb : BT w' t p root F2 (y.splitP r c q (kd.hi (halfN y.sz)) (kd.lo (halfN y.sz)) (nd.ins (atI nd.keys k) k0 v0 r)))
  (hc1 : Chg F' W W1) (hc : Chg G W1 w') (hG : ∀ j, G j → F' j ∨ w.heap.size ≤ j) (hF2 : ∀ j, F2 j → F' j ∨ W1.heap.size ≤ j) (hn : NdOwn w' N' bn q (nd.ins (atI nd.keys k) k0 v0 r)) (hnF : ∀ j, N' j → ¬ F2 j) (hnw : ∀ j, N' j → N j ∨ W1.heap.size ≤ j)
  (f1 : (kd.hi (halfN y.sz)).Fit y.sz) (f2 : (kd.lo (halfN y.sz)).Fit y.sz) (f3 : (nd.ins (atI nd.keys k) k0 v0 r).Fit y.sz) :
  ∃ P' PM' e ke A' M' B' P1' PM2 P2', (BT w' t p root F2 (y.splitP r c q (kd.hi (halfN y.sz)) (kd.lo (halfN y.sz)) (nd.ins (atI nd.keys k) k0 v0 r)) ∧ Rch F F2 w w' ∧ x.like (y.splitP r c q (kd.hi (halfN y.sz)) (kd.lo (halfN y.sz)) (nd.ins (atI nd.keys k) k0 v0 r)) ∧
   TS (y.splitP r c q (kd.hi (halfN y.sz)) (kd.lo (halfN y.sz)) (nd.ins (atI nd.keys k) k0 v0 r)) D root L P' ∧ WayAt (y.splitP r c q (kd.hi (halfN y.sz)) (kd.lo (halfN y.sz)) (nd.ins (atI nd.keys k) k0 v0 r)).nd (halfN y.sz) D root k L P' (d + 1) q (nd.ins (atI nd.keys k) k0 v0 r) A M B P1 PM' P2) ∧
   (nd.ins (atI nd.keys k) k0 v0 r).kids[atI (nd.ins (atI nd.keys k) k0 v0 r).keys k]? = some e ∧ WayAt (y.splitP r c q (kd.hi (halfN y.sz)) (kd.lo (halfN y.sz)) (nd.ins (atI nd.keys k) k0 v0 r)).nd (halfN y.sz) D root k L P' d e ke A' M' B' P1' PM2 P2' ∧ ke.keys.length + 1 ≤ 2 * halfN y.sz - 1 ∧
   (y.splitP r c q (kd.hi (halfN y.sz)) (kd.lo (halfN y.sz)) (nd.ins (atI nd.keys k) k0 v0 r)).now.countP Pk.used = y.now.countP Pk.used + 1 := by
 have hrP := h.ts.new hr
 have hqP := h.way.q_mem
 obtain ⟨cq, q1, q2⟩ := h.ts.pgs q hqP
 obtain ⟨cc, c1, c2, -⟩ := Rp.nd_some hkd
 have hcP : c ∈ P := by
  obtain ⟨e, nd', A', M', B', P1', PM', P2', g1, g2⟩ := h.way.down h.ts.srt (h.way.miss hk)
  rw [hci] at g1; cases g1
  exact g2.q_mem
 have hrc : r ≠ c := fun e => hrP (e ▸ hcP)
 have hrq : r ≠ q := fun e => hrP (e ▸ hqP)
 have hcq : c ≠ q := fun e => by
  subst e
  obtain ⟨nd', P0, g1, g2, g3, g4, g5, g6⟩ := h.way.tr
  rw [h.way.nd] at g1; cases g1
  obtain ⟨e1, e2, e3, e4⟩ := h.way.apart h.ts.nd
  obtain ⟨M', Q, t1, t2⟩ := g5.mem (List.mem_of_getElem? hci)
  rw [g6] at e3
  exact (List.nodup_cons.1 e3).1 (t2 c t1.1.root_mem)
 obtain ⟨k1, v1, g1, g2, g3⟩ := h.way.split (r := r) h.ts.nd hh hci hkd hf h.room hrP
 rw [hk0] at g1; cases g1
 rw [hv0] at g2; cases g2
 obtain ⟨n1, n2, n3, n4⟩ := Rp.splitP_nd (x := y) (r := r) (qk := c) (qn := q) (List.getElem?_eq_some_iff.1 hr).1 (List.getElem?_eq_some_iff.1 c1).1 (List.getElem?_eq_some_iff.1 q1).1 f1 f2 f3 hz hrc hrq hcq
 obtain ⟨P', PM', w1, w2⟩ := g3 _ n2 n1 n3 fun j hj j1 j2 => n4 j (fun e => hrP (e ▸ hj)) j1 j2
 have hu := Rp.splitP_used (hi := kd.hi (halfN y.sz)) (lo := kd.lo (halfN y.sz)) (pn := nd.ins (atI nd.keys k) k0 v0 r) hr c1 c2 q1 q2
 have hts : TS (y.splitP r c q (kd.hi (halfN y.sz)) (kd.lo (halfN y.sz)) (nd.ins (atI nd.keys k) k0 v0 r)) D root L P' := ⟨w1.whole, w2.nodup_iff.2 (List.nodup_cons.2 ⟨hrP, h.ts.nd⟩), h.ts.srt, by rw [hu, w2.length_eq, h.ts.used]; rfl⟩
 obtain ⟨e, ke, A', M', B', P1', PM2, P2', d1, d2⟩ := w1.down h.ts.srt (w1.miss hk)
 have hke : ke.keys.length + 1 ≤ 2 * halfN y.sz - 1 := by
  have l1 : (kd.lo (halfN y.sz)).keys.length = halfN y.sz - 1 := by simp [Nd.lo]; omega
  have l2 : (kd.hi (halfN y.sz)).keys.length = halfN y.sz - 1 := by simp [Nd.hi]; omega
  have hen := d2.nd
  rcases ins_kid (kd := kd) hci d1 with e1 | e1
  ·rw [e1, n2] at hen; cases hen; omega
  ·rw [e1, n1] at hen; cases hen; omega
 have hsz := h.rch.chg.size
 have hsz1 := hc1.size
 have hF' : ∀ j, j < w.heap.size → F' j → F j := fun j hj e => (h.rch.new j e).resolve_right (by omega)
 refine ⟨P', PM', e, ke, A', M', B', P1', PM2, P2', ⟨hb, ⟨Chg.trans (Chg.trans h.rch.chg hc1 hF') hc fun j hj e => hF' j hj ((hG j e).resolve_right (by omega)), fun j hj => (hF2 j hj).elim (h.rch.new j) fun e => .inr (by omega)⟩, h.like.trans Rp.splitP_like, hts, w1⟩, d1, d2, hke, hu⟩
end
end Go.Proofs.YtpkkcicaeldodaaGreatDoor

namespace Go.Proofs.YtpkkcicaeldodaaGreatDoor
open Go.RowKit Go.Maps

section
variable {W : World} {N : Nat → Prop} {vk vv vc : Value} {l : List Int} {lk lv lc : List Value} {i g : Nat} {a : Int}
def InK (W w' : World) (N : Nat → Prop) (vk vv vc : Value) (l : List Int) (lv lc : List Value) (i : Nat) (a : Int) (e : Ending) : Prop :=
 ∃ A c, e = .returned (.slice A (l.length + 1) c) ∧ Rws w' (fun j => N j ∨ (Value.slice A (l.length + 1) c).ownBlock = some j) (.slice A (l.length + 1) c) vv vc (iv (insI l i a)) lv lc ∧ Ap W w' vk (.slice A (l.length + 1) c)
def InV (W w' : World) (N : Nat → Prop) (vk vv vc : Value) (l : List Int) (lk lc : List Value) (i : Nat) (a : Int) (e : Ending) : Prop :=
 ∃ A c, e = .returned (.slice A (l.length + 1) c) ∧ Rws w' (fun j => N j ∨ (Value.slice A (l.length + 1) c).ownBlock = some j) vk (.slice A (l.length + 1) c) vc lk (iv (insI l i a)) lc ∧ Ap W w' vv (.slice A (l.length + 1) c)
theorem insK (h : Rws W N vk vv vc (iv l) lv lc) (hl : l.length ≤ 1000) (hi : i ≤ l.length) (hg : Blk W g 3 #[.int .i64 a]) (hne : vk.ownBlock ≠ some g) (hp : 1 ≤ W.heap.size) :
  Calls Tryz.prog 44 #[vk, .int .i64 i, .slice (some ⟨g, 0, none⟩) 1 1] W fun e w' => InK W w' N vk vv vc l lv lc i a e := by
 have hk := h.rk
 rw [iv_len] at hk
 refine (binsert_any 1 vk l i g a W hk (by omega) hi hg hne hp).mono ?_
 rintro e w' ⟨v', rfl, ho, ha⟩
 obtain ⟨A, c, rfl, -⟩ := own_shape ho
 exact ⟨A, c, rfl, h.setK ha (by rw [iv_len, insI_len a hi]; exact ho), ha⟩
theorem insV (h : Rws W N vk vv vc lk (iv l) lc) (hl : l.length ≤ 1000) (hi : i ≤ l.length) (hg : Blk W g 3 #[.int .i64 a]) (hne : vv.ownBlock ≠ some g) (hp : 1 ≤ W.heap.size) :
  Calls Tryz.prog 44 #[vv, .int .i64 i, .slice (some ⟨g, 0, none⟩) 1 1] W fun e w' => InV W w' N vk vv vc l lk lc i a e := by
 have hk := h.rv
 rw [iv_len] at hk
 refine (binsert_any 1 vv l i g a W hk (by omega) hi hg hne hp).mono ?_
 rintro e w' ⟨v', rfl, ho, ha⟩
 obtain ⟨A, c, rfl, -⟩ := own_shape ho
 exact ⟨A, c, rfl, h.setV ha (by rw [iv_len, insI_len a hi]; exact ho), ha⟩
end
end Go.Proofs.YtpkkcicaeldodaaGreatDoor

namespace Go.Proofs.YtpkkcicaeldodaaGreatDoor
open Go.RowKit Go.Maps
attribute [local go_sem] Oper.semAt_some

structure GallIn (W : World) (bb p : Nat) (cs : Array Value) (A : Option Addr) (c : Nat) (l : List Nat) : Prop where
 bb : Blk W bb 25 #[.pointer (some ⟨p, 0, none⟩)]
 p : Blk W p 101 cs
 t : Sl W 1 A l.length (nv l)

def usedN (l : List Nat) (k : Nat) : Nat := cntN (fun j => l.getD j 0 != 0) k
structure UseJ (Wr W : World) (B L : Nat) (l : List Nat) (i : Nat) (r : Loop) (st : LoopState) (pe : Option Code) : Prop where
 chg : Chg (fun j => j = B ∨ j = L) Wr W
 blk : Blk W B 3 #[.int .i64 (usedN l i)]
 rc : Rec W L (Loop.at_ r st pe)
end Go.Proofs.YtpkkcicaeldodaaGreatDoor

namespace Go.Proofs.YtpkkcicaeldodaaGreatDoor
open Go.RowKit Go.Maps

section
variable (p i : Nat) (F : Nat → Prop) (x : Rp) (w : World)
end

end Go.Proofs.YtpkkcicaeldodaaGreatDoor

namespace Go.Proofs.YtpkkcicaeldodaaGreatDoor
open Go.RowKit Go.Maps

set_option maxRecDepth 100000 in
set_option maxHeartbeats 800000 in
theorem gfree_full (p i s : Nat) (F : Nat → Prop) (X : Gp) (o : Cg) (w : World) (h : GS w p F X) (hr : X.rdy = 0) (hx : X.op = some o) (hz : X.Sz) (hn : X.D.n ≤ 4096) (hi : X.table[i]? = some s) (hs : s ≠ 0) (hm : X.room < (o.more (i / X.row) 0 : Nat)) :
  Calls Tryz.prog 63 #[.pointer (some ⟨p, 0, none⟩), .int .i64 i] w fun e' w' => e' = .returned (.int .i64 21) ∧ Grew w w' := by
 have hrd := gready_any p F X w h
 rw [hr] at hrd
 have hus := gused_in p i s F X w h (by have := hz.tab.2; omega) hi
 rw [show (s != 0) = true from by simpa using hs] at hus
 have htf := gtouch_full p i (i / X.row) 0 F X o w h hx (by have := hz.free; omega) (by have := hz.row; omega) rfl (by have := hz.tab.2; have := (List.getElem?_eq_some_iff.1 hi).1; omega) (by omega) hm
 have H := Lib.hid (And.intro hrd (And.intro hus htf))
 clear h hr hrd hus htf hx hz hn hi hs hm
 go_enter Tryz.func63, Tryz.ntmps63
 go_wp2_with (first
  | (go_at_call 54; (refine H.out.1.mono ?_); rintro e w1 ⟨rfl, rfl⟩)
  | (go_at_call 57; (refine H.out.2.1.mono ?_); rintro e w1 ⟨rfl, rfl⟩)
  | (go_at_call 56; (refine H.out.2.2.mono ?_); rintro e w1 ⟨rfl, hg1⟩; have HG1 := Lib.hid hg1; clear hg1))
 go_ret
 exact ⟨rfl, HG1.out⟩

set_option maxRecDepth 100000 in
set_option maxHeartbeats 1600000 in
theorem gfree_ok (p i s : Nat) (F : Nat → Prop) (X : Gp) (o : Cg) (w : World) (h : GS w p F X) (hr : X.rdy = 0) (hx : X.op = some o) (hz : X.Sz) (hn : X.D.n ≤ 4096) (hi : X.table[i]? = some s) (hs : s ≠ 0) (hc : X.canLeave o s) (hll : o.left.length ≤ 100000) (hm : (o.more (i / X.row) 0 : Nat) ≤ X.room) :
  Calls Tryz.prog 63 #[.pointer (some ⟨p, 0, none⟩), .int .i64 i] w fun e' w' => e' = .returned (.int .i64 0) ∧ GTo w w' p F (X.drop o i s) := by
 have hil : i < X.table.length := (List.getElem?_eq_some_iff.1 hi).1
 have hrd := gready_any p F X w h
 rw [hr] at hrd
 have hus := gused_in p i s F X w h (by have := hz.tab.2; omega) hi
 rw [show (s != 0) = true from by simpa using hs] at hus
 have htf := gtouch_ok p i (i / X.row) 0 F X o w h hx (by have := hz.free; omega) (by have := hz.row; omega) rfl (hz.k64 hil) (by have := hz.tab.2; omega) (by omega) hm
 have hlv := fun F1 w1 (h1 : GS w1 p F1 (X.touch o (i / X.row))) => gleave_any p s F1 (X.touch o (i / X.row)) (o.tch (i / X.row)) w1 h1 rfl (by have := hz.free; simp only [Gp.touch]; omega) hc hll
 have htb : ((X.touch o (i / X.row)).leave (o.tch (i / X.row)) s).table = X.table := by obtain ⟨o', -, e, -⟩ := Gp.leave_op (X.touch o (i / X.row)) (o.tch (i / X.row)) s rfl; exact e
 have H := Lib.hid (And.intro hrd (And.intro hus (And.intro htf (And.intro hlv (And.intro hi htb)))))
 have u1 : (0 : Int) ≤ (i : Int) := by omega
 have u2 : (i : Int) < (X.table.length : Int) := by omega
 have u3 : (i : Int) < (((X.touch o (i / X.row)).leave (o.tch (i / X.row)) s).table.length : Int) := by rw [htb]; exact u2
 clear h hr hrd hus htf hlv htb hx hz hn hi hs hm hc hll
 go_enter Tryz.func63, Tryz.ntmps63
 go_wp2_with (first
  | (go_at_call 54; (refine H.out.1.mono ?_); rintro e w1 ⟨rfl, rfl⟩)
  | (go_at_call 57; (refine H.out.2.1.mono ?_); rintro e w1 ⟨rfl, rfl⟩)
  | (go_at_call 56; (refine H.out.2.2.1.mono ?_); rintro e w1 ⟨rfl, F1, hgs, hc1, hn1⟩; have HS1 := Lib.hid hgs; obtain ⟨L1, d1, b1, A1, ca1, vp1, vt1, vo1, hg, -⟩ := hgs; obtain ⟨c9, f9, s9⟩ := hg.blk.facts; obtain ⟨g, ct1, rfl, hgl, hlg, hce, hfe⟩ := hg.entry (i := i) (s := s) H.out.2.2.2.2.1; have HT := Lib.hid (And.intro hc1 hn1); clear hg hc1 hn1)
  | (go_at_call 60; (refine (H.out.2.2.2.1 F1 _ HS1.out).mono ?_); clear c9 f9 s9 hgl hlg hce hfe; rintro e w2 ⟨rfl, F2, ⟨L2, d2, b2, A2, ca2, vp2, vt2, vo2, hg, hF2⟩, hc2, hn2⟩; obtain ⟨c9, f9, s9⟩ := hg.blk.facts; obtain ⟨g2, ct2, rfl, hgl, hlg, hce, hfe⟩ := hg.entry (i := i) (s := s) (by rw [H.out.2.2.2.2.2]; exact H.out.2.2.2.2.1); have HU := Lib.hid (And.intro hg (And.intro hF2 (And.intro hc2 hn2))); clear hg hF2 hc2 hn2))
 go_ret
 refine ⟨rfl, ?_⟩
 have hh := HU.out.1.tset rfl i 0
 refine To.then HT.out.1 HT.out.2 (To.then HU.out.2.2.1 HU.out.2.2.2 ?_)
 have := hh.1.to hh.2 (by omega) HU.out.2.1
 rw [H.out.2.2.2.2.2] at this
 exact this

end Go.Proofs.YtpkkcicaeldodaaGreatDoor

namespace Go.Proofs.YtpkkcicaeldodaaGreatDoor
open Go.RowKit Go.Maps

theorem Gp.Ok.canLeave {X : Gp} {o : Cg} {i s : Nat} (h : X.Ok) (hx : X.op = some o) (hi : X.table[i]? = some s) : X.canLeave o s := by
 intro h2
 have hv := h.inv
 simp only [Gp.old, Gp.fr, Gp.lf, Gp.tc, hx] at hv
 refine ⟨?_, fun hf => ?_⟩
 ·rw [hv.lens.1]
  rcases hv.cur i s hi h2 with e | e
  ·exact (hv.frr s e).2.1
  ·exact hv.rO i s e
 ·exact (hv.acct s (hv.frr s hf).2.1).2 (.inr (.inr (.inr hf)))
theorem Gp.Ok.drop {X : Gp} {o : Cg} {i s : Nat} (h : X.Ok) (hx : X.op = some o) (hi : X.table[i]? = some s) (hm : (o.more (i / X.row) 0 : Nat) ≤ X.room) : (X.drop o i s).Ok ∧ (X.drop o i s).view = X.view.put i .no := by
 obtain ⟨h1, -⟩ := h.tch hx (List.getElem?_eq_some_iff.1 hi).1 hm
 have ht : setB o.touched (i / (X.D.sz / 2)) true (i / (X.D.sz / 2)) = true := by simp [setB]
 have hr := h.row
 by_cases hs : s ≤ 1
 ·have h2 := h1.zero (v := 0) hi (by omega) (by omega) ht
  have e : X.drop o i s = { X.touch o (i / X.row) with table := X.table.set i 0 } := by unfold Gp.drop Gp.leave; rw [if_pos hs]
  rw [e]
  refine ⟨⟨?_, h.row, h.up⟩, ?_⟩
  ·rw [← h.row] at h2
   exact h2
  ·unfold Gp.view Rp.put Gp.touch
   simp only [Gp.fr, Gp.tc, hx, Option.map_some, Rp.row]
   rw [List.map_set, show pk X.D o.fresh 0 = .no from rfl, hr]
 ·cases hf : o.fresh s with
  | true =>
   have h2 := h1.give hi hf ht
   have e : X.drop o i s = { X with free := trn X.free s, table := X.table.set i 0, op := some { o with touched := setB o.touched (i / X.row) true, fresh := setB o.fresh s false } } := by
    unfold Gp.drop Gp.leave Cg.tch
    rw [if_neg hs]
    simp only [hf]
    rfl
   rw [e]
   refine ⟨⟨?_, h.row, h.up⟩, ?_⟩
   ·rw [← h.row] at h2
    exact h2
   ·unfold Gp.view Rp.put
    simp only [Gp.fr, Gp.tc, hx, Option.map_some, Rp.row]
    have e1 : (X.table.set i 0).map (pk X.D (setB o.fresh s false)) = (X.table.map (pk X.D o.fresh)).set i .no := by
     have hil : i < X.table.length := (List.getElem?_eq_some_iff.1 hi).1
     apply List.ext_getElem?
     intro k
     rw [set_at (by simpa using hil), List.getElem?_map, set_at hil, List.getElem?_map]
     by_cases hki : k = i
     ·subst hki
      rw [if_pos rfl, if_pos rfl]
      rfl
     ·rw [if_neg hki, if_neg hki]
      cases hk : X.table[k]? with
      | none => rfl
      | some q =>
       have hq : q ≠ s := by rintro rfl; exact hki (h1.jT k i q hk hi (by omega))
       simp only [Option.map_some, Option.some.injEq]
       unfold pk setB
       rw [if_neg hq]
    rw [e1, hr]
  | false =>
   have h2 := h1.left hi (by omega) hf ht
   have e : X.drop o i s = { X with table := X.table.set i 0, op := some { o with touched := setB o.touched (i / X.row) true, left := o.left ++ [s] } } := by
    unfold Gp.drop Gp.leave Cg.tch
    rw [if_neg hs]
    simp only [hf]
    rfl
   rw [e]
   refine ⟨⟨?_, h.row, h.up⟩, ?_⟩
   ·rw [← h.row] at h2
    exact h2
   ·unfold Gp.view Rp.put
    simp only [Gp.fr, Gp.tc, hx, Option.map_some, Rp.row]
    rw [List.map_set, show pk X.D o.fresh 0 = .no from rfl, hr]

section
variable (p i : Nat) (F : Nat → Prop) (x : Rp) (w : World)
theorem gp_free (c : Pk) (h : GP w p F x) (ho : x.was ≠ none) (hi : x.now[i]? = some c) (hu : c.used = true) (hm : (x.need (i / x.row) 0 : Nat) ≤ x.room) :
  Calls Tryz.prog 63 #[.pointer (some ⟨p, 0, none⟩), .int .i64 i] w fun e' w' => e' = .returned (.int .i64 0) ∧ GPTo w w' p F (x.put i .no) := by
 obtain ⟨X, h1, h2, rfl⟩ := h
 obtain ⟨o, hx⟩ := Gp.view_op ho
 obtain ⟨s, hs, h0, rfl⟩ := Gp.entry_used hi hu
 have hv := h2.inv
 simp only [Gp.old, Gp.fr, Gp.lf, Gp.tc, hx] at hv
 have hm' : (o.more (i / X.row) 0 : Nat) ≤ X.room := by rw [h2.room, Gp.more_need h2 hx]; exact hm
 have := h2.drop hx hs hm'
 refine (gfree_ok p i s F X o w h1 (h2.rdy hx) hx h2.sz hv.sz.2.1 hs h0 (h2.canLeave hx hs) (by have := hv.lfle; omega) hm').mono ?_
 rintro e w1 ⟨rfl, h3⟩
 exact ⟨rfl, h3.gp this.1 this.2⟩
end

end Go.Proofs.YtpkkcicaeldodaaGreatDoor

namespace Go.Proofs.YtpkkcicaeldodaaGreatDoor
open Go.RowKit Go.Maps

section
variable {P : Program} {k t e : TypeId} {w w' : World} {b it s cnt : Nat} {m : Int → Option Value} {left : Int → Bool} {o : Obj}
variable {F : Fence} {n : Nat} {ops : Array Oper} {rest : List Oper} {op : Oper} {a : Act} {Q : Exit → Act → World → Prop}
end

end Go.Proofs.YtpkkcicaeldodaaGreatDoor

namespace Go.Proofs.YtpkkcicaeldodaaGreatDoor
open Go.RowKit Go.Maps

def gvn (fe : List Bool) (f : Nat → Bool) : List Bool := (List.range fe.length).map fun s => fe.getD s false || f s
section
variable {w w' : World} {L : Nat → Nat} {p d b ca c M1 s1 M2 s2 : Nat} {X : Gp} {o : Cg} {A : Option Addr} {vp vt vw vl : Value} {F : Nat → Prop}
end

end Go.Proofs.YtpkkcicaeldodaaGreatDoor

namespace Go.Proofs.YtpkkcicaeldodaaGreatDoor
open Go.Shelf
end Go.Proofs.YtpkkcicaeldodaaGreatDoor

namespace Go.Proofs.YtpkkcicaeldodaaGreatDoor
open Go.RowKit Go.Maps
attribute [local go_sem] Oper.semAt_some

structure ToldK (f : Nat → Bool) (xs : List Nat) (left : Int → Bool) : Prop where
 nd : xs.Nodup
 sub : ∀ s ∈ xs, f s = true
 left : ∀ i, left i = true ↔ 0 ≤ i ∧ f i.toNat = true ∧ i.toNat ∉ xs
end Go.Proofs.YtpkkcicaeldodaaGreatDoor

namespace Go.Proofs.YtpkkcicaeldodaaGreatDoor
open Go.RowKit Go.Maps Go.Shelf Go.Sort

theorem putCells_takeI {cur : Array Value} {F : Array Int} (h : F.size ≤ cur.size) : (putCells (Value.int .i64) 0 F cur).toList.take F.size = F.toList.map (Value.int .i64) := by
 apply List.ext_getElem?
 intro j
 by_cases hj : j < F.size
 ·rw [List.getElem?_take_of_lt hj, Array.getElem?_toList]
  simp [putCells, hj, show j < cur.size by omega]
 ·rw [List.getElem?_take_eq_none (by omega), List.getElem?_eq_none (by simp; omega)]
end Go.Proofs.YtpkkcicaeldodaaGreatDoor

namespace Go.Proofs.YtpkkcicaeldodaaGreatDoor
open Go.RowKit Go.Maps Go.Sort Go.Shelf

theorem own_putI {w : World} {base g cap q : Nat} {e : TypeId} {l ys : List Int} (h : w.ownsRow base e 1 (.slice (some ⟨g, 0, none⟩) l.length cap) l.length (iv l)) (hl : ys.length = l.length) :
  (putRow (Value.int .i64) (Sort.ahead w q) g 0 ys.toArray).ownsRow base e 1 (.slice (some ⟨g, 0, none⟩) l.length cap) l.length (iv ys) ∧ Chg (fun j => j = g) w (putRow (Value.int .i64) (Sort.ahead w q) g 0 ys.toArray) := by
 obtain ⟨cur, hb, hg, hnc, hcm, hcs, htake, hxl⟩ := own_row h
 have hgl : g < w.heap.size := (Array.getElem?_eq_some_iff.1 hg).1
 have hh : (putRow (Value.int .i64) (Sort.ahead w q) g 0 ys.toArray).heap[g]? = some (.cells (putCells (Value.int .i64) 0 ys.toArray cur) e (0, 0)) := by
  simp [putRow, mapBlock, Sort.ahead, Array.getElem?_modify, hg, onCells]
 refine ⟨⟨by simp [iv, hl], .inr ⟨g, cap, _, rfl, hb, hh, hnc, hcm, by simp [putCells, hcs], ?_⟩⟩, rfl, rfl, rfl, by simp [Sort.ahead], fun k hk hne => ?_⟩
 ·have := putCells_takeI (cur := cur) (F := ys.toArray) (by simp [hl]; omega)
  rw [Nat.mul_one, ← hl]
  simpa [iv] using this
 ·have : g ≠ k := fun e => hne e.symm
  simp [putRow, mapBlock, Sort.ahead, Array.getElem?_modify, this]
def DelOut (w w' : World) (base : Nat) (v : Value) (l : List Int) (i : Nat) (e : Ending) : Prop :=
 ∃ A c, e = .returned (.slice A (l.length - 1) c) ∧ w'.ownsRow base 3 1 (.slice A (l.length - 1) c) (l.length - 1) (iv (l.eraseIdx i)) ∧ Ap w w' v (.slice A (l.length - 1) c)
theorem bdelete_any (base : Nat) (v : Value) (l : List Int) (i : Nat) (w : World) (ho : w.ownsRow base 3 1 v l.length (iv l)) (hi : i < l.length) :
  Calls Tryz.prog 69 #[v, .int .i64 i, .int .i64 (i + 1 : Nat)] w fun e w' => DelOut w w' base v l i e := by
 obtain ⟨A, c, rfl, -⟩ := own_shape ho
 obtain ⟨g, rfl, -⟩ := own_block ho (by omega)
 obtain ⟨cur, hb, hg, hnc, hcm, hcs, htake, hxl⟩ := own_row ho
 have hB : Blk w g 3 cur := hg
 have hH : Sort.Holds (Value.int .i64) w g 0 l.toArray := fun j hj => by
  have hj' : j < l.length := by simpa using hj
  refine ⟨?_, by rw [Nat.zero_add]; exact hB.frozen j⟩
  have h1 : (iv l)[j]? = cur[j]? := by rw [← htake, Nat.mul_one, List.getElem?_take, if_pos hj']; simp
  rw [Nat.zero_add, hB.cell, ← h1]
  simp [iv, hj']
 have hd := Any.slices_Delete_int deleteInt g 0 c i (i + 1) l w hH hnc (by simpa [maxLen] using hcm) (by omega) (by omega)
 refine hd.mono ?_
 rintro e w' ⟨rfl, q, rfl⟩
 have hyl : (l.take i ++ l.drop (i + 1) ++ List.replicate (i + 1 - i) 0).length = l.length := by
  rw [List.length_append, List.length_append, List.length_take, List.length_drop, List.length_replicate]
  omega
 obtain ⟨h1, h2⟩ := own_putI (q := q) (ys := l.take i ++ l.drop (i + 1) ++ List.replicate (i + 1 - i) 0) ho hyl
 have h3 := own_short h1 (m := l.length - 1) (by omega)
 rw [show l.length - (i + 1 - i) = l.length - 1 by omega]
 refine ⟨_, _, rfl, ?_, h2.mono fun j _ e => by subst e; rfl, fun j hj => .inl hj⟩
 have e1 : (iv (l.take i ++ l.drop (i + 1) ++ List.replicate (i + 1 - i) 0)).take ((l.length - 1) * 1) = iv (l.eraseIdx i) := by
  rw [List.eraseIdx_eq_take_drop_succ, ← iv_take]
  congr 1
  refine List.take_left' ?_
  rw [List.length_append, List.length_take, List.length_drop]
  omega
 rw [e1] at h3
 exact h3
section
variable (p : Nat) (F : Nat → Prop) (x : Rp) (w : World)
theorem gp_free_full (i : Nat) (c : Pk) (h : GP w p F x) (ho : x.was ≠ none) (hi : x.now[i]? = some c) (hu : c.used = true) (hm : x.room < (x.need (i / x.row) 0 : Nat)) :
  Calls Tryz.prog 63 #[.pointer (some ⟨p, 0, none⟩), .int .i64 i] w fun e' w' => e' = .returned (.int .i64 21) ∧ Grew w w' := by
 obtain ⟨X, h1, h2, rfl⟩ := h
 obtain ⟨o, hx⟩ := Gp.view_op ho
 obtain ⟨s, hs, h0, rfl⟩ := Gp.entry_used hi hu
 have hv := h2.inv
 have hm' : X.room < (o.more (i / X.row) 0 : Nat) := by rw [h2.room, Gp.more_need h2 hx]; exact hm
 exact gfree_full p i s F X o w h1 (h2.rdy hx) hx h2.sz hv.sz.2.1 hs h0 hm'
theorem gp_free_any (i : Nat) (c : Pk) (h : GP w p F x) (ho : x.was ≠ none) (hi : x.now[i]? = some c) (hu : c.used = true) :
  Calls Tryz.prog 63 #[.pointer (some ⟨p, 0, none⟩), .int .i64 i] w fun e' w' =>
   (e' = .returned (.int .i64 0) ∧ GPTo w w' p F (x.put i .no)) ∨ (¬ (0 ≤ x.slack) ∧ e' = .returned (.int .i64 21) ∧ Grew w w') := by
 by_cases hm : (x.need (i / x.row) 0 : Nat) ≤ x.room
 ·exact (gp_free p i F x w c h ho hi hu hm).mono fun e w' k => .inl k
 ·refine (gp_free_full p F x w i c h ho hi hu (by omega)).mono ?_
  rintro e w' ⟨rfl, h3⟩
  exact .inr ⟨fun hs => hm (h.need (h.part (List.getElem?_eq_some_iff.1 hi).1) (by simpa using hs)), rfl, h3⟩
end
end Go.Proofs.YtpkkcicaeldodaaGreatDoor

namespace Go.Proofs.YtpkkcicaeldodaaGreatDoor
open Go.RowKit Go.Maps Go.Lib

set_option maxHeartbeats 800000 in
theorem bgrow_nil (n : Nat) (w : World) (hn : n ≤ 100000) :
  Calls Tryz.prog 165 #[.slice none 0 0, .int .i64 n] w fun e w' => OwnOut w w' 3 1 0 [] (fun A c => .slice A 0 c) e := by
 obtain ⟨i0, hi0, hz0, hz1, hz2⟩ := info_parts i64Info_
 by_cases h0 : n = 0
 ·subst h0
  clear hi0 hz0 hz1 hz2
  go_enter Tryz.func165, Tryz.ntmps165
  go_wp2
  go_ret
  exact ⟨none, 0, rfl, World.ownsRow_nil _ _ _ _, Chg.refl _ _⟩
 ·have hrz : ∀ ty, (Builtin.append_ #[22, 3] ty #[.slice none 0 0, .int .i64 (n : Nat)]).run Tryz.prog w = .ok (.slice (some ⟨w.heap.size, 0, none⟩) (0 + n) (grownCap w (0 + n) 0 3))
    (w.drew.alloc (.cells ((([] : List Value).toArray ++ Builtin.zeroCells (Value.int .i64 0).cells n) ++ Builtin.zeroCells (Value.int .i64 0).cells (grownCap w (0 + n) 0 3 - (0 + n))) 3)) := fun ty =>
   Lib.run_append_grow_zeros w 22 3 ty 3 i0 (.int .i64 0) .i64 .i64 Tryz.underlying22 Tryz.underlying3 hi0 hz0 none 0 0 [] (run_firstCells_none w.drew i0.size 0 0 0) n (by omega) (by omega) (by omega) (by omega) (by rw [hz2]; omega) (growslice_fits (by omega) (by rw [hz2]; omega))
  have hcap := grownCap_ge w (0 + n) 0 3
  have hcap2 := grownCap_le_maxLen w (0 + n) 0 3 (by simp only [maxLen]; omega)
  obtain ⟨cp, hcp⟩ : ∃ q, grownCap w (0 + n) 0 3 = q := ⟨_, rfl⟩
  rw [hcp] at hcap hcap2
  simp only [hcp] at hrz
  obtain ⟨cur, hcur⟩ : ∃ q, (([] : List Value).toArray ++ Builtin.zeroCells (Value.int .i64 0).cells n) ++ Builtin.zeroCells (Value.int .i64 0).cells (cp - (0 + n)) = q := ⟨_, rfl⟩
  have hcs : cur.size = cp := by
   rw [← hcur]
   simp only [Array.size_append, size_zeroCells, List.size_toArray, List.length_nil]
   simp [Value.cells]
   omega
  simp only [hcur] at hrz
  have hn1 : (0 : Int) < (n : Int) := by omega
  simp only [maxLen] at hcap2
  rw [Nat.zero_add] at hcap
  have HR := Lib.hid (And.intro hrz hcs)
  clear hrz hcs hcur hcp hi0 hz0 hz1 hz2
  go_enter Tryz.func165, Tryz.ntmps165
  go_wp2_with (at_builtin; refine Lib.wpList_append_run _ rfl _ _ _ _ rfl _ _ rfl rfl _ _ (HR.out.1 _) ?_)
  go_ret
  refine ⟨_, _, rfl, ?_, (Chg.refl _ _).drew.alloc _⟩
  exact own_mk (Nat.le_refl _) (Blk.new w.drew 3 cur) (Nat.zero_le _) (by simp only [maxLen]; omega) HR.out.2 rfl (fun j hj => by omega)

theorem run_append_nought {P : Program} {w : World} {t e : TypeId} {i : TypeInfo} (ht : P.underlying t = some (.slice e)) (hi : P.info? e = some i) (ty : TypeId) (b x : Option Addr) (n c c' : Nat) (hn : n ≤ c) :
  (Builtin.append_ #[t, t] ty #[.slice b n c, .slice x 0 c']).run P w = .ok (.slice b n c) w := by
 have hf : (Builtin.firstCells i.size 0 (.slice x 0 c')).run P w = .ok #[] w := by
  cases x with
  | none => exact run_firstCells_none w i.size 0 0 c'
  | some a => exact run_firstCells_some w i.size 0 a 0 c' [] (by simp) (fun j v h => by simp at h)
 cases b with
 | none => simp [Builtin.append_, run_underlying ht, Go.sizeOf, typeInfo, hi, Builtin.lenOf, hf, hn]
 | some a => simp [Builtin.append_, run_underlying ht, Go.sizeOf, typeInfo, hi, Builtin.lenOf, hf, hn, storeCells]
structure CatIt where
 v : Value
 xs : List Value
def catL (ls : List CatIt) : List Value := ls.flatMap fun it => it.xs
def CatOk (w : World) (it : CatIt) : Prop := ∃ A n c, it.v = .slice A n c ∧ Sl w 1 A n it.xs ∧ (∀ u ∈ it.xs, u.oneCell' = true) ∧ n ≤ 1000
theorem catL_succ {ls : List CatIt} {k : Nat} {it : CatIt} (h : ls[k]? = some it) : catL (ls.take (k + 1)) = catL (ls.take k) ++ it.xs := by
 unfold catL
 rw [List.take_add_one, h, List.flatMap_append]
 simp
theorem catL_le {w : World} : ∀ {ls : List CatIt}, (∀ it ∈ ls, CatOk w it) → (catL ls).length ≤ 1000 * ls.length
 | [], _ => by simp [catL]
 | it :: t, h => by
  have h1 := catL_le (ls := t) fun i hi => h i (List.mem_cons_of_mem _ hi)
  obtain ⟨A, n, c, -, h2, -, h3⟩ := h it List.mem_cons_self
  have h4 := h2.1
  unfold catL at h1 ⊢
  rw [List.flatMap_cons, List.length_append, List.length_cons]
  omega
set_option maxRecDepth 100000 in
set_option maxHeartbeats 1600000 in
theorem bconcat_any (g m c N : Nat) (ls : List CatIt) (w : World) (hb : Blk w g 22 (ls.map fun it => it.v).toArray) (hm : ls.length = m) (hm2 : m ≤ 10) (hok : ∀ it ∈ ls, CatOk w it) (hN : (catL ls).length = N) :
  Calls Tryz.prog 141 #[.slice (some ⟨g, 0, none⟩) m c] w fun e w' => OwnOut w w' 3 1 N (catL ls) (fun A c => .slice A N c) e := by
 obtain ⟨i0, hi0, hz0, hz1, hz2⟩ := info_parts i64Info_
 have hle := catL_le hok
 have H := Lib.hid (And.intro hb (And.intro hm (And.intro hok (And.intro hN (And.intro hi0 (And.intro hz0 (And.intro hz1 (And.intro hz2 hle))))))))
 have hsum : ∀ (k : Nat) it A n c0, ls[k]? = some it → it.v = .slice A n c0 → (catL (ls.take (k + 1))).length = (catL (ls.take k)).length + n ∧ (catL (ls.take k)).length ≤ 10000 := fun k it A n c0 h1 h2 => by
  obtain ⟨A', n', c', e, h3, -, -⟩ := hok it (List.mem_of_getElem? h1)
  rw [h2] at e; cases e
  have h4 := h3.1
  refine ⟨by rw [catL_succ h1, List.length_append]; omega, ?_⟩
  have := catL_le (ls := ls.take k) fun i hi => hok i (List.mem_of_mem_take hi)
  rw [List.length_take] at this
  omega
 have HS := Lib.hid hsum
 clear hb hm hok hN hi0 hz0 hz1 hz2 hsum hle
 go_enter Tryz.func141, Tryz.ntmps141
 go_wp2_with fail
 go_loopg [3, 11] m (fun q sz i wr => ∃ k, q = m - k ∧ k ≤ m ∧ i = .int .i64 k ∧ sz = .int .i64 ((catL (ls.take k)).length : Nat) ∧ w = wr)
 case atStart => exact ⟨0, rfl, Nat.zero_le _, rfl, rfl, rfl⟩
 case round =>
  obtain ⟨k, rfl, hk, rfl, rfl, rfl⟩ := hrel
  by_cases hlt : k < m
  ·obtain ⟨it, hit⟩ : ∃ it, ls[k]? = some it := ⟨_, List.getElem?_eq_getElem (by have := H.out.2.1; omega)⟩
   obtain ⟨A, n, c0, hv, hs, -, hn⟩ := H.out.2.2.1 it (List.mem_of_getElem? hit)
   have hce : w.cell? ⟨g, k, none⟩ = some (.slice A n c0) := by
    rw [H.out.1.cell]
    simp [hit, hv]
   obtain ⟨e1, e2⟩ := HS.out k it A n c0 hit hv
   obtain ⟨s0, hs0⟩ : ∃ s, (catL (ls.take k)).length = s := ⟨_, rfl⟩
   rw [hs0] at e1 e2 ⊢
   have E1 := Lib.hid e1
   clear e1 hs hit hv hs0
   go_wp2_with fail
   go_roundg (m - (k + 1))
   case measure => omega
   case rel => exact ⟨k + 1, rfl, by omega, by simp, by rw [E1.out]; simp, rfl⟩
  ·obtain rfl : k = m := by omega
   have hNN : (catL (ls.take k)).length = N := by rw [← H.out.2.2.2.1, List.take_of_length_le (by have := H.out.2.1; omega)]
   have hNb : N ≤ 10000 := by have h1 := H.out.2.2.2.1; have h2 := H.out.2.2.2.2.2.2.2.2; have h3 := H.out.2.1; omega
   rw [hNN]
   clear hNN hlt hk
   have hgr := bgrow_nil N w (by omega)
   have HG := Lib.hid hgr
   clear hgr
   go_wp2_with fail
   refine HG.out.mono ?_
   rintro e w1 ⟨A1, c1, rfl, ho1, hg1⟩
   have H1 := Lib.hid (And.intro ho1 hg1)
   clear ho1 hg1
   go_wp2_with fail
   go_loopg [6, 27] k (fun q v i W2 => ∃ j, q = k - j ∧ j ≤ k ∧ i = .int .i64 j ∧ W2.ownsRow w.heap.size 3 1 v (catL (ls.take j)).length (catL (ls.take j)) ∧ Grew w W2)
   case atStart => exact ⟨0, rfl, Nat.zero_le _, rfl, H1.out.1, H1.out.2⟩
   case round =>
    obtain ⟨j, rfl, hj, rfl, ho, hgr⟩ := hrel
    by_cases hlt : j < k
    ·obtain ⟨it, hit⟩ : ∃ it, ls[j]? = some it := ⟨_, List.getElem?_eq_getElem (by have := H.out.2.1; omega)⟩
     obtain ⟨A, n, c0, hv, hs, h1, hn⟩ := H.out.2.2.1 it (List.mem_of_getElem? hit)
     have hce : w.cell? ⟨g, j, none⟩ = some (.slice A n c0) := by
      rw [H.out.1.cell]
      simp [hit, hv]
     have hgl := H.out.1.lt
     obtain ⟨e1, e2⟩ := HS.out j it A n c0 hit hv
     obtain ⟨Av, cv, rfl, hncv⟩ := own_shape ho
     obtain ⟨s0, hs0⟩ : ∃ s, (catL (ls.take j)).length = s := ⟨_, rfl⟩
     rw [hs0] at e1 e2 ho hncv ⊢
     have hce2 : wr.cell? ⟨g, j, none⟩ = some (.slice A n c0) := (hgr.cell (p := ⟨g, j, none⟩) hgl id).trans hce
     have hs2 := hs.grew hgr
     have hxl : it.xs.length = n := by have := hs.1; omega
     have H2 := Lib.hid (And.intro ho (And.intro hgr (And.intro e1 (And.intro hs2 (And.intro h1 (And.intro hxl hit))))))
     clear ho hgr e1 hs hs2 h1 hxl hit hs0 hce hv
     by_cases hn0 : n = 0
     ·subst hn0
      have hra := fun ty => run_append_nought (P := Tryz.prog) (w := wr) Tryz.underlying22 H.out.2.2.2.2.1 ty Av A s0 cv c0 hncv
      have HRA := Lib.hid hra
      clear hra
      go_wp2_with (at_builtin; refine Lib.wpList_append_run _ rfl _ _ _ _ rfl _ _ rfl rfl _ _ (HRA.out _) ?_)
      go_roundg (k - (j + 1))
      case measure => omega
      case rel =>
       obtain ⟨q1, q2, q3, q4, q5, q6, q7⟩ := H2.out
       refine ⟨j + 1, rfl, by omega, by simp, ?_, q2⟩
       rw [q3, catL_succ q7, List.eq_nil_of_length_eq_zero q6, List.append_nil]
       exact q1
     ·obtain ⟨gb, off, rfl, -, hx⟩ := H2.out.2.2.2.1.2 (by omega)
      have HX := Lib.hid hx
      clear hx
      go_wp2_with (at_builtin; refine wpList_append_own _ rfl _ _ _ rfl w.heap.size 3 i0 _ 1 8 Tryz.underlying22 H.out.2.2.2.2.1 H.out.2.2.2.2.2.1 H.out.2.2.2.2.2.2.1 H.out.2.2.2.2.2.2.2.1 rfl (by omega) (.slice Av s0 cv) s0 (catL (ls.take j)) rfl H2.out.1 ⟨gb, off, none⟩ n c0 it.xs rfl (by rw [Nat.mul_one]; exact H2.out.2.2.2.2.2.1) (fun j u hu => by rw [Addr.add_lit]; exact HX.out j u hu) H2.out.2.2.2.2.1 (by simp only [maxLen]; omega) (by omega) H2.out.2.1.size ?_; intro v1 w1 hown1 hgrow hnil; have HO := Lib.hid hown1; have HG := Lib.hid hgrow; clear hown1 hgrow hnil)
      go_roundg (k - (j + 1))
      case measure => omega
      case rel =>
       obtain ⟨q1, q2, q3, q4, q5, q6, q7⟩ := H2.out
       refine ⟨j + 1, rfl, by omega, by simp, ?_, grew_row q2 q1 HG.out⟩
       rw [q3, catL_succ q7]
       exact HO.out
    ·obtain rfl : j = k := by omega
     rw [List.take_of_length_le (by have := H.out.2.1; omega), H.out.2.2.2.1] at ho
     obtain ⟨A', c', rfl, -⟩ := own_shape ho
     have HO := Lib.hid (And.intro ho hgr)
     clear ho hgr hlt hj
     go_wp2_with fail
     go_ret
     exact ⟨A', c', rfl, HO.out.1, HO.out.2⟩
end Go.Proofs.YtpkkcicaeldodaaGreatDoor

namespace Go.Proofs.YtpkkcicaeldodaaGreatDoor
open Go.RowKit Go.Maps

def MgOut (G : Nat → Prop) (w w' : World) (t p root ba qn q1 q2 : Nat) (F N2 : Nat → Prop) (x : Rp) (one nd' : Nd) (last : Prop) (e : Ending) : Prop :=
 (e = .returned (.int .i64 0) ∧ ∃ y F' N', BT w' t p root F' y ∧ Chg G w w' ∧ (∀ j, F' j → F j ∨ w.heap.size ≤ j) ∧ (∀ j, N' j → ¬ F' j) ∧ (∀ j, N' j → N2 j ∨ w.heap.size ≤ j) ∧ x.like y ∧
  ((last ∧ NdOwn w' N' ba root one ∧ y.nd root = some one ∧ (∀ i, i ≠ q1 → i ≠ q2 → i ≠ root → y.nd i = x.nd i) ∧ y.now.countP Pk.used + 2 = x.now.countP Pk.used) ∨
   (¬ last ∧ NdOwn w' N' ba q1 one ∧ y.nd q1 = some one ∧ y.nd qn = some nd' ∧ (∀ i, i ≠ q1 → i ≠ q2 → i ≠ qn → y.nd i = x.nd i) ∧ y.now.countP Pk.used + 1 = x.now.countP Pk.used))) ∨
 (e = .returned (.int .i64 21) ∧ FullG G w w' t p root F x 0)
structure Mg (W : World) (t p root : Nat) (F : Nat → Prop) (x : Rp) (N1 N2 N3 : Nat → Prop) (bb q2 : Nat) (nb : Nd) : Prop where
 bt : BT W t p root F x
 nb : NdAt W N3 bb q2 nb
 d13 : ∀ j, N1 j → ¬ N3 j
 d23 : ∀ j, N2 j → ¬ N3 j
 d1F : ∀ j, N1 j → ¬ F j ∧ j ≠ t ∧ j ≠ 0 ∧ j < W.heap.size
 d2F : ∀ j, N2 j → ¬ F j ∧ j ≠ t ∧ j ≠ 0 ∧ j < W.heap.size
 d3F : ∀ j, N3 j → ¬ F j
 d12 : ∀ j, N1 j → ¬ N2 j
section
variable {W W' : World} {t p root bb q2 : Nat} {F : Nat → Prop} {x : Rp} {N1 N2 N3 : Nat → Prop} {nb : Nd}
theorem Mg.turn {G N1' N2' : Nat → Prop} (h : Mg W t p root F x N1 N2 N3 bb q2 nb) (hc : Chg G W W') (hG : ∀ j, G j → N1 j ∨ N2 j) (h1 : ∀ j, N1' j → N1 j ∨ W.heap.size ≤ j) (h2 : ∀ j, N2' j → N2 j ∨ W.heap.size ≤ j) (h3 : ∀ j, N1' j → ¬ N2' j) (l1 : ∀ j, N1' j → j < W'.heap.size) (l2 : ∀ j, N2' j → j < W'.heap.size) :
  Mg W' t p root F x N1' N2' N3 bb q2 nb := by
 have hF := h.bt.gp.lt
 have ht := h.bt.blk.lt
 have hp := tab_pos h.bt.gp.tab
 have h3l := h.nb.lt
 have hz := hc.size
 have e : ∀ j, G j → ¬ F j ∧ j ≠ t ∧ j ≠ 0 := fun j hj => (hG j hj).elim (fun e => ⟨(h.d1F j e).1, (h.d1F j e).2.1, (h.d1F j e).2.2.1⟩) fun e => ⟨(h.d2F j e).1, (h.d2F j e).2.1, (h.d2F j e).2.2.1⟩
 have e3 : ∀ j, G j → ¬ N3 j := fun j hj => (hG j hj).elim (h.d13 j) (h.d23 j)
 refine ⟨h.bt.chg hc (fun j hj g => (e j g).1 hj) (fun g => (e 0 g).2.2 rfl) (fun g => (e t g).2.1 rfl), h.nb.chg hc fun j hj g => e3 j g hj, fun j hj g => ?_, fun j hj g => ?_, fun j hj => ?_, fun j hj => ?_, h.d3F, h3⟩
 ·rcases h1 j hj with e | e
  ·exact h.d13 j e g
  ·have := h3l j g; omega
 ·rcases h2 j hj with e | e
  ·exact h.d23 j e g
  ·have := h3l j g; omega
 ·rcases h1 j hj with e | e
  ·obtain ⟨a, b, c, -⟩ := h.d1F j e; exact ⟨a, b, c, l1 j hj⟩
  ·exact ⟨fun f => by have := hF j f; omega, by omega, by omega, l1 j hj⟩
 ·rcases h2 j hj with e | e
  ·obtain ⟨a, b, c, -⟩ := h.d2F j e; exact ⟨a, b, c, l2 j hj⟩
  ·exact ⟨fun f => by have := hF j f; omega, by omega, by omega, l2 j hj⟩
end
theorem cat3 {W : World} {g n1 n2 n3 c1 c2 c3 N : Nat} {A1 A2 A3 : Option Addr} {x1 x2 x3 : List Value} (hb : Blk W g 22 #[.slice A1 n1 c1, .slice A2 n2 c2, .slice A3 n3 c3]) (h1 : Sl W 1 A1 n1 x1) (h2 : Sl W 1 A2 n2 x2) (h3 : Sl W 1 A3 n3 x3)
  (o1 : ∀ u ∈ x1, u.oneCell' = true) (o2 : ∀ u ∈ x2, u.oneCell' = true) (o3 : ∀ u ∈ x3, u.oneCell' = true) (hn : n1 + n2 + n3 ≤ 1000) (hN : n1 + (n2 + n3) = N) :
  Calls Tryz.prog 141 #[.slice (some ⟨g, 0, none⟩) 3 3] W fun e w' => OwnOut W w' 3 1 N (x1 ++ (x2 ++ x3)) (fun A c => .slice A N c) e := by
 have e : catL [⟨.slice A1 n1 c1, x1⟩, ⟨.slice A2 n2 c2, x2⟩, ⟨.slice A3 n3 c3, x3⟩] = x1 ++ (x2 ++ x3) := by simp [catL]
 have := bconcat_any g 3 3 N [⟨.slice A1 n1 c1, x1⟩, ⟨.slice A2 n2 c2, x2⟩, ⟨.slice A3 n3 c3, x3⟩] W hb rfl (by omega) (fun it hit => by
  simp only [List.mem_cons, List.not_mem_nil, or_false] at hit
  rcases hit with rfl | rfl | rfl
  ·exact ⟨A1, n1, c1, rfl, h1, o1, by omega⟩
  ·exact ⟨A2, n2, c2, rfl, h2, o2, by omega⟩
  ·exact ⟨A3, n3, c3, rfl, h3, o3, by omega⟩) (by rw [e, List.length_append, List.length_append]; have := h1.1; have := h2.1; have := h3.1; omega)
 rw [e] at this
 exact this
theorem cat2 {W : World} {g n1 n2 c1 c2 N : Nat} {A1 A2 : Option Addr} {x1 x2 : List Value} (hb : Blk W g 22 #[.slice A1 n1 c1, .slice A2 n2 c2]) (h1 : Sl W 1 A1 n1 x1) (h2 : Sl W 1 A2 n2 x2)
  (o1 : ∀ u ∈ x1, u.oneCell' = true) (o2 : ∀ u ∈ x2, u.oneCell' = true) (hn : n1 + n2 ≤ 1000) (hN : n1 + n2 = N) :
  Calls Tryz.prog 141 #[.slice (some ⟨g, 0, none⟩) 2 2] W fun e w' => OwnOut W w' 3 1 N (x1 ++ x2) (fun A c => .slice A N c) e := by
 have e : catL [⟨.slice A1 n1 c1, x1⟩, ⟨.slice A2 n2 c2, x2⟩] = x1 ++ x2 := by simp [catL]
 have := bconcat_any g 2 2 N [⟨.slice A1 n1 c1, x1⟩, ⟨.slice A2 n2 c2, x2⟩] W hb rfl (by omega) (fun it hit => by
  simp only [List.mem_cons, List.not_mem_nil, or_false] at hit
  rcases hit with rfl | rfl
  ·exact ⟨A1, n1, c1, rfl, h1, o1, by omega⟩
  ·exact ⟨A2, n2, c2, rfl, h2, o2, by omega⟩) (by rw [e, List.length_append]; have := h1.1; have := h2.1; omega)
 rw [e] at this
 exact this
structure MgS (w W : World) (t p root : Nat) (F : Nat → Prop) (x : Rp) (N1 N2 N3 N1' N2' : Nat → Prop) (bb q2 : Nat) (nb : Nd) (ba q1 : Nat) (vk vv vc : Value) (lk lv lc : List Value) (bn qn : Nat) (uk uv uc : Value) (mk mv mc : List Value) : Prop where
 mg : Mg W t p root F x N1' N2' N3 bb q2 nb
 a : NdV W N2' ba q1 vk vv vc lk lv lc
 n : NdV W N1' bn qn uk uv uc mk mv mc
 ch : Chg (fun j => N1 j ∨ N2 j) w W
 n1 : ∀ j, N1' j → N1 j ∨ w.heap.size ≤ j
 n2 : ∀ j, N2' j → N2 j ∨ w.heap.size ≤ j
section
variable {w W W1 w2 W3 : World} {t p root bb q2 ba q1 bn qn : Nat} {F N1 N2 N3 N1' N2' : Nat → Prop} {x : Rp} {nb : Nd} {vk vv vc uk uv uc v' : Value} {lk lv lc mk mv mc l' : List Value}
theorem MgS.start (h1 : Mg w t p root F x N1 N2 N3 bb q2 nb) (h2 : NdV w N2 ba q1 vk vv vc lk lv lc) (h3 : NdV w N1 bn qn uk uv uc mk mv mc) : MgS w w t p root F x N1 N2 N3 N1 N2 bb q2 nb ba q1 vk vv vc lk lv lc bn qn uk uv uc mk mv mc :=
 ⟨h1, h2, h3, Chg.refl _ _, fun _ h => .inl h, fun _ h => .inl h⟩
theorem new_ap {base : Nat} {v v' : Value} {n : Nat} {xs : List Value} (hg : Grew W1 w2) (ho : w2.ownsRow W1.heap.size 3 1 v' n xs) (hb : base = W1.heap.size) : Ap W1 w2 v v' :=
 ⟨hg.chg, fun j hj => .inr (ho.lt j hj).1⟩
theorem MgS.aset (s : MgS w W t p root F x N1 N2 N3 N1' N2' bb q2 nb ba q1 vk vv vc lk lv lc bn qn uk uv uc mk mv mc) (hg1 : Grew W W1) (hg2 : Grew W1 w2) (hlt : ∀ g, v'.ownBlock = some g → W.heap.size ≤ g ∧ g < w2.heap.size) (hc3 : Chg (fun j => j = ba) w2 W3) :
  Mg W3 t p root F x N1' (fun j => N2' j ∨ v'.ownBlock = some j) N3 bb q2 nb ∧ NdV W3 N1' bn qn uk uv uc mk mv mc ∧ Chg (fun j => N1 j ∨ N2 j) w W3 ∧ ∀ j, (N2' j ∨ v'.ownBlock = some j) → N2 j ∨ w.heap.size ≤ j := by
 have hc : Chg (fun j => j = ba) W W3 := Grew.then (Grew.trans hg1 hg2) hc3
 have hba : ba < W.heap.size := s.a.blk.lt
 have hz := hc3.size
 have hz0 := s.ch.size
 have hzg := (Grew.trans hg1 hg2).size
 have hn1l := s.n.lt
 have hn2l := s.a.lt
 refine ⟨s.mg.turn hc (fun j hj => .inr (hj ▸ s.a.nb)) (fun j hj => .inl hj) (fun j hj => hj.imp id fun e => (hlt j e).1) (fun j hj e => ?_) (fun j hj => by have := hn1l j hj; omega) (fun j hj => ?_), s.n.chg hc fun j hj e => s.mg.d12 j hj (e ▸ s.a.nb), Chg.trans s.ch hc fun j hj e => ?_, fun j hj => ?_⟩
 ·rcases e with e | e
  ·exact s.mg.d12 j hj e
  ·have := (hlt j e).1; have := hn1l j hj; omega
 ·rcases hj with e | e
  ·have := hn2l j e; omega
  ·have := (hlt j e).2; omega
 ·subst e
  exact .inr ((s.n2 _ s.a.nb).resolve_right (by omega))
 ·rcases hj with e | e
  ·exact s.n2 j e
  ·have := (hlt j e).1; exact .inr (by omega)
theorem MgS.aK (s : MgS w W t p root F x N1 N2 N3 N1' N2' bb q2 nb ba q1 vk vv vc lk lv lc bn qn uk uv uc mk mv mc) (hg1 : Grew W W1) (hg2 : Grew W1 w2) (ho : w2.ownsRow W1.heap.size 3 1 v' l'.length l') (hW : w2.setCell ⟨ba, 1, none⟩ v' = W3) (hp : 1 ≤ W1.heap.size) :
  MgS w W3 t p root F x N1 N2 N3 N1' (fun j => N2' j ∨ v'.ownBlock = some j) bb q2 nb ba q1 v' vv vc l' lv lc bn qn uk uv uc mk mv mc := by
 have hz := hg1.size
 obtain ⟨h1, h2, h3, h4⟩ := s.aset hg1 hg2 (fun g hg => by have := ho.lt g hg; omega) (hW ▸ (Chg.refl (fun j => j = ba) w2).setCell (p := ⟨ba, 1, none⟩) (fun _ => rfl) v')
 exact ⟨h1, (s.a.chg hg1 fun _ _ => id).setK (new_ap hg2 ho rfl) (own_base ho hp) hW, h2, h3, s.n1, h4⟩
theorem MgS.aV (s : MgS w W t p root F x N1 N2 N3 N1' N2' bb q2 nb ba q1 vk vv vc lk lv lc bn qn uk uv uc mk mv mc) (hg1 : Grew W W1) (hg2 : Grew W1 w2) (ho : w2.ownsRow W1.heap.size 3 1 v' l'.length l') (hW : w2.setCell ⟨ba, 2, none⟩ v' = W3) (hp : 1 ≤ W1.heap.size) :
  MgS w W3 t p root F x N1 N2 N3 N1' (fun j => N2' j ∨ v'.ownBlock = some j) bb q2 nb ba q1 vk v' vc lk l' lc bn qn uk uv uc mk mv mc := by
 have hz := hg1.size
 obtain ⟨h1, h2, h3, h4⟩ := s.aset hg1 hg2 (fun g hg => by have := ho.lt g hg; omega) (hW ▸ (Chg.refl (fun j => j = ba) w2).setCell (p := ⟨ba, 2, none⟩) (fun _ => rfl) v')
 exact ⟨h1, (s.a.chg hg1 fun _ _ => id).setV (new_ap hg2 ho rfl) (own_base ho hp) hW, h2, h3, s.n1, h4⟩
theorem MgS.aC (s : MgS w W t p root F x N1 N2 N3 N1' N2' bb q2 nb ba q1 vk vv vc lk lv lc bn qn uk uv uc mk mv mc) (hg1 : Grew W W1) (hg2 : Grew W1 w2) (ho : w2.ownsRow W1.heap.size 3 1 v' l'.length l') (hW : w2.setCell ⟨ba, 3, none⟩ v' = W3) (hp : 1 ≤ W1.heap.size) :
  MgS w W3 t p root F x N1 N2 N3 N1' (fun j => N2' j ∨ v'.ownBlock = some j) bb q2 nb ba q1 vk vv v' lk lv l' bn qn uk uv uc mk mv mc := by
 have hz := hg1.size
 obtain ⟨h1, h2, h3, h4⟩ := s.aset hg1 hg2 (fun g hg => by have := ho.lt g hg; omega) (hW ▸ (Chg.refl (fun j => j = ba) w2).setCell (p := ⟨ba, 3, none⟩) (fun _ => rfl) v')
 exact ⟨h1, (s.a.chg hg1 fun _ _ => id).setC (new_ap hg2 ho rfl) (own_base ho hp) hW, h2, h3, s.n1, h4⟩
theorem MgS.nset {uk' uv' uc' : Value} {mk' mv' mc' : List Value} {N1'' : Nat → Prop} (s : MgS w W t p root F x N1 N2 N3 N1' N2' bb q2 nb ba q1 vk vv vc lk lv lc bn qn uk uv uc mk mv mc) (hc : Chg N1' W W3) (hn : NdV W3 N1'' bn qn uk' uv' uc' mk' mv' mc') (h1 : ∀ j, N1'' j → N1' j ∨ W.heap.size ≤ j) :
  MgS w W3 t p root F x N1 N2 N3 N1'' N2' bb q2 nb ba q1 vk vv vc lk lv lc bn qn uk' uv' uc' mk' mv' mc' := by
 have hz0 := s.ch.size
 have hz := hc.size
 have hn2l := s.a.lt
 refine ⟨s.mg.turn hc (fun j hj => .inl hj) h1 (fun j hj => .inl hj) (fun j hj e => ?_) hn.lt (fun j hj => by have := hn2l j hj; omega), s.a.chg hc fun j hj e => s.mg.d12 j e hj, hn, Chg.trans s.ch hc fun j hj e => .inl ((s.n1 j e).resolve_right (by omega)), fun j hj => ?_, s.n2⟩
 ·rcases h1 j hj with e2 | e2
  ·exact s.mg.d12 j e2 e
  ·have := hn2l j e; omega
 ·rcases h1 j hj with e2 | e2
  ·exact s.n1 j e2
  ·exact .inr (by omega)
end
theorem eraseIdx_mem {α : Type} {l : List α} {i : Nat} {a : α} (h : a ∈ l.eraseIdx i) : a ∈ l := List.mem_of_mem_eraseIdx h
theorem Nd.del_fit {nd : Nd} {sz i : Nat} (f : nd.Fit sz) (hi : i < nd.keys.length) (hc : nd.kids.length = nd.keys.length + 1) : (⟨nd.keys.eraseIdx i, nd.vals.eraseIdx i, nd.kids.eraseIdx (i + 1)⟩ : Nd).Fit sz := by
 have hv := f.vals
 have hm := f.most
 have l1 : (nd.keys.eraseIdx i).length = nd.keys.length - 1 := List.length_eraseIdx_of_lt hi
 have l2 : (nd.vals.eraseIdx i).length = nd.vals.length - 1 := List.length_eraseIdx_of_lt (by omega)
 have l3 : (nd.kids.eraseIdx (i + 1)).length = nd.kids.length - 1 := List.length_eraseIdx_of_lt (by omega)
 exact ⟨by simp only; omega, by simp only; omega, .inr (by simp only; omega), fun k hk => f.ki k (eraseIdx_mem hk), fun k hk => f.vi k (eraseIdx_mem hk), fun k hk => f.ci k (eraseIdx_mem hk)⟩
theorem Rp.put_usedF {x : Rp} {q : Nat} {c0 : Pk} (h : x.now[q]? = some c0) (u : c0.used = true) : (x.put q .no).now.countP Pk.used + 1 = x.now.countP Pk.used := by
 have := Rp.put_used (c := .no) h
 rw [u] at this
 simpa [Pk.used] using this
theorem Rp.put_keep {x : Rp} {q i : Nat} {c c0 : Pk} (h : x.now[i]? = some c0) (e : i ≠ q) : (x.put q c).now[i]? = some c0 := by
 unfold Rp.put
 simp only
 rw [List.getElem?_set_ne (Ne.symm e)]
 exact h
section
variable {w W : World} {t p root bn ba g qn q1 q2 c : Nat} {F F1 N1' N2 N2' G : Nat → Prop} {x : Rp} {one nd' : Nd} {cn c1 c2 : Pk} {last : Prop}
theorem merge_all (hbt : BT W t p root F1 (x.put q2 .no)) (ho : x.was ≠ none) (hqn : x.now[qn]? = some cn) (un : cn.used = true) (hq1 : x.now[q1]? = some c1) (u1 : c1.used = true) (hq2 : x.now[q2]? = some c2) (u2 : c2.used = true) (e12 : q1 ≠ q2) (e1n : q1 ≠ qn) (e2n : q2 ≠ qn)
  (hA : NdOwn W N2' ba q1 one) (hN : NdOwn W N1' bn qn nd') (fA : one.Fit x.sz) (fN : nd'.Fit x.sz) (d1 : ∀ j, N1' j → ¬ F1 j) (d2 : ∀ j, N2' j → ¬ F1 j)
  (hs : Sl W 1 (some ⟨g, 0, none⟩) 2 [.pointer (some ⟨ba, 0, none⟩), .pointer (some ⟨bn, 0, none⟩)]) (hg : ¬ F1 g) (hc : Chg G w W) (hF1 : ∀ j, F1 j → F j ∨ w.heap.size ≤ j) (hGF : ∀ j, F j → G j) (hN2 : ∀ j, N2' j → N2 j ∨ w.heap.size ≤ j) (hz : x.sz ≤ 4096) (hl : ¬ last) :
  Calls Tryz.prog 88 #[.pointer (some ⟨t, 0, none⟩), .slice (some ⟨g, 0, none⟩) 2 c] W fun e w' => MgOut G w w' t p root ba qn q1 q2 F N2 x one nd' last e := by
 have hgW : g < W.heap.size := by obtain ⟨b, o, e, hb, -⟩ := hs.2 (by omega); cases e; exact hb
 have n1 := Rp.put_keep (c := .no) hqn (Ne.symm e2n)
 have k1 := Rp.put_keep (c := .no) hq1 e12
 have l1 := (List.getElem?_eq_some_iff.1 k1).1
 have ln := (List.getElem?_eq_some_iff.1 n1).1
 have uf := Rp.put_usedF hq2 u2
 have hal := ball_any t p root g 2 c F1 (x.put q2 .no) [⟨ba, N2', q1, one⟩, ⟨bn, N1', qn, nd'⟩] W hbt ho (fun it hit => by
  simp only [List.mem_cons, List.not_mem_nil, or_false] at hit
  rcases hit with rfl | rfl
  ·exact ⟨hA.at, fA, ⟨_, k1, u1⟩, d2⟩
  ·exact ⟨hN.at, fN, ⟨_, n1, un⟩, d1⟩) rfl (by omega) hs hg hgW
 refine hal.mono ?_
 have hsz := hc.size
 have hAlt := hA.at.lt
 rintro e w' (⟨rfl, F2, h1, h2, h3⟩ | ⟨rfl, z, ⟨F2, h1, h2, h3⟩, h4, h5, h6⟩)
 ·refine .inl ⟨rfl, _, F2, N2', h1, Chg.trans hc h2 fun j hj e => hGF j ((hF1 j e).resolve_right (by omega)), fun j hj => (h3 j hj).elim (hF1 j) fun e => .inr (by omega), fun j hj e => (h3 j e).elim (d2 j hj) fun e => by have := hAlt j hj; omega, hN2, (x.put_like _ _).trans (putAll_like _ _), .inr ⟨hl, hA.chg h2 d2, ?_, ?_, fun i i1 i2 i3 => ?_, ?_⟩⟩
  ·show ((((x.put q2 .no).put q1 (.new (ndL one x.sz))).put qn (.new (ndL nd' x.sz)))).nd q1 = _
   rw [Rp.nd_other e1n]
   exact Rp.nd_new (x := x.put q2 .no) fA l1 hz
  ·show ((((x.put q2 .no).put q1 (.new (ndL one x.sz))).put qn (.new (ndL nd' x.sz)))).nd qn = _
   exact Rp.nd_new (x := (x.put q2 .no).put q1 (.new (ndL one x.sz))) fN (by rw [Rp.put_len]; exact ln) hz
  ·show ((((x.put q2 .no).put q1 (.new (ndL one x.sz))).put qn (.new (ndL nd' x.sz)))).nd i = _
   rw [Rp.nd_other i3, Rp.nd_other i1, Rp.nd_other i2]
  ·show ((((x.put q2 .no).put q1 (.new (ndL one x.sz))).put qn (.new (ndL nd' x.sz)))).now.countP Pk.used + 1 = _
   have v1 := Rp.put_usedU (c := .new (ndL one x.sz)) k1 u1 rfl
   have n2 := Rp.put_keep (c := .new (ndL one x.sz)) n1 (Ne.symm e1n)
   have v2 := Rp.put_usedU (c := .new (ndL nd' x.sz)) n2 un rfl
   omega
 ·exact .inr ⟨rfl, z, F2, h1, Chg.trans hc h2 fun j hj e => hGF j ((hF1 j e).resolve_right (by omega)), fun j hj => (h3 j hj).elim (hF1 j) fun e => .inr (by omega), (x.put_like _ _).trans h4, by omega, h6⟩
theorem merge_save (hbt : BT W t p root F1 ((x.put q2 .no).put q1 .no)) (ho : x.was ≠ none) (hqn : x.now[root]? = some cn) (un : cn.used = true) (hq1 : x.now[q1]? = some c1) (u1 : c1.used = true) (hq2 : x.now[q2]? = some c2) (u2 : c2.used = true) (e12 : q1 ≠ q2) (e1n : q1 ≠ root) (e2n : q2 ≠ root)
  (hA : NdOwn W N2' ba root one) (fA : one.Fit x.sz) (d2 : ∀ j, N2' j → ¬ F1 j)
  (hc : Chg G w W) (hF1 : ∀ j, F1 j → F j ∨ w.heap.size ≤ j) (hGF : ∀ j, F j → G j) (hN2 : ∀ j, N2' j → N2 j ∨ w.heap.size ≤ j) (hz : x.sz ≤ 4096) (hl : last) :
  Calls Tryz.prog 37 #[.pointer (some ⟨t, 0, none⟩), .pointer (some ⟨ba, 0, none⟩)] W fun e w' => MgOut G w w' t p root ba qn q1 q2 F N2 x one nd' last e := by
 have n1 := Rp.put_keep (c := .no) hqn (Ne.symm e2n)
 have n2 := Rp.put_keep (c := .no) n1 (Ne.symm e1n)
 have k1 := Rp.put_keep (c := .no) hq1 e12
 have ln := (List.getElem?_eq_some_iff.1 n2).1
 have uf := Rp.put_usedF hq2 u2
 have uf2 := Rp.put_usedF k1 u1
 have hbF : ¬ F1 ba := d2 _ (by obtain ⟨vk, vv, vc, hV⟩ := hA.v; exact hV.nb)
 have hsv := bsave_any t p root ba root F1 N2' ((x.put q2 .no).put q1 .no) cn one W hbt hA.at fA ho n2 un hbF
 refine hsv.mono ?_
 have hsz := hc.size
 have hAlt := hA.at.lt
 rintro e w' (⟨rfl, F2, h1, h2, h3⟩ | ⟨hns, -, rfl, hg⟩)
 ·refine .inl ⟨rfl, _, F2, N2', h1, Chg.trans hc h2 fun j hj e => hGF j ((hF1 j e).resolve_right (by omega)), fun j hj => (h3 j hj).elim (hF1 j) fun e => .inr (by omega), fun j hj e => (h3 j e).elim (d2 j hj) fun e => by have := hAlt j hj; omega, hN2, ((x.put_like _ _).trans (Rp.put_like _ _ _)).trans (Rp.put_like _ _ _), .inl ⟨hl, hA.chg h2 d2, ?_, fun i i1 i2 i3 => ?_, ?_⟩⟩
  ·exact Rp.nd_new (x := (x.put q2 .no).put q1 .no) fA ln hz
  ·rw [Rp.nd_other i3, Rp.nd_other i1, Rp.nd_other i2]
  ·have v2 := Rp.put_usedU (c := .new (ndL one ((x.put q2 .no).put q1 .no).sz)) n2 un rfl
   omega
 ·exact .inr ⟨rfl, _, F1, hbt.grew hg, Chg.trans hc hg.chg fun j hj e => hGF j ((hF1 j e).resolve_right (by omega)), hF1, (x.put_like _ _).trans (Rp.put_like _ _ _), by omega, fun e => hns e.1⟩
end
theorem NdV.page {W W2 : World} {N : Nat → Prop} {b q q' : Nat} {vk vv vc : Value} {lk lv lc : List Value} (h : NdV W N b q vk vv vc lk lv lc) (hW : W.setCell ⟨b, 0, none⟩ (.int .i64 q') = W2) : NdV W2 N b q' vk vv vc lk lv lc ∧ Chg (fun j => j = b) W W2 := by
 obtain ⟨e1, e2, e3⟩ := h.ne
 have hc : Chg (fun j => j = b) W W2 := hW ▸ (Chg.refl (fun j => j = b) W).setCell (p := ⟨b, 0, none⟩) (fun _ => rfl) _
 have hz := hc.size
 refine ⟨⟨?_, own_chg h.rk hc fun g hg e => e1 (e ▸ hg), own_chg h.rv hc fun g hg e => e2 (e ▸ hg), own_chg h.rc hc fun g hg e => e3 (e ▸ hg), h.nb, h.nk, h.nv, h.nc, fun j hj => Nat.lt_of_lt_of_le (h.lt j hj) hz, h.kv, h.kc, h.vc_⟩, hc⟩
 subst hW
 have := h.blk.put 0 (.int .i64 q')
 simpa using this
def NdRd (W : World) (N : Nat → Prop) (b q : Nat) (nd : Nd) (Ak : Option Addr) (ck : Nat) (Av : Option Addr) (cv : Nat) (Ac : Option Addr) (cc : Nat) : Prop :=
 Blk W b 73 #[.int .i64 q, .slice Ak nd.keys.length ck, .slice Av nd.vals.length cv, .slice Ac nd.kids.length cc] ∧
  Sl W 1 Ak nd.keys.length (iv nd.keys) ∧ Sl W 1 Av nd.vals.length (iv nd.vals) ∧ Sl W 1 Ac nd.kids.length (nv nd.kids) ∧
  N b ∧ (∀ a, Ak = some a → N a.block) ∧ (∀ a, Av = some a → N a.block) ∧ (∀ a, Ac = some a → N a.block)
theorem NdAt.rd {W : World} {N : Nat → Prop} {b q : Nat} {nd : Nd} (h : NdAt W N b q nd) : ∃ Ak ck Av cv Ac cc, NdRd W N b q nd Ak ck Av cv Ac cc := by
 obtain ⟨Ak, ck, Av, cv, Ac, cc, h1, h2, h3, h4, h5, h6, h7, h8, h9⟩ := h
 exact ⟨Ak, ck, Av, cv, Ac, cc, h1, h2, h3, h4, h5, h6, h7, h8⟩
theorem NdRd.chg {W W' : World} {N G : Nat → Prop} {b q : Nat} {nd : Nd} {Ak Av Ac : Option Addr} {ck cv cc : Nat} (h : NdRd W N b q nd Ak ck Av cv Ac cc) (hc : Chg G W W') (hG : ∀ j, N j → ¬ G j) : NdRd W' N b q nd Ak ck Av cv Ac cc := by
 obtain ⟨h1, h2, h3, h4, h5, h6, h7, h8⟩ := h
 exact ⟨h1.chg hc (hG _ h5), h2.chg hc fun a ha => hG _ (h6 a ha), h3.chg hc fun a ha => hG _ (h7 a ha), h4.chg hc fun a ha => hG _ (h8 a ha), h5, h6, h7, h8⟩
end Go.Proofs.YtpkkcicaeldodaaGreatDoor

namespace Go.Proofs.YtpkkcicaeldodaaGreatDoor
open Go.RowKit Go.Maps

theorem iv_at1 {l : List Int} {i : Nat} {k : Int} (h : l[i]? = some k) : ((iv l).drop i).take 1 = iv [k] := by
 rw [← iv_drop, ← iv_take]
 congr 1
 rw [List.take_add_one, List.getElem?_drop, Nat.add_zero, h]
 rfl
theorem map_eraseN (l : List Nat) (i : Nat) : (l.eraseIdx i).map Int.ofNat = (l.map Int.ofNat).eraseIdx i := by
 rw [List.eraseIdx_eq_take_drop_succ, List.eraseIdx_eq_take_drop_succ, List.map_append, List.map_take, List.map_drop]
set_option maxRecDepth 100000 in
set_option maxHeartbeats 6400000 in
theorem bmerge_any (t p root bn qn ba q1 bb q2 i : Nat) (k v : Int) (F N1 N2 N3 : Nat → Prop) (x : Rp) (nd na nb : Nd) (cn p1 p2 : Pk) (w : World) (hM : Mg w t p root F x N1 N2 N3 bb q2 nb) (ho : x.was ≠ none)
  (hn : NdOwn w N1 bn qn nd) (ha : NdOwn w N2 ba q1 na) (hk : nd.keys[i]? = some k) (hv : nd.vals[i]? = some v) (hc : nd.kids.length = nd.keys.length + 1) (fn : nd.Fit x.sz) (fb : nb.Fit x.sz) (fo : (na.one nb k v).Fit x.sz)
  (hqn : x.now[qn]? = some cn) (un : cn.used = true) (hq1 : x.now[q1]? = some p1) (u1 : p1.used = true) (hq2 : x.now[q2]? = some p2) (u2 : p2.used = true) (e12 : q1 ≠ q2) (e1n : q1 ≠ qn) (e2n : q2 ≠ qn) :
  Calls Tryz.prog 108 #[.pointer (some ⟨t, 0, none⟩), .pointer (some ⟨bn, 0, none⟩), .int .i64 i, .pointer (some ⟨ba, 0, none⟩), .pointer (some ⟨bb, 0, none⟩)] w fun e w' => MgOut (fun j => F j ∨ N1 j ∨ N2 j) w w' t p root ba qn q1 q2 F N2 x (na.one nb k v) ⟨nd.keys.eraseIdx i, nd.vals.eraseIdx i, nd.kids.eraseIdx (i + 1)⟩ (qn = root ∧ nd.keys.length = 1) e := by
 have hil : i < nd.keys.length := (List.getElem?_eq_some_iff.1 hk).1
 have hvl := fn.vals
 have hz := hM.bt.gp.szs
 have hm3 : mostN x.sz ≤ 300 := by unfold mostN; omega
 have l1 : nd.keys.length ≤ 300 := by have := fn.most; omega
 have l2 : na.keys.length + nb.keys.length + 1 ≤ 300 := by have := fo.most; simp only [Nd.one, List.length_append, List.length_cons] at this; omega
 have hvab : na.vals.length + nb.vals.length = na.keys.length + nb.keys.length := by have := fo.vals; simp only [Nd.one, List.length_append, List.length_cons] at this; omega
 obtain ⟨vka, vva, vca, hA⟩ := ha.v
 obtain ⟨vkn, vvn, vcn, hN⟩ := hn.v
 have rka := hA.rk
 rw [iv_len] at rka
 have rva := hA.rv
 rw [iv_len] at rva
 have rca := hA.rc
 rw [nv_len] at rca
 have rkn := hN.rk
 rw [iv_len] at rkn
 have rvn := hN.rv
 rw [iv_len] at rvn
 have rcn := hN.rc
 rw [nv_len] at rcn
 obtain ⟨Aka, cka, rfl, -⟩ := own_shape rka
 obtain ⟨Ava, cva, rfl, -⟩ := own_shape rva
 obtain ⟨Aca, cca, rfl, -⟩ := own_shape rca
 obtain ⟨Akn, ckn, rfl, gckn⟩ := own_shape rkn
 obtain ⟨Avn, cvn, rfl, gcvn⟩ := own_shape rvn
 obtain ⟨Acn, ccn, rfl, gccn⟩ := own_shape rcn
 obtain ⟨gkn, rfl, -⟩ := own_block rkn (by omega)
 obtain ⟨gvn, rfl, -⟩ := own_block rvn (by omega)
 obtain ⟨gcn, rfl, -⟩ := own_block rcn (by omega)
 obtain ⟨Akb, ckb, Avb, cvb, Acb, ccb, hB⟩ := hM.nb.rd
 have HS0 := Lib.hid (MgS.start hM hA hN)
 have HB := Lib.hid hB
 have H := Lib.hid (And.intro hM (And.intro ho (And.intro hk (And.intro hv (And.intro hc (And.intro fn (And.intro fb (And.intro fo (And.intro hqn (And.intro un (And.intro hq1 (And.intro u1 (And.intro hq2 (And.intro u2 (And.intro e12 (And.intro e1n e2n))))))))))))))))
 have hii : IntKind.i64.wrap ((i : Int) + 1) = ((i + 1 : Nat) : Int) := by rw [IntWalk.i64_in _ ⟨by omega, by omega⟩]; omega
 have g0 : (0 : Int) ≤ (i : Int) + 1 := by omega
 have g1 : (i : Int) + 1 ≤ (ckn : Int) := by omega
 have g2 : ¬ ckn = i := by omega
 have g3 : (i : Int) + 1 ≤ (cvn : Int) := by omega
 have g4 : ¬ cvn = i := by omega
 have hvi : i < nd.vals.length := by omega
 have l4 : nd.vals.length ≤ 300 := by omega
 have l5 : na.vals.length + nb.vals.length + 1 ≤ 300 := by omega
 have HVL := Lib.hid (And.intro hvl (And.intro hvab hc))
 have e3 : na.kids.length + nb.kids.length ≤ 400 := by rcases fo.kids with e | e <;> simp only [Nd.one, List.length_append, List.length_cons] at e <;> (try have e' := congrArg List.length e; simp only [List.length_append, List.length_nil] at e') <;> omega
 clear hM ho hn ha hk hv hc fn fb fo hqn un hq1 u1 hq2 u2 e12 e1n e2n hz hm3 hA hN hvl hvab rka rva rca rkn rvn rcn hB
 go_enter Tryz.func108, Tryz.ntmps108
 have hB01 := HB.out.chg HS0.out.ch (fun j hj e => e.elim (fun e => H.out.1.d13 j e hj) fun e => H.out.1.d23 j e hj)
 have hS1 : (fun w' : World => w'.cell? ⟨ba, 1, none⟩ = some (.slice Aka na.keys.length cka) ∧ w'.cell? ⟨bn, 1, none⟩ = some (.slice (some ⟨gkn, 0, none⟩) nd.keys.length ckn) ∧ w'.cell? ⟨bb, 1, none⟩ = some (.slice Akb nb.keys.length ckb)) w.drew := ⟨(HS0.out.a.blk.drew).cell 1, (HS0.out.n.blk.drew).cell 1, (hB01.1.drew).cell 1⟩
 have HB01 := Lib.hid hB01
 clear hB01
 go_wp2_with fail
 refine wp_region_x [21] (S := fun w' => w'.cell? ⟨ba, 1, none⟩ = some (.slice Aka na.keys.length cka) ∧ w'.cell? ⟨bn, 1, none⟩ = some (.slice (some ⟨gkn, 0, none⟩) nd.keys.length ckn) ∧ w'.cell? ⟨bb, 1, none⟩ = some (.slice Akb nb.keys.length ckb)) (by kernel_rfl) hS1 (fun hHeld => ?_)
 refine Todo.out (is := [0, 1, 2, 3, 4, 5, 6, 7, 8, 9, 10, 11, 12, 13, 14, 15, 16]) ?_
 repeat
  refine tkX (v := ?_) rfl (by kernel_rfl) (by kernel_rfl) (by kernel_rfl) (by kernel_rfl) (fun _ _ _ h => h) (Or.inl ⟨by rfl, ?_⟩) hHeld ?_
  rotate_left
  ·(intro w hSw; (try dsimp only at hSw); go_simp) <;> with_reducible rfl
  (try simp only [Act.put, lA, lB, lC, lD, lE, lF])
 refine Todo.fin ?_
 refine rdX (i := 17) (by kernel_rfl) rfl fun K hK => ?_
 go_simp
 obtain ⟨W1, hW1⟩ : ∃ W, (w.alloc (.cells #[.slice Aka na.keys.length cka, .slice (some ⟨gkn, i, none⟩) 1 (ckn - i), .slice Akb nb.keys.length ckb] 22)).drew = W := ⟨_, rfl⟩
 rw [hW1]
 have hg1 : Grew w W1 := hW1 ▸ ((Chg.refl NoF w).alloc _).drew
 have hl1 : Blk W1 w.heap.size 22 #[.slice Aka na.keys.length cka, .slice (some ⟨gkn, i, none⟩) 1 (ckn - i), .slice Akb nb.keys.length ckb] := hW1 ▸ (Blk.new w _ _).drew
 have hB1 := HB01.out.chg hg1 fun _ _ => id
 have hN1 := HS0.out.n.chg hg1 fun _ _ => id
 have hA1 := HS0.out.a.chg hg1 fun _ _ => id
 have ra1 := hA1.rk
 rw [iv_len] at ra1
 have rn1 := hN1.rk
 rw [iv_len] at rn1
 have hc1 := (Sl.of_own rn1).cut i 1 (by omega)
 rw [Nat.zero_add, iv_at1 H.out.2.2.1] at hc1
 have hcat1 := cat3 hl1 (Sl.of_own ra1) hc1 hB1.2.1 (iv_one _) (iv_one _) (iv_one _) (by omega) rfl
 have hSb1 : (fun w' : World => w'.cell? ⟨ba, 1, none⟩ = some (.slice Aka na.keys.length cka) ∧ w'.cell? ⟨bn, 1, none⟩ = some (.slice (some ⟨gkn, 0, none⟩) nd.keys.length ckn) ∧ w'.cell? ⟨bb, 1, none⟩ = some (.slice Akb nb.keys.length ckb)) W1 := ⟨(hA1.blk).cell 1, (hN1.blk).cell 1, (hB1.1).cell 1⟩
 have hp1 : 1 ≤ W1.heap.size := by have := tab_pos HS0.out.mg.bt.gp.tab; have := hg1.size; omega
 have H1 := Lib.hid (And.intro hcat1 (And.intro hg1 (And.intro hA1 (And.intro hN1 (And.intro hB1 hp1)))))
 clear hcat1 hg1 hA1 hN1 hB1 hp1 hl1 hW1 ra1 rn1 hc1
 refine hK.out _ _ (fun _ => hSb1) ?_
 clear hK K
 (try simp only [Act.put, lA, lB, lC, lD, lE, lF])
 refine rdX (i := 18) (by kernel_rfl) rfl fun K hK => ?_
 go_simp
 refine H1.out.1.mono ?_
 rintro e w1b ⟨A1, c1, rfl, ho1, hg1b⟩
 have hb1 := H1.out.2.2.1.blk.grew hg1b
 have hSc1 : (fun w' : World => w'.cell? ⟨ba, 1, none⟩ = some (.slice Aka na.keys.length cka) ∧ w'.cell? ⟨bn, 1, none⟩ = some (.slice (some ⟨gkn, 0, none⟩) nd.keys.length ckn) ∧ w'.cell? ⟨bb, 1, none⟩ = some (.slice Akb nb.keys.length ckb)) w1b := ⟨(hb1).cell 1, (H1.out.2.2.2.1.blk.grew hg1b).cell 1, (H1.out.2.2.2.2.1.1.grew hg1b).cell 1⟩
 obtain ⟨d9, f9, s9⟩ := hb1.facts
 have H1b := Lib.hid (And.intro ho1 hg1b)
 clear ho1 hg1b hb1
 refine hK.out _ _ (fun _ => hSc1) ?_
 clear hK K
 (try simp only [Act.put, lA, lB, lC, lD, lE, lF])
 refine wpAnyX_takeM [20] (i := 19) (v := ?_) rfl (by kernel_rfl) (by kernel_rfl) (by kernel_rfl) (by kernel_rfl) (by kernel_rfl) (by kernel_rfl) (fun _ _ _ h => h) (Or.inl ⟨by rfl, ?_⟩) hSc1 ?_
 rotate_left
 ·(intro w hSw; (try dsimp only at hSw); go_simp) <;> with_reducible rfl
 (try simp only [Act.put, lA, lB, lC, lD, lE, lF])
 refine wpAnyX_take (i := 20) (v := ?_) rfl (by kernel_rfl) (by kernel_rfl) (by kernel_rfl) (by kernel_rfl) (fun _ _ _ h => h) (Or.inl ⟨by rfl, ?_⟩) hSc1 ?_
 rotate_left
 ·(intro w hSw; (try dsimp only at hSw); go_simp) <;> with_reducible rfl
 (try simp only [Act.put, lA, lB, lC, lD, lE, lF])
 refine rdX (i := 21) (by kernel_rfl) rfl fun K hK => ?_
 go_simp
 obtain ⟨W1c, hW1c⟩ : ∃ W, w1b.setCell ⟨ba, 1, none⟩ (.slice A1 (na.keys.length + (1 + nb.keys.length)) c1) = W := ⟨_, rfl⟩
 rw [hW1c]
 have hs1 := HS0.out.aK H1.out.2.1 H1b.out.2 (l' := iv na.keys ++ (iv [k] ++ iv nb.keys)) (by rw [show (iv na.keys ++ (iv [k] ++ iv nb.keys)).length = na.keys.length + (1 + nb.keys.length) from by simp [iv]; omega]; exact H1b.out.1) hW1c H1.out.2.2.2.2.2
 refine hK.out _ _ (fun h => by cases h) ?_
 clear hK K
 (try simp only [Act.put, lA, lB, lC, lD, lE, lF])
 refine wpAnyX_done (by kernel_rfl) ?_ _
 have HS1 := Lib.hid hs1
 clear hHeld hS1 hSb1 hSc1 d9 f9 s9 hW1c hs1 HB01
 have hB02 := HB.out.chg HS1.out.ch (fun j hj e => e.elim (fun e => H.out.1.d13 j e hj) fun e => H.out.1.d23 j e hj)
 have hS2 : (fun w' : World => w'.cell? ⟨ba, 2, none⟩ = some (.slice Ava na.vals.length cva) ∧ w'.cell? ⟨bn, 2, none⟩ = some (.slice (some ⟨gvn, 0, none⟩) nd.vals.length cvn) ∧ w'.cell? ⟨bb, 2, none⟩ = some (.slice Avb nb.vals.length cvb)) W1c.drew := ⟨(HS1.out.a.blk.drew).cell 2, (HS1.out.n.blk.drew).cell 2, (hB02.1.drew).cell 2⟩
 have HB02 := Lib.hid hB02
 clear hB02
 go_wp2_with fail
 refine wp_region_x [21] (S := fun w' => w'.cell? ⟨ba, 2, none⟩ = some (.slice Ava na.vals.length cva) ∧ w'.cell? ⟨bn, 2, none⟩ = some (.slice (some ⟨gvn, 0, none⟩) nd.vals.length cvn) ∧ w'.cell? ⟨bb, 2, none⟩ = some (.slice Avb nb.vals.length cvb)) (by kernel_rfl) hS2 (fun hHeld => ?_)
 refine Todo.out (is := [0, 1, 2, 3, 4, 5, 6, 7, 8, 9, 10, 11, 12, 13, 14, 15, 16]) ?_
 repeat
  refine tkX (v := ?_) rfl (by kernel_rfl) (by kernel_rfl) (by kernel_rfl) (by kernel_rfl) (fun _ _ _ h => h) (Or.inl ⟨by rfl, ?_⟩) hHeld ?_
  rotate_left
  ·(intro w hSw; (try dsimp only at hSw); go_simp) <;> with_reducible rfl
  (try simp only [Act.put, lA, lB, lC, lD, lE, lF])
 refine Todo.fin ?_
 refine rdX (i := 17) (by kernel_rfl) rfl fun K hK => ?_
 go_simp
 obtain ⟨W2, hW2⟩ : ∃ W, (W1c.alloc (.cells #[.slice Ava na.vals.length cva, .slice (some ⟨gvn, i, none⟩) 1 (cvn - i), .slice Avb nb.vals.length cvb] 22)).drew = W := ⟨_, rfl⟩
 rw [hW2]
 have hg2 : Grew W1c W2 := hW2 ▸ ((Chg.refl NoF W1c).alloc _).drew
 have hl2 : Blk W2 W1c.heap.size 22 #[.slice Ava na.vals.length cva, .slice (some ⟨gvn, i, none⟩) 1 (cvn - i), .slice Avb nb.vals.length cvb] := hW2 ▸ (Blk.new W1c _ _).drew
 have hB2 := HB02.out.chg hg2 fun _ _ => id
 have hN2 := HS1.out.n.chg hg2 fun _ _ => id
 have hA2 := HS1.out.a.chg hg2 fun _ _ => id
 have ra2 := hA2.rv
 rw [iv_len] at ra2
 have rn2 := hN2.rv
 rw [iv_len] at rn2
 have hc2 := (Sl.of_own rn2).cut i 1 (by omega)
 rw [Nat.zero_add, iv_at1 H.out.2.2.2.1] at hc2
 have hcat2 := cat3 hl2 (Sl.of_own ra2) hc2 hB2.2.2.1 (iv_one _) (iv_one _) (iv_one _) (by omega) rfl
 have hSb2 : (fun w' : World => w'.cell? ⟨ba, 2, none⟩ = some (.slice Ava na.vals.length cva) ∧ w'.cell? ⟨bn, 2, none⟩ = some (.slice (some ⟨gvn, 0, none⟩) nd.vals.length cvn) ∧ w'.cell? ⟨bb, 2, none⟩ = some (.slice Avb nb.vals.length cvb)) W2 := ⟨(hA2.blk).cell 2, (hN2.blk).cell 2, (hB2.1).cell 2⟩
 have hp2 : 1 ≤ W2.heap.size := by have := tab_pos HS1.out.mg.bt.gp.tab; have := hg2.size; omega
 have H2 := Lib.hid (And.intro hcat2 (And.intro hg2 (And.intro hA2 (And.intro hN2 (And.intro hB2 hp2)))))
 clear hcat2 hg2 hA2 hN2 hB2 hp2 hl2 hW2 ra2 rn2 hc2
 refine hK.out _ _ (fun _ => hSb2) ?_
 clear hK K
 (try simp only [Act.put, lA, lB, lC, lD, lE, lF])
 refine rdX (i := 18) (by kernel_rfl) rfl fun K hK => ?_
 go_simp
 refine H2.out.1.mono ?_
 rintro e w2b ⟨A2, c2, rfl, ho2, hg2b⟩
 have hb2 := H2.out.2.2.1.blk.grew hg2b
 have hSc2 : (fun w' : World => w'.cell? ⟨ba, 2, none⟩ = some (.slice Ava na.vals.length cva) ∧ w'.cell? ⟨bn, 2, none⟩ = some (.slice (some ⟨gvn, 0, none⟩) nd.vals.length cvn) ∧ w'.cell? ⟨bb, 2, none⟩ = some (.slice Avb nb.vals.length cvb)) w2b := ⟨(hb2).cell 2, (H2.out.2.2.2.1.blk.grew hg2b).cell 2, (H2.out.2.2.2.2.1.1.grew hg2b).cell 2⟩
 obtain ⟨d9, f9, s9⟩ := hb2.facts
 have H2b := Lib.hid (And.intro ho2 hg2b)
 clear ho2 hg2b hb2
 refine hK.out _ _ (fun _ => hSc2) ?_
 clear hK K
 (try simp only [Act.put, lA, lB, lC, lD, lE, lF])
 refine wpAnyX_takeM [20] (i := 19) (v := ?_) rfl (by kernel_rfl) (by kernel_rfl) (by kernel_rfl) (by kernel_rfl) (by kernel_rfl) (by kernel_rfl) (fun _ _ _ h => h) (Or.inl ⟨by rfl, ?_⟩) hSc2 ?_
 rotate_left
 ·(intro w hSw; (try dsimp only at hSw); go_simp) <;> with_reducible rfl
 (try simp only [Act.put, lA, lB, lC, lD, lE, lF])
 refine wpAnyX_take (i := 20) (v := ?_) rfl (by kernel_rfl) (by kernel_rfl) (by kernel_rfl) (by kernel_rfl) (fun _ _ _ h => h) (Or.inl ⟨by rfl, ?_⟩) hSc2 ?_
 rotate_left
 ·(intro w hSw; (try dsimp only at hSw); go_simp) <;> with_reducible rfl
 (try simp only [Act.put, lA, lB, lC, lD, lE, lF])
 refine rdX (i := 21) (by kernel_rfl) rfl fun K hK => ?_
 go_simp
 obtain ⟨W2c, hW2c⟩ : ∃ W, w2b.setCell ⟨ba, 2, none⟩ (.slice A2 (na.vals.length + (1 + nb.vals.length)) c2) = W := ⟨_, rfl⟩
 rw [hW2c]
 have hs2 := HS1.out.aV H2.out.2.1 H2b.out.2 (l' := iv na.vals ++ (iv [v] ++ iv nb.vals)) (by rw [show (iv na.vals ++ (iv [v] ++ iv nb.vals)).length = na.vals.length + (1 + nb.vals.length) from by simp [iv]; omega]; exact H2b.out.1) hW2c H2.out.2.2.2.2.2
 refine hK.out _ _ (fun h => by cases h) ?_
 clear hK K
 (try simp only [Act.put, lA, lB, lC, lD, lE, lF])
 refine wpAnyX_done (by kernel_rfl) ?_ _
 have HS2 := Lib.hid hs2
 clear hHeld hS2 hSb2 hSc2 d9 f9 s9 hW2c hs2 HB02
 have hB03 := HB.out.chg HS2.out.ch (fun j hj e => e.elim (fun e => H.out.1.d13 j e hj) fun e => H.out.1.d23 j e hj)
 have hS3 : (fun w' : World => w'.cell? ⟨ba, 3, none⟩ = some (.slice Aca na.kids.length cca) ∧ w'.cell? ⟨bb, 3, none⟩ = some (.slice Acb nb.kids.length ccb)) W2c.drew := ⟨(HS2.out.a.blk.drew).cell 3, (hB03.1.drew).cell 3⟩
 have HB03 := Lib.hid hB03
 clear hB03
 go_wp2_with fail
 refine wp_region_x [13] (S := fun w' => w'.cell? ⟨ba, 3, none⟩ = some (.slice Aca na.kids.length cca) ∧ w'.cell? ⟨bb, 3, none⟩ = some (.slice Acb nb.kids.length ccb)) (by kernel_rfl) hS3 (fun hHeld => ?_)
 refine Todo.out (is := [0, 1, 2, 3, 4, 5, 6, 7, 8]) ?_
 repeat
  refine tkX (v := ?_) rfl (by kernel_rfl) (by kernel_rfl) (by kernel_rfl) (by kernel_rfl) (fun _ _ _ h => h) (Or.inl ⟨by rfl, ?_⟩) hHeld ?_
  rotate_left
  ·(intro w hSw; (try dsimp only at hSw); go_simp) <;> with_reducible rfl
  (try simp only [Act.put, lA, lB, lC, lD, lE, lF])
 refine Todo.fin ?_
 refine rdX (i := 9) (by kernel_rfl) rfl fun K hK => ?_
 go_simp
 obtain ⟨W3, hW3⟩ : ∃ W, (W2c.alloc (.cells #[.slice Aca na.kids.length cca, .slice Acb nb.kids.length ccb] 22)).drew = W := ⟨_, rfl⟩
 rw [hW3]
 have hg3 : Grew W2c W3 := hW3 ▸ ((Chg.refl NoF W2c).alloc _).drew
 have hl3 : Blk W3 W2c.heap.size 22 #[.slice Aca na.kids.length cca, .slice Acb nb.kids.length ccb] := hW3 ▸ (Blk.new W2c _ _).drew
 have hB3 := HB03.out.chg hg3 fun _ _ => id
 have hN3 := HS2.out.n.chg hg3 fun _ _ => id
 have hA3 := HS2.out.a.chg hg3 fun _ _ => id
 have ra3 := hA3.rc
 rw [nv_len] at ra3
 have hcat3 := cat2 hl3 (Sl.of_own ra3) hB3.2.2.2.1 (nv_one _) (nv_one _) (by omega) rfl
 have hSb3 : (fun w' : World => w'.cell? ⟨ba, 3, none⟩ = some (.slice Aca na.kids.length cca) ∧ w'.cell? ⟨bb, 3, none⟩ = some (.slice Acb nb.kids.length ccb)) W3 := ⟨(hA3.blk).cell 3, (hB3.1).cell 3⟩
 have hp3 : 1 ≤ W3.heap.size := by have := tab_pos HS2.out.mg.bt.gp.tab; have := hg3.size; omega
 have H3 := Lib.hid (And.intro hcat3 (And.intro hg3 (And.intro hA3 (And.intro hN3 (And.intro hB3 hp3)))))
 clear hcat3 hg3 hA3 hN3 hB3 hp3 hl3 hW3 ra3
 refine hK.out _ _ (fun _ => hSb3) ?_
 clear hK K
 (try simp only [Act.put, lA, lB, lC, lD, lE, lF])
 refine rdX (i := 10) (by kernel_rfl) rfl fun K hK => ?_
 go_simp
 refine H3.out.1.mono ?_
 rintro e w3b ⟨A3, c3, rfl, ho3, hg3b⟩
 have hb3 := H3.out.2.2.1.blk.grew hg3b
 have hSc3 : (fun w' : World => w'.cell? ⟨ba, 3, none⟩ = some (.slice Aca na.kids.length cca) ∧ w'.cell? ⟨bb, 3, none⟩ = some (.slice Acb nb.kids.length ccb)) w3b := ⟨(hb3).cell 3, (H3.out.2.2.2.2.1.1.grew hg3b).cell 3⟩
 obtain ⟨d9, f9, s9⟩ := hb3.facts
 have H3b := Lib.hid (And.intro ho3 hg3b)
 clear ho3 hg3b hb3
 refine hK.out _ _ (fun _ => hSc3) ?_
 clear hK K
 (try simp only [Act.put, lA, lB, lC, lD, lE, lF])
 refine wpAnyX_takeM [12] (i := 11) (v := ?_) rfl (by kernel_rfl) (by kernel_rfl) (by kernel_rfl) (by kernel_rfl) (by kernel_rfl) (by kernel_rfl) (fun _ _ _ h => h) (Or.inl ⟨by rfl, ?_⟩) hSc3 ?_
 rotate_left
 ·(intro w hSw; (try dsimp only at hSw); go_simp) <;> with_reducible rfl
 (try simp only [Act.put, lA, lB, lC, lD, lE, lF])
 refine wpAnyX_take (i := 12) (v := ?_) rfl (by kernel_rfl) (by kernel_rfl) (by kernel_rfl) (by kernel_rfl) (fun _ _ _ h => h) (Or.inl ⟨by rfl, ?_⟩) hSc3 ?_
 rotate_left
 ·(intro w hSw; (try dsimp only at hSw); go_simp) <;> with_reducible rfl
 (try simp only [Act.put, lA, lB, lC, lD, lE, lF])
 refine rdX (i := 13) (by kernel_rfl) rfl fun K hK => ?_
 go_simp
 obtain ⟨W3c, hW3c⟩ : ∃ W, w3b.setCell ⟨ba, 3, none⟩ (.slice A3 (na.kids.length + nb.kids.length) c3) = W := ⟨_, rfl⟩
 rw [hW3c]
 have hs3 := HS2.out.aC H3.out.2.1 H3b.out.2 (l' := nv na.kids ++ nv nb.kids) (by rw [show (nv na.kids ++ nv nb.kids).length = na.kids.length + nb.kids.length from by simp [nv]]; exact H3b.out.1) hW3c H3.out.2.2.2.2.2
 refine hK.out _ _ (fun h => by cases h) ?_
 clear hK K
 (try simp only [Act.put, lA, lB, lC, lD, lE, lF])
 refine wpAnyX_done (by kernel_rfl) ?_ _
 have HS3 := Lib.hid hs3
 clear hHeld hS3 hSb3 hSc3 d9 f9 s9 hW3c hs3 HB03
 have hS4 : (fun w' : World => w'.cell? ⟨bn, 1, none⟩ = some (.slice (some ⟨gkn, 0, none⟩) nd.keys.length ckn) ∧ w'.cell? ⟨bn, 2, none⟩ = some (.slice (some ⟨gvn, 0, none⟩) nd.vals.length cvn)) W3c.drew := ⟨HS3.out.n.blk.drew.cell 1, HS3.out.n.blk.drew.cell 2⟩
 have hi4 : (i : Int) + 1 = ((i + 1 : Nat) : Int) := by omega
 have hN4 := HS3.out.n.chg ((Chg.refl NoF W3c).drew) fun _ _ => id
 have rk4 := hN4.rk
 rw [iv_len] at rk4
 have hd4 := bdelete_any 1 _ nd.keys i W3c.drew rk4 (by omega)
 rw [← hi4] at hd4
 have H4 := Lib.hid (And.intro hd4 hN4)
 clear hd4 hN4 rk4 hi4
 go_wp2_with fail
 refine wp_region_x [1, 10, 11, 12, 14, 15, 16, 20, 21, 22, 23] (S := fun w' => w'.cell? ⟨bn, 1, none⟩ = some (.slice (some ⟨gkn, 0, none⟩) nd.keys.length ckn) ∧ w'.cell? ⟨bn, 2, none⟩ = some (.slice (some ⟨gvn, 0, none⟩) nd.vals.length cvn)) (by kernel_rfl) hS4 (fun hHeld => ?_)
 refine Todo.out (is := [1, 10, 11, 12, 14, 15, 16]) ?_
 repeat
  refine tkP (v := ?_) rfl (by kernel_rfl) (by kernel_rfl) (by kernel_rfl) (by rfl) (fun _ _ _ h => h) (Or.inl ⟨by rfl, ?_⟩) ?_
  rotate_left
  ·(intro w hSw; go_simp) <;> with_reducible rfl
  (try simp only [Act.put, lA, lB, lC, lD, lE, lF])
 refine Todo.fin ?_
 refine wpAnyX_mono (X' := [20, 21, 22, 23]) (fun i hi => by simp at hi ⊢; omega) _ _ _ _ ?_
 refine Todo.out (is := [0, 2, 3, 4, 5, 6, 7, 8, 13]) ?_
 repeat
  refine tkX (v := ?_) rfl (by kernel_rfl) (by kernel_rfl) (by kernel_rfl) (by kernel_rfl) (fun _ _ _ h => h) (Or.inl ⟨by rfl, ?_⟩) hHeld ?_
  rotate_left
  ·(intro w hSw; (try dsimp only at hSw); go_simp) <;> with_reducible rfl
  (try simp only [Act.put, lA, lB, lC, lD, lE, lF])
 refine Todo.fin ?_
 refine rdX (i := 9) (by kernel_rfl) rfl fun K hK => ?_
 go_simp
 refine H4.out.1.mono ?_
 rintro e w5 ⟨A5, c5, rfl, ho5, ha5⟩
 have hne5 := H4.out.2.ne
 have hb5 := H4.out.2.blk.chg ha5.chg hne5.1
 have lk5 : (nd.keys.eraseIdx i).length = nd.keys.length - 1 := List.length_eraseIdx_of_lt (by omega)
 have lv5 : (nd.vals.eraseIdx i).length = nd.vals.length - 1 := List.length_eraseIdx_of_lt (by omega)
 have hr5 := H4.out.2.rws.setK ha5 (l' := iv (nd.keys.eraseIdx i)) (by rw [iv_len, lk5]; exact ho5)
 have rv5 := hr5.rv
 rw [iv_len] at rv5
 have hd5 := bdelete_any 1 _ nd.vals i w5 rv5 (by omega)
 rw [show ((i + 1 : Nat) : Int) = (i : Int) + 1 from by omega] at hd5
 have hS5 : (fun w' : World => w'.cell? ⟨bn, 1, none⟩ = some (.slice (some ⟨gkn, 0, none⟩) nd.keys.length ckn) ∧ w'.cell? ⟨bn, 2, none⟩ = some (.slice (some ⟨gvn, 0, none⟩) nd.vals.length cvn)) w5 := ⟨hb5.cell 1, hb5.cell 2⟩
 have H5 := Lib.hid (And.intro hd5 (And.intro hr5 (And.intro hb5 (And.intro ha5 (And.intro hne5 (And.intro lk5 lv5))))))
 clear hd5 hr5 hb5 ha5 hne5 lk5 lv5 rv5 ho5
 refine hK.out _ _ (fun _ => hS5) ?_
 clear hK K
 (try simp only [Act.put, lA, lB, lC, lD, lE, lF])
 refine rdX (i := 17) (by kernel_rfl) rfl fun K hK => ?_
 go_simp
 refine H5.out.1.mono ?_
 rintro e w6 ⟨A6, c6, rfl, ho6, ha6⟩
 have hb6 := H5.out.2.2.1.chg ha6.chg H5.out.2.2.2.2.1.2.1
 have hr6 := H5.out.2.1.setV ha6 (l' := iv (nd.vals.eraseIdx i)) (by rw [iv_len, H5.out.2.2.2.2.2.2]; exact ho6)
 have hS6 : (fun w' : World => w'.cell? ⟨bn, 1, none⟩ = some (.slice (some ⟨gkn, 0, none⟩) nd.keys.length ckn) ∧ w'.cell? ⟨bn, 2, none⟩ = some (.slice (some ⟨gvn, 0, none⟩) nd.vals.length cvn)) w6 := ⟨hb6.cell 1, hb6.cell 2⟩
 obtain ⟨d9, f9, s9⟩ := hb6.facts
 have H6 := Lib.hid (And.intro hr6 (And.intro hb6 ha6))
 clear hr6 hb6 ha6 ho6
 refine hK.out _ _ (fun _ => hS6) ?_
 clear hK K
 (try simp only [Act.put, lA, lB, lC, lD, lE, lF])
 refine rdX (i := 18) (by kernel_rfl) rfl fun K hK => ?_
 go_simp
 refine hK.out _ _ (fun _ => hS6) ?_
 clear hK K
 (try simp only [Act.put, lA, lB, lC, lD, lE, lF])
 refine rdX (i := 19) (by kernel_rfl) rfl fun K hK => ?_
 go_simp
 refine hK.out _ _ (fun _ => hS6) ?_
 clear hK K
 (try simp only [Act.put, lA, lB, lC, lD, lE, lF])
 refine rdX (i := 20) (by kernel_rfl) rfl fun K hK => ?_
 go_simp
 obtain ⟨W7, hW7⟩ : ∃ W, w6.setCell ⟨bn, 1, none⟩ (.slice A5 (nd.keys.length - 1) c5) = W := ⟨_, rfl⟩
 rw [hW7]
 have hb7 := H6.out.2.1.put 1 (.slice A5 (nd.keys.length - 1) c5)
 rw [hW7] at hb7
 have hc7 : Chg (fun j => j = bn) w6 W7 := hW7 ▸ (Chg.refl (fun j => j = bn) w6).setCell (p := ⟨bn, 1, none⟩) (fun _ => rfl) _
 clear d9 f9 s9 hW7
 obtain ⟨d9, f9, s9⟩ := hb7.facts
 refine hK.out _ _ (fun h => by cases h) ?_
 clear hK K
 (try simp only [Act.put, lA, lB, lC, lD, lE, lF])
 refine rdX (i := 21) (by kernel_rfl) rfl fun K hK => ?_
 go_simp
 refine hK.out _ _ (fun h => by cases h) ?_
 clear hK K
 (try simp only [Act.put, lA, lB, lC, lD, lE, lF])
 refine rdX (i := 22) (by kernel_rfl) rfl fun K hK => ?_
 go_simp
 refine hK.out _ _ (fun h => by cases h) ?_
 clear hK K
 (try simp only [Act.put, lA, lB, lC, lD, lE, lF])
 refine rdX (i := 23) (by kernel_rfl) rfl fun K hK => ?_
 go_simp
 obtain ⟨W8, hW8⟩ : ∃ W, W7.setCell ⟨bn, 2, none⟩ (.slice A6 (nd.vals.length - 1) c6) = W := ⟨_, rfl⟩
 rw [hW8]
 have hb8 := hb7.put 2 (.slice A6 (nd.vals.length - 1) c6)
 rw [hW8] at hb8
 have hc8 : Chg (fun j => j = bn) w6 W8 := Chg.trans hc7 (hW8 ▸ (Chg.refl (fun j => j = bn) W7).setCell (p := ⟨bn, 2, none⟩) (fun _ => rfl) _) fun _ _ e => e
 refine hK.out _ _ (fun h => by cases h) ?_
 clear hK K
 (try simp only [Act.put, lA, lB, lC, lD, lE, lF])
 refine wpAnyX_done (by kernel_rfl) ?_ _
 have hb8' : Blk W8 bn 73 #[.int .i64 qn, .slice A5 (nd.keys.length - 1) c5, .slice A6 (nd.vals.length - 1) c6, .slice (some ⟨gcn, 0, none⟩) nd.kids.length ccn] := by simpa using hb8
 have hr8 := H6.out.1
 have hbn6 := H6.out.2.1
 have hn8 := (hr8.chg hc8 (fun g hg e => own_blk_ne hr8.rk hbn6 (by decide) (by rw [hg, e])) (fun g hg e => own_blk_ne hr8.rv hbn6 (by decide) (by rw [hg, e])) (fun g hg e => own_blk_ne hr8.rc hbn6 (by decide) (by rw [hg, e]))).ndv hb8' (.inl (.inl HS3.out.n.nb))
 have z45 : W3c.heap.size ≤ w5.heap.size := H5.out.2.2.2.1.chg.size
 have hc38 : Chg N1 W3c W8 := Chg.trans (Chg.trans (Chg.trans ((Chg.refl N1 W3c).drew) H5.out.2.2.2.1.chg fun j _ e => H4.out.2.nk j e) H6.out.2.2.chg fun j _ e => H4.out.2.nv j e) hc8 fun j _ e => by subst e; exact HS3.out.n.nb
 have hs8 := HS3.out.nset hc38 hn8 (fun j hj => by
  rcases hj with (e | e) | e
  ·exact .inl e
  ·exact (H5.out.2.2.2.1.at_ j e).imp (H4.out.2.nk j) id
  ·exact (H6.out.2.2.at_ j e).imp (H4.out.2.nv j) fun e => by omega)
 obtain ⟨N8, hN8⟩ : ∃ N : Nat → Prop, (fun j => (N1 j ∨ (Value.slice A5 (nd.keys.length - 1) c5).ownBlock = some j) ∨ (Value.slice A6 (nd.vals.length - 1) c6).ownBlock = some j) = N := ⟨_, rfl⟩
 rw [hN8] at hs8
 have HS8 := Lib.hid hs8
 clear hHeld hS4 hS5 hS6 d9 f9 s9 hb7 hc7 hb8 hc8 hW8 hb8' hr8 hbn6 hn8 z45 hc38 hs8 hN8 H4 H5 H6
 have hlc9 : (nd.kids.map Int.ofNat).length = nd.kids.length := by simp
 have rc9 := HS8.out.n.rc
 rw [nv_len] at rc9
 rw [nv_ivm] at rc9
 have hd9 := bdelete_any 1 _ (nd.kids.map Int.ofNat) (i + 1) W8 (by rw [hlc9]; exact rc9) (by have := HVL.out.2.2; omega)
 rw [show ((i + 1 : Nat) : Int) = (i : Int) + 1 from by omega, show ((i + 1 + 1 : Nat) : Int) = (i : Int) + 2 from by omega] at hd9
 have lc9 : (nd.kids.eraseIdx (i + 1)).length = nd.kids.length - 1 := List.length_eraseIdx_of_lt (by have := HVL.out.2.2; omega)
 have H9 := Lib.hid (And.intro hd9 (And.intro hlc9 lc9))
 have hi2 : IntKind.i64.wrap ((i : Int) + 2) = (i : Int) + 2 := by rw [IntWalk.i64_in _ ⟨by omega, by omega⟩]
 obtain ⟨d9, f9, s9⟩ := HS8.out.n.blk.facts
 clear hd9 hlc9 rc9 lc9
 go_wp2_with fail
 refine H9.out.1.mono ?_
 rintro e w9 ⟨A9, c9, rfl, ho9, ha9⟩
 rw [H9.out.2.1] at ho9 ha9
 have hb9 := HS8.out.n.blk.chg ha9.chg HS8.out.n.ne.2.2
 clear d9 f9 s9
 obtain ⟨d9, f9, s9⟩ := hb9.facts
 obtain ⟨W10, hW10⟩ : ∃ W, w9.setCell ⟨bn, 3, none⟩ (.slice A9 (nd.kids.length - 1) c9) = W := ⟨_, rfl⟩
 have hn10 := NdV.setC (W2 := W10) (l' := nv (nd.kids.eraseIdx (i + 1))) HS8.out.n ha9 (by rw [nv_len, H9.out.2.2, nv_ivm, map_eraseN]; exact ho9) hW10
 have hc10 : Chg N8 W8 W10 := Chg.trans (ha9.chg.mono fun j _ e => HS8.out.n.nc j e) (hW10 ▸ (Chg.refl (fun j => j = bn) w9).setCell (p := ⟨bn, 3, none⟩) (fun _ => rfl) _) fun j _ e => by subst e; exact HS8.out.n.nb
 have hs10 := HS8.out.nset hc10 hn10 (fun j hj => by
  rcases hj with e | e
  ·exact .inl e
  ·exact (ha9.at_ j e).imp (HS8.out.n.nc j) id)
 obtain ⟨N10, hN10⟩ : ∃ N : Nat → Prop, (fun j => N8 j ∨ (Value.slice A9 (nd.kids.length - 1) c9).ownBlock = some j) = N := ⟨_, rfl⟩
 rw [hN10] at hs10
 have HS10 := Lib.hid hs10
 have H10 := Lib.hid hW10
 have HC9 := Lib.hid H9.out.2.1
 clear hb9 hW10 hn10 hc10 hs10 hN10 ho9 ha9 HS8 H9
 rw [HC9.out]
 have hbb10 := HB.out.chg HS10.out.ch (fun j hj e => e.elim (fun e => H.out.1.d13 j e hj) fun e => H.out.1.d23 j e hj)
 have hS10 : (fun w' : World => w'.cell? ⟨t, 0, none⟩ = some (.pointer (some ⟨p, 0, none⟩)) ∧ w'.cell? ⟨bb, 0, none⟩ = some (.int .i64 q2)) W10.drew := ⟨HS10.out.mg.bt.blk.drew.cell 0, hbb10.1.drew.cell 0⟩
 have hbt10 := HS10.out.mg.bt.grew ((Chg.refl NoF W10).drew)
 have hfr := gp_free_any p F x W10.drew q2 p2 hbt10.gp H.out.2.1 H.out.2.2.2.2.2.2.2.2.2.2.2.2.1 H.out.2.2.2.2.2.2.2.2.2.2.2.2.2.1
 have H11 := Lib.hid (And.intro hfr (And.intro hbt10 hbb10.1))
 clear hfr hbt10 hbb10
 go_wp2_with fail
 rw [H10.out]
 clear d9 f9 s9
 refine wp_region_held_drew (S := fun w' => w'.cell? ⟨t, 0, none⟩ = some (.pointer (some ⟨p, 0, none⟩)) ∧ w'.cell? ⟨bb, 0, none⟩ = some (.int .i64 q2)) (by kernel_rfl) hS10 (fun hHeld => ?_)
 refine Todo.out (is := [0, 1, 2, 3, 4, 5, 6, 7]) ?_
 repeat
  refine tkH (v := ?_) rfl (by kernel_rfl) (by kernel_rfl) (by kernel_rfl) (fun _ _ _ h => h) (Or.inl ⟨by rfl, ?_⟩) hHeld ?_
  rotate_left
  ·(intro w hSw; (try dsimp only at hSw); go_simp) <;> with_reducible rfl
  (try simp only [Act.put, lA, lB, lC, lD, lE, lF])
 refine Todo.fin ?_
 refine rdH (i := 8) (by kernel_rfl) rfl fun K hK => ?_
 go_simp
 refine H11.out.1.mono ?_
 rintro e w11 (⟨rfl, hto⟩ | ⟨hns, rfl, hg11⟩)
 rotate_left
 ·have hS11 : (fun w' : World => w'.cell? ⟨t, 0, none⟩ = some (.pointer (some ⟨p, 0, none⟩)) ∧ w'.cell? ⟨bb, 0, none⟩ = some (.int .i64 q2)) w11 := ⟨(H11.out.2.1.blk.grew hg11).cell 0, (H11.out.2.2.drew.grew hg11).cell 0⟩
  have hout : FullG (fun j => F j ∨ N1 j ∨ N2 j) w w11 t p root F x 0 := ⟨x, F, H11.out.2.1.grew hg11, ((HS10.out.ch.mono fun j _ e => .inr e).drew).grew hg11, fun j e => .inl e, Rp.like.refl x, by omega, fun e => by have := e.1; omega⟩
  have HO := Lib.hid hout
  clear hout hg11 hns
  refine hK.out _ _ hS11 (fun _ => ?_)
  clear hK K
  (try simp only [Act.put, lA, lB, lC, lD, lE, lF])
  refine rdH (i := 9) (by kernel_rfl) rfl fun K hK => ?_
  go_simp
  refine hK.out _ _ hS11 (fun _ => ?_)
  clear hK K
  (try simp only [Act.put, lA, lB, lC, lD, lE, lF])
  refine wpAnyH_done (by kernel_rfl) ?_ _
  clear hHeld hS10 hS11
  go_wp2_with fail
  go_ret
  exact .inr ⟨rfl, HO.out⟩
 obtain ⟨F1, hb11, hc11, hF11⟩ := H11.out.2.1.to hto
 have hS11 : (fun w' : World => w'.cell? ⟨t, 0, none⟩ = some (.pointer (some ⟨p, 0, none⟩)) ∧ w'.cell? ⟨bb, 0, none⟩ = some (.int .i64 q2)) w11 := ⟨hb11.blk.cell 0, (H11.out.2.2.drew.chg hc11 fun e => HS10.out.mg.d3F bb HB.out.2.2.2.2.1 e).cell 0⟩
 have hc11' : Chg F W10 w11 := Chg.trans ((Chg.refl F W10).drew) hc11 fun _ _ e => e
 have hn11 := HS10.out.n.chg hc11' fun j hj => (HS10.out.mg.d1F j hj).1
 have ha11 := HS10.out.a.chg hc11' fun j hj => (HS10.out.mg.d2F j hj).1
 have hcw : Chg (fun j => F j ∨ N1 j ∨ N2 j) w w11 := Chg.trans (HS10.out.ch.mono fun j _ e => .inr e) hc11' fun j _ e => .inl e
 have z10 := HS10.out.ch.size
 have hF1w : ∀ j, F1 j → F j ∨ w.heap.size ≤ j := fun j hj => (hF11 j hj).imp id fun e => by simp at e; omega
 have hd1 : ∀ j, N10 j → ¬ F1 j := fun j hj e => (hF11 j e).elim (HS10.out.mg.d1F j hj).1 fun e => by have := (HS10.out.mg.d1F j hj).2.2.2; simp at e; omega
 obtain ⟨NA, hNA⟩ : ∃ N : Nat → Prop, (fun j => ((N2 j ∨ (Value.slice A1 (na.keys.length + (1 + nb.keys.length)) c1).ownBlock = some j) ∨ (Value.slice A2 (na.vals.length + (1 + nb.vals.length)) c2).ownBlock = some j) ∨ (Value.slice A3 (na.kids.length + nb.kids.length) c3).ownBlock = some j) = N := ⟨_, rfl⟩
 rw [hNA] at ha11
 have hd2 : ∀ j, NA j → ¬ F1 j := fun j hj e => by
  subst hNA
  exact (hF11 j e).elim (HS10.out.mg.d2F j hj).1 fun e => by have := (HS10.out.mg.d2F j hj).2.2.2; simp at e; omega
 have hNw : ∀ j, NA j → N2 j ∨ w.heap.size ≤ j := fun j hj => by subst hNA; exact HS10.out.n2 j hj
 have eA : iv na.keys ++ (iv [k] ++ iv nb.keys) = iv (na.one nb k v).keys ∧ iv na.vals ++ (iv [v] ++ iv nb.vals) = iv (na.one nb k v).vals ∧ nv na.kids ++ nv nb.kids = nv (na.one nb k v).kids := ⟨by simp [Nd.one, iv], by simp [Nd.one, iv], by simp [Nd.one, nv]⟩
 rw [eA.1, eA.2.1, eA.2.2] at ha11
 have hno : NdOwn w11 N10 bn qn ⟨nd.keys.eraseIdx i, nd.vals.eraseIdx i, nd.kids.eraseIdx (i + 1)⟩ := NdV.own (nd := ⟨nd.keys.eraseIdx i, nd.vals.eraseIdx i, nd.kids.eraseIdx (i + 1)⟩) hn11
 have HF := Lib.hid (And.intro hb11 (And.intro hno (And.intro ha11 (And.intro hcw (And.intro hF1w (And.intro hd1 (And.intro hd2 hNw)))))))
 have hdf := Nd.del_fit H.out.2.2.2.2.2.1 hil HVL.out.2.2
 have hsz4 : x.sz ≤ 4096 := H.out.1.bt.gp.szs.2.2.2.1
 have HD := Lib.hid (And.intro hdf hsz4)
 obtain ⟨m, hm⟩ : ∃ m, nd.keys.length - 1 = m := ⟨_, rfl⟩
 have hbl := hn11.blk
 have hblt := hb11.blk
 have hbla := ha11.blk
 rw [hm] at hbl
 have Hm := Lib.hid hm
 refine hK.out _ _ hS11 (fun _ => ?_)
 clear hK K
 (try simp only [Act.put, lA, lB, lC, lD, lE, lF])
 refine rdH (i := 9) (by kernel_rfl) rfl fun K hK => ?_
 go_simp
 refine hK.out _ _ hS11 (fun _ => ?_)
 clear hK K
 (try simp only [Act.put, lA, lB, lC, lD, lE, lF])
 refine wpAnyH_done (by kernel_rfl) ?_ _
 clear hHeld hS10 hS11 hto hc11 hF11 hc11' hn11 ha11 hcw z10 hF1w hd1 hNA hd2 hNw eA hno hdf hsz4 hm hb11
 obtain ⟨d9, f9, s9⟩ := hbl.facts
 obtain ⟨t9, tf9, ts9⟩ := hblt.facts
 obtain ⟨a9, af9, as9⟩ := hbla.facts
 have HBA := Lib.hid hbla
 have HBT := Lib.hid hblt
 clear hbl hblt hbla
 have HX := Lib.hid H.out.2.2.2.2.2.2.2.2
 by_cases hlast : qn = root ∧ m = 0
 rotate_left
 ·have hl : ¬ (qn = root ∧ nd.keys.length = 1) := fun e => hlast ⟨e.1, by have := Hm.out; omega⟩
  have HL := Lib.hid hl
  clear hl
  have hor : (((qn : Int) == (root : Int)) = true ∧ ((m : Int) == 0) = false ∧ decide (m = 0) = false) ∨ ((qn : Int) == (root : Int)) = false := by
   by_cases e : qn = root
   ·have e2 : ¬ m = 0 := fun e2 => hlast ⟨e, e2⟩
    exact .inl ⟨by simp [e], by simp; omega, by simpa using e2⟩
   ·exact .inr (by simp; omega)
  clear hlast
  rcases hor with ⟨t1, t2, t3⟩ | t1
  ·go_wp2_with fail
   go_quiet (fail)
   go_wp2_with fail
   obtain ⟨W12, hW12⟩ : ∃ W, (w11.drewN nq).alloc (.cells #[.pointer (some ⟨ba, 0, none⟩), .pointer (some ⟨bn, 0, none⟩)] 69) = W := ⟨_, rfl⟩
   rw [hW12]
   have hg12 : Grew w11 W12 := hW12 ▸ ((Chg.refl NoF w11).drewN nq).alloc _
   have hl12 : Blk W12 w11.heap.size 69 #[.pointer (some ⟨ba, 0, none⟩), .pointer (some ⟨bn, 0, none⟩)] := hW12 ▸ Blk.new (w11.drewN nq) _ _
   have hal := merge_all (w := w) (W := W12) (g := w11.heap.size) (c := 2) (G := fun j => F j ∨ N1 j ∨ N2 j) (F := F) (N2 := N2) (last := qn = root ∧ nd.keys.length = 1) (HF.out.1.grew hg12) H.out.2.1 HX.out.1 HX.out.2.1 HX.out.2.2.1 HX.out.2.2.2.1 HX.out.2.2.2.2.1 HX.out.2.2.2.2.2.1 HX.out.2.2.2.2.2.2.1 HX.out.2.2.2.2.2.2.2.1 HX.out.2.2.2.2.2.2.2.2
    ((NdV.own HF.out.2.2.1).grew hg12) (HF.out.2.1.grew hg12) H.out.2.2.2.2.2.2.2.1 HD.out.1 HF.out.2.2.2.2.2.1 HF.out.2.2.2.2.2.2.1
    ⟨rfl, fun _ => ⟨w11.heap.size, 0, rfl, hl12.lt, fun j u hu => by rw [Nat.zero_add, hl12.cell, ← hu]; simp⟩⟩ (fun e => by have := HF.out.1.gp.lt _ e; omega) (HF.out.2.2.2.1.grew hg12) HF.out.2.2.2.2.1 (fun j e => .inl e) HF.out.2.2.2.2.2.2.2 HD.out.2 HL.out
   clear d9 f9 s9 t9 tf9 ts9 a9 af9 as9 hg12 hl12 hW12
   have HE := Lib.hid hal
   clear hal
   refine HE.out.mono ?_
   rintro e w' (⟨rfl, hr⟩ | ⟨rfl, hr⟩)
   ·have HO := Lib.hid hr
    clear hr
    go_wp2_with fail
    go_ret
    exact .inl ⟨rfl, HO.out⟩
   ·have HO := Lib.hid hr
    clear hr
    go_wp2_with fail
    go_ret
    exact .inr ⟨rfl, HO.out⟩
  ·go_wp2_with fail
   go_quiet (fail)
   go_wp2_with fail
   obtain ⟨W12, hW12⟩ : ∃ W, (w11.drewN nq).alloc (.cells #[.pointer (some ⟨ba, 0, none⟩), .pointer (some ⟨bn, 0, none⟩)] 69) = W := ⟨_, rfl⟩
   rw [hW12]
   have hg12 : Grew w11 W12 := hW12 ▸ ((Chg.refl NoF w11).drewN nq).alloc _
   have hl12 : Blk W12 w11.heap.size 69 #[.pointer (some ⟨ba, 0, none⟩), .pointer (some ⟨bn, 0, none⟩)] := hW12 ▸ Blk.new (w11.drewN nq) _ _
   have hal := merge_all (w := w) (W := W12) (g := w11.heap.size) (c := 2) (G := fun j => F j ∨ N1 j ∨ N2 j) (F := F) (N2 := N2) (last := qn = root ∧ nd.keys.length = 1) (HF.out.1.grew hg12) H.out.2.1 HX.out.1 HX.out.2.1 HX.out.2.2.1 HX.out.2.2.2.1 HX.out.2.2.2.2.1 HX.out.2.2.2.2.2.1 HX.out.2.2.2.2.2.2.1 HX.out.2.2.2.2.2.2.2.1 HX.out.2.2.2.2.2.2.2.2
    ((NdV.own HF.out.2.2.1).grew hg12) (HF.out.2.1.grew hg12) H.out.2.2.2.2.2.2.2.1 HD.out.1 HF.out.2.2.2.2.2.1 HF.out.2.2.2.2.2.2.1
    ⟨rfl, fun _ => ⟨w11.heap.size, 0, rfl, hl12.lt, fun j u hu => by rw [Nat.zero_add, hl12.cell, ← hu]; simp⟩⟩ (fun e => by have := HF.out.1.gp.lt _ e; omega) (HF.out.2.2.2.1.grew hg12) HF.out.2.2.2.2.1 (fun j e => .inl e) HF.out.2.2.2.2.2.2.2 HD.out.2 HL.out
   clear d9 f9 s9 t9 tf9 ts9 a9 af9 as9 hg12 hl12 hW12
   have HE := Lib.hid hal
   clear hal
   refine HE.out.mono ?_
   rintro e w' (⟨rfl, hr⟩ | ⟨rfl, hr⟩)
   ·have HO := Lib.hid hr
    clear hr
    go_wp2_with fail
    go_ret
    exact .inl ⟨rfl, HO.out⟩
   ·have HO := Lib.hid hr
    clear hr
    go_wp2_with fail
    go_ret
    exact .inr ⟨rfl, HO.out⟩
 ·obtain ⟨e1, rfl⟩ := hlast
  have t1 : ((qn : Int) == (root : Int)) = true := by simp [e1]
  have hl : qn = root ∧ nd.keys.length = 1 := ⟨e1, by have := Hm.out; omega⟩
  have HL := Lib.hid hl
  clear hl e1
  have hbat := HS10.out.mg.d2F _ HS10.out.a.nb
  have n1 : ¬ t = ba := fun e => hbat.2.1 e.symm
  have n2 : ¬ ba = t := hbat.2.1
  clear hbat
  go_wp2_with fail
  go_quiet (fail)
  go_wp2_with fail
  obtain ⟨W12, hW12⟩ : ∃ W, (w11.drewN nq).setCell ⟨ba, 0, none⟩ (.int .i64 root) = W := ⟨_, rfl⟩
  rw [hW12]
  have hg12 : Grew w11 (w11.drewN nq) := (Chg.refl NoF w11).drewN nq
  have hap := (HF.out.2.2.1.chg hg12 fun _ _ => id).page hW12
  have hFba : ¬ F1 ba := HF.out.2.2.2.2.2.2.1 ba HF.out.2.2.1.nb
  have hbt12 := (HF.out.1.grew hg12).chg hap.2 (fun j hj e => hFba (e ▸ hj)) (fun e => by have := (HS10.out.mg.d2F _ HS10.out.a.nb).2.2.1; omega) (fun e => n1 e)
  have hc12 : Chg (fun j => F j ∨ N1 j ∨ N2 j) w W12 := Chg.trans (HF.out.2.2.2.1.grew hg12) hap.2 fun j hj e => by
   subst e
   exact .inr (.inr ((HF.out.2.2.2.2.2.2.2 _ HF.out.2.2.1.nb).resolve_right (by omega)))
  have hk1 := Rp.put_keep (c := .no) HX.out.2.2.1 HX.out.2.2.2.2.2.2.1
  have hfr := gp_free_any p F1 (x.put q2 .no) W12 q1 p1 hbt12.gp H.out.2.1 hk1 HX.out.2.2.2.1
  have H12 := Lib.hid (And.intro hfr (And.intro hap.1 (And.intro hbt12 hc12)))
  clear hfr hap hFba hbt12 hc12 hk1 hg12 d9 f9 s9 t9 tf9 ts9 a9 af9 as9
  go_wp2_with fail
  refine H12.out.1.mono ?_
  rintro e w13 (⟨rfl, hto⟩ | ⟨hns, rfl, hg13⟩)
  rotate_left
  ·have hout : FullG (fun j => F j ∨ N1 j ∨ N2 j) w w13 t p root F x 0 := ⟨x.put q2 .no, F1, H12.out.2.2.1.grew hg13, H12.out.2.2.2.grew hg13, HF.out.2.2.2.2.1, x.put_like _ _, by have := Rp.put_usedF HX.out.2.2.2.2.1 HX.out.2.2.2.2.2.1; omega, fun e => by have := e.1; omega⟩
   have HO := Lib.hid hout
   clear hout hg13 hns
   go_wp2_with fail
   go_ret
   exact .inr ⟨rfl, HO.out⟩
  obtain ⟨F2, hb13, hc13, hF13⟩ := H12.out.2.2.1.to hto
  have hl1 := H12.out.2.1.lt
  have hF1l := H12.out.2.2.1.gp.lt
  have hsv := merge_save (w := w) (W := w13) (G := fun j => F j ∨ N1 j ∨ N2 j) (F := F) (N2 := N2) (qn := qn) (nd' := ⟨nd.keys.eraseIdx i, nd.vals.eraseIdx i, nd.kids.eraseIdx (i + 1)⟩) (last := qn = root ∧ nd.keys.length = 1) hb13 H.out.2.1 (HL.out.1 ▸ HX.out.1) HX.out.2.1 HX.out.2.2.1 HX.out.2.2.2.1 HX.out.2.2.2.2.1 HX.out.2.2.2.2.2.1 HX.out.2.2.2.2.2.2.1 (HL.out.1 ▸ HX.out.2.2.2.2.2.2.2.1) (HL.out.1 ▸ HX.out.2.2.2.2.2.2.2.2)
   (NdV.own (H12.out.2.1.chg hc13 HF.out.2.2.2.2.2.2.1)) H.out.2.2.2.2.2.2.2.1 (fun j hj e => (hF13 j e).elim (HF.out.2.2.2.2.2.2.1 j hj) fun e => by have := hl1 j hj; omega)
   (Chg.trans H12.out.2.2.2 hc13 fun j hj e => .inl ((HF.out.2.2.2.2.1 j e).resolve_right (by omega))) (fun j hj => (hF13 j hj).elim (HF.out.2.2.2.2.1 j) fun e => .inr (by have := H12.out.2.2.2.size; omega)) (fun j e => .inl e) HF.out.2.2.2.2.2.2.2 HD.out.2 HL.out
  have HE := Lib.hid hsv
  clear hsv hto hb13 hc13 hF13 hl1 hF1l
  go_wp2_with fail
  refine HE.out.mono ?_
  rintro e w' (⟨rfl, hr⟩ | ⟨rfl, hr⟩)
  ·have HO := Lib.hid hr
   clear hr
   go_wp2_with fail
   go_ret
   exact .inl ⟨rfl, HO.out⟩
  ·have HO := Lib.hid hr
   clear hr
   go_wp2_with fail
   go_ret
   exact .inr ⟨rfl, HO.out⟩
end Go.Proofs.YtpkkcicaeldodaaGreatDoor

namespace Go.Proofs.YtpkkcicaeldodaaGreatDoor
open Go.RowKit Go.Maps

structure Z3 (w W : World) (t p root : Nat) (F : Nat → Prop) (x : Rp) (N1 N2 N3 M2 : Nat → Prop) : Prop where
 bt : BT W t p root F x
 d12 : ∀ j, N1 j → ¬ M2 j
 d13 : ∀ j, N1 j → ¬ N3 j
 d23 : ∀ j, M2 j → ¬ N3 j
 f1 : ∀ j, N1 j → ¬ F j ∧ j ≠ t ∧ j ≠ 0 ∧ j < w.heap.size
 f2 : ∀ j, M2 j → ¬ F j ∧ j ≠ t ∧ j ≠ 0 ∧ j < W.heap.size
 f3 : ∀ j, N3 j → ¬ F j ∧ j ≠ t ∧ j ≠ 0 ∧ j < w.heap.size
 ch : Chg (fun j => N1 j ∨ N2 j ∨ N3 j) w W
 n2 : ∀ j, M2 j → N2 j ∨ w.heap.size ≤ j
section
variable {w W W' : World} {t p root : Nat} {F N1 N2 N3 M2 M2' G : Nat → Prop} {x : Rp}
theorem Z3.turn (z : Z3 w W t p root F x N1 N2 N3 M2) (hc : Chg G W W') (hG : ∀ j, G j → N1 j ∨ M2 j ∨ N3 j) (h2 : ∀ j, M2' j → M2 j ∨ (W.heap.size ≤ j ∧ j < W'.heap.size)) : Z3 w W' t p root F x N1 N2 N3 M2' := by
 have hF := z.bt.gp.lt
 have ht := z.bt.blk.lt
 have hp := tab_pos z.bt.gp.tab
 have hz := hc.size
 have hz0 := z.ch.size
 have e : ∀ j, G j → ¬ F j ∧ j ≠ t ∧ j ≠ 0 := fun j hj => by
  rcases hG j hj with e | e | e
  ·exact ⟨(z.f1 j e).1, (z.f1 j e).2.1, (z.f1 j e).2.2.1⟩
  ·exact ⟨(z.f2 j e).1, (z.f2 j e).2.1, (z.f2 j e).2.2.1⟩
  ·exact ⟨(z.f3 j e).1, (z.f3 j e).2.1, (z.f3 j e).2.2.1⟩
 refine ⟨z.bt.chg hc (fun j hj g => (e j g).1 hj) (fun g => (e 0 g).2.2 rfl) (fun g => (e t g).2.1 rfl), fun j hj g => ?_, z.d13, fun j hj g => ?_, z.f1, fun j hj => ?_, z.f3, Chg.trans z.ch hc fun j hj g => ?_, fun j hj => ?_⟩
 ·rcases h2 j g with e | e
  ·exact z.d12 j hj e
  ·have := (z.f1 j hj).2.2.2; omega
 ·rcases h2 j hj with e | e
  ·exact z.d23 j e g
  ·have := (z.f3 j g).2.2.2; omega
 ·rcases h2 j hj with e | e
  ·obtain ⟨a, b, c, d⟩ := z.f2 j e; exact ⟨a, b, c, by omega⟩
  ·exact ⟨fun f => by have := hF j f; omega, by omega, by omega, e.2⟩
 ·rcases hG j g with e | e | e
  ·exact .inl e
  ·exact .inr (.inl ((z.n2 j e).resolve_right (by omega)))
  ·exact .inr (.inr e)
 ·rcases h2 j hj with e | e
  ·exact z.n2 j e
  ·exact .inr (by omega)
theorem Z3.same (z : Z3 w W t p root F x N1 N2 N3 M2) (hc : Chg G W W') (hG : ∀ j, G j → N1 j ∨ M2 j ∨ N3 j) : Z3 w W' t p root F x N1 N2 N3 M2 := z.turn hc hG fun _ h => .inl h
theorem Z3.grew (z : Z3 w W t p root F x N1 N2 N3 M2) (hc : Grew W W') : Z3 w W' t p root F x N1 N2 N3 M2 := z.same hc fun _ h => h.elim
end
theorem putAll_nd : ∀ (its : List SvIt) (x : Rp), (its.map (·.q)).Nodup → (∀ it ∈ its, it.nd.Fit x.sz ∧ it.q < x.now.length) → x.sz ≤ 4096 → (∀ it ∈ its, (putAll x its).nd it.q = some it.nd) ∧ ∀ i, i ∉ its.map (·.q) → (putAll x its).nd i = x.nd i
 | [], x, _, _, _ => ⟨fun _ h => (by cases h), fun _ _ => rfl⟩
 | it :: r, x, hn, hf, hz => by
  obtain ⟨h1, h2⟩ := List.nodup_cons.1 hn
  obtain ⟨g1, g2⟩ := putAll_nd r (x.put it.q (.new (ndL it.nd x.sz))) h2 (fun i hi => by
   have := hf i (List.mem_cons_of_mem _ hi)
   exact ⟨this.1, by rw [Rp.put_len]; exact this.2⟩) hz
  have f0 := hf it List.mem_cons_self
  refine ⟨fun i hi => ?_, fun i hi => ?_⟩
  ·rcases List.mem_cons.1 hi with rfl | e
   ·show (putAll (x.put i.q (.new (ndL i.nd x.sz))) r).nd i.q = _
    rw [g2 i.q h1]
    exact Rp.nd_new f0.1 f0.2 hz
   ·exact g1 i e
  ·simp only [List.map_cons, List.mem_cons, not_or] at hi
   show (putAll (x.put it.q (.new (ndL it.nd x.sz))) r).nd i = _
   rw [g2 i hi.2, Rp.nd_other hi.1]
theorem putAll_used : ∀ (its : List SvIt) (x : Rp), (∀ it ∈ its, ∃ c, x.now[it.q]? = some c ∧ c.used = true) → (putAll x its).now.countP Pk.used = x.now.countP Pk.used
 | [], _, _ => rfl
 | it :: r, x, h => by
  obtain ⟨c, h1, h2⟩ := h it List.mem_cons_self
  show (putAll (x.put it.q (.new (ndL it.nd x.sz))) r).now.countP Pk.used = _
  rw [putAll_used r _ fun i hi => by
   obtain ⟨c', h3, h4⟩ := h i (List.mem_cons_of_mem _ hi)
   exact Rp.put_same h3 h4 rfl, Rp.put_usedU h1 h2 rfl]
def FlOut (G : Nat → Prop) (w w' : World) (t p root bb qa qb qn : Nat) (F N2 : Nat → Prop) (x : Rp) (a' b' n' : Nd) (e : Ending) : Prop :=
 (e = .returned (.int .i64 0) ∧ ∃ y F' N', BT w' t p root F' y ∧ Chg G w w' ∧ (∀ j, F' j → F j ∨ w.heap.size ≤ j) ∧ NdOwn w' N' bb qb b' ∧ (∀ j, N' j → ¬ F' j) ∧ (∀ j, N' j → N2 j ∨ w.heap.size ≤ j) ∧ x.like y ∧
  y.nd qa = some a' ∧ y.nd qb = some b' ∧ y.nd qn = some n' ∧ (∀ i, i ≠ qa → i ≠ qb → i ≠ qn → y.nd i = x.nd i) ∧ y.now.countP Pk.used = x.now.countP Pk.used) ∨
 (e = .returned (.int .i64 21) ∧ FullG G w w' t p root F x 0)
theorem fl_end {w W : World} {t p root ba bb bn qa qb qn g c : Nat} {F N1 N2 N3 M2 G : Nat → Prop} {x : Rp} {a' b' n' : Nd} {its : List SvIt} (z : Z3 w W t p root F x N1 N2 N3 M2) (ho : x.was ≠ none)
  (ha : NdAt W N3 ba qa a') (hb : NdOwn W M2 bb qb b') (hn : NdAt W N1 bn qn n') (fa : a'.Fit x.sz) (fb : b'.Fit x.sz) (fn : n'.Fit x.sz)
  (ua : ∃ c, x.now[qa]? = some c ∧ c.used = true) (ub : ∃ c, x.now[qb]? = some c ∧ c.used = true) (un : ∃ c, x.now[qn]? = some c ∧ c.used = true) (eab : qa ≠ qb) (ean : qa ≠ qn) (ebn : qb ≠ qn)
  (hi : its = [⟨ba, N3, qa, a'⟩, ⟨bb, M2, qb, b'⟩, ⟨bn, N1, qn, n'⟩] ∨ its = [⟨bb, M2, qb, b'⟩, ⟨ba, N3, qa, a'⟩, ⟨bn, N1, qn, n'⟩])
  (hs : Sl W 1 (some ⟨g, 0, none⟩) 3 (pv its)) (hg : ¬ F g) (hG1 : ∀ j, N1 j ∨ N2 j ∨ N3 j → G j) (hGF : ∀ j, F j → G j) (hz : x.sz ≤ 4096) :
  Calls Tryz.prog 88 #[.pointer (some ⟨t, 0, none⟩), .slice (some ⟨g, 0, none⟩) 3 c] W fun e w' => FlOut G w w' t p root bb qa qb qn F N2 x a' b' n' e := by
 have hgW : g < W.heap.size := by obtain ⟨b, o, e, hb, -⟩ := hs.2 (by omega); cases e; exact hb
 have hmem : ∀ it ∈ its, it = ⟨ba, N3, qa, a'⟩ ∨ it = ⟨bb, M2, qb, b'⟩ ∨ it = ⟨bn, N1, qn, n'⟩ := fun it hit => by
  rcases hi with rfl | rfl
  all_goals
   simp only [List.mem_cons, List.not_mem_nil, or_false] at hit
   rcases hit with h | h | h <;> simp [h]
 have hin : ∀ it, (it = ⟨ba, N3, qa, a'⟩ ∨ it = ⟨bb, M2, qb, b'⟩ ∨ it = ⟨bn, N1, qn, n'⟩) → it ∈ its := fun it hit => by
  rcases hi with rfl | rfl
  all_goals
   simp only [List.mem_cons, List.not_mem_nil, or_false]
   rcases hit with h | h | h <;> simp [h]
 have hlen : its.length = 3 := by rcases hi with rfl | rfl <;> rfl
 have hq : (its.map (·.q)).Nodup := by
  rcases hi with rfl | rfl
  ·simp [eab, ean, ebn]
  ·simp [Ne.symm eab, ean, ebn]
 have hqs : ∀ i, i ∉ its.map (·.q) ↔ i ≠ qa ∧ i ≠ qb ∧ i ≠ qn := fun i => by
  rcases hi with rfl | rfl
  ·simp
  ·simp
   constructor
   ·rintro ⟨h1, h2, h3⟩; exact ⟨h2, h1, h3⟩
   ·rintro ⟨h1, h2, h3⟩; exact ⟨h2, h1, h3⟩
 have hus : ∀ it ∈ its, ∃ c, x.now[it.q]? = some c ∧ c.used = true := fun it hit => by
  rcases hmem it hit with rfl | rfl | rfl
  ·exact ua
  ·exact ub
  ·exact un
 have hfit : ∀ it ∈ its, it.nd.Fit x.sz ∧ it.q < x.now.length := fun it hit => by
  obtain ⟨c, h1, -⟩ := hus it hit
  refine ⟨?_, (List.getElem?_eq_some_iff.1 h1).1⟩
  rcases hmem it hit with rfl | rfl | rfl
  ·exact fa
  ·exact fb
  ·exact fn
 have hal := ball_any t p root g 3 c F x its W z.bt ho (fun it hit => by
  refine ⟨?_, (hfit it hit).1, hus it hit, ?_⟩
  ·rcases hmem it hit with rfl | rfl | rfl
   ·exact ha
   ·exact hb.at
   ·exact hn
  ·rcases hmem it hit with rfl | rfl | rfl
   ·exact fun j hj => (z.f3 j hj).1
   ·exact fun j hj => (z.f2 j hj).1
   ·exact fun j hj => (z.f1 j hj).1) hlen (by omega) hs hg hgW
 refine hal.mono ?_
 have hsz := z.ch.size
 have hblt := hb.at.lt
 rintro e w' (⟨rfl, F2, h1, h2, h3⟩ | ⟨rfl, y, ⟨F2, h1, h2, h3⟩, h4, h5, h6⟩)
 ·obtain ⟨g1, g2⟩ := putAll_nd its x hq hfit hz
  refine .inl ⟨rfl, _, F2, M2, h1, Chg.trans (z.ch.mono fun j _ e => hG1 j e) h2 fun j hj e => hGF j e, fun j hj => (h3 j hj).imp id fun e => by omega, hb.chg h2 fun j hj => (z.f2 j hj).1, fun j hj e => (h3 j e).elim (z.f2 j hj).1 fun e => by have := hblt j hj; omega, z.n2, putAll_like _ _, g1 _ (hin _ (.inl rfl)), g1 _ (hin _ (.inr (.inl rfl))), g1 _ (hin _ (.inr (.inr rfl))), fun i i1 i2 i3 => g2 i ((hqs i).2 ⟨i1, i2, i3⟩), putAll_used its x hus⟩
 ·exact .inr ⟨rfl, y, F2, h1, Chg.trans (z.ch.mono fun j _ e => hG1 j e) h2 fun j hj e => hGF j e, fun j hj => (h3 j hj).imp id fun e => by omega, h4, h5, h6⟩
structure FlB (w W : World) (t p root : Nat) (F : Nat → Prop) (x : Rp) (N1 N2 N3 M2 : Nat → Prop) (bb qb : Nat) (bk bv bc : Value) (lk lv lc : List Value) (bn qn : Nat) (uk uv uc : Value) (mk mv mc : List Value) : Prop where
 z : Z3 w W t p root F x N1 N2 N3 M2
 b : NdV W M2 bb qb bk bv bc lk lv lc
 n : NdV W N1 bn qn uk uv uc mk mv mc
section
variable {w W W' : World} {t p root bb qb bn qn : Nat} {F N1 N2 N3 M2 M2' : Nat → Prop} {x : Rp} {bk bv bc uk uv uc bk' bv' bc' uk' uv' uc' : Value} {lk lv lc mk mv mc lk' lv' lc' mk' mv' mc' : List Value}
theorem FlB.bset (s : FlB w W t p root F x N1 N2 N3 M2 bb qb bk bv bc lk lv lc bn qn uk uv uc mk mv mc) (hc : Chg M2 W W') (hb : NdV W' M2' bb qb bk' bv' bc' lk' lv' lc') (h2 : ∀ j, M2' j → M2 j ∨ W.heap.size ≤ j) :
  FlB w W' t p root F x N1 N2 N3 M2' bb qb bk' bv' bc' lk' lv' lc' bn qn uk uv uc mk mv mc :=
 ⟨s.z.turn hc (fun _ h => .inr (.inl h)) fun j hj => (h2 j hj).imp id fun e => ⟨e, hb.lt j hj⟩, hb, s.n.chg hc fun j hj e => s.z.d12 j hj e⟩
theorem FlB.nset (s : FlB w W t p root F x N1 N2 N3 M2 bb qb bk bv bc lk lv lc bn qn uk uv uc mk mv mc) (hc : Chg N1 W W') (hn : NdV W' N1 bn qn uk' uv' uc' mk' mv' mc') :
  FlB w W' t p root F x N1 N2 N3 M2 bb qb bk bv bc lk lv lc bn qn uk' uv' uc' mk' mv' mc' :=
 ⟨s.z.same hc fun _ h => .inl h, s.b.chg hc fun j hj e => s.z.d12 j e hj, hn⟩
theorem FlB.aset (s : FlB w W t p root F x N1 N2 N3 M2 bb qb bk bv bc lk lv lc bn qn uk uv uc mk mv mc) (hc : Chg N3 W W') :
  FlB w W' t p root F x N1 N2 N3 M2 bb qb bk bv bc lk lv lc bn qn uk uv uc mk mv mc :=
 ⟨s.z.same hc fun _ h => .inr (.inr h), s.b.chg hc fun j hj e => s.z.d23 j hj e, s.n.chg hc fun j hj e => s.z.d13 j hj e⟩
theorem NdV.kcell {N : Nat → Prop} {b q g c n : Nat} {A : Option Addr} {l : List Int} {vv vc : Value} {lv lc : List Value} (h : NdV W N b q (.slice A n c) vv vc (iv l) lv lc) (hn : l.length = n) (hA : A = some ⟨g, 0, none⟩) {j : Nat} {a : Int} (hj : l[j]? = some a) : W.cell? ⟨g, j, none⟩ = some (.int .i64 a) ∧ N g := by
 subst hA
 have r := h.rk
 rw [iv_len, hn] at r
 refine ⟨?_, h.nk g (own_blockOf r _ rfl)⟩
 obtain ⟨b', o, e, -, hx⟩ := (Sl.of_own r).2 (by have := (List.getElem?_eq_some_iff.1 hj).1; omega)
 cases e
 have := hx j (.int .i64 a) (by simp [iv, hj])
 rwa [Nat.zero_add] at this
theorem NdV.vcell {N : Nat → Prop} {b q g c n : Nat} {A : Option Addr} {l : List Int} {vk vc : Value} {lk lc : List Value} (h : NdV W N b q vk (.slice A n c) vc lk (iv l) lc) (hn : l.length = n) (hA : A = some ⟨g, 0, none⟩) {j : Nat} {a : Int} (hj : l[j]? = some a) : W.cell? ⟨g, j, none⟩ = some (.int .i64 a) ∧ N g := by
 subst hA
 have r := h.rv
 rw [iv_len, hn] at r
 refine ⟨?_, h.nv g (own_blockOf r _ rfl)⟩
 obtain ⟨b', o, e, -, hx⟩ := (Sl.of_own r).2 (by have := (List.getElem?_eq_some_iff.1 hj).1; omega)
 cases e
 have := hx j (.int .i64 a) (by simp [iv, hj])
 rwa [Nat.zero_add] at this
theorem NdV.ccell {N : Nat → Prop} {b q g c n : Nat} {A : Option Addr} {l : List Nat} {vk vv : Value} {lk lv : List Value} (h : NdV W N b q vk vv (.slice A n c) lk lv (Go.Proofs.YtpkkcicaeldodaaGreatDoor.nv l)) (hn : l.length = n) (hA : A = some ⟨g, 0, none⟩) {j : Nat} {a : Nat} (hj : l[j]? = some a) : W.cell? ⟨g, j, none⟩ = some (.int .i64 a) ∧ N g := by
 subst hA
 have r := h.rc
 rw [nv_len, hn] at r
 refine ⟨?_, h.nc g (own_blockOf r _ rfl)⟩
 obtain ⟨b', o, e, -, hx⟩ := (Sl.of_own r).2 (by have := (List.getElem?_eq_some_iff.1 hj).1; omega)
 cases e
 have := hx j (.int .i64 a) (by simp [Go.Proofs.YtpkkcicaeldodaaGreatDoor.nv, hj])
 rwa [Nat.zero_add] at this
theorem NdV.kset {N : Nat → Prop} {b q g c n : Nat} {l : List Int} {vv vc : Value} {lv lc : List Value} (h : NdV W N b q (.slice (some ⟨g, 0, none⟩) n c) vv vc (iv l) lv lc) (hn : l.length = n) {j : Nat} (hj : j < n) :
  W.frozen? ⟨g, j, none⟩ = false ∧ ∀ (a : Int) (W2 : World), W.setCell ⟨g, j, none⟩ (.int .i64 a) = W2 → NdV W2 N b q (.slice (some ⟨g, 0, none⟩) n c) vv vc (iv (l.set j a)) lv lc ∧ Chg (fun j => j = g) W W2 ∧ N g := by
 have r := h.rk
 rw [iv_len, hn] at r
 have hown := own_blockOf r _ rfl
 obtain ⟨e1, e2, e3⟩ := h.ne
 have hgN := h.nk g hown
 obtain ⟨cur, hb, hg, hnc, hcm, hcs, htake, hxl⟩ := own_row r
 have hB : Blk W g 3 cur := hg
 refine ⟨hB.frozen j, fun a W2 hW => ?_⟩
 have hc : Chg (fun j => j = g) W W2 := hW ▸ (Chg.refl (fun j => j = g) W).setCell (p := ⟨g, j, none⟩) (fun _ => rfl) _
 have r2 := own_set (u := .int .i64 a) r hj
 rw [hW, show (iv l).set j (.int .i64 a) = iv (l.set j a) by simp [iv, List.map_set]] at r2
 refine ⟨⟨h.blk.chg hc fun e => e1 (by rw [hown, e]), by rw [iv_len, List.length_set, hn]; exact r2, own_chg h.rv hc fun g' hg' e => h.kv g hown (by rw [← e]; exact hg'), own_chg h.rc hc fun g' hg' e => h.kc g hown (by rw [← e]; exact hg'), h.nb, h.nk, h.nv, h.nc, fun j hj => Nat.lt_of_lt_of_le (h.lt j hj) hc.size, h.kv, h.kc, h.vc_⟩, hc, hgN⟩
theorem NdV.vset {N : Nat → Prop} {b q g c n : Nat} {l : List Int} {vk vc : Value} {lk lc : List Value} (h : NdV W N b q vk (.slice (some ⟨g, 0, none⟩) n c) vc lk (iv l) lc) (hn : l.length = n) {j : Nat} (hj : j < n) :
  W.frozen? ⟨g, j, none⟩ = false ∧ ∀ (a : Int) (W2 : World), W.setCell ⟨g, j, none⟩ (.int .i64 a) = W2 → NdV W2 N b q vk (.slice (some ⟨g, 0, none⟩) n c) vc lk (iv (l.set j a)) lc ∧ Chg (fun j => j = g) W W2 ∧ N g := by
 have r := h.rv
 rw [iv_len, hn] at r
 have hown := own_blockOf r _ rfl
 obtain ⟨e1, e2, e3⟩ := h.ne
 have hgN := h.nv g hown
 obtain ⟨cur, hb, hg, hnc, hcm, hcs, htake, hxl⟩ := own_row r
 have hB : Blk W g 3 cur := hg
 refine ⟨hB.frozen j, fun a W2 hW => ?_⟩
 have hc : Chg (fun j => j = g) W W2 := hW ▸ (Chg.refl (fun j => j = g) W).setCell (p := ⟨g, j, none⟩) (fun _ => rfl) _
 have r2 := own_set (u := .int .i64 a) r hj
 rw [hW, show (iv l).set j (.int .i64 a) = iv (l.set j a) by simp [iv, List.map_set]] at r2
 refine ⟨⟨h.blk.chg hc fun e => e2 (by rw [hown, e]), own_chg h.rk hc fun g' hg' e => h.kv g' hg' (by rw [e]; exact hown), by rw [iv_len, List.length_set, hn]; exact r2, own_chg h.rc hc fun g' hg' e => h.vc_ g hown (by rw [← e]; exact hg'), h.nb, h.nk, h.nv, h.nc, fun j hj => Nat.lt_of_lt_of_le (h.lt j hj) hc.size, h.kv, h.kc, h.vc_⟩, hc, hgN⟩
theorem NdV.apart {N : Nat → Prop} {b q g1 g2 c1 c2 n1 n2 : Nat} {vc : Value} {lk lv lc : List Value} (h : NdV W N b q (.slice (some ⟨g1, 0, none⟩) n1 c1) (.slice (some ⟨g2, 0, none⟩) n2 c2) vc lk lv lc) : g1 ≠ g2 ∧ g1 ≠ b ∧ g2 ≠ b := by
 obtain ⟨e1, e2, -⟩ := h.ne
 exact ⟨fun e => h.kv g1 rfl (by rw [e]; rfl), fun e => e1 (by rw [e]; rfl), fun e => e2 (by rw [e]; rfl)⟩
theorem own_cut {w : World} {base n m c g : Nat} {l : List Int} (h : w.ownsRow base 3 1 (.slice (some ⟨g, 0, none⟩) n c) n (iv l)) (hm : m ≤ n) : w.ownsRow base 3 1 (.slice (some ⟨g, 0, none⟩) m c) m (iv (l.take m)) := by
 have := own_short h hm
 rw [Nat.mul_one, ← iv_take] at this
 exact this
theorem NdV.cut2 {N : Nat → Prop} {b q g1 g2 c1 c2 n m : Nat} {vc : Value} {lk lv : List Int} {lc : List Value} (h : NdV W N b q (.slice (some ⟨g1, 0, none⟩) n c1) (.slice (some ⟨g2, 0, none⟩) n c2) vc (iv lk) (iv lv) lc) (h1 : lk.length = n) (h2 : lv.length = n) (hm : m ≤ n)
  (hW : ((W.setCell ⟨b, 1, none⟩ (.slice (some ⟨g1, 0, none⟩) m c1)).setCell ⟨b, 2, none⟩ (.slice (some ⟨g2, 0, none⟩) m c2)).drew = W') : NdV W' N b q (.slice (some ⟨g1, 0, none⟩) m c1) (.slice (some ⟨g2, 0, none⟩) m c2) vc (iv (lk.take m)) (iv (lv.take m)) lc ∧ Chg (fun j => j = b) W W' := by
 have hc : Chg (fun j => j = b) W W' := hW ▸ (((Chg.refl (fun j => j = b) W).setCell (p := ⟨b, 1, none⟩) (fun _ => rfl) _).setCell (p := ⟨b, 2, none⟩) (fun _ => rfl) _).drew
 obtain ⟨e1, e2, e3⟩ := h.ne
 have r1 := h.rk
 rw [iv_len, h1] at r1
 have r2 := h.rv
 rw [iv_len, h2] at r2
 have l1 : (lk.take m).length = m := by rw [List.length_take]; omega
 have l2 : (lv.take m).length = m := by rw [List.length_take]; omega
 refine ⟨⟨?_, by rw [iv_len, l1]; exact own_cut (own_chg r1 hc fun g hg e => e1 (by rw [← e]; exact hg)) hm, by rw [iv_len, l2]; exact own_cut (own_chg r2 hc fun g hg e => e2 (by rw [← e]; exact hg)) hm, own_chg h.rc hc fun g hg e => e3 (by rw [← e]; exact hg), h.nb, h.nk, h.nv, h.nc, fun j hj => Nat.lt_of_lt_of_le (h.lt j hj) hc.size, h.kv, h.kc, h.vc_⟩, hc⟩
 subst hW
 have := ((h.blk.put 1 (.slice (some ⟨g1, 0, none⟩) m c1)).put 2 (.slice (some ⟨g2, 0, none⟩) m c2)).drew
 simpa using this
theorem NdV.cutC {N : Nat → Prop} {b q g c n m : Nat} {vk vv : Value} {lk lv : List Value} {l : List Nat} (h : NdV W N b q vk vv (.slice (some ⟨g, 0, none⟩) n c) lk lv (Go.Proofs.YtpkkcicaeldodaaGreatDoor.nv l)) (h1 : l.length = n) (hm : m ≤ n)
  (hW : W.setCell ⟨b, 3, none⟩ (.slice (some ⟨g, 0, none⟩) m c) = W') : NdV W' N b q vk vv (.slice (some ⟨g, 0, none⟩) m c) lk lv (Go.Proofs.YtpkkcicaeldodaaGreatDoor.nv (l.take m)) ∧ Chg (fun j => j = b) W W' := by
 have hc : Chg (fun j => j = b) W W' := hW ▸ (Chg.refl (fun j => j = b) W).setCell (p := ⟨b, 3, none⟩) (fun _ => rfl) _
 obtain ⟨e1, e2, e3⟩ := h.ne
 have r1 := h.rc
 rw [nv_len, h1] at r1
 rw [nv_ivm] at r1
 have l1 : (l.take m).length = m := by rw [List.length_take]; omega
 refine ⟨⟨?_, own_chg h.rk hc fun g hg e => e1 (by rw [← e]; exact hg), own_chg h.rv hc fun g hg e => e2 (by rw [← e]; exact hg), ?_, h.nb, h.nk, h.nv, h.nc, fun j hj => Nat.lt_of_lt_of_le (h.lt j hj) hc.size, h.kv, h.kc, h.vc_⟩, hc⟩
 ·subst hW
  have := h.blk.put 3 (.slice (some ⟨g, 0, none⟩) m c)
  simpa using this
 ·rw [nv_len, l1, nv_ivm, List.map_take]
  exact own_cut (own_chg r1 hc fun g hg e => e3 (by rw [← e]; exact hg)) hm
end
section
variable {sz : Nat} {nd : Nd} {k v : Int} {c : List Nat}
theorem Nd.cutL_fit (f : nd.Fit sz) (h : 1 ≤ nd.keys.length) : nd.cutL.Fit sz := by
 have hv := f.vals
 have hm := f.most
 refine ⟨by simp [Nd.cutL]; omega, by simp [Nd.cutL]; omega, ?_, fun k hk => f.ki k (List.mem_of_mem_take hk), fun k hk => f.vi k (List.mem_of_mem_take hk), fun k hk => f.ci k (List.mem_of_mem_take hk)⟩
 rcases f.kids with e | e
 ·left; simp [Nd.cutL, e]
 ·right; simp [Nd.cutL]; omega
theorem Nd.cutF_fit (f : nd.Fit sz) (h : 1 ≤ nd.keys.length) : nd.cutF.Fit sz := by
 have hv := f.vals
 have hm := f.most
 refine ⟨by simp [Nd.cutF]; omega, by simp [Nd.cutF]; omega, ?_, fun k hk => f.ki k (List.mem_of_mem_drop hk), fun k hk => f.vi k (List.mem_of_mem_drop hk), fun k hk => f.ci k (List.mem_of_mem_drop hk)⟩
 rcases f.kids with e | e
 ·left; simp [Nd.cutF, e]
 ·right; simp [Nd.cutF]; omega
theorem Nd.addF_fit (f : nd.Fit sz) (hm : nd.keys.length + 1 ≤ mostN sz) (hk : i64 k) (hv : i64 v) (hc : (nd.kids = [] ∧ c = []) ∨ (nd.kids.length = nd.keys.length + 1 ∧ c.length = 1)) (hci : ∀ q ∈ c, q < 65536) : (nd.addF k v c).Fit sz := by
 have hvl := f.vals
 refine ⟨by simp [Nd.addF, hvl], by simp [Nd.addF]; omega, ?_, fun a ha => ?_, fun a ha => ?_, fun a ha => ?_⟩
 ·rcases hc with ⟨e1, e2⟩ | ⟨e1, e2⟩
  ·left; simp [Nd.addF, e1, e2]
  ·right; simp [Nd.addF]; omega
 ·rcases List.mem_cons.1 ha with e | e
  ·exact e ▸ hk
  ·exact f.ki a e
 ·rcases List.mem_cons.1 ha with e | e
  ·exact e ▸ hv
  ·exact f.vi a e
 ·rcases List.mem_append.1 ha with e | e
  ·exact hci a e
  ·exact f.ci a e
theorem Nd.addL_fit (f : nd.Fit sz) (hm : nd.keys.length + 1 ≤ mostN sz) (hk : i64 k) (hv : i64 v) (hc : (nd.kids = [] ∧ c = []) ∨ (nd.kids.length = nd.keys.length + 1 ∧ c.length = 1)) (hci : ∀ q ∈ c, q < 65536) : (nd.addL k v c).Fit sz := by
 have hvl := f.vals
 refine ⟨by simp [Nd.addL, hvl], by simp [Nd.addL]; omega, ?_, fun a ha => ?_, fun a ha => ?_, fun a ha => ?_⟩
 ·rcases hc with ⟨e1, e2⟩ | ⟨e1, e2⟩
  ·left; simp [Nd.addL, e1, e2]
  ·right; simp [Nd.addL]; omega
 ·rcases List.mem_append.1 ha with e | e
  ·exact f.ki a e
  ·rw [List.mem_singleton] at e; exact e ▸ hk
 ·rcases List.mem_append.1 ha with e | e
  ·exact f.vi a e
  ·rw [List.mem_singleton] at e; exact e ▸ hv
 ·rcases List.mem_append.1 ha with e | e
  ·exact f.ci a e
  ·exact hci a e
theorem Nd.set_fit {j : Nat} (f : nd.Fit sz) (hk : i64 k) (hv : i64 v) : (⟨nd.keys.set j k, nd.vals.set j v, nd.kids⟩ : Nd).Fit sz := by
 refine ⟨by simp [f.vals], by simp; exact f.most, ?_, fun a ha => ?_, fun a ha => ?_, f.ci⟩
 ·rcases f.kids with e | e
  ·exact .inl e
  ·right; simp; exact e
 ·rcases List.mem_or_eq_of_mem_set ha with e | e
  ·exact f.ki a e
  ·exact e ▸ hk
 ·rcases List.mem_or_eq_of_mem_set ha with e | e
  ·exact f.vi a e
  ·exact e ▸ hv
end
theorem fl_fin {w W : World} {t p root ba bb bn qa qb qn : Nat} {F N1 N2 N3 M2 G : Nat → Prop} {x : Rp} {a' b' n' : Nd} {its : List SvIt} (z : Z3 w W t p root F x N1 N2 N3 M2) (ho : x.was ≠ none)
  (ha : NdAt W N3 ba qa a') (hb : NdOwn W M2 bb qb b') (hn : NdAt W N1 bn qn n') (fa : a'.Fit x.sz) (fb : b'.Fit x.sz) (fn : n'.Fit x.sz)
  (ua : ∃ c, x.now[qa]? = some c ∧ c.used = true) (ub : ∃ c, x.now[qb]? = some c ∧ c.used = true) (un : ∃ c, x.now[qn]? = some c ∧ c.used = true) (eab : qa ≠ qb) (ean : qa ≠ qn) (ebn : qb ≠ qn)
  (hi : its = [⟨ba, N3, qa, a'⟩, ⟨bb, M2, qb, b'⟩, ⟨bn, N1, qn, n'⟩] ∨ its = [⟨bb, M2, qb, b'⟩, ⟨ba, N3, qa, a'⟩, ⟨bn, N1, qn, n'⟩])
  (hG1 : ∀ j, N1 j ∨ N2 j ∨ N3 j → G j) (hGF : ∀ j, F j → G j) (hz : x.sz ≤ 4096) :
  Calls Tryz.prog 88 #[.pointer (some ⟨t, 0, none⟩), .slice (some ⟨W.heap.size, 0, none⟩) 3 3] (W.alloc (.cells (pv its).toArray 69)) fun e w' => FlOut G w w' t p root bb qa qb qn F N2 x a' b' n' e := by
 have hg : Grew W (W.alloc (.cells (pv its).toArray 69)) := (Chg.refl _ _).alloc _
 have hl : Blk (W.alloc (.cells (pv its).toArray 69)) W.heap.size 69 (pv its).toArray := Blk.new _ _ _
 have hlen : (pv its).length = 3 := by rcases hi with rfl | rfl <;> rfl
 exact fl_end (z.grew hg) ho (ha.grew hg) (hb.grew hg) (hn.grew hg) fa fb fn ua ub un eab ean ebn hi ⟨hlen, fun _ => ⟨W.heap.size, 0, rfl, hl.lt, fun j u hu => by rw [Nat.zero_add, hl.cell, ← hu]; simp⟩⟩ (fun e => by have := z.bt.gp.lt _ e; omega) hG1 hGF hz
end Go.Proofs.YtpkkcicaeldodaaGreatDoor

namespace Go.Proofs.YtpkkcicaeldodaaGreatDoor
open Go.RowKit Go.Maps

def FlR (w W : World) (t p root : Nat) (F : Nat → Prop) (x : Rp) (N1 N2 N3 : Nat → Prop) (bb qb kl vl : Nat) (lk lv : List Int) (vc : Value) (lc : List Value) (bn qn : Nat) (uk uv uc : Value) (mk mv mc : List Value) : Prop :=
 ∃ A c A' c' M2, FlB w W t p root F x N1 N2 N3 M2 bb qb (.slice A kl c) (.slice A' vl c') vc (iv lk) (iv lv) lc bn qn uk uv uc mk mv mc ∧ Chg N2 w W
set_option maxRecDepth 100000 in
set_option maxHeartbeats 6400000 in
theorem bfromL_any (t p root bn qn ba qa bb qb ii j ka l : Nat) (k v k1 v1 : Int) (F N1 N2 N3 : Nat → Prop) (x : Rp) (nd na nb : Nd) (w : World) (hz : Z3 w w t p root F x N1 N2 N3 N2) (ho : x.was ≠ none)
  (hn : NdOwn w N1 bn qn nd) (ha : NdOwn w N3 ba qa na) (hb : NdOwn w N2 bb qb nb) (hij : ii = j + 1) (hka : na.keys.length = ka) (hl : ka = l + 1) (hk : nd.keys[j]? = some k) (hv : nd.vals[j]? = some v) (hk1 : na.keys[l]? = some k1) (hv1 : na.vals[l]? = some v1)
  (fn : nd.Fit x.sz) (fa : na.Fit x.sz) (fb : nb.Fit x.sz) (hlf : na.kids.length = 0 ↔ nb.kids.length = 0) (hc : nd.kids.length = nd.keys.length + 1) (hm : nb.keys.length + 1 ≤ mostN x.sz)
  (ua : ∃ c, x.now[qa]? = some c ∧ c.used = true) (ub : ∃ c, x.now[qb]? = some c ∧ c.used = true) (un : ∃ c, x.now[qn]? = some c ∧ c.used = true) (eab : qa ≠ qb) (ean : qa ≠ qn) (ebn : qb ≠ qn) :
  Calls Tryz.prog 109 #[.pointer (some ⟨t, 0, none⟩), .pointer (some ⟨bn, 0, none⟩), .int .i64 ii, .pointer (some ⟨ba, 0, none⟩), .pointer (some ⟨bb, 0, none⟩)] w fun e w' => FlOut (fun j => F j ∨ N1 j ∨ N2 j ∨ N3 j) w w' t p root bb qa qb qn F N2 x na.cutL (nb.addF k v (na.kids.drop na.keys.length)) ⟨nd.keys.set j k1, nd.vals.set j v1, nd.kids⟩ e := by
 have hjl : j < nd.keys.length := (List.getElem?_eq_some_iff.1 hk).1
 have hjv : j < nd.vals.length := (List.getElem?_eq_some_iff.1 hv).1
 have hlv : l < na.vals.length := (List.getElem?_eq_some_iff.1 hv1).1
 have hsz := hz.bt.gp.szs
 have hm3 : mostN x.sz ≤ 300 := by unfold mostN; omega
 have l1 : nd.keys.length ≤ 300 := by have := fn.most; omega
 have l2 : na.keys.length ≤ 300 := by have := fa.most; omega
 have l3 : nb.keys.length ≤ 300 := by have := fb.most; omega
 have l4 : nb.vals.length ≤ 300 := by rw [fb.vals]; exact l3
 have l6 : ka ≤ 300 := by omega
 have l5 : nb.kids.length ≤ 301 := by rcases fb.kids with e | e <;> omega
 obtain ⟨vka, vva, vca, hA⟩ := ha.v
 obtain ⟨vkb, vvb, vcb, hB⟩ := hb.v
 obtain ⟨vkn, vvn, vcn, hN⟩ := hn.v
 have rka := hA.rk
 rw [iv_len, hka] at rka
 have rva := hA.rv
 rw [iv_len, fa.vals, hka] at rva
 have rca := hA.rc
 rw [nv_len] at rca
 have rkb := hB.rk
 rw [iv_len] at rkb
 have rvb := hB.rv
 rw [iv_len] at rvb
 have rcb := hB.rc
 rw [nv_len] at rcb
 have rkn := hN.rk
 rw [iv_len] at rkn
 have rvn := hN.rv
 rw [iv_len] at rvn
 have rcn := hN.rc
 rw [nv_len] at rcn
 obtain ⟨Aka, cka, rfl, gcka⟩ := own_shape rka
 obtain ⟨Ava, cva, rfl, gcva⟩ := own_shape rva
 obtain ⟨Aca, cca, rfl, gcca⟩ := own_shape rca
 obtain ⟨Akb, ckb, rfl, -⟩ := own_shape rkb
 obtain ⟨Avb, cvb, rfl, -⟩ := own_shape rvb
 obtain ⟨Acb, ccb, rfl, -⟩ := own_shape rcb
 obtain ⟨Akn, ckn, rfl, gckn⟩ := own_shape rkn
 obtain ⟨Avn, cvn, rfl, gcvn⟩ := own_shape rvn
 obtain ⟨Acn, ccn, rfl, gccn⟩ := own_shape rcn
 obtain ⟨gkn, rfl, -⟩ := own_block rkn (by omega)
 obtain ⟨gvn, rfl, -⟩ := own_block rvn (by omega)
 obtain ⟨gka, rfl, -⟩ := own_block rka (by omega)
 obtain ⟨gva, rfl, -⟩ := own_block rva (by omega)
 have HA := Lib.hid hA
 have HB := Lib.hid (FlB.mk hz hB hN)
 have HK := Lib.hid (And.intro hk (And.intro hv (And.intro hk1 (And.intro hv1 (And.intro hka fa.vals)))))
 have HX := Lib.hid (And.intro ho (And.intro fn (And.intro fa (And.intro fb (And.intro hlf (And.intro hc (And.intro hm (And.intro ua (And.intro ub (And.intro un (And.intro eab (And.intro ean (And.intro ebn hsz)))))))))))))
 have HR := Lib.hid (And.intro rka (And.intro rva rca))
 have i1 : IntKind.i64.wrap ((ii : Int) - 1) = (j : Int) := by rw [IntWalk.i64_in _ ⟨by omega, by omega⟩]; omega
 have i2 : IntKind.i64.wrap ((ka : Int) - 1) = (l : Int) := by rw [IntWalk.i64_in _ ⟨by omega, by omega⟩]; omega
 have i3 : (j : Int) < (nd.keys.length : Int) := by omega
 have i4 : (j : Int) < (nd.vals.length : Int) := by omega
 have i5 : (l : Int) < (ka : Int) := by omega
 have Hij := Lib.hid (And.intro hij hl)
 have hlk : l < ka := by omega
 have HL := Lib.hid (And.intro hjl (And.intro hjv (And.intro hlv hlk)))
 obtain ⟨d9, f9, s9⟩ := hA.blk.facts
 clear hz ho hn ha hb hij hka hk hv hk1 hv1 fn fa fb hlf hc hm ua ub un eab ean ebn hsz hm3 hA hB hN rka rva rca rkb rvb rcb rkn rvn rcn hl hjl hjv hlv l2
 go_enter Tryz.func109, Tryz.ntmps109
 have hSX : ∀ W, Chg N2 w W → Blk W bb 73 #[.int .i64 qb, .slice Akb nb.keys.length ckb, .slice Avb nb.vals.length cvb, .slice Acb nb.kids.length ccb] → (fun w' : World => w'.cell? ⟨bb, 1, none⟩ = some (.slice Akb nb.keys.length ckb) ∧ w'.cell? ⟨bb, 2, none⟩ = some (.slice Avb nb.vals.length cvb) ∧ w'.cell? ⟨bn, 1, none⟩ = some (.slice (some ⟨gkn, 0, none⟩) nd.keys.length ckn) ∧ w'.cell? ⟨bn, 2, none⟩ = some (.slice (some ⟨gvn, 0, none⟩) nd.vals.length cvn) ∧ w'.cell? ⟨gkn, j, none⟩ = some (.int .i64 k) ∧ w'.cell? ⟨gvn, j, none⟩ = some (.int .i64 v)) W := fun W hc hb => by
  have hn := HB.out.n.chg hc fun j hj e => HB.out.z.d12 j hj e
  exact ⟨hb.cell 1, hb.cell 2, hn.blk.cell 1, hn.blk.cell 2, (hn.kcell rfl rfl HK.out.1).1, (hn.vcell rfl rfl HK.out.2.1).1⟩
 have hS2 := hSX w.drew ((Chg.refl N2 w).drew) HB.out.b.blk.drew
 have HSX := Lib.hid hSX
 have hp1 : 1 ≤ w.heap.size := by have := tab_pos HB.out.z.bt.gp.tab; omega
 have HP := Lib.hid (And.intro hp1 HB.out.b.ne)
 clear hSX hp1
 go_wp2_with fail
 clear d9 f9 s9
 go_cut [11] (fun s11 wx => s11 = .int .i64 l ∧ FlR w wx t p root F x N1 N2 N3 bb qb (nb.keys.length + 1) (nb.vals.length + 1) (insI nb.keys 0 k) (insI nb.vals 0 v) (.slice Acb nb.kids.length ccb) (nv nb.kids) bn qn (.slice (some ⟨gkn, 0, none⟩) nd.keys.length ckn) (.slice (some ⟨gvn, 0, none⟩) nd.vals.length cvn) (.slice Acn nd.kids.length ccn) (iv nd.keys) (iv nd.vals) (nv nd.kids))
 case first =>
  refine wp_region_y [32, 35] (S := fun w' => w'.cell? ⟨bb, 1, none⟩ = some (.slice Akb nb.keys.length ckb) ∧ w'.cell? ⟨bb, 2, none⟩ = some (.slice Avb nb.vals.length cvb) ∧ w'.cell? ⟨bn, 1, none⟩ = some (.slice (some ⟨gkn, 0, none⟩) nd.keys.length ckn) ∧ w'.cell? ⟨bn, 2, none⟩ = some (.slice (some ⟨gvn, 0, none⟩) nd.vals.length cvn) ∧ w'.cell? ⟨gkn, j, none⟩ = some (.int .i64 k) ∧ w'.cell? ⟨gvn, j, none⟩ = some (.int .i64 v)) (by kernel_rfl) hS2 (fun hHeld => ?_)
  refine Todo.out (is := [0, 1, 2, 3, 4, 6, 7, 8, 10, 11, 16, 17, 18, 20, 21, 22, 24, 25]) ?_
  repeat
   refine tkQ (v := ?_) rfl (by kernel_rfl) (by kernel_rfl) (by kernel_rfl) (fun _ _ _ h => h) (Or.inl ⟨by rfl, ?_⟩) ?_
   rotate_left
   ·(intro w hSw; go_simp) <;> with_reducible rfl
   (try simp only [Act.put, lA, lB, lC, lD, lE, lF])
  refine Todo.fin ?_
  refine Todo.out (is := [5, 9, 19, 23]) ?_
  repeat
   refine tkY (v := ?_) rfl (by kernel_rfl) (by kernel_rfl) (by kernel_rfl) (by kernel_rfl) (fun _ _ _ h => h) (Or.inl ⟨by rfl, ?_⟩) hHeld ?_
   rotate_left
   ·(intro w hSw; (try dsimp only at hSw); go_simp) <;> with_reducible rfl
   (try simp only [Act.put, lA, lB, lC, lD, lE, lF])
  refine Todo.fin ?_
  refine Todo.out (is := [12, 26]) ?_
  repeat
   refine tkQ (v := ?_) rfl (by kernel_rfl) (by kernel_rfl) (by kernel_rfl) (fun _ _ _ h => h) (Or.inl ⟨by rfl, ?_⟩) ?_
   rotate_left
   ·(intro w hSw; go_simp) <;> with_reducible rfl
   (try simp only [Act.put, lA, lB, lC, lD, lE, lF])
  refine Todo.fin ?_
  refine Todo.out (is := [13, 27]) ?_
  repeat
   refine tkY (v := ?_) rfl (by kernel_rfl) (by kernel_rfl) (by kernel_rfl) (by kernel_rfl) (fun _ _ _ h => h) (Or.inl ⟨by rfl, ?_⟩) hHeld ?_
   rotate_left
   ·(intro w hSw; (try dsimp only at hSw); go_simp) <;> with_reducible rfl
   (try simp only [Act.put, lA, lB, lC, lD, lE, lF])
  refine Todo.fin ?_
  refine wpAnyY_ready (rs := [14, 28]) (by kernel_rfl) (by simp) ?_
  refine AllReadyY.cons rfl (fun K hK => ?_) (AllReadyY.cons rfl (fun K hK => ?_) AllReadyY.nil)
  ·go_simp
   obtain ⟨W6, hW6⟩ : ∃ W, (w.alloc (.cells #[.int .i64 k] 3)).drew = W := ⟨_, rfl⟩
   rw [hW6]
   have gW6 : Grew w W6 := hW6 ▸ ((Chg.refl NoF w).alloc _).drew
   have lW6 : Blk W6 w.heap.size 3 #[.int .i64 k] := hW6 ▸ (Blk.new w _ _).drew
   have hR6 := HB.out.b.rws.grew gW6
   have hB6 := HB.out.b.blk.grew gW6
   refine hK.out _ _ (fun _ _ => HSX.out W6 (gW6.chg) (hB6)) ?_
   clear hK K
   (try simp only [Act.put, lA, lB, lC, lD, lE, lF])
   refine wpAnyY_ready (rs := [15, 28]) (by kernel_rfl) (by simp) ?_
   refine AllReadyY.cons rfl (fun K hK => ?_) (AllReadyY.cons rfl (fun K hK => ?_) AllReadyY.nil)
   ·go_simp
    have hins := insK (i := 0) (a := k) hR6 (by omega) (Nat.zero_le _) lW6 (fun e => by have := HB.out.b.lt _ (HB.out.b.nk _ e); have := gW6.size; omega) (by have := HP.out.1; have := gW6.size; omega)
    rw [show ((0 : Nat) : Int) = 0 from rfl] at hins
    have HI := Lib.hid hins
    clear hins
    refine HI.out.mono ?_
    clear HI
    rintro e w7 ⟨A7, c7, rfl, hR7, ha7⟩
    have hB7 := hB6.chg ha7.chg HP.out.2.1
    have hC7 : Chg N2 w w7 := Grew.then gW6 (ha7.chg.mono fun j _ e => HB.out.b.nk j e)
    refine hK.out _ _ (fun _ _ => HSX.out w7 (hC7) (hB7)) ?_
    clear hK K
    (try simp only [Act.put, lA, lB, lC, lD, lE, lF])
    refine rdY (i := 28) (by kernel_rfl) rfl fun K hK => ?_
    go_simp
    obtain ⟨W8, hW8⟩ : ∃ W, w7.alloc (.cells #[.int .i64 v] 3) = W := ⟨_, rfl⟩
    rw [hW8]
    have gW8 : Grew w7 W8 := hW8 ▸ (Chg.refl NoF w7).alloc _
    have lW8 : Blk W8 w7.heap.size 3 #[.int .i64 v] := hW8 ▸ Blk.new w7 _ _
    have hR8 := hR7.grew gW8
    have hB8 := hB7.grew gW8
    refine hK.out _ _ (fun _ _ => HSX.out W8 (hC7.grew gW8) (hB8)) ?_
    clear hK K
    (try simp only [Act.put, lA, lB, lC, lD, lE, lF])
    refine rdY (i := 29) (by kernel_rfl) rfl fun K hK => ?_
    go_simp
    have hins := insV (i := 0) (a := v) hR8 (by omega) (Nat.zero_le _) lW8 (fun e => by have := hR7.lt _ (hR7.nv _ e); omega) (by have := HP.out.1; have := ha7.chg.size; have := gW6.size; have := gW8.size; omega)
    rw [show ((0 : Nat) : Int) = 0 from rfl] at hins
    have HI := Lib.hid hins
    clear hins
    refine HI.out.mono ?_
    clear HI
    rintro e w10 ⟨A10, c10, rfl, hR10, ha10⟩
    have hB10 := hB8.chg ha10.chg HP.out.2.2.1
    have hC10 : Chg N2 w w10 := Chg.trans (hC7.grew gW8) (ha10.chg.mono fun j _ e => HB.out.b.nv j e) fun _ _ e => e
    have hak := ha7
    have hav := ha10
    have z6 := gW6.size
    have z7 := ha7.chg.size
    have z8 := gW8.size
    have hN10 : ∀ j, ((N2 j ∨ (Value.slice A7 (nb.keys.length + 1) c7).ownBlock = some j) ∨ (Value.slice A10 (nb.vals.length + 1) c10).ownBlock = some j) → N2 j ∨ w.heap.size ≤ j := fun j hj => by
     rcases hj with (e | e) | e
     ·exact .inl e
     ·exact (hak.at_ j e).imp (HB.out.b.nk j) fun e => by omega
     ·exact (hav.at_ j e).imp (HB.out.b.nv j) fun e => by omega
    have hS10 := HSX.out w10 hC10 hB10
    obtain ⟨d9, f9, s9⟩ := hB10.facts
    refine hK.out _ _ (fun _ _ => hS10) ?_
    clear hK K
    (try simp only [Act.put, lA, lB, lC, lD, lE, lF])
    refine rdY (i := 30) (by kernel_rfl) rfl fun K hK => ?_
    go_simp
    refine hK.out _ _ (fun _ _ => hS10) ?_
    clear hK K
    (try simp only [Act.put, lA, lB, lC, lD, lE, lF])
    refine rdY (i := 31) (by kernel_rfl) rfl fun K hK => ?_
    go_simp
    refine hK.out _ _ (fun _ _ => hS10) ?_
    clear hK K
    (try simp only [Act.put, lA, lB, lC, lD, lE, lF])
    refine rdY (i := 32) (by kernel_rfl) rfl fun K hK => ?_
    go_simp
    obtain ⟨W11, hW11⟩ : ∃ W, w10.setCell ⟨bb, 1, none⟩ (.slice A7 (nb.keys.length + 1) c7) = W := ⟨_, rfl⟩
    rw [hW11]
    have hb11 : Blk W11 bb 73 #[.int .i64 qb, .slice A7 (nb.keys.length + 1) c7, .slice Avb nb.vals.length cvb, .slice Acb nb.kids.length ccb] := by
     have h9 := hB10.put 1 (.slice A7 (nb.keys.length + 1) c7)
     rw [hW11] at h9
     simpa using h9
    have hc11 : Chg (fun j => j = bb) w10 W11 := hW11 ▸ (Chg.refl (fun j => j = bb) w10).setCell (p := ⟨bb, 1, none⟩) (fun _ => rfl) _
    clear d9 f9 s9 hS10 hW11
    obtain ⟨d9, f9, s9⟩ := hb11.facts
    refine hK.out _ _ (fun h => by cases h) ?_
    clear hK K
    (try simp only [Act.put, lA, lB, lC, lD, lE, lF])
    refine rdY (i := 33) (by kernel_rfl) rfl fun K hK => ?_
    go_simp
    refine hK.out _ _ (fun _ h => h) ?_
    clear hK K
    (try simp only [Act.put, lA, lB, lC, lD, lE, lF])
    refine rdY (i := 34) (by kernel_rfl) rfl fun K hK => ?_
    go_simp
    refine hK.out _ _ (fun _ h => h) ?_
    clear hK K
    (try simp only [Act.put, lA, lB, lC, lD, lE, lF])
    refine rdY (i := 35) (by kernel_rfl) rfl fun K hK => ?_
    go_simp
    obtain ⟨W12, hW12⟩ : ∃ W, W11.setCell ⟨bb, 2, none⟩ (.slice A10 (nb.vals.length + 1) c10) = W := ⟨_, rfl⟩
    rw [hW12]
    have hb12 : Blk W12 bb 73 #[.int .i64 qb, .slice A7 (nb.keys.length + 1) c7, .slice A10 (nb.vals.length + 1) c10, .slice Acb nb.kids.length ccb] := by
     have h9 := hb11.put 2 (.slice A10 (nb.vals.length + 1) c10)
     rw [hW12] at h9
     simpa using h9
    have hc12 : Chg (fun j => j = bb) w10 W12 := Chg.trans hc11 (hW12 ▸ (Chg.refl (fun j => j = bb) W11).setCell (p := ⟨bb, 2, none⟩) (fun _ => rfl) _) fun _ _ e => e
    clear d9 f9 s9 hW12 hb11 hc11
    refine hK.out _ _ (fun h => by cases h) ?_
    clear hK K
    (try simp only [Act.put, lA, lB, lC, lD, lE, lF])
    refine wpAnyY_done (by kernel_rfl) ?_ _
    go_wp2
    go_meet
    refine ⟨rfl, A7, c7, A10, c10, _, HB.out.bset (M2' := fun j => (N2 j ∨ (Value.slice A7 (nb.keys.length + 1) c7).ownBlock = some j) ∨ (Value.slice A10 (nb.vals.length + 1) c10).ownBlock = some j) (Chg.trans hC10 hc12 fun j _ e => by subst e; exact HB.out.b.nb) ?_ hN10, Chg.trans hC10 hc12 fun j _ e => by subst e; exact HB.out.b.nb⟩
    have := (hR10.chg hc12 (fun g hg e => own_blk_ne hR10.rk hB10 (by decide) (by rw [hg, e])) (fun g hg e => own_blk_ne hR10.rv hB10 (by decide) (by rw [hg, e])) (fun g hg e => own_blk_ne hR10.rc hB10 (by decide) (by rw [hg, e]))).ndv hb12 (.inl (.inl HB.out.b.nb))
    exact this
   ·go_simp
    obtain ⟨W8, hW8⟩ : ∃ W, W6.alloc (.cells #[.int .i64 v] 3) = W := ⟨_, rfl⟩
    rw [hW8]
    have gW8 : Grew W6 W8 := hW8 ▸ (Chg.refl NoF W6).alloc _
    have lW8 : Blk W8 W6.heap.size 3 #[.int .i64 v] := hW8 ▸ Blk.new W6 _ _
    have hR8 := hR6.grew gW8
    have hB8 := hB6.grew gW8
    refine hK.out _ _ (fun _ _ => HSX.out W8 ((Grew.trans gW6 gW8).chg) (hB8)) ?_
    clear hK K
    (try simp only [Act.put, lA, lB, lC, lD, lE, lF])
    refine rdY (i := 15) (by kernel_rfl) rfl fun K hK => ?_
    go_simp
    have hins := insK (i := 0) (a := k) hR8 (by omega) (Nat.zero_le _) (lW6.grew gW8) (fun e => by have := HB.out.b.lt _ (HB.out.b.nk _ e); have := gW6.size; have := gW8.size; omega) (by have := HP.out.1; have := gW6.size; have := gW8.size; omega)
    rw [show ((0 : Nat) : Int) = 0 from rfl] at hins
    have HI := Lib.hid hins
    clear hins
    refine HI.out.mono ?_
    clear HI
    rintro e w9 ⟨A7, c7, rfl, hR9, ha9⟩
    have hB9 := hB8.chg ha9.chg HP.out.2.1
    have hl9 := lW8.chg ha9.chg fun e => by have := HB.out.b.lt _ (HB.out.b.nk _ e); have := gW6.size; omega
    have hC9 : Chg N2 w w9 := Grew.then (Grew.trans gW6 gW8) (ha9.chg.mono fun j _ e => HB.out.b.nk j e)
    refine hK.out _ _ (fun _ _ => HSX.out w9 (hC9) (hB9)) ?_
    clear hK K
    (try simp only [Act.put, lA, lB, lC, lD, lE, lF])
    refine rdY (i := 29) (by kernel_rfl) rfl fun K hK => ?_
    go_simp
    have hins := insV (i := 0) (a := v) hR9 (by omega) (Nat.zero_le _) hl9 (fun e => by have := HB.out.b.lt _ (HB.out.b.nv _ e); have := gW6.size; omega) (by have := HP.out.1; have := ha9.chg.size; have := gW6.size; have := gW8.size; omega)
    rw [show ((0 : Nat) : Int) = 0 from rfl] at hins
    have HI := Lib.hid hins
    clear hins
    refine HI.out.mono ?_
    clear HI
    rintro e w10 ⟨A10, c10, rfl, hR10, ha10⟩
    have hB10 := hB9.chg ha10.chg HP.out.2.2.1
    have hC10 : Chg N2 w w10 := Chg.trans hC9 (ha10.chg.mono fun j _ e => HB.out.b.nv j e) fun _ _ e => e
    have hak := ha9
    have hav := ha10
    have z6 := gW6.size
    have z7 := ha9.chg.size
    have z8 := gW8.size
    have hN10 : ∀ j, ((N2 j ∨ (Value.slice A7 (nb.keys.length + 1) c7).ownBlock = some j) ∨ (Value.slice A10 (nb.vals.length + 1) c10).ownBlock = some j) → N2 j ∨ w.heap.size ≤ j := fun j hj => by
     rcases hj with (e | e) | e
     ·exact .inl e
     ·exact (hak.at_ j e).imp (HB.out.b.nk j) fun e => by omega
     ·exact (hav.at_ j e).imp (HB.out.b.nv j) fun e => by omega
    have hS10 := HSX.out w10 hC10 hB10
    obtain ⟨d9, f9, s9⟩ := hB10.facts
    refine hK.out _ _ (fun _ _ => hS10) ?_
    clear hK K
    (try simp only [Act.put, lA, lB, lC, lD, lE, lF])
    refine rdY (i := 30) (by kernel_rfl) rfl fun K hK => ?_
    go_simp
    refine hK.out _ _ (fun _ _ => hS10) ?_
    clear hK K
    (try simp only [Act.put, lA, lB, lC, lD, lE, lF])
    refine rdY (i := 31) (by kernel_rfl) rfl fun K hK => ?_
    go_simp
    refine hK.out _ _ (fun _ _ => hS10) ?_
    clear hK K
    (try simp only [Act.put, lA, lB, lC, lD, lE, lF])
    refine rdY (i := 32) (by kernel_rfl) rfl fun K hK => ?_
    go_simp
    obtain ⟨W11, hW11⟩ : ∃ W, w10.setCell ⟨bb, 1, none⟩ (.slice A7 (nb.keys.length + 1) c7) = W := ⟨_, rfl⟩
    rw [hW11]
    have hb11 : Blk W11 bb 73 #[.int .i64 qb, .slice A7 (nb.keys.length + 1) c7, .slice Avb nb.vals.length cvb, .slice Acb nb.kids.length ccb] := by
     have h9 := hB10.put 1 (.slice A7 (nb.keys.length + 1) c7)
     rw [hW11] at h9
     simpa using h9
    have hc11 : Chg (fun j => j = bb) w10 W11 := hW11 ▸ (Chg.refl (fun j => j = bb) w10).setCell (p := ⟨bb, 1, none⟩) (fun _ => rfl) _
    clear d9 f9 s9 hS10 hW11
    obtain ⟨d9, f9, s9⟩ := hb11.facts
    refine hK.out _ _ (fun h => by cases h) ?_
    clear hK K
    (try simp only [Act.put, lA, lB, lC, lD, lE, lF])
    refine rdY (i := 33) (by kernel_rfl) rfl fun K hK => ?_
    go_simp
    refine hK.out _ _ (fun _ h => h) ?_
    clear hK K
    (try simp only [Act.put, lA, lB, lC, lD, lE, lF])
    refine rdY (i := 34) (by kernel_rfl) rfl fun K hK => ?_
    go_simp
    refine hK.out _ _ (fun _ h => h) ?_
    clear hK K
    (try simp only [Act.put, lA, lB, lC, lD, lE, lF])
    refine rdY (i := 35) (by kernel_rfl) rfl fun K hK => ?_
    go_simp
    obtain ⟨W12, hW12⟩ : ∃ W, W11.setCell ⟨bb, 2, none⟩ (.slice A10 (nb.vals.length + 1) c10) = W := ⟨_, rfl⟩
    rw [hW12]
    have hb12 : Blk W12 bb 73 #[.int .i64 qb, .slice A7 (nb.keys.length + 1) c7, .slice A10 (nb.vals.length + 1) c10, .slice Acb nb.kids.length ccb] := by
     have h9 := hb11.put 2 (.slice A10 (nb.vals.length + 1) c10)
     rw [hW12] at h9
     simpa using h9
    have hc12 : Chg (fun j => j = bb) w10 W12 := Chg.trans hc11 (hW12 ▸ (Chg.refl (fun j => j = bb) W11).setCell (p := ⟨bb, 2, none⟩) (fun _ => rfl) _) fun _ _ e => e
    clear d9 f9 s9 hW12 hb11 hc11
    refine hK.out _ _ (fun h => by cases h) ?_
    clear hK K
    (try simp only [Act.put, lA, lB, lC, lD, lE, lF])
    refine wpAnyY_done (by kernel_rfl) ?_ _
    go_wp2
    go_meet
    refine ⟨rfl, A7, c7, A10, c10, _, HB.out.bset (M2' := fun j => (N2 j ∨ (Value.slice A7 (nb.keys.length + 1) c7).ownBlock = some j) ∨ (Value.slice A10 (nb.vals.length + 1) c10).ownBlock = some j) (Chg.trans hC10 hc12 fun j _ e => by subst e; exact HB.out.b.nb) ?_ hN10, Chg.trans hC10 hc12 fun j _ e => by subst e; exact HB.out.b.nb⟩
    have := (hR10.chg hc12 (fun g hg e => own_blk_ne hR10.rk hB10 (by decide) (by rw [hg, e])) (fun g hg e => own_blk_ne hR10.rv hB10 (by decide) (by rw [hg, e])) (fun g hg e => own_blk_ne hR10.rc hB10 (by decide) (by rw [hg, e]))).ndv hb12 (.inl (.inl HB.out.b.nb))
    exact this
  ·go_simp
   obtain ⟨W6, hW6⟩ : ∃ W, (w.alloc (.cells #[.int .i64 v] 3)).drew = W := ⟨_, rfl⟩
   rw [hW6]
   have gW6 : Grew w W6 := hW6 ▸ ((Chg.refl NoF w).alloc _).drew
   have lW6 : Blk W6 w.heap.size 3 #[.int .i64 v] := hW6 ▸ (Blk.new w _ _).drew
   have hR6 := HB.out.b.rws.grew gW6
   have hB6 := HB.out.b.blk.grew gW6
   refine hK.out _ _ (fun _ _ => HSX.out W6 (gW6.chg) (hB6)) ?_
   clear hK K
   (try simp only [Act.put, lA, lB, lC, lD, lE, lF])
   refine rdY (i := 14) (by kernel_rfl) rfl fun K hK => ?_
   go_simp
   obtain ⟨W8, hW8⟩ : ∃ W, W6.alloc (.cells #[.int .i64 k] 3) = W := ⟨_, rfl⟩
   rw [hW8]
   have gW8 : Grew W6 W8 := hW8 ▸ (Chg.refl NoF W6).alloc _
   have lW8 : Blk W8 W6.heap.size 3 #[.int .i64 k] := hW8 ▸ Blk.new W6 _ _
   have hR8 := hR6.grew gW8
   have hB8 := hB6.grew gW8
   refine hK.out _ _ (fun _ _ => HSX.out W8 ((Grew.trans gW6 gW8).chg) (hB8)) ?_
   clear hK K
   (try simp only [Act.put, lA, lB, lC, lD, lE, lF])
   refine rdY (i := 15) (by kernel_rfl) rfl fun K hK => ?_
   go_simp
   have hins := insK (i := 0) (a := k) hR8 (by omega) (Nat.zero_le _) lW8 (fun e => by have := HB.out.b.lt _ (HB.out.b.nk _ e); have := gW6.size; have := gW8.size; omega) (by have := HP.out.1; have := gW6.size; have := gW8.size; omega)
   rw [show ((0 : Nat) : Int) = 0 from rfl] at hins
   have HI := Lib.hid hins
   clear hins
   refine HI.out.mono ?_
   clear HI
   rintro e w9 ⟨A7, c7, rfl, hR9, ha9⟩
   have hB9 := hB8.chg ha9.chg HP.out.2.1
   have hl9 := (lW6.grew gW8).chg ha9.chg fun e => by have := HB.out.b.lt _ (HB.out.b.nk _ e); omega
   have hC9 : Chg N2 w w9 := Grew.then (Grew.trans gW6 gW8) (ha9.chg.mono fun j _ e => HB.out.b.nk j e)
   refine hK.out _ _ (fun _ _ => HSX.out w9 (hC9) (hB9)) ?_
   clear hK K
   (try simp only [Act.put, lA, lB, lC, lD, lE, lF])
   refine rdY (i := 29) (by kernel_rfl) rfl fun K hK => ?_
   go_simp
   have hins := insV (i := 0) (a := v) hR9 (by omega) (Nat.zero_le _) hl9 (fun e => by have := HB.out.b.lt _ (HB.out.b.nv _ e); omega) (by have := HP.out.1; have := ha9.chg.size; have := gW6.size; have := gW8.size; omega)
   rw [show ((0 : Nat) : Int) = 0 from rfl] at hins
   have HI := Lib.hid hins
   clear hins
   refine HI.out.mono ?_
   clear HI
   rintro e w10 ⟨A10, c10, rfl, hR10, ha10⟩
   have hB10 := hB9.chg ha10.chg HP.out.2.2.1
   have hC10 : Chg N2 w w10 := Chg.trans hC9 (ha10.chg.mono fun j _ e => HB.out.b.nv j e) fun _ _ e => e
   have hak := ha9
   have hav := ha10
   have z6 := gW6.size
   have z7 := ha9.chg.size
   have z8 := gW8.size
   have hN10 : ∀ j, ((N2 j ∨ (Value.slice A7 (nb.keys.length + 1) c7).ownBlock = some j) ∨ (Value.slice A10 (nb.vals.length + 1) c10).ownBlock = some j) → N2 j ∨ w.heap.size ≤ j := fun j hj => by
    rcases hj with (e | e) | e
    ·exact .inl e
    ·exact (hak.at_ j e).imp (HB.out.b.nk j) fun e => by omega
    ·exact (hav.at_ j e).imp (HB.out.b.nv j) fun e => by omega
   have hS10 := HSX.out w10 hC10 hB10
   obtain ⟨d9, f9, s9⟩ := hB10.facts
   refine hK.out _ _ (fun _ _ => hS10) ?_
   clear hK K
   (try simp only [Act.put, lA, lB, lC, lD, lE, lF])
   refine rdY (i := 30) (by kernel_rfl) rfl fun K hK => ?_
   go_simp
   refine hK.out _ _ (fun _ _ => hS10) ?_
   clear hK K
   (try simp only [Act.put, lA, lB, lC, lD, lE, lF])
   refine rdY (i := 31) (by kernel_rfl) rfl fun K hK => ?_
   go_simp
   refine hK.out _ _ (fun _ _ => hS10) ?_
   clear hK K
   (try simp only [Act.put, lA, lB, lC, lD, lE, lF])
   refine rdY (i := 32) (by kernel_rfl) rfl fun K hK => ?_
   go_simp
   obtain ⟨W11, hW11⟩ : ∃ W, w10.setCell ⟨bb, 1, none⟩ (.slice A7 (nb.keys.length + 1) c7) = W := ⟨_, rfl⟩
   rw [hW11]
   have hb11 : Blk W11 bb 73 #[.int .i64 qb, .slice A7 (nb.keys.length + 1) c7, .slice Avb nb.vals.length cvb, .slice Acb nb.kids.length ccb] := by
    have h9 := hB10.put 1 (.slice A7 (nb.keys.length + 1) c7)
    rw [hW11] at h9
    simpa using h9
   have hc11 : Chg (fun j => j = bb) w10 W11 := hW11 ▸ (Chg.refl (fun j => j = bb) w10).setCell (p := ⟨bb, 1, none⟩) (fun _ => rfl) _
   clear d9 f9 s9 hS10 hW11
   obtain ⟨d9, f9, s9⟩ := hb11.facts
   refine hK.out _ _ (fun h => by cases h) ?_
   clear hK K
   (try simp only [Act.put, lA, lB, lC, lD, lE, lF])
   refine rdY (i := 33) (by kernel_rfl) rfl fun K hK => ?_
   go_simp
   refine hK.out _ _ (fun _ h => h) ?_
   clear hK K
   (try simp only [Act.put, lA, lB, lC, lD, lE, lF])
   refine rdY (i := 34) (by kernel_rfl) rfl fun K hK => ?_
   go_simp
   refine hK.out _ _ (fun _ h => h) ?_
   clear hK K
   (try simp only [Act.put, lA, lB, lC, lD, lE, lF])
   refine rdY (i := 35) (by kernel_rfl) rfl fun K hK => ?_
   go_simp
   obtain ⟨W12, hW12⟩ : ∃ W, W11.setCell ⟨bb, 2, none⟩ (.slice A10 (nb.vals.length + 1) c10) = W := ⟨_, rfl⟩
   rw [hW12]
   have hb12 : Blk W12 bb 73 #[.int .i64 qb, .slice A7 (nb.keys.length + 1) c7, .slice A10 (nb.vals.length + 1) c10, .slice Acb nb.kids.length ccb] := by
    have h9 := hb11.put 2 (.slice A10 (nb.vals.length + 1) c10)
    rw [hW12] at h9
    simpa using h9
   have hc12 : Chg (fun j => j = bb) w10 W12 := Chg.trans hc11 (hW12 ▸ (Chg.refl (fun j => j = bb) W11).setCell (p := ⟨bb, 2, none⟩) (fun _ => rfl) _) fun _ _ e => e
   clear d9 f9 s9 hW12 hb11 hc11
   refine hK.out _ _ (fun h => by cases h) ?_
   clear hK K
   (try simp only [Act.put, lA, lB, lC, lD, lE, lF])
   refine wpAnyY_done (by kernel_rfl) ?_ _
   go_wp2
   go_meet
   refine ⟨rfl, A7, c7, A10, c10, _, HB.out.bset (M2' := fun j => (N2 j ∨ (Value.slice A7 (nb.keys.length + 1) c7).ownBlock = some j) ∨ (Value.slice A10 (nb.vals.length + 1) c10).ownBlock = some j) (Chg.trans hC10 hc12 fun j _ e => by subst e; exact HB.out.b.nb) ?_ hN10, Chg.trans hC10 hc12 fun j _ e => by subst e; exact HB.out.b.nb⟩
   have := (hR10.chg hc12 (fun g hg e => own_blk_ne hR10.rk hB10 (by decide) (by rw [hg, e])) (fun g hg e => own_blk_ne hR10.rv hB10 (by decide) (by rw [hg, e])) (fun g hg e => own_blk_ne hR10.rc hB10 (by decide) (by rw [hg, e]))).ndv hb12 (.inl (.inl HB.out.b.nb))
   exact this

 case rest =>
  obtain ⟨rfl, A7, c7, A10, c10, M2, hFB, hC⟩ := hcut
  have hA := HA.out.chg hC fun j hj e => HB.out.z.d23 j e hj
  have hkn := hFB.n.kcell rfl rfl HK.out.1
  have hvn := hFB.n.vcell rfl rfl HK.out.2.1
  have hka := hA.kcell HK.out.2.2.2.2.1 rfl HK.out.2.2.1
  have hva := hA.vcell (HK.out.2.2.2.2.2.trans HK.out.2.2.2.2.1) rfl HK.out.2.2.2.1
  have hks := hFB.n.kset (j := j) rfl HL.out.1
  have hap := hFB.n.apart
  obtain ⟨x1, x2⟩ := hks
  obtain ⟨x3', x4', x5⟩ := x2 k1 _ rfl
  obtain ⟨W4, hW4⟩ : ∃ W, (wc.setCell ⟨gkn, j, none⟩ (.int .i64 k1)).drew = W := ⟨_, rfl⟩
  have g4 : Grew (wc.setCell ⟨gkn, j, none⟩ (.int .i64 k1)) W4 := hW4 ▸ (Chg.refl NoF _).drew
  have x3 := x3'.chg g4 fun _ _ => id
  have x4 := x4'.grew g4
  clear x3' x4' g4
  obtain ⟨y1, y2⟩ := x3.vset (j := j) rfl HL.out.2.1
  have y3 := (x3.vcell rfl rfl HK.out.2.1).1
  obtain ⟨W5, hW5⟩ : ∃ W, W4.setCell ⟨gvn, j, none⟩ (.int .i64 v1) = W := ⟨_, rfl⟩
  obtain ⟨y4, y5, y6⟩ := y2 v1 W5 hW5
  have hc5 : Chg N1 wc W5 := Chg.trans (x4.mono fun j _ e => by subst e; exact x5) y5 fun j _ e => by subst e; exact y6
  have hFB5 := hFB.nset hc5 y4
  have hA5 := hA.chg hc5 fun j hj e => HB.out.z.d13 j e hj
  have hC5 : Chg (fun j => N1 j ∨ N2 j) w W5 := Chg.trans (hC.mono fun j _ e => .inr e) hc5 fun j _ e => .inl e
  have HF5 := Lib.hid (And.intro hFB5 (And.intro hA5 hC5))
  have hS3 : (fun w' : World => w'.cell? ⟨bn, 1, none⟩ = some (.slice (some ⟨gkn, 0, none⟩) nd.keys.length ckn) ∧ w'.cell? ⟨bn, 2, none⟩ = some (.slice (some ⟨gvn, 0, none⟩) nd.vals.length cvn) ∧ w'.cell? ⟨ba, 1, none⟩ = some (.slice (some ⟨gka, 0, none⟩) ka cka) ∧ w'.cell? ⟨ba, 2, none⟩ = some (.slice (some ⟨gva, 0, none⟩) ka cva) ∧ w'.cell? ⟨gka, l, none⟩ = some (.int .i64 k1) ∧ w'.cell? ⟨gva, l, none⟩ = some (.int .i64 v1)) wc.drew := ⟨hFB.n.blk.drew.cell 1, hFB.n.blk.drew.cell 2, hA.blk.drew.cell 1, hA.blk.drew.cell 2, hka.1, hva.1⟩
  have HW := Lib.hid (And.intro hW4 hW5)
  have hkn1 := hkn.1
  have HY := Lib.hid (And.intro y1 (And.intro y3 (And.intro x1 hkn1)))
  clear hFB hC hA hkn hvn hka hva hap x1 x2 x3 x4 x5 y1 y2 y3 y4 y5 y6 hc5 hFB5 hA5 hC5 hW4 hW5 hkn1 hS2
  go_wp2_with fail
  refine wp_region_y [27, 29] (S := fun w' => w'.cell? ⟨bn, 1, none⟩ = some (.slice (some ⟨gkn, 0, none⟩) nd.keys.length ckn) ∧ w'.cell? ⟨bn, 2, none⟩ = some (.slice (some ⟨gvn, 0, none⟩) nd.vals.length cvn) ∧ w'.cell? ⟨ba, 1, none⟩ = some (.slice (some ⟨gka, 0, none⟩) ka cka) ∧ w'.cell? ⟨ba, 2, none⟩ = some (.slice (some ⟨gva, 0, none⟩) ka cva) ∧ w'.cell? ⟨gka, l, none⟩ = some (.int .i64 k1) ∧ w'.cell? ⟨gva, l, none⟩ = some (.int .i64 v1)) (by kernel_rfl) hS3 (fun hHeld => ?_)
  refine Todo.out (is := [0, 1, 2, 4, 5, 6, 7, 8, 10, 11, 12, 13, 14, 16, 19, 20, 21, 23]) ?_
  repeat
   refine tkQ (v := ?_) rfl (by kernel_rfl) (by kernel_rfl) (by kernel_rfl) (fun _ _ _ h => h) (Or.inl ⟨by rfl, ?_⟩) ?_
   rotate_left
   ·(intro w hSw; go_simp) <;> with_reducible rfl
   (try simp only [Act.put, lA, lB, lC, lD, lE, lF])
  refine Todo.fin ?_
  refine Todo.out (is := [3, 9, 15, 22]) ?_
  repeat
   refine tkY (v := ?_) rfl (by kernel_rfl) (by kernel_rfl) (by kernel_rfl) (by kernel_rfl) (fun _ _ _ h => h) (Or.inl ⟨by rfl, ?_⟩) hHeld ?_
   rotate_left
   ·(intro w hSw; (try dsimp only at hSw); go_simp) <;> with_reducible rfl
   (try simp only [Act.put, lA, lB, lC, lD, lE, lF])
  refine Todo.fin ?_
  refine Todo.out (is := [17, 24]) ?_
  repeat
   refine tkQ (v := ?_) rfl (by kernel_rfl) (by kernel_rfl) (by kernel_rfl) (fun _ _ _ h => h) (Or.inl ⟨by rfl, ?_⟩) ?_
   rotate_left
   ·(intro w hSw; go_simp) <;> with_reducible rfl
   (try simp only [Act.put, lA, lB, lC, lD, lE, lF])
  refine Todo.fin ?_
  refine Todo.out (is := [18, 25]) ?_
  repeat
   refine tkY (v := ?_) rfl (by kernel_rfl) (by kernel_rfl) (by kernel_rfl) (by kernel_rfl) (fun _ _ _ h => h) (Or.inl ⟨by rfl, ?_⟩) hHeld ?_
   rotate_left
   ·(intro w hSw; (try dsimp only at hSw); go_simp) <;> with_reducible rfl
   (try simp only [Act.put, lA, lB, lC, lD, lE, lF])
  refine Todo.fin ?_
  have HY1 := HY.out.2.2.1
  have HY2 := HY.out.2.2.2
  refine rdY (i := 26) (by kernel_rfl) rfl fun K hK => ?_
  go_simp
  refine hK.out _ _ (fun _ h => h) ?_
  clear hK K
  (try simp only [Act.put, lA, lB, lC, lD, lE, lF])
  refine rdY (i := 27) (by kernel_rfl) rfl fun K hK => ?_
  go_simp
  rw [HW.out.1]
  clear HY1 HY2
  have HY1 := HY.out.1
  have HY2 := HY.out.2.1
  refine hK.out _ _ (fun h => by cases h) ?_
  clear hK K
  (try simp only [Act.put, lA, lB, lC, lD, lE, lF])
  refine rdY (i := 28) (by kernel_rfl) rfl fun K hK => ?_
  go_simp
  refine hK.out _ _ (fun _ h => h) ?_
  clear hK K
  (try simp only [Act.put, lA, lB, lC, lD, lE, lF])
  refine rdY (i := 29) (by kernel_rfl) rfl fun K hK => ?_
  go_simp
  rw [HW.out.2]
  refine hK.out _ _ (fun h => by cases h) ?_
  clear hK K
  (try simp only [Act.put, lA, lB, lC, lD, lE, lF])
  refine wpAnyY_done (by kernel_rfl) ?_ _
  clear hHeld hS3 HY1 HY2 HY HW
  obtain ⟨W6, hW6⟩ : ∃ W, ((W5.setCell ⟨ba, 1, none⟩ (.slice (some ⟨gka, 0, none⟩) l cka)).setCell ⟨ba, 2, none⟩ (.slice (some ⟨gva, 0, none⟩) l cva)).drew = W := ⟨_, rfl⟩
  obtain ⟨hA6, hc6⟩ := HF5.out.2.1.cut2 (m := l) HK.out.2.2.2.2.1 (HK.out.2.2.2.2.2.trans HK.out.2.2.2.2.1) (Nat.le_of_lt hlk) hW6
  have hFB6 := HF5.out.1.aset (hc6.mono fun j _ e => by subst e; exact HA.out.nb)
  have hC6 : Chg (fun j => N1 j ∨ N2 j ∨ N3 j) w W6 := Chg.trans (HF5.out.2.2.mono fun j _ e => e.elim .inl fun e => .inr (.inl e)) hc6 fun j _ e => by subst e; exact .inr (.inr HA.out.nb)
  have hlf6 := leaf_any ba qa ⟨na.keys.take l, na.vals.take l, na.kids⟩ N3 W6 (NdV.own (nd := ⟨na.keys.take l, na.vals.take l, na.kids⟩) hA6).at
  have H6 := Lib.hid (And.intro hlf6 (And.intro hFB6 (And.intro hA6 (And.intro hC6 hW6))))
  obtain ⟨d9, f9, s9⟩ := HF5.out.2.1.blk.facts
  have u1 : (l : Int) ≤ (cka : Int) := by omega
  have u2 : (l : Int) ≤ (cva : Int) := by omega
  clear hlf6 hFB6 hA6 hC6 hW6 hc6
  go_wp2_with fail
  go_region
  rw [H6.out.2.2.2.2]
  clear d9 f9 s9 u1 u2
  go_wp2_with fail
  refine H6.out.1.mono ?_
  rintro e w7 ⟨rfl, rfl⟩
  by_cases h0 : na.kids.length = 0
  ·have hkc : na.kids = [] := List.eq_nil_of_length_eq_zero h0
   have hbc : nb.kids = [] := List.eq_nil_of_length_eq_zero (HX.out.2.2.2.2.1.1 h0)
   have t1 : decide (na.kids.length = 0) = true := decide_eq_true h0
   have hAo : NdOwn W6 N3 ba qa na.cutL := by
    have e : na.cutL = ⟨na.keys.take l, na.vals.take l, na.kids⟩ := by
     have e1 := HK.out.2.2.2.2.1
     have e2 := Hij.out.2
     simp only [Nd.cutL, hkc, List.take_nil, e1, show ka - 1 = l by omega]
    rw [e]
    exact NdV.own (nd := ⟨na.keys.take l, na.vals.take l, na.kids⟩) H6.out.2.2.1
   have hBo : NdOwn W6 M2 bb qb (nb.addF k v (na.kids.drop na.keys.length)) := by
    refine NdV.own (nd := nb.addF k v (na.kids.drop na.keys.length)) (vk := .slice A7 (nb.keys.length + 1) c7) (vv := .slice A10 (nb.vals.length + 1) c10) (vc := .slice Acb nb.kids.length ccb) ?_
    have e1 : (nb.addF k v (na.kids.drop na.keys.length)).keys = insI nb.keys 0 k := by simp [Nd.addF, insI]
    have e2 : (nb.addF k v (na.kids.drop na.keys.length)).vals = insI nb.vals 0 v := by simp [Nd.addF, insI]
    have e3 : (nb.addF k v (na.kids.drop na.keys.length)).kids = nb.kids := by simp [Nd.addF, hkc]
    rw [e1, e2, e3]
    exact H6.out.2.1.b
   have hNo : NdOwn W6 N1 bn qn ⟨nd.keys.set j k1, nd.vals.set j v1, nd.kids⟩ := NdV.own (nd := ⟨nd.keys.set j k1, nd.vals.set j v1, nd.kids⟩) H6.out.2.1.n
   have hfb : (nb.addF k v (na.kids.drop na.keys.length)).Fit x.sz := Nd.addF_fit HX.out.2.2.2.1 HX.out.2.2.2.2.2.2.1 (HX.out.2.1.ki _ (List.mem_of_getElem? HK.out.1)) (HX.out.2.1.vi _ (List.mem_of_getElem? HK.out.2.1)) (.inl ⟨hbc, by rw [hkc, List.drop_nil]⟩) (fun q hq => by rw [hkc, List.drop_nil] at hq; cases hq)
   have hal := fl_fin (W := W6) (G := fun j => F j ∨ N1 j ∨ N2 j ∨ N3 j) (its := [⟨ba, N3, qa, na.cutL⟩, ⟨bb, _, qb, nb.addF k v (na.kids.drop na.keys.length)⟩, ⟨bn, N1, qn, ⟨nd.keys.set j k1, nd.vals.set j v1, nd.kids⟩⟩]) H6.out.2.1.z HX.out.1 hAo.at hBo hNo.at
    (Nd.cutL_fit HX.out.2.2.1 (by have := HK.out.2.2.2.2.1; omega)) hfb (Nd.set_fit HX.out.2.1 (HX.out.2.2.1.ki _ (List.mem_of_getElem? HK.out.2.2.1)) (HX.out.2.2.1.vi _ (List.mem_of_getElem? HK.out.2.2.2.1))) HX.out.2.2.2.2.2.2.2.1 HX.out.2.2.2.2.2.2.2.2.1 HX.out.2.2.2.2.2.2.2.2.2.1 HX.out.2.2.2.2.2.2.2.2.2.2.1 HX.out.2.2.2.2.2.2.2.2.2.2.2.1 HX.out.2.2.2.2.2.2.2.2.2.2.2.2.1 (.inl rfl) (fun j e => .inr e) (fun j e => .inl e) HX.out.2.2.2.2.2.2.2.2.2.2.2.2.2.2.2.2.1
   clear hAo hBo hNo hfb hkc hbc
   rw [show (pv [⟨ba, N3, qa, na.cutL⟩, ⟨bb, M2, qb, nb.addF k v (na.kids.drop na.keys.length)⟩, ⟨bn, N1, qn, ⟨nd.keys.set j k1, nd.vals.set j v1, nd.kids⟩⟩]) = [.pointer (some ⟨ba, 0, none⟩), .pointer (some ⟨bb, 0, none⟩), .pointer (some ⟨bn, 0, none⟩)] from rfl] at hal
   have HE := Lib.hid hal
   clear hal
   go_wp2_with fail
   refine HE.out.mono ?_
   rintro e w' (⟨rfl, hr⟩ | ⟨rfl, hr⟩)
   ·have HO := Lib.hid hr
    clear hr
    go_wp2_with fail
    go_ret
    exact .inl ⟨rfl, HO.out⟩
   ·have HO := Lib.hid hr
    clear hr
    go_wp2_with fail
    go_ret
    exact .inr ⟨rfl, HO.out⟩
  ·have t1 : decide (na.kids.length = 0) = false := decide_eq_false h0
   have t2 : decide (na.kids = []) = false := decide_eq_false fun e => h0 (by rw [e]; rfl)
   have hnkl : na.kids.length = ka + 1 := by have e1 := HK.out.2.2.2.2.1; rcases HX.out.2.2.1.kids with e | e <;> omega
   have hbkl : nb.kids.length = nb.keys.length + 1 := by
    have e1 : ¬ nb.kids.length = 0 := fun e => h0 (HX.out.2.2.2.2.1.2 e)
    rcases HX.out.2.2.2.1.kids with e | e <;> omega
   obtain ⟨cq, hcq⟩ : ∃ c, na.kids[ka]? = some c := ⟨_, List.getElem?_eq_getElem (by omega)⟩
   have hdr : na.kids.drop na.keys.length = [cq] := by
    obtain ⟨q1, q2⟩ := List.getElem?_eq_some_iff.1 hcq
    rw [HK.out.2.2.2.2.1, List.drop_eq_getElem_cons q1, q2, List.drop_eq_nil_of_le (by omega)]
   obtain ⟨gca, hgca, -⟩ := own_block HR.out.2.2 (show 0 < na.kids.length by omega)
   subst hgca
   have hA6 := H6.out.2.2.1
   have hcc := (hA6.ccell rfl rfl hcq).1
   have hS6 : (fun w' : World => w'.cell? ⟨bb, 3, none⟩ = some (.slice Acb nb.kids.length ccb) ∧ w'.cell? ⟨ba, 3, none⟩ = some (.slice (some ⟨gca, 0, none⟩) na.kids.length cca) ∧ w'.cell? ⟨gca, ka, none⟩ = some (.int .i64 cq)) W6.drew := ⟨H6.out.2.1.b.blk.drew.cell 3, hA6.blk.drew.cell 3, hcc⟩
   have H7 := Lib.hid (And.intro hnkl (And.intro hbkl (And.intro hcq hdr)))
   have v1 : (l : Int) + 1 = (ka : Int) := by have := Hij.out.2; omega
   have v2 : IntKind.i64.wrap ((l : Int) + 1) = (ka : Int) := by rw [IntWalk.i64_in _ ⟨by omega, by omega⟩]; exact v1
   have v3 : (ka : Int) < (na.kids.length : Int) := by omega
   have v4 : (ka : Int) ≤ (cca : Int) := by omega
   have H0 := Lib.hid h0
   clear hnkl hbkl hcq hdr hA6 hcc h0 v1
   go_wp2_with fail
   refine wp_region_y [17] (S := fun w' => w'.cell? ⟨bb, 3, none⟩ = some (.slice Acb nb.kids.length ccb) ∧ w'.cell? ⟨ba, 3, none⟩ = some (.slice (some ⟨gca, 0, none⟩) na.kids.length cca) ∧ w'.cell? ⟨gca, ka, none⟩ = some (.int .i64 cq)) (by kernel_rfl) hS6 (fun hHeld => ?_)
   refine Todo.out (is := [0, 1, 2, 3, 5, 6, 7, 9, 10]) ?_
   repeat
    refine tkQ (v := ?_) rfl (by kernel_rfl) (by kernel_rfl) (by kernel_rfl) (fun _ _ _ h => h) (Or.inl ⟨by rfl, ?_⟩) ?_
    rotate_left
    ·(intro w hSw; go_simp) <;> with_reducible rfl
    (try simp only [Act.put, lA, lB, lC, lD, lE, lF])
   refine Todo.fin ?_
   refine Todo.out (is := [4, 8]) ?_
   repeat
    refine tkY (v := ?_) rfl (by kernel_rfl) (by kernel_rfl) (by kernel_rfl) (by kernel_rfl) (fun _ _ _ h => h) (Or.inl ⟨by rfl, ?_⟩) hHeld ?_
    rotate_left
    ·(intro w hSw; (try dsimp only at hSw); go_simp) <;> with_reducible rfl
    (try simp only [Act.put, lA, lB, lC, lD, lE, lF])
   refine Todo.fin ?_
   refine wpAnyY_takeP (i := 11) (v := ?_) rfl (by kernel_rfl) (by kernel_rfl) (by kernel_rfl) (fun _ _ _ h => h) (Or.inl ⟨by rfl, ?_⟩) ?_
   rotate_left
   ·(intro w hSw; go_simp) <;> with_reducible rfl
   (try simp only [Act.put, lA, lB, lC, lD, lE, lF])
   refine wpAnyY_take (i := 12) (v := ?_) rfl (by kernel_rfl) (by kernel_rfl) (by kernel_rfl) (by kernel_rfl) (fun _ _ _ h => h) (Or.inl ⟨by rfl, ?_⟩) hHeld ?_
   rotate_left
   ·(intro w hSw; (try dsimp only at hSw); go_simp) <;> with_reducible rfl
   (try simp only [Act.put, lA, lB, lC, lD, lE, lF])
   refine rdY (i := 13) (by kernel_rfl) rfl fun K hK => ?_
   go_simp
   obtain ⟨W8, hW8⟩ : ∃ W, (W6.alloc (.cells #[.int .i64 cq] 3)).drew = W := ⟨_, rfl⟩
   rw [hW8]
   have hg8 : Grew W6 W8 := hW8 ▸ ((Chg.refl NoF W6).alloc _).drew
   have hlit : Blk W8 W6.heap.size 3 #[.int .i64 cq] := hW8 ▸ (Blk.new W6 _ _).drew
   have hb8 := H6.out.2.1.b.chg hg8 fun _ _ => id
   have hA8 := H6.out.2.2.1.chg hg8 fun _ _ => id
   have rcb8 := hb8.rc
   rw [nv_len] at rcb8
   rw [nv_ivm] at rcb8
   have hlc : (nb.kids.map Int.ofNat).length = nb.kids.length := by simp
   have hins := binsert_any 1 _ (nb.kids.map Int.ofNat) 0 W6.heap.size cq W8 (by rw [hlc]; exact rcb8) (by omega) (Nat.zero_le _) hlit (fun e => by have := H6.out.2.1.b.lt _ (H6.out.2.1.b.nc _ e); omega) (by have := HP.out.1; have := H6.out.2.2.2.1.size; have := hg8.size; omega)
   rw [show ((0 : Nat) : Int) = 0 from rfl] at hins
   have hS8 : (fun w' : World => w'.cell? ⟨bb, 3, none⟩ = some (.slice Acb nb.kids.length ccb) ∧ w'.cell? ⟨ba, 3, none⟩ = some (.slice (some ⟨gca, 0, none⟩) na.kids.length cca) ∧ w'.cell? ⟨gca, ka, none⟩ = some (.int .i64 cq)) W8 := ⟨hb8.blk.cell 3, hA8.blk.cell 3, (hA8.ccell rfl rfl H7.out.2.2.1).1⟩
   have H8 := Lib.hid (And.intro hins (And.intro hb8 (And.intro hA8 (And.intro hg8 hlc))))
   clear hins hb8 hA8 hg8 hlit rcb8 hW8 hlc
   refine hK.out _ _ (fun _ _ => hS8) ?_
   clear hK K
   (try simp only [Act.put, lA, lB, lC, lD, lE, lF])
   refine rdY (i := 14) (by kernel_rfl) rfl fun K hK => ?_
   go_simp
   refine H8.out.1.mono ?_
   rintro e w9 ⟨v9, rfl, ho9, ha9⟩
   rw [H8.out.2.2.2.2] at ho9
   obtain ⟨A9, c9, rfl, -⟩ := own_shape ho9
   have hl9 : (iv (insI (nb.kids.map Int.ofNat) 0 (cq : Int))).length = nb.kids.length + 1 := by rw [iv_len, insI_len _ (Nat.zero_le _), List.length_map]
   have hb9 := H8.out.2.1.blk.chg ha9.chg H8.out.2.1.ne.2.2
   have hN2c : ∀ j, (Value.slice Acb nb.kids.length ccb).ownBlock = some j → M2 j := H8.out.2.1.nc
   have hc9 : Chg M2 W6 w9 := Grew.then H8.out.2.2.2.1 (ha9.chg.mono fun j _ e => hN2c j e)
   have hA9 := H6.out.2.2.1.chg hc9 fun j hj e => H6.out.2.1.z.d23 j e hj
   have hS9 : (fun w' : World => w'.cell? ⟨bb, 3, none⟩ = some (.slice Acb nb.kids.length ccb) ∧ w'.cell? ⟨ba, 3, none⟩ = some (.slice (some ⟨gca, 0, none⟩) na.kids.length cca) ∧ w'.cell? ⟨gca, ka, none⟩ = some (.int .i64 cq)) w9 := ⟨hb9.cell 3, hA9.blk.cell 3, (hA9.ccell rfl rfl H7.out.2.2.1).1⟩
   obtain ⟨d9, f9, s9⟩ := hb9.facts
   have H9 := Lib.hid (And.intro ho9 (And.intro ha9 (And.intro hl9 hc9)))
   clear ho9 ha9 hl9 hb9 hN2c hc9 hA9
   refine hK.out _ _ (fun _ _ => hS9) ?_
   clear hK K
   (try simp only [Act.put, lA, lB, lC, lD, lE, lF])
   refine rdY (i := 15) (by kernel_rfl) rfl fun K hK => ?_
   go_simp
   refine hK.out _ _ (fun _ h => h) ?_
   clear hK K
   (try simp only [Act.put, lA, lB, lC, lD, lE, lF])
   refine rdY (i := 16) (by kernel_rfl) rfl fun K hK => ?_
   go_simp
   refine hK.out _ _ (fun _ h => h) ?_
   clear hK K
   (try simp only [Act.put, lA, lB, lC, lD, lE, lF])
   refine rdY (i := 17) (by kernel_rfl) rfl fun K hK => ?_
   go_simp
   obtain ⟨W10, hW10⟩ : ∃ W, w9.setCell ⟨bb, 3, none⟩ (.slice A9 (nb.kids.length + 1) c9) = W := ⟨_, rfl⟩
   rw [hW10]
   have hb10 := H8.out.2.1.setC H9.out.2.1 (by rw [H9.out.2.2.1]; exact H9.out.1) hW10
   have hc10 : Chg M2 W6 W10 := Chg.trans H9.out.2.2.2 (hW10 ▸ (Chg.refl (fun j => j = bb) w9).setCell (p := ⟨bb, 3, none⟩) (fun _ => rfl) _) fun j _ e => by subst e; exact H8.out.2.1.nb
   have z8 := H8.out.2.2.2.1.size
   have hFB10 := H6.out.2.1.bset hc10 hb10 (fun j hj => by
    rcases hj with e | e
    ·exact .inl e
    ·exact (H9.out.2.1.at_ j e).imp (H8.out.2.1.nc j) fun e => by omega)
   have hA10 := H6.out.2.2.1.chg hc10 fun j hj e => H6.out.2.1.z.d23 j e hj
   obtain ⟨M3, hM3⟩ : ∃ N : Nat → Prop, (fun j => M2 j ∨ (Value.slice A9 (nb.kids.length + 1) c9).ownBlock = some j) = N := ⟨_, rfl⟩
   rw [hM3] at hFB10
   refine hK.out _ _ (fun h => by cases h) ?_
   clear hK K
   (try simp only [Act.put, lA, lB, lC, lD, lE, lF])
   refine wpAnyY_done (by kernel_rfl) ?_ _
   obtain ⟨W11, hW11⟩ : ∃ W, W10.setCell ⟨ba, 3, none⟩ (.slice (some ⟨gca, 0, none⟩) ka cca) = W := ⟨_, rfl⟩
   obtain ⟨hA11, hc11⟩ := hA10.cutC (m := ka) rfl (by omega) hW11
   have hFB11 := hFB10.aset (hc11.mono fun j _ e => by subst e; exact HA.out.nb)
   clear hHeld hS6 hS8 hS9 d9 f9 s9
   obtain ⟨d9, f9, s9⟩ := hA10.blk.facts
   have hz11 : W11.heap.size = W10.heap.size := by subst hW11; simp
   have H11 := Lib.hid (And.intro hFB11 (And.intro hA11 (And.intro hW11 hz11)))
   clear hb10 hc10 z8 hFB10 hA10 hM3 hW10 hA11 hc11 hFB11 hW11 hz11 H8 H9
   have hAo : NdOwn W11 N3 ba qa na.cutL := by
    have e : na.cutL = ⟨na.keys.take l, na.vals.take l, na.kids.take ka⟩ := by
     have e1 := HK.out.2.2.2.2.1
     have e2 := Hij.out.2
     simp only [Nd.cutL, e1, show ka - 1 = l by omega]
    rw [e]
    exact NdV.own (nd := ⟨na.keys.take l, na.vals.take l, na.kids.take ka⟩) H11.out.2.1
   have hBo : NdOwn W11 M3 bb qb (nb.addF k v (na.kids.drop na.keys.length)) := by
    refine NdV.own (nd := nb.addF k v (na.kids.drop na.keys.length)) (vk := .slice A7 (nb.keys.length + 1) c7) (vv := .slice A10 (nb.vals.length + 1) c10) (vc := .slice A9 (nb.kids.length + 1) c9) ?_
    have e1 : (nb.addF k v (na.kids.drop na.keys.length)).keys = insI nb.keys 0 k := by simp [Nd.addF, insI]
    have e2 : (nb.addF k v (na.kids.drop na.keys.length)).vals = insI nb.vals 0 v := by simp [Nd.addF, insI]
    have e3 : nv (nb.addF k v (na.kids.drop na.keys.length)).kids = iv (insI (nb.kids.map Int.ofNat) 0 (cq : Int)) := by
     rw [nv_ivm]
     simp [Nd.addF, H7.out.2.2.2, insI]
    rw [e1, e2, e3]
    exact H11.out.1.b
   have hNo : NdOwn W11 N1 bn qn ⟨nd.keys.set j k1, nd.vals.set j v1, nd.kids⟩ := NdV.own (nd := ⟨nd.keys.set j k1, nd.vals.set j v1, nd.kids⟩) H11.out.1.n
   have hfb : (nb.addF k v (na.kids.drop na.keys.length)).Fit x.sz := Nd.addF_fit HX.out.2.2.2.1 HX.out.2.2.2.2.2.2.1 (HX.out.2.1.ki _ (List.mem_of_getElem? HK.out.1)) (HX.out.2.1.vi _ (List.mem_of_getElem? HK.out.2.1)) (.inr ⟨H7.out.2.1, by rw [H7.out.2.2.2]; rfl⟩) (fun q hq => HX.out.2.2.1.ci q (List.mem_of_mem_drop hq))
   have hal := fl_fin (W := W11) (G := fun j => F j ∨ N1 j ∨ N2 j ∨ N3 j) (its := [⟨ba, N3, qa, na.cutL⟩, ⟨bb, _, qb, nb.addF k v (na.kids.drop na.keys.length)⟩, ⟨bn, N1, qn, ⟨nd.keys.set j k1, nd.vals.set j v1, nd.kids⟩⟩]) H11.out.1.z HX.out.1 hAo.at hBo hNo.at
    (Nd.cutL_fit HX.out.2.2.1 (by have := HK.out.2.2.2.2.1; omega)) hfb (Nd.set_fit HX.out.2.1 (HX.out.2.2.1.ki _ (List.mem_of_getElem? HK.out.2.2.1)) (HX.out.2.2.1.vi _ (List.mem_of_getElem? HK.out.2.2.2.1))) HX.out.2.2.2.2.2.2.2.1 HX.out.2.2.2.2.2.2.2.2.1 HX.out.2.2.2.2.2.2.2.2.2.1 HX.out.2.2.2.2.2.2.2.2.2.2.1 HX.out.2.2.2.2.2.2.2.2.2.2.2.1 HX.out.2.2.2.2.2.2.2.2.2.2.2.2.1 (.inl rfl) (fun j e => .inr e) (fun j e => .inl e) HX.out.2.2.2.2.2.2.2.2.2.2.2.2.2.2.2.2.1
   clear hAo hBo hNo hfb
   rw [show (pv [⟨ba, N3, qa, na.cutL⟩, ⟨bb, M3, qb, nb.addF k v (na.kids.drop na.keys.length)⟩, ⟨bn, N1, qn, ⟨nd.keys.set j k1, nd.vals.set j v1, nd.kids⟩⟩]) = [.pointer (some ⟨ba, 0, none⟩), .pointer (some ⟨bb, 0, none⟩), .pointer (some ⟨bn, 0, none⟩)] from rfl, H11.out.2.2.2] at hal
   have HE := Lib.hid hal
   clear hal
   go_wp2_with fail
   rw [H11.out.2.2.1]
   clear d9 f9 s9
   refine HE.out.mono ?_
   rintro e w' (⟨rfl, hr⟩ | ⟨rfl, hr⟩)
   ·have HO := Lib.hid hr
    clear hr
    go_wp2_with fail
    go_ret
    exact .inl ⟨rfl, HO.out⟩
   ·have HO := Lib.hid hr
    clear hr
    go_wp2_with fail
    go_ret
    exact .inr ⟨rfl, HO.out⟩
end Go.Proofs.YtpkkcicaeldodaaGreatDoor

namespace Go.Proofs.YtpkkcicaeldodaaGreatDoor
open Go.RowKit Go.Maps

theorem app1 {W : World} {base g : Nat} {v : Value} {l : List Int} {a : Int} (ho : W.ownsRow base 3 1 v l.length (iv l)) (hl : l.length ≤ 1000) (hg : Blk W g 3 #[.int .i64 a]) (hb : base ≤ W.heap.size) :
  ∃ A c w', (Builtin.append_ #[22, 22] 22 #[v, .slice (some ⟨g, 0, none⟩) 1 1]).run Tryz.prog W = .ok (.slice A (l.length + 1) c) w' ∧ w'.ownsRow base 3 1 (.slice A (l.length + 1) c) (l.length + 1) (iv (l ++ [a])) ∧ Ap W w' v (.slice A (l.length + 1) c) := by
 obtain ⟨i0, hi0, hz0, hz1, hz2⟩ := info_parts i64Info_
 obtain ⟨v1, w1, hr, h1, h2, _, h4⟩ := run_append_own_at (P := Tryz.prog) W base 22 22 3 i0 _ 1 8 Tryz.underlying22 hi0 hz0 hz1 hz2 rfl (by omega) v l.length (iv l) ho ⟨g, 0, none⟩ 1 1 [.int .i64 a] rfl (fun j u hu => by rw [Addr.add_lit]; exact one_at hg j u hu) (by simp [Value.oneCell']) (by simp only [maxLen]; omega) (by omega) hb
 obtain ⟨A, c, rfl, -⟩ := own_shape h1
 refine ⟨A, c, w1, hr, ?_, (Chg.refl _ _).grown h2 fun k hk _ => hk, fun j hj => h4.elim (fun e => .inl (e ▸ hj)) fun e => .inr ?_⟩
 ·rw [show iv (l ++ [a]) = iv l ++ [.int .i64 a] by simp [iv]]
  exact h1
 ·rw [e] at hj
  cases hj
  exact Nat.le_refl _
section
variable {W W' : World} {N : Nat → Prop} {vk vv vc : Value} {l : List Int} {lk lv lc : List Value} {g : Nat} {a : Int}
theorem appK (h : Rws W N vk vv vc (iv l) lv lc) (hl : l.length ≤ 1000) (hg : Blk W g 3 #[.int .i64 a]) (hp : 1 ≤ W.heap.size) :
  ∃ A c w', (Builtin.append_ #[22, 22] 22 #[vk, .slice (some ⟨g, 0, none⟩) 1 1]).run Tryz.prog W = .ok (.slice A (l.length + 1) c) w' ∧ Rws w' (fun j => N j ∨ (Value.slice A (l.length + 1) c).ownBlock = some j) (.slice A (l.length + 1) c) vv vc (iv (l ++ [a])) lv lc ∧ Ap W w' vk (.slice A (l.length + 1) c) := by
 have hk := h.rk
 rw [iv_len] at hk
 obtain ⟨A, c, w', h1, h2, h3⟩ := app1 hk hl hg hp
 exact ⟨A, c, w', h1, h.setK h3 (by rw [iv_len, List.length_append]; exact h2), h3⟩
theorem appV (h : Rws W N vk vv vc lk (iv l) lc) (hl : l.length ≤ 1000) (hg : Blk W g 3 #[.int .i64 a]) (hp : 1 ≤ W.heap.size) :
  ∃ A c w', (Builtin.append_ #[22, 22] 22 #[vv, .slice (some ⟨g, 0, none⟩) 1 1]).run Tryz.prog W = .ok (.slice A (l.length + 1) c) w' ∧ Rws w' (fun j => N j ∨ (Value.slice A (l.length + 1) c).ownBlock = some j) vk (.slice A (l.length + 1) c) vc lk (iv (l ++ [a])) lc ∧ Ap W w' vv (.slice A (l.length + 1) c) := by
 have hk := h.rv
 rw [iv_len] at hk
 obtain ⟨A, c, w', h1, h2, h3⟩ := app1 hk hl hg hp
 exact ⟨A, c, w', h1, h.setV h3 (by rw [iv_len, List.length_append]; exact h2), h3⟩
theorem NdV.drop2 {b q g1 g2 c1 c2 n m : Nat} {A3 : Option Addr} {c3 : Nat} {lk lv : List Int} {lc : List Nat} (h : NdV W N b q (.slice (some ⟨g1, 0, none⟩) n c1) (.slice (some ⟨g2, 0, none⟩) n c2) (.slice A3 lc.length c3) (iv lk) (iv lv) (Go.Proofs.YtpkkcicaeldodaaGreatDoor.nv lc)) (h1 : lk.length = n) (h2 : lv.length = n) (hm : n = m + 1)
  (hW : ((W.setCell ⟨b, 1, none⟩ (.slice (some ⟨g1, 1, none⟩) m (c1 - 1))).setCell ⟨b, 2, none⟩ (.slice (some ⟨g2, 1, none⟩) m (c2 - 1))).drew = W') :
  NdRd W' N b q ⟨lk.drop 1, lv.drop 1, lc⟩ (some ⟨g1, 1, none⟩) (c1 - 1) (some ⟨g2, 1, none⟩) (c2 - 1) A3 c3 ∧ Chg (fun j => j = b) W W' ∧ Blk W' b 73 #[.int .i64 q, .slice (some ⟨g1, 1, none⟩) m (c1 - 1), .slice (some ⟨g2, 1, none⟩) m (c2 - 1), .slice A3 lc.length c3] := by
 have hc : Chg (fun j => j = b) W W' := hW ▸ (((Chg.refl (fun j => j = b) W).setCell (p := ⟨b, 1, none⟩) (fun _ => rfl) _).setCell (p := ⟨b, 2, none⟩) (fun _ => rfl) _).drew
 obtain ⟨e1, e2, e3⟩ := h.ne
 have r1 := h.rk
 rw [iv_len, h1] at r1
 have r2 := h.rv
 rw [iv_len, h2] at r2
 have r3 := h.rc
 rw [nv_len] at r3
 have l1 : (lk.drop 1).length = m := by rw [List.length_drop]; omega
 have l2 : (lv.drop 1).length = m := by rw [List.length_drop]; omega
 have hB : Blk W' b 73 #[.int .i64 q, .slice (some ⟨g1, 1, none⟩) m (c1 - 1), .slice (some ⟨g2, 1, none⟩) m (c2 - 1), .slice A3 lc.length c3] := by
  subst hW
  have := ((h.blk.put 1 (.slice (some ⟨g1, 1, none⟩) m (c1 - 1))).put 2 (.slice (some ⟨g2, 1, none⟩) m (c2 - 1))).drew
  simpa using this
 have s1 := ((Sl.of_own r1).chg hc fun a ha e => by cases ha; exact e1 (by rw [own_blockOf r1 _ rfl, e])).cut 1 m (by omega)
 have s2 := ((Sl.of_own r2).chg hc fun a ha e => by cases ha; exact e2 (by rw [own_blockOf r2 _ rfl, e])).cut 1 m (by omega)
 have s3 := (Sl.of_own r3).chg hc fun a ha e => e3 (by rw [own_blockOf r3 a ha, e])
 rw [Nat.zero_add, ← iv_drop, List.take_of_length_le (by rw [iv_len]; omega)] at s1 s2
 refine ⟨⟨?_, ?_, ?_, s3, h.nb, fun a ha => by cases ha; exact h.nk _ (own_blockOf r1 ⟨g1, 0, none⟩ rfl), fun a ha => by cases ha; exact h.nv _ (own_blockOf r2 ⟨g2, 0, none⟩ rfl), fun a ha => h.nc _ (own_blockOf r3 a ha)⟩, hc, hB⟩
 ·simp only [l1, l2]; exact hB
 ·simp only [l1]; exact s1
 ·simp only [l2]; exact s2
theorem NdRd.dropC {b q g c m : Nat} {nd : Nd} {Ak Av : Option Addr} {ck cv : Nat} (h : NdRd W N b q nd Ak ck Av cv (some ⟨g, 0, none⟩) c) (hm : nd.kids.length = m + 1) (hg : g ≠ b) (hk : ∀ a, Ak = some a → a.block ≠ b) (hv : ∀ a, Av = some a → a.block ≠ b)
  (hW : W.setCell ⟨b, 3, none⟩ (.slice (some ⟨g, 1, none⟩) m (c - 1)) = W') : NdRd W' N b q ⟨nd.keys, nd.vals, nd.kids.drop 1⟩ Ak ck Av cv (some ⟨g, 1, none⟩) (c - 1) ∧ Chg (fun j => j = b) W W' := by
 obtain ⟨h1, h2, h3, h4, h5, h6, h7, h8⟩ := h
 have hc : Chg (fun j => j = b) W W' := hW ▸ (Chg.refl (fun j => j = b) W).setCell (p := ⟨b, 3, none⟩) (fun _ => rfl) _
 have l1 : (nd.kids.drop 1).length = m := by rw [List.length_drop]; omega
 have s3 := (h4.chg hc fun a ha e => by cases ha; exact hg e).cut 1 m (by omega)
 rw [Nat.zero_add, ← nv_drop, List.take_of_length_le (by rw [nv_len]; omega)] at s3
 refine ⟨⟨?_, h2.chg hc hk, h3.chg hc hv, ?_, h5, h6, h7, fun a ha => by cases ha; exact h8 ⟨g, 0, none⟩ rfl⟩, hc⟩
 ·subst hW
  have := h1.put 3 (.slice (some ⟨g, 1, none⟩) m (c - 1))
  simp only [l1]
  simpa using this
 ·simp only [l1]; exact s3
theorem NdRd.at {b q : Nat} {nd : Nd} {Ak Av Ac : Option Addr} {ck cv cc : Nat} (h : NdRd W N b q nd Ak ck Av cv Ac cc) (hl : ∀ j, N j → j < W.heap.size) : NdAt W N b q nd := by
 obtain ⟨h1, h2, h3, h4, h5, h6, h7, h8⟩ := h
 exact ⟨Ak, ck, Av, cv, Ac, cc, h1, h2, h3, h4, h5, h6, h7, h8, hl⟩
theorem NdRd.ccell {b q g c : Nat} {nd : Nd} {Ak Av : Option Addr} {ck cv : Nat} (h : NdRd W N b q nd Ak ck Av cv (some ⟨g, 0, none⟩) c) {a : Nat} (ha : nd.kids[0]? = some a) : W.cell? ⟨g, 0, none⟩ = some (.int .i64 a) := by
 obtain ⟨b', o, e, -, hx⟩ := h.2.2.2.1.2 (by have := (List.getElem?_eq_some_iff.1 ha).1; omega)
 cases e
 exact hx 0 (.int .i64 a) (by simp [Go.Proofs.YtpkkcicaeldodaaGreatDoor.nv, ha])
end
end Go.Proofs.YtpkkcicaeldodaaGreatDoor
