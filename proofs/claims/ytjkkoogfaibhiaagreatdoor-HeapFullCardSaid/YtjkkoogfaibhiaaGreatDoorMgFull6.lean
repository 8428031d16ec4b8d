/- Texts 6 of 8 that the proof of Full stands on. -/
import Derived.Test.YtjkkoogfaibhiaaGreatDoorMgFull5
set_option linter.unusedSimpArgs false
set_option linter.unusedVariables false

/- The pager: Open on an empty disk. -/
namespace Go.Proofs.YtjkkoogfaibhiaaGreatDoor
open Go.RowKit Go.Maps

set_option maxHeartbeats 800000 in
theorem gopen_range (d : Nat) (F : Nat → Prop) (D : Dk) (w : World) (h : DS w d F D) (hr : D.n < 8 ∨ D.sz < 64) :
    Calls Tryz.prog 25 #[.pointer (some ⟨d, 0, none⟩)] w fun e w' => e = .returned (.tuple #[.pointer none, .int .i64 11]) ∧ w = w' := by
  have H := Lib.hid h
  clear h
  by_cases h8 : D.n < 8
  · have a1 : decide ((D.n : Int) < 8) = true := decide_eq_true (by omega)
    clear hr h8
    go_enter Tryz.func25, Tryz.ntmps25
    go_wp2_with (first
      | (go_at_call 51; (refine (dsectors_any d F D _ H.out).mono ?_); rintro e w1 ⟨rfl, rfl⟩)
      | (go_at_call 52; (refine (dsize_any d F D _ H.out).mono ?_); rintro e w1 ⟨rfl, rfl⟩))
    go_ret2
    exact ⟨rfl, rfl⟩
  · have a1 : decide ((D.n : Int) < 8) = false := decide_eq_false (by omega)
    have a2 : decide ((D.sz : Int) < 64) = true := decide_eq_true (by omega)
    clear hr h8
    go_enter Tryz.func25, Tryz.ntmps25
    go_wp2_with (first
      | (go_at_call 51; (refine (dsectors_any d F D _ H.out).mono ?_); rintro e w1 ⟨rfl, rfl⟩)
      | (go_at_call 52; (refine (dsize_any d F D _ H.out).mono ?_); rintro e w1 ⟨rfl, rfl⟩))
    go_ret2
    exact ⟨rfl, rfl⟩

/-- A new pager. -/
def Gp.fresh (D : Dk) : Gp := { D := D, epoch := 0, row := D.sz / 2, pages := List.replicate (tabN D.n D.sz) 0, table := List.replicate (capN D.n D.sz) 0, free := trn (trn (full D.n) 0) 1, op := none, down := false }

/-- A row of noughts, new since w0. -/
structure NewInts (w0 w : World) (g n : Nat) : Prop where
  blk : Blk w g 3 (nv (List.replicate n 0)).toArray
  new : w0.heap.size ≤ g
structure NewPool (w0 w : World) (b n : Nat) (A : Option Addr) (c : Nat) : Prop where
  p : PIn w b (full n) A c
  new : ∀ j, PF b A j → w0.heap.size ≤ j
theorem NewInts.grew {w0 w w' : World} {g n : Nat} (h : NewInts w0 w g n) (hg : Grew w w') : NewInts w0 w' g n := ⟨h.blk.grew hg, h.new⟩
theorem NewPool.grew {w0 w w' : World} {b n c : Nat} {A : Option Addr} (h : NewPool w0 w b n A c) (hg : Grew w w') : NewPool w0 w' b n A c := ⟨h.p.grew hg, h.new⟩
/-- A new pager, as its parts lie. -/
structure OpenIn (w0 w : World) (p d row T C g1 g2 b n : Nat) (A : Option Addr) (c : Nat) : Prop where
  blk : Blk w p 84 #[.pointer (some ⟨d, 0, none⟩), .int .i64 0, .int .i64 row, .slice (some ⟨g1, 0, none⟩) T T, .slice (some ⟨g2, 0, none⟩) C C, .pointer (some ⟨b, 0, none⟩), .pointer none, .bool false]
  t1 : NewInts w0 w g1 T
  t2 : NewInts w0 w g2 C
  ne : g1 ≠ g2
  pool : NewPool w0 w b n A c
  grew : Grew w0 w
  new : w0.heap.size ≤ p
def OpenJ (w0 : World) (d row T C n : Nat) (v : Value) (w : World) : Prop := ∃ p g1 g2 b A c, v = .pointer (some ⟨p, 0, none⟩) ∧ OpenIn w0 w p d row T C g1 g2 b n A c
theorem openJ_mk {w0 w : World} {d row T C g1 g2 b n c : Nat} {A : Option Addr} {r : Int} (hr : r = (row : Int)) (h1 : NewInts w0 w g1 T) (h2 : NewInts w0 w g2 C) (hne : g1 ≠ g2) (hp : NewPool w0 w b n A c) (hg : Grew w0 w) :
    OpenJ w0 d row T C n (.pointer (some ⟨w.heap.size, 0, none⟩)) (w.alloc (.cells #[.pointer (some ⟨d, 0, none⟩), .int .i64 0, .int .i64 r, .slice (some ⟨g1, 0, none⟩) T T, .slice (some ⟨g2, 0, none⟩) C C, .pointer (some ⟨b, 0, none⟩), .pointer none, .bool false] 84)) := by
  subst hr
  exact ⟨_, g1, g2, b, A, c, rfl, Blk.new _ _ _, h1.grew ((Chg.refl _ _).alloc _), h2.grew ((Chg.refl _ _).alloc _), hne, hp.grew ((Chg.refl _ _).alloc _), hg.alloc _, hg.size⟩

/-- The pool of n sectors, when the first k are marked. -/
def mkd (n : Nat) : Nat → List Bool
  | 0 => full n
  | k + 1 => trn (mkd n k) k
theorem mkd_len (n : Nat) : ∀ k, (mkd n k).length = n
  | 0 => full_len n
  | k + 1 => by rw [mkd, trn, List.length_set]; exact mkd_len n k
theorem mkd_at (n : Nat) : ∀ k j, k ≤ n → (mkd n k).getD j false = (decide (k ≤ j) && decide (j < n))
  | 0, j, _ => by rw [mkd, full_at]; simp
  | k + 1, j, hk => by
    rw [mkd, trn, getD_set _ _ _ _ (by rw [mkd_len]; omega), mkd_at n k k (by omega), mkd_at n k j (by omega)]
    by_cases e : j = k
    · subst e; simp; omega
    · rw [if_neg e]
      by_cases h1 : k ≤ j
      · simp [h1, show k + 1 ≤ j by omega]
      · simp [h1, show ¬ k + 1 ≤ j by omega]
theorem mkd_mark (n k : Nat) (hk : k < n) : toL (mkd n k) (k : Int) false = (mkd n (k + 1), 0) := by
  unfold toL
  rw [if_neg (by rw [mkd_len]; omega), Int.toNat_natCast, mkd_at n k k (by omega), if_neg (by simp; omega)]
  rfl
theorem own_new {w : World} {g n : Nat} {t : TypeId} {cs : Array Value} (h : Blk w g t cs) (hn : cs.size = n) (hm : n ≤ maxLen) : w.ownsRow 0 t 1 (.slice (some ⟨g, 0, none⟩) n n) n cs.toList :=
  ⟨by simp [hn], .inr ⟨g, n, cs, rfl, Nat.zero_le _, h, Nat.le_refl _, hm, by simp [hn], by rw [Nat.mul_one, ← hn, ← Array.length_toList, List.take_length]⟩⟩
theorem blk_ne {w : World} {g g' : Nat} {t t' : TypeId} {cs cs' : Array Value} (h : Blk w g t cs) (h' : Blk w g' t' cs') (hne : t ≠ t') : g ≠ g' := by
  rintro rfl
  unfold Blk at h h'
  rw [h] at h'
  injection h' with h'
  injection h' with h1 h2
  exact hne h2
theorem pf_ne {w : World} {b c g : Nat} {x : List Bool} {A : Option Addr} {t : TypeId} {cs : Array Value} (h : PIn w b x A c) (hg : Blk w g t cs) (h1 : t ≠ 129) (h2 : t ≠ 130) : ¬ PF b A g := by
  rintro (rfl | ⟨a, rfl, rfl⟩)
  · have := h.blk
    unfold Blk at this hg
    rw [this] at hg
    cases hg
    exact h1 rfl
  · exact own_blk_ne h.own hg (Ne.symm h2) rfl
/-- A new pager stands. -/
theorem gfresh_mk {w0 w : World} {d p g1 g2 b c : Nat} {A : Option Addr} {F : Nat → Prop} {D : Dk} (hd : DS w d F D) (hF0 : ∀ j, F j → j < w0.heap.size) (h0 : ¬ F 0) (hpos : 0 < w0.heap.size) (hT : TabAt 0 tab w) (hn : D.n ≤ 4096)
    (hb : Blk w p 84 #[.pointer (some ⟨d, 0, none⟩), .int .i64 0, .int .i64 (D.sz / 2 : Nat), .slice (some ⟨g1, 0, none⟩) (tabN D.n D.sz) (tabN D.n D.sz), .slice (some ⟨g2, 0, none⟩) (capN D.n D.sz) (capN D.n D.sz), .pointer (some ⟨b, 0, none⟩), .pointer none, .bool false])
    (h1 : Blk w g1 3 (nv (List.replicate (tabN D.n D.sz) 0)).toArray) (h2 : Blk w g2 3 (nv (List.replicate (capN D.n D.sz) 0)).toArray) (hne : g1 ≠ g2) (hp : PIn w b (mkd D.n 2) A c)
    (n0 : w0.heap.size ≤ p) (n1 : w0.heap.size ≤ g1) (n2 : w0.heap.size ≤ g2) (n3 : ∀ j, PF b A j → w0.heap.size ≤ j) :
    ∃ F', GS w p F' (Gp.fresh D) ∧ ∀ j, F' j → F j ∨ w0.heap.size ≤ j := by
  classical
  have hC : capN D.n D.sz ≤ 4096 := by unfold capN; split <;> omega
  have hT64 : tabN D.n D.sz ≤ 64 := by have := tabs_le (D.sz / 2) (D.n - 2) D.sz 64 0; unfold tabN; omega
  have d1 : p ≠ g1 := blk_ne hb h1 (by decide)
  have d2 : p ≠ g2 := blk_ne hb h2 (by decide)
  have d3 := pf_ne hp hb (by decide) (by decide)
  have d4 := pf_ne hp h1 (by decide) (by decide)
  have d5 := pf_ne hp h2 (by decide) (by decide)
  obtain ⟨L, hL⟩ : ∃ L : Nat → Nat, L = fun j => if j = p then 1 else if j = g1 then 4 else if j = g2 then 5 else if PF b A j then 3 else if F j then 2 else 0 := ⟨_, rfl⟩
  have l1 : L p = 1 := by rw [hL]; simp
  have l4 : L g1 = 4 := by rw [hL]; simp [Ne.symm d1]
  have l5 : L g2 = 5 := by rw [hL]; simp [Ne.symm d2, Ne.symm hne]
  have l3 : ∀ j, PF b A j → L j = 3 := fun j hj => by
    have e1 : j ≠ p := fun e => d3 (e ▸ hj)
    have e2 : j ≠ g1 := fun e => d4 (e ▸ hj)
    have e3 : j ≠ g2 := fun e => d5 (e ▸ hj)
    rw [hL]; simp [e1, e2, e3, hj]
  have l2 : ∀ j, L j = 2 ↔ F j := fun j => by
    have hlt : F j → j < w0.heap.size := hF0 j
    by_cases e1 : j = p
    · subst e1; rw [l1]; exact ⟨fun e => by omega, fun e => by have := hlt e; omega⟩
    by_cases e2 : j = g1
    · subst e2; rw [l4]; exact ⟨fun e => by omega, fun e => by have := hlt e; omega⟩
    by_cases e3 : j = g2
    · subst e3; rw [l5]; exact ⟨fun e => by omega, fun e => by have := hlt e; omega⟩
    by_cases e4 : PF b A j
    · rw [l3 j e4]; exact ⟨fun e => by omega, fun e => by have := hlt e; have := n3 j e4; omega⟩
    · rw [hL]; by_cases e5 : F j <;> simp [e1, e2, e3, e4, e5]
  have l0 : ∀ j, L j ≠ 0 → F j ∨ (w0.heap.size ≤ j ∧ j < w.heap.size) := fun j hj => by
    by_cases e1 : j = p
    · subst e1; exact .inr ⟨n0, hb.lt⟩
    by_cases e2 : j = g1
    · subst e2; exact .inr ⟨n1, h1.lt⟩
    by_cases e3 : j = g2
    · subst e3; exact .inr ⟨n2, h2.lt⟩
    by_cases e4 : PF b A j
    · exact .inr ⟨n3 j e4, hp.lt j e4⟩
    by_cases e5 : F j
    · exact .inl e5
    · rw [hL] at hj; simp [e1, e2, e3, e4, e5] at hj
  refine ⟨fun j => L j ≠ 0, ⟨L, d, b, A, c, _, _, none, ⟨hb, l1, ?_, hp, l3, ?_, fun j hj => ?_, ?_, fun j hj => ?_, rfl, fun j hj => ?_, ?_, hT⟩, fun _ => Iff.rfl⟩, fun j hj => (l0 j hj).imp id fun e => e.1⟩
  · rw [show (fun j => L j = 2) = F from funext fun j => propext (l2 j)]
    exact hd
  · have := own_new (n := tabN D.n D.sz) h1 (by simp [nv]) (by simp only [maxLen]; omega)
    simpa [Gp.fresh] using this
  · have : g1 = j := by simpa [Value.ownBlock] using hj
    rw [← this]; exact l4
  · have := own_new (n := capN D.n D.sz) h2 (by simp [nv]) (by simp only [maxLen]; omega)
    simpa [Gp.fresh] using this
  · have : g2 = j := by simpa [Value.ownBlock] using hj
    rw [← this]; exact l5
  · rcases l0 j hj with e | e
    · exact hd.lt j e
    · exact e.2
  · by_cases e : L 0 = 0
    · exact e
    · rcases l0 0 e with e | e
      · exact absurd e h0
      · omega

theorem gmade_mk {ep : Nat} {pg tbl : List Nat} {fe : List Bool} {w0 w : World} {d p g1 g2 b c : Nat} {A : Option Addr} {F : Nat → Prop} {D : Dk} (hd : DS w d F D) (hF0 : ∀ j, F j → j < w0.heap.size) (h0 : ¬ F 0) (hpos : 0 < w0.heap.size) (hT : TabAt 0 tab w) (hpm : pg.length ≤ 100000) (htm : tbl.length ≤ 100000)
    (hb : Blk w p 84 #[.pointer (some ⟨d, 0, none⟩), .int .i64 (ep : Nat), .int .i64 (D.sz / 2 : Nat), .slice (some ⟨g1, 0, none⟩) pg.length pg.length, .slice (some ⟨g2, 0, none⟩) tbl.length tbl.length, .pointer (some ⟨b, 0, none⟩), .pointer none, .bool false])
    (h1 : Blk w g1 3 (nv pg).toArray) (h2 : Blk w g2 3 (nv tbl).toArray) (hne : g1 ≠ g2) (hp : PIn w b fe A c)
    (n0 : w0.heap.size ≤ p) (n1 : w0.heap.size ≤ g1) (n2 : w0.heap.size ≤ g2) (n3 : ∀ j, PF b A j → w0.heap.size ≤ j) :
    ∃ F', GS w p F' ⟨D, ep, D.sz / 2, pg, tbl, fe, none, false⟩ ∧ ∀ j, F' j → F j ∨ w0.heap.size ≤ j := by
  classical
  have d1 : p ≠ g1 := blk_ne hb h1 (by decide)
  have d2 : p ≠ g2 := blk_ne hb h2 (by decide)
  have d3 := pf_ne hp hb (by decide) (by decide)
  have d4 := pf_ne hp h1 (by decide) (by decide)
  have d5 := pf_ne hp h2 (by decide) (by decide)
  obtain ⟨L, hL⟩ : ∃ L : Nat → Nat, L = fun j => if j = p then 1 else if j = g1 then 4 else if j = g2 then 5 else if PF b A j then 3 else if F j then 2 else 0 := ⟨_, rfl⟩
  have l1 : L p = 1 := by rw [hL]; simp
  have l4 : L g1 = 4 := by rw [hL]; simp [Ne.symm d1]
  have l5 : L g2 = 5 := by rw [hL]; simp [Ne.symm d2, Ne.symm hne]
  have l3 : ∀ j, PF b A j → L j = 3 := fun j hj => by
    have e1 : j ≠ p := fun e => d3 (e ▸ hj)
    have e2 : j ≠ g1 := fun e => d4 (e ▸ hj)
    have e3 : j ≠ g2 := fun e => d5 (e ▸ hj)
    rw [hL]; simp [e1, e2, e3, hj]
  have l2 : ∀ j, L j = 2 ↔ F j := fun j => by
    have hlt : F j → j < w0.heap.size := hF0 j
    by_cases e1 : j = p
    · subst e1; rw [l1]; exact ⟨fun e => by omega, fun e => by have := hlt e; omega⟩
    by_cases e2 : j = g1
    · subst e2; rw [l4]; exact ⟨fun e => by omega, fun e => by have := hlt e; omega⟩
    by_cases e3 : j = g2
    · subst e3; rw [l5]; exact ⟨fun e => by omega, fun e => by have := hlt e; omega⟩
    by_cases e4 : PF b A j
    · rw [l3 j e4]; exact ⟨fun e => by omega, fun e => by have := hlt e; have := n3 j e4; omega⟩
    · rw [hL]; by_cases e5 : F j <;> simp [e1, e2, e3, e4, e5]
  have l0 : ∀ j, L j ≠ 0 → F j ∨ (w0.heap.size ≤ j ∧ j < w.heap.size) := fun j hj => by
    by_cases e1 : j = p
    · subst e1; exact .inr ⟨n0, hb.lt⟩
    by_cases e2 : j = g1
    · subst e2; exact .inr ⟨n1, h1.lt⟩
    by_cases e3 : j = g2
    · subst e3; exact .inr ⟨n2, h2.lt⟩
    by_cases e4 : PF b A j
    · exact .inr ⟨n3 j e4, hp.lt j e4⟩
    by_cases e5 : F j
    · exact .inl e5
    · rw [hL] at hj; simp [e1, e2, e3, e4, e5] at hj
  refine ⟨fun j => L j ≠ 0, ⟨L, d, b, A, c, _, _, none, ⟨hb, l1, ?_, hp, l3, ?_, fun j hj => ?_, ?_, fun j hj => ?_, rfl, fun j hj => ?_, ?_, hT⟩, fun _ => Iff.rfl⟩, fun j hj => (l0 j hj).imp id fun e => e.1⟩
  · rw [show (fun j => L j = 2) = F from funext fun j => propext (l2 j)]
    exact hd
  · have := own_new (n := pg.length) h1 (by simp [nv]) (by simp only [maxLen]; omega)
    simpa using this
  · have : g1 = j := by simpa [Value.ownBlock] using hj
    rw [← this]; exact l4
  · have := own_new (n := tbl.length) h2 (by simp [nv]) (by simp only [maxLen]; omega)
    simpa using this
  · have : g2 = j := by simpa [Value.ownBlock] using hj
    rw [← this]; exact l5
  · rcases l0 j hj with e | e
    · exact hd.lt j e
    · exact e.2
  · by_cases e : L 0 = 0
    · exact e
    · rcases l0 0 e with e | e
      · exact absurd e h0
      · omega

/-- A pager that is being opened. -/
structure LoJ (w0 W : World) (p d row g1 g2 b T C ep : Nat) (pg tbl : List Nat) (fe : List Bool) (A : Option Addr) (c : Nat) : Prop where
  blk : Blk W p 84 #[.pointer (some ⟨d, 0, none⟩), .int .i64 (ep : Nat), .int .i64 (row : Nat), .slice (some ⟨g1, 0, none⟩) T T, .slice (some ⟨g2, 0, none⟩) C C, .pointer (some ⟨b, 0, none⟩), .pointer none, .bool false]
  t1 : Blk W g1 3 (nv pg).toArray
  t2 : Blk W g2 3 (nv tbl).toArray
  pool : PIn W b fe A c
  ne : g1 ≠ g2
  new : w0.heap.size ≤ p ∧ w0.heap.size ≤ g1 ∧ w0.heap.size ≤ g2 ∧ ∀ j, PF b A j → w0.heap.size ≤ j
  gr : Grew w0 W
end Go.Proofs.YtjkkoogfaibhiaaGreatDoor

/- The pager: Open. -/
namespace Go.Proofs.YtjkkoogfaibhiaaGreatDoor
open Go.RowKit Go.Maps

set_option maxRecDepth 100000 in
set_option maxHeartbeats 3200000 in
theorem gopen_gen (d : Nat) (F : Nat → Prop) (D : Dk) (w : World) (Q : Nat → List Nat → List Bool → Prop) (ep : Nat) (pg : List Nat) (h : DS w d F D) (hd : D.down = false) (hT : TabAt 0 tab w) (h0 : ¬ F 0) (hn : 8 ≤ D.n) (hz : 64 ≤ D.sz) 
    (hp : ∀ W, DS W d F D → Calls Tryz.prog 56 #[.pointer (some ⟨d, 0, none⟩)] W fun e w' => Grew W w' ∧ ((ep = 0 ∧ e = .returned (.tuple #[.agg #[.int .i64 0, .slice none 0 0], .int .i64 14])) ∨ (1 ≤ ep ∧ ∃ A c, e = .returned (.tuple #[.agg #[.int .i64 (ep : Nat), .slice A pg.length c], .int .i64 0]) ∧ Sl w' 1 A pg.length (nv pg) ∧ ∀ a, A = some a → W.heap.size ≤ a.block)))
    (hpl : 1 ≤ ep → pg.length = tabN D.n D.sz ∧ 0 < pg.length ∧ Q 0 (List.replicate (capN D.n D.sz) 0) (mkd D.n 2)) (hep : ep ≤ 1099511627776)
    (hst : ∀ (p g1 g2 b : Nat) (A : Option Addr) (c k : Nat) (tbl : List Nat) (fe : List Bool) (w0 W : World), LoJ w0 W p d (D.sz / 2) g1 g2 b pg.length (capN D.n D.sz) ep pg tbl fe A c → DS w0 d F D → Q k tbl fe → k < pg.length →
      Calls Tryz.prog 57 #[.pointer (some ⟨p, 0, none⟩), .int .i64 k] W fun e w' => e = .returned (.int .i64 0) ∧ ∃ tbl' fe', LoJ w0 w' p d (D.sz / 2) g1 g2 b pg.length (capN D.n D.sz) ep pg tbl' fe' A c ∧ Q (k + 1) tbl' fe')
    (hQl : ∀ k tbl fe, Q k tbl fe → tbl.length = capN D.n D.sz) :
    Calls Tryz.prog 25 #[.pointer (some ⟨d, 0, none⟩)] w fun e w' => ∃ p F', e = .returned (.tuple #[.pointer (some ⟨p, 0, none⟩), .int .i64 0]) ∧ ((ep = 0 ∧ GS w' p F' (Gp.fresh D)) ∨ (1 ≤ ep ∧ ∃ tbl fe, Q pg.length tbl fe ∧ GS w' p F' ⟨D, ep, D.sz / 2, pg, tbl, fe, none, false⟩)) ∧ Grew w w' ∧ ∀ j, F' j → F j ∨ w.heap.size ≤ j := by
  have hsm := h.sml
  have a1 : decide ((D.n : Int) < 8) = false := decide_eq_false (by omega)
  have a2 : decide ((D.sz : Int) < 64) = false := decide_eq_false (by omega)
  have H := Lib.hid (And.intro h (And.intro hT (And.intro hp (And.intro hpl (And.intro hst hQl)))))
  clear h hT hp hpl hst hQl
  go_enter Tryz.func25, Tryz.ntmps25
  go_wp2_with (first
    | (go_at_call 51; (refine (dsectors_any d F D _ H.out.1).mono ?_); rintro e w1 ⟨rfl, rfl⟩)
    | (go_at_call 52; (refine (dsize_any d F D _ H.out.1).mono ?_); rintro e w1 ⟨rfl, rfl⟩)
    | (go_at_call 53; (refine (places_any D.n D.sz _ hn hsm.2.1 hz hsm.2.2.2).mono ?_); rintro e w1 ⟨rfl, hg1⟩; have HG1 := Lib.hid hg1; clear hg1))
  have hT := tabs_le (D.sz / 2) (D.n - 2) D.sz 64 0
  have hT64 : tabN D.n D.sz ≤ 64 := by unfold tabN; omega
  have hC : capN D.n D.sz ≤ 4096 := by unfold capN; split <;> omega
  have eq2 : (D.sz : Int).tdiv 2 = ((D.sz / 2 : Nat) : Int) := by simp
  have ew2 : IntKind.i64.wrap ((D.sz / 2 : Nat) : Int) = ((D.sz / 2 : Nat) : Int) := wrap_nat (by omega)
  have ew3 : IntKind.i64.wrap ((D.sz : Int) / 2) = ((D.sz / 2 : Nat) : Int) := by have := ew2; simpa using this
  have HG0 := Lib.hid (show Grew w1 w1.drew from (Chg.refl _ _).drew)
  clear hT
  go_cut [6] (fun v wx => OpenJ w1 d (D.sz / 2) (tabN D.n D.sz) (capN D.n D.sz) D.n v wx)
  case first =>
    refine wp_region_held_drew (S := fun _ => True) (by kernel_rfl) trivial (fun _ => ?_)
    refine wpAnyH_take (i := 0) (v := ?_) rfl (by kernel_rfl) (by kernel_rfl) (by kernel_rfl) (fun _ _ _ h => h) (Or.inl ⟨by rfl, ?_⟩) trivial ?_
    rotate_left
    · (intro w hSw; (try dsimp only at hSw); go_simp) <;> with_reducible rfl
    (try simp only [Act.put, List.setIfInBounds_toArray, List.set_cons_zero, List.set_cons_succ])
    refine wpAnyH_take (i := 1) (v := ?_) rfl (by kernel_rfl) (by kernel_rfl) (by kernel_rfl) (fun _ _ _ h => h) (Or.inl ⟨by rfl, ?_⟩) trivial ?_
    rotate_left
    · (intro w hSw; (try dsimp only at hSw); go_simp) <;> with_reducible rfl
    (try simp only [Act.put, List.setIfInBounds_toArray, List.set_cons_zero, List.set_cons_succ])
    refine wpAnyH_take (i := 4) (v := ?_) rfl (by kernel_rfl) (by kernel_rfl) (by kernel_rfl) (fun _ _ _ h => h) (Or.inl ⟨by rfl, ?_⟩) trivial ?_
    rotate_left
    · (intro w hSw; (try dsimp only at hSw); go_simp) <;> with_reducible rfl
    (try simp only [Act.put, List.setIfInBounds_toArray, List.set_cons_zero, List.set_cons_succ])
    refine wpAnyH_take (i := 6) (v := ?_) rfl (by kernel_rfl) (by kernel_rfl) (by kernel_rfl) (fun _ _ _ h => h) (Or.inl ⟨by rfl, ?_⟩) trivial ?_
    rotate_left
    · (intro w hSw; (try dsimp only at hSw); go_simp) <;> with_reducible rfl
    (try simp only [Act.put, List.setIfInBounds_toArray, List.set_cons_zero, List.set_cons_succ])
    refine wpAnyH_take (i := 8) (v := ?_) rfl (by kernel_rfl) (by kernel_rfl) (by kernel_rfl) (fun _ _ _ h => h) (Or.inl ⟨by rfl, ?_⟩) trivial ?_
    rotate_left
    · (intro w hSw; (try dsimp only at hSw); go_simp) <;> with_reducible rfl
    (try simp only [Act.put, List.setIfInBounds_toArray, List.set_cons_zero, List.set_cons_succ])
    obtain ⟨y5, hr5, hB5, hG5, hs5⟩ := make_ints (tabN D.n D.sz) (w1.drew) (by omega)
    obtain ⟨y7, hr7, hB7, hG7, hs7⟩ := make_ints (capN D.n D.sz) (w1.drew) (by omega)
    refine wpAnyH_ready (rs := [2, 5, 7]) (by kernel_rfl) (by simp) ?_
    refine (AllReadyH.cons rfl (fun K hK => ?_) (AllReadyH.cons rfl (fun K hK => ?_) (AllReadyH.cons rfl (fun K hK => ?_) AllReadyH.nil)))
    · go_simp
      refine (dsize_any d F D _ (H.out.1.grew (Grew.trans HG1.out HG0.out))).mono ?_
      rintro e u2 ⟨rfl, rfl⟩
      refine hK.out _ _ trivial (fun _ => ?_)
      clear hK K
      (try simp only [Act.put, List.setIfInBounds_toArray, List.set_cons_zero, List.set_cons_succ])
      clear hr5 hB5 hG5 hs5 y5 hr7 hB7 hG7 hs7 y7
      refine wpAnyH_take (i := 3) (v := ?_) rfl (by kernel_rfl) (by kernel_rfl) (by kernel_rfl) (fun _ _ _ h => h) (Or.inl ⟨by rfl, ?_⟩) trivial ?_
      rotate_left
      · (intro w hSw; (try dsimp only at hSw); go_simp) <;> with_reducible rfl
      (try simp only [Act.put, List.setIfInBounds_toArray, List.set_cons_zero, List.set_cons_succ])
      obtain ⟨y5, hr5, hB5, hG5, hs5⟩ := make_ints (tabN D.n D.sz) (w1.drew) (by omega)
      obtain ⟨y7, hr7, hB7, hG7, hs7⟩ := make_ints (capN D.n D.sz) (w1.drew) (by omega)
      refine wpAnyH_ready (rs := [5, 7, 9]) (by kernel_rfl) (by simp) ?_
      refine (AllReadyH.cons rfl (fun K hK => ?_) (AllReadyH.cons rfl (fun K hK => ?_) (AllReadyH.cons rfl (fun K hK => ?_) AllReadyH.nil)))
      · go_simp
        refine hK.out _ _ trivial (fun _ => ?_)
        clear hK K
        (try simp only [Act.put, List.setIfInBounds_toArray, List.set_cons_zero, List.set_cons_succ])
        have HQ5 := Lib.hid (show NewInts w1 y5 (w1.drew).heap.size (tabN D.n D.sz) from ⟨hB5, HG0.out.size⟩)
        have HLT5 := Lib.hid (show (w1.drew).heap.size < y5.heap.size from HQ5.out.1.lt)
        have HG5 := Lib.hid (Grew.trans HG0.out hG5)
        clear hr5 hB5 hG5 hs5 hr7 hB7 hG7 hs7 y7
        obtain ⟨y7, hr7, hB7, hG7, hs7⟩ := make_ints (capN D.n D.sz) (y5) (by omega)
        refine wpAnyH_ready (rs := [7, 9]) (by kernel_rfl) (by simp) ?_
        refine (AllReadyH.cons rfl (fun K hK => ?_) (AllReadyH.cons rfl (fun K hK => ?_) AllReadyH.nil))
        · go_simp
          refine hK.out _ _ trivial (fun _ => ?_)
          clear hK K
          (try simp only [Act.put, List.setIfInBounds_toArray, List.set_cons_zero, List.set_cons_succ])
          have HQ5 := Lib.hid (HQ5.out.grew hG7)
          have HQ7 := Lib.hid (show NewInts w1 y7 (y5).heap.size (capN D.n D.sz) from ⟨hB7, HG5.out.size⟩)
          have HD := Lib.hid (show (w1.drew).heap.size ≠ (y5).heap.size from Nat.ne_of_lt HLT5.out)
          have HG7 := Lib.hid (Grew.trans HG5.out hG7)
          clear hr7 hB7 hG7 hs7
          refine wpAnyH_ready (rs := [9]) (by kernel_rfl) (by simp) ?_
          refine (AllReadyH.cons rfl (fun K hK => ?_) AllReadyH.nil)
          · go_simp
            refine (dsectors_any d F D _ (H.out.1.grew (Grew.trans HG1.out HG7.out))).mono ?_
            rintro e u2 ⟨rfl, rfl⟩
            refine hK.out _ _ trivial (fun _ => ?_)
            clear hK K
            (try simp only [Act.put, List.setIfInBounds_toArray, List.set_cons_zero, List.set_cons_succ])
            refine wpAnyH_ready (rs := [10]) (by kernel_rfl) (by simp) ?_
            refine (AllReadyH.cons rfl (fun K hK => ?_) AllReadyH.nil)
            · go_simp
              refine (pnew_any D.n _ (by omega)).mono ?_
              rintro e y10 ⟨A10, c10, rfl, hp10, hg10, hn10⟩
              refine hK.out _ _ trivial (fun _ => ?_)
              clear hK K
              (try simp only [Act.put, List.setIfInBounds_toArray, List.set_cons_zero, List.set_cons_succ])
              have HQ5 := Lib.hid (HQ5.out.grew hg10)
              have HQ7 := Lib.hid (HQ7.out.grew hg10)
              have HQ10 := Lib.hid (show NewPool w1 y10 (y7).heap.size D.n A10 c10 from ⟨hp10, fun j hj => Nat.le_trans HG7.out.size (hn10 j hj)⟩)
              have HG10 := Lib.hid (Grew.trans HG7.out hg10)
              clear hp10 hg10 hn10
              refine wpAnyH_take (i := 11) (v := ?_) rfl (by kernel_rfl) (by kernel_rfl) (by kernel_rfl) (fun _ _ _ h => h) (Or.inl ⟨by rfl, ?_⟩) trivial ?_
              rotate_left
              · (intro w hSw; (try dsimp only at hSw); go_simp) <;> with_reducible rfl
              (try simp only [Act.put, List.setIfInBounds_toArray, List.set_cons_zero, List.set_cons_succ])
              refine wpAnyH_ready (rs := [12]) (by kernel_rfl) (by simp) ?_
              refine AllReadyH.cons rfl (fun K hK => ?_) AllReadyH.nil
              go_simp
              refine hK.out _ _ trivial (fun _ => ?_)
              clear hK K
              (try simp only [Act.put, List.setIfInBounds_toArray, List.set_cons_zero, List.set_cons_succ])
              refine wpAnyH_ready (rs := [13]) (by kernel_rfl) (by simp) ?_
              refine AllReadyH.cons rfl (fun K hK => ?_) AllReadyH.nil
              go_simp
              refine hK.out _ _ trivial (fun _ => ?_)
              clear hK K
              (try simp only [Act.put, List.setIfInBounds_toArray, List.set_cons_zero, List.set_cons_succ])
              refine wpAnyH_done (by kernel_rfl) ?_ _
              go_wp2
              go_meet
              exact openJ_mk (by first | exact ew3 | omega) HQ5.out HQ7.out HD.out HQ10.out HG10.out
        · go_simp
          refine (dsectors_any d F D _ (H.out.1.grew (Grew.trans HG1.out HG5.out))).mono ?_
          rintro e u2 ⟨rfl, rfl⟩
          refine hK.out _ _ trivial (fun _ => ?_)
          clear hK K
          (try simp only [Act.put, List.setIfInBounds_toArray, List.set_cons_zero, List.set_cons_succ])
          clear hr7 hB7 hG7 hs7 y7
          obtain ⟨y7, hr7, hB7, hG7, hs7⟩ := make_ints (capN D.n D.sz) (y5) (by omega)
          refine wpAnyH_ready (rs := [7, 10]) (by kernel_rfl) (by simp) ?_
          refine (AllReadyH.cons rfl (fun K hK => ?_) (AllReadyH.cons rfl (fun K hK => ?_) AllReadyH.nil))
          · go_simp
            refine hK.out _ _ trivial (fun _ => ?_)
            clear hK K
            (try simp only [Act.put, List.setIfInBounds_toArray, List.set_cons_zero, List.set_cons_succ])
            have HQ5 := Lib.hid (HQ5.out.grew hG7)
            have HQ7 := Lib.hid (show NewInts w1 y7 (y5).heap.size (capN D.n D.sz) from ⟨hB7, HG5.out.size⟩)
            have HD := Lib.hid (show (w1.drew).heap.size ≠ (y5).heap.size from Nat.ne_of_lt HLT5.out)
            have HG7 := Lib.hid (Grew.trans HG5.out hG7)
            clear hr7 hB7 hG7 hs7
            refine wpAnyH_ready (rs := [10]) (by kernel_rfl) (by simp) ?_
            refine (AllReadyH.cons rfl (fun K hK => ?_) AllReadyH.nil)
            · go_simp
              refine (pnew_any D.n _ (by omega)).mono ?_
              rintro e y10 ⟨A10, c10, rfl, hp10, hg10, hn10⟩
              refine hK.out _ _ trivial (fun _ => ?_)
              clear hK K
              (try simp only [Act.put, List.setIfInBounds_toArray, List.set_cons_zero, List.set_cons_succ])
              have HQ5 := Lib.hid (HQ5.out.grew hg10)
              have HQ7 := Lib.hid (HQ7.out.grew hg10)
              have HQ10 := Lib.hid (show NewPool w1 y10 (y7).heap.size D.n A10 c10 from ⟨hp10, fun j hj => Nat.le_trans HG7.out.size (hn10 j hj)⟩)
              have HG10 := Lib.hid (Grew.trans HG7.out hg10)
              clear hp10 hg10 hn10
              refine wpAnyH_take (i := 11) (v := ?_) rfl (by kernel_rfl) (by kernel_rfl) (by kernel_rfl) (fun _ _ _ h => h) (Or.inl ⟨by rfl, ?_⟩) trivial ?_
              rotate_left
              · (intro w hSw; (try dsimp only at hSw); go_simp) <;> with_reducible rfl
              (try simp only [Act.put, List.setIfInBounds_toArray, List.set_cons_zero, List.set_cons_succ])
              refine wpAnyH_ready (rs := [12]) (by kernel_rfl) (by simp) ?_
              refine AllReadyH.cons rfl (fun K hK => ?_) AllReadyH.nil
              go_simp
              refine hK.out _ _ trivial (fun _ => ?_)
              clear hK K
              (try simp only [Act.put, List.setIfInBounds_toArray, List.set_cons_zero, List.set_cons_succ])
              refine wpAnyH_ready (rs := [13]) (by kernel_rfl) (by simp) ?_
              refine AllReadyH.cons rfl (fun K hK => ?_) AllReadyH.nil
              go_simp
              refine hK.out _ _ trivial (fun _ => ?_)
              clear hK K
              (try simp only [Act.put, List.setIfInBounds_toArray, List.set_cons_zero, List.set_cons_succ])
              refine wpAnyH_done (by kernel_rfl) ?_ _
              go_wp2
              go_meet
              exact openJ_mk (by first | exact ew3 | omega) HQ5.out HQ7.out HD.out HQ10.out HG10.out
          · go_simp
            refine (pnew_any D.n _ (by omega)).mono ?_
            rintro e y10 ⟨A10, c10, rfl, hp10, hg10, hn10⟩
            refine hK.out _ _ trivial (fun _ => ?_)
            clear hK K
            (try simp only [Act.put, List.setIfInBounds_toArray, List.set_cons_zero, List.set_cons_succ])
            have HQ5 := Lib.hid (HQ5.out.grew hg10)
            have HLT5 := Lib.hid (Nat.lt_of_lt_of_le HLT5.out hg10.size)
            have HQ10 := Lib.hid (show NewPool w1 y10 (y5).heap.size D.n A10 c10 from ⟨hp10, fun j hj => Nat.le_trans HG5.out.size (hn10 j hj)⟩)
            have HG10 := Lib.hid (Grew.trans HG5.out hg10)
            clear hp10 hg10 hn10
            clear hr7 hB7 hG7 hs7 y7
            obtain ⟨y7, hr7, hB7, hG7, hs7⟩ := make_ints (capN D.n D.sz) (y10) (by omega)
            refine wpAnyH_ready (rs := [7]) (by kernel_rfl) (by simp) ?_
            refine (AllReadyH.cons rfl (fun K hK => ?_) AllReadyH.nil)
            · go_simp
              refine hK.out _ _ trivial (fun _ => ?_)
              clear hK K
              (try simp only [Act.put, List.setIfInBounds_toArray, List.set_cons_zero, List.set_cons_succ])
              have HQ5 := Lib.hid (HQ5.out.grew hG7)
              have HQ10 := Lib.hid (HQ10.out.grew hG7)
              have HQ7 := Lib.hid (show NewInts w1 y7 (y10).heap.size (capN D.n D.sz) from ⟨hB7, HG10.out.size⟩)
              have HD := Lib.hid (show (w1.drew).heap.size ≠ (y10).heap.size from Nat.ne_of_lt HLT5.out)
              have HG7 := Lib.hid (Grew.trans HG10.out hG7)
              clear hr7 hB7 hG7 hs7
              refine wpAnyH_take (i := 11) (v := ?_) rfl (by kernel_rfl) (by kernel_rfl) (by kernel_rfl) (fun _ _ _ h => h) (Or.inl ⟨by rfl, ?_⟩) trivial ?_
              rotate_left
              · (intro w hSw; (try dsimp only at hSw); go_simp) <;> with_reducible rfl
              (try simp only [Act.put, List.setIfInBounds_toArray, List.set_cons_zero, List.set_cons_succ])
              refine wpAnyH_ready (rs := [12]) (by kernel_rfl) (by simp) ?_
              refine AllReadyH.cons rfl (fun K hK => ?_) AllReadyH.nil
              go_simp
              refine hK.out _ _ trivial (fun _ => ?_)
              clear hK K
              (try simp only [Act.put, List.setIfInBounds_toArray, List.set_cons_zero, List.set_cons_succ])
              refine wpAnyH_ready (rs := [13]) (by kernel_rfl) (by simp) ?_
              refine AllReadyH.cons rfl (fun K hK => ?_) AllReadyH.nil
              go_simp
              refine hK.out _ _ trivial (fun _ => ?_)
              clear hK K
              (try simp only [Act.put, List.setIfInBounds_toArray, List.set_cons_zero, List.set_cons_succ])
              refine wpAnyH_done (by kernel_rfl) ?_ _
              go_wp2
              go_meet
              exact openJ_mk (by first | exact ew3 | omega) HQ5.out HQ7.out HD.out HQ10.out HG7.out
      · go_simp
        refine hK.out _ _ trivial (fun _ => ?_)
        clear hK K
        (try simp only [Act.put, List.setIfInBounds_toArray, List.set_cons_zero, List.set_cons_succ])
        have HQ7 := Lib.hid (show NewInts w1 y7 (w1.drew).heap.size (capN D.n D.sz) from ⟨hB7, HG0.out.size⟩)
        have HLT7 := Lib.hid (show (w1.drew).heap.size < y7.heap.size from HQ7.out.1.lt)
        have HG7 := Lib.hid (Grew.trans HG0.out hG7)
        clear hr7 hB7 hG7 hs7 hr5 hB5 hG5 hs5 y5
        obtain ⟨y5, hr5, hB5, hG5, hs5⟩ := make_ints (tabN D.n D.sz) (y7) (by omega)
        refine wpAnyH_ready (rs := [5, 9]) (by kernel_rfl) (by simp) ?_
        refine (AllReadyH.cons rfl (fun K hK => ?_) (AllReadyH.cons rfl (fun K hK => ?_) AllReadyH.nil))
        · go_simp
          refine hK.out _ _ trivial (fun _ => ?_)
          clear hK K
          (try simp only [Act.put, List.setIfInBounds_toArray, List.set_cons_zero, List.set_cons_succ])
          have HQ7 := Lib.hid (HQ7.out.grew hG5)
          have HQ5 := Lib.hid (show NewInts w1 y5 (y7).heap.size (tabN D.n D.sz) from ⟨hB5, HG7.out.size⟩)
          have HD := Lib.hid (show (y7).heap.size ≠ (w1.drew).heap.size from Ne.symm (Nat.ne_of_lt HLT7.out))
          have HG5 := Lib.hid (Grew.trans HG7.out hG5)
          clear hr5 hB5 hG5 hs5
          refine wpAnyH_ready (rs := [9]) (by kernel_rfl) (by simp) ?_
          refine (AllReadyH.cons rfl (fun K hK => ?_) AllReadyH.nil)
          · go_simp
            refine (dsectors_any d F D _ (H.out.1.grew (Grew.trans HG1.out HG5.out))).mono ?_
            rintro e u2 ⟨rfl, rfl⟩
            refine hK.out _ _ trivial (fun _ => ?_)
            clear hK K
            (try simp only [Act.put, List.setIfInBounds_toArray, List.set_cons_zero, List.set_cons_succ])
            refine wpAnyH_ready (rs := [10]) (by kernel_rfl) (by simp) ?_
            refine (AllReadyH.cons rfl (fun K hK => ?_) AllReadyH.nil)
            · go_simp
              refine (pnew_any D.n _ (by omega)).mono ?_
              rintro e y10 ⟨A10, c10, rfl, hp10, hg10, hn10⟩
              refine hK.out _ _ trivial (fun _ => ?_)
              clear hK K
              (try simp only [Act.put, List.setIfInBounds_toArray, List.set_cons_zero, List.set_cons_succ])
              have HQ7 := Lib.hid (HQ7.out.grew hg10)
              have HQ5 := Lib.hid (HQ5.out.grew hg10)
              have HQ10 := Lib.hid (show NewPool w1 y10 (y5).heap.size D.n A10 c10 from ⟨hp10, fun j hj => Nat.le_trans HG5.out.size (hn10 j hj)⟩)
              have HG10 := Lib.hid (Grew.trans HG5.out hg10)
              clear hp10 hg10 hn10
              refine wpAnyH_take (i := 11) (v := ?_) rfl (by kernel_rfl) (by kernel_rfl) (by kernel_rfl) (fun _ _ _ h => h) (Or.inl ⟨by rfl, ?_⟩) trivial ?_
              rotate_left
              · (intro w hSw; (try dsimp only at hSw); go_simp) <;> with_reducible rfl
              (try simp only [Act.put, List.setIfInBounds_toArray, List.set_cons_zero, List.set_cons_succ])
              refine wpAnyH_ready (rs := [12]) (by kernel_rfl) (by simp) ?_
              refine AllReadyH.cons rfl (fun K hK => ?_) AllReadyH.nil
              go_simp
              refine hK.out _ _ trivial (fun _ => ?_)
              clear hK K
              (try simp only [Act.put, List.setIfInBounds_toArray, List.set_cons_zero, List.set_cons_succ])
              refine wpAnyH_ready (rs := [13]) (by kernel_rfl) (by simp) ?_
              refine AllReadyH.cons rfl (fun K hK => ?_) AllReadyH.nil
              go_simp
              refine hK.out _ _ trivial (fun _ => ?_)
              clear hK K
              (try simp only [Act.put, List.setIfInBounds_toArray, List.set_cons_zero, List.set_cons_succ])
              refine wpAnyH_done (by kernel_rfl) ?_ _
              go_wp2
              go_meet
              exact openJ_mk (by first | exact ew3 | omega) HQ5.out HQ7.out HD.out HQ10.out HG10.out
        · go_simp
          refine (dsectors_any d F D _ (H.out.1.grew (Grew.trans HG1.out HG7.out))).mono ?_
          rintro e u2 ⟨rfl, rfl⟩
          refine hK.out _ _ trivial (fun _ => ?_)
          clear hK K
          (try simp only [Act.put, List.setIfInBounds_toArray, List.set_cons_zero, List.set_cons_succ])
          clear hr5 hB5 hG5 hs5 y5
          obtain ⟨y5, hr5, hB5, hG5, hs5⟩ := make_ints (tabN D.n D.sz) (y7) (by omega)
          refine wpAnyH_ready (rs := [5, 10]) (by kernel_rfl) (by simp) ?_
          refine (AllReadyH.cons rfl (fun K hK => ?_) (AllReadyH.cons rfl (fun K hK => ?_) AllReadyH.nil))
          · go_simp
            refine hK.out _ _ trivial (fun _ => ?_)
            clear hK K
            (try simp only [Act.put, List.setIfInBounds_toArray, List.set_cons_zero, List.set_cons_succ])
            have HQ7 := Lib.hid (HQ7.out.grew hG5)
            have HQ5 := Lib.hid (show NewInts w1 y5 (y7).heap.size (tabN D.n D.sz) from ⟨hB5, HG7.out.size⟩)
            have HD := Lib.hid (show (y7).heap.size ≠ (w1.drew).heap.size from Ne.symm (Nat.ne_of_lt HLT7.out))
            have HG5 := Lib.hid (Grew.trans HG7.out hG5)
            clear hr5 hB5 hG5 hs5
            refine wpAnyH_ready (rs := [10]) (by kernel_rfl) (by simp) ?_
            refine (AllReadyH.cons rfl (fun K hK => ?_) AllReadyH.nil)
            · go_simp
              refine (pnew_any D.n _ (by omega)).mono ?_
              rintro e y10 ⟨A10, c10, rfl, hp10, hg10, hn10⟩
              refine hK.out _ _ trivial (fun _ => ?_)
              clear hK K
              (try simp only [Act.put, List.setIfInBounds_toArray, List.set_cons_zero, List.set_cons_succ])
              have HQ7 := Lib.hid (HQ7.out.grew hg10)
              have HQ5 := Lib.hid (HQ5.out.grew hg10)
              have HQ10 := Lib.hid (show NewPool w1 y10 (y5).heap.size D.n A10 c10 from ⟨hp10, fun j hj => Nat.le_trans HG5.out.size (hn10 j hj)⟩)
              have HG10 := Lib.hid (Grew.trans HG5.out hg10)
              clear hp10 hg10 hn10
              refine wpAnyH_take (i := 11) (v := ?_) rfl (by kernel_rfl) (by kernel_rfl) (by kernel_rfl) (fun _ _ _ h => h) (Or.inl ⟨by rfl, ?_⟩) trivial ?_
              rotate_left
              · (intro w hSw; (try dsimp only at hSw); go_simp) <;> with_reducible rfl
              (try simp only [Act.put, List.setIfInBounds_toArray, List.set_cons_zero, List.set_cons_succ])
              refine wpAnyH_ready (rs := [12]) (by kernel_rfl) (by simp) ?_
              refine AllReadyH.cons rfl (fun K hK => ?_) AllReadyH.nil
              go_simp
              refine hK.out _ _ trivial (fun _ => ?_)
              clear hK K
              (try simp only [Act.put, List.setIfInBounds_toArray, List.set_cons_zero, List.set_cons_succ])
              refine wpAnyH_ready (rs := [13]) (by kernel_rfl) (by simp) ?_
              refine AllReadyH.cons rfl (fun K hK => ?_) AllReadyH.nil
              go_simp
              refine hK.out _ _ trivial (fun _ => ?_)
              clear hK K
              (try simp only [Act.put, List.setIfInBounds_toArray, List.set_cons_zero, List.set_cons_succ])
              refine wpAnyH_done (by kernel_rfl) ?_ _
              go_wp2
              go_meet
              exact openJ_mk (by first | exact ew3 | omega) HQ5.out HQ7.out HD.out HQ10.out HG10.out
          · go_simp
            refine (pnew_any D.n _ (by omega)).mono ?_
            rintro e y10 ⟨A10, c10, rfl, hp10, hg10, hn10⟩
            refine hK.out _ _ trivial (fun _ => ?_)
            clear hK K
            (try simp only [Act.put, List.setIfInBounds_toArray, List.set_cons_zero, List.set_cons_succ])
            have HQ7 := Lib.hid (HQ7.out.grew hg10)
            have HLT7 := Lib.hid (Nat.lt_of_lt_of_le HLT7.out hg10.size)
            have HQ10 := Lib.hid (show NewPool w1 y10 (y7).heap.size D.n A10 c10 from ⟨hp10, fun j hj => Nat.le_trans HG7.out.size (hn10 j hj)⟩)
            have HG10 := Lib.hid (Grew.trans HG7.out hg10)
            clear hp10 hg10 hn10
            clear hr5 hB5 hG5 hs5 y5
            obtain ⟨y5, hr5, hB5, hG5, hs5⟩ := make_ints (tabN D.n D.sz) (y10) (by omega)
            refine wpAnyH_ready (rs := [5]) (by kernel_rfl) (by simp) ?_
            refine (AllReadyH.cons rfl (fun K hK => ?_) AllReadyH.nil)
            · go_simp
              refine hK.out _ _ trivial (fun _ => ?_)
              clear hK K
              (try simp only [Act.put, List.setIfInBounds_toArray, List.set_cons_zero, List.set_cons_succ])
              have HQ7 := Lib.hid (HQ7.out.grew hG5)
              have HQ10 := Lib.hid (HQ10.out.grew hG5)
              have HQ5 := Lib.hid (show NewInts w1 y5 (y10).heap.size (tabN D.n D.sz) from ⟨hB5, HG10.out.size⟩)
              have HD := Lib.hid (show (y10).heap.size ≠ (w1.drew).heap.size from Ne.symm (Nat.ne_of_lt HLT7.out))
              have HG5 := Lib.hid (Grew.trans HG10.out hG5)
              clear hr5 hB5 hG5 hs5
              refine wpAnyH_take (i := 11) (v := ?_) rfl (by kernel_rfl) (by kernel_rfl) (by kernel_rfl) (fun _ _ _ h => h) (Or.inl ⟨by rfl, ?_⟩) trivial ?_
              rotate_left
              · (intro w hSw; (try dsimp only at hSw); go_simp) <;> with_reducible rfl
              (try simp only [Act.put, List.setIfInBounds_toArray, List.set_cons_zero, List.set_cons_succ])
              refine wpAnyH_ready (rs := [12]) (by kernel_rfl) (by simp) ?_
              refine AllReadyH.cons rfl (fun K hK => ?_) AllReadyH.nil
              go_simp
              refine hK.out _ _ trivial (fun _ => ?_)
              clear hK K
              (try simp only [Act.put, List.setIfInBounds_toArray, List.set_cons_zero, List.set_cons_succ])
              refine wpAnyH_ready (rs := [13]) (by kernel_rfl) (by simp) ?_
              refine AllReadyH.cons rfl (fun K hK => ?_) AllReadyH.nil
              go_simp
              refine hK.out _ _ trivial (fun _ => ?_)
              clear hK K
              (try simp only [Act.put, List.setIfInBounds_toArray, List.set_cons_zero, List.set_cons_succ])
              refine wpAnyH_done (by kernel_rfl) ?_ _
              go_wp2
              go_meet
              exact openJ_mk (by first | exact ew3 | omega) HQ5.out HQ7.out HD.out HQ10.out HG5.out
      · go_simp
        refine (dsectors_any d F D _ (H.out.1.grew (Grew.trans HG1.out HG0.out))).mono ?_
        rintro e u2 ⟨rfl, rfl⟩
        refine hK.out _ _ trivial (fun _ => ?_)
        clear hK K
        (try simp only [Act.put, List.setIfInBounds_toArray, List.set_cons_zero, List.set_cons_succ])
        clear hr5 hB5 hG5 hs5 y5 hr7 hB7 hG7 hs7 y7
        obtain ⟨y5, hr5, hB5, hG5, hs5⟩ := make_ints (tabN D.n D.sz) (w1.drew) (by omega)
        obtain ⟨y7, hr7, hB7, hG7, hs7⟩ := make_ints (capN D.n D.sz) (w1.drew) (by omega)
        refine wpAnyH_ready (rs := [5, 7, 10]) (by kernel_rfl) (by simp) ?_
        refine (AllReadyH.cons rfl (fun K hK => ?_) (AllReadyH.cons rfl (fun K hK => ?_) (AllReadyH.cons rfl (fun K hK => ?_) AllReadyH.nil)))
        · go_simp
          refine hK.out _ _ trivial (fun _ => ?_)
          clear hK K
          (try simp only [Act.put, List.setIfInBounds_toArray, List.set_cons_zero, List.set_cons_succ])
          have HQ5 := Lib.hid (show NewInts w1 y5 (w1.drew).heap.size (tabN D.n D.sz) from ⟨hB5, HG0.out.size⟩)
          have HLT5 := Lib.hid (show (w1.drew).heap.size < y5.heap.size from HQ5.out.1.lt)
          have HG5 := Lib.hid (Grew.trans HG0.out hG5)
          clear hr5 hB5 hG5 hs5 hr7 hB7 hG7 hs7 y7
          obtain ⟨y7, hr7, hB7, hG7, hs7⟩ := make_ints (capN D.n D.sz) (y5) (by omega)
          refine wpAnyH_ready (rs := [7, 10]) (by kernel_rfl) (by simp) ?_
          refine (AllReadyH.cons rfl (fun K hK => ?_) (AllReadyH.cons rfl (fun K hK => ?_) AllReadyH.nil))
          · go_simp
            refine hK.out _ _ trivial (fun _ => ?_)
            clear hK K
            (try simp only [Act.put, List.setIfInBounds_toArray, List.set_cons_zero, List.set_cons_succ])
            have HQ5 := Lib.hid (HQ5.out.grew hG7)
            have HQ7 := Lib.hid (show NewInts w1 y7 (y5).heap.size (capN D.n D.sz) from ⟨hB7, HG5.out.size⟩)
            have HD := Lib.hid (show (w1.drew).heap.size ≠ (y5).heap.size from Nat.ne_of_lt HLT5.out)
            have HG7 := Lib.hid (Grew.trans HG5.out hG7)
            clear hr7 hB7 hG7 hs7
            refine wpAnyH_ready (rs := [10]) (by kernel_rfl) (by simp) ?_
            refine (AllReadyH.cons rfl (fun K hK => ?_) AllReadyH.nil)
            · go_simp
              refine (pnew_any D.n _ (by omega)).mono ?_
              rintro e y10 ⟨A10, c10, rfl, hp10, hg10, hn10⟩
              refine hK.out _ _ trivial (fun _ => ?_)
              clear hK K
              (try simp only [Act.put, List.setIfInBounds_toArray, List.set_cons_zero, List.set_cons_succ])
              have HQ5 := Lib.hid (HQ5.out.grew hg10)
              have HQ7 := Lib.hid (HQ7.out.grew hg10)
              have HQ10 := Lib.hid (show NewPool w1 y10 (y7).heap.size D.n A10 c10 from ⟨hp10, fun j hj => Nat.le_trans HG7.out.size (hn10 j hj)⟩)
              have HG10 := Lib.hid (Grew.trans HG7.out hg10)
              clear hp10 hg10 hn10
              refine wpAnyH_take (i := 11) (v := ?_) rfl (by kernel_rfl) (by kernel_rfl) (by kernel_rfl) (fun _ _ _ h => h) (Or.inl ⟨by rfl, ?_⟩) trivial ?_
              rotate_left
              · (intro w hSw; (try dsimp only at hSw); go_simp) <;> with_reducible rfl
              (try simp only [Act.put, List.setIfInBounds_toArray, List.set_cons_zero, List.set_cons_succ])
              refine wpAnyH_ready (rs := [12]) (by kernel_rfl) (by simp) ?_
              refine AllReadyH.cons rfl (fun K hK => ?_) AllReadyH.nil
              go_simp
              refine hK.out _ _ trivial (fun _ => ?_)
              clear hK K
              (try simp only [Act.put, List.setIfInBounds_toArray, List.set_cons_zero, List.set_cons_succ])
              refine wpAnyH_ready (rs := [13]) (by kernel_rfl) (by simp) ?_
              refine AllReadyH.cons rfl (fun K hK => ?_) AllReadyH.nil
              go_simp
              refine hK.out _ _ trivial (fun _ => ?_)
              clear hK K
              (try simp only [Act.put, List.setIfInBounds_toArray, List.set_cons_zero, List.set_cons_succ])
              refine wpAnyH_done (by kernel_rfl) ?_ _
              go_wp2
              go_meet
              exact openJ_mk (by first | exact ew3 | omega) HQ5.out HQ7.out HD.out HQ10.out HG10.out
          · go_simp
            refine (pnew_any D.n _ (by omega)).mono ?_
            rintro e y10 ⟨A10, c10, rfl, hp10, hg10, hn10⟩
            refine hK.out _ _ trivial (fun _ => ?_)
            clear hK K
            (try simp only [Act.put, List.setIfInBounds_toArray, List.set_cons_zero, List.set_cons_succ])
            have HQ5 := Lib.hid (HQ5.out.grew hg10)
            have HLT5 := Lib.hid (Nat.lt_of_lt_of_le HLT5.out hg10.size)
            have HQ10 := Lib.hid (show NewPool w1 y10 (y5).heap.size D.n A10 c10 from ⟨hp10, fun j hj => Nat.le_trans HG5.out.size (hn10 j hj)⟩)
            have HG10 := Lib.hid (Grew.trans HG5.out hg10)
            clear hp10 hg10 hn10
            clear hr7 hB7 hG7 hs7 y7
            obtain ⟨y7, hr7, hB7, hG7, hs7⟩ := make_ints (capN D.n D.sz) (y10) (by omega)
            refine wpAnyH_ready (rs := [7]) (by kernel_rfl) (by simp) ?_
            refine (AllReadyH.cons rfl (fun K hK => ?_) AllReadyH.nil)
            · go_simp
              refine hK.out _ _ trivial (fun _ => ?_)
              clear hK K
              (try simp only [Act.put, List.setIfInBounds_toArray, List.set_cons_zero, List.set_cons_succ])
              have HQ5 := Lib.hid (HQ5.out.grew hG7)
              have HQ10 := Lib.hid (HQ10.out.grew hG7)
              have HQ7 := Lib.hid (show NewInts w1 y7 (y10).heap.size (capN D.n D.sz) from ⟨hB7, HG10.out.size⟩)
              have HD := Lib.hid (show (w1.drew).heap.size ≠ (y10).heap.size from Nat.ne_of_lt HLT5.out)
              have HG7 := Lib.hid (Grew.trans HG10.out hG7)
              clear hr7 hB7 hG7 hs7
              refine wpAnyH_take (i := 11) (v := ?_) rfl (by kernel_rfl) (by kernel_rfl) (by kernel_rfl) (fun _ _ _ h => h) (Or.inl ⟨by rfl, ?_⟩) trivial ?_
              rotate_left
              · (intro w hSw; (try dsimp only at hSw); go_simp) <;> with_reducible rfl
              (try simp only [Act.put, List.setIfInBounds_toArray, List.set_cons_zero, List.set_cons_succ])
              refine wpAnyH_ready (rs := [12]) (by kernel_rfl) (by simp) ?_
              refine AllReadyH.cons rfl (fun K hK => ?_) AllReadyH.nil
              go_simp
              refine hK.out _ _ trivial (fun _ => ?_)
              clear hK K
              (try simp only [Act.put, List.setIfInBounds_toArray, List.set_cons_zero, List.set_cons_succ])
              refine wpAnyH_ready (rs := [13]) (by kernel_rfl) (by simp) ?_
              refine AllReadyH.cons rfl (fun K hK => ?_) AllReadyH.nil
              go_simp
              refine hK.out _ _ trivial (fun _ => ?_)
              clear hK K
              (try simp only [Act.put, List.setIfInBounds_toArray, List.set_cons_zero, List.set_cons_succ])
              refine wpAnyH_done (by kernel_rfl) ?_ _
              go_wp2
              go_meet
              exact openJ_mk (by first | exact ew3 | omega) HQ5.out HQ7.out HD.out HQ10.out HG7.out
        · go_simp
          refine hK.out _ _ trivial (fun _ => ?_)
          clear hK K
          (try simp only [Act.put, List.setIfInBounds_toArray, List.set_cons_zero, List.set_cons_succ])
          have HQ7 := Lib.hid (show NewInts w1 y7 (w1.drew).heap.size (capN D.n D.sz) from ⟨hB7, HG0.out.size⟩)
          have HLT7 := Lib.hid (show (w1.drew).heap.size < y7.heap.size from HQ7.out.1.lt)
          have HG7 := Lib.hid (Grew.trans HG0.out hG7)
          clear hr7 hB7 hG7 hs7 hr5 hB5 hG5 hs5 y5
          obtain ⟨y5, hr5, hB5, hG5, hs5⟩ := make_ints (tabN D.n D.sz) (y7) (by omega)
          refine wpAnyH_ready (rs := [5, 10]) (by kernel_rfl) (by simp) ?_
          refine (AllReadyH.cons rfl (fun K hK => ?_) (AllReadyH.cons rfl (fun K hK => ?_) AllReadyH.nil))
          · go_simp
            refine hK.out _ _ trivial (fun _ => ?_)
            clear hK K
            (try simp only [Act.put, List.setIfInBounds_toArray, List.set_cons_zero, List.set_cons_succ])
            have HQ7 := Lib.hid (HQ7.out.grew hG5)
            have HQ5 := Lib.hid (show NewInts w1 y5 (y7).heap.size (tabN D.n D.sz) from ⟨hB5, HG7.out.size⟩)
            have HD := Lib.hid (show (y7).heap.size ≠ (w1.drew).heap.size from Ne.symm (Nat.ne_of_lt HLT7.out))
            have HG5 := Lib.hid (Grew.trans HG7.out hG5)
            clear hr5 hB5 hG5 hs5
            refine wpAnyH_ready (rs := [10]) (by kernel_rfl) (by simp) ?_
            refine (AllReadyH.cons rfl (fun K hK => ?_) AllReadyH.nil)
            · go_simp
              refine (pnew_any D.n _ (by omega)).mono ?_
              rintro e y10 ⟨A10, c10, rfl, hp10, hg10, hn10⟩
              refine hK.out _ _ trivial (fun _ => ?_)
              clear hK K
              (try simp only [Act.put, List.setIfInBounds_toArray, List.set_cons_zero, List.set_cons_succ])
              have HQ7 := Lib.hid (HQ7.out.grew hg10)
              have HQ5 := Lib.hid (HQ5.out.grew hg10)
              have HQ10 := Lib.hid (show NewPool w1 y10 (y5).heap.size D.n A10 c10 from ⟨hp10, fun j hj => Nat.le_trans HG5.out.size (hn10 j hj)⟩)
              have HG10 := Lib.hid (Grew.trans HG5.out hg10)
              clear hp10 hg10 hn10
              refine wpAnyH_take (i := 11) (v := ?_) rfl (by kernel_rfl) (by kernel_rfl) (by kernel_rfl) (fun _ _ _ h => h) (Or.inl ⟨by rfl, ?_⟩) trivial ?_
              rotate_left
              · (intro w hSw; (try dsimp only at hSw); go_simp) <;> with_reducible rfl
              (try simp only [Act.put, List.setIfInBounds_toArray, List.set_cons_zero, List.set_cons_succ])
              refine wpAnyH_ready (rs := [12]) (by kernel_rfl) (by simp) ?_
              refine AllReadyH.cons rfl (fun K hK => ?_) AllReadyH.nil
              go_simp
              refine hK.out _ _ trivial (fun _ => ?_)
              clear hK K
              (try simp only [Act.put, List.setIfInBounds_toArray, List.set_cons_zero, List.set_cons_succ])
              refine wpAnyH_ready (rs := [13]) (by kernel_rfl) (by simp) ?_
              refine AllReadyH.cons rfl (fun K hK => ?_) AllReadyH.nil
              go_simp
              refine hK.out _ _ trivial (fun _ => ?_)
              clear hK K
              (try simp only [Act.put, List.setIfInBounds_toArray, List.set_cons_zero, List.set_cons_succ])
              refine wpAnyH_done (by kernel_rfl) ?_ _
              go_wp2
              go_meet
              exact openJ_mk (by first | exact ew3 | omega) HQ5.out HQ7.out HD.out HQ10.out HG10.out
          · go_simp
            refine (pnew_any D.n _ (by omega)).mono ?_
            rintro e y10 ⟨A10, c10, rfl, hp10, hg10, hn10⟩
            refine hK.out _ _ trivial (fun _ => ?_)
            clear hK K
            (try simp only [Act.put, List.setIfInBounds_toArray, List.set_cons_zero, List.set_cons_succ])
            have HQ7 := Lib.hid (HQ7.out.grew hg10)
            have HLT7 := Lib.hid (Nat.lt_of_lt_of_le HLT7.out hg10.size)
            have HQ10 := Lib.hid (show NewPool w1 y10 (y7).heap.size D.n A10 c10 from ⟨hp10, fun j hj => Nat.le_trans HG7.out.size (hn10 j hj)⟩)
            have HG10 := Lib.hid (Grew.trans HG7.out hg10)
            clear hp10 hg10 hn10
            clear hr5 hB5 hG5 hs5 y5
            obtain ⟨y5, hr5, hB5, hG5, hs5⟩ := make_ints (tabN D.n D.sz) (y10) (by omega)
            refine wpAnyH_ready (rs := [5]) (by kernel_rfl) (by simp) ?_
            refine (AllReadyH.cons rfl (fun K hK => ?_) AllReadyH.nil)
            · go_simp
              refine hK.out _ _ trivial (fun _ => ?_)
              clear hK K
              (try simp only [Act.put, List.setIfInBounds_toArray, List.set_cons_zero, List.set_cons_succ])
              have HQ7 := Lib.hid (HQ7.out.grew hG5)
              have HQ10 := Lib.hid (HQ10.out.grew hG5)
              have HQ5 := Lib.hid (show NewInts w1 y5 (y10).heap.size (tabN D.n D.sz) from ⟨hB5, HG10.out.size⟩)
              have HD := Lib.hid (show (y10).heap.size ≠ (w1.drew).heap.size from Ne.symm (Nat.ne_of_lt HLT7.out))
              have HG5 := Lib.hid (Grew.trans HG10.out hG5)
              clear hr5 hB5 hG5 hs5
              refine wpAnyH_take (i := 11) (v := ?_) rfl (by kernel_rfl) (by kernel_rfl) (by kernel_rfl) (fun _ _ _ h => h) (Or.inl ⟨by rfl, ?_⟩) trivial ?_
              rotate_left
              · (intro w hSw; (try dsimp only at hSw); go_simp) <;> with_reducible rfl
              (try simp only [Act.put, List.setIfInBounds_toArray, List.set_cons_zero, List.set_cons_succ])
              refine wpAnyH_ready (rs := [12]) (by kernel_rfl) (by simp) ?_
              refine AllReadyH.cons rfl (fun K hK => ?_) AllReadyH.nil
              go_simp
              refine hK.out _ _ trivial (fun _ => ?_)
              clear hK K
              (try simp only [Act.put, List.setIfInBounds_toArray, List.set_cons_zero, List.set_cons_succ])
              refine wpAnyH_ready (rs := [13]) (by kernel_rfl) (by simp) ?_
              refine AllReadyH.cons rfl (fun K hK => ?_) AllReadyH.nil
              go_simp
              refine hK.out _ _ trivial (fun _ => ?_)
              clear hK K
              (try simp only [Act.put, List.setIfInBounds_toArray, List.set_cons_zero, List.set_cons_succ])
              refine wpAnyH_done (by kernel_rfl) ?_ _
              go_wp2
              go_meet
              exact openJ_mk (by first | exact ew3 | omega) HQ5.out HQ7.out HD.out HQ10.out HG5.out
        · go_simp
          refine (pnew_any D.n _ (by omega)).mono ?_
          rintro e y10 ⟨A10, c10, rfl, hp10, hg10, hn10⟩
          refine hK.out _ _ trivial (fun _ => ?_)
          clear hK K
          (try simp only [Act.put, List.setIfInBounds_toArray, List.set_cons_zero, List.set_cons_succ])
          have HQ10 := Lib.hid (show NewPool w1 y10 (w1.drew).heap.size D.n A10 c10 from ⟨hp10, fun j hj => Nat.le_trans HG0.out.size (hn10 j hj)⟩)
          have HG10 := Lib.hid (Grew.trans HG0.out hg10)
          clear hp10 hg10 hn10
          clear hr5 hB5 hG5 hs5 y5 hr7 hB7 hG7 hs7 y7
          obtain ⟨y5, hr5, hB5, hG5, hs5⟩ := make_ints (tabN D.n D.sz) (y10) (by omega)
          obtain ⟨y7, hr7, hB7, hG7, hs7⟩ := make_ints (capN D.n D.sz) (y10) (by omega)
          refine wpAnyH_ready (rs := [5, 7]) (by kernel_rfl) (by simp) ?_
          refine (AllReadyH.cons rfl (fun K hK => ?_) (AllReadyH.cons rfl (fun K hK => ?_) AllReadyH.nil))
          · go_simp
            refine hK.out _ _ trivial (fun _ => ?_)
            clear hK K
            (try simp only [Act.put, List.setIfInBounds_toArray, List.set_cons_zero, List.set_cons_succ])
            have HQ10 := Lib.hid (HQ10.out.grew hG5)
            have HQ5 := Lib.hid (show NewInts w1 y5 (y10).heap.size (tabN D.n D.sz) from ⟨hB5, HG10.out.size⟩)
            have HLT5 := Lib.hid (show (y10).heap.size < y5.heap.size from HQ5.out.1.lt)
            have HG5 := Lib.hid (Grew.trans HG10.out hG5)
            clear hr5 hB5 hG5 hs5 hr7 hB7 hG7 hs7 y7
            obtain ⟨y7, hr7, hB7, hG7, hs7⟩ := make_ints (capN D.n D.sz) (y5) (by omega)
            refine wpAnyH_ready (rs := [7]) (by kernel_rfl) (by simp) ?_
            refine (AllReadyH.cons rfl (fun K hK => ?_) AllReadyH.nil)
            · go_simp
              refine hK.out _ _ trivial (fun _ => ?_)
              clear hK K
              (try simp only [Act.put, List.setIfInBounds_toArray, List.set_cons_zero, List.set_cons_succ])
              have HQ10 := Lib.hid (HQ10.out.grew hG7)
              have HQ5 := Lib.hid (HQ5.out.grew hG7)
              have HQ7 := Lib.hid (show NewInts w1 y7 (y5).heap.size (capN D.n D.sz) from ⟨hB7, HG5.out.size⟩)
              have HD := Lib.hid (show (y10).heap.size ≠ (y5).heap.size from Nat.ne_of_lt HLT5.out)
              have HG7 := Lib.hid (Grew.trans HG5.out hG7)
              clear hr7 hB7 hG7 hs7
              refine wpAnyH_take (i := 11) (v := ?_) rfl (by kernel_rfl) (by kernel_rfl) (by kernel_rfl) (fun _ _ _ h => h) (Or.inl ⟨by rfl, ?_⟩) trivial ?_
              rotate_left
              · (intro w hSw; (try dsimp only at hSw); go_simp) <;> with_reducible rfl
              (try simp only [Act.put, List.setIfInBounds_toArray, List.set_cons_zero, List.set_cons_succ])
              refine wpAnyH_ready (rs := [12]) (by kernel_rfl) (by simp) ?_
              refine AllReadyH.cons rfl (fun K hK => ?_) AllReadyH.nil
              go_simp
              refine hK.out _ _ trivial (fun _ => ?_)
              clear hK K
              (try simp only [Act.put, List.setIfInBounds_toArray, List.set_cons_zero, List.set_cons_succ])
              refine wpAnyH_ready (rs := [13]) (by kernel_rfl) (by simp) ?_
              refine AllReadyH.cons rfl (fun K hK => ?_) AllReadyH.nil
              go_simp
              refine hK.out _ _ trivial (fun _ => ?_)
              clear hK K
              (try simp only [Act.put, List.setIfInBounds_toArray, List.set_cons_zero, List.set_cons_succ])
              refine wpAnyH_done (by kernel_rfl) ?_ _
              go_wp2
              go_meet
              exact openJ_mk (by first | exact ew3 | omega) HQ5.out HQ7.out HD.out HQ10.out HG7.out
          · go_simp
            refine hK.out _ _ trivial (fun _ => ?_)
            clear hK K
            (try simp only [Act.put, List.setIfInBounds_toArray, List.set_cons_zero, List.set_cons_succ])
            have HQ10 := Lib.hid (HQ10.out.grew hG7)
            have HQ7 := Lib.hid (show NewInts w1 y7 (y10).heap.size (capN D.n D.sz) from ⟨hB7, HG10.out.size⟩)
            have HLT7 := Lib.hid (show (y10).heap.size < y7.heap.size from HQ7.out.1.lt)
            have HG7 := Lib.hid (Grew.trans HG10.out hG7)
            clear hr7 hB7 hG7 hs7 hr5 hB5 hG5 hs5 y5
            obtain ⟨y5, hr5, hB5, hG5, hs5⟩ := make_ints (tabN D.n D.sz) (y7) (by omega)
            refine wpAnyH_ready (rs := [5]) (by kernel_rfl) (by simp) ?_
            refine (AllReadyH.cons rfl (fun K hK => ?_) AllReadyH.nil)
            · go_simp
              refine hK.out _ _ trivial (fun _ => ?_)
              clear hK K
              (try simp only [Act.put, List.setIfInBounds_toArray, List.set_cons_zero, List.set_cons_succ])
              have HQ10 := Lib.hid (HQ10.out.grew hG5)
              have HQ7 := Lib.hid (HQ7.out.grew hG5)
              have HQ5 := Lib.hid (show NewInts w1 y5 (y7).heap.size (tabN D.n D.sz) from ⟨hB5, HG7.out.size⟩)
              have HD := Lib.hid (show (y7).heap.size ≠ (y10).heap.size from Ne.symm (Nat.ne_of_lt HLT7.out))
              have HG5 := Lib.hid (Grew.trans HG7.out hG5)
              clear hr5 hB5 hG5 hs5
              refine wpAnyH_take (i := 11) (v := ?_) rfl (by kernel_rfl) (by kernel_rfl) (by kernel_rfl) (fun _ _ _ h => h) (Or.inl ⟨by rfl, ?_⟩) trivial ?_
              rotate_left
              · (intro w hSw; (try dsimp only at hSw); go_simp) <;> with_reducible rfl
              (try simp only [Act.put, List.setIfInBounds_toArray, List.set_cons_zero, List.set_cons_succ])
              refine wpAnyH_ready (rs := [12]) (by kernel_rfl) (by simp) ?_
              refine AllReadyH.cons rfl (fun K hK => ?_) AllReadyH.nil
              go_simp
              refine hK.out _ _ trivial (fun _ => ?_)
              clear hK K
              (try simp only [Act.put, List.setIfInBounds_toArray, List.set_cons_zero, List.set_cons_succ])
              refine wpAnyH_ready (rs := [13]) (by kernel_rfl) (by simp) ?_
              refine AllReadyH.cons rfl (fun K hK => ?_) AllReadyH.nil
              go_simp
              refine hK.out _ _ trivial (fun _ => ?_)
              clear hK K
              (try simp only [Act.put, List.setIfInBounds_toArray, List.set_cons_zero, List.set_cons_succ])
              refine wpAnyH_done (by kernel_rfl) ?_ _
              go_wp2
              go_meet
              exact openJ_mk (by first | exact ew3 | omega) HQ5.out HQ7.out HD.out HQ10.out HG5.out
    · go_simp
      refine hK.out _ _ trivial (fun _ => ?_)
      clear hK K
      (try simp only [Act.put, List.setIfInBounds_toArray, List.set_cons_zero, List.set_cons_succ])
      have HQ5 := Lib.hid (show NewInts w1 y5 (w1.drew).heap.size (tabN D.n D.sz) from ⟨hB5, HG0.out.size⟩)
      have HLT5 := Lib.hid (show (w1.drew).heap.size < y5.heap.size from HQ5.out.1.lt)
      have HG5 := Lib.hid (Grew.trans HG0.out hG5)
      clear hr5 hB5 hG5 hs5 hr7 hB7 hG7 hs7 y7
      obtain ⟨y7, hr7, hB7, hG7, hs7⟩ := make_ints (capN D.n D.sz) (y5) (by omega)
      refine wpAnyH_ready (rs := [2, 7]) (by kernel_rfl) (by simp) ?_
      refine (AllReadyH.cons rfl (fun K hK => ?_) (AllReadyH.cons rfl (fun K hK => ?_) AllReadyH.nil))
      · go_simp
        refine (dsize_any d F D _ (H.out.1.grew (Grew.trans HG1.out HG5.out))).mono ?_
        rintro e u2 ⟨rfl, rfl⟩
        refine hK.out _ _ trivial (fun _ => ?_)
        clear hK K
        (try simp only [Act.put, List.setIfInBounds_toArray, List.set_cons_zero, List.set_cons_succ])
        clear hr7 hB7 hG7 hs7 y7
        refine wpAnyH_take (i := 3) (v := ?_) rfl (by kernel_rfl) (by kernel_rfl) (by kernel_rfl) (fun _ _ _ h => h) (Or.inl ⟨by rfl, ?_⟩) trivial ?_
        rotate_left
        · (intro w hSw; (try dsimp only at hSw); go_simp) <;> with_reducible rfl
        (try simp only [Act.put, List.setIfInBounds_toArray, List.set_cons_zero, List.set_cons_succ])
        obtain ⟨y7, hr7, hB7, hG7, hs7⟩ := make_ints (capN D.n D.sz) (y5) (by omega)
        refine wpAnyH_ready (rs := [7, 9]) (by kernel_rfl) (by simp) ?_
        refine (AllReadyH.cons rfl (fun K hK => ?_) (AllReadyH.cons rfl (fun K hK => ?_) AllReadyH.nil))
        · go_simp
          refine hK.out _ _ trivial (fun _ => ?_)
          clear hK K
          (try simp only [Act.put, List.setIfInBounds_toArray, List.set_cons_zero, List.set_cons_succ])
          have HQ5 := Lib.hid (HQ5.out.grew hG7)
          have HQ7 := Lib.hid (show NewInts w1 y7 (y5).heap.size (capN D.n D.sz) from ⟨hB7, HG5.out.size⟩)
          have HD := Lib.hid (show (w1.drew).heap.size ≠ (y5).heap.size from Nat.ne_of_lt HLT5.out)
          have HG7 := Lib.hid (Grew.trans HG5.out hG7)
          clear hr7 hB7 hG7 hs7
          refine wpAnyH_ready (rs := [9]) (by kernel_rfl) (by simp) ?_
          refine (AllReadyH.cons rfl (fun K hK => ?_) AllReadyH.nil)
          · go_simp
            refine (dsectors_any d F D _ (H.out.1.grew (Grew.trans HG1.out HG7.out))).mono ?_
            rintro e u2 ⟨rfl, rfl⟩
            refine hK.out _ _ trivial (fun _ => ?_)
            clear hK K
            (try simp only [Act.put, List.setIfInBounds_toArray, List.set_cons_zero, List.set_cons_succ])
            refine wpAnyH_ready (rs := [10]) (by kernel_rfl) (by simp) ?_
            refine (AllReadyH.cons rfl (fun K hK => ?_) AllReadyH.nil)
            · go_simp
              refine (pnew_any D.n _ (by omega)).mono ?_
              rintro e y10 ⟨A10, c10, rfl, hp10, hg10, hn10⟩
              refine hK.out _ _ trivial (fun _ => ?_)
              clear hK K
              (try simp only [Act.put, List.setIfInBounds_toArray, List.set_cons_zero, List.set_cons_succ])
              have HQ5 := Lib.hid (HQ5.out.grew hg10)
              have HQ7 := Lib.hid (HQ7.out.grew hg10)
              have HQ10 := Lib.hid (show NewPool w1 y10 (y7).heap.size D.n A10 c10 from ⟨hp10, fun j hj => Nat.le_trans HG7.out.size (hn10 j hj)⟩)
              have HG10 := Lib.hid (Grew.trans HG7.out hg10)
              clear hp10 hg10 hn10
              refine wpAnyH_take (i := 11) (v := ?_) rfl (by kernel_rfl) (by kernel_rfl) (by kernel_rfl) (fun _ _ _ h => h) (Or.inl ⟨by rfl, ?_⟩) trivial ?_
              rotate_left
              · (intro w hSw; (try dsimp only at hSw); go_simp) <;> with_reducible rfl
              (try simp only [Act.put, List.setIfInBounds_toArray, List.set_cons_zero, List.set_cons_succ])
              refine wpAnyH_ready (rs := [12]) (by kernel_rfl) (by simp) ?_
              refine AllReadyH.cons rfl (fun K hK => ?_) AllReadyH.nil
              go_simp
              refine hK.out _ _ trivial (fun _ => ?_)
              clear hK K
              (try simp only [Act.put, List.setIfInBounds_toArray, List.set_cons_zero, List.set_cons_succ])
              refine wpAnyH_ready (rs := [13]) (by kernel_rfl) (by simp) ?_
              refine AllReadyH.cons rfl (fun K hK => ?_) AllReadyH.nil
              go_simp
              refine hK.out _ _ trivial (fun _ => ?_)
              clear hK K
              (try simp only [Act.put, List.setIfInBounds_toArray, List.set_cons_zero, List.set_cons_succ])
              refine wpAnyH_done (by kernel_rfl) ?_ _
              go_wp2
              go_meet
              exact openJ_mk (by first | exact ew3 | omega) HQ5.out HQ7.out HD.out HQ10.out HG10.out
        · go_simp
          refine (dsectors_any d F D _ (H.out.1.grew (Grew.trans HG1.out HG5.out))).mono ?_
          rintro e u2 ⟨rfl, rfl⟩
          refine hK.out _ _ trivial (fun _ => ?_)
          clear hK K
          (try simp only [Act.put, List.setIfInBounds_toArray, List.set_cons_zero, List.set_cons_succ])
          clear hr7 hB7 hG7 hs7 y7
          obtain ⟨y7, hr7, hB7, hG7, hs7⟩ := make_ints (capN D.n D.sz) (y5) (by omega)
          refine wpAnyH_ready (rs := [7, 10]) (by kernel_rfl) (by simp) ?_
          refine (AllReadyH.cons rfl (fun K hK => ?_) (AllReadyH.cons rfl (fun K hK => ?_) AllReadyH.nil))
          · go_simp
            refine hK.out _ _ trivial (fun _ => ?_)
            clear hK K
            (try simp only [Act.put, List.setIfInBounds_toArray, List.set_cons_zero, List.set_cons_succ])
            have HQ5 := Lib.hid (HQ5.out.grew hG7)
            have HQ7 := Lib.hid (show NewInts w1 y7 (y5).heap.size (capN D.n D.sz) from ⟨hB7, HG5.out.size⟩)
            have HD := Lib.hid (show (w1.drew).heap.size ≠ (y5).heap.size from Nat.ne_of_lt HLT5.out)
            have HG7 := Lib.hid (Grew.trans HG5.out hG7)
            clear hr7 hB7 hG7 hs7
            refine wpAnyH_ready (rs := [10]) (by kernel_rfl) (by simp) ?_
            refine (AllReadyH.cons rfl (fun K hK => ?_) AllReadyH.nil)
            · go_simp
              refine (pnew_any D.n _ (by omega)).mono ?_
              rintro e y10 ⟨A10, c10, rfl, hp10, hg10, hn10⟩
              refine hK.out _ _ trivial (fun _ => ?_)
              clear hK K
              (try simp only [Act.put, List.setIfInBounds_toArray, List.set_cons_zero, List.set_cons_succ])
              have HQ5 := Lib.hid (HQ5.out.grew hg10)
              have HQ7 := Lib.hid (HQ7.out.grew hg10)
              have HQ10 := Lib.hid (show NewPool w1 y10 (y7).heap.size D.n A10 c10 from ⟨hp10, fun j hj => Nat.le_trans HG7.out.size (hn10 j hj)⟩)
              have HG10 := Lib.hid (Grew.trans HG7.out hg10)
              clear hp10 hg10 hn10
              refine wpAnyH_take (i := 11) (v := ?_) rfl (by kernel_rfl) (by kernel_rfl) (by kernel_rfl) (fun _ _ _ h => h) (Or.inl ⟨by rfl, ?_⟩) trivial ?_
              rotate_left
              · (intro w hSw; (try dsimp only at hSw); go_simp) <;> with_reducible rfl
              (try simp only [Act.put, List.setIfInBounds_toArray, List.set_cons_zero, List.set_cons_succ])
              refine wpAnyH_ready (rs := [12]) (by kernel_rfl) (by simp) ?_
              refine AllReadyH.cons rfl (fun K hK => ?_) AllReadyH.nil
              go_simp
              refine hK.out _ _ trivial (fun _ => ?_)
              clear hK K
              (try simp only [Act.put, List.setIfInBounds_toArray, List.set_cons_zero, List.set_cons_succ])
              refine wpAnyH_ready (rs := [13]) (by kernel_rfl) (by simp) ?_
              refine AllReadyH.cons rfl (fun K hK => ?_) AllReadyH.nil
              go_simp
              refine hK.out _ _ trivial (fun _ => ?_)
              clear hK K
              (try simp only [Act.put, List.setIfInBounds_toArray, List.set_cons_zero, List.set_cons_succ])
              refine wpAnyH_done (by kernel_rfl) ?_ _
              go_wp2
              go_meet
              exact openJ_mk (by first | exact ew3 | omega) HQ5.out HQ7.out HD.out HQ10.out HG10.out
          · go_simp
            refine (pnew_any D.n _ (by omega)).mono ?_
            rintro e y10 ⟨A10, c10, rfl, hp10, hg10, hn10⟩
            refine hK.out _ _ trivial (fun _ => ?_)
            clear hK K
            (try simp only [Act.put, List.setIfInBounds_toArray, List.set_cons_zero, List.set_cons_succ])
            have HQ5 := Lib.hid (HQ5.out.grew hg10)
            have HLT5 := Lib.hid (Nat.lt_of_lt_of_le HLT5.out hg10.size)
            have HQ10 := Lib.hid (show NewPool w1 y10 (y5).heap.size D.n A10 c10 from ⟨hp10, fun j hj => Nat.le_trans HG5.out.size (hn10 j hj)⟩)
            have HG10 := Lib.hid (Grew.trans HG5.out hg10)
            clear hp10 hg10 hn10
            clear hr7 hB7 hG7 hs7 y7
            obtain ⟨y7, hr7, hB7, hG7, hs7⟩ := make_ints (capN D.n D.sz) (y10) (by omega)
            refine wpAnyH_ready (rs := [7]) (by kernel_rfl) (by simp) ?_
            refine (AllReadyH.cons rfl (fun K hK => ?_) AllReadyH.nil)
            · go_simp
              refine hK.out _ _ trivial (fun _ => ?_)
              clear hK K
              (try simp only [Act.put, List.setIfInBounds_toArray, List.set_cons_zero, List.set_cons_succ])
              have HQ5 := Lib.hid (HQ5.out.grew hG7)
              have HQ10 := Lib.hid (HQ10.out.grew hG7)
              have HQ7 := Lib.hid (show NewInts w1 y7 (y10).heap.size (capN D.n D.sz) from ⟨hB7, HG10.out.size⟩)
              have HD := Lib.hid (show (w1.drew).heap.size ≠ (y10).heap.size from Nat.ne_of_lt HLT5.out)
              have HG7 := Lib.hid (Grew.trans HG10.out hG7)
              clear hr7 hB7 hG7 hs7
              refine wpAnyH_take (i := 11) (v := ?_) rfl (by kernel_rfl) (by kernel_rfl) (by kernel_rfl) (fun _ _ _ h => h) (Or.inl ⟨by rfl, ?_⟩) trivial ?_
              rotate_left
              · (intro w hSw; (try dsimp only at hSw); go_simp) <;> with_reducible rfl
              (try simp only [Act.put, List.setIfInBounds_toArray, List.set_cons_zero, List.set_cons_succ])
              refine wpAnyH_ready (rs := [12]) (by kernel_rfl) (by simp) ?_
              refine AllReadyH.cons rfl (fun K hK => ?_) AllReadyH.nil
              go_simp
              refine hK.out _ _ trivial (fun _ => ?_)
              clear hK K
              (try simp only [Act.put, List.setIfInBounds_toArray, List.set_cons_zero, List.set_cons_succ])
              refine wpAnyH_ready (rs := [13]) (by kernel_rfl) (by simp) ?_
              refine AllReadyH.cons rfl (fun K hK => ?_) AllReadyH.nil
              go_simp
              refine hK.out _ _ trivial (fun _ => ?_)
              clear hK K
              (try simp only [Act.put, List.setIfInBounds_toArray, List.set_cons_zero, List.set_cons_succ])
              refine wpAnyH_done (by kernel_rfl) ?_ _
              go_wp2
              go_meet
              exact openJ_mk (by first | exact ew3 | omega) HQ5.out HQ7.out HD.out HQ10.out HG7.out
      · go_simp
        refine hK.out _ _ trivial (fun _ => ?_)
        clear hK K
        (try simp only [Act.put, List.setIfInBounds_toArray, List.set_cons_zero, List.set_cons_succ])
        have HQ5 := Lib.hid (HQ5.out.grew hG7)
        have HQ7 := Lib.hid (show NewInts w1 y7 (y5).heap.size (capN D.n D.sz) from ⟨hB7, HG5.out.size⟩)
        have HD := Lib.hid (show (w1.drew).heap.size ≠ (y5).heap.size from Nat.ne_of_lt HLT5.out)
        have HG7 := Lib.hid (Grew.trans HG5.out hG7)
        clear hr7 hB7 hG7 hs7
        refine wpAnyH_ready (rs := [2]) (by kernel_rfl) (by simp) ?_
        refine (AllReadyH.cons rfl (fun K hK => ?_) AllReadyH.nil)
        · go_simp
          refine (dsize_any d F D _ (H.out.1.grew (Grew.trans HG1.out HG7.out))).mono ?_
          rintro e u2 ⟨rfl, rfl⟩
          refine hK.out _ _ trivial (fun _ => ?_)
          clear hK K
          (try simp only [Act.put, List.setIfInBounds_toArray, List.set_cons_zero, List.set_cons_succ])
          refine wpAnyH_take (i := 3) (v := ?_) rfl (by kernel_rfl) (by kernel_rfl) (by kernel_rfl) (fun _ _ _ h => h) (Or.inl ⟨by rfl, ?_⟩) trivial ?_
          rotate_left
          · (intro w hSw; (try dsimp only at hSw); go_simp) <;> with_reducible rfl
          (try simp only [Act.put, List.setIfInBounds_toArray, List.set_cons_zero, List.set_cons_succ])
          refine wpAnyH_ready (rs := [9]) (by kernel_rfl) (by simp) ?_
          refine (AllReadyH.cons rfl (fun K hK => ?_) AllReadyH.nil)
          · go_simp
            refine (dsectors_any d F D _ (H.out.1.grew (Grew.trans HG1.out HG7.out))).mono ?_
            rintro e u2 ⟨rfl, rfl⟩
            refine hK.out _ _ trivial (fun _ => ?_)
            clear hK K
            (try simp only [Act.put, List.setIfInBounds_toArray, List.set_cons_zero, List.set_cons_succ])
            refine wpAnyH_ready (rs := [10]) (by kernel_rfl) (by simp) ?_
            refine (AllReadyH.cons rfl (fun K hK => ?_) AllReadyH.nil)
            · go_simp
              refine (pnew_any D.n _ (by omega)).mono ?_
              rintro e y10 ⟨A10, c10, rfl, hp10, hg10, hn10⟩
              refine hK.out _ _ trivial (fun _ => ?_)
              clear hK K
              (try simp only [Act.put, List.setIfInBounds_toArray, List.set_cons_zero, List.set_cons_succ])
              have HQ5 := Lib.hid (HQ5.out.grew hg10)
              have HQ7 := Lib.hid (HQ7.out.grew hg10)
              have HQ10 := Lib.hid (show NewPool w1 y10 (y7).heap.size D.n A10 c10 from ⟨hp10, fun j hj => Nat.le_trans HG7.out.size (hn10 j hj)⟩)
              have HG10 := Lib.hid (Grew.trans HG7.out hg10)
              clear hp10 hg10 hn10
              refine wpAnyH_take (i := 11) (v := ?_) rfl (by kernel_rfl) (by kernel_rfl) (by kernel_rfl) (fun _ _ _ h => h) (Or.inl ⟨by rfl, ?_⟩) trivial ?_
              rotate_left
              · (intro w hSw; (try dsimp only at hSw); go_simp) <;> with_reducible rfl
              (try simp only [Act.put, List.setIfInBounds_toArray, List.set_cons_zero, List.set_cons_succ])
              refine wpAnyH_ready (rs := [12]) (by kernel_rfl) (by simp) ?_
              refine AllReadyH.cons rfl (fun K hK => ?_) AllReadyH.nil
              go_simp
              refine hK.out _ _ trivial (fun _ => ?_)
              clear hK K
              (try simp only [Act.put, List.setIfInBounds_toArray, List.set_cons_zero, List.set_cons_succ])
              refine wpAnyH_ready (rs := [13]) (by kernel_rfl) (by simp) ?_
              refine AllReadyH.cons rfl (fun K hK => ?_) AllReadyH.nil
              go_simp
              refine hK.out _ _ trivial (fun _ => ?_)
              clear hK K
              (try simp only [Act.put, List.setIfInBounds_toArray, List.set_cons_zero, List.set_cons_succ])
              refine wpAnyH_done (by kernel_rfl) ?_ _
              go_wp2
              go_meet
              exact openJ_mk (by first | exact ew3 | omega) HQ5.out HQ7.out HD.out HQ10.out HG10.out
    · go_simp
      refine hK.out _ _ trivial (fun _ => ?_)
      clear hK K
      (try simp only [Act.put, List.setIfInBounds_toArray, List.set_cons_zero, List.set_cons_succ])
      have HQ7 := Lib.hid (show NewInts w1 y7 (w1.drew).heap.size (capN D.n D.sz) from ⟨hB7, HG0.out.size⟩)
      have HLT7 := Lib.hid (show (w1.drew).heap.size < y7.heap.size from HQ7.out.1.lt)
      have HG7 := Lib.hid (Grew.trans HG0.out hG7)
      clear hr7 hB7 hG7 hs7 hr5 hB5 hG5 hs5 y5
      obtain ⟨y5, hr5, hB5, hG5, hs5⟩ := make_ints (tabN D.n D.sz) (y7) (by omega)
      refine wpAnyH_ready (rs := [2, 5]) (by kernel_rfl) (by simp) ?_
      refine (AllReadyH.cons rfl (fun K hK => ?_) (AllReadyH.cons rfl (fun K hK => ?_) AllReadyH.nil))
      · go_simp
        refine (dsize_any d F D _ (H.out.1.grew (Grew.trans HG1.out HG7.out))).mono ?_
        rintro e u2 ⟨rfl, rfl⟩
        refine hK.out _ _ trivial (fun _ => ?_)
        clear hK K
        (try simp only [Act.put, List.setIfInBounds_toArray, List.set_cons_zero, List.set_cons_succ])
        clear hr5 hB5 hG5 hs5 y5
        refine wpAnyH_take (i := 3) (v := ?_) rfl (by kernel_rfl) (by kernel_rfl) (by kernel_rfl) (fun _ _ _ h => h) (Or.inl ⟨by rfl, ?_⟩) trivial ?_
        rotate_left
        · (intro w hSw; (try dsimp only at hSw); go_simp) <;> with_reducible rfl
        (try simp only [Act.put, List.setIfInBounds_toArray, List.set_cons_zero, List.set_cons_succ])
        obtain ⟨y5, hr5, hB5, hG5, hs5⟩ := make_ints (tabN D.n D.sz) (y7) (by omega)
        refine wpAnyH_ready (rs := [5, 9]) (by kernel_rfl) (by simp) ?_
        refine (AllReadyH.cons rfl (fun K hK => ?_) (AllReadyH.cons rfl (fun K hK => ?_) AllReadyH.nil))
        · go_simp
          refine hK.out _ _ trivial (fun _ => ?_)
          clear hK K
          (try simp only [Act.put, List.setIfInBounds_toArray, List.set_cons_zero, List.set_cons_succ])
          have HQ7 := Lib.hid (HQ7.out.grew hG5)
          have HQ5 := Lib.hid (show NewInts w1 y5 (y7).heap.size (tabN D.n D.sz) from ⟨hB5, HG7.out.size⟩)
          have HD := Lib.hid (show (y7).heap.size ≠ (w1.drew).heap.size from Ne.symm (Nat.ne_of_lt HLT7.out))
          have HG5 := Lib.hid (Grew.trans HG7.out hG5)
          clear hr5 hB5 hG5 hs5
          refine wpAnyH_ready (rs := [9]) (by kernel_rfl) (by simp) ?_
          refine (AllReadyH.cons rfl (fun K hK => ?_) AllReadyH.nil)
          · go_simp
            refine (dsectors_any d F D _ (H.out.1.grew (Grew.trans HG1.out HG5.out))).mono ?_
            rintro e u2 ⟨rfl, rfl⟩
            refine hK.out _ _ trivial (fun _ => ?_)
            clear hK K
            (try simp only [Act.put, List.setIfInBounds_toArray, List.set_cons_zero, List.set_cons_succ])
            refine wpAnyH_ready (rs := [10]) (by kernel_rfl) (by simp) ?_
            refine (AllReadyH.cons rfl (fun K hK => ?_) AllReadyH.nil)
            · go_simp
              refine (pnew_any D.n _ (by omega)).mono ?_
              rintro e y10 ⟨A10, c10, rfl, hp10, hg10, hn10⟩
              refine hK.out _ _ trivial (fun _ => ?_)
              clear hK K
              (try simp only [Act.put, List.setIfInBounds_toArray, List.set_cons_zero, List.set_cons_succ])
              have HQ7 := Lib.hid (HQ7.out.grew hg10)
              have HQ5 := Lib.hid (HQ5.out.grew hg10)
              have HQ10 := Lib.hid (show NewPool w1 y10 (y5).heap.size D.n A10 c10 from ⟨hp10, fun j hj => Nat.le_trans HG5.out.size (hn10 j hj)⟩)
              have HG10 := Lib.hid (Grew.trans HG5.out hg10)
              clear hp10 hg10 hn10
              refine wpAnyH_take (i := 11) (v := ?_) rfl (by kernel_rfl) (by kernel_rfl) (by kernel_rfl) (fun _ _ _ h => h) (Or.inl ⟨by rfl, ?_⟩) trivial ?_
              rotate_left
              · (intro w hSw; (try dsimp only at hSw); go_simp) <;> with_reducible rfl
              (try simp only [Act.put, List.setIfInBounds_toArray, List.set_cons_zero, List.set_cons_succ])
              refine wpAnyH_ready (rs := [12]) (by kernel_rfl) (by simp) ?_
              refine AllReadyH.cons rfl (fun K hK => ?_) AllReadyH.nil
              go_simp
              refine hK.out _ _ trivial (fun _ => ?_)
              clear hK K
              (try simp only [Act.put, List.setIfInBounds_toArray, List.set_cons_zero, List.set_cons_succ])
              refine wpAnyH_ready (rs := [13]) (by kernel_rfl) (by simp) ?_
              refine AllReadyH.cons rfl (fun K hK => ?_) AllReadyH.nil
              go_simp
              refine hK.out _ _ trivial (fun _ => ?_)
              clear hK K
              (try simp only [Act.put, List.setIfInBounds_toArray, List.set_cons_zero, List.set_cons_succ])
              refine wpAnyH_done (by kernel_rfl) ?_ _
              go_wp2
              go_meet
              exact openJ_mk (by first | exact ew3 | omega) HQ5.out HQ7.out HD.out HQ10.out HG10.out
        · go_simp
          refine (dsectors_any d F D _ (H.out.1.grew (Grew.trans HG1.out HG7.out))).mono ?_
          rintro e u2 ⟨rfl, rfl⟩
          refine hK.out _ _ trivial (fun _ => ?_)
          clear hK K
          (try simp only [Act.put, List.setIfInBounds_toArray, List.set_cons_zero, List.set_cons_succ])
          clear hr5 hB5 hG5 hs5 y5
          obtain ⟨y5, hr5, hB5, hG5, hs5⟩ := make_ints (tabN D.n D.sz) (y7) (by omega)
          refine wpAnyH_ready (rs := [5, 10]) (by kernel_rfl) (by simp) ?_
          refine (AllReadyH.cons rfl (fun K hK => ?_) (AllReadyH.cons rfl (fun K hK => ?_) AllReadyH.nil))
          · go_simp
            refine hK.out _ _ trivial (fun _ => ?_)
            clear hK K
            (try simp only [Act.put, List.setIfInBounds_toArray, List.set_cons_zero, List.set_cons_succ])
            have HQ7 := Lib.hid (HQ7.out.grew hG5)
            have HQ5 := Lib.hid (show NewInts w1 y5 (y7).heap.size (tabN D.n D.sz) from ⟨hB5, HG7.out.size⟩)
            have HD := Lib.hid (show (y7).heap.size ≠ (w1.drew).heap.size from Ne.symm (Nat.ne_of_lt HLT7.out))
            have HG5 := Lib.hid (Grew.trans HG7.out hG5)
            clear hr5 hB5 hG5 hs5
            refine wpAnyH_ready (rs := [10]) (by kernel_rfl) (by simp) ?_
            refine (AllReadyH.cons rfl (fun K hK => ?_) AllReadyH.nil)
            · go_simp
              refine (pnew_any D.n _ (by omega)).mono ?_
              rintro e y10 ⟨A10, c10, rfl, hp10, hg10, hn10⟩
              refine hK.out _ _ trivial (fun _ => ?_)
              clear hK K
              (try simp only [Act.put, List.setIfInBounds_toArray, List.set_cons_zero, List.set_cons_succ])
              have HQ7 := Lib.hid (HQ7.out.grew hg10)
              have HQ5 := Lib.hid (HQ5.out.grew hg10)
              have HQ10 := Lib.hid (show NewPool w1 y10 (y5).heap.size D.n A10 c10 from ⟨hp10, fun j hj => Nat.le_trans HG5.out.size (hn10 j hj)⟩)
              have HG10 := Lib.hid (Grew.trans HG5.out hg10)
              clear hp10 hg10 hn10
              refine wpAnyH_take (i := 11) (v := ?_) rfl (by kernel_rfl) (by kernel_rfl) (by kernel_rfl) (fun _ _ _ h => h) (Or.inl ⟨by rfl, ?_⟩) trivial ?_
              rotate_left
              · (intro w hSw; (try dsimp only at hSw); go_simp) <;> with_reducible rfl
              (try simp only [Act.put, List.setIfInBounds_toArray, List.set_cons_zero, List.set_cons_succ])
              refine wpAnyH_ready (rs := [12]) (by kernel_rfl) (by simp) ?_
              refine AllReadyH.cons rfl (fun K hK => ?_) AllReadyH.nil
              go_simp
              refine hK.out _ _ trivial (fun _ => ?_)
              clear hK K
              (try simp only [Act.put, List.setIfInBounds_toArray, List.set_cons_zero, List.set_cons_succ])
              refine wpAnyH_ready (rs := [13]) (by kernel_rfl) (by simp) ?_
              refine AllReadyH.cons rfl (fun K hK => ?_) AllReadyH.nil
              go_simp
              refine hK.out _ _ trivial (fun _ => ?_)
              clear hK K
              (try simp only [Act.put, List.setIfInBounds_toArray, List.set_cons_zero, List.set_cons_succ])
              refine wpAnyH_done (by kernel_rfl) ?_ _
              go_wp2
              go_meet
              exact openJ_mk (by first | exact ew3 | omega) HQ5.out HQ7.out HD.out HQ10.out HG10.out
          · go_simp
            refine (pnew_any D.n _ (by omega)).mono ?_
            rintro e y10 ⟨A10, c10, rfl, hp10, hg10, hn10⟩
            refine hK.out _ _ trivial (fun _ => ?_)
            clear hK K
            (try simp only [Act.put, List.setIfInBounds_toArray, List.set_cons_zero, List.set_cons_succ])
            have HQ7 := Lib.hid (HQ7.out.grew hg10)
            have HLT7 := Lib.hid (Nat.lt_of_lt_of_le HLT7.out hg10.size)
            have HQ10 := Lib.hid (show NewPool w1 y10 (y7).heap.size D.n A10 c10 from ⟨hp10, fun j hj => Nat.le_trans HG7.out.size (hn10 j hj)⟩)
            have HG10 := Lib.hid (Grew.trans HG7.out hg10)
            clear hp10 hg10 hn10
            clear hr5 hB5 hG5 hs5 y5
            obtain ⟨y5, hr5, hB5, hG5, hs5⟩ := make_ints (tabN D.n D.sz) (y10) (by omega)
            refine wpAnyH_ready (rs := [5]) (by kernel_rfl) (by simp) ?_
            refine (AllReadyH.cons rfl (fun K hK => ?_) AllReadyH.nil)
            · go_simp
              refine hK.out _ _ trivial (fun _ => ?_)
              clear hK K
              (try simp only [Act.put, List.setIfInBounds_toArray, List.set_cons_zero, List.set_cons_succ])
              have HQ7 := Lib.hid (HQ7.out.grew hG5)
              have HQ10 := Lib.hid (HQ10.out.grew hG5)
              have HQ5 := Lib.hid (show NewInts w1 y5 (y10).heap.size (tabN D.n D.sz) from ⟨hB5, HG10.out.size⟩)
              have HD := Lib.hid (show (y10).heap.size ≠ (w1.drew).heap.size from Ne.symm (Nat.ne_of_lt HLT7.out))
              have HG5 := Lib.hid (Grew.trans HG10.out hG5)
              clear hr5 hB5 hG5 hs5
              refine wpAnyH_take (i := 11) (v := ?_) rfl (by kernel_rfl) (by kernel_rfl) (by kernel_rfl) (fun _ _ _ h => h) (Or.inl ⟨by rfl, ?_⟩) trivial ?_
              rotate_left
              · (intro w hSw; (try dsimp only at hSw); go_simp) <;> with_reducible rfl
              (try simp only [Act.put, List.setIfInBounds_toArray, List.set_cons_zero, List.set_cons_succ])
              refine wpAnyH_ready (rs := [12]) (by kernel_rfl) (by simp) ?_
              refine AllReadyH.cons rfl (fun K hK => ?_) AllReadyH.nil
              go_simp
              refine hK.out _ _ trivial (fun _ => ?_)
              clear hK K
              (try simp only [Act.put, List.setIfInBounds_toArray, List.set_cons_zero, List.set_cons_succ])
              refine wpAnyH_ready (rs := [13]) (by kernel_rfl) (by simp) ?_
              refine AllReadyH.cons rfl (fun K hK => ?_) AllReadyH.nil
              go_simp
              refine hK.out _ _ trivial (fun _ => ?_)
              clear hK K
              (try simp only [Act.put, List.setIfInBounds_toArray, List.set_cons_zero, List.set_cons_succ])
              refine wpAnyH_done (by kernel_rfl) ?_ _
              go_wp2
              go_meet
              exact openJ_mk (by first | exact ew3 | omega) HQ5.out HQ7.out HD.out HQ10.out HG5.out
      · go_simp
        refine hK.out _ _ trivial (fun _ => ?_)
        clear hK K
        (try simp only [Act.put, List.setIfInBounds_toArray, List.set_cons_zero, List.set_cons_succ])
        have HQ7 := Lib.hid (HQ7.out.grew hG5)
        have HQ5 := Lib.hid (show NewInts w1 y5 (y7).heap.size (tabN D.n D.sz) from ⟨hB5, HG7.out.size⟩)
        have HD := Lib.hid (show (y7).heap.size ≠ (w1.drew).heap.size from Ne.symm (Nat.ne_of_lt HLT7.out))
        have HG5 := Lib.hid (Grew.trans HG7.out hG5)
        clear hr5 hB5 hG5 hs5
        refine wpAnyH_ready (rs := [2]) (by kernel_rfl) (by simp) ?_
        refine (AllReadyH.cons rfl (fun K hK => ?_) AllReadyH.nil)
        · go_simp
          refine (dsize_any d F D _ (H.out.1.grew (Grew.trans HG1.out HG5.out))).mono ?_
          rintro e u2 ⟨rfl, rfl⟩
          refine hK.out _ _ trivial (fun _ => ?_)
          clear hK K
          (try simp only [Act.put, List.setIfInBounds_toArray, List.set_cons_zero, List.set_cons_succ])
          refine wpAnyH_take (i := 3) (v := ?_) rfl (by kernel_rfl) (by kernel_rfl) (by kernel_rfl) (fun _ _ _ h => h) (Or.inl ⟨by rfl, ?_⟩) trivial ?_
          rotate_left
          · (intro w hSw; (try dsimp only at hSw); go_simp) <;> with_reducible rfl
          (try simp only [Act.put, List.setIfInBounds_toArray, List.set_cons_zero, List.set_cons_succ])
          refine wpAnyH_ready (rs := [9]) (by kernel_rfl) (by simp) ?_
          refine (AllReadyH.cons rfl (fun K hK => ?_) AllReadyH.nil)
          · go_simp
            refine (dsectors_any d F D _ (H.out.1.grew (Grew.trans HG1.out HG5.out))).mono ?_
            rintro e u2 ⟨rfl, rfl⟩
            refine hK.out _ _ trivial (fun _ => ?_)
            clear hK K
            (try simp only [Act.put, List.setIfInBounds_toArray, List.set_cons_zero, List.set_cons_succ])
            refine wpAnyH_ready (rs := [10]) (by kernel_rfl) (by simp) ?_
            refine (AllReadyH.cons rfl (fun K hK => ?_) AllReadyH.nil)
            · go_simp
              refine (pnew_any D.n _ (by omega)).mono ?_
              rintro e y10 ⟨A10, c10, rfl, hp10, hg10, hn10⟩
              refine hK.out _ _ trivial (fun _ => ?_)
              clear hK K
              (try simp only [Act.put, List.setIfInBounds_toArray, List.set_cons_zero, List.set_cons_succ])
              have HQ7 := Lib.hid (HQ7.out.grew hg10)
              have HQ5 := Lib.hid (HQ5.out.grew hg10)
              have HQ10 := Lib.hid (show NewPool w1 y10 (y5).heap.size D.n A10 c10 from ⟨hp10, fun j hj => Nat.le_trans HG5.out.size (hn10 j hj)⟩)
              have HG10 := Lib.hid (Grew.trans HG5.out hg10)
              clear hp10 hg10 hn10
              refine wpAnyH_take (i := 11) (v := ?_) rfl (by kernel_rfl) (by kernel_rfl) (by kernel_rfl) (fun _ _ _ h => h) (Or.inl ⟨by rfl, ?_⟩) trivial ?_
              rotate_left
              · (intro w hSw; (try dsimp only at hSw); go_simp) <;> with_reducible rfl
              (try simp only [Act.put, List.setIfInBounds_toArray, List.set_cons_zero, List.set_cons_succ])
              refine wpAnyH_ready (rs := [12]) (by kernel_rfl) (by simp) ?_
              refine AllReadyH.cons rfl (fun K hK => ?_) AllReadyH.nil
              go_simp
              refine hK.out _ _ trivial (fun _ => ?_)
              clear hK K
              (try simp only [Act.put, List.setIfInBounds_toArray, List.set_cons_zero, List.set_cons_succ])
              refine wpAnyH_ready (rs := [13]) (by kernel_rfl) (by simp) ?_
              refine AllReadyH.cons rfl (fun K hK => ?_) AllReadyH.nil
              go_simp
              refine hK.out _ _ trivial (fun _ => ?_)
              clear hK K
              (try simp only [Act.put, List.setIfInBounds_toArray, List.set_cons_zero, List.set_cons_succ])
              refine wpAnyH_done (by kernel_rfl) ?_ _
              go_wp2
              go_meet
              exact openJ_mk (by first | exact ew3 | omega) HQ5.out HQ7.out HD.out HQ10.out HG10.out
  case rest =>
    obtain ⟨p, g1, g2, b, A, c, rfl, hO⟩ := hcut
    have HO := Lib.hid hO
    obtain ⟨c0, f0, s0⟩ := hO.blk.facts
    clear hO
    have hdF : ∀ u, Chg (PF b A) wc u → DS u d F D := fun u hu => ((H.out.1.grew HG1.out).grew HO.out.grew).chg hu fun j hj e => by
      have h1 := H.out.1.lt j hj
      have h2 := HO.out.pool.new j e
      have h3 := HG1.out.size
      omega
    have hkeep : ∀ u, Chg (PF b A) wc u → Blk u p 84 #[.pointer (some ⟨d, 0, none⟩), .int .i64 0, .int .i64 (D.sz / 2 : Nat), .slice (some ⟨g1, 0, none⟩) (tabN D.n D.sz) (tabN D.n D.sz), .slice (some ⟨g2, 0, none⟩) (capN D.n D.sz) (capN D.n D.sz), .pointer (some ⟨b, 0, none⟩), .pointer none, .bool false] := fun u hu =>
      HO.out.blk.chg hu (pf_ne HO.out.pool.p HO.out.blk (by decide) (by decide))
    have HD := Lib.hid hdF
    have HK := Lib.hid hkeep
    have HX := Lib.hid (show D.n ≤ 65536 by omega)
    clear hdF hkeep
    go_wp2
    go_loopw [41] (fun i wr => ∃ k : Nat, k ≤ 2 ∧ i = .int .i64 k ∧ PIn wr b (mkd D.n k) A c ∧ Chg (PF b A) wc wr) (fun i _ => 2 - (intOf i).toNat)
    case atStart => exact ⟨0, Nat.zero_le _, rfl, HO.out.pool.p, Chg.refl _ _⟩
    case round =>
      obtain ⟨k, hk, rfl, hp, hc⟩ := hrel
      have HP := Lib.hid (And.intro hp hc)
      obtain ⟨c1, f1, s1⟩ := (HK.out wr hc).facts
      clear c0 f0 s0 hp hc
      by_cases hlt : k < 2
      · go_wp2_with (go_at_call 55; (refine (pmark_any b k _ A c _ HP.out.1 (by rw [mkd_len]; exact HX.out)).mono ?_); rintro e w3 ⟨rfl, h3, h4⟩; have H3 := Lib.hid (And.intro h3 h4); clear h3 h4)
        have H4 := Lib.hid (show PIn w3 b (mkd D.n (k + 1)) A c from by have := H3.out.1; rw [mkd_mark D.n k (by omega)] at this; exact this)
        exact ⟨⟨k + 1, by omega, by simp, H4.out, Chg.trans HP.out.2 H3.out.2 fun _ _ e => e⟩, by simp [intOf]; omega⟩
      · obtain rfl : k = 2 := by omega
        go_wp2_with fail
        have hld := H.out.2.2.1 _ (HD.out _ HP.out.2)
        have HL := Lib.hid hld
        clear hld
        refine HL.out.mono ?_
        rintro e w4 ⟨h4, ⟨he0, rfl⟩ | ⟨he1, A4, c4, rfl, hs4, ha4⟩⟩
        · have H4 := Lib.hid (And.intro h4 he0)
          clear h4 he0 c1 f1 s1
          go_wp2_with fail
          go_ret2
          have hg : Grew w1 w4 := Grew.trans (Chg.trans HO.out.grew HP.out.2 fun i hi e => by have := HO.out.pool.new i e; omega) H4.out.1
          have hsz := HG1.out.size
          obtain ⟨F', hF, hnew⟩ := gfresh_mk (w0 := w1) ((H.out.1.grew HG1.out).grew hg) (fun j hj => Nat.lt_of_lt_of_le (H.out.1.lt j hj) hsz) h0 (Nat.lt_of_lt_of_le (tab_pos H.out.2.1) hsz) (tab_chg (tab_chg H.out.2.1 HG1.out id) hg id) hsm.2.1
            ((HK.out _ HP.out.2).grew H4.out.1) ((HO.out.t1.blk.chg HP.out.2 (pf_ne HO.out.pool.p HO.out.t1.blk (by decide) (by decide))).grew H4.out.1) ((HO.out.t2.blk.chg HP.out.2 (pf_ne HO.out.pool.p HO.out.t2.blk (by decide) (by decide))).grew H4.out.1) HO.out.ne (HP.out.1.grew H4.out.1)
            HO.out.new HO.out.t1.new HO.out.t2.new HO.out.pool.new
          exact ⟨p, F', rfl, .inl ⟨H4.out.2, hF.grew ((Chg.refl _ _).alloc _)⟩, (Grew.trans HG1.out hg).alloc _, fun j hj => (hnew j hj).imp id fun e => Nat.le_trans hsz e⟩
        · obtain ⟨hpl, hpp, hq0⟩ := H.out.2.2.2.1 he1
          have hg : Grew w1 w4 := Grew.trans (Chg.trans HO.out.grew HP.out.2 fun i hi e => by have := HO.out.pool.new i e; omega) h4
          have hpb := (HK.out _ HP.out.2).grew h4
          have ht1 := ((HO.out.t1.blk.chg HP.out.2 (pf_ne HO.out.pool.p HO.out.t1.blk (by decide) (by decide))).grew h4)
          have ht2 := ((HO.out.t2.blk.chg HP.out.2 (pf_ne HO.out.pool.p HO.out.t2.blk (by decide) (by decide))).grew h4)
          have hpi := (HP.out.1.grew h4)
          have hpw := (HK.out _ HP.out.2).lt
          have H4 := Lib.hid (And.intro hg (And.intro hpb (And.intro ht1 (And.intro ht2 (And.intro hpi (And.intro hs4 (And.intro hq0 fun a (ha : A4 = some a) => Nat.lt_of_lt_of_le hpw (ha4 a ha))))))))
          clear hg hpb ht1 ht2 hpi hs4 hq0 h4 c1 f1 s1 ha4 hpw
          have hpI : ((pg.length : Int) != (tabN D.n D.sz : Int)) = false := by rw [hpl]; simp
          obtain ⟨W5, hW5⟩ : ∃ W, w4.alloc (.cells #[.int .i64 (ep : Nat), .slice A4 pg.length c4] 89) = W := ⟨_, rfl⟩
          have hg5 : Grew w4 W5 := hW5 ▸ (Chg.refl _ _).alloc _
          have hb8 : Blk W5 w4.heap.size 89 #[.int .i64 (ep : Nat), .slice A4 pg.length c4] := hW5 ▸ Blk.new _ _ _
          have hpb5 := H4.out.2.1.grew hg5
          obtain ⟨W6, hW6⟩ : ∃ W, W5.setCell ⟨p, 1, none⟩ (.int .i64 (ep : Nat)) = W := ⟨_, rfl⟩
          have hc6 : Chg (fun j => j = p) W5 W6 := hW6 ▸ (Chg.refl (fun j => j = p) W5).setCell (p := ⟨p, 1, none⟩) (fun _ => rfl) _
          have hpb6 := hpb5.put 1 (.int .i64 (ep : Nat))
          rw [hW6] at hpb6
          have hpl4 : p < w4.heap.size := H4.out.2.1.lt
          have hb86 := hb8.chg hc6 (by omega)
          obtain ⟨c1, f1, s1⟩ := hpb5.facts
          obtain ⟨e1, ef1, es1⟩ := hb8.facts
          have H6 := Lib.hid (And.intro hg5 (And.intro hc6 (And.intro hpb6 hb86)))
          have Hpl := Lib.hid hpl
          have HQ0 := Lib.hid hpp
          clear hg5 hb8 hpb5 hc6 hpb6 hb86 hpl hpp
          go_wp2_with fail
          clear c1 f1 s1 e1 ef1 es1
          have hS0 : W6.drew.cell? ⟨p, 3, none⟩ = some (.slice (some ⟨g1, 0, none⟩) pg.length pg.length) ∧ W6.drew.cell? ⟨w4.heap.size, 1, none⟩ = some (.slice A4 pg.length c4) := ⟨by rw [Hpl.out]; exact H6.out.2.2.1.drew.cell 3, H6.out.2.2.2.drew.cell 1⟩
          refine wp_region_held_drew (S := fun w' => w'.cell? ⟨p, 3, none⟩ = some (.slice (some ⟨g1, 0, none⟩) pg.length pg.length) ∧ w'.cell? ⟨w4.heap.size, 1, none⟩ = some (.slice A4 pg.length c4)) (by kernel_rfl) hS0 (fun hHeld => ?_)
          refine wpAnyH_take (i := 0) (v := ?_) rfl (by kernel_rfl) (by kernel_rfl) (by kernel_rfl) (fun _ _ _ h => h) (Or.inl ⟨by rfl, ?_⟩) hHeld ?_
          rotate_left
          · (intro w hSw; (try dsimp only at hSw); go_simp) <;> with_reducible rfl
          (try simp only [Act.put, List.setIfInBounds_toArray, List.set_cons_zero, List.set_cons_succ, List.getElem_toArray, List.getElem_cons_zero, List.getElem_cons_succ])
          refine wpAnyH_take (i := 1) (v := ?_) rfl (by kernel_rfl) (by kernel_rfl) (by kernel_rfl) (fun _ _ _ h => h) (Or.inl ⟨by rfl, ?_⟩) hHeld ?_
          rotate_left
          · (intro w hSw; (try dsimp only at hSw); go_simp) <;> with_reducible rfl
          (try simp only [Act.put, List.setIfInBounds_toArray, List.set_cons_zero, List.set_cons_succ, List.getElem_toArray, List.getElem_cons_zero, List.getElem_cons_succ])
          refine wpAnyH_take (i := 2) (v := ?_) rfl (by kernel_rfl) (by kernel_rfl) (by kernel_rfl) (fun _ _ _ h => h) (Or.inl ⟨by rfl, ?_⟩) hHeld ?_
          rotate_left
          · (intro w hSw; (try dsimp only at hSw); go_simp) <;> with_reducible rfl
          (try simp only [Act.put, List.setIfInBounds_toArray, List.set_cons_zero, List.set_cons_succ, List.getElem_toArray, List.getElem_cons_zero, List.getElem_cons_succ])
          refine wpAnyH_take (i := 3) (v := ?_) rfl (by kernel_rfl) (by kernel_rfl) (by kernel_rfl) (fun _ _ _ h => h) (Or.inl ⟨by rfl, ?_⟩) hHeld ?_
          rotate_left
          · (intro w hSw; (try dsimp only at hSw); go_simp) <;> with_reducible rfl
          (try simp only [Act.put, List.setIfInBounds_toArray, List.set_cons_zero, List.set_cons_succ, List.getElem_toArray, List.getElem_cons_zero, List.getElem_cons_succ])
          refine wpAnyH_take (i := 4) (v := ?_) rfl (by kernel_rfl) (by kernel_rfl) (by kernel_rfl) (fun _ _ _ h => h) (Or.inl ⟨by rfl, ?_⟩) hHeld ?_
          rotate_left
          · (intro w hSw; (try dsimp only at hSw); go_simp) <;> with_reducible rfl
          (try simp only [Act.put, List.setIfInBounds_toArray, List.set_cons_zero, List.set_cons_succ, List.getElem_toArray, List.getElem_cons_zero, List.getElem_cons_succ])
          refine wpAnyH_take (i := 5) (v := ?_) rfl (by kernel_rfl) (by kernel_rfl) (by kernel_rfl) (fun _ _ _ h => h) (Or.inl ⟨by rfl, ?_⟩) hHeld ?_
          rotate_left
          · (intro w hSw; (try dsimp only at hSw); go_simp) <;> with_reducible rfl
          (try simp only [Act.put, List.setIfInBounds_toArray, List.set_cons_zero, List.set_cons_succ, List.getElem_toArray, List.getElem_cons_zero, List.getElem_cons_succ])
          refine wpAnyH_ready (rs := [6]) (by kernel_rfl) (by simp) ?_
          refine AllReadyH.cons rfl (fun K hK => ?_) AllReadyH.nil
          go_simp
          have hg1p : g1 ≠ p := blk_ne H4.out.2.2.1 H4.out.2.1 (by decide)
          have hg2p : g2 ≠ p := blk_ne H4.out.2.2.2.1 H4.out.2.1 (by decide)
          have ht16 := ((H4.out.2.2.1.grew H6.out.1).chg H6.out.2.1 hg1p).drew
          have hs46 : Sl W6.drew 1 A4 pg.length (nv pg) := ((H4.out.2.2.2.2.2.1.grew H6.out.1).chg H6.out.2.1 fun a ha e => by have := H4.out.2.2.2.2.2.2.2 a ha; omega).grew (Chg.refl NoF _).drew
          obtain ⟨W7, hcp, hB7, hg7⟩ := run_copy_sp (P := Tryz.prog) (w := W6.drew) (ty := 3) (sT := 39) (dLen := pg.length) (dCap := pg.length) (sLen := pg.length) (sCap := c4) (sp := A4) (off := 0) (cs := nv pg) Tryz.underlying39 (by kernel_rfl) ht16
            (by rw [nv_len]; show _ = min _ _; simp) hs46.src (by rw [nv_len, nv_len, List.length_replicate, ← Hpl.out]; omega) (nv_one _)
          rw [hcp]
          have hsp : splice (nv (List.replicate (tabN D.n D.sz) 0)) 0 (nv pg) = nv pg := by
            unfold splice
            rw [List.take_zero, List.nil_append, List.drop_of_length_le (by rw [nv_len, nv_len, List.length_replicate, ← Hpl.out]; omega), List.append_nil]
          rw [hsp] at hB7
          have hc7 : Chg (fun j => j = g1) W6.drew W7 := (Chg.refl (fun j => j = g1) W6.drew).grown hg7 fun k hk _ => by injection hk with hk; exact hk.symm
          have hpb7 := H6.out.2.2.1.drew.chg hc7 (Ne.symm hg1p)
          have hb87 := H6.out.2.2.2.drew.chg hc7 (fun e => by have := H4.out.2.2.1.lt; omega)
          have hS7 : W7.cell? ⟨p, 3, none⟩ = some (.slice (some ⟨g1, 0, none⟩) pg.length pg.length) ∧ W7.cell? ⟨w4.heap.size, 1, none⟩ = some (.slice A4 pg.length c4) := ⟨by rw [Hpl.out]; exact hpb7.cell 3, hb87.cell 1⟩
          have hpf := pf_ne H4.out.2.2.2.2.1 H4.out.2.1 (by decide) (by decide)
          have hpg1 := pf_ne H4.out.2.2.2.2.1 H4.out.2.2.1 (by decide) (by decide)
          have hc47 : Chg (fun j => j = p ∨ j = g1) w4 W7 := Chg.trans (Chg.trans (H6.out.1.chg (F := fun j => j = p ∨ j = g1)) H6.out.2.1 fun j _ e => .inl e) (Grew.then ((Chg.refl NoF W6).drew) hc7) fun j _ e => .inr e
          have hL : LoJ w1 W7 p d (D.sz / 2) g1 g2 b pg.length (capN D.n D.sz) ep pg (List.replicate (capN D.n D.sz) 0) (mkd D.n 2) A c := by
            refine ⟨?_, hB7, H4.out.2.2.2.1.chg hc47 (fun e => e.elim (fun e => hg2p e) fun e => HO.out.ne e.symm), H4.out.2.2.2.2.1.chg hc47 (fun j hj e => e.elim (fun e => hpf (e ▸ hj)) fun e => hpg1 (e ▸ hj)), HO.out.ne, ⟨HO.out.new, HO.out.t1.new, HO.out.t2.new, HO.out.pool.new⟩, Chg.trans H4.out.1 hc47 fun j hj e => by have h1 := HO.out.new; have h2 := HO.out.t1.new; rcases e with e | e <;> omega⟩
            have := hpb7
            rw [← Hpl.out] at this
            simpa using this
          have HLJ := Lib.hid hL
          refine hK.out _ _ hS7 (fun _ => ?_)
          clear hK K
          (try simp only [Act.put, List.setIfInBounds_toArray, List.set_cons_zero, List.set_cons_succ, List.getElem_toArray, List.getElem_cons_zero, List.getElem_cons_succ])
          refine wpAnyH_done (by kernel_rfl) ?_ _
          clear hpI hHeld hS0 hS7 hg1p hg2p ht16 hs46 hsp hc7 hpb7 hb87 hpf hpg1 hc47 hL hcp hB7 hg7
          have hD1 := H.out.1.grew HG1.out
          have hT64' : pg.length ≤ 64 := by rw [Hpl.out]; exact hT64
          obtain ⟨c1, f1, s1⟩ := HLJ.out.blk.facts
          go_wp2_with fail
          clear c1 f1 s1
          go_loopg [87] (pg.length) (fun n iv wr => ∃ (k : Nat) (tbl : List Nat) (fe : List Bool), n = pg.length - k ∧ k ≤ pg.length ∧ iv = .int .i64 k ∧ LoJ w1 wr p d (D.sz / 2) g1 g2 b pg.length (capN D.n D.sz) ep pg tbl fe A c ∧ Q k tbl fe)
          case atStart => exact ⟨0, _, _, rfl, Nat.zero_le _, rfl, HLJ.out, H4.out.2.2.2.2.2.2.1⟩
          case round =>
            obtain ⟨k, tbl, fe, rfl, hk, rfl, hJ, hq⟩ := hrel
            by_cases hlt : k < pg.length
            · have hst := H.out.2.2.2.2.1 p g1 g2 b A c k tbl fe w1 wr hJ hD1 hq hlt
              have HS := Lib.hid hst
              have hkI : (k : Int) < (pg.length : Int) := by omega
              clear hst hJ hq
              go_wp2_with fail
              refine HS.out.mono ?_
              rintro e w8 ⟨rfl, tbl', fe', hJ8, hq8⟩
              have H8 := Lib.hid (And.intro hJ8 hq8)
              clear hJ8 hq8
              go_wp2_with fail
              go_roundg (pg.length - (k + 1))
              case measure => omega
              case rel => exact ⟨k + 1, tbl', fe', rfl, by omega, by simp, H8.out.1, H8.out.2⟩
            · obtain rfl : k = pg.length := by omega
              have HJ := Lib.hid (And.intro hJ hq)
              clear hJ hq hlt hk
              go_wp2_with fail
              go_ret2
              have hsz := HG1.out.size
              have htl := H.out.2.2.2.2.2 _ _ _ HJ.out.2
              have hJe := HJ.out.1
              rw [← htl] at hJe
              obtain ⟨F', hF, hnew⟩ := gmade_mk (w0 := w1) (hD1.grew hJe.gr) (fun j hj => Nat.lt_of_lt_of_le (H.out.1.lt j hj) hsz) h0 (Nat.lt_of_lt_of_le (tab_pos H.out.2.1) hsz) (tab_chg (tab_chg H.out.2.1 HG1.out id) hJe.gr id) (by omega) (by rw [htl]; omega)
                hJe.blk hJe.t1 hJe.t2 hJe.ne hJe.pool hJe.new.1 hJe.new.2.1 hJe.new.2.2.1 hJe.new.2.2.2
              exact ⟨p, F', rfl, .inr ⟨he1, tbl, fe, HJ.out.2, hF⟩, Grew.trans HG1.out hJe.gr, fun j hj => (hnew j hj).imp id fun e => Nat.le_trans hsz e⟩
theorem gopen_new (d : Nat) (F : Nat → Prop) (D : Dk) (w : World) (h : DS w d F D) (hd : D.down = false) (hT : TabAt 0 tab w) (h0 : ¬ F 0) (hn : 8 ≤ D.n) (hz : 64 ≤ D.sz) (hp : ∀ i : Nat, i < 2 → partL ((D.rd i).take (D.sz - 8)) = none) (hby : ∀ i : Nat, i < 2 → ∀ x ∈ D.rd i, 0 ≤ x ∧ x ≤ 255) :
    Calls Tryz.prog 25 #[.pointer (some ⟨d, 0, none⟩)] w fun e w' => ∃ p F', e = .returned (.tuple #[.pointer (some ⟨p, 0, none⟩), .int .i64 0]) ∧ GS w' p F' (Gp.fresh D) ∧ Grew w w' ∧ ∀ j, F' j → F j ∨ w.heap.size ≤ j := by
  refine (gopen_gen d F D w (fun _ tbl _ => tbl.length = capN D.n D.sz) 0 [] h hd hT h0 hn hz (fun W hW => ?_) (fun e => by omega) (by omega) (fun p g1 g2 b A c k tbl fe w0 W _ _ _ hk => by simp at hk) (fun _ _ _ e => e)).mono ?_
  · refine (load_none d F D W hW hd (by omega) (by omega) hp hby).mono ?_
    rintro e w' ⟨rfl, hg⟩
    exact ⟨hg, .inl ⟨rfl, rfl⟩⟩
  · rintro e w' ⟨p, F', rfl, ⟨-, hF⟩ | ⟨he, -⟩, hg, hnw⟩
    · exact ⟨p, F', rfl, hF, hg, hnw⟩
    · omega
end Go.Proofs.YtjkkoogfaibhiaaGreatDoor

/- The pager: a new one on a new disk, as its pages are. -/
namespace Go.Proofs.YtjkkoogfaibhiaaGreatDoor
open Go.RowKit Go.Maps

/-- A pager without pages. -/
def Rp.fresh (n sz : Nat) (d : Nat := 0) : Rp := { n := n, sz := sz, now := List.replicate (capN n sz) .no, was := none, touched := fun _ => false, epoch := 0, d := d }
theorem rootL_zeros {ep m : Nat} {pg : List Nat} {sz : Nat} (h1 : 1 ≤ ep) (h2 : ep ≤ 1099511627776) (he : List.replicate m 0 = rootL ep pg sz) : False := by
  have hz : ∀ x ∈ tail8 ep, x = 0 := fun x hx => by
    have : x ∈ rootL ep pg sz := List.mem_append_right _ hx
    rw [← he] at this
    exact (List.mem_replicate.1 this).2
  have e0 := hz ((ep / 1099511627776 % 256 : Nat) : Int) (by simp [tail8])
  have e1 := hz ((ep / 4294967296 % 256 : Nat) : Int) (by simp [tail8])
  have e2 := hz ((ep / 16777216 % 256 : Nat) : Int) (by simp [tail8])
  have e3 := hz ((ep / 65536 % 256 : Nat) : Int) (by simp [tail8])
  have e4 := hz ((ep / 256 % 256 : Nat) : Int) (by simp [tail8])
  have e5 := hz ((ep % 256 : Nat) : Int) (by simp [tail8])
  omega
theorem rep_at {n i s : Nat} (h : (List.replicate n 0)[i]? = some s) : s = 0 := by
  rw [List.getElem?_replicate] at h
  split at h <;> simp at h
  exact h.symm
theorem rep_getD (n i : Nat) : (List.replicate n 0).getD i 0 = 0 := by
  rw [List.getD_eq_getElem?_getD]
  cases h : (List.replicate n 0)[i]? with
  | none => rfl
  | some s => rw [rep_at h]; rfl
theorem Gp.fresh_ok (n sz d : Nat) (D : Dk) (hD : D = ⟨n, sz, fun _ => List.replicate sz 0, fun _ => none, false, 0, false, 0, d⟩) (h : 8 ≤ n ∧ n ≤ 4096 ∧ 64 ≤ sz ∧ sz ≤ 4096) : (Gp.fresh D).Ok ∧ (Gp.fresh D).view = Rp.fresh n sz d := by
  subst hD
  have hm : ∀ s, s < n → (mkd n 2).getD s false = decide (2 ≤ s) := fun s hs => by rw [mkd_at n 2 s (by omega)]; simp [hs]
  have hcap : capN n sz ≤ 4096 := by unfold capN; split <;> omega
  refine ⟨⟨⟨h, ⟨mkd_len n 2, by simp [Gp.fresh], by simp [Gp.fresh], by simp [Gp.fresh, Gp.old]⟩, fun i s hi => ?_, fun k s hk h0 => absurd (rep_at hk) h0, fun i j s hi _ h2 => ?_, fun i j s hi _ h0 => absurd (rep_at hi) h0, fun k i s hk _ => ?_, fun s hs => ?_, fun s hs => ?_, fun i s hi h2 => ?_, fun i j s hi _ h2 => ?_, ⟨List.nodup_nil, fun s => ?_⟩, fun i hi => absurd rfl hi, fun k hk => ?_, ?_, fun s _ _ => rfl, ⟨fun e => ?_, fun i e' pg' _ hg _ hr => ?_, fun _ s hs => (List.mem_replicate.1 hs).2, fun k _ i _ => rep_getD _ _, fun k s hk h0 => absurd (rep_at hk) h0, fun k s hk h0 => absurd (rep_at hk) h0⟩, fun s _ x hx => ?_, Nat.zero_le _, fun s _ x hx => ?_⟩, rfl, ⟨rfl, rfl, rfl⟩⟩, ?_⟩
  · have := rep_at hi; show s < n; omega
  · have := rep_at hi; omega
  · have := rep_at hk; omega
  · show (mkd n 2).getD s false = false ↔ _
    rw [hm s hs]
    constructor
    · intro e; left; simpa using e
    · rintro (e | ⟨k, e⟩ | ⟨k, e⟩ | e)
      · simpa using e
      · have := rep_at e; simp; omega
      · have := rep_at e; simp; omega
      · simp [Gp.fresh, Gp.fr] at e
  · simp [Gp.fresh, Gp.fr] at hs
  · have := rep_at hi; omega
  · have := rep_at hi; omega
  · simp only [Gp.fresh, Gp.lf, List.not_mem_nil, false_iff, not_and, not_exists]
    rintro h2 i hi
    have := rep_at hi
    omega
  · simp [Gp.fresh, Gp.tc] at hk
  · rw [show (Gp.fresh _).tc = fun _ => false from rfl, show cntN (fun _ => false) 64 = 0 from cntN_false fun _ _ => rfl]
    exact Nat.zero_le _
  · simp [Gp.fresh] at e
  · exact (rootL_zeros hg.1 hg.2.1 (show List.replicate sz 0 = _ from hr)).elim
  · have : x = 0 := (List.mem_replicate.1 (show x ∈ List.replicate sz 0 from hx)).2
    omega
  · have : x = 0 := (List.mem_replicate.1 (show x ∈ List.replicate sz 0 from hx)).2
    omega
  · simp [Gp.view, Rp.fresh, Gp.fresh, Gp.fr, Gp.tc, pk]

theorem gp_open_new (n sz d : Nat) (F : Nat → Prop) (w : World) (h : DS w d F ⟨n, sz, fun _ => List.replicate sz 0, fun _ => none, false, 0, false, 0, d⟩) (hT : TabAt 0 tab w) (h0 : ¬ F 0) (hn : 8 ≤ n) (hz : 64 ≤ sz) :
    Calls Tryz.prog 25 #[.pointer (some ⟨d, 0, none⟩)] w fun e w' => ∃ p F', e = .returned (.tuple #[.pointer (some ⟨p, 0, none⟩), .int .i64 0]) ∧ GP w' p F' (Rp.fresh n sz d) ∧ Grew w w' ∧ ∀ j, F' j → F j ∨ w.heap.size ≤ j := by
  have hs := h.sml
  have hsz : 64 ≤ sz ∧ sz ≤ 4096 := ⟨hz, hs.2.2.2⟩
  have hnn : n ≤ 4096 := hs.2.1
  have hfo := Gp.fresh_ok n sz d _ rfl ⟨hn, hnn, hsz⟩
  refine (gopen_new d F _ w h rfl hT h0 hn hz (fun i _ => ?_) (fun i _ x hx => ?_)).mono ?_
  · show partL (List.take (sz - 8) (List.replicate sz 0)) = none
    rw [List.take_replicate, Nat.min_eq_left (by omega)]
    exact part_zeros _ (by omega) (by omega)
  · have : x = 0 := (List.mem_replicate.1 (show x ∈ List.replicate sz 0 from hx)).2
    omega
  · rintro e w' ⟨p, F', rfl, h1, h2, h3⟩
    exact ⟨p, F', rfl, ⟨_, h1, hfo.1, hfo.2⟩, h2, h3⟩

end Go.Proofs.YtjkkoogfaibhiaaGreatDoor

/- A pager that has room for some pages. -/
namespace Go.Proofs.YtjkkoogfaibhiaaGreatDoor
open Go.RowKit Go.Maps

/-- The pages of a new pager in an open change. -/
def Rp.opened (n sz : Nat) (d : Nat := 0) : Rp := (Rp.fresh n sz d).begun
/-- K pages may be used. -/
def Rp.roomy (x : Rp) (K : Nat) : Prop := x.was ≠ none ∧ (K : Int) + 1 ≤ x.slack + x.now.countP Pk.isNew ∧ K < x.now.length
theorem Rp.like.vol {x y : Rp} (h : x.like y) (hw : x.was ≠ none) : y.slack + y.now.countP Pk.isNew = x.slack + x.now.countP Pk.isNew := by
  have hb : y.base = x.base := by
    unfold Rp.base
    rw [h.was]
    cases hx : x.was with
    | none => exact absurd hx hw
    | some b => rfl
  unfold Rp.slack Rp.free
  rw [hb, h.n, h.sz]
  omega
theorem new_used (l : List Pk) : l.countP Pk.isNew ≤ l.countP Pk.used := List.countP_mono_left fun c _ h => by cases c <;> simp_all [Pk.isNew, Pk.used]
theorem no_mem_lt {l : List Pk} (h : l.countP Pk.used < l.length) : Pk.no ∈ l := by
  refine Classical.byContradiction fun hn => ?_
  have : l.countP Pk.used = l.length := List.countP_eq_length.2 fun c hc => by
    cases c with
    | no => exact absurd hc hn
    | _ => rfl
  omega
theorem never_full {x z : Rp} {K : Nat} (hr : x.roomy K) (hl : x.like z) (hu : z.now.countP Pk.used ≤ K) : 1 ≤ z.slack ∧ Pk.no ∈ z.now := by
  have h1 := hl.vol hr.1
  have h2 := new_used z.now
  have h3 := hl.len
  exact ⟨by have := hr.2.1; omega, no_mem_lt (by have := hr.2.2; omega)⟩
theorem opened_len (n sz : Nat) : (Rp.opened n sz).now.length = capN n sz := by simp [Rp.opened, Rp.begun, Rp.fresh]
theorem rep_count (m : Nat) (f : Pk → Bool) (h : f .no = false) : (List.replicate m Pk.no).countP f = 0 := by
  rw [List.countP_replicate, h]; rfl
/-- A new pager of tables of at most T pages has room. -/
theorem opened_roomy {n sz d T C : Nat} (hT : tabN n sz ≤ T) (hC : C ≤ capN n sz) {K : Nat} (h1 : K + 1 + 2 * T + 2 ≤ n) (h2 : K < C) : (Rp.opened n sz d).roomy K := by
  show (Rp.opened n sz).roomy K
  have hn : (Rp.opened n sz).now.countP Pk.isNew = 0 := rep_count (capN n sz) _ rfl
  have ht : tabsUsed n sz (List.replicate (capN n sz) Pk.no) ≤ tabN n sz := by
    unfold tabsUsed
    exact Nat.le_trans (List.countP_le_length ..) (by simp)
  have e : (Rp.opened n sz).slack = (n : Int) - 2 - (tabsUsed n sz (List.replicate (capN n sz) Pk.no) : Nat) - ((List.replicate (capN n sz) Pk.no).countP Pk.isOld : Nat) - ((List.replicate (capN n sz) Pk.no).countP Pk.isNew : Nat) - (tabN n sz : Nat) := rfl
  rw [rep_count _ _ rfl, rep_count _ _ rfl] at e
  exact ⟨by simp [Rp.opened, Rp.begun], by rw [hn, e]; omega, by rw [opened_len]; omega⟩
end Go.Proofs.YtjkkoogfaibhiaaGreatDoor

/- The heap in memory: lay. -/
namespace Go.Proofs.YtjkkoogfaibhiaaGreatDoor
open Go.RowKit Go.Maps

/-- Somewhere on the way there was no room. -/
def Tight (x : Rp) (k : Nat) : Prop := (∃ z, x.like z ∧ z.now.countP Pk.used ≤ x.now.countP Pk.used + k ∧ ¬ (1 ≤ z.slack ∧ Pk.no ∈ z.now)) ∨ ∃ z n, x.like z ∧ z.now.countP Pk.used + n ≤ x.now.countP Pk.used + k ∧ ¬ z.enough n
theorem not_tight {x0 x : Rp} {K k : Nat} (hr : x0.roomy K) (hl : x0.like x) (hu : x.now.countP Pk.used + k ≤ K) : ¬ Tight x k := by
  rintro (⟨z, h1, h2, h3⟩ | ⟨z, n, h0, h1, h2⟩)
  · exact h3 (never_full hr (hl.trans h1) (by omega))
  · refine h2 ⟨?_, ?_⟩
    · have e1 := (hl.trans h0).vol hr.1
      have e2 := new_used z.now
      have := hr.2.1
      omega
    · have := hr.2.2
      have := (hl.trans h0).len
      omega
/-- A call that found no room. -/
def HFull (w w' : World) (p m : Nat) (F : Nat → Prop) (x : Rp) (k : Nat) : Prop :=
  ∃ y F', GP w' p F' y ∧ x.like y ∧ Chg (fun j => F j ∨ j = m) w w' ∧ (∀ j, F' j → F j ∨ w.heap.size ≤ j) ∧ Tight x k
/-- What lay leaves. -/
def LayOut (w w' : World) (h m p : Nat) (F : Nat → Prop) (x : Rp) (L : List HR) (r : HR) (e : Ending) : Prop :=
  (∃ (pl : Nat) (y : Rp) (F' : Nat → Prop) (P' : Nat → Bool), e = .returned (.tuple #[.int .i64 pl, .int .i64 0]) ∧ HH w' h m p F' y P' ∧ HeapIn y P' (L ++ [{ r with place := pl }]) [] ∧ x.like y ∧ y.now.countP Pk.used ≤ x.now.countP Pk.used + 1 ∧
    Chg (fun j => F j ∨ j = m) w w' ∧ ∀ j, F' j → F j ∨ w.heap.size ≤ j) ∨
  ((∃ v, e = .returned (.tuple #[v, .int .i64 21])) ∧ HFull w w' p m F x 1)
theorem HR.ok.at {x : Rp} {r : HR} (h : r.ok x) (pl : Nat) : ({ r with place := pl } : HR).ok x := ⟨h.base, h.shape⟩
theorem HR.what_len {x : Rp} {r : HR} (h : r.ok x) (hz : 64 ≤ x.sz) (hz4 : x.sz ≤ 4096) : r.what.length ≤ x.sz - 3 ∧ 1 ≤ r.what.length ∧ r.what.length ≤ 16384 := by
  have h1 := h.base
  unfold HR.what
  rcases h.shape with ⟨e, h2⟩ | ⟨e, h2⟩
  · rw [e]
    simp only [List.length_cons]
    omega
  · cases hp : r.pages with
    | nil => exact absurd hp e
    | cons i t => simp; omega
theorem putS1_ne (s : Sls) (t : List Int) (ht : t ≠ []) : 0 < (putS1 s t).flatten.length := by
  have h := List.mem_of_getElem? (putS1_at (s := s) (b := t))
  have h1 := flat_mem h
  have h2 : 0 < t.length := List.length_pos_iff.2 ht
  omega
theorem HH.newer {W0 W W' : World} {h m p : Nat} {F : Nat → Prop} {x : Rp} {P : Nat → Bool} (k0 : HH W0 h m p F x P) (k : HH W h m p F x P) (hc : Chg (fun j => W0.heap.size ≤ j) W W') : HH W' h m p F x P :=
  k.chg hc (fun j hj e => by have := k0.gp.lt j hj; omega) (fun e => by have := tab_pos k0.gp.tab; omega) (fun e => by have := k0.blk.lt; omega) fun e => by have := k0.lt; omega
/-- What lies there between two pages of lay. -/
structure LayJ (w W : World) (h m p : Nat) (F : Nat → Prop) (x : Rp) (P : Nat → Bool) (l : List Nat) (A : Option Addr) (c : Nat) : Prop where
  k : HH W h m p F x P
  chg : Chg F w W
  row : W.ownsRow w.heap.size 3 1 (.slice A l.length c) l.length (nv l)
/-- The page with a record more is written, if there is room. -/
theorem hlay_write (h m p i g4 c4 : Nat) (F : Nat → Prop) (x : Rp) (P : Nat → Bool) (L : List HR) (E : List Nat) (s : Sls) (r : HR) (w : World) (k : HH w h m p F x P) (hx : HeapIn x P L E) (ho : x.was ≠ none) (hE : r.pages = E) (hok : r.ok x)
    (hsl : HSl x P L i s) (hu : HPg x L i s ∨ False) (hf : fitsS s r.what.length x.sz) (hs : Sl w 1 (some ⟨g4, 0, none⟩) x.sz (bv (pageS (putS1 s r.what) x.sz))) (hgF : ¬ F g4) :
    Calls Tryz.prog 36 #[.pointer (some ⟨p, 0, none⟩), .int .i64 i, .slice (some ⟨g4, 0, none⟩) x.sz c4] w fun e w' => ∃ er, e = .returned (.int .i64 er) ∧ Chg F w w' ∧
      ((er = 0 ∧ ∃ F', HH w' h m p F' (x.put i (.new (pageS (putS1 s r.what) x.sz))) P ∧ (∀ j, F' j → F j ∨ w.heap.size ≤ j) ∧ P i = true ∧
          HeapIn (x.put i (.new (pageS (putS1 s r.what) x.sz))) P (L ++ [{ r with place := 64 * i + empS s }]) []) ∨
       (er = 21 ∧ HH w' h m p F x P ∧ ¬ 1 ≤ x.slack)) := by
  have hz := k.gp.szs
  rcases hu with hpg | hpg
  · obtain ⟨c, hc1, hc2, -⟩ := hpg.byt
    have hfs : SFit (putS1 s r.what) x.sz := putS1_fit hsl.fit hf r.what_ne hok.byt
    have hpl := pageS_len hfs.len
    have hw := gp_write_any p F x w i (pageS (putS1 s r.what) x.sz) (some ⟨g4, 0, none⟩) c4 c k.gp ho hc1 hc2 hpl (pageS_byt hfs) (by simp) (by rw [hpl]; exact hs) (fun a ha => by cases ha; exact hgF)
    rw [hpl] at hw
    have hPi : P i = true := by
      rcases hsl.c with ⟨e, -⟩ | ⟨-, e⟩
      · exact e
      · rw [hc1] at e; cases e; cases hc2
    refine hw.mono ?_
    rintro e w' (⟨rfl, hto⟩ | ⟨hns, -, rfl, hg⟩)
    · obtain ⟨F', hk', hr'⟩ := k.to hto
      have hin := hx.put (r := { r with place := 64 * i + empS s }) hsl hf rfl hE (hok.at _)
      rw [setB_same hPi] at hin
      exact ⟨0, rfl, hr'.chg, .inl ⟨rfl, F', hk', hr'.new, hPi, hin⟩⟩
    · exact ⟨21, rfl, hg.chg, .inr ⟨rfl, k.grew hg, hns⟩⟩
  · exact hpg.elim
set_option maxRecDepth 100000 in
set_option maxHeartbeats 3200000 in
theorem hlay_any (h m p g off c0 : Nat) (F : Nat → Prop) (x : Rp) (P : Nat → Bool) (L : List HR) (E : List Nat) (r : HR) (w : World) (k : HH w h m p F x P) (hx : HeapIn x P L E) (ho : x.was ≠ none) (hE : r.pages = E) (hok : r.ok x)
    (hs : Sl w 1 (some ⟨g, off, none⟩) r.what.length (bv r.what)) (hgF : ¬ F g) (hgl : g < w.heap.size) :
    Calls Tryz.prog 28 #[.pointer (some ⟨h, 0, none⟩), .slice (some ⟨g, off, none⟩) r.what.length c0] w fun e w' => LayOut w w' h m p F x L r e := by
  have hz := k.gp.szs
  have hwl := r.what_len hok hz.2.2.1 hz.2.2.2.1
  have Hz := Lib.hid hz
  have HP := Lib.hid (hpages_any h m p x.now.length F x P w k (fun s hs => hx.lt hs) (by omega))
  have H := Lib.hid (And.intro k (And.intro hx (And.intro ho (And.intro hE (And.intro hok (And.intro k.ne (And.intro hs (And.intro hgF (And.intro hgl hz)))))))))
  obtain ⟨l, hl⟩ : ∃ l, keysL P x.now.length = l := ⟨_, rfl⟩
  have hll : l.length ≤ 4096 := by rw [← hl]; unfold keysL; exact Nat.le_trans (List.length_filter_le _ _) (by simp; omega)
  have hmem : ∀ i ∈ l, P i = true := fun i hi => by rw [← hl] at hi; unfold keysL at hi; exact (List.mem_filter.1 hi).2
  rw [hl] at HP
  obtain ⟨n, hn⟩ : ∃ n, r.what.length = n := ⟨_, rfl⟩
  have HN := Lib.hid hn
  rw [hn] at hwl ⊢
  have HM := Lib.hid hmem
  clear k hx ho hE hok hs hgF hgl hz hl hmem hn
  go_enter Tryz.func28, Tryz.ntmps28
  go_wp2_with fail
  refine HP.out.mono ?_
  rintro e w1 ⟨A, c, rfl, ho1, hg1⟩
  have hJ : LayJ w w1 h m p F x P l A c := ⟨H.out.1.grew hg1, hg1.chg, ho1⟩
  have HJ := Lib.hid hJ
  clear ho1 hg1 hJ HP
  go_wp2_with fail
  go_loopg [19] l.length (fun q i wr => ∃ j, q = l.length - j ∧ j ≤ l.length ∧ i = .int .i64 j ∧ LayJ w wr h m p F x P l A c)
  case atStart => exact ⟨0, rfl, Nat.zero_le _, rfl, HJ.out⟩
  case round =>
    clear HJ
    obtain ⟨j, rfl, hj, rfl, hJ⟩ := hrel
    have HJ := Lib.hid hJ
    clear hJ
    by_cases hlt : j < l.length
    · obtain ⟨i, hi⟩ : ∃ i, l[j]? = some i := ⟨_, List.getElem?_eq_getElem hlt⟩
      have hPi := HM.out i (List.mem_of_getElem? hi)
      obtain ⟨s, hsg⟩ := H.out.2.1.pg i hPi
      obtain ⟨g1, rfl, hgl1⟩ := own_block HJ.out.row (by omega)
      have hce : wr.cell? ⟨g1, j, none⟩ = some (.int .i64 i) := by
        have := HJ.out.row.cells (g := g1) rfl j (.int .i64 i) (by simp [nv, hi])
        rwa [Addr.add_lit, Nat.zero_add] at this
      have HPg := Lib.hid (hpage_any h m p i F x P L s wr HJ.out.k hsg)
      have HS := Lib.hid (And.intro hsg hPi)
      have hi4 := HJ.out.k.pb i hPi
      clear hi hPi hsg
      go_wp2_with fail
      refine HPg.out.mono ?_
      rintro e w2 ⟨q, rfl, hp, hk, hc⟩
      have hcw : Chg F w w2 := Chg.trans HJ.out.chg hc fun _ _ e => e
      have hpu := sput_any wr.heap.size q x.sz s r.what (some ⟨g, off, none⟩) c0 w2 hp HS.out.1.fit Hz.out.2.2.2.1 (H.out.2.2.2.2.2.2.1.chg hcw fun a ha => by cases ha; exact H.out.2.2.2.2.2.2.2.1) (by rw [HN.out]; exact hwl.2.1) (by rw [HN.out]; exact hwl.2.2) (fun a ha => by cases ha; have := HJ.out.chg.size; have := H.out.2.2.2.2.2.2.2.2.1; show g < _; omega)
      rw [HN.out] at hpu
      have HPu := Lib.hid hpu
      have H2 := Lib.hid (And.intro hk (And.intro hc hcw))
      clear hp hk hc hcw hpu hce
      go_wp2_with fail
      refine HPu.out.mono ?_
      rintro e w3 (⟨hf, rfl, hp3, hc3⟩ | ⟨hf, rfl, hg3⟩)
      · have hk3 := HJ.out.k.newer H2.out.1 hc3
        have hcw3 : Chg F w w3 := Chg.trans H2.out.2.2 hc3 fun a ha e => by have := HJ.out.chg.size; omega
        have hcr : Chg (fun j => F j ∨ j = m) w w3 := hcw3.mono fun _ _ e => .inl e
        have hbr := HJ.out.chg.size
        obtain ⟨c7, f7, s7⟩ := hk3.blk.facts
        have hd3 : w3.drew.cell? ⟨h, 0, none⟩ = some (.pointer (some ⟨p, 0, none⟩)) := hk3.blk.drew.cell 0
        have hf' : fitsS s r.what.length x.sz := hf
        have H3 := Lib.hid (And.intro hp3 (And.intro hk3 (And.intro hcr hf')))
        clear hp3 hc3 hf hf' hk3 hcw3 hcr c7 f7
        go_wp2_with fail
        have hes : empS s ≤ 63 := by have h1 := empS_le s; have h2 := HS.out.1.fit.few; omega
        have hwr1 : IntKind.i64.wrap ((i : Int) * 64) = (i : Int) * 64 := wrap_nat (n := i * 64) (by omega)
        have hwr2 : IntKind.i64.wrap ((i : Int) * 64 + (empS s : Int)) = (i : Int) * 64 + (empS s : Int) := wrap_nat (n := i * 64 + empS s) (by omega)
        refine wp_region_held_drew (S := fun w' => w'.cell? ⟨h, 0, none⟩ = some (.pointer (some ⟨p, 0, none⟩))) (by kernel_rfl) hd3 (fun hHeld => ?_)
        refine wpAnyH_take (i := 0) (v := ?_) rfl (by kernel_rfl) (by kernel_rfl) (by kernel_rfl) (fun _ _ _ h => h) (Or.inl ⟨by rfl, ?_⟩) hHeld ?_
        rotate_left
        · (intro w hSw; (try dsimp only at hSw); go_simp) <;> with_reducible rfl
        (try simp only [Act.put, List.setIfInBounds_toArray, List.set_cons_zero, List.set_cons_succ, List.getElem_toArray, List.getElem_cons_zero, List.getElem_cons_succ])
        refine wpAnyH_take (i := 1) (v := ?_) rfl (by kernel_rfl) (by kernel_rfl) (by kernel_rfl) (fun _ _ _ h => h) (Or.inl ⟨by rfl, ?_⟩) hHeld ?_
        rotate_left
        · (intro w hSw; (try dsimp only at hSw); go_simp) <;> with_reducible rfl
        (try simp only [Act.put, List.setIfInBounds_toArray, List.set_cons_zero, List.set_cons_succ, List.getElem_toArray, List.getElem_cons_zero, List.getElem_cons_succ])
        refine wpAnyH_take (i := 2) (v := ?_) rfl (by kernel_rfl) (by kernel_rfl) (by kernel_rfl) (fun _ _ _ h => h) (Or.inl ⟨by rfl, ?_⟩) hHeld ?_
        rotate_left
        · (intro w hSw; (try dsimp only at hSw); go_simp) <;> with_reducible rfl
        (try simp only [Act.put, List.setIfInBounds_toArray, List.set_cons_zero, List.set_cons_succ, List.getElem_toArray, List.getElem_cons_zero, List.getElem_cons_succ])
        refine wpAnyH_take (i := 3) (v := ?_) rfl (by kernel_rfl) (by kernel_rfl) (by kernel_rfl) (fun _ _ _ h => h) (Or.inl ⟨by rfl, ?_⟩) hHeld ?_
        rotate_left
        · (intro w hSw; (try dsimp only at hSw); go_simp) <;> with_reducible rfl
        (try simp only [Act.put, List.setIfInBounds_toArray, List.set_cons_zero, List.set_cons_succ, List.getElem_toArray, List.getElem_cons_zero, List.getElem_cons_succ])
        refine wpAnyH_take (i := 4) (v := ?_) rfl (by kernel_rfl) (by kernel_rfl) (by kernel_rfl) (fun _ _ _ h => h) (Or.inl ⟨by rfl, ?_⟩) hHeld ?_
        rotate_left
        · (intro w hSw; (try dsimp only at hSw); go_simp) <;> with_reducible rfl
        (try simp only [Act.put, List.setIfInBounds_toArray, List.set_cons_zero, List.set_cons_succ, List.getElem_toArray, List.getElem_cons_zero, List.getElem_cons_succ])
        refine wpAnyH_take (i := 5) (v := ?_) rfl (by kernel_rfl) (by kernel_rfl) (by kernel_rfl) (fun _ _ _ h => h) (Or.inl ⟨by rfl, ?_⟩) hHeld ?_
        rotate_left
        · (intro w hSw; (try dsimp only at hSw); go_simp) <;> with_reducible rfl
        (try simp only [Act.put, List.setIfInBounds_toArray, List.set_cons_zero, List.set_cons_succ, List.getElem_toArray, List.getElem_cons_zero, List.getElem_cons_succ])
        refine wpAnyH_take (i := 6) (v := ?_) rfl (by kernel_rfl) (by kernel_rfl) (by kernel_rfl) (fun _ _ _ h => h) (Or.inl ⟨by rfl, ?_⟩) hHeld ?_
        rotate_left
        · (intro w hSw; (try dsimp only at hSw); go_simp) <;> with_reducible rfl
        (try simp only [Act.put, List.setIfInBounds_toArray, List.set_cons_zero, List.set_cons_succ, List.getElem_toArray, List.getElem_cons_zero, List.getElem_cons_succ])
        refine wpAnyH_take (i := 7) (v := ?_) rfl (by kernel_rfl) (by kernel_rfl) (by kernel_rfl) (fun _ _ _ h => h) (Or.inl ⟨by rfl, ?_⟩) hHeld ?_
        rotate_left
        · (intro w hSw; (try dsimp only at hSw); go_simp) <;> with_reducible rfl
        (try simp only [Act.put, List.setIfInBounds_toArray, List.set_cons_zero, List.set_cons_succ, List.getElem_toArray, List.getElem_cons_zero, List.getElem_cons_succ])
        refine wpAnyH_take (i := 8) (v := ?_) rfl (by kernel_rfl) (by kernel_rfl) (by kernel_rfl) (fun _ _ _ h => h) (Or.inl ⟨by rfl, ?_⟩) hHeld ?_
        rotate_left
        · (intro w hSw; (try dsimp only at hSw); go_simp) <;> with_reducible rfl
        (try simp only [Act.put, List.setIfInBounds_toArray, List.set_cons_zero, List.set_cons_succ, List.getElem_toArray, List.getElem_cons_zero, List.getElem_cons_succ])
        refine wpAnyH_take (i := 9) (v := ?_) rfl (by kernel_rfl) (by kernel_rfl) (by kernel_rfl) (fun _ _ _ h => h) (Or.inl ⟨by rfl, ?_⟩) hHeld ?_
        rotate_left
        · (intro w hSw; (try dsimp only at hSw); go_simp) <;> with_reducible rfl
        (try simp only [Act.put, List.setIfInBounds_toArray, List.set_cons_zero, List.set_cons_succ, List.getElem_toArray, List.getElem_cons_zero, List.getElem_cons_succ])
        refine wpAnyH_ready (rs := [10]) (by kernel_rfl) (by simp) ?_
        refine AllReadyH.cons rfl (fun K hK => ?_) AllReadyH.nil
        go_simp
        have hfs : SFit (putS1 s r.what) x.sz := putS1_fit HS.out.1.fit H3.out.2.2.2 r.what_ne H.out.2.2.2.2.1.byt
        refine (sbytes_any wr.heap.size q x.sz (putS1 s r.what) w3.drew (H3.out.1.grew ((Chg.refl _ _).drew)) hfs Hz.out.2.2.2.1 (putS1_ne s _ r.what_ne)).mono ?_
        rintro e w4 ⟨A4, c4, rfl, ho4, hg4⟩
        obtain ⟨g4, rfl, hgl4⟩ := own_block ho4 (by have := Hz.out.2.2.1; omega)
        have hg34 : Grew w3 w4 := Grew.trans ((Chg.refl NoF w3).drew) hg4
        have hk4 := H3.out.2.1.grew hg34
        have hd4 : w4.cell? ⟨h, 0, none⟩ = some (.pointer (some ⟨p, 0, none⟩)) := hk4.blk.cell 0
        have HW4 := Lib.hid (hlay_write h m p i g4 c4 F x P L E s r w4 hk4 H.out.2.1 H.out.2.2.1 H.out.2.2.2.1 H.out.2.2.2.2.1 (HS.out.1.sl HS.out.2) (.inl HS.out.1) H3.out.2.2.2 (Sl.of_own ho4) (fun e => by have h1 := (ho4.lt g4 rfl).1; have h2 := H3.out.2.1.gp.lt g4 e; simp at h1; omega))
        have H4 := Lib.hid (And.intro hk4 (H3.out.2.2.1.grew hg34))
        clear ho4 hg4 hg34 hk4
        refine hK.out _ _ hd4 (fun _ => ?_)
        clear hK K
        (try simp only [Act.put, List.setIfInBounds_toArray, List.set_cons_zero, List.set_cons_succ, List.getElem_toArray, List.getElem_cons_zero, List.getElem_cons_succ])
        refine wpAnyH_ready (rs := [11]) (by kernel_rfl) (by simp) ?_
        refine AllReadyH.cons rfl (fun K hK => ?_) AllReadyH.nil
        go_simp
        refine HW4.out.mono ?_
        rintro e w5 ⟨er, rfl, hc5, hout⟩
        have hd5 : w5.cell? ⟨h, 0, none⟩ = some (.pointer (some ⟨p, 0, none⟩)) := (hc5.cell (p := ⟨h, 0, none⟩) H4.out.1.blk.lt H4.out.1.nh).trans hd4
        have hcc5 : Chg (fun j => F j ∨ j = m) w w5 := Chg.trans H4.out.2 hc5 fun _ _ e => .inl e
        have hwz : w.heap.size ≤ w4.heap.size := H4.out.2.size
        have HO5 := Lib.hid (And.intro hout (And.intro hcc5 hwz))
        clear hc5 hout hcc5
        refine hK.out _ _ hd5 (fun _ => ?_)
        clear hK K
        (try simp only [Act.put, List.setIfInBounds_toArray, List.set_cons_zero, List.set_cons_succ, List.getElem_toArray, List.getElem_cons_zero, List.getElem_cons_succ])
        refine wpAnyH_take (i := 12) (v := ?_) rfl (by kernel_rfl) (by kernel_rfl) (by kernel_rfl) (fun _ _ _ h => h) (Or.inl ⟨by rfl, ?_⟩) hd5 ?_
        rotate_left
        · (intro w hSw; (try dsimp only at hSw); go_simp) <;> with_reducible rfl
        (try simp only [Act.put, List.setIfInBounds_toArray, List.set_cons_zero, List.set_cons_succ, List.getElem_toArray, List.getElem_cons_zero, List.getElem_cons_succ])
        refine wpAnyH_take (i := 13) (v := ?_) rfl (by kernel_rfl) (by kernel_rfl) (by kernel_rfl) (fun _ _ _ h => h) (Or.inl ⟨by rfl, ?_⟩) hd5 ?_
        rotate_left
        · (intro w hSw; (try dsimp only at hSw); go_simp) <;> with_reducible rfl
        (try simp only [Act.put, List.setIfInBounds_toArray, List.set_cons_zero, List.set_cons_succ, List.getElem_toArray, List.getElem_cons_zero, List.getElem_cons_succ])
        refine wpAnyH_done (by kernel_rfl) ?_ _
        clear hHeld hd3 hd4 hd5 hfs
        go_wp2_with fail
        go_ret2
        rcases HO5.out.1 with ⟨rfl, F', hk', hn', hPi, hin⟩ | ⟨rfl, hk', hns⟩
        · have hu := Rp.put_used (x := x) (i := i) (c := .new (pageS (putS1 s r.what) x.sz)) HS.out.1.byt.choose_spec.1
          rw [HS.out.1.byt.choose_spec.2.1] at hu
          simp [Pk.used] at hu
          refine .inl ⟨64 * i + empS s, _, F', P, ?_, hk', hin, Rp.put_like _ _ _, by omega, HO5.out.2.1, fun j hj => (hn' j hj).imp id fun e => Nat.le_trans HO5.out.2.2 e⟩
          simp
          omega
        · exact .inr ⟨⟨_, rfl⟩, x, F, hk'.gp, .refl x, HO5.out.2.1, fun _ e => .inl e, .inl ⟨x, .refl x, by omega, fun e => by have := e.1; omega⟩⟩
      · have hk3 := H2.out.1.grew hg3
        have hc3 : Chg F wr w3 := H2.out.2.1.grew hg3
        have HJ3 := Lib.hid (show LayJ w w3 h m p F x P l (some ⟨g1, 0, none⟩) c from ⟨hk3, H2.out.2.2.grew hg3, own_chg HJ.out.row hc3 fun q hq e => by have h1 := (HJ.out.row.lt q hq).1; have h2 := H.out.1.gp.lt q e; omega⟩)
        clear hk3 hc3 hg3 hf
        go_wp2_with fail
        go_roundg (l.length - (j + 1))
        case measure => omega
        case rel => exact ⟨j + 1, rfl, by omega, by simp, HJ3.out⟩
    · obtain rfl : j = l.length := by omega
      clear hlt hj
      obtain ⟨c1, f1, s1⟩ := HJ.out.k.blk.facts
      have HA := Lib.hid (gp_alloc_any p F x wr HJ.out.k.gp H.out.2.2.1)
      go_wp2_with fail
      refine HA.out.mono ?_
      rintro e w2 (⟨i, hno, -, rfl, hto⟩ | ⟨hn2, rfl, hg2⟩)
      · obtain ⟨F2, hk2, hr2⟩ := HJ.out.k.to hto
        have hil := (List.getElem?_eq_some_iff.1 hno).1
        have hi4 : i < 4096 := by have := Hz.out.2.2.2.2.2; omega
        have hcw : Chg F w w2 := Chg.trans HJ.out.chg hr2.chg fun _ _ e => e
        have hn2 : ∀ j, F2 j → F j ∨ w.heap.size ≤ j := fun j hj => (hr2.new j hj).imp id fun e => Nat.le_trans HJ.out.chg.size e
        have H2 := Lib.hid (And.intro hk2 (And.intro hcw (And.intro hn2 hno)))
        obtain ⟨c2, f2, s2⟩ := hk2.blk.facts
        clear hk2 hr2 hcw hn2 hno hto c1 f1 s1
        go_wp2_with fail
        refine (gp_size p F2 (x.put i .zero) w2 H2.out.1.gp).mono ?_
        rintro e w3 ⟨rfl, rfl⟩
        have HNw := Lib.hid (snew_any x.sz w2 (by have := Hz.out.2.2.1; omega) Hz.out.2.2.2.1)
        go_wp2_with fail
        refine HNw.out.mono ?_
        rintro e w3 ⟨rfl, hp3, hg3⟩
        have hpu := sput_any w2.heap.size w2.heap.size x.sz [] r.what (some ⟨g, off, none⟩) c0 w3 ⟨_, _, _, hp3⟩ (H.out.2.1.sl_new H2.out.2.2.2 (by have := Hz.out.2.2.1; omega)).fit Hz.out.2.2.2.1 ((H.out.2.2.2.2.2.2.1.chg H2.out.2.1 fun a ha => by cases ha; exact H.out.2.2.2.2.2.2.2.1).grew hg3) (by rw [HN.out]; exact hwl.2.1) (by rw [HN.out]; exact hwl.2.2) (fun a ha => by cases ha; have := H2.out.2.1.size; have := H.out.2.2.2.2.2.2.2.2.1; show g < _; omega)
        rw [HN.out] at hpu
        have HPu := Lib.hid hpu
        have H3 := Lib.hid (And.intro (H2.out.1.grew hg3) hg3)
        clear hpu hp3 hg3
        go_wp2_with fail
        refine HPu.out.mono ?_
        have hfit : fitsS [] r.what.length x.sz := by
          unfold fitsS
          have h0 : empS ([] : Sls) = ([] : Sls).length := rfl
          rw [if_pos h0, HN.out]
          have h1 : lenS ([] : Sls) = 1 := rfl
          have h2 : ([] : Sls).length = 0 := rfl
          omega
        rintro e w4 (⟨hf, rfl, hp4, hc4⟩ | ⟨hf, -⟩)
        · rw [show empS ([] : Sls) = 0 from rfl]
          have hk4 := H2.out.1.newer H3.out.1 hc4
          have hc24 : Chg (fun j => w2.heap.size ≤ j) w2 w4 := Grew.then H3.out.2 hc4
          have hcw4 : Chg F w w4 := Chg.trans H2.out.2.1 hc24 fun a ha e => by have := H2.out.2.1.size; omega
          obtain ⟨c7, f7, s7⟩ := hk4.blk.facts
          have hd4 : w4.drew.cell? ⟨h, 0, none⟩ = some (.pointer (some ⟨p, 0, none⟩)) := hk4.blk.drew.cell 0
          have H4 := Lib.hid (And.intro hp4 (And.intro hk4 (And.intro hcw4 hfit)))
          have hwr1 : IntKind.i64.wrap ((i : Int) * 64) = (i : Int) * 64 := wrap_nat (n := i * 64) (by omega)
          clear hp4 hc4 hf hfit hk4 hcw4 hc24 c7 f7 c2 f2 s2
          go_wp2_with fail
          refine wp_region_held_drew (S := fun w' => w'.cell? ⟨h, 0, none⟩ = some (.pointer (some ⟨p, 0, none⟩))) (by kernel_rfl) hd4 (fun hHeld => ?_)
          refine wpAnyH_take (i := 0) (v := ?_) rfl (by kernel_rfl) (by kernel_rfl) (by kernel_rfl) (fun _ _ _ h => h) (Or.inl ⟨by rfl, ?_⟩) hHeld ?_
          rotate_left
          · (intro w hSw; (try dsimp only at hSw); go_simp) <;> with_reducible rfl
          (try simp only [Act.put, List.setIfInBounds_toArray, List.set_cons_zero, List.set_cons_succ, List.getElem_toArray, List.getElem_cons_zero, List.getElem_cons_succ])
          refine wpAnyH_take (i := 1) (v := ?_) rfl (by kernel_rfl) (by kernel_rfl) (by kernel_rfl) (fun _ _ _ h => h) (Or.inl ⟨by rfl, ?_⟩) hHeld ?_
          rotate_left
          · (intro w hSw; (try dsimp only at hSw); go_simp) <;> with_reducible rfl
          (try simp only [Act.put, List.setIfInBounds_toArray, List.set_cons_zero, List.set_cons_succ, List.getElem_toArray, List.getElem_cons_zero, List.getElem_cons_succ])
          refine wpAnyH_take (i := 2) (v := ?_) rfl (by kernel_rfl) (by kernel_rfl) (by kernel_rfl) (fun _ _ _ h => h) (Or.inl ⟨by rfl, ?_⟩) hHeld ?_
          rotate_left
          · (intro w hSw; (try dsimp only at hSw); go_simp) <;> with_reducible rfl
          (try simp only [Act.put, List.setIfInBounds_toArray, List.set_cons_zero, List.set_cons_succ, List.getElem_toArray, List.getElem_cons_zero, List.getElem_cons_succ])
          refine wpAnyH_take (i := 3) (v := ?_) rfl (by kernel_rfl) (by kernel_rfl) (by kernel_rfl) (fun _ _ _ h => h) (Or.inl ⟨by rfl, ?_⟩) hHeld ?_
          rotate_left
          · (intro w hSw; (try dsimp only at hSw); go_simp) <;> with_reducible rfl
          (try simp only [Act.put, List.setIfInBounds_toArray, List.set_cons_zero, List.set_cons_succ, List.getElem_toArray, List.getElem_cons_zero, List.getElem_cons_succ])
          refine wpAnyH_take (i := 4) (v := ?_) rfl (by kernel_rfl) (by kernel_rfl) (by kernel_rfl) (fun _ _ _ h => h) (Or.inl ⟨by rfl, ?_⟩) hHeld ?_
          rotate_left
          · (intro w hSw; (try dsimp only at hSw); go_simp) <;> with_reducible rfl
          (try simp only [Act.put, List.setIfInBounds_toArray, List.set_cons_zero, List.set_cons_succ, List.getElem_toArray, List.getElem_cons_zero, List.getElem_cons_succ])
          refine wpAnyH_take (i := 5) (v := ?_) rfl (by kernel_rfl) (by kernel_rfl) (by kernel_rfl) (fun _ _ _ h => h) (Or.inl ⟨by rfl, ?_⟩) hHeld ?_
          rotate_left
          · (intro w hSw; (try dsimp only at hSw); go_simp) <;> with_reducible rfl
          (try simp only [Act.put, List.setIfInBounds_toArray, List.set_cons_zero, List.set_cons_succ, List.getElem_toArray, List.getElem_cons_zero, List.getElem_cons_succ])
          refine wpAnyH_ready (rs := [6]) (by kernel_rfl) (by simp) ?_
          refine AllReadyH.cons rfl (fun K hK => ?_) AllReadyH.nil
          go_simp
          have hfs : SFit (putS1 [] r.what) x.sz := putS1_fit (H.out.2.1.sl_new H2.out.2.2.2 (by have := Hz.out.2.2.1; omega)).fit H4.out.2.2.2 r.what_ne H.out.2.2.2.2.1.byt
          refine (sbytes_any w2.heap.size w2.heap.size x.sz (putS1 [] r.what) w4.drew (H4.out.1.grew ((Chg.refl _ _).drew)) hfs Hz.out.2.2.2.1 (putS1_ne _ _ r.what_ne)).mono ?_
          rintro e w5 ⟨A5, c5, rfl, ho5, hg5⟩
          obtain ⟨g5, rfl, hgl5⟩ := own_block ho5 (by have := Hz.out.2.2.1; omega)
          have hg45 : Grew w4 w5 := Grew.trans ((Chg.refl NoF w4).drew) hg5
          have hk5 := H4.out.2.1.grew hg45
          have hd5 : w5.cell? ⟨h, 0, none⟩ = some (.pointer (some ⟨p, 0, none⟩)) := hk5.blk.cell 0
          have hpl := pageS_len hfs.len
          have hww := gp_write_any p F2 (x.put i .zero) w5 i (pageS (putS1 [] r.what) x.sz) (some ⟨g5, 0, none⟩) c5 .zero hk5.gp H.out.2.2.1 (by rw [Rp.put_at hil, if_pos rfl]) rfl hpl (pageS_byt hfs) (by simp) (by rw [hpl]; exact Sl.of_own ho5) (fun a ha e => by cases ha; have h1 := (ho5.lt g5 rfl).1; have h2 := H4.out.2.1.gp.lt g5 e; simp at h1; omega)
          rw [hpl] at hww
          have HW5 := Lib.hid hww
          have H5 := Lib.hid (And.intro hk5 (H4.out.2.2.1.grew hg45))
          clear ho5 hg5 hg45 hk5 hww
          refine hK.out _ _ hd5 (fun _ => ?_)
          clear hK K
          (try simp only [Act.put, List.setIfInBounds_toArray, List.set_cons_zero, List.set_cons_succ, List.getElem_toArray, List.getElem_cons_zero, List.getElem_cons_succ])
          refine wpAnyH_ready (rs := [7]) (by kernel_rfl) (by simp) ?_
          refine AllReadyH.cons rfl (fun K hK => ?_) AllReadyH.nil
          go_simp
          have hout : Calls Tryz.prog 36 #[.pointer (some ⟨p, 0, none⟩), .int .i64 i, .slice (some ⟨g5, 0, none⟩) x.sz c5] w5 fun e w6 => ∃ er y F3, e = .returned (.int .i64 er) ∧ HH w6 h m p F3 y P ∧ Rch F2 F3 w5 w6 ∧ ((er = 0 ∧ y = x.put i (.new (pageS (putS1 [] r.what) x.sz))) ∨ (er = 21 ∧ y = x.put i .zero ∧ ¬ 1 ≤ y.slack)) := by
            refine HW5.out.mono ?_
            rintro e w6 (⟨rfl, hto⟩ | ⟨hns, -, rfl, hg6⟩)
            · obtain ⟨F3, hk6, hr6⟩ := H5.out.1.to hto
              rw [Rp.put_put] at hk6
              exact ⟨0, _, F3, rfl, hk6, hr6, .inl ⟨rfl, rfl⟩⟩
            · exact ⟨21, _, F2, rfl, H5.out.1.grew hg6, ⟨hg6.chg, fun _ e => .inl e⟩, .inr ⟨rfl, rfl, hns⟩⟩
          refine hout.mono ?_
          rintro e w6 ⟨er, y, F3, rfl, hk6, hr6, hcs⟩
          have hd6 : w6.cell? ⟨h, 0, none⟩ = some (.pointer (some ⟨p, 0, none⟩)) := hk6.blk.cell 0
          obtain ⟨c8, f8, s8⟩ := hk6.blk.facts
          obtain ⟨W7, hr7, hk7, hc7⟩ := hk6.put hi4
          have hcw7 : Chg (fun j => F j ∨ j = m) w W7 := Chg.trans (F := fun j => F j ∨ j = m) ((Chg.trans H5.out.2 hr6.chg fun j hj e => (H2.out.2.2.1 j e).resolve_right (by omega)).mono fun _ _ e => .inl e) hc7 fun _ _ e => .inr e
          have hn7 : ∀ j, F3 j → F j ∨ w.heap.size ≤ j := fun j hj => (hr6.new j hj).elim (H2.out.2.2.1 j) fun e => .inr (Nat.le_trans H5.out.2.size e)
          have H7 := Lib.hid (And.intro hk7 (And.intro hcw7 (And.intro hn7 hcs)))
          clear hk6 hr6 hcs hk7 hc7 hcw7 hn7 hout HW5
          refine hK.out _ _ hd6 (fun _ => ?_)
          clear hK K
          (try simp only [Act.put, List.setIfInBounds_toArray, List.set_cons_zero, List.set_cons_succ, List.getElem_toArray, List.getElem_cons_zero, List.getElem_cons_succ])
          refine wpAnyH_take (i := 8) (v := ?_) rfl (by kernel_rfl) (by kernel_rfl) (by kernel_rfl) (fun _ _ _ h => h) (Or.inl ⟨by rfl, ?_⟩) hd6 ?_
          rotate_left
          · (intro w hSw; (try dsimp only at hSw); go_simp) <;> with_reducible rfl
          (try simp only [Act.put, List.setIfInBounds_toArray, List.set_cons_zero, List.set_cons_succ, List.getElem_toArray, List.getElem_cons_zero, List.getElem_cons_succ])
          refine wpAnyH_done (by kernel_rfl) ?_ _
          clear hHeld hd4 hd5 hd6 hfs hpl
          go_wp2_with fail
          go_ret2
          have hin := H.out.2.1.put (r := { r with place := 64 * i + empS ([] : Sls) }) (H.out.2.1.sl_new H2.out.2.2.2 (by have := Hz.out.2.2.1; omega)) H4.out.2.2.2 rfl H.out.2.2.2.1 (H.out.2.2.2.2.1.at _)
          have hu := fun c => Rp.put_used (x := x) (i := i) (c := c) H2.out.2.2.2
          rcases H7.out.2.2.2 with ⟨rfl, rfl⟩ | ⟨rfl, rfl, hns⟩
          · have hu1 := hu (.new (pageS (putS1 [] r.what) x.sz))
            simp [Pk.used] at hu1
            refine .inl ⟨64 * i + empS ([] : Sls), _, F3, _, ?_, H7.out.1, hin, Rp.put_like _ _ _, by omega, H7.out.2.1, H7.out.2.2.1⟩
            rw [show empS ([] : Sls) = 0 from rfl]
            simp
            omega
          · have hu1 := hu .zero
            simp [Pk.used] at hu1
            exact .inr ⟨⟨_, rfl⟩, _, F3, H7.out.1.gp, Rp.put_like _ _ _, H7.out.2.1, H7.out.2.2.1, .inl ⟨x.put i .zero, Rp.put_like _ _ _, by omega, fun e => by have := e.1; omega⟩⟩
        · exact absurd hfit hf
      · have HF2 := Lib.hid (show HFull w w2 p m F x 1 from ⟨x, F, (HJ.out.k.gp.grew hg2), .refl x, (HJ.out.chg.grew hg2).mono fun _ _ e => .inl e, fun _ e => .inl e, .inl ⟨x, .refl x, by omega, fun e => hn2 ⟨by omega, e.2⟩⟩⟩)
        clear hn2 hg2
        go_wp2_with fail
        go_ret2
        exact .inr ⟨⟨_, rfl⟩, HF2.out⟩
end Go.Proofs.YtjkkoogfaibhiaaGreatDoor

/- The heap in memory: Put. -/
namespace Go.Proofs.YtjkkoogfaibhiaaGreatDoor
open Go.RowKit Go.Maps

/-- How many pages of its own a record has. -/
def ownN (n sz : Nat) : Nat := if longB n sz then partsN n (sz - 5) else 0
/-- What Put leaves. -/
def HPut (w w' : World) (h m p : Nat) (F : Nat → Prop) (x : Rp) (L : List HR) (bs : List Int) (e : Ending) : Prop :=
  (∃ (pl : Nat) (y : Rp) (F' : Nat → Prop) (P' : Nat → Bool) (pg : List Nat), e = .returned (.tuple #[.int .i64 pl, .int .i64 0]) ∧ HH w' h m p F' y P' ∧ HeapIn y P' (L ++ [⟨pl, bs, pg⟩]) [] ∧ x.like y ∧ pg.length = ownN bs.length x.sz ∧
    y.now.countP Pk.used ≤ x.now.countP Pk.used + 1 + ownN bs.length x.sz ∧ Chg (fun j => F j ∨ j = m) w w' ∧ ∀ j, F' j → F j ∨ w.heap.size ≤ j) ∨
  (e = .returned (.tuple #[.int .i64 0, .int .i64 21]) ∧ HFull w w' p m F x (1 + ownN bs.length x.sz))
theorem Tight.more {x y : Rp} {a b : Nat} (hl : x.like y) (hu : y.now.countP Pk.used + a ≤ x.now.countP Pk.used + b) (h : Tight y a) : Tight x b := by
  rcases h with ⟨z, h1, h2, h3⟩ | ⟨z, n, h1, h2, h3⟩
  · exact .inl ⟨z, hl.trans h1, by omega, h3⟩
  · exact .inr ⟨z, n, hl.trans h1, by omega, h3⟩
set_option maxRecDepth 100000 in
set_option maxHeartbeats 3200000 in
theorem hput_any (h m p g off c0 : Nat) (F : Nat → Prop) (x : Rp) (P : Nat → Bool) (L : List HR) (bs : List Int) (w : World) (k : HH w h m p F x P) (hx : HeapIn x P L []) (ho : x.was ≠ none)
    (h1 : 1 ≤ bs.length) (h2 : bs.length ≤ 16384) (hby : ∀ q ∈ bs, 0 ≤ q ∧ q ≤ 255) (hc0 : bs.length ≤ c0) (hs : Sl w 1 (some ⟨g, off, none⟩) bs.length (bv bs)) (hgF : ¬ F g) (hgl : g < w.heap.size) :
    Calls Tryz.prog 11 #[.pointer (some ⟨h, 0, none⟩), .slice (some ⟨g, off, none⟩) bs.length c0] w fun e w' => HPut w w' h m p F x L bs e := by
  obtain ⟨i0, hi0, hz0, hz1, hz2⟩ := info_parts u8Info_
  have hz := k.gp.szs
  have t1 : decide ((bs.length : Int) < 1) = false := decide_eq_false (by omega)
  have t2 : decide ((16384 : Int) < (bs.length : Int)) = false := decide_eq_false (by omega)
  have Hz := Lib.hid hz
  have HL := Lib.hid (fun u (hk : HH u h m p F x P) => hlong_any h m p bs.length F x P u hk)
  have H := Lib.hid (And.intro k (And.intro hx (And.intro ho (And.intro hby (And.intro hs (And.intro hgF (And.intro hgl hc0)))))))
  have HI := Lib.hid (And.intro hi0 (And.intro hz0 (And.intro hz1 hz2)))
  have HX := Lib.hid (fun (W : World) (hg : Grew w W) => hs.grew hg)
  obtain ⟨n, hn⟩ : ∃ n, bs.length = n := ⟨_, rfl⟩
  have Hn := Lib.hid hn
  obtain ⟨lb, hlb⟩ : ∃ b, longB bs.length x.sz = b := ⟨_, rfl⟩
  have Hlb := Lib.hid hlb
  rw [hn] at t1 t2 h1 h2 HL ⊢
  rw [hn] at hlb
  rw [hlb] at HL
  clear k hx ho hby hs hgF hgl hz hi0 hz0 hz1 hz2 hn hlb hc0
  go_enter Tryz.func11, Tryz.ntmps11
  go_wp2_with (at_builtin; (refine wpList_append_own _ rfl _ _ _ rfl w.heap.size 5 i0 _ 1 1 Tryz.underlying34 HI.out.1 HI.out.2.1 HI.out.2.2.1 HI.out.2.2.2 rfl (by omega) _ 1 _ rfl (World.ownsRow_lit w #[.int .u8 0] 1 (Nat.le_refl _) (by simp [maxLen]) (by simp)) ⟨g, off, none⟩ n c0 (bv bs) rfl (by rw [bv_len, Hn.out, Nat.mul_one]) (fun j u hu => by obtain ⟨g9, o9, e9, -, h9⟩ := (HX.out _ ((Chg.refl _ _).alloc _)).2 (by rw [Hn.out]; omega); cases e9; rw [Addr.add_lit]; exact h9 j u hu) (bv_one _) (by simp only [maxLen]; omega) (by omega) (by simp) ?_); intro v1 w1 hown1 hgrow hnil; have HO := Lib.hid hown1; have HG := Lib.hid (show Grew w w1 from ((Chg.refl NoF w).alloc _).grown (show World.grownBy (w.alloc (.cells #[.int .u8 0] 5)) w1 (some w.heap.size) from hgrow) (fun k hk hlt => by injection hk with hk; omega)); clear hown1 hgrow hnil)
  have hk1 := H.out.1.grew HG.out
  have hx1 := H.out.2.1
  obtain ⟨A1, c1, rfl, hc1⟩ := own_shape HO.out
  obtain ⟨g1, rfl, hg1⟩ := own_block HO.out (by omega)
  have hsz1 := HG.out.size
  refine (HL.out w1 hk1).mono ?_
  rintro e w2 ⟨rfl, rfl⟩
  cases lb with
  | false =>
    have hsh : bs.length ≤ (x.sz - 8) / 2 := by
      have := Hlb.out
      unfold longB at this
      have := of_decide_eq_false this
      omega
    have hon : ownN bs.length x.sz = 0 := by unfold ownN; rw [Hlb.out]; rfl
    have hok : HR.ok x ⟨0, bs, []⟩ := ⟨(show 1 ≤ bs.length ∧ bs.length ≤ 16384 ∧ _ from ⟨by have := Hn.out; omega, by have := Hn.out; omega, H.out.2.2.2.1⟩), .inl ⟨rfl, hsh⟩⟩
    have hwl : (HR.what ⟨0, bs, []⟩).length = 1 + n := by have := Hn.out; simp [HR.what]; omega
    have hla := hlay_any h m p g1 0 c1 F x P L [] ⟨0, bs, []⟩ w1 hk1 hx1 H.out.2.2.1 rfl hok (by rw [hwl]; have := Sl.of_own HO.out; simpa [HR.what, bv] using this) (fun e => by have h1 := (HO.out.lt g1 rfl).1; have h2 := H.out.1.gp.lt g1 e; omega) hg1
    rw [hwl] at hla
    have HLa := Lib.hid hla
    have Hon := Lib.hid hon
    clear hla hon hok hk1 hx1
    go_wp2_with fail
    refine HLa.out.mono ?_
    rintro e w3 (⟨pl, y, F', P', rfl, hk3, hin3, hlk, hu, hc3, hn3⟩ | ⟨⟨v, rfl⟩, hfu⟩)
    · have H3 := Lib.hid (show HPut w w3 h m p F x L bs (.returned (.tuple #[.int .i64 pl, .int .i64 0])) from .inl ⟨pl, y, F', P', [], rfl, hk3, hin3, hlk, by rw [Hon.out]; rfl, by rw [Hon.out]; omega, Grew.then HG.out hc3, fun j hj => (hn3 j hj).imp id fun e => by omega⟩)
      clear hk3 hin3 hlk hu hc3 hn3
      go_wp2_with fail
      go_ret2
      exact H3.out
    · obtain ⟨y, F', q1, q2, q3, q4, q5⟩ := hfu
      have H3 := Lib.hid (show HPut w w3 h m p F x L bs (.returned (.tuple #[.int .i64 0, .int .i64 21])) from .inr ⟨rfl, y, F', q1, q2, Grew.then HG.out q3, fun j hj => (q4 j hj).imp id fun e => by omega, by rw [Hon.out]; exact q5⟩)
      clear q1 q2 q3 q4 q5
      go_wp2_with fail
      go_ret2
      exact H3.out
  | true =>
    have hon : ownN bs.length x.sz = partsN bs.length (x.sz - 5) := by unfold ownN; rw [Hlb.out]; rfl
    have hcp := cput_any p F x bs g off c0 w1 hk1.gp H.out.2.2.1 (by have := Hn.out; omega) (by have := Hn.out; omega) H.out.2.2.2.1 H.out.2.2.2.2.2.2.2 (HX.out w1 HG.out) H.out.2.2.2.2.2.1
    rw [Hn.out] at hcp
    have HCp := Lib.hid hcp
    have Hon := Lib.hid hon
    have HK1 := Lib.hid (And.intro hk1 hx1)
    obtain ⟨cb, fb, sb⟩ := hk1.blk.facts
    clear hcp hon hk1 hx1
    go_wp2_with fail
    refine HCp.out.mono ?_
    rintro e w3 (⟨i1, l, y, rfl, hl0, hto, hpr⟩ | ⟨y, rfl, hto, hlk, hne⟩)
    · obtain ⟨F2, hk3, hr3⟩ := HK1.out.1.to hto
      have hin := HK1.out.2.chain hpr
      have hi4 : i1 < 4096 := by
        obtain ⟨c, e1, -⟩ := hpr.stands.at_ 0 i1 hl0
        have h8 := (List.getElem?_eq_some_iff.1 e1).1
        have := hk3.gp.szs
        omega
      have hlne : l ≠ [] := fun e => by rw [e] at hl0; cases hl0
      have hok : HR.ok y ⟨0, bs, l⟩ := ⟨(show 1 ≤ bs.length ∧ bs.length ≤ 16384 ∧ _ from ⟨by have := Hn.out; omega, by have := Hn.out; omega, H.out.2.2.2.1⟩), .inr ⟨hlne, hpr.stands⟩⟩
      have hw : HR.what ⟨0, bs, l⟩ = [1, ((i1 % 256 : Nat) : Int), ((i1 / 256 % 256 : Nat) : Int)] := by
        cases l with
        | nil => exact absurd rfl hlne
        | cons a t => simp at hl0; subst hl0; rfl
      have H3 := Lib.hid (And.intro hk3 (And.intro hr3 (And.intro hin (And.intro hok (And.intro hw hpr)))))
      have hyw : y.was ≠ none := by rw [hpr.like.was]; exact H.out.2.2.1
      have Hyw := Lib.hid hyw
      clear hk3 hr3 hin hok hw hto hpr hl0 hlne hyw cb fb sb
      go_wp2_with fail
      obtain ⟨W4, hW4⟩ : ∃ W, w3.alloc (.cells #[.int .u8 1, .int .u8 ((i1 : Int) % 256), .int .u8 ((i1 : Int) / 256)] 5) = W := ⟨_, rfl⟩
      rw [hW4]
      have hg4 : Grew w3 W4 := hW4 ▸ (Chg.refl _ _).alloc _
      have hz4 : W4.heap.size = w3.heap.size + 1 := by subst hW4; simp
      have hsl4 : Sl W4 1 (some ⟨w3.heap.size, 0, none⟩) (HR.what ⟨0, bs, l⟩).length (bv (HR.what ⟨0, bs, l⟩)) := by
        have := World.ownsRow_lit w3 #[.int .u8 1, .int .u8 ((i1 : Int) % 256), .int .u8 ((i1 : Int) / 256)] 3 (Nat.le_refl _) (by simp [maxLen]) (by simp) (e := 5) (size := 1) (base := w3.heap.size)
        rw [hW4] at this
        have q2 : ((i1 / 256 % 256 : Nat) : Int) = (i1 : Int) / 256 := by omega
        have := Sl.of_own this
        rw [H3.out.2.2.2.2.1, q2]
        simpa [bv] using this
      have hla := hlay_any h m p w3.heap.size 0 3 F2 y P L l ⟨0, bs, l⟩ W4 (H3.out.1.grew hg4) H3.out.2.2.1 Hyw.out rfl H3.out.2.2.2.1 hsl4 (fun e => by have := H3.out.1.gp.lt _ e; omega) (by omega)
      rw [show (HR.what ⟨0, bs, l⟩).length = 3 by rw [H3.out.2.2.2.2.1]; rfl] at hla
      have HLa := Lib.hid hla
      have H4 := Lib.hid (And.intro hg4 hz4)
      clear hla hg4 hz4 hsl4 hW4
      refine HLa.out.mono ?_
      have hsz3 := H3.out.2.1.chg.size
      have hww : Chg (fun j => F j ∨ j = m) w W4 := ((Grew.then HG.out H3.out.2.1.chg).grew H4.out.1).mono fun _ _ e => .inl e
      have hnw : ∀ j, F2 j → F j ∨ w.heap.size ≤ j := fun j hj => (H3.out.2.1.new j hj).imp id fun e => by omega
      have hus := H3.out.2.2.2.2.2.used
      have hll := H3.out.2.2.2.2.2.stands.len
      have hys := H3.out.2.2.2.2.2.like
      rw [hys.sz] at hll
      have HW := Lib.hid (And.intro hww (And.intro hnw (And.intro hus (And.intro hll hys))))
      clear hww hnw hus hll hys
      rintro e w5 (⟨pl, z, F', P', rfl, hk5, hin5, hlk5, hu5, hc5, hn5⟩ | ⟨⟨v, rfl⟩, hfu⟩)
      · have H5 := Lib.hid (show HPut w w5 h m p F x L bs (.returned (.tuple #[.int .i64 pl, .int .i64 0])) from .inl ⟨pl, z, F', P', l, rfl, hk5, hin5, HW.out.2.2.2.2.trans hlk5, by rw [Hon.out]; exact HW.out.2.2.2.1, by rw [Hon.out]; have h1 := HW.out.2.2.1; have h2 := HW.out.2.2.2.1; omega,
          Chg.trans HW.out.1 hc5 fun j hj e => e.elim (fun e => (HW.out.2.1 j e).elim .inl fun e => by omega) .inr, fun j hj => (hn5 j hj).elim (HW.out.2.1 j) fun e => .inr (by have := HW.out.1.size; omega)⟩)
        clear hk5 hin5 hlk5 hu5 hc5 hn5
        go_wp2_with fail
        go_ret2
        exact H5.out
      · obtain ⟨z, F', q1, q2, q3, q4, q5⟩ := hfu
        have H5 := Lib.hid (show HPut w w5 h m p F x L bs (.returned (.tuple #[.int .i64 0, .int .i64 21])) from .inr ⟨rfl, z, F', q1, HW.out.2.2.2.2.trans q2, Chg.trans HW.out.1 q3 fun j hj e => e.elim (fun e => (HW.out.2.1 j e).elim .inl fun e => by omega) .inr, fun j hj => (q4 j hj).elim (HW.out.2.1 j) fun e => .inr (by have := HW.out.1.size; omega), by
          rw [Hon.out]
          exact Tight.more HW.out.2.2.2.2 (by have h1 := HW.out.2.2.1; have h2 := HW.out.2.2.2.1; omega) q5⟩)
        clear q1 q2 q3 q4 q5
        go_wp2_with fail
        go_ret2
        exact H5.out
    · obtain ⟨F2, q1, q2, q3⟩ := hto
      have H3 := Lib.hid (show HPut w w3 h m p F x L bs (.returned (.tuple #[.int .i64 0, .int .i64 21])) from .inr ⟨rfl, y, F2, q1, hlk, (Grew.then HG.out q2).mono fun _ _ e => .inl e, fun j hj => (q3 j hj).imp id fun e => by omega, .inr ⟨x, _, .refl x, by rw [Hon.out]; omega, hne⟩⟩)
      clear q1 q2 q3 hlk hne
      go_wp2_with fail
      go_ret2
      exact H3.out
end Go.Proofs.YtjkkoogfaibhiaaGreatDoor

/- Free in all cases. -/
namespace Go.Proofs.YtjkkoogfaibhiaaGreatDoor
open Go.RowKit Go.Maps
section
variable (p : Nat) (F : Nat → Prop) (x : Rp) (w : World)
theorem gp_free_full (i : Nat) (c : Pk) (h : GP w p F x) (ho : x.was ≠ none) (hi : x.now[i]? = some c) (hu : c.used = true) (hm : x.room < (x.need (i / x.row) 0 : Nat)) :
    Calls Tryz.prog 38 #[.pointer (some ⟨p, 0, none⟩), .int .i64 i] w fun e' w' => e' = .returned (.int .i64 21) ∧ Grew w w' := by
  obtain ⟨X, h1, h2, rfl⟩ := h
  obtain ⟨o, hx⟩ := Gp.view_op ho
  obtain ⟨s, hs, h0, rfl⟩ := Gp.entry_used hi hu
  have hv := h2.inv
  have hm' : X.room < (o.more (i / X.row) 0 : Nat) := by rw [h2.room, Gp.more_need h2 hx]; exact hm
  exact gfree_full p i s F X o w h1 (h2.rdy hx) hx h2.sz hv.sz.2.1 hs h0 hm'
theorem gp_free_any (i : Nat) (c : Pk) (h : GP w p F x) (ho : x.was ≠ none) (hi : x.now[i]? = some c) (hu : c.used = true) :
    Calls Tryz.prog 38 #[.pointer (some ⟨p, 0, none⟩), .int .i64 i] w fun e' w' =>
      (e' = .returned (.int .i64 0) ∧ GPTo w w' p F (x.put i .no)) ∨ (¬ (0 ≤ x.slack) ∧ e' = .returned (.int .i64 21) ∧ Grew w w') := by
  by_cases hm : (x.need (i / x.row) 0 : Nat) ≤ x.room
  · exact (gp_free p i F x w c h ho hi hu hm).mono fun e w' k => .inl k
  · refine (gp_free_full p F x w i c h ho hi hu (by omega)).mono ?_
    rintro e w' ⟨rfl, h3⟩
    exact .inr ⟨fun hs => hm (h.need (h.part (List.getElem?_eq_some_iff.1 hi).1) (by simpa using hs)), rfl, h3⟩
end
end Go.Proofs.YtjkkoogfaibhiaaGreatDoor

/- The chain: Del of a record that stands, also where the disk is full. -/
namespace Go.Proofs.YtjkkoogfaibhiaaGreatDoor
open Go.RowKit Go.Maps

theorem DelJ.grew {w W W' : World} {p : Nat} {F F' : Nat → Prop} {x y : Rp} {l : List Nat} {A : Option Addr} {c k : Nat} (h : DelJ w W p F F' x y l A c k) (hg : Grew W W') : DelJ w W' p F F' x y l A c k :=
  ⟨h.gp.grew hg, h.rch.trans ⟨hg.chg, fun _ e => .inl e⟩, own_grew h.row hg, h.rn, h.fr⟩
set_option maxRecDepth 100000 in
set_option maxHeartbeats 1600000 in
theorem cdelw_any (p : Nat) (F : Nat → Prop) (x : Rp) (w : World) (l : List Nat) (bs : List Int) (i0 : Nat) (h : GP w p F x) (ho : x.was ≠ none) (hs : Stands x l bs) (hb : 1 ≤ bs.length) (hb2 : bs.length ≤ 16384) (h0 : l[0]? = some i0) :
    Calls Tryz.prog 33 #[.pointer (some ⟨p, 0, none⟩), .int .i64 i0] w fun e w' => (e = .returned (.int .i64 0) ∧ ∃ y, GPTo w w' p F y ∧ Freed x y l) ∨ (e = .returned (.int .i64 21) ∧ ∃ y, GPTo w w' p F y ∧ x.like y ∧ y.now.countP Pk.used ≤ x.now.countP Pk.used ∧ ¬ 0 ≤ y.slack) := by
  have hpg : Calls Tryz.prog 68 #[.pointer (some ⟨p, 0, none⟩), .int .i64 i0] w fun e w' => ∃ A c, e = .returned (.tuple #[.slice A l.length c, .int .i64 0]) ∧ DelJ w w' p F F x x l A c 0 := by
    have H := Lib.hid (all_stands p F x w l bs i0 h hs hb hb2 h0)
    have HF := Lib.hid h.lt
    clear h hs hb hb2 h0
    go_enter Tryz.func68, Tryz.ntmps68
    go_wp2_with fail
    refine H.out.mono ?_
    rintro e w1 ⟨h1, h2, A1, c1, A2, c2, rfl, h3, h4⟩
    have HO := Lib.hid (And.intro h1 (And.intro h2 h3))
    clear h1 h2 h3 h4
    go_wp2_with fail
    go_ret2
    exact ⟨A1, c1, rfl, HO.out.1, ⟨HO.out.2.1, fun _ e => .inl e⟩, HO.out.2.2, fun g hg e => by have := (HO.out.2.2.lt g hg).1; have := HF.out g e; omega, Freed.refl x⟩
  have hll : l.length ≤ 4096 := by
    have h1 := h.szs
    have h2 := List.Nodup.length_le_of_subset hs.nd (l₂ := List.range x.now.length) fun s hm => List.mem_range.2 (by
      obtain ⟨k, hk⟩ := List.mem_iff_getElem?.1 hm
      obtain ⟨c, e, -⟩ := hs.at_ k s hk
      exact (List.getElem?_eq_some_iff.1 e).1)
    rw [List.length_range] at h2
    omega
  have H := Lib.hid (And.intro hpg (And.intro ho hs))
  clear h ho hs hb hb2 h0 hpg
  go_enter Tryz.func33, Tryz.ntmps33
  go_wp2_with fail
  refine H.out.1.mono ?_
  rintro e w1 ⟨A, c, rfl, hJ⟩
  have HJ := Lib.hid hJ
  clear hJ
  go_wp2_with fail
  go_loopg [6, 17] l.length (fun q e v wr => ∃ (k j : Nat) (F' : Nat → Prop) (y : Rp) (er : Int), q = l.length - k ∧ k ≤ l.length ∧ e = .int .i64 er ∧ v = .int .i64 k ∧ DelJ w wr p F F' x y l A c j ∧ ((er = 0 ∧ j = k) ∨ (er = 21 ∧ ¬ 0 ≤ y.slack)))
  case atStart => exact ⟨0, 0, F, x, 0, rfl, Nat.zero_le _, rfl, rfl, HJ.out, .inl ⟨rfl, rfl⟩⟩
  case round =>
    obtain ⟨k, j, F', y, er, rfl, hk, rfl, rfl, hJ, hc⟩ := hrel
    have HK := Lib.hid hJ
    clear hJ
    by_cases hlt : k < l.length
    · obtain ⟨i, hi⟩ : ∃ i, l[k]? = some i := ⟨_, List.getElem?_eq_getElem hlt⟩
      obtain ⟨g, rfl, hg⟩ := own_block HK.out.row (by omega)
      have hce : wr.cell? ⟨g, k, none⟩ = some (.int .i64 i) := by
        have := HK.out.row.cells (g := g) rfl k (.int .i64 i) (by simp [nv, hi])
        rwa [Addr.add_lit, Nat.zero_add] at this
      rcases hc with ⟨rfl, rfl⟩ | ⟨rfl, hns⟩
      · obtain ⟨cc, e1, e2, -⟩ := H.out.2.2.at_ j i hi
        have hin : i ∉ l.take j := fun hm => by
          obtain ⟨q, hq, e⟩ := List.mem_iff_getElem.1 hm
          rw [List.getElem_take] at e
          rw [List.length_take] at hq
          have h9 : l[q]? = l[j]? := by rw [List.getElem?_eq_getElem (show q < l.length by omega), hi, e]
          have := (List.getElem?_inj (by omega) H.out.2.2.nd).1 h9
          omega
        have hy : y.now[i]? = some cc := by rw [HK.out.fr.else_ i hin]; exact e1
        have hyw : y.was ≠ none := by rw [HK.out.fr.like.was]; exact H.out.2.1
        have HFr := Lib.hid (gp_free_any p F' y wr i cc HK.out.gp hyw hy e2)
        have HM := Lib.hid (HK.out.fr.more H.out.2.1 hin e1 e2)
        have HT := Lib.hid (show l.take j ++ [i] = l.take (j + 1) from by rw [List.take_add_one, hi]; rfl)
        clear hi e1 e2 hin hy hyw
        go_wp2_with fail
        refine HFr.out.mono ?_
        rintro e w3 (⟨rfl, F2, h1, h2, h3⟩ | ⟨hns, rfl, hg3⟩)
        · have HN := Lib.hid (show DelJ w w3 p F F2 x (y.put i .no) l (some ⟨g, 0, none⟩) c (j + 1) from ⟨h1, HK.out.rch.trans ⟨h2, h3⟩, own_chg HK.out.row h2 HK.out.rn, fun q hq e => (h3 q e).elim (HK.out.rn q hq) fun e => by have := (HK.out.row.lt q hq).2; omega, HT.out ▸ HM.out⟩)
          clear h1 h2 h3 hce
          go_wp2_with fail
          go_roundg (l.length - (j + 1))
          case measure => omega
          case rel => exact ⟨j + 1, j + 1, F2, _, 0, rfl, by omega, rfl, by simp, HN.out, .inl ⟨rfl, rfl⟩⟩
        · have HN := Lib.hid (HK.out.grew hg3)
          clear hg3 hce
          go_wp2_with fail
          go_roundg (l.length - (j + 1))
          case measure => omega
          case rel => exact ⟨j + 1, j, F', y, 21, rfl, by omega, rfl, by simp, HN.out, .inr ⟨rfl, hns⟩⟩
      · clear hi
        go_wp2_with fail
        go_roundg (l.length - (k + 1))
        case measure => omega
        case rel => exact ⟨k + 1, j, F', y, 21, rfl, by omega, rfl, by simp, HK.out, .inr ⟨rfl, hns⟩⟩
    · obtain rfl : k = l.length := by omega
      go_wp2_with fail
      go_ret
      have h5 := HK.out.fr
      rcases hc with ⟨rfl, rfl⟩ | ⟨rfl, hns⟩
      · rw [List.take_length] at h5
        exact .inl ⟨rfl, y, ⟨F', HK.out.gp, HK.out.rch.chg, HK.out.rch.new⟩, h5⟩
      · exact .inr ⟨rfl, y, ⟨F', HK.out.gp, HK.out.rch.chg, HK.out.rch.new⟩, h5.like, by have := h5.used; omega, hns⟩

end Go.Proofs.YtjkkoogfaibhiaaGreatDoor

/- The heap in memory: Del. -/
namespace Go.Proofs.YtjkkoogfaibhiaaGreatDoor
open Go.RowKit Go.Maps

/-- What Del leaves. -/
def HDel (w w' : World) (h m p : Nat) (F : Nat → Prop) (x : Rp) (L : List HR) (k : Nat) (e : Ending) : Prop :=
  (∃ (y : Rp) (F' : Nat → Prop) (P' : Nat → Bool), e = .returned (.int .i64 0) ∧ HH w' h m p F' y P' ∧ HeapIn y P' (L.eraseIdx k) [] ∧ x.like y ∧ y.now.countP Pk.used ≤ x.now.countP Pk.used ∧
    Chg (fun j => F j ∨ j = m) w w' ∧ ∀ j, F' j → F j ∨ w.heap.size ≤ j) ∨
  (e = .returned (.int .i64 21) ∧ HFull w w' p m F x 0)
theorem cntS_zero {s : Sls} : cntS s = 0 ↔ ∀ b ∈ s, b = [] := by
  unfold cntS
  rw [List.countP_eq_zero]
  constructor
  · intro h b hb
    have := h b hb
    cases b with
    | nil => rfl
    | cons a t => simp at this
  · intro h b hb
    rw [h b hb]
    simp
theorem cnt_del {s : Sls} {i sz : Nat} (h : SFit s sz) : (delS s i = [] ↔ cntS (delS s i) = 0) := by
  rw [cntS_zero]
  constructor
  · intro e b hb
    rw [e] at hb
    cases hb
  · intro e
    exact fit_nil (delS_fit (i := i) h) fun j c hc => e c (List.mem_of_getElem? hc)
theorem flat_pos {s : Sls} {sz : Nat} (h : SFit s sz) (hne : s ≠ []) : 0 < s.flatten.length := by
  obtain ⟨b, hb⟩ : ∃ b, s.getLast? = some b := ⟨_, List.getLast?_eq_some_getLast hne⟩
  have h1 := h.last b hb
  have h2 := flat_mem (List.mem_of_getLast? hb)
  have h4 : 0 < b.length := List.length_pos_iff.2 h1
  omega
/-- The record's own pages are given up; the slotted page lies there. -/
def DelSt (w w3 W : World) (h m p : Nat) (F : Nat → Prop) (x : Rp) (P : Nat → Bool) (L : List HR) (r : HR) (q gp cp lo : Nat) (s : Sls) (vs : List Value) : Prop :=
  ∃ (y : Rp) (F4 : Nat → Prop), HH W h m p F4 y P ∧ Rch F F4 w W ∧ (∀ j, F4 j → F j ∨ w3.heap.size ≤ j) ∧ Freed x y r.pages ∧ PgAt W lo q x.sz s (some ⟨gp, 0, none⟩) cp vs
set_option maxRecDepth 100000 in
set_option maxHeartbeats 3200000 in
theorem hdel_any (h m p kk : Nat) (F : Nat → Prop) (x : Rp) (P : Nat → Bool) (L : List HR) (r : HR) (w : World) (k : HH w h m p F x P) (hx : HeapIn x P L []) (ho : x.was ≠ none) (hr : L[kk]? = some r) :
    Calls Tryz.prog 14 #[.pointer (some ⟨h, 0, none⟩), .int .i64 r.place] w fun e w' => HDel w w' h m p F x L kk e := by
  have hrm := List.mem_of_getElem? hr
  have HG := Lib.hid (hget_any h m p F x P L [] r w k hx hrm)
  have hz := k.gp.szs
  have hok := (hx.at_ r hrm).2
  have hi6 : ∀ i ∈ r.pages, i < 65536 := fun i hi => by
    obtain ⟨c, h1, -⟩ := hx.use hrm hi
    have := (List.getElem?_eq_some_iff.1 h1).1
    omega
  have H := Lib.hid (And.intro k (And.intro hx (And.intro ho (And.intro hr (And.intro trivial (And.intro hrm (And.intro hz (And.intro hok hi6))))))))
  have hpb : r.place < 262144 := by
    obtain ⟨s, hs, -⟩ := hx.slot hrm
    have := hs.lt
    omega
  clear k hx ho hr hrm hz hok hi6
  go_enter Tryz.func14, Tryz.ntmps14
  go_wp2_with fail
  refine HG.out.mono ?_
  rintro e w1 ⟨A0, c0, rfl, -, -, -, hk1, hc1⟩
  have HS := Lib.hid (hstub_any h m p F x P L [] r w1 hk1 H.out.2.1 H.out.2.2.2.2.2.1)
  have H1 := Lib.hid (And.intro hk1 hc1)
  clear hk1 hc1
  go_wp2_with fail
  refine HS.out.mono ?_
  rintro e w2 ⟨q, s, A, c, rfl, ⟨hs, hj⟩, hp, ho2, hk2, hc2⟩
  obtain ⟨g, rfl, hgl⟩ := own_block ho2 (List.length_pos_iff.2 r.what_ne)
  have HFi := Lib.hid (hfirst_any w1.heap.size g c r w2 ho2 H.out.2.2.2.2.2.2.2.2 H.out.2.2.2.2.2.2.2.1.base.2.1)
  obtain ⟨Ap, cp, vs, hpa⟩ := hp
  obtain ⟨gp, Ai, ci, rfl, -⟩ := hpa.cell hj
  have H2 := Lib.hid (And.intro hs (And.intro hj (And.intro hpa (And.intro hk2 (Chg.trans H1.out.2 hc2 fun _ _ e => e)))))
  clear hs hj hpa ho2 hk2 hc2
  go_wp2_with fail
  refine HFi.out.mono ?_
  rintro e w3 ⟨rfl, hg3⟩
  have hk3 := H2.out.2.2.2.1.grew hg3
  have hcw3 : Chg F w w3 := H2.out.2.2.2.2.grew hg3
  have hp3 := H2.out.2.2.1.grew hg3
  obtain ⟨c3, f3, s3⟩ := hk3.blk.facts
  have H3 := Lib.hid (And.intro hk3 (And.intro hcw3 hp3))
  clear hk3 hcw3 hp3 hg3
  have hqz : q < w3.heap.size ∧ gp < w3.heap.size := ⟨H3.out.2.2.blk.lt, (H3.out.2.2.row.lt gp rfl).2⟩
  have hw1 := H1.out.2.size
  have Hq := Lib.hid (And.intro hqz hw1)
  clear hqz hw1
  cases hpg : r.pages
  case' nil =>
    have hfs : r.fst = 0 ∧ r.isL = false := by unfold HR.fst HR.isL; rw [hpg]; exact ⟨rfl, rfl⟩
    rw [hfs.1, hfs.2]
    have H4 := Lib.hid (show DelSt w w3 w3 h m p F x P L r q gp cp w1.heap.size s vs from ⟨x, F, H3.out.1, ⟨H3.out.2.1, fun _ e => .inl e⟩, fun _ e => .inl e, by rw [hpg]; exact Freed.refl x, H3.out.2.2⟩)
    clear hfs hpg
    go_wp2_with fail
    obtain ⟨w4, hw4⟩ : ∃ W, W = w3 := ⟨_, rfl⟩
    rw [← hw4] at H4 Hq ⊢
    clear hw4 H3 c3 f3 s3
  case' cons i t =>
    have hfs : r.fst = i ∧ r.isL = true := by unfold HR.fst HR.isL; rw [hpg]; exact ⟨rfl, rfl⟩
    rw [hfs.1, hfs.2]
    have hst : Stands x r.pages r.text := by
      rcases H.out.2.2.2.2.2.2.2.1.shape with ⟨e, -⟩ | ⟨-, e⟩
      · rw [hpg] at e; cases e
      · exact e
    have HC := Lib.hid (cdelw_any p F x w3 r.pages r.text i H3.out.1.gp H.out.2.2.1 hst H.out.2.2.2.2.2.2.2.1.base.1 H.out.2.2.2.2.2.2.2.1.base.2.1 (by rw [hpg]; rfl))
    clear hfs hpg hst
    go_wp2_with fail
    refine HC.out.mono ?_
    rintro e w4 (⟨rfl, y, hto, hfd⟩ | ⟨rfl, y, hto, hlk, hu, hns⟩)
    rotate_left
    · obtain ⟨F4, hk4, hr4⟩ := H3.out.1.to hto
      have H4 := Lib.hid (show HFull w w4 p m F x 0 from ⟨y, F4, hk4.gp, hlk, (Chg.trans H3.out.2.1 hr4.chg fun _ _ e => e).mono fun _ _ e => .inl e, fun j hj => (hr4.new j hj).imp id fun e => Nat.le_trans H3.out.2.1.size e, .inl ⟨y, hlk, by omega, fun e => by have := e.1; omega⟩⟩)
      clear hto hlk hu hns hk4 hr4 H3 HC c3 f3 s3
      go_wp2_with fail
      go_ret
      exact .inr ⟨rfl, H4.out⟩
    have H4 := Lib.hid (show DelSt w w3 w4 h m p F x P L r q gp cp w1.heap.size s vs from by
      obtain ⟨F4, hk4, hr4⟩ := H3.out.1.to hto
      exact ⟨y, F4, hk4, ⟨Chg.trans H3.out.2.1 hr4.chg fun _ _ e => e, fun j hj => (hr4.new j hj).imp id fun e => Nat.le_trans H3.out.2.1.size e⟩, hr4.new, hfd, H3.out.2.2.chg hr4.chg fun j hj e => by have h1 := H.out.1.gp.lt j e; have h2 := Hq.out.2; omega⟩)
    clear hto hfd H3 HC c3 f3 s3
    go_wp2_with fail
  all_goals
    obtain ⟨y, F4, hk4, hr4, hn4, hfd, hp4⟩ := H4.out
    have hm : ((r.place % 64 : Nat) : Int) = (r.place : Int) % 64 := by omega
    have hd := sdel_any w1.heap.size q x.sz (r.place % 64) gp cp vs s r.what w4 hp4 H2.out.1.fit H.out.2.2.2.2.2.2.1.2.2.2.1 H2.out.2.1 r.what_ne
    rw [hm] at hd
    have H5 := Lib.hid (And.intro hk4 (And.intro hr4 (And.intro hn4 hfd)))
    clear hk4 hr4 hn4 hfd hp4 H4 hm
    refine hd.mono ?_
    clear hd
    rintro e w5 ⟨rfl, hp5, hc5⟩
    have hk5 : HH w5 h m p F4 y P := H5.out.1.chg hc5 (fun j hj e => by have h1 := Hq.out.1; have h2 := Hq.out.2; rcases H5.out.2.2.1 j hj with e2 | e2; (have h3 := H.out.1.gp.lt j e2; have h4 := H2.out.2.2.1.lo; have h5 := (H2.out.2.2.1.row.lt gp rfl).1; omega); omega)
      (fun e => by have h4 := H2.out.2.2.1.lo; have h5 := (H2.out.2.2.1.row.lt gp rfl).1; have h2 := Hq.out.2; have := tab_pos H.out.1.gp.tab; omega)
      (fun e => by have h4 := H2.out.2.2.1.lo; have h5 := (H2.out.2.2.1.row.lt gp rfl).1; have h2 := Hq.out.2; have := H.out.1.blk.lt; omega)
      (fun e => by have h4 := H2.out.2.2.1.lo; have h5 := (H2.out.2.2.1.row.lt gp rfl).1; have h2 := Hq.out.2; have := H.out.1.lt; omega)
    have hcw5 : Chg F w w5 := Chg.trans H5.out.2.1.chg hc5 fun j hj e => by have h4 := H2.out.2.2.1.lo; have h5 := (H2.out.2.2.1.row.lt gp rfl).1; have h2 := Hq.out.2; omega
    have hnw : ∀ j, F4 j → F j ∨ w.heap.size ≤ j := H5.out.2.1.new
    have HLn := Lib.hid (slen_any w1.heap.size q x.sz (delS s (r.place % 64)) w5 hp5 (by have := (delS_fit (i := r.place % 64) H2.out.1.fit).few; omega) (fun b' hb' => by have := (delS_fit (i := r.place % 64) H2.out.1.fit).bl b' hb'; have := H.out.2.2.2.2.2.2.1.2.2.2.1; omega))
    have H6 := Lib.hid (And.intro hp5 (And.intro hk5 (And.intro hcw5 hnw)))
    clear hp5 hk5 hcw5 hnw hc5
    go_wp2_with fail
    refine HLn.out.mono ?_
    rintro e w6 ⟨rfl, hg6⟩
    have hk6 := H6.out.2.1.grew hg6
    have hcw6 := H6.out.2.2.1.grew hg6
    have hp6 := H6.out.1.grew hg6
    obtain ⟨c6, f6, s6⟩ := hk6.blk.facts
    have H7 := Lib.hid (And.intro hk6 (And.intro hcw6 hp6))
    have hcl := cntS_le (delS s (r.place % 64))
    have hdf := (delS_fit (i := r.place % 64) H2.out.1.fit).few
    have hdel := H.out.2.1.del H.out.2.2.2.1 H5.out.2.2.2 H2.out.1
    have Hdel := Lib.hid hdel
    have Hcd := Lib.hid (cnt_del (i := r.place % 64) H2.out.1.fit)
    clear hk6 hcw6 hp6 hg6 hdel
    obtain ⟨cn, hcn⟩ : ∃ n, cntS (delS s (r.place % 64)) = n := ⟨_, rfl⟩
    rw [hcn] at Hcd hcl ⊢
    clear hcn
    have hPi := (H.out.2.1.at_ r H.out.2.2.2.2.2.1).1
    obtain ⟨cc, hcc1, hcc2, -⟩ := H2.out.1.byt
    have hni : r.place / 64 ∉ r.pages := fun e => by
      have := H.out.2.1.far (r.place / 64) (by rw [List.nil_append]; exact List.mem_flatMap.2 ⟨r, H.out.2.2.2.2.2.1, e⟩)
      rw [hPi] at this
      cases this
    have hyi : y.now[r.place / 64]? = some cc := by rw [H5.out.2.2.2.else_ _ hni]; exact hcc1
    have hyw : y.was ≠ none := by rw [H5.out.2.2.2.like.was]; exact H.out.2.2.1
    have hys : True := trivial
    have hyz : y.sz = x.sz := H5.out.2.2.2.like.sz
    have hyu := H5.out.2.2.2.used
    have hi64 : ((r.place / 64 : Nat) : Int) = (r.place : Int) / 64 := by omega
    have HY := Lib.hid (And.intro hyi (And.intro hyw (And.intro hys (And.intro hyz (And.intro hyu (And.intro hPi hcc2))))))
    clear hyi hyw hys hyz hyu hni hcc1 hcc2 hPi
    by_cases hc0 : cn = 0
    · subst hc0
      have hde : delS s (r.place % 64) = [] := Hcd.out.2 rfl
      have Hde := Lib.hid hde
      obtain ⟨W7, hr7, hk7, hc7⟩ := H7.out.1.del HY.out.2.2.2.2.2.1 0
      rw [hi64] at hr7
      obtain ⟨c8, f8, s8⟩ := hk7.blk.facts
      have hfr := gp_free_any p F4 y W7 (r.place / 64) cc hk7.gp HY.out.2.1 HY.out.1 HY.out.2.2.2.2.2.2
      rw [hi64] at hfr
      have HFr := Lib.hid hfr
      have H8 := Lib.hid (And.intro hk7 (show Chg (fun j => F j ∨ j = m) w W7 from Chg.trans (F := fun j => F j ∨ j = m) (H7.out.2.1.mono fun _ _ e => .inl e) hc7 fun _ _ e => .inr e))
      clear hk7 hc7 hfr hde hi64 hcl hdf
      go_wp2_with fail
      refine HFr.out.mono ?_
      rintro e w8 (⟨rfl, hto⟩ | ⟨hns, rfl, hg8⟩)
      rotate_left
      · have H9 := Lib.hid (show HFull w w8 p m F x 0 from ⟨y, F4, H8.out.1.gp.grew hg8, H5.out.2.2.2.like, H8.out.2.grew hg8, H6.out.2.2.2, .inl ⟨y, H5.out.2.2.2.like, by have := HY.out.2.2.2.2.1; omega, fun e => by have := e.1; omega⟩⟩)
        clear hns hg8
        go_wp2_with fail
        go_ret
        exact .inr ⟨rfl, H9.out⟩
      obtain ⟨F5, hk8, hr8⟩ := H8.out.1.to hto
      have hu := Rp.put_used (c := .no) HY.out.1
      rw [HY.out.2.2.2.2.2.2] at hu
      simp [Pk.used] at hu
      have hsz8 := H8.out.2.size
      have H9 := Lib.hid (show HDel w w8 h m p F x L kk (.returned (.int .i64 0)) from .inl ⟨_, F5, _, rfl, hk8, Hdel.out.2 Hde.out, H5.out.2.2.2.like.trans (Rp.put_like _ _ _), by have := HY.out.2.2.2.2.1; omega, Chg.trans H8.out.2 hr8.chg fun j hj e => (H6.out.2.2.2 j e).elim (fun e => .inl e) fun e => by omega, fun j hj => (hr8.new j hj).elim (H6.out.2.2.2 j) fun e => .inr (by omega)⟩)
      clear hk8 hr8 hto hu
      go_wp2_with fail
      go_ret
      exact H9.out
    · have t1 : decide (0 < cn) = true := decide_eq_true (by omega)
      have hdne : delS s (r.place % 64) ≠ [] := fun e => hc0 (Hcd.out.1 e)
      have Hdn := Lib.hid hdne
      have hd6 : w6.drew.cell? ⟨h, 0, none⟩ = some (.pointer (some ⟨p, 0, none⟩)) := H7.out.1.blk.drew.cell 0
      have hfs := delS_fit (i := r.place % 64) H2.out.1.fit
      have Hfs := Lib.hid hfs
      have hwq : IntKind.i64.wrap ((r.place : Int) / 64) = (r.place : Int) / 64 := by rw [← hi64]; exact wrap_nat (by omega)
      clear hdne hfs hc0 c6 f6
      go_wp2_with fail
      refine wp_region_held_drew (S := fun w' => w'.cell? ⟨h, 0, none⟩ = some (.pointer (some ⟨p, 0, none⟩))) (by kernel_rfl) hd6 (fun hHeld => ?_)
      refine wpAnyH_take (i := 0) (v := ?_) rfl (by kernel_rfl) (by kernel_rfl) (by kernel_rfl) (fun _ _ _ h => h) (Or.inl ⟨by rfl, ?_⟩) hHeld ?_
      rotate_left
      · (intro w hSw; (try dsimp only at hSw); go_simp) <;> with_reducible rfl
      (try simp only [Act.put, List.setIfInBounds_toArray, List.set_cons_zero, List.set_cons_succ, List.getElem_toArray, List.getElem_cons_zero, List.getElem_cons_succ])
      refine wpAnyH_take (i := 1) (v := ?_) rfl (by kernel_rfl) (by kernel_rfl) (by kernel_rfl) (fun _ _ _ h => h) (Or.inl ⟨by rfl, ?_⟩) hHeld ?_
      rotate_left
      · (intro w hSw; (try dsimp only at hSw); go_simp) <;> with_reducible rfl
      (try simp only [Act.put, List.setIfInBounds_toArray, List.set_cons_zero, List.set_cons_succ, List.getElem_toArray, List.getElem_cons_zero, List.getElem_cons_succ])
      refine wpAnyH_take (i := 2) (v := ?_) rfl (by kernel_rfl) (by kernel_rfl) (by kernel_rfl) (fun _ _ _ h => h) (Or.inl ⟨by rfl, ?_⟩) hHeld ?_
      rotate_left
      · (intro w hSw; (try dsimp only at hSw); go_simp) <;> with_reducible rfl
      (try simp only [Act.put, List.setIfInBounds_toArray, List.set_cons_zero, List.set_cons_succ, List.getElem_toArray, List.getElem_cons_zero, List.getElem_cons_succ])
      refine wpAnyH_take (i := 3) (v := ?_) rfl (by kernel_rfl) (by kernel_rfl) (by kernel_rfl) (fun _ _ _ h => h) (Or.inl ⟨by rfl, ?_⟩) hHeld ?_
      rotate_left
      · (intro w hSw; (try dsimp only at hSw); go_simp) <;> with_reducible rfl
      (try simp only [Act.put, List.setIfInBounds_toArray, List.set_cons_zero, List.set_cons_succ, List.getElem_toArray, List.getElem_cons_zero, List.getElem_cons_succ])
      refine wpAnyH_take (i := 4) (v := ?_) rfl (by kernel_rfl) (by kernel_rfl) (by kernel_rfl) (fun _ _ _ h => h) (Or.inl ⟨by rfl, ?_⟩) hHeld ?_
      rotate_left
      · (intro w hSw; (try dsimp only at hSw); go_simp) <;> with_reducible rfl
      (try simp only [Act.put, List.setIfInBounds_toArray, List.set_cons_zero, List.set_cons_succ, List.getElem_toArray, List.getElem_cons_zero, List.getElem_cons_succ])
      refine wpAnyH_take (i := 5) (v := ?_) rfl (by kernel_rfl) (by kernel_rfl) (by kernel_rfl) (fun _ _ _ h => h) (Or.inl ⟨by rfl, ?_⟩) hHeld ?_
      rotate_left
      · (intro w hSw; (try dsimp only at hSw); go_simp) <;> with_reducible rfl
      (try simp only [Act.put, List.setIfInBounds_toArray, List.set_cons_zero, List.set_cons_succ, List.getElem_toArray, List.getElem_cons_zero, List.getElem_cons_succ])
      refine wpAnyH_take (i := 6) (v := ?_) rfl (by kernel_rfl) (by kernel_rfl) (by kernel_rfl) (fun _ _ _ h => h) (Or.inl ⟨by rfl, ?_⟩) hHeld ?_
      rotate_left
      · (intro w hSw; (try dsimp only at hSw); go_simp) <;> with_reducible rfl
      (try simp only [Act.put, List.setIfInBounds_toArray, List.set_cons_zero, List.set_cons_succ, List.getElem_toArray, List.getElem_cons_zero, List.getElem_cons_succ])
      refine wpAnyH_ready (rs := [7]) (by kernel_rfl) (by simp) ?_
      refine AllReadyH.cons rfl (fun K hK => ?_) AllReadyH.nil
      go_simp
      refine (sbytes_any w1.heap.size q x.sz (delS s (r.place % 64)) w6.drew (H7.out.2.2.grew ((Chg.refl _ _).drew)) Hfs.out H.out.2.2.2.2.2.2.1.2.2.2.1 (flat_pos Hfs.out Hdn.out)).mono ?_
      rintro e w7 ⟨A7, c7, rfl, ho7, hg7⟩
      obtain ⟨g7, rfl, hgl7⟩ := own_block ho7 (by have := H.out.2.2.2.2.2.2.1.2.2.1; omega)
      have hg67 : Grew w6 w7 := Grew.trans ((Chg.refl NoF w6).drew) hg7
      have hk7 := H7.out.1.grew hg67
      have hd7 : w7.cell? ⟨h, 0, none⟩ = some (.pointer (some ⟨p, 0, none⟩)) := hk7.blk.cell 0
      have hpl := pageS_len Hfs.out.len
      have hww := gp_write_any p F4 y w7 (r.place / 64) (pageS (delS s (r.place % 64)) x.sz) (some ⟨g7, 0, none⟩) c7 cc hk7.gp HY.out.2.1 HY.out.1 HY.out.2.2.2.2.2.2 (by rw [hpl, HY.out.2.2.2.1]) (pageS_byt Hfs.out) (by simp) (by rw [hpl]; exact Sl.of_own ho7) (fun a ha e => by cases ha; have h1 := (ho7.lt g7 rfl).1; have h2 := H7.out.1.gp.lt g7 e; simp at h1; omega)
      rw [hpl, hi64] at hww
      have HW7 := Lib.hid hww
      have H8 := Lib.hid (And.intro hk7 (H7.out.2.1.grew hg67))
      clear ho7 hg7 hg67 hk7 hww hi64 hpl
      refine hK.out _ _ hd7 (fun _ => ?_)
      clear hK K
      (try simp only [Act.put, List.setIfInBounds_toArray, List.set_cons_zero, List.set_cons_succ, List.getElem_toArray, List.getElem_cons_zero, List.getElem_cons_succ])
      refine wpAnyH_ready (rs := [8]) (by kernel_rfl) (by simp) ?_
      refine AllReadyH.cons rfl (fun K hK => ?_) AllReadyH.nil
      go_simp
      refine HW7.out.mono ?_
      have hsz8 := H8.out.2.size
      rintro e w8 (⟨rfl, hto⟩ | ⟨hns, -, rfl, hg8⟩)
      · obtain ⟨F5, hk8, hr8⟩ := H8.out.1.to hto
        have hd8 : w8.cell? ⟨h, 0, none⟩ = some (.pointer (some ⟨p, 0, none⟩)) := hk8.blk.cell 0
        have hu := Rp.put_used (c := .new (pageS (delS s (r.place % 64)) x.sz)) HY.out.1
        rw [HY.out.2.2.2.2.2.2] at hu
        simp [Pk.used] at hu
        have H9 := Lib.hid (show HDel w w8 h m p F x L kk (.returned (.int .i64 0)) from .inl ⟨_, F5, _, rfl, hk8, Hdel.out.1 Hdn.out, H5.out.2.2.2.like.trans (Rp.put_like _ _ _), by have := HY.out.2.2.2.2.1; omega, (Chg.trans H8.out.2 hr8.chg fun j hj e => (H6.out.2.2.2 j e).elim (fun e => e) fun e => by omega).mono fun _ _ e => .inl e, fun j hj => (hr8.new j hj).elim (H6.out.2.2.2 j) fun e => .inr (by omega)⟩)
        clear hk8 hr8 hto hu
        refine hK.out _ _ hd8 (fun _ => ?_)
        clear hK K
        (try simp only [Act.put, List.setIfInBounds_toArray, List.set_cons_zero, List.set_cons_succ, List.getElem_toArray, List.getElem_cons_zero, List.getElem_cons_succ])
        refine wpAnyH_take (i := 9) (v := ?_) rfl (by kernel_rfl) (by kernel_rfl) (by kernel_rfl) (fun _ _ _ h => h) (Or.inl ⟨by rfl, ?_⟩) hd8 ?_
        rotate_left
        · (intro w hSw; (try dsimp only at hSw); go_simp) <;> with_reducible rfl
        (try simp only [Act.put, List.setIfInBounds_toArray, List.set_cons_zero, List.set_cons_succ, List.getElem_toArray, List.getElem_cons_zero, List.getElem_cons_succ])
        refine wpAnyH_done (by kernel_rfl) ?_ _
        clear hHeld hd6 hd7 hd8
        go_wp2_with fail
        go_ret
        exact H9.out
      · have hk8 := H8.out.1.grew hg8
        have hd8 : w8.cell? ⟨h, 0, none⟩ = some (.pointer (some ⟨p, 0, none⟩)) := hk8.blk.cell 0
        have H9 := Lib.hid (show HDel w w8 h m p F x L kk (.returned (.int .i64 21)) from .inr ⟨rfl, y, F4, hk8.gp, H5.out.2.2.2.like, (H8.out.2.grew hg8).mono fun _ _ e => .inl e, H6.out.2.2.2, .inl ⟨y, H5.out.2.2.2.like, by have := HY.out.2.2.2.2.1; omega, fun e => hns e.1⟩⟩)
        clear hk8 hg8 hns
        refine hK.out _ _ hd8 (fun _ => ?_)
        clear hK K
        (try simp only [Act.put, List.setIfInBounds_toArray, List.set_cons_zero, List.set_cons_succ, List.getElem_toArray, List.getElem_cons_zero, List.getElem_cons_succ])
        refine wpAnyH_take (i := 9) (v := ?_) rfl (by kernel_rfl) (by kernel_rfl) (by kernel_rfl) (fun _ _ _ h => h) (Or.inl ⟨by rfl, ?_⟩) hd8 ?_
        rotate_left
        · (intro w hSw; (try dsimp only at hSw); go_simp) <;> with_reducible rfl
        (try simp only [Act.put, List.setIfInBounds_toArray, List.set_cons_zero, List.set_cons_succ, List.getElem_toArray, List.getElem_cons_zero, List.getElem_cons_succ])
        refine wpAnyH_done (by kernel_rfl) ?_ _
        clear hHeld hd6 hd7 hd8
        go_wp2_with fail
        go_ret
        exact H9.out
end Go.Proofs.YtjkkoogfaibhiaaGreatDoor

/- string(b) of bytes that are read. -/
namespace Go.Proofs.YtjkkoogfaibhiaaGreatDoor
open Go.RowKit Go.Maps

/-- string(b) of bytes that are read. -/
theorem conv_sl {w : World} {c : Nat} {bs : List Int} {A : Option Addr} (h : Sl w 1 A bs.length (bv bs)) (h0 : 0 < bs.length) : (convert 34 9 (.slice A bs.length c)).run Tryz.prog w = .ok (.string (strOfNums bs)) w := by
  obtain ⟨b, off, rfl, hb, hx⟩ := h.2 h0
  refine run_convert_bytes_arg w 34 5 Tryz.underlying34 (by kernel_rfl) b off bs.length c bs rfl (fun i hi => ?_) 9 (by kernel_rfl)
  exact hx i (.int .u8 (bs.getD i 0)) (by simp [bv, hi])
theorem conv_own {w : World} {base n c : Nat} {bs : List Int} {A : Option Addr} (h : w.ownsRow base 5 1 (.slice A n c) n (bv bs)) (h0 : 0 < n) : (convert 34 9 (.slice A n c)).run Tryz.prog w = .ok (.string (strOfNums bs)) w := by
  have hl : bs.length = n := by have := h.1; rwa [bv_len, Nat.mul_one] at this
  subst hl
  exact conv_sl (Sl.of_own h) h0
end Go.Proofs.YtjkkoogfaibhiaaGreatDoor

/- The heap's laws: a new pager in an open change; Long; awake. -/
namespace Go.Proofs.YtjkkoogfaibhiaaGreatDoor
open Go.RowKit Go.Maps

set_option maxRecDepth 100000 in
set_option maxHeartbeats 1600000 in
theorem hfresh_any (n sz : Nat) (w : World) (hT : TabAt 0 tab w) (h1 : 8 ≤ n) (h2 : n ≤ 4096) (h3 : 64 ≤ sz) (h4 : sz ≤ 4096) :
    Calls Tryz.prog 7 #[.int .i64 n, .int .i64 sz] w fun e w' => ∃ p d F, e = .returned (.tuple #[.pointer (some ⟨p, 0, none⟩), .pointer (some ⟨d, 0, none⟩)]) ∧ GP w' p F (Rp.opened n sz d) ∧ Grew w w' ∧ ∀ j, F j → w.heap.size ≤ j := by
  have H := Lib.hid hT
  clear hT
  go_enter Tryz.func7, Tryz.ntmps7
  go_wp2_with fail
  refine (dnew_any n sz _ (by omega) h2 (by omega) h4).mono ?_
  rintro e w1 ⟨d, F1, rfl, hd, hg1, hn1⟩
  have hT1 := tab_chg H.out hg1 id
  have hF0 : ¬ F1 0 := fun e => by have := hn1 0 e; have := tab_pos H.out; omega
  have H1 := Lib.hid (And.intro hd (And.intro hg1 (And.intro hn1 (And.intro hT1 hF0))))
  clear hd hg1 hn1 hT1 hF0
  go_wp2_with fail
  refine (gp_open_new n sz d F1 w1 H1.out.1 H1.out.2.2.2.1 H1.out.2.2.2.2 h1 h3).mono ?_
  rintro e w2 ⟨p, F2, rfl, hp, hg2, hn2⟩
  have H2 := Lib.hid (And.intro hp (And.intro (Grew.trans H1.out.2.1 hg2) (fun j hj => show w.heap.size ≤ j from (hn2 j hj).elim (H1.out.2.2.1 j) fun e => Nat.le_trans H1.out.2.1.size e)))
  clear hp hg2 hn2
  go_wp2_with fail
  refine (gp_begin p F2 _ w2 H2.out.1 rfl).mono ?_
  rintro e w3 ⟨rfl, F3, k1, k2, k3⟩
  have hg3 : Grew w w3 := Chg.trans H2.out.2.1 k2 fun i hi e => by have := H2.out.2.2 i e; omega
  have hn3 : ∀ j, F3 j → w.heap.size ≤ j := fun j hj => (k3 j hj).elim (H2.out.2.2 j) fun e => Nat.le_trans H2.out.2.1.size e
  have H3 := Lib.hid (And.intro k1 (And.intro hg3 hn3))
  clear k1 k2 k3 hg3 hn3
  go_wp2_with fail
  go_ret2
  exact ⟨p, d, F3, rfl, H3.out.1, H3.out.2.1, H3.out.2.2⟩
theorem xlong_any (n sz : Nat) (w : World) (h1 : 64 ≤ sz) (h2 : sz ≤ 4096) (h3 : n ≤ 16384) :
    Calls Tryz.prog 10 #[.int .i64 n, .int .i64 sz] w fun e w' => e = .returned (.bool (longB n sz)) ∧ w = w' := by
  have hq : ((sz : Int) - 8).tdiv 2 = (((sz - 8) / 2 : Nat) : Int) := by rw [Int.tdiv_eq_ediv_of_nonneg (by omega)]; omega
  obtain ⟨b, hb⟩ : ∃ b, longB n sz = b := ⟨_, rfl⟩
  have HB := Lib.hid hb
  rw [hb]
  unfold longB at hb
  cases b with
  | true =>
    have := of_decide_eq_true hb
    have t1 : decide ((sz : Int) - 8 < 2 * (n : Int)) = true := decide_eq_true (by omega)
    have t2 : decide (((sz - 8 : Nat) : Int) / 2 < (n : Int)) = true := decide_eq_true (by omega)
    clear hb this
    go_enter Tryz.func10, Tryz.ntmps10
    go_wp2
    go_ret
    exact ⟨rfl, rfl⟩
  | false =>
    have := of_decide_eq_false hb
    have t2 : decide (((sz - 8 : Nat) : Int) / 2 < (n : Int)) = false := decide_eq_false (by omega)
    by_cases h8 : (sz : Int) - 8 < 2 * (n : Int)
    · have t1 : decide ((sz : Int) - 8 < 2 * (n : Int)) = true := decide_eq_true h8
      clear hb this h8
      go_enter Tryz.func10, Tryz.ntmps10
      go_wp2
      go_ret
      exact ⟨rfl, rfl⟩
    · have t1 : decide ((sz : Int) - 8 < 2 * (n : Int)) = false := decide_eq_false h8
      clear hb this h8
      go_enter Tryz.func10, Tryz.ntmps10
      go_wp2
      go_ret
      exact ⟨rfl, rfl⟩
/-- A heap of the law's own. -/
structure HM (w W : World) (h m p : Nat) (F : Nat → Prop) (x : Rp) (P : Nat → Bool) : Prop where
  k : HH W h m p F x P
  gr : Grew w W
  fn : ∀ j, F j → w.heap.size ≤ j
  mn : w.heap.size ≤ m
section
variable {w W W' : World} {h m p : Nat} {F F' : Nat → Prop} {x y : Rp} {P P' : Nat → Bool}
theorem HM.grew (a : HM w W h m p F x P) (hg : Grew W W') : HM w W' h m p F x P := ⟨a.k.grew hg, Grew.trans a.gr hg, a.fn, a.mn⟩
theorem HM.far (a : HM w W h m p F x P) (hc : Chg F W W') (hk : HH W' h m p F x P) : HM w W' h m p F x P := ⟨hk, Chg.trans a.gr hc fun i hi e => by have := a.fn i e; omega, a.fn, a.mn⟩
theorem HM.to (a : HM w W h m p F x P) (hc : Chg (fun j => F j ∨ j = m) W W') (hk : HH W' h m p F' y P') (hn : ∀ j, F' j → F j ∨ W.heap.size ≤ j) : HM w W' h m p F' y P' :=
  ⟨hk, Chg.trans a.gr hc fun i hi e => by have := a.mn; rcases e with e | e; (have := a.fn i e; omega); omega, fun j hj => (hn j hj).elim (a.fn j) fun e => Nat.le_trans a.gr.size e, a.mn⟩
end
theorem cntN_pos {P : Nat → Bool} {i N : Nat} (hi : P i = true) (hN : i < N) : 1 ≤ cntN P N := by
  have := cntN_drop P hN hi
  omega
/-- One record: how many pages are used. -/
theorem HeapIn.one {x : Rp} {P : Nat → Bool} {r : HR} (h : HeapIn x P [r] []) : x.now.countP Pk.used = 1 + r.pages.length := by
  have h1 := h.used
  have h2 := h.bnd
  have h3 := cntN_pos (h.at_ r List.mem_cons_self).1 (h.lt (h.at_ r List.mem_cons_self).1)
  simp at h1 h2
  omega
theorem HeapIn.zero {x : Rp} {P : Nat → Bool} (h : HeapIn x P [] []) : x.now.countP Pk.used = 0 ∧ ∀ N, (keysL P N).length = 0 := by
  have he := h.empty
  refine ⟨?_, fun N => ?_⟩
  · have h1 := h.used
    rw [cntN_false fun j _ => he j] at h1
    simpa using h1
  · unfold keysL
    rw [List.filter_eq_nil_iff.2 fun a _ => by rw [he a]; simp]
    rfl
end Go.Proofs.YtjkkoogfaibhiaaGreatDoor
