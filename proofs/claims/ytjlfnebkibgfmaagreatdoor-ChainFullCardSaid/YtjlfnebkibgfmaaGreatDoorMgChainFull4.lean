/- Texts 4 of 5 that the proof of ChainFull stands on. -/
import Derived.Test.YtjlfnebkibgfmaaGreatDoorMgChainFull3
import Derived.Laws.BytesArg
import Derived.Lib.SlicesS
import Derived.Maps.OwnIn
import Derived.Deep.LoopGhost
import Derived.Test.YtjlfnebkibgfmaaGreatDoorRows
import Derived.Shelf.Sort.Plain
import Derived.Sort.LoopGhostIn
import Derived.Lib.SortBridge
import Derived.Laws.OwnMore
set_option linter.unusedSimpArgs false
set_option linter.unusedVariables false

/- The pager: Open on an empty disk. -/
namespace Go.Proofs.YtjlfnebkibgfmaaGreatDoor
open Go.RowKit Go.Maps

set_option maxHeartbeats 800000 in
theorem gopen_range (d : Nat) (F : Nat → Prop) (D : Dk) (w : World) (h : DS w d F D) (hr : D.n < 8 ∨ D.sz < 64) :
    Calls Tryz.prog 15 #[.pointer (some ⟨d, 0, none⟩)] w fun e w' => e = .returned (.tuple #[.pointer none, .int .i64 11]) ∧ w = w' := by
  have H := Lib.hid h
  clear h
  by_cases h8 : D.n < 8
  · have a1 : decide ((D.n : Int) < 8) = true := decide_eq_true (by omega)
    clear hr h8
    go_enter Tryz.func15, Tryz.ntmps15
    go_wp2_with (first
      | (go_at_call 31; (refine (dsectors_any d F D _ H.out).mono ?_); rintro e w1 ⟨rfl, rfl⟩)
      | (go_at_call 32; (refine (dsize_any d F D _ H.out).mono ?_); rintro e w1 ⟨rfl, rfl⟩))
    go_ret2
    exact ⟨rfl, rfl⟩
  · have a1 : decide ((D.n : Int) < 8) = false := decide_eq_false (by omega)
    have a2 : decide ((D.sz : Int) < 64) = true := decide_eq_true (by omega)
    clear hr h8
    go_enter Tryz.func15, Tryz.ntmps15
    go_wp2_with (first
      | (go_at_call 31; (refine (dsectors_any d F D _ H.out).mono ?_); rintro e w1 ⟨rfl, rfl⟩)
      | (go_at_call 32; (refine (dsize_any d F D _ H.out).mono ?_); rintro e w1 ⟨rfl, rfl⟩))
    go_ret2
    exact ⟨rfl, rfl⟩

/-- A new pager. -/
def Gp.fresh (D : Dk) : Gp := { D := D, epoch := 0, row := D.sz / 2, pages := List.replicate (tabN D.n D.sz) 0, table := List.replicate (capN D.n D.sz) 0, free := trn (trn (full D.n) 0) 1, op := none, down := false }

/-- A row of noughts, new since w0. -/
structure NewInts (w0 w : World) (g n : Nat) : Prop where
  blk : Blk w g 3 (nv (List.replicate n 0)).toArray
  new : w0.heap.size ≤ g
structure NewPool (w0 w : World) (b n : Nat) (A : Option Addr) (c : Nat) : Prop where
  p : PIn w b (full n) A c
  new : ∀ j, PF b A j → w0.heap.size ≤ j
theorem NewInts.grew {w0 w w' : World} {g n : Nat} (h : NewInts w0 w g n) (hg : Grew w w') : NewInts w0 w' g n := ⟨h.blk.grew hg, h.new⟩
theorem NewPool.grew {w0 w w' : World} {b n c : Nat} {A : Option Addr} (h : NewPool w0 w b n A c) (hg : Grew w w') : NewPool w0 w' b n A c := ⟨h.p.grew hg, h.new⟩
/-- A new pager, as its parts lie. -/
structure OpenIn (w0 w : World) (p d row T C g1 g2 b n : Nat) (A : Option Addr) (c : Nat) : Prop where
  blk : Blk w p 45 #[.pointer (some ⟨d, 0, none⟩), .int .i64 0, .int .i64 row, .slice (some ⟨g1, 0, none⟩) T T, .slice (some ⟨g2, 0, none⟩) C C, .pointer (some ⟨b, 0, none⟩), .pointer none, .bool false]
  t1 : NewInts w0 w g1 T
  t2 : NewInts w0 w g2 C
  ne : g1 ≠ g2
  pool : NewPool w0 w b n A c
  grew : Grew w0 w
  new : w0.heap.size ≤ p
def OpenJ (w0 : World) (d row T C n : Nat) (v : Value) (w : World) : Prop := ∃ p g1 g2 b A c, v = .pointer (some ⟨p, 0, none⟩) ∧ OpenIn w0 w p d row T C g1 g2 b n A c
theorem openJ_mk {w0 w : World} {d row T C g1 g2 b n c : Nat} {A : Option Addr} {r : Int} (hr : r = (row : Int)) (h1 : NewInts w0 w g1 T) (h2 : NewInts w0 w g2 C) (hne : g1 ≠ g2) (hp : NewPool w0 w b n A c) (hg : Grew w0 w) :
    OpenJ w0 d row T C n (.pointer (some ⟨w.heap.size, 0, none⟩)) (w.alloc (.cells #[.pointer (some ⟨d, 0, none⟩), .int .i64 0, .int .i64 r, .slice (some ⟨g1, 0, none⟩) T T, .slice (some ⟨g2, 0, none⟩) C C, .pointer (some ⟨b, 0, none⟩), .pointer none, .bool false] 45)) := by
  subst hr
  exact ⟨_, g1, g2, b, A, c, rfl, Blk.new _ _ _, h1.grew ((Chg.refl _ _).alloc _), h2.grew ((Chg.refl _ _).alloc _), hne, hp.grew ((Chg.refl _ _).alloc _), hg.alloc _, hg.size⟩

/-- The pool of n sectors, when the first k are marked. -/
def mkd (n : Nat) : Nat → List Bool
  | 0 => full n
  | k + 1 => trn (mkd n k) k
theorem mkd_len (n : Nat) : ∀ k, (mkd n k).length = n
  | 0 => full_len n
  | k + 1 => by rw [mkd, trn, List.length_set]; exact mkd_len n k
theorem mkd_at (n : Nat) : ∀ k j, k ≤ n → (mkd n k).getD j false = (decide (k ≤ j) && decide (j < n))
  | 0, j, _ => by rw [mkd, full_at]; simp
  | k + 1, j, hk => by
    rw [mkd, trn, getD_set _ _ _ _ (by rw [mkd_len]; omega), mkd_at n k k (by omega), mkd_at n k j (by omega)]
    by_cases e : j = k
    · subst e; simp; omega
    · rw [if_neg e]
      by_cases h1 : k ≤ j
      · simp [h1, show k + 1 ≤ j by omega]
      · simp [h1, show ¬ k + 1 ≤ j by omega]
theorem mkd_mark (n k : Nat) (hk : k < n) : toL (mkd n k) (k : Int) false = (mkd n (k + 1), 0) := by
  unfold toL
  rw [if_neg (by rw [mkd_len]; omega), Int.toNat_natCast, mkd_at n k k (by omega), if_neg (by simp; omega)]
  rfl
theorem own_new {w : World} {g n : Nat} {t : TypeId} {cs : Array Value} (h : Blk w g t cs) (hn : cs.size = n) (hm : n ≤ maxLen) : w.ownsRow 0 t 1 (.slice (some ⟨g, 0, none⟩) n n) n cs.toList :=
  ⟨by simp [hn], .inr ⟨g, n, cs, rfl, Nat.zero_le _, h, Nat.le_refl _, hm, by simp [hn], by rw [Nat.mul_one, ← hn, ← Array.length_toList, List.take_length]⟩⟩
theorem blk_ne {w : World} {g g' : Nat} {t t' : TypeId} {cs cs' : Array Value} (h : Blk w g t cs) (h' : Blk w g' t' cs') (hne : t ≠ t') : g ≠ g' := by
  rintro rfl
  unfold Blk at h h'
  rw [h] at h'
  injection h' with h'
  injection h' with h1 h2
  exact hne h2
theorem pf_ne {w : World} {b c g : Nat} {x : List Bool} {A : Option Addr} {t : TypeId} {cs : Array Value} (h : PIn w b x A c) (hg : Blk w g t cs) (h1 : t ≠ 79) (h2 : t ≠ 80) : ¬ PF b A g := by
  rintro (rfl | ⟨a, rfl, rfl⟩)
  · have := h.blk
    unfold Blk at this hg
    rw [this] at hg
    cases hg
    exact h1 rfl
  · exact own_blk_ne h.own hg (Ne.symm h2) rfl
/-- A new pager stands. -/
theorem gfresh_mk {w0 w : World} {d p g1 g2 b c : Nat} {A : Option Addr} {F : Nat → Prop} {D : Dk} (hd : DS w d F D) (hF0 : ∀ j, F j → j < w0.heap.size) (h0 : ¬ F 0) (hpos : 0 < w0.heap.size) (hT : TabAt 0 tab w) (hn : D.n ≤ 4096)
    (hb : Blk w p 45 #[.pointer (some ⟨d, 0, none⟩), .int .i64 0, .int .i64 (D.sz / 2 : Nat), .slice (some ⟨g1, 0, none⟩) (tabN D.n D.sz) (tabN D.n D.sz), .slice (some ⟨g2, 0, none⟩) (capN D.n D.sz) (capN D.n D.sz), .pointer (some ⟨b, 0, none⟩), .pointer none, .bool false])
    (h1 : Blk w g1 3 (nv (List.replicate (tabN D.n D.sz) 0)).toArray) (h2 : Blk w g2 3 (nv (List.replicate (capN D.n D.sz) 0)).toArray) (hne : g1 ≠ g2) (hp : PIn w b (mkd D.n 2) A c)
    (n0 : w0.heap.size ≤ p) (n1 : w0.heap.size ≤ g1) (n2 : w0.heap.size ≤ g2) (n3 : ∀ j, PF b A j → w0.heap.size ≤ j) :
    ∃ F', GS w p F' (Gp.fresh D) ∧ ∀ j, F' j → F j ∨ w0.heap.size ≤ j := by
  classical
  have hC : capN D.n D.sz ≤ 4096 := by unfold capN; split <;> omega
  have hT64 : tabN D.n D.sz ≤ 64 := by have := tabs_le (D.sz / 2) (D.n - 2) D.sz 64 0; unfold tabN; omega
  have d1 : p ≠ g1 := blk_ne hb h1 (by decide)
  have d2 : p ≠ g2 := blk_ne hb h2 (by decide)
  have d3 := pf_ne hp hb (by decide) (by decide)
  have d4 := pf_ne hp h1 (by decide) (by decide)
  have d5 := pf_ne hp h2 (by decide) (by decide)
  obtain ⟨L, hL⟩ : ∃ L : Nat → Nat, L = fun j => if j = p then 1 else if j = g1 then 4 else if j = g2 then 5 else if PF b A j then 3 else if F j then 2 else 0 := ⟨_, rfl⟩
  have l1 : L p = 1 := by rw [hL]; simp
  have l4 : L g1 = 4 := by rw [hL]; simp [Ne.symm d1]
  have l5 : L g2 = 5 := by rw [hL]; simp [Ne.symm d2, Ne.symm hne]
  have l3 : ∀ j, PF b A j → L j = 3 := fun j hj => by
    have e1 : j ≠ p := fun e => d3 (e ▸ hj)
    have e2 : j ≠ g1 := fun e => d4 (e ▸ hj)
    have e3 : j ≠ g2 := fun e => d5 (e ▸ hj)
    rw [hL]; simp [e1, e2, e3, hj]
  have l2 : ∀ j, L j = 2 ↔ F j := fun j => by
    have hlt : F j → j < w0.heap.size := hF0 j
    by_cases e1 : j = p
    · subst e1; rw [l1]; exact ⟨fun e => by omega, fun e => by have := hlt e; omega⟩
    by_cases e2 : j = g1
    · subst e2; rw [l4]; exact ⟨fun e => by omega, fun e => by have := hlt e; omega⟩
    by_cases e3 : j = g2
    · subst e3; rw [l5]; exact ⟨fun e => by omega, fun e => by have := hlt e; omega⟩
    by_cases e4 : PF b A j
    · rw [l3 j e4]; exact ⟨fun e => by omega, fun e => by have := hlt e; have := n3 j e4; omega⟩
    · rw [hL]; by_cases e5 : F j <;> simp [e1, e2, e3, e4, e5]
  have l0 : ∀ j, L j ≠ 0 → F j ∨ (w0.heap.size ≤ j ∧ j < w.heap.size) := fun j hj => by
    by_cases e1 : j = p
    · subst e1; exact .inr ⟨n0, hb.lt⟩
    by_cases e2 : j = g1
    · subst e2; exact .inr ⟨n1, h1.lt⟩
    by_cases e3 : j = g2
    · subst e3; exact .inr ⟨n2, h2.lt⟩
    by_cases e4 : PF b A j
    · exact .inr ⟨n3 j e4, hp.lt j e4⟩
    by_cases e5 : F j
    · exact .inl e5
    · rw [hL] at hj; simp [e1, e2, e3, e4, e5] at hj
  refine ⟨fun j => L j ≠ 0, ⟨L, d, b, A, c, _, _, none, ⟨hb, l1, ?_, hp, l3, ?_, fun j hj => ?_, ?_, fun j hj => ?_, rfl, fun j hj => ?_, ?_, hT⟩, fun _ => Iff.rfl⟩, fun j hj => (l0 j hj).imp id fun e => e.1⟩
  · rw [show (fun j => L j = 2) = F from funext fun j => propext (l2 j)]
    exact hd
  · have := own_new (n := tabN D.n D.sz) h1 (by simp [nv]) (by simp only [maxLen]; omega)
    simpa [Gp.fresh] using this
  · have : g1 = j := by simpa [Value.ownBlock] using hj
    rw [← this]; exact l4
  · have := own_new (n := capN D.n D.sz) h2 (by simp [nv]) (by simp only [maxLen]; omega)
    simpa [Gp.fresh] using this
  · have : g2 = j := by simpa [Value.ownBlock] using hj
    rw [← this]; exact l5
  · rcases l0 j hj with e | e
    · exact hd.lt j e
    · exact e.2
  · by_cases e : L 0 = 0
    · exact e
    · rcases l0 0 e with e | e
      · exact absurd e h0
      · omega

set_option maxRecDepth 100000 in
set_option maxHeartbeats 6400000 in
theorem gopen_new (d : Nat) (F : Nat → Prop) (D : Dk) (w : World) (h : DS w d F D) (hd : D.down = false) (hT : TabAt 0 tab w) (h0 : ¬ F 0) (hn : 8 ≤ D.n) (hz : 64 ≤ D.sz) (hp : ∀ i : Nat, i < 2 → partL ((D.rd i).take (D.sz - 8)) = none) (hby : ∀ i : Nat, i < 2 → ∀ x ∈ D.rd i, 0 ≤ x ∧ x ≤ 255) :
    Calls Tryz.prog 15 #[.pointer (some ⟨d, 0, none⟩)] w fun e w' => ∃ p F', e = .returned (.tuple #[.pointer (some ⟨p, 0, none⟩), .int .i64 0]) ∧ GS w' p F' (Gp.fresh D) ∧ Grew w w' ∧ ∀ j, F' j → F j ∨ w.heap.size ≤ j := by
  have hsm := h.sml
  have a1 : decide ((D.n : Int) < 8) = false := decide_eq_false (by omega)
  have a2 : decide ((D.sz : Int) < 64) = false := decide_eq_false (by omega)
  have H := Lib.hid (And.intro h (And.intro hT (And.intro hp hby)))
  clear h hT hp hby
  go_enter Tryz.func15, Tryz.ntmps15
  go_wp2_with (first
    | (go_at_call 31; (refine (dsectors_any d F D _ H.out.1).mono ?_); rintro e w1 ⟨rfl, rfl⟩)
    | (go_at_call 32; (refine (dsize_any d F D _ H.out.1).mono ?_); rintro e w1 ⟨rfl, rfl⟩)
    | (go_at_call 33; (refine (places_any D.n D.sz _ hn hsm.2.1 hz hsm.2.2.2).mono ?_); rintro e w1 ⟨rfl, hg1⟩; have HG1 := Lib.hid hg1; clear hg1))
  have hT := tabs_le (D.sz / 2) (D.n - 2) D.sz 64 0
  have hT64 : tabN D.n D.sz ≤ 64 := by unfold tabN; omega
  have hC : capN D.n D.sz ≤ 4096 := by unfold capN; split <;> omega
  have eq2 : (D.sz : Int).tdiv 2 = ((D.sz / 2 : Nat) : Int) := by simp
  have ew2 : IntKind.i64.wrap ((D.sz / 2 : Nat) : Int) = ((D.sz / 2 : Nat) : Int) := wrap_nat (by omega)
  have ew3 : IntKind.i64.wrap ((D.sz : Int) / 2) = ((D.sz / 2 : Nat) : Int) := by have := ew2; simpa using this
  have HG0 := Lib.hid (show Grew w1 w1.drew from (Chg.refl _ _).drew)
  clear hT
  go_cut [6] (fun v wx => OpenJ w1 d (D.sz / 2) (tabN D.n D.sz) (capN D.n D.sz) D.n v wx)
  case first =>
    refine wp_region_held_drew (S := fun _ => True) (by kernel_rfl) trivial (fun _ => ?_)
    refine wpAnyH_take (i := 0) (v := ?_) rfl (by kernel_rfl) (by kernel_rfl) (by kernel_rfl) (fun _ _ _ h => h) (Or.inl ⟨by rfl, ?_⟩) trivial ?_
    rotate_left
    · (intro w hSw; (try dsimp only at hSw); go_simp) <;> with_reducible rfl
    (try simp only [Act.put, List.setIfInBounds_toArray, List.set_cons_zero, List.set_cons_succ])
    refine wpAnyH_take (i := 1) (v := ?_) rfl (by kernel_rfl) (by kernel_rfl) (by kernel_rfl) (fun _ _ _ h => h) (Or.inl ⟨by rfl, ?_⟩) trivial ?_
    rotate_left
    · (intro w hSw; (try dsimp only at hSw); go_simp) <;> with_reducible rfl
    (try simp only [Act.put, List.setIfInBounds_toArray, List.set_cons_zero, List.set_cons_succ])
    refine wpAnyH_take (i := 4) (v := ?_) rfl (by kernel_rfl) (by kernel_rfl) (by kernel_rfl) (fun _ _ _ h => h) (Or.inl ⟨by rfl, ?_⟩) trivial ?_
    rotate_left
    · (intro w hSw; (try dsimp only at hSw); go_simp) <;> with_reducible rfl
    (try simp only [Act.put, List.setIfInBounds_toArray, List.set_cons_zero, List.set_cons_succ])
    refine wpAnyH_take (i := 6) (v := ?_) rfl (by kernel_rfl) (by kernel_rfl) (by kernel_rfl) (fun _ _ _ h => h) (Or.inl ⟨by rfl, ?_⟩) trivial ?_
    rotate_left
    · (intro w hSw; (try dsimp only at hSw); go_simp) <;> with_reducible rfl
    (try simp only [Act.put, List.setIfInBounds_toArray, List.set_cons_zero, List.set_cons_succ])
    refine wpAnyH_take (i := 8) (v := ?_) rfl (by kernel_rfl) (by kernel_rfl) (by kernel_rfl) (fun _ _ _ h => h) (Or.inl ⟨by rfl, ?_⟩) trivial ?_
    rotate_left
    · (intro w hSw; (try dsimp only at hSw); go_simp) <;> with_reducible rfl
    (try simp only [Act.put, List.setIfInBounds_toArray, List.set_cons_zero, List.set_cons_succ])
    obtain ⟨y5, hr5, hB5, hG5, hs5⟩ := make_ints (tabN D.n D.sz) (w1.drew) (by omega)
    obtain ⟨y7, hr7, hB7, hG7, hs7⟩ := make_ints (capN D.n D.sz) (w1.drew) (by omega)
    refine wpAnyH_ready (rs := [2, 5, 7]) (by kernel_rfl) (by simp) ?_
    refine (AllReadyH.cons rfl (fun K hK => ?_) (AllReadyH.cons rfl (fun K hK => ?_) (AllReadyH.cons rfl (fun K hK => ?_) AllReadyH.nil)))
    · go_simp
      refine (dsize_any d F D _ (H.out.1.grew (Grew.trans HG1.out HG0.out))).mono ?_
      rintro e u2 ⟨rfl, rfl⟩
      refine hK.out _ _ trivial (fun _ => ?_)
      clear hK K
      (try simp only [Act.put, List.setIfInBounds_toArray, List.set_cons_zero, List.set_cons_succ])
      clear hr5 hB5 hG5 hs5 y5 hr7 hB7 hG7 hs7 y7
      refine wpAnyH_take (i := 3) (v := ?_) rfl (by kernel_rfl) (by kernel_rfl) (by kernel_rfl) (fun _ _ _ h => h) (Or.inl ⟨by rfl, ?_⟩) trivial ?_
      rotate_left
      · (intro w hSw; (try dsimp only at hSw); go_simp) <;> with_reducible rfl
      (try simp only [Act.put, List.setIfInBounds_toArray, List.set_cons_zero, List.set_cons_succ])
      obtain ⟨y5, hr5, hB5, hG5, hs5⟩ := make_ints (tabN D.n D.sz) (w1.drew) (by omega)
      obtain ⟨y7, hr7, hB7, hG7, hs7⟩ := make_ints (capN D.n D.sz) (w1.drew) (by omega)
      refine wpAnyH_ready (rs := [5, 7, 9]) (by kernel_rfl) (by simp) ?_
      refine (AllReadyH.cons rfl (fun K hK => ?_) (AllReadyH.cons rfl (fun K hK => ?_) (AllReadyH.cons rfl (fun K hK => ?_) AllReadyH.nil)))
      · go_simp
        refine hK.out _ _ trivial (fun _ => ?_)
        clear hK K
        (try simp only [Act.put, List.setIfInBounds_toArray, List.set_cons_zero, List.set_cons_succ])
        have HQ5 := Lib.hid (show NewInts w1 y5 (w1.drew).heap.size (tabN D.n D.sz) from ⟨hB5, HG0.out.size⟩)
        have HLT5 := Lib.hid (show (w1.drew).heap.size < y5.heap.size from HQ5.out.1.lt)
        have HG5 := Lib.hid (Grew.trans HG0.out hG5)
        clear hr5 hB5 hG5 hs5 hr7 hB7 hG7 hs7 y7
        obtain ⟨y7, hr7, hB7, hG7, hs7⟩ := make_ints (capN D.n D.sz) (y5) (by omega)
        refine wpAnyH_ready (rs := [7, 9]) (by kernel_rfl) (by simp) ?_
        refine (AllReadyH.cons rfl (fun K hK => ?_) (AllReadyH.cons rfl (fun K hK => ?_) AllReadyH.nil))
        · go_simp
          refine hK.out _ _ trivial (fun _ => ?_)
          clear hK K
          (try simp only [Act.put, List.setIfInBounds_toArray, List.set_cons_zero, List.set_cons_succ])
          have HQ5 := Lib.hid (HQ5.out.grew hG7)
          have HQ7 := Lib.hid (show NewInts w1 y7 (y5).heap.size (capN D.n D.sz) from ⟨hB7, HG5.out.size⟩)
          have HD := Lib.hid (show (w1.drew).heap.size ≠ (y5).heap.size from Nat.ne_of_lt HLT5.out)
          have HG7 := Lib.hid (Grew.trans HG5.out hG7)
          clear hr7 hB7 hG7 hs7
          refine wpAnyH_ready (rs := [9]) (by kernel_rfl) (by simp) ?_
          refine (AllReadyH.cons rfl (fun K hK => ?_) AllReadyH.nil)
          · go_simp
            refine (dsectors_any d F D _ (H.out.1.grew (Grew.trans HG1.out HG7.out))).mono ?_
            rintro e u2 ⟨rfl, rfl⟩
            refine hK.out _ _ trivial (fun _ => ?_)
            clear hK K
            (try simp only [Act.put, List.setIfInBounds_toArray, List.set_cons_zero, List.set_cons_succ])
            refine wpAnyH_ready (rs := [10]) (by kernel_rfl) (by simp) ?_
            refine (AllReadyH.cons rfl (fun K hK => ?_) AllReadyH.nil)
            · go_simp
              refine (pnew_any D.n _ (by omega)).mono ?_
              rintro e y10 ⟨A10, c10, rfl, hp10, hg10, hn10⟩
              refine hK.out _ _ trivial (fun _ => ?_)
              clear hK K
              (try simp only [Act.put, List.setIfInBounds_toArray, List.set_cons_zero, List.set_cons_succ])
              have HQ5 := Lib.hid (HQ5.out.grew hg10)
              have HQ7 := Lib.hid (HQ7.out.grew hg10)
              have HQ10 := Lib.hid (show NewPool w1 y10 (y7).heap.size D.n A10 c10 from ⟨hp10, fun j hj => Nat.le_trans HG7.out.size (hn10 j hj)⟩)
              have HG10 := Lib.hid (Grew.trans HG7.out hg10)
              clear hp10 hg10 hn10
              refine wpAnyH_take (i := 11) (v := ?_) rfl (by kernel_rfl) (by kernel_rfl) (by kernel_rfl) (fun _ _ _ h => h) (Or.inl ⟨by rfl, ?_⟩) trivial ?_
              rotate_left
              · (intro w hSw; (try dsimp only at hSw); go_simp) <;> with_reducible rfl
              (try simp only [Act.put, List.setIfInBounds_toArray, List.set_cons_zero, List.set_cons_succ])
              refine wpAnyH_ready (rs := [12]) (by kernel_rfl) (by simp) ?_
              refine AllReadyH.cons rfl (fun K hK => ?_) AllReadyH.nil
              go_simp
              refine hK.out _ _ trivial (fun _ => ?_)
              clear hK K
              (try simp only [Act.put, List.setIfInBounds_toArray, List.set_cons_zero, List.set_cons_succ])
              refine wpAnyH_ready (rs := [13]) (by kernel_rfl) (by simp) ?_
              refine AllReadyH.cons rfl (fun K hK => ?_) AllReadyH.nil
              go_simp
              refine hK.out _ _ trivial (fun _ => ?_)
              clear hK K
              (try simp only [Act.put, List.setIfInBounds_toArray, List.set_cons_zero, List.set_cons_succ])
              refine wpAnyH_done (by kernel_rfl) ?_ _
              go_wp2
              go_meet
              exact openJ_mk (by first | exact ew3 | omega) HQ5.out HQ7.out HD.out HQ10.out HG10.out
        · go_simp
          refine (dsectors_any d F D _ (H.out.1.grew (Grew.trans HG1.out HG5.out))).mono ?_
          rintro e u2 ⟨rfl, rfl⟩
          refine hK.out _ _ trivial (fun _ => ?_)
          clear hK K
          (try simp only [Act.put, List.setIfInBounds_toArray, List.set_cons_zero, List.set_cons_succ])
          clear hr7 hB7 hG7 hs7 y7
          obtain ⟨y7, hr7, hB7, hG7, hs7⟩ := make_ints (capN D.n D.sz) (y5) (by omega)
          refine wpAnyH_ready (rs := [7, 10]) (by kernel_rfl) (by simp) ?_
          refine (AllReadyH.cons rfl (fun K hK => ?_) (AllReadyH.cons rfl (fun K hK => ?_) AllReadyH.nil))
          · go_simp
            refine hK.out _ _ trivial (fun _ => ?_)
            clear hK K
            (try simp only [Act.put, List.setIfInBounds_toArray, List.set_cons_zero, List.set_cons_succ])
            have HQ5 := Lib.hid (HQ5.out.grew hG7)
            have HQ7 := Lib.hid (show NewInts w1 y7 (y5).heap.size (capN D.n D.sz) from ⟨hB7, HG5.out.size⟩)
            have HD := Lib.hid (show (w1.drew).heap.size ≠ (y5).heap.size from Nat.ne_of_lt HLT5.out)
            have HG7 := Lib.hid (Grew.trans HG5.out hG7)
            clear hr7 hB7 hG7 hs7
            refine wpAnyH_ready (rs := [10]) (by kernel_rfl) (by simp) ?_
            refine (AllReadyH.cons rfl (fun K hK => ?_) AllReadyH.nil)
            · go_simp
              refine (pnew_any D.n _ (by omega)).mono ?_
              rintro e y10 ⟨A10, c10, rfl, hp10, hg10, hn10⟩
              refine hK.out _ _ trivial (fun _ => ?_)
              clear hK K
              (try simp only [Act.put, List.setIfInBounds_toArray, List.set_cons_zero, List.set_cons_succ])
              have HQ5 := Lib.hid (HQ5.out.grew hg10)
              have HQ7 := Lib.hid (HQ7.out.grew hg10)
              have HQ10 := Lib.hid (show NewPool w1 y10 (y7).heap.size D.n A10 c10 from ⟨hp10, fun j hj => Nat.le_trans HG7.out.size (hn10 j hj)⟩)
              have HG10 := Lib.hid (Grew.trans HG7.out hg10)
              clear hp10 hg10 hn10
              refine wpAnyH_take (i := 11) (v := ?_) rfl (by kernel_rfl) (by kernel_rfl) (by kernel_rfl) (fun _ _ _ h => h) (Or.inl ⟨by rfl, ?_⟩) trivial ?_
              rotate_left
              · (intro w hSw; (try dsimp only at hSw); go_simp) <;> with_reducible rfl
              (try simp only [Act.put, List.setIfInBounds_toArray, List.set_cons_zero, List.set_cons_succ])
              refine wpAnyH_ready (rs := [12]) (by kernel_rfl) (by simp) ?_
              refine AllReadyH.cons rfl (fun K hK => ?_) AllReadyH.nil
              go_simp
              refine hK.out _ _ trivial (fun _ => ?_)
              clear hK K
              (try simp only [Act.put, List.setIfInBounds_toArray, List.set_cons_zero, List.set_cons_succ])
              refine wpAnyH_ready (rs := [13]) (by kernel_rfl) (by simp) ?_
              refine AllReadyH.cons rfl (fun K hK => ?_) AllReadyH.nil
              go_simp
              refine hK.out _ _ trivial (fun _ => ?_)
              clear hK K
              (try simp only [Act.put, List.setIfInBounds_toArray, List.set_cons_zero, List.set_cons_succ])
              refine wpAnyH_done (by kernel_rfl) ?_ _
              go_wp2
              go_meet
              exact openJ_mk (by first | exact ew3 | omega) HQ5.out HQ7.out HD.out HQ10.out HG10.out
          · go_simp
            refine (pnew_any D.n _ (by omega)).mono ?_
            rintro e y10 ⟨A10, c10, rfl, hp10, hg10, hn10⟩
            refine hK.out _ _ trivial (fun _ => ?_)
            clear hK K
            (try simp only [Act.put, List.setIfInBounds_toArray, List.set_cons_zero, List.set_cons_succ])
            have HQ5 := Lib.hid (HQ5.out.grew hg10)
            have HLT5 := Lib.hid (Nat.lt_of_lt_of_le HLT5.out hg10.size)
            have HQ10 := Lib.hid (show NewPool w1 y10 (y5).heap.size D.n A10 c10 from ⟨hp10, fun j hj => Nat.le_trans HG5.out.size (hn10 j hj)⟩)
            have HG10 := Lib.hid (Grew.trans HG5.out hg10)
            clear hp10 hg10 hn10
            clear hr7 hB7 hG7 hs7 y7
            obtain ⟨y7, hr7, hB7, hG7, hs7⟩ := make_ints (capN D.n D.sz) (y10) (by omega)
            refine wpAnyH_ready (rs := [7]) (by kernel_rfl) (by simp) ?_
            refine (AllReadyH.cons rfl (fun K hK => ?_) AllReadyH.nil)
            · go_simp
              refine hK.out _ _ trivial (fun _ => ?_)
              clear hK K
              (try simp only [Act.put, List.setIfInBounds_toArray, List.set_cons_zero, List.set_cons_succ])
              have HQ5 := Lib.hid (HQ5.out.grew hG7)
              have HQ10 := Lib.hid (HQ10.out.grew hG7)
              have HQ7 := Lib.hid (show NewInts w1 y7 (y10).heap.size (capN D.n D.sz) from ⟨hB7, HG10.out.size⟩)
              have HD := Lib.hid (show (w1.drew).heap.size ≠ (y10).heap.size from Nat.ne_of_lt HLT5.out)
              have HG7 := Lib.hid (Grew.trans HG10.out hG7)
              clear hr7 hB7 hG7 hs7
              refine wpAnyH_take (i := 11) (v := ?_) rfl (by kernel_rfl) (by kernel_rfl) (by kernel_rfl) (fun _ _ _ h => h) (Or.inl ⟨by rfl, ?_⟩) trivial ?_
              rotate_left
              · (intro w hSw; (try dsimp only at hSw); go_simp) <;> with_reducible rfl
              (try simp only [Act.put, List.setIfInBounds_toArray, List.set_cons_zero, List.set_cons_succ])
              refine wpAnyH_ready (rs := [12]) (by kernel_rfl) (by simp) ?_
              refine AllReadyH.cons rfl (fun K hK => ?_) AllReadyH.nil
              go_simp
              refine hK.out _ _ trivial (fun _ => ?_)
              clear hK K
              (try simp only [Act.put, List.setIfInBounds_toArray, List.set_cons_zero, List.set_cons_succ])
              refine wpAnyH_ready (rs := [13]) (by kernel_rfl) (by simp) ?_
              refine AllReadyH.cons rfl (fun K hK => ?_) AllReadyH.nil
              go_simp
              refine hK.out _ _ trivial (fun _ => ?_)
              clear hK K
              (try simp only [Act.put, List.setIfInBounds_toArray, List.set_cons_zero, List.set_cons_succ])
              refine wpAnyH_done (by kernel_rfl) ?_ _
              go_wp2
              go_meet
              exact openJ_mk (by first | exact ew3 | omega) HQ5.out HQ7.out HD.out HQ10.out HG7.out
      · go_simp
        refine hK.out _ _ trivial (fun _ => ?_)
        clear hK K
        (try simp only [Act.put, List.setIfInBounds_toArray, List.set_cons_zero, List.set_cons_succ])
        have HQ7 := Lib.hid (show NewInts w1 y7 (w1.drew).heap.size (capN D.n D.sz) from ⟨hB7, HG0.out.size⟩)
        have HLT7 := Lib.hid (show (w1.drew).heap.size < y7.heap.size from HQ7.out.1.lt)
        have HG7 := Lib.hid (Grew.trans HG0.out hG7)
        clear hr7 hB7 hG7 hs7 hr5 hB5 hG5 hs5 y5
        obtain ⟨y5, hr5, hB5, hG5, hs5⟩ := make_ints (tabN D.n D.sz) (y7) (by omega)
        refine wpAnyH_ready (rs := [5, 9]) (by kernel_rfl) (by simp) ?_
        refine (AllReadyH.cons rfl (fun K hK => ?_) (AllReadyH.cons rfl (fun K hK => ?_) AllReadyH.nil))
        · go_simp
          refine hK.out _ _ trivial (fun _ => ?_)
          clear hK K
          (try simp only [Act.put, List.setIfInBounds_toArray, List.set_cons_zero, List.set_cons_succ])
          have HQ7 := Lib.hid (HQ7.out.grew hG5)
          have HQ5 := Lib.hid (show NewInts w1 y5 (y7).heap.size (tabN D.n D.sz) from ⟨hB5, HG7.out.size⟩)
          have HD := Lib.hid (show (y7).heap.size ≠ (w1.drew).heap.size from Ne.symm (Nat.ne_of_lt HLT7.out))
          have HG5 := Lib.hid (Grew.trans HG7.out hG5)
          clear hr5 hB5 hG5 hs5
          refine wpAnyH_ready (rs := [9]) (by kernel_rfl) (by simp) ?_
          refine (AllReadyH.cons rfl (fun K hK => ?_) AllReadyH.nil)
          · go_simp
            refine (dsectors_any d F D _ (H.out.1.grew (Grew.trans HG1.out HG5.out))).mono ?_
            rintro e u2 ⟨rfl, rfl⟩
            refine hK.out _ _ trivial (fun _ => ?_)
            clear hK K
            (try simp only [Act.put, List.setIfInBounds_toArray, List.set_cons_zero, List.set_cons_succ])
            refine wpAnyH_ready (rs := [10]) (by kernel_rfl) (by simp) ?_
            refine (AllReadyH.cons rfl (fun K hK => ?_) AllReadyH.nil)
            · go_simp
              refine (pnew_any D.n _ (by omega)).mono ?_
              rintro e y10 ⟨A10, c10, rfl, hp10, hg10, hn10⟩
              refine hK.out _ _ trivial (fun _ => ?_)
              clear hK K
              (try simp only [Act.put, List.setIfInBounds_toArray, List.set_cons_zero, List.set_cons_succ])
              have HQ7 := Lib.hid (HQ7.out.grew hg10)
              have HQ5 := Lib.hid (HQ5.out.grew hg10)
              have HQ10 := Lib.hid (show NewPool w1 y10 (y5).heap.size D.n A10 c10 from ⟨hp10, fun j hj => Nat.le_trans HG5.out.size (hn10 j hj)⟩)
              have HG10 := Lib.hid (Grew.trans HG5.out hg10)
              clear hp10 hg10 hn10
              refine wpAnyH_take (i := 11) (v := ?_) rfl (by kernel_rfl) (by kernel_rfl) (by kernel_rfl) (fun _ _ _ h => h) (Or.inl ⟨by rfl, ?_⟩) trivial ?_
              rotate_left
              · (intro w hSw; (try dsimp only at hSw); go_simp) <;> with_reducible rfl
              (try simp only [Act.put, List.setIfInBounds_toArray, List.set_cons_zero, List.set_cons_succ])
              refine wpAnyH_ready (rs := [12]) (by kernel_rfl) (by simp) ?_
              refine AllReadyH.cons rfl (fun K hK => ?_) AllReadyH.nil
              go_simp
              refine hK.out _ _ trivial (fun _ => ?_)
              clear hK K
              (try simp only [Act.put, List.setIfInBounds_toArray, List.set_cons_zero, List.set_cons_succ])
              refine wpAnyH_ready (rs := [13]) (by kernel_rfl) (by simp) ?_
              refine AllReadyH.cons rfl (fun K hK => ?_) AllReadyH.nil
              go_simp
              refine hK.out _ _ trivial (fun _ => ?_)
              clear hK K
              (try simp only [Act.put, List.setIfInBounds_toArray, List.set_cons_zero, List.set_cons_succ])
              refine wpAnyH_done (by kernel_rfl) ?_ _
              go_wp2
              go_meet
              exact openJ_mk (by first | exact ew3 | omega) HQ5.out HQ7.out HD.out HQ10.out HG10.out
        · go_simp
          refine (dsectors_any d F D _ (H.out.1.grew (Grew.trans HG1.out HG7.out))).mono ?_
          rintro e u2 ⟨rfl, rfl⟩
          refine hK.out _ _ trivial (fun _ => ?_)
          clear hK K
          (try simp only [Act.put, List.setIfInBounds_toArray, List.set_cons_zero, List.set_cons_succ])
          clear hr5 hB5 hG5 hs5 y5
          obtain ⟨y5, hr5, hB5, hG5, hs5⟩ := make_ints (tabN D.n D.sz) (y7) (by omega)
          refine wpAnyH_ready (rs := [5, 10]) (by kernel_rfl) (by simp) ?_
          refine (AllReadyH.cons rfl (fun K hK => ?_) (AllReadyH.cons rfl (fun K hK => ?_) AllReadyH.nil))
          · go_simp
            refine hK.out _ _ trivial (fun _ => ?_)
            clear hK K
            (try simp only [Act.put, List.setIfInBounds_toArray, List.set_cons_zero, List.set_cons_succ])
            have HQ7 := Lib.hid (HQ7.out.grew hG5)
            have HQ5 := Lib.hid (show NewInts w1 y5 (y7).heap.size (tabN D.n D.sz) from ⟨hB5, HG7.out.size⟩)
            have HD := Lib.hid (show (y7).heap.size ≠ (w1.drew).heap.size from Ne.symm (Nat.ne_of_lt HLT7.out))
            have HG5 := Lib.hid (Grew.trans HG7.out hG5)
            clear hr5 hB5 hG5 hs5
            refine wpAnyH_ready (rs := [10]) (by kernel_rfl) (by simp) ?_
            refine (AllReadyH.cons rfl (fun K hK => ?_) AllReadyH.nil)
            · go_simp
              refine (pnew_any D.n _ (by omega)).mono ?_
              rintro e y10 ⟨A10, c10, rfl, hp10, hg10, hn10⟩
              refine hK.out _ _ trivial (fun _ => ?_)
              clear hK K
              (try simp only [Act.put, List.setIfInBounds_toArray, List.set_cons_zero, List.set_cons_succ])
              have HQ7 := Lib.hid (HQ7.out.grew hg10)
              have HQ5 := Lib.hid (HQ5.out.grew hg10)
              have HQ10 := Lib.hid (show NewPool w1 y10 (y5).heap.size D.n A10 c10 from ⟨hp10, fun j hj => Nat.le_trans HG5.out.size (hn10 j hj)⟩)
              have HG10 := Lib.hid (Grew.trans HG5.out hg10)
              clear hp10 hg10 hn10
              refine wpAnyH_take (i := 11) (v := ?_) rfl (by kernel_rfl) (by kernel_rfl) (by kernel_rfl) (fun _ _ _ h => h) (Or.inl ⟨by rfl, ?_⟩) trivial ?_
              rotate_left
              · (intro w hSw; (try dsimp only at hSw); go_simp) <;> with_reducible rfl
              (try simp only [Act.put, List.setIfInBounds_toArray, List.set_cons_zero, List.set_cons_succ])
              refine wpAnyH_ready (rs := [12]) (by kernel_rfl) (by simp) ?_
              refine AllReadyH.cons rfl (fun K hK => ?_) AllReadyH.nil
              go_simp
              refine hK.out _ _ trivial (fun _ => ?_)
              clear hK K
              (try simp only [Act.put, List.setIfInBounds_toArray, List.set_cons_zero, List.set_cons_succ])
              refine wpAnyH_ready (rs := [13]) (by kernel_rfl) (by simp) ?_
              refine AllReadyH.cons rfl (fun K hK => ?_) AllReadyH.nil
              go_simp
              refine hK.out _ _ trivial (fun _ => ?_)
              clear hK K
              (try simp only [Act.put, List.setIfInBounds_toArray, List.set_cons_zero, List.set_cons_succ])
              refine wpAnyH_done (by kernel_rfl) ?_ _
              go_wp2
              go_meet
              exact openJ_mk (by first | exact ew3 | omega) HQ5.out HQ7.out HD.out HQ10.out HG10.out
          · go_simp
            refine (pnew_any D.n _ (by omega)).mono ?_
            rintro e y10 ⟨A10, c10, rfl, hp10, hg10, hn10⟩
            refine hK.out _ _ trivial (fun _ => ?_)
            clear hK K
            (try simp only [Act.put, List.setIfInBounds_toArray, List.set_cons_zero, List.set_cons_succ])
            have HQ7 := Lib.hid (HQ7.out.grew hg10)
            have HLT7 := Lib.hid (Nat.lt_of_lt_of_le HLT7.out hg10.size)
            have HQ10 := Lib.hid (show NewPool w1 y10 (y7).heap.size D.n A10 c10 from ⟨hp10, fun j hj => Nat.le_trans HG7.out.size (hn10 j hj)⟩)
            have HG10 := Lib.hid (Grew.trans HG7.out hg10)
            clear hp10 hg10 hn10
            clear hr5 hB5 hG5 hs5 y5
            obtain ⟨y5, hr5, hB5, hG5, hs5⟩ := make_ints (tabN D.n D.sz) (y10) (by omega)
            refine wpAnyH_ready (rs := [5]) (by kernel_rfl) (by simp) ?_
            refine (AllReadyH.cons rfl (fun K hK => ?_) AllReadyH.nil)
            · go_simp
              refine hK.out _ _ trivial (fun _ => ?_)
              clear hK K
              (try simp only [Act.put, List.setIfInBounds_toArray, List.set_cons_zero, List.set_cons_succ])
              have HQ7 := Lib.hid (HQ7.out.grew hG5)
              have HQ10 := Lib.hid (HQ10.out.grew hG5)
              have HQ5 := Lib.hid (show NewInts w1 y5 (y10).heap.size (tabN D.n D.sz) from ⟨hB5, HG10.out.size⟩)
              have HD := Lib.hid (show (y10).heap.size ≠ (w1.drew).heap.size from Ne.symm (Nat.ne_of_lt HLT7.out))
              have HG5 := Lib.hid (Grew.trans HG10.out hG5)
              clear hr5 hB5 hG5 hs5
              refine wpAnyH_take (i := 11) (v := ?_) rfl (by kernel_rfl) (by kernel_rfl) (by kernel_rfl) (fun _ _ _ h => h) (Or.inl ⟨by rfl, ?_⟩) trivial ?_
              rotate_left
              · (intro w hSw; (try dsimp only at hSw); go_simp) <;> with_reducible rfl
              (try simp only [Act.put, List.setIfInBounds_toArray, List.set_cons_zero, List.set_cons_succ])
              refine wpAnyH_ready (rs := [12]) (by kernel_rfl) (by simp) ?_
              refine AllReadyH.cons rfl (fun K hK => ?_) AllReadyH.nil
              go_simp
              refine hK.out _ _ trivial (fun _ => ?_)
              clear hK K
              (try simp only [Act.put, List.setIfInBounds_toArray, List.set_cons_zero, List.set_cons_succ])
              refine wpAnyH_ready (rs := [13]) (by kernel_rfl) (by simp) ?_
              refine AllReadyH.cons rfl (fun K hK => ?_) AllReadyH.nil
              go_simp
              refine hK.out _ _ trivial (fun _ => ?_)
              clear hK K
              (try simp only [Act.put, List.setIfInBounds_toArray, List.set_cons_zero, List.set_cons_succ])
              refine wpAnyH_done (by kernel_rfl) ?_ _
              go_wp2
              go_meet
              exact openJ_mk (by first | exact ew3 | omega) HQ5.out HQ7.out HD.out HQ10.out HG5.out
      · go_simp
        refine (dsectors_any d F D _ (H.out.1.grew (Grew.trans HG1.out HG0.out))).mono ?_
        rintro e u2 ⟨rfl, rfl⟩
        refine hK.out _ _ trivial (fun _ => ?_)
        clear hK K
        (try simp only [Act.put, List.setIfInBounds_toArray, List.set_cons_zero, List.set_cons_succ])
        clear hr5 hB5 hG5 hs5 y5 hr7 hB7 hG7 hs7 y7
        obtain ⟨y5, hr5, hB5, hG5, hs5⟩ := make_ints (tabN D.n D.sz) (w1.drew) (by omega)
        obtain ⟨y7, hr7, hB7, hG7, hs7⟩ := make_ints (capN D.n D.sz) (w1.drew) (by omega)
        refine wpAnyH_ready (rs := [5, 7, 10]) (by kernel_rfl) (by simp) ?_
        refine (AllReadyH.cons rfl (fun K hK => ?_) (AllReadyH.cons rfl (fun K hK => ?_) (AllReadyH.cons rfl (fun K hK => ?_) AllReadyH.nil)))
        · go_simp
          refine hK.out _ _ trivial (fun _ => ?_)
          clear hK K
          (try simp only [Act.put, List.setIfInBounds_toArray, List.set_cons_zero, List.set_cons_succ])
          have HQ5 := Lib.hid (show NewInts w1 y5 (w1.drew).heap.size (tabN D.n D.sz) from ⟨hB5, HG0.out.size⟩)
          have HLT5 := Lib.hid (show (w1.drew).heap.size < y5.heap.size from HQ5.out.1.lt)
          have HG5 := Lib.hid (Grew.trans HG0.out hG5)
          clear hr5 hB5 hG5 hs5 hr7 hB7 hG7 hs7 y7
          obtain ⟨y7, hr7, hB7, hG7, hs7⟩ := make_ints (capN D.n D.sz) (y5) (by omega)
          refine wpAnyH_ready (rs := [7, 10]) (by kernel_rfl) (by simp) ?_
          refine (AllReadyH.cons rfl (fun K hK => ?_) (AllReadyH.cons rfl (fun K hK => ?_) AllReadyH.nil))
          · go_simp
            refine hK.out _ _ trivial (fun _ => ?_)
            clear hK K
            (try simp only [Act.put, List.setIfInBounds_toArray, List.set_cons_zero, List.set_cons_succ])
            have HQ5 := Lib.hid (HQ5.out.grew hG7)
            have HQ7 := Lib.hid (show NewInts w1 y7 (y5).heap.size (capN D.n D.sz) from ⟨hB7, HG5.out.size⟩)
            have HD := Lib.hid (show (w1.drew).heap.size ≠ (y5).heap.size from Nat.ne_of_lt HLT5.out)
            have HG7 := Lib.hid (Grew.trans HG5.out hG7)
            clear hr7 hB7 hG7 hs7
            refine wpAnyH_ready (rs := [10]) (by kernel_rfl) (by simp) ?_
            refine (AllReadyH.cons rfl (fun K hK => ?_) AllReadyH.nil)
            · go_simp
              refine (pnew_any D.n _ (by omega)).mono ?_
              rintro e y10 ⟨A10, c10, rfl, hp10, hg10, hn10⟩
              refine hK.out _ _ trivial (fun _ => ?_)
              clear hK K
              (try simp only [Act.put, List.setIfInBounds_toArray, List.set_cons_zero, List.set_cons_succ])
              have HQ5 := Lib.hid (HQ5.out.grew hg10)
              have HQ7 := Lib.hid (HQ7.out.grew hg10)
              have HQ10 := Lib.hid (show NewPool w1 y10 (y7).heap.size D.n A10 c10 from ⟨hp10, fun j hj => Nat.le_trans HG7.out.size (hn10 j hj)⟩)
              have HG10 := Lib.hid (Grew.trans HG7.out hg10)
              clear hp10 hg10 hn10
              refine wpAnyH_take (i := 11) (v := ?_) rfl (by kernel_rfl) (by kernel_rfl) (by kernel_rfl) (fun _ _ _ h => h) (Or.inl ⟨by rfl, ?_⟩) trivial ?_
              rotate_left
              · (intro w hSw; (try dsimp only at hSw); go_simp) <;> with_reducible rfl
              (try simp only [Act.put, List.setIfInBounds_toArray, List.set_cons_zero, List.set_cons_succ])
              refine wpAnyH_ready (rs := [12]) (by kernel_rfl) (by simp) ?_
              refine AllReadyH.cons rfl (fun K hK => ?_) AllReadyH.nil
              go_simp
              refine hK.out _ _ trivial (fun _ => ?_)
              clear hK K
              (try simp only [Act.put, List.setIfInBounds_toArray, List.set_cons_zero, List.set_cons_succ])
              refine wpAnyH_ready (rs := [13]) (by kernel_rfl) (by simp) ?_
              refine AllReadyH.cons rfl (fun K hK => ?_) AllReadyH.nil
              go_simp
              refine hK.out _ _ trivial (fun _ => ?_)
              clear hK K
              (try simp only [Act.put, List.setIfInBounds_toArray, List.set_cons_zero, List.set_cons_succ])
              refine wpAnyH_done (by kernel_rfl) ?_ _
              go_wp2
              go_meet
              exact openJ_mk (by first | exact ew3 | omega) HQ5.out HQ7.out HD.out HQ10.out HG10.out
          · go_simp
            refine (pnew_any D.n _ (by omega)).mono ?_
            rintro e y10 ⟨A10, c10, rfl, hp10, hg10, hn10⟩
            refine hK.out _ _ trivial (fun _ => ?_)
            clear hK K
            (try simp only [Act.put, List.setIfInBounds_toArray, List.set_cons_zero, List.set_cons_succ])
            have HQ5 := Lib.hid (HQ5.out.grew hg10)
            have HLT5 := Lib.hid (Nat.lt_of_lt_of_le HLT5.out hg10.size)
            have HQ10 := Lib.hid (show NewPool w1 y10 (y5).heap.size D.n A10 c10 from ⟨hp10, fun j hj => Nat.le_trans HG5.out.size (hn10 j hj)⟩)
            have HG10 := Lib.hid (Grew.trans HG5.out hg10)
            clear hp10 hg10 hn10
            clear hr7 hB7 hG7 hs7 y7
            obtain ⟨y7, hr7, hB7, hG7, hs7⟩ := make_ints (capN D.n D.sz) (y10) (by omega)
            refine wpAnyH_ready (rs := [7]) (by kernel_rfl) (by simp) ?_
            refine (AllReadyH.cons rfl (fun K hK => ?_) AllReadyH.nil)
            · go_simp
              refine hK.out _ _ trivial (fun _ => ?_)
              clear hK K
              (try simp only [Act.put, List.setIfInBounds_toArray, List.set_cons_zero, List.set_cons_succ])
              have HQ5 := Lib.hid (HQ5.out.grew hG7)
              have HQ10 := Lib.hid (HQ10.out.grew hG7)
              have HQ7 := Lib.hid (show NewInts w1 y7 (y10).heap.size (capN D.n D.sz) from ⟨hB7, HG10.out.size⟩)
              have HD := Lib.hid (show (w1.drew).heap.size ≠ (y10).heap.size from Nat.ne_of_lt HLT5.out)
              have HG7 := Lib.hid (Grew.trans HG10.out hG7)
              clear hr7 hB7 hG7 hs7
              refine wpAnyH_take (i := 11) (v := ?_) rfl (by kernel_rfl) (by kernel_rfl) (by kernel_rfl) (fun _ _ _ h => h) (Or.inl ⟨by rfl, ?_⟩) trivial ?_
              rotate_left
              · (intro w hSw; (try dsimp only at hSw); go_simp) <;> with_reducible rfl
              (try simp only [Act.put, List.setIfInBounds_toArray, List.set_cons_zero, List.set_cons_succ])
              refine wpAnyH_ready (rs := [12]) (by kernel_rfl) (by simp) ?_
              refine AllReadyH.cons rfl (fun K hK => ?_) AllReadyH.nil
              go_simp
              refine hK.out _ _ trivial (fun _ => ?_)
              clear hK K
              (try simp only [Act.put, List.setIfInBounds_toArray, List.set_cons_zero, List.set_cons_succ])
              refine wpAnyH_ready (rs := [13]) (by kernel_rfl) (by simp) ?_
              refine AllReadyH.cons rfl (fun K hK => ?_) AllReadyH.nil
              go_simp
              refine hK.out _ _ trivial (fun _ => ?_)
              clear hK K
              (try simp only [Act.put, List.setIfInBounds_toArray, List.set_cons_zero, List.set_cons_succ])
              refine wpAnyH_done (by kernel_rfl) ?_ _
              go_wp2
              go_meet
              exact openJ_mk (by first | exact ew3 | omega) HQ5.out HQ7.out HD.out HQ10.out HG7.out
        · go_simp
          refine hK.out _ _ trivial (fun _ => ?_)
          clear hK K
          (try simp only [Act.put, List.setIfInBounds_toArray, List.set_cons_zero, List.set_cons_succ])
          have HQ7 := Lib.hid (show NewInts w1 y7 (w1.drew).heap.size (capN D.n D.sz) from ⟨hB7, HG0.out.size⟩)
          have HLT7 := Lib.hid (show (w1.drew).heap.size < y7.heap.size from HQ7.out.1.lt)
          have HG7 := Lib.hid (Grew.trans HG0.out hG7)
          clear hr7 hB7 hG7 hs7 hr5 hB5 hG5 hs5 y5
          obtain ⟨y5, hr5, hB5, hG5, hs5⟩ := make_ints (tabN D.n D.sz) (y7) (by omega)
          refine wpAnyH_ready (rs := [5, 10]) (by kernel_rfl) (by simp) ?_
          refine (AllReadyH.cons rfl (fun K hK => ?_) (AllReadyH.cons rfl (fun K hK => ?_) AllReadyH.nil))
          · go_simp
            refine hK.out _ _ trivial (fun _ => ?_)
            clear hK K
            (try simp only [Act.put, List.setIfInBounds_toArray, List.set_cons_zero, List.set_cons_succ])
            have HQ7 := Lib.hid (HQ7.out.grew hG5)
            have HQ5 := Lib.hid (show NewInts w1 y5 (y7).heap.size (tabN D.n D.sz) from ⟨hB5, HG7.out.size⟩)
            have HD := Lib.hid (show (y7).heap.size ≠ (w1.drew).heap.size from Ne.symm (Nat.ne_of_lt HLT7.out))
            have HG5 := Lib.hid (Grew.trans HG7.out hG5)
            clear hr5 hB5 hG5 hs5
            refine wpAnyH_ready (rs := [10]) (by kernel_rfl) (by simp) ?_
            refine (AllReadyH.cons rfl (fun K hK => ?_) AllReadyH.nil)
            · go_simp
              refine (pnew_any D.n _ (by omega)).mono ?_
              rintro e y10 ⟨A10, c10, rfl, hp10, hg10, hn10⟩
              refine hK.out _ _ trivial (fun _ => ?_)
              clear hK K
              (try simp only [Act.put, List.setIfInBounds_toArray, List.set_cons_zero, List.set_cons_succ])
              have HQ7 := Lib.hid (HQ7.out.grew hg10)
              have HQ5 := Lib.hid (HQ5.out.grew hg10)
              have HQ10 := Lib.hid (show NewPool w1 y10 (y5).heap.size D.n A10 c10 from ⟨hp10, fun j hj => Nat.le_trans HG5.out.size (hn10 j hj)⟩)
              have HG10 := Lib.hid (Grew.trans HG5.out hg10)
              clear hp10 hg10 hn10
              refine wpAnyH_take (i := 11) (v := ?_) rfl (by kernel_rfl) (by kernel_rfl) (by kernel_rfl) (fun _ _ _ h => h) (Or.inl ⟨by rfl, ?_⟩) trivial ?_
              rotate_left
              · (intro w hSw; (try dsimp only at hSw); go_simp) <;> with_reducible rfl
              (try simp only [Act.put, List.setIfInBounds_toArray, List.set_cons_zero, List.set_cons_succ])
              refine wpAnyH_ready (rs := [12]) (by kernel_rfl) (by simp) ?_
              refine AllReadyH.cons rfl (fun K hK => ?_) AllReadyH.nil
              go_simp
              refine hK.out _ _ trivial (fun _ => ?_)
              clear hK K
              (try simp only [Act.put, List.setIfInBounds_toArray, List.set_cons_zero, List.set_cons_succ])
              refine wpAnyH_ready (rs := [13]) (by kernel_rfl) (by simp) ?_
              refine AllReadyH.cons rfl (fun K hK => ?_) AllReadyH.nil
              go_simp
              refine hK.out _ _ trivial (fun _ => ?_)
              clear hK K
              (try simp only [Act.put, List.setIfInBounds_toArray, List.set_cons_zero, List.set_cons_succ])
              refine wpAnyH_done (by kernel_rfl) ?_ _
              go_wp2
              go_meet
              exact openJ_mk (by first | exact ew3 | omega) HQ5.out HQ7.out HD.out HQ10.out HG10.out
          · go_simp
            refine (pnew_any D.n _ (by omega)).mono ?_
            rintro e y10 ⟨A10, c10, rfl, hp10, hg10, hn10⟩
            refine hK.out _ _ trivial (fun _ => ?_)
            clear hK K
            (try simp only [Act.put, List.setIfInBounds_toArray, List.set_cons_zero, List.set_cons_succ])
            have HQ7 := Lib.hid (HQ7.out.grew hg10)
            have HLT7 := Lib.hid (Nat.lt_of_lt_of_le HLT7.out hg10.size)
            have HQ10 := Lib.hid (show NewPool w1 y10 (y7).heap.size D.n A10 c10 from ⟨hp10, fun j hj => Nat.le_trans HG7.out.size (hn10 j hj)⟩)
            have HG10 := Lib.hid (Grew.trans HG7.out hg10)
            clear hp10 hg10 hn10
            clear hr5 hB5 hG5 hs5 y5
            obtain ⟨y5, hr5, hB5, hG5, hs5⟩ := make_ints (tabN D.n D.sz) (y10) (by omega)
            refine wpAnyH_ready (rs := [5]) (by kernel_rfl) (by simp) ?_
            refine (AllReadyH.cons rfl (fun K hK => ?_) AllReadyH.nil)
            · go_simp
              refine hK.out _ _ trivial (fun _ => ?_)
              clear hK K
              (try simp only [Act.put, List.setIfInBounds_toArray, List.set_cons_zero, List.set_cons_succ])
              have HQ7 := Lib.hid (HQ7.out.grew hG5)
              have HQ10 := Lib.hid (HQ10.out.grew hG5)
              have HQ5 := Lib.hid (show NewInts w1 y5 (y10).heap.size (tabN D.n D.sz) from ⟨hB5, HG10.out.size⟩)
              have HD := Lib.hid (show (y10).heap.size ≠ (w1.drew).heap.size from Ne.symm (Nat.ne_of_lt HLT7.out))
              have HG5 := Lib.hid (Grew.trans HG10.out hG5)
              clear hr5 hB5 hG5 hs5
              refine wpAnyH_take (i := 11) (v := ?_) rfl (by kernel_rfl) (by kernel_rfl) (by kernel_rfl) (fun _ _ _ h => h) (Or.inl ⟨by rfl, ?_⟩) trivial ?_
              rotate_left
              · (intro w hSw; (try dsimp only at hSw); go_simp) <;> with_reducible rfl
              (try simp only [Act.put, List.setIfInBounds_toArray, List.set_cons_zero, List.set_cons_succ])
              refine wpAnyH_ready (rs := [12]) (by kernel_rfl) (by simp) ?_
              refine AllReadyH.cons rfl (fun K hK => ?_) AllReadyH.nil
              go_simp
              refine hK.out _ _ trivial (fun _ => ?_)
              clear hK K
              (try simp only [Act.put, List.setIfInBounds_toArray, List.set_cons_zero, List.set_cons_succ])
              refine wpAnyH_ready (rs := [13]) (by kernel_rfl) (by simp) ?_
              refine AllReadyH.cons rfl (fun K hK => ?_) AllReadyH.nil
              go_simp
              refine hK.out _ _ trivial (fun _ => ?_)
              clear hK K
              (try simp only [Act.put, List.setIfInBounds_toArray, List.set_cons_zero, List.set_cons_succ])
              refine wpAnyH_done (by kernel_rfl) ?_ _
              go_wp2
              go_meet
              exact openJ_mk (by first | exact ew3 | omega) HQ5.out HQ7.out HD.out HQ10.out HG5.out
        · go_simp
          refine (pnew_any D.n _ (by omega)).mono ?_
          rintro e y10 ⟨A10, c10, rfl, hp10, hg10, hn10⟩
          refine hK.out _ _ trivial (fun _ => ?_)
          clear hK K
          (try simp only [Act.put, List.setIfInBounds_toArray, List.set_cons_zero, List.set_cons_succ])
          have HQ10 := Lib.hid (show NewPool w1 y10 (w1.drew).heap.size D.n A10 c10 from ⟨hp10, fun j hj => Nat.le_trans HG0.out.size (hn10 j hj)⟩)
          have HG10 := Lib.hid (Grew.trans HG0.out hg10)
          clear hp10 hg10 hn10
          clear hr5 hB5 hG5 hs5 y5 hr7 hB7 hG7 hs7 y7
          obtain ⟨y5, hr5, hB5, hG5, hs5⟩ := make_ints (tabN D.n D.sz) (y10) (by omega)
          obtain ⟨y7, hr7, hB7, hG7, hs7⟩ := make_ints (capN D.n D.sz) (y10) (by omega)
          refine wpAnyH_ready (rs := [5, 7]) (by kernel_rfl) (by simp) ?_
          refine (AllReadyH.cons rfl (fun K hK => ?_) (AllReadyH.cons rfl (fun K hK => ?_) AllReadyH.nil))
          · go_simp
            refine hK.out _ _ trivial (fun _ => ?_)
            clear hK K
            (try simp only [Act.put, List.setIfInBounds_toArray, List.set_cons_zero, List.set_cons_succ])
            have HQ10 := Lib.hid (HQ10.out.grew hG5)
            have HQ5 := Lib.hid (show NewInts w1 y5 (y10).heap.size (tabN D.n D.sz) from ⟨hB5, HG10.out.size⟩)
            have HLT5 := Lib.hid (show (y10).heap.size < y5.heap.size from HQ5.out.1.lt)
            have HG5 := Lib.hid (Grew.trans HG10.out hG5)
            clear hr5 hB5 hG5 hs5 hr7 hB7 hG7 hs7 y7
            obtain ⟨y7, hr7, hB7, hG7, hs7⟩ := make_ints (capN D.n D.sz) (y5) (by omega)
            refine wpAnyH_ready (rs := [7]) (by kernel_rfl) (by simp) ?_
            refine (AllReadyH.cons rfl (fun K hK => ?_) AllReadyH.nil)
            · go_simp
              refine hK.out _ _ trivial (fun _ => ?_)
              clear hK K
              (try simp only [Act.put, List.setIfInBounds_toArray, List.set_cons_zero, List.set_cons_succ])
              have HQ10 := Lib.hid (HQ10.out.grew hG7)
              have HQ5 := Lib.hid (HQ5.out.grew hG7)
              have HQ7 := Lib.hid (show NewInts w1 y7 (y5).heap.size (capN D.n D.sz) from ⟨hB7, HG5.out.size⟩)
              have HD := Lib.hid (show (y10).heap.size ≠ (y5).heap.size from Nat.ne_of_lt HLT5.out)
              have HG7 := Lib.hid (Grew.trans HG5.out hG7)
              clear hr7 hB7 hG7 hs7
              refine wpAnyH_take (i := 11) (v := ?_) rfl (by kernel_rfl) (by kernel_rfl) (by kernel_rfl) (fun _ _ _ h => h) (Or.inl ⟨by rfl, ?_⟩) trivial ?_
              rotate_left
              · (intro w hSw; (try dsimp only at hSw); go_simp) <;> with_reducible rfl
              (try simp only [Act.put, List.setIfInBounds_toArray, List.set_cons_zero, List.set_cons_succ])
              refine wpAnyH_ready (rs := [12]) (by kernel_rfl) (by simp) ?_
              refine AllReadyH.cons rfl (fun K hK => ?_) AllReadyH.nil
              go_simp
              refine hK.out _ _ trivial (fun _ => ?_)
              clear hK K
              (try simp only [Act.put, List.setIfInBounds_toArray, List.set_cons_zero, List.set_cons_succ])
              refine wpAnyH_ready (rs := [13]) (by kernel_rfl) (by simp) ?_
              refine AllReadyH.cons rfl (fun K hK => ?_) AllReadyH.nil
              go_simp
              refine hK.out _ _ trivial (fun _ => ?_)
              clear hK K
              (try simp only [Act.put, List.setIfInBounds_toArray, List.set_cons_zero, List.set_cons_succ])
              refine wpAnyH_done (by kernel_rfl) ?_ _
              go_wp2
              go_meet
              exact openJ_mk (by first | exact ew3 | omega) HQ5.out HQ7.out HD.out HQ10.out HG7.out
          · go_simp
            refine hK.out _ _ trivial (fun _ => ?_)
            clear hK K
            (try simp only [Act.put, List.setIfInBounds_toArray, List.set_cons_zero, List.set_cons_succ])
            have HQ10 := Lib.hid (HQ10.out.grew hG7)
            have HQ7 := Lib.hid (show NewInts w1 y7 (y10).heap.size (capN D.n D.sz) from ⟨hB7, HG10.out.size⟩)
            have HLT7 := Lib.hid (show (y10).heap.size < y7.heap.size from HQ7.out.1.lt)
            have HG7 := Lib.hid (Grew.trans HG10.out hG7)
            clear hr7 hB7 hG7 hs7 hr5 hB5 hG5 hs5 y5
            obtain ⟨y5, hr5, hB5, hG5, hs5⟩ := make_ints (tabN D.n D.sz) (y7) (by omega)
            refine wpAnyH_ready (rs := [5]) (by kernel_rfl) (by simp) ?_
            refine (AllReadyH.cons rfl (fun K hK => ?_) AllReadyH.nil)
            · go_simp
              refine hK.out _ _ trivial (fun _ => ?_)
              clear hK K
              (try simp only [Act.put, List.setIfInBounds_toArray, List.set_cons_zero, List.set_cons_succ])
              have HQ10 := Lib.hid (HQ10.out.grew hG5)
              have HQ7 := Lib.hid (HQ7.out.grew hG5)
              have HQ5 := Lib.hid (show NewInts w1 y5 (y7).heap.size (tabN D.n D.sz) from ⟨hB5, HG7.out.size⟩)
              have HD := Lib.hid (show (y7).heap.size ≠ (y10).heap.size from Ne.symm (Nat.ne_of_lt HLT7.out))
              have HG5 := Lib.hid (Grew.trans HG7.out hG5)
              clear hr5 hB5 hG5 hs5
              refine wpAnyH_take (i := 11) (v := ?_) rfl (by kernel_rfl) (by kernel_rfl) (by kernel_rfl) (fun _ _ _ h => h) (Or.inl ⟨by rfl, ?_⟩) trivial ?_
              rotate_left
              · (intro w hSw; (try dsimp only at hSw); go_simp) <;> with_reducible rfl
              (try simp only [Act.put, List.setIfInBounds_toArray, List.set_cons_zero, List.set_cons_succ])
              refine wpAnyH_ready (rs := [12]) (by kernel_rfl) (by simp) ?_
              refine AllReadyH.cons rfl (fun K hK => ?_) AllReadyH.nil
              go_simp
              refine hK.out _ _ trivial (fun _ => ?_)
              clear hK K
              (try simp only [Act.put, List.setIfInBounds_toArray, List.set_cons_zero, List.set_cons_succ])
              refine wpAnyH_ready (rs := [13]) (by kernel_rfl) (by simp) ?_
              refine AllReadyH.cons rfl (fun K hK => ?_) AllReadyH.nil
              go_simp
              refine hK.out _ _ trivial (fun _ => ?_)
              clear hK K
              (try simp only [Act.put, List.setIfInBounds_toArray, List.set_cons_zero, List.set_cons_succ])
              refine wpAnyH_done (by kernel_rfl) ?_ _
              go_wp2
              go_meet
              exact openJ_mk (by first | exact ew3 | omega) HQ5.out HQ7.out HD.out HQ10.out HG5.out
    · go_simp
      refine hK.out _ _ trivial (fun _ => ?_)
      clear hK K
      (try simp only [Act.put, List.setIfInBounds_toArray, List.set_cons_zero, List.set_cons_succ])
      have HQ5 := Lib.hid (show NewInts w1 y5 (w1.drew).heap.size (tabN D.n D.sz) from ⟨hB5, HG0.out.size⟩)
      have HLT5 := Lib.hid (show (w1.drew).heap.size < y5.heap.size from HQ5.out.1.lt)
      have HG5 := Lib.hid (Grew.trans HG0.out hG5)
      clear hr5 hB5 hG5 hs5 hr7 hB7 hG7 hs7 y7
      obtain ⟨y7, hr7, hB7, hG7, hs7⟩ := make_ints (capN D.n D.sz) (y5) (by omega)
      refine wpAnyH_ready (rs := [2, 7]) (by kernel_rfl) (by simp) ?_
      refine (AllReadyH.cons rfl (fun K hK => ?_) (AllReadyH.cons rfl (fun K hK => ?_) AllReadyH.nil))
      · go_simp
        refine (dsize_any d F D _ (H.out.1.grew (Grew.trans HG1.out HG5.out))).mono ?_
        rintro e u2 ⟨rfl, rfl⟩
        refine hK.out _ _ trivial (fun _ => ?_)
        clear hK K
        (try simp only [Act.put, List.setIfInBounds_toArray, List.set_cons_zero, List.set_cons_succ])
        clear hr7 hB7 hG7 hs7 y7
        refine wpAnyH_take (i := 3) (v := ?_) rfl (by kernel_rfl) (by kernel_rfl) (by kernel_rfl) (fun _ _ _ h => h) (Or.inl ⟨by rfl, ?_⟩) trivial ?_
        rotate_left
        · (intro w hSw; (try dsimp only at hSw); go_simp) <;> with_reducible rfl
        (try simp only [Act.put, List.setIfInBounds_toArray, List.set_cons_zero, List.set_cons_succ])
        obtain ⟨y7, hr7, hB7, hG7, hs7⟩ := make_ints (capN D.n D.sz) (y5) (by omega)
        refine wpAnyH_ready (rs := [7, 9]) (by kernel_rfl) (by simp) ?_
        refine (AllReadyH.cons rfl (fun K hK => ?_) (AllReadyH.cons rfl (fun K hK => ?_) AllReadyH.nil))
        · go_simp
          refine hK.out _ _ trivial (fun _ => ?_)
          clear hK K
          (try simp only [Act.put, List.setIfInBounds_toArray, List.set_cons_zero, List.set_cons_succ])
          have HQ5 := Lib.hid (HQ5.out.grew hG7)
          have HQ7 := Lib.hid (show NewInts w1 y7 (y5).heap.size (capN D.n D.sz) from ⟨hB7, HG5.out.size⟩)
          have HD := Lib.hid (show (w1.drew).heap.size ≠ (y5).heap.size from Nat.ne_of_lt HLT5.out)
          have HG7 := Lib.hid (Grew.trans HG5.out hG7)
          clear hr7 hB7 hG7 hs7
          refine wpAnyH_ready (rs := [9]) (by kernel_rfl) (by simp) ?_
          refine (AllReadyH.cons rfl (fun K hK => ?_) AllReadyH.nil)
          · go_simp
            refine (dsectors_any d F D _ (H.out.1.grew (Grew.trans HG1.out HG7.out))).mono ?_
            rintro e u2 ⟨rfl, rfl⟩
            refine hK.out _ _ trivial (fun _ => ?_)
            clear hK K
            (try simp only [Act.put, List.setIfInBounds_toArray, List.set_cons_zero, List.set_cons_succ])
            refine wpAnyH_ready (rs := [10]) (by kernel_rfl) (by simp) ?_
            refine (AllReadyH.cons rfl (fun K hK => ?_) AllReadyH.nil)
            · go_simp
              refine (pnew_any D.n _ (by omega)).mono ?_
              rintro e y10 ⟨A10, c10, rfl, hp10, hg10, hn10⟩
              refine hK.out _ _ trivial (fun _ => ?_)
              clear hK K
              (try simp only [Act.put, List.setIfInBounds_toArray, List.set_cons_zero, List.set_cons_succ])
              have HQ5 := Lib.hid (HQ5.out.grew hg10)
              have HQ7 := Lib.hid (HQ7.out.grew hg10)
              have HQ10 := Lib.hid (show NewPool w1 y10 (y7).heap.size D.n A10 c10 from ⟨hp10, fun j hj => Nat.le_trans HG7.out.size (hn10 j hj)⟩)
              have HG10 := Lib.hid (Grew.trans HG7.out hg10)
              clear hp10 hg10 hn10
              refine wpAnyH_take (i := 11) (v := ?_) rfl (by kernel_rfl) (by kernel_rfl) (by kernel_rfl) (fun _ _ _ h => h) (Or.inl ⟨by rfl, ?_⟩) trivial ?_
              rotate_left
              · (intro w hSw; (try dsimp only at hSw); go_simp) <;> with_reducible rfl
              (try simp only [Act.put, List.setIfInBounds_toArray, List.set_cons_zero, List.set_cons_succ])
              refine wpAnyH_ready (rs := [12]) (by kernel_rfl) (by simp) ?_
              refine AllReadyH.cons rfl (fun K hK => ?_) AllReadyH.nil
              go_simp
              refine hK.out _ _ trivial (fun _ => ?_)
              clear hK K
              (try simp only [Act.put, List.setIfInBounds_toArray, List.set_cons_zero, List.set_cons_succ])
              refine wpAnyH_ready (rs := [13]) (by kernel_rfl) (by simp) ?_
              refine AllReadyH.cons rfl (fun K hK => ?_) AllReadyH.nil
              go_simp
              refine hK.out _ _ trivial (fun _ => ?_)
              clear hK K
              (try simp only [Act.put, List.setIfInBounds_toArray, List.set_cons_zero, List.set_cons_succ])
              refine wpAnyH_done (by kernel_rfl) ?_ _
              go_wp2
              go_meet
              exact openJ_mk (by first | exact ew3 | omega) HQ5.out HQ7.out HD.out HQ10.out HG10.out
        · go_simp
          refine (dsectors_any d F D _ (H.out.1.grew (Grew.trans HG1.out HG5.out))).mono ?_
          rintro e u2 ⟨rfl, rfl⟩
          refine hK.out _ _ trivial (fun _ => ?_)
          clear hK K
          (try simp only [Act.put, List.setIfInBounds_toArray, List.set_cons_zero, List.set_cons_succ])
          clear hr7 hB7 hG7 hs7 y7
          obtain ⟨y7, hr7, hB7, hG7, hs7⟩ := make_ints (capN D.n D.sz) (y5) (by omega)
          refine wpAnyH_ready (rs := [7, 10]) (by kernel_rfl) (by simp) ?_
          refine (AllReadyH.cons rfl (fun K hK => ?_) (AllReadyH.cons rfl (fun K hK => ?_) AllReadyH.nil))
          · go_simp
            refine hK.out _ _ trivial (fun _ => ?_)
            clear hK K
            (try simp only [Act.put, List.setIfInBounds_toArray, List.set_cons_zero, List.set_cons_succ])
            have HQ5 := Lib.hid (HQ5.out.grew hG7)
            have HQ7 := Lib.hid (show NewInts w1 y7 (y5).heap.size (capN D.n D.sz) from ⟨hB7, HG5.out.size⟩)
            have HD := Lib.hid (show (w1.drew).heap.size ≠ (y5).heap.size from Nat.ne_of_lt HLT5.out)
            have HG7 := Lib.hid (Grew.trans HG5.out hG7)
            clear hr7 hB7 hG7 hs7
            refine wpAnyH_ready (rs := [10]) (by kernel_rfl) (by simp) ?_
            refine (AllReadyH.cons rfl (fun K hK => ?_) AllReadyH.nil)
            · go_simp
              refine (pnew_any D.n _ (by omega)).mono ?_
              rintro e y10 ⟨A10, c10, rfl, hp10, hg10, hn10⟩
              refine hK.out _ _ trivial (fun _ => ?_)
              clear hK K
              (try simp only [Act.put, List.setIfInBounds_toArray, List.set_cons_zero, List.set_cons_succ])
              have HQ5 := Lib.hid (HQ5.out.grew hg10)
              have HQ7 := Lib.hid (HQ7.out.grew hg10)
              have HQ10 := Lib.hid (show NewPool w1 y10 (y7).heap.size D.n A10 c10 from ⟨hp10, fun j hj => Nat.le_trans HG7.out.size (hn10 j hj)⟩)
              have HG10 := Lib.hid (Grew.trans HG7.out hg10)
              clear hp10 hg10 hn10
              refine wpAnyH_take (i := 11) (v := ?_) rfl (by kernel_rfl) (by kernel_rfl) (by kernel_rfl) (fun _ _ _ h => h) (Or.inl ⟨by rfl, ?_⟩) trivial ?_
              rotate_left
              · (intro w hSw; (try dsimp only at hSw); go_simp) <;> with_reducible rfl
              (try simp only [Act.put, List.setIfInBounds_toArray, List.set_cons_zero, List.set_cons_succ])
              refine wpAnyH_ready (rs := [12]) (by kernel_rfl) (by simp) ?_
              refine AllReadyH.cons rfl (fun K hK => ?_) AllReadyH.nil
              go_simp
              refine hK.out _ _ trivial (fun _ => ?_)
              clear hK K
              (try simp only [Act.put, List.setIfInBounds_toArray, List.set_cons_zero, List.set_cons_succ])
              refine wpAnyH_ready (rs := [13]) (by kernel_rfl) (by simp) ?_
              refine AllReadyH.cons rfl (fun K hK => ?_) AllReadyH.nil
              go_simp
              refine hK.out _ _ trivial (fun _ => ?_)
              clear hK K
              (try simp only [Act.put, List.setIfInBounds_toArray, List.set_cons_zero, List.set_cons_succ])
              refine wpAnyH_done (by kernel_rfl) ?_ _
              go_wp2
              go_meet
              exact openJ_mk (by first | exact ew3 | omega) HQ5.out HQ7.out HD.out HQ10.out HG10.out
          · go_simp
            refine (pnew_any D.n _ (by omega)).mono ?_
            rintro e y10 ⟨A10, c10, rfl, hp10, hg10, hn10⟩
            refine hK.out _ _ trivial (fun _ => ?_)
            clear hK K
            (try simp only [Act.put, List.setIfInBounds_toArray, List.set_cons_zero, List.set_cons_succ])
            have HQ5 := Lib.hid (HQ5.out.grew hg10)
            have HLT5 := Lib.hid (Nat.lt_of_lt_of_le HLT5.out hg10.size)
            have HQ10 := Lib.hid (show NewPool w1 y10 (y5).heap.size D.n A10 c10 from ⟨hp10, fun j hj => Nat.le_trans HG5.out.size (hn10 j hj)⟩)
            have HG10 := Lib.hid (Grew.trans HG5.out hg10)
            clear hp10 hg10 hn10
            clear hr7 hB7 hG7 hs7 y7
            obtain ⟨y7, hr7, hB7, hG7, hs7⟩ := make_ints (capN D.n D.sz) (y10) (by omega)
            refine wpAnyH_ready (rs := [7]) (by kernel_rfl) (by simp) ?_
            refine (AllReadyH.cons rfl (fun K hK => ?_) AllReadyH.nil)
            · go_simp
              refine hK.out _ _ trivial (fun _ => ?_)
              clear hK K
              (try simp only [Act.put, List.setIfInBounds_toArray, List.set_cons_zero, List.set_cons_succ])
              have HQ5 := Lib.hid (HQ5.out.grew hG7)
              have HQ10 := Lib.hid (HQ10.out.grew hG7)
              have HQ7 := Lib.hid (show NewInts w1 y7 (y10).heap.size (capN D.n D.sz) from ⟨hB7, HG10.out.size⟩)
              have HD := Lib.hid (show (w1.drew).heap.size ≠ (y10).heap.size from Nat.ne_of_lt HLT5.out)
              have HG7 := Lib.hid (Grew.trans HG10.out hG7)
              clear hr7 hB7 hG7 hs7
              refine wpAnyH_take (i := 11) (v := ?_) rfl (by kernel_rfl) (by kernel_rfl) (by kernel_rfl) (fun _ _ _ h => h) (Or.inl ⟨by rfl, ?_⟩) trivial ?_
              rotate_left
              · (intro w hSw; (try dsimp only at hSw); go_simp) <;> with_reducible rfl
              (try simp only [Act.put, List.setIfInBounds_toArray, List.set_cons_zero, List.set_cons_succ])
              refine wpAnyH_ready (rs := [12]) (by kernel_rfl) (by simp) ?_
              refine AllReadyH.cons rfl (fun K hK => ?_) AllReadyH.nil
              go_simp
              refine hK.out _ _ trivial (fun _ => ?_)
              clear hK K
              (try simp only [Act.put, List.setIfInBounds_toArray, List.set_cons_zero, List.set_cons_succ])
              refine wpAnyH_ready (rs := [13]) (by kernel_rfl) (by simp) ?_
              refine AllReadyH.cons rfl (fun K hK => ?_) AllReadyH.nil
              go_simp
              refine hK.out _ _ trivial (fun _ => ?_)
              clear hK K
              (try simp only [Act.put, List.setIfInBounds_toArray, List.set_cons_zero, List.set_cons_succ])
              refine wpAnyH_done (by kernel_rfl) ?_ _
              go_wp2
              go_meet
              exact openJ_mk (by first | exact ew3 | omega) HQ5.out HQ7.out HD.out HQ10.out HG7.out
      · go_simp
        refine hK.out _ _ trivial (fun _ => ?_)
        clear hK K
        (try simp only [Act.put, List.setIfInBounds_toArray, List.set_cons_zero, List.set_cons_succ])
        have HQ5 := Lib.hid (HQ5.out.grew hG7)
        have HQ7 := Lib.hid (show NewInts w1 y7 (y5).heap.size (capN D.n D.sz) from ⟨hB7, HG5.out.size⟩)
        have HD := Lib.hid (show (w1.drew).heap.size ≠ (y5).heap.size from Nat.ne_of_lt HLT5.out)
        have HG7 := Lib.hid (Grew.trans HG5.out hG7)
        clear hr7 hB7 hG7 hs7
        refine wpAnyH_ready (rs := [2]) (by kernel_rfl) (by simp) ?_
        refine (AllReadyH.cons rfl (fun K hK => ?_) AllReadyH.nil)
        · go_simp
          refine (dsize_any d F D _ (H.out.1.grew (Grew.trans HG1.out HG7.out))).mono ?_
          rintro e u2 ⟨rfl, rfl⟩
          refine hK.out _ _ trivial (fun _ => ?_)
          clear hK K
          (try simp only [Act.put, List.setIfInBounds_toArray, List.set_cons_zero, List.set_cons_succ])
          refine wpAnyH_take (i := 3) (v := ?_) rfl (by kernel_rfl) (by kernel_rfl) (by kernel_rfl) (fun _ _ _ h => h) (Or.inl ⟨by rfl, ?_⟩) trivial ?_
          rotate_left
          · (intro w hSw; (try dsimp only at hSw); go_simp) <;> with_reducible rfl
          (try simp only [Act.put, List.setIfInBounds_toArray, List.set_cons_zero, List.set_cons_succ])
          refine wpAnyH_ready (rs := [9]) (by kernel_rfl) (by simp) ?_
          refine (AllReadyH.cons rfl (fun K hK => ?_) AllReadyH.nil)
          · go_simp
            refine (dsectors_any d F D _ (H.out.1.grew (Grew.trans HG1.out HG7.out))).mono ?_
            rintro e u2 ⟨rfl, rfl⟩
            refine hK.out _ _ trivial (fun _ => ?_)
            clear hK K
            (try simp only [Act.put, List.setIfInBounds_toArray, List.set_cons_zero, List.set_cons_succ])
            refine wpAnyH_ready (rs := [10]) (by kernel_rfl) (by simp) ?_
            refine (AllReadyH.cons rfl (fun K hK => ?_) AllReadyH.nil)
            · go_simp
              refine (pnew_any D.n _ (by omega)).mono ?_
              rintro e y10 ⟨A10, c10, rfl, hp10, hg10, hn10⟩
              refine hK.out _ _ trivial (fun _ => ?_)
              clear hK K
              (try simp only [Act.put, List.setIfInBounds_toArray, List.set_cons_zero, List.set_cons_succ])
              have HQ5 := Lib.hid (HQ5.out.grew hg10)
              have HQ7 := Lib.hid (HQ7.out.grew hg10)
              have HQ10 := Lib.hid (show NewPool w1 y10 (y7).heap.size D.n A10 c10 from ⟨hp10, fun j hj => Nat.le_trans HG7.out.size (hn10 j hj)⟩)
              have HG10 := Lib.hid (Grew.trans HG7.out hg10)
              clear hp10 hg10 hn10
              refine wpAnyH_take (i := 11) (v := ?_) rfl (by kernel_rfl) (by kernel_rfl) (by kernel_rfl) (fun _ _ _ h => h) (Or.inl ⟨by rfl, ?_⟩) trivial ?_
              rotate_left
              · (intro w hSw; (try dsimp only at hSw); go_simp) <;> with_reducible rfl
              (try simp only [Act.put, List.setIfInBounds_toArray, List.set_cons_zero, List.set_cons_succ])
              refine wpAnyH_ready (rs := [12]) (by kernel_rfl) (by simp) ?_
              refine AllReadyH.cons rfl (fun K hK => ?_) AllReadyH.nil
              go_simp
              refine hK.out _ _ trivial (fun _ => ?_)
              clear hK K
              (try simp only [Act.put, List.setIfInBounds_toArray, List.set_cons_zero, List.set_cons_succ])
              refine wpAnyH_ready (rs := [13]) (by kernel_rfl) (by simp) ?_
              refine AllReadyH.cons rfl (fun K hK => ?_) AllReadyH.nil
              go_simp
              refine hK.out _ _ trivial (fun _ => ?_)
              clear hK K
              (try simp only [Act.put, List.setIfInBounds_toArray, List.set_cons_zero, List.set_cons_succ])
              refine wpAnyH_done (by kernel_rfl) ?_ _
              go_wp2
              go_meet
              exact openJ_mk (by first | exact ew3 | omega) HQ5.out HQ7.out HD.out HQ10.out HG10.out
    · go_simp
      refine hK.out _ _ trivial (fun _ => ?_)
      clear hK K
      (try simp only [Act.put, List.setIfInBounds_toArray, List.set_cons_zero, List.set_cons_succ])
      have HQ7 := Lib.hid (show NewInts w1 y7 (w1.drew).heap.size (capN D.n D.sz) from ⟨hB7, HG0.out.size⟩)
      have HLT7 := Lib.hid (show (w1.drew).heap.size < y7.heap.size from HQ7.out.1.lt)
      have HG7 := Lib.hid (Grew.trans HG0.out hG7)
      clear hr7 hB7 hG7 hs7 hr5 hB5 hG5 hs5 y5
      obtain ⟨y5, hr5, hB5, hG5, hs5⟩ := make_ints (tabN D.n D.sz) (y7) (by omega)
      refine wpAnyH_ready (rs := [2, 5]) (by kernel_rfl) (by simp) ?_
      refine (AllReadyH.cons rfl (fun K hK => ?_) (AllReadyH.cons rfl (fun K hK => ?_) AllReadyH.nil))
      · go_simp
        refine (dsize_any d F D _ (H.out.1.grew (Grew.trans HG1.out HG7.out))).mono ?_
        rintro e u2 ⟨rfl, rfl⟩
        refine hK.out _ _ trivial (fun _ => ?_)
        clear hK K
        (try simp only [Act.put, List.setIfInBounds_toArray, List.set_cons_zero, List.set_cons_succ])
        clear hr5 hB5 hG5 hs5 y5
        refine wpAnyH_take (i := 3) (v := ?_) rfl (by kernel_rfl) (by kernel_rfl) (by kernel_rfl) (fun _ _ _ h => h) (Or.inl ⟨by rfl, ?_⟩) trivial ?_
        rotate_left
        · (intro w hSw; (try dsimp only at hSw); go_simp) <;> with_reducible rfl
        (try simp only [Act.put, List.setIfInBounds_toArray, List.set_cons_zero, List.set_cons_succ])
        obtain ⟨y5, hr5, hB5, hG5, hs5⟩ := make_ints (tabN D.n D.sz) (y7) (by omega)
        refine wpAnyH_ready (rs := [5, 9]) (by kernel_rfl) (by simp) ?_
        refine (AllReadyH.cons rfl (fun K hK => ?_) (AllReadyH.cons rfl (fun K hK => ?_) AllReadyH.nil))
        · go_simp
          refine hK.out _ _ trivial (fun _ => ?_)
          clear hK K
          (try simp only [Act.put, List.setIfInBounds_toArray, List.set_cons_zero, List.set_cons_succ])
          have HQ7 := Lib.hid (HQ7.out.grew hG5)
          have HQ5 := Lib.hid (show NewInts w1 y5 (y7).heap.size (tabN D.n D.sz) from ⟨hB5, HG7.out.size⟩)
          have HD := Lib.hid (show (y7).heap.size ≠ (w1.drew).heap.size from Ne.symm (Nat.ne_of_lt HLT7.out))
          have HG5 := Lib.hid (Grew.trans HG7.out hG5)
          clear hr5 hB5 hG5 hs5
          refine wpAnyH_ready (rs := [9]) (by kernel_rfl) (by simp) ?_
          refine (AllReadyH.cons rfl (fun K hK => ?_) AllReadyH.nil)
          · go_simp
            refine (dsectors_any d F D _ (H.out.1.grew (Grew.trans HG1.out HG5.out))).mono ?_
            rintro e u2 ⟨rfl, rfl⟩
            refine hK.out _ _ trivial (fun _ => ?_)
            clear hK K
            (try simp only [Act.put, List.setIfInBounds_toArray, List.set_cons_zero, List.set_cons_succ])
            refine wpAnyH_ready (rs := [10]) (by kernel_rfl) (by simp) ?_
            refine (AllReadyH.cons rfl (fun K hK => ?_) AllReadyH.nil)
            · go_simp
              refine (pnew_any D.n _ (by omega)).mono ?_
              rintro e y10 ⟨A10, c10, rfl, hp10, hg10, hn10⟩
              refine hK.out _ _ trivial (fun _ => ?_)
              clear hK K
              (try simp only [Act.put, List.setIfInBounds_toArray, List.set_cons_zero, List.set_cons_succ])
              have HQ7 := Lib.hid (HQ7.out.grew hg10)
              have HQ5 := Lib.hid (HQ5.out.grew hg10)
              have HQ10 := Lib.hid (show NewPool w1 y10 (y5).heap.size D.n A10 c10 from ⟨hp10, fun j hj => Nat.le_trans HG5.out.size (hn10 j hj)⟩)
              have HG10 := Lib.hid (Grew.trans HG5.out hg10)
              clear hp10 hg10 hn10
              refine wpAnyH_take (i := 11) (v := ?_) rfl (by kernel_rfl) (by kernel_rfl) (by kernel_rfl) (fun _ _ _ h => h) (Or.inl ⟨by rfl, ?_⟩) trivial ?_
              rotate_left
              · (intro w hSw; (try dsimp only at hSw); go_simp) <;> with_reducible rfl
              (try simp only [Act.put, List.setIfInBounds_toArray, List.set_cons_zero, List.set_cons_succ])
              refine wpAnyH_ready (rs := [12]) (by kernel_rfl) (by simp) ?_
              refine AllReadyH.cons rfl (fun K hK => ?_) AllReadyH.nil
              go_simp
              refine hK.out _ _ trivial (fun _ => ?_)
              clear hK K
              (try simp only [Act.put, List.setIfInBounds_toArray, List.set_cons_zero, List.set_cons_succ])
              refine wpAnyH_ready (rs := [13]) (by kernel_rfl) (by simp) ?_
              refine AllReadyH.cons rfl (fun K hK => ?_) AllReadyH.nil
              go_simp
              refine hK.out _ _ trivial (fun _ => ?_)
              clear hK K
              (try simp only [Act.put, List.setIfInBounds_toArray, List.set_cons_zero, List.set_cons_succ])
              refine wpAnyH_done (by kernel_rfl) ?_ _
              go_wp2
              go_meet
              exact openJ_mk (by first | exact ew3 | omega) HQ5.out HQ7.out HD.out HQ10.out HG10.out
        · go_simp
          refine (dsectors_any d F D _ (H.out.1.grew (Grew.trans HG1.out HG7.out))).mono ?_
          rintro e u2 ⟨rfl, rfl⟩
          refine hK.out _ _ trivial (fun _ => ?_)
          clear hK K
          (try simp only [Act.put, List.setIfInBounds_toArray, List.set_cons_zero, List.set_cons_succ])
          clear hr5 hB5 hG5 hs5 y5
          obtain ⟨y5, hr5, hB5, hG5, hs5⟩ := make_ints (tabN D.n D.sz) (y7) (by omega)
          refine wpAnyH_ready (rs := [5, 10]) (by kernel_rfl) (by simp) ?_
          refine (AllReadyH.cons rfl (fun K hK => ?_) (AllReadyH.cons rfl (fun K hK => ?_) AllReadyH.nil))
          · go_simp
            refine hK.out _ _ trivial (fun _ => ?_)
            clear hK K
            (try simp only [Act.put, List.setIfInBounds_toArray, List.set_cons_zero, List.set_cons_succ])
            have HQ7 := Lib.hid (HQ7.out.grew hG5)
            have HQ5 := Lib.hid (show NewInts w1 y5 (y7).heap.size (tabN D.n D.sz) from ⟨hB5, HG7.out.size⟩)
            have HD := Lib.hid (show (y7).heap.size ≠ (w1.drew).heap.size from Ne.symm (Nat.ne_of_lt HLT7.out))
            have HG5 := Lib.hid (Grew.trans HG7.out hG5)
            clear hr5 hB5 hG5 hs5
            refine wpAnyH_ready (rs := [10]) (by kernel_rfl) (by simp) ?_
            refine (AllReadyH.cons rfl (fun K hK => ?_) AllReadyH.nil)
            · go_simp
              refine (pnew_any D.n _ (by omega)).mono ?_
              rintro e y10 ⟨A10, c10, rfl, hp10, hg10, hn10⟩
              refine hK.out _ _ trivial (fun _ => ?_)
              clear hK K
              (try simp only [Act.put, List.setIfInBounds_toArray, List.set_cons_zero, List.set_cons_succ])
              have HQ7 := Lib.hid (HQ7.out.grew hg10)
              have HQ5 := Lib.hid (HQ5.out.grew hg10)
              have HQ10 := Lib.hid (show NewPool w1 y10 (y5).heap.size D.n A10 c10 from ⟨hp10, fun j hj => Nat.le_trans HG5.out.size (hn10 j hj)⟩)
              have HG10 := Lib.hid (Grew.trans HG5.out hg10)
              clear hp10 hg10 hn10
              refine wpAnyH_take (i := 11) (v := ?_) rfl (by kernel_rfl) (by kernel_rfl) (by kernel_rfl) (fun _ _ _ h => h) (Or.inl ⟨by rfl, ?_⟩) trivial ?_
              rotate_left
              · (intro w hSw; (try dsimp only at hSw); go_simp) <;> with_reducible rfl
              (try simp only [Act.put, List.setIfInBounds_toArray, List.set_cons_zero, List.set_cons_succ])
              refine wpAnyH_ready (rs := [12]) (by kernel_rfl) (by simp) ?_
              refine AllReadyH.cons rfl (fun K hK => ?_) AllReadyH.nil
              go_simp
              refine hK.out _ _ trivial (fun _ => ?_)
              clear hK K
              (try simp only [Act.put, List.setIfInBounds_toArray, List.set_cons_zero, List.set_cons_succ])
              refine wpAnyH_ready (rs := [13]) (by kernel_rfl) (by simp) ?_
              refine AllReadyH.cons rfl (fun K hK => ?_) AllReadyH.nil
              go_simp
              refine hK.out _ _ trivial (fun _ => ?_)
              clear hK K
              (try simp only [Act.put, List.setIfInBounds_toArray, List.set_cons_zero, List.set_cons_succ])
              refine wpAnyH_done (by kernel_rfl) ?_ _
              go_wp2
              go_meet
              exact openJ_mk (by first | exact ew3 | omega) HQ5.out HQ7.out HD.out HQ10.out HG10.out
          · go_simp
            refine (pnew_any D.n _ (by omega)).mono ?_
            rintro e y10 ⟨A10, c10, rfl, hp10, hg10, hn10⟩
            refine hK.out _ _ trivial (fun _ => ?_)
            clear hK K
            (try simp only [Act.put, List.setIfInBounds_toArray, List.set_cons_zero, List.set_cons_succ])
            have HQ7 := Lib.hid (HQ7.out.grew hg10)
            have HLT7 := Lib.hid (Nat.lt_of_lt_of_le HLT7.out hg10.size)
            have HQ10 := Lib.hid (show NewPool w1 y10 (y7).heap.size D.n A10 c10 from ⟨hp10, fun j hj => Nat.le_trans HG7.out.size (hn10 j hj)⟩)
            have HG10 := Lib.hid (Grew.trans HG7.out hg10)
            clear hp10 hg10 hn10
            clear hr5 hB5 hG5 hs5 y5
            obtain ⟨y5, hr5, hB5, hG5, hs5⟩ := make_ints (tabN D.n D.sz) (y10) (by omega)
            refine wpAnyH_ready (rs := [5]) (by kernel_rfl) (by simp) ?_
            refine (AllReadyH.cons rfl (fun K hK => ?_) AllReadyH.nil)
            · go_simp
              refine hK.out _ _ trivial (fun _ => ?_)
              clear hK K
              (try simp only [Act.put, List.setIfInBounds_toArray, List.set_cons_zero, List.set_cons_succ])
              have HQ7 := Lib.hid (HQ7.out.grew hG5)
              have HQ10 := Lib.hid (HQ10.out.grew hG5)
              have HQ5 := Lib.hid (show NewInts w1 y5 (y10).heap.size (tabN D.n D.sz) from ⟨hB5, HG10.out.size⟩)
              have HD := Lib.hid (show (y10).heap.size ≠ (w1.drew).heap.size from Ne.symm (Nat.ne_of_lt HLT7.out))
              have HG5 := Lib.hid (Grew.trans HG10.out hG5)
              clear hr5 hB5 hG5 hs5
              refine wpAnyH_take (i := 11) (v := ?_) rfl (by kernel_rfl) (by kernel_rfl) (by kernel_rfl) (fun _ _ _ h => h) (Or.inl ⟨by rfl, ?_⟩) trivial ?_
              rotate_left
              · (intro w hSw; (try dsimp only at hSw); go_simp) <;> with_reducible rfl
              (try simp only [Act.put, List.setIfInBounds_toArray, List.set_cons_zero, List.set_cons_succ])
              refine wpAnyH_ready (rs := [12]) (by kernel_rfl) (by simp) ?_
              refine AllReadyH.cons rfl (fun K hK => ?_) AllReadyH.nil
              go_simp
              refine hK.out _ _ trivial (fun _ => ?_)
              clear hK K
              (try simp only [Act.put, List.setIfInBounds_toArray, List.set_cons_zero, List.set_cons_succ])
              refine wpAnyH_ready (rs := [13]) (by kernel_rfl) (by simp) ?_
              refine AllReadyH.cons rfl (fun K hK => ?_) AllReadyH.nil
              go_simp
              refine hK.out _ _ trivial (fun _ => ?_)
              clear hK K
              (try simp only [Act.put, List.setIfInBounds_toArray, List.set_cons_zero, List.set_cons_succ])
              refine wpAnyH_done (by kernel_rfl) ?_ _
              go_wp2
              go_meet
              exact openJ_mk (by first | exact ew3 | omega) HQ5.out HQ7.out HD.out HQ10.out HG5.out
      · go_simp
        refine hK.out _ _ trivial (fun _ => ?_)
        clear hK K
        (try simp only [Act.put, List.setIfInBounds_toArray, List.set_cons_zero, List.set_cons_succ])
        have HQ7 := Lib.hid (HQ7.out.grew hG5)
        have HQ5 := Lib.hid (show NewInts w1 y5 (y7).heap.size (tabN D.n D.sz) from ⟨hB5, HG7.out.size⟩)
        have HD := Lib.hid (show (y7).heap.size ≠ (w1.drew).heap.size from Ne.symm (Nat.ne_of_lt HLT7.out))
        have HG5 := Lib.hid (Grew.trans HG7.out hG5)
        clear hr5 hB5 hG5 hs5
        refine wpAnyH_ready (rs := [2]) (by kernel_rfl) (by simp) ?_
        refine (AllReadyH.cons rfl (fun K hK => ?_) AllReadyH.nil)
        · go_simp
          refine (dsize_any d F D _ (H.out.1.grew (Grew.trans HG1.out HG5.out))).mono ?_
          rintro e u2 ⟨rfl, rfl⟩
          refine hK.out _ _ trivial (fun _ => ?_)
          clear hK K
          (try simp only [Act.put, List.setIfInBounds_toArray, List.set_cons_zero, List.set_cons_succ])
          refine wpAnyH_take (i := 3) (v := ?_) rfl (by kernel_rfl) (by kernel_rfl) (by kernel_rfl) (fun _ _ _ h => h) (Or.inl ⟨by rfl, ?_⟩) trivial ?_
          rotate_left
          · (intro w hSw; (try dsimp only at hSw); go_simp) <;> with_reducible rfl
          (try simp only [Act.put, List.setIfInBounds_toArray, List.set_cons_zero, List.set_cons_succ])
          refine wpAnyH_ready (rs := [9]) (by kernel_rfl) (by simp) ?_
          refine (AllReadyH.cons rfl (fun K hK => ?_) AllReadyH.nil)
          · go_simp
            refine (dsectors_any d F D _ (H.out.1.grew (Grew.trans HG1.out HG5.out))).mono ?_
            rintro e u2 ⟨rfl, rfl⟩
            refine hK.out _ _ trivial (fun _ => ?_)
            clear hK K
            (try simp only [Act.put, List.setIfInBounds_toArray, List.set_cons_zero, List.set_cons_succ])
            refine wpAnyH_ready (rs := [10]) (by kernel_rfl) (by simp) ?_
            refine (AllReadyH.cons rfl (fun K hK => ?_) AllReadyH.nil)
            · go_simp
              refine (pnew_any D.n _ (by omega)).mono ?_
              rintro e y10 ⟨A10, c10, rfl, hp10, hg10, hn10⟩
              refine hK.out _ _ trivial (fun _ => ?_)
              clear hK K
              (try simp only [Act.put, List.setIfInBounds_toArray, List.set_cons_zero, List.set_cons_succ])
              have HQ7 := Lib.hid (HQ7.out.grew hg10)
              have HQ5 := Lib.hid (HQ5.out.grew hg10)
              have HQ10 := Lib.hid (show NewPool w1 y10 (y5).heap.size D.n A10 c10 from ⟨hp10, fun j hj => Nat.le_trans HG5.out.size (hn10 j hj)⟩)
              have HG10 := Lib.hid (Grew.trans HG5.out hg10)
              clear hp10 hg10 hn10
              refine wpAnyH_take (i := 11) (v := ?_) rfl (by kernel_rfl) (by kernel_rfl) (by kernel_rfl) (fun _ _ _ h => h) (Or.inl ⟨by rfl, ?_⟩) trivial ?_
              rotate_left
              · (intro w hSw; (try dsimp only at hSw); go_simp) <;> with_reducible rfl
              (try simp only [Act.put, List.setIfInBounds_toArray, List.set_cons_zero, List.set_cons_succ])
              refine wpAnyH_ready (rs := [12]) (by kernel_rfl) (by simp) ?_
              refine AllReadyH.cons rfl (fun K hK => ?_) AllReadyH.nil
              go_simp
              refine hK.out _ _ trivial (fun _ => ?_)
              clear hK K
              (try simp only [Act.put, List.setIfInBounds_toArray, List.set_cons_zero, List.set_cons_succ])
              refine wpAnyH_ready (rs := [13]) (by kernel_rfl) (by simp) ?_
              refine AllReadyH.cons rfl (fun K hK => ?_) AllReadyH.nil
              go_simp
              refine hK.out _ _ trivial (fun _ => ?_)
              clear hK K
              (try simp only [Act.put, List.setIfInBounds_toArray, List.set_cons_zero, List.set_cons_succ])
              refine wpAnyH_done (by kernel_rfl) ?_ _
              go_wp2
              go_meet
              exact openJ_mk (by first | exact ew3 | omega) HQ5.out HQ7.out HD.out HQ10.out HG10.out
  case rest =>
    obtain ⟨p, g1, g2, b, A, c, rfl, hO⟩ := hcut
    have HO := Lib.hid hO
    obtain ⟨c0, f0, s0⟩ := hO.blk.facts
    clear hO
    have hdF : ∀ u, Chg (PF b A) wc u → DS u d F D := fun u hu => ((H.out.1.grew HG1.out).grew HO.out.grew).chg hu fun j hj e => by
      have h1 := H.out.1.lt j hj
      have h2 := HO.out.pool.new j e
      have h3 := HG1.out.size
      omega
    have hkeep : ∀ u, Chg (PF b A) wc u → Blk u p 45 #[.pointer (some ⟨d, 0, none⟩), .int .i64 0, .int .i64 (D.sz / 2 : Nat), .slice (some ⟨g1, 0, none⟩) (tabN D.n D.sz) (tabN D.n D.sz), .slice (some ⟨g2, 0, none⟩) (capN D.n D.sz) (capN D.n D.sz), .pointer (some ⟨b, 0, none⟩), .pointer none, .bool false] := fun u hu =>
      HO.out.blk.chg hu (pf_ne HO.out.pool.p HO.out.blk (by decide) (by decide))
    have HD := Lib.hid hdF
    have HK := Lib.hid hkeep
    have HX := Lib.hid (show D.n ≤ 65536 by omega)
    clear hdF hkeep
    go_wp2
    go_loopw [41] (fun i wr => ∃ k : Nat, k ≤ 2 ∧ i = .int .i64 k ∧ PIn wr b (mkd D.n k) A c ∧ Chg (PF b A) wc wr) (fun i _ => 2 - (intOf i).toNat)
    case atStart => exact ⟨0, Nat.zero_le _, rfl, HO.out.pool.p, Chg.refl _ _⟩
    case round =>
      obtain ⟨k, hk, rfl, hp, hc⟩ := hrel
      have HP := Lib.hid (And.intro hp hc)
      obtain ⟨c1, f1, s1⟩ := (HK.out wr hc).facts
      clear c0 f0 s0 hp hc
      by_cases hlt : k < 2
      · go_wp2_with (go_at_call 35; (refine (pmark_any b k _ A c _ HP.out.1 (by rw [mkd_len]; exact HX.out)).mono ?_); rintro e w3 ⟨rfl, h3, h4⟩; have H3 := Lib.hid (And.intro h3 h4); clear h3 h4)
        have H4 := Lib.hid (show PIn w3 b (mkd D.n (k + 1)) A c from by have := H3.out.1; rw [mkd_mark D.n k (by omega)] at this; exact this)
        exact ⟨⟨k + 1, by omega, by simp, H4.out, Chg.trans HP.out.2 H3.out.2 fun _ _ e => e⟩, by simp [intOf]; omega⟩
      · obtain rfl : k = 2 := by omega
        go_wp2_with (go_at_call 36; (refine (load_none d F D _ (HD.out _ HP.out.2) hd (by omega) (by omega) H.out.2.2.1 H.out.2.2.2).mono ?_); rintro e w4 ⟨rfl, h4⟩; have H4 := Lib.hid h4; clear h4)
        go_ret2
        have hg : Grew w1 w4 := Grew.trans (Chg.trans HO.out.grew HP.out.2 fun i hi e => by have := HO.out.pool.new i e; omega) H4.out
        have hsz := HG1.out.size
        obtain ⟨F', hF, hnew⟩ := gfresh_mk (w0 := w1) ((H.out.1.grew HG1.out).grew hg) (fun j hj => Nat.lt_of_lt_of_le (H.out.1.lt j hj) hsz) h0 (Nat.lt_of_lt_of_le (tab_pos H.out.2.1) hsz) (tab_chg (tab_chg H.out.2.1 HG1.out id) hg id) hsm.2.1
          ((HK.out _ HP.out.2).grew H4.out) ((HO.out.t1.blk.chg HP.out.2 (pf_ne HO.out.pool.p HO.out.t1.blk (by decide) (by decide))).grew H4.out) ((HO.out.t2.blk.chg HP.out.2 (pf_ne HO.out.pool.p HO.out.t2.blk (by decide) (by decide))).grew H4.out) HO.out.ne (HP.out.1.grew H4.out)
          HO.out.new HO.out.t1.new HO.out.t2.new HO.out.pool.new
        exact ⟨p, F', rfl, hF.grew ((Chg.refl _ _).alloc _), (Grew.trans HG1.out hg).alloc _, fun j hj => (hnew j hj).imp id fun e => Nat.le_trans hsz e⟩

end Go.Proofs.YtjlfnebkibgfmaaGreatDoor

/- The pager: a new one on a new disk, as its pages are. -/
namespace Go.Proofs.YtjlfnebkibgfmaaGreatDoor
open Go.RowKit Go.Maps

/-- A pager without pages. -/
def Rp.fresh (n sz : Nat) : Rp := { n := n, sz := sz, now := List.replicate (capN n sz) .no, was := none, touched := fun _ => false, epoch := 0 }
theorem rootL_zeros {ep m : Nat} {pg : List Nat} {sz : Nat} (h1 : 1 ≤ ep) (h2 : ep ≤ 1099511627776) (he : List.replicate m 0 = rootL ep pg sz) : False := by
  have hz : ∀ x ∈ tail8 ep, x = 0 := fun x hx => by
    have : x ∈ rootL ep pg sz := List.mem_append_right _ hx
    rw [← he] at this
    exact (List.mem_replicate.1 this).2
  have e0 := hz ((ep / 1099511627776 % 256 : Nat) : Int) (by simp [tail8])
  have e1 := hz ((ep / 4294967296 % 256 : Nat) : Int) (by simp [tail8])
  have e2 := hz ((ep / 16777216 % 256 : Nat) : Int) (by simp [tail8])
  have e3 := hz ((ep / 65536 % 256 : Nat) : Int) (by simp [tail8])
  have e4 := hz ((ep / 256 % 256 : Nat) : Int) (by simp [tail8])
  have e5 := hz ((ep % 256 : Nat) : Int) (by simp [tail8])
  omega
theorem rep_at {n i s : Nat} (h : (List.replicate n 0)[i]? = some s) : s = 0 := by
  rw [List.getElem?_replicate] at h
  split at h <;> simp at h
  exact h.symm
theorem rep_getD (n i : Nat) : (List.replicate n 0).getD i 0 = 0 := by
  rw [List.getD_eq_getElem?_getD]
  cases h : (List.replicate n 0)[i]? with
  | none => rfl
  | some s => rw [rep_at h]; rfl
theorem Gp.fresh_ok (n sz : Nat) (D : Dk) (hD : D = ⟨n, sz, fun _ => List.replicate sz 0, fun _ => none, false, 0, false, 0⟩) (h : 8 ≤ n ∧ n ≤ 4096 ∧ 64 ≤ sz ∧ sz ≤ 4096) : (Gp.fresh D).Ok ∧ (Gp.fresh D).view = Rp.fresh n sz := by
  subst hD
  have hm : ∀ s, s < n → (mkd n 2).getD s false = decide (2 ≤ s) := fun s hs => by rw [mkd_at n 2 s (by omega)]; simp [hs]
  have hcap : capN n sz ≤ 4096 := by unfold capN; split <;> omega
  refine ⟨⟨⟨h, ⟨mkd_len n 2, by simp [Gp.fresh], by simp [Gp.fresh], by simp [Gp.fresh, Gp.old]⟩, fun i s hi => ?_, fun k s hk h0 => absurd (rep_at hk) h0, fun i j s hi _ h2 => ?_, fun i j s hi _ h0 => absurd (rep_at hi) h0, fun k i s hk _ => ?_, fun s hs => ?_, fun s hs => ?_, fun i s hi h2 => ?_, fun i j s hi _ h2 => ?_, ⟨List.nodup_nil, fun s => ?_⟩, fun i hi => absurd rfl hi, fun k hk => ?_, ?_, fun s _ _ => rfl, ⟨fun e => ?_, fun i e' pg' _ hg _ hr => ?_, fun _ s hs => (List.mem_replicate.1 hs).2, fun k _ i _ => rep_getD _ _, fun k s hk h0 => absurd (rep_at hk) h0, fun k s hk h0 => absurd (rep_at hk) h0⟩, fun s _ x hx => ?_, Nat.zero_le _⟩, rfl, ⟨rfl, rfl, rfl⟩⟩, ?_⟩
  · have := rep_at hi; show s < n; omega
  · have := rep_at hi; omega
  · have := rep_at hk; omega
  · show (mkd n 2).getD s false = false ↔ _
    rw [hm s hs]
    constructor
    · intro e; left; simpa using e
    · rintro (e | ⟨k, e⟩ | ⟨k, e⟩ | e)
      · simpa using e
      · have := rep_at e; simp; omega
      · have := rep_at e; simp; omega
      · simp [Gp.fresh, Gp.fr] at e
  · simp [Gp.fresh, Gp.fr] at hs
  · have := rep_at hi; omega
  · have := rep_at hi; omega
  · simp only [Gp.fresh, Gp.lf, List.not_mem_nil, false_iff, not_and, not_exists]
    rintro h2 i hi
    have := rep_at hi
    omega
  · simp [Gp.fresh, Gp.tc] at hk
  · rw [show (Gp.fresh _).tc = fun _ => false from rfl, show cntN (fun _ => false) 64 = 0 from cntN_false fun _ _ => rfl]
    exact Nat.zero_le _
  · simp [Gp.fresh] at e
  · exact (rootL_zeros hg.1 hg.2.1 (show List.replicate sz 0 = _ from hr)).elim
  · have : x = 0 := (List.mem_replicate.1 (show x ∈ List.replicate sz 0 from hx)).2
    omega
  · simp [Gp.view, Rp.fresh, Gp.fresh, Gp.fr, Gp.tc, pk]

theorem gp_open_new (n sz d : Nat) (F : Nat → Prop) (w : World) (h : DS w d F ⟨n, sz, fun _ => List.replicate sz 0, fun _ => none, false, 0, false, 0⟩) (hT : TabAt 0 tab w) (h0 : ¬ F 0) (hn : 8 ≤ n) (hz : 64 ≤ sz) :
    Calls Tryz.prog 15 #[.pointer (some ⟨d, 0, none⟩)] w fun e w' => ∃ p F', e = .returned (.tuple #[.pointer (some ⟨p, 0, none⟩), .int .i64 0]) ∧ GP w' p F' (Rp.fresh n sz) ∧ Grew w w' ∧ ∀ j, F' j → F j ∨ w.heap.size ≤ j := by
  have hs := h.sml
  have hsz : 64 ≤ sz ∧ sz ≤ 4096 := ⟨hz, hs.2.2.2⟩
  have hnn : n ≤ 4096 := hs.2.1
  have hfo := Gp.fresh_ok n sz _ rfl ⟨hn, hnn, hsz⟩
  refine (gopen_new d F _ w h rfl hT h0 hn hz (fun i _ => ?_) (fun i _ x hx => ?_)).mono ?_
  · show partL (List.take (sz - 8) (List.replicate sz 0)) = none
    rw [List.take_replicate, Nat.min_eq_left (by omega)]
    exact part_zeros _ (by omega) (by omega)
  · have : x = 0 := (List.mem_replicate.1 (show x ∈ List.replicate sz 0 from hx)).2
    omega
  · rintro e w' ⟨p, F', rfl, h1, h2, h3⟩
    exact ⟨p, F', rfl, ⟨_, h1, hfo.1, hfo.2⟩, h2, h3⟩

end Go.Proofs.YtjlfnebkibgfmaaGreatDoor

/- The chain's laws: a new pager in an open change; awake. -/
namespace Go.Proofs.YtjlfnebkibgfmaaGreatDoor
open Go.RowKit Go.Maps

/-- The pages of a new pager in an open change. -/
def Rp.open0 (n : Nat) : Rp := (Rp.fresh n 64).begun
set_option maxRecDepth 100000 in
set_option maxHeartbeats 800000 in
theorem fresh_any (n : Nat) (w : World) (hT : TabAt 0 tab w) (h1 : 8 ≤ n) (h2 : n ≤ 4096) :
    Calls Tryz.prog 5 #[.int .i64 n] w fun e w' => ∃ p F, e = .returned (.pointer (some ⟨p, 0, none⟩)) ∧ GP w' p F (Rp.open0 n) ∧ Grew w w' ∧ ∀ j, F j → w.heap.size ≤ j := by
  have H := Lib.hid hT
  clear hT
  go_enter Tryz.func5, Tryz.ntmps5
  go_wp2_with fail
  refine (dnew_any n 64 _ (by omega) h2 (by omega) (by omega)).mono ?_
  rintro e w1 ⟨d, F1, rfl, hd, hg1, hn1⟩
  have hT1 := tab_chg H.out hg1 id
  have hF0 : ¬ F1 0 := fun e => by have := hn1 0 e; have := tab_pos H.out; omega
  have H1 := Lib.hid (And.intro hd (And.intro hg1 (And.intro hn1 (And.intro hT1 hF0))))
  clear hd hg1 hn1 hT1 hF0
  go_wp2_with fail
  refine (gp_open_new n 64 d F1 w1 H1.out.1 H1.out.2.2.2.1 H1.out.2.2.2.2 h1 (by omega)).mono ?_
  rintro e w2 ⟨p, F2, rfl, hp, hg2, hn2⟩
  have H2 := Lib.hid (And.intro hp (And.intro (Grew.trans H1.out.2.1 hg2) (fun j hj => show w.heap.size ≤ j from (hn2 j hj).elim (H1.out.2.2.1 j) fun e => Nat.le_trans H1.out.2.1.size e)))
  clear hp hg2 hn2
  go_wp2_with fail
  refine (gp_begin p F2 _ w2 H2.out.1 rfl).mono ?_
  rintro e w3 ⟨rfl, F3, h3, hc3, hn3⟩
  have H3 := Lib.hid (And.intro h3 (And.intro hc3 hn3))
  clear h3 hc3 hn3
  go_wp2_with fail
  go_ret
  refine ⟨p, F3, rfl, H3.out.1, Chg.trans H2.out.2.1 H3.out.2.1 fun i hi e => by have := H2.out.2.2 i e; omega, fun j hj => (H3.out.2.2 j hj).elim (H2.out.2.2 j) fun e => Nat.le_trans H2.out.2.1.size e⟩

theorem open0_12 : (Rp.open0 12).slack = 9 ∧ (Rp.open0 12).now.countP Pk.used = 0 ∧ (Rp.open0 12).now.length = 10 ∧ (Rp.open0 12).sz = 64 := ⟨by kernel_rfl, by kernel_rfl, by kernel_rfl, rfl⟩
theorem chg_new {F : Nat → Prop} {w w1 w2 : World} (hg : Grew w w1) (hc : Chg F w1 w2) (hn : ∀ j, F j → w.heap.size ≤ j) : Grew w w2 := Chg.trans hg hc fun i hi e => by have := hn i e; omega

set_option maxRecDepth 100000 in
set_option maxHeartbeats 1600000 in
theorem cawake_any (w : World) (hT : TabAt 0 tab w) :
    Calls Tryz.prog 4 #[] w fun e w' => e = .returned (.bool true) ∧ Grew w w' := by
  have H := Lib.hid hT
  have o12 := open0_12
  have HO := Lib.hid o12
  have hneed : ∀ u, Calls Tryz.prog 13 #[.int .i64 60, .int .i64 64] u fun e w' => e = .returned (.int .i64 2) ∧ u = w' := fun u => need_any 60 64 u (by omega) (by omega)
  have HN := Lib.hid hneed
  clear hT o12 hneed
  go_enter Tryz.func4, Tryz.ntmps4
  go_wp2_with fail
  refine (fresh_any 12 _ H.out (by omega) (by omega)).mono ?_
  rintro e w1 ⟨p, F, rfl, hp, hg1, hn1⟩
  obtain ⟨w2, hmk0, ho2, hg2, hz2⟩ := make_bytes 60 w1 (by omega)
  have hmk : (Instr.makeSlice 22 (.int .i64 60) (.int .i64 60)).run Tryz.prog w1 = .ok (.slice (some ⟨w1.heap.size, 0, none⟩) 60 60) w2 := hmk0
  clear hmk0
  have H1 := Lib.hid (And.intro hp (And.intro hg1 (And.intro hn1 (And.intro ho2 (And.intro hg2 hz2)))))
  clear hp hg1 hn1 ho2 hg2 hz2
  go_wp2_with fail
  have hput := cput_any p F (Rp.open0 12) (List.replicate 60 0) w1.heap.size 0 60 w2 (H1.out.1.grew H1.out.2.2.2.2.1) (by simp [Rp.open0, Rp.begun]) (by simp) (by simp) (fun q hq => by have := (List.mem_replicate.1 hq).2; omega) (by simp)
    (by have := Sl.of_own H1.out.2.2.2.1; simpa using this) (fun e => by have := H1.out.1.lt _ e; omega)
  simp only [List.length_replicate] at hput
  refine hput.mono ?_
  clear hput hmk
  rintro e w3 (⟨i0, l, y, rfl, hi0, hto, hrel⟩ | ⟨y, rfl, -, -, hne⟩)
  · obtain ⟨F3, hp3, hc3, hn3⟩ := hto
    have hln : l.length = 2 := by rw [hrel.stands.len, hrel.like.sz]; simp [partsN, HO.out.2.2.2]
    have H3 := Lib.hid (And.intro hp3 (And.intro hrel (And.intro hi0 (And.intro hln (And.intro (show Grew w w3 from chg_new (Grew.trans H1.out.2.1 H1.out.2.2.2.2.1) hc3 H1.out.2.2.1) (fun j hj => show w.heap.size ≤ j from (hn3 j hj).elim (H1.out.2.2.1 j) fun e => by have h8 := H1.out.2.1.size; have h9 := H1.out.2.2.2.2.1.size; omega))))))
    clear hp3 hc3 hn3 hrel hi0 hln
    go_wp2_with fail
    refine (cget_stands p F3 y w3 l (List.replicate 60 0) i0 H3.out.1 H3.out.2.1.stands (by simp) (by simp) H3.out.2.2.1).mono ?_
    rintro e w4 ⟨hp4, hc4, A4, c4, rfl, -⟩
    have H4 := Lib.hid (And.intro hp4 (show Grew w w4 from chg_new H3.out.2.2.2.2.1 hc4 H3.out.2.2.2.2.2))
    have hus := gp_used p F3 y w4 hp4
    have hu2 : y.now.countP Pk.used = 2 := by rw [H3.out.2.1.used, HO.out.2.1, H3.out.2.2.2.1]
    rw [hu2] at hus
    have HU := Lib.hid hus
    simp only [List.length_replicate]
    clear hp4 hc4 hus hu2
    go_wp2_with (first
      | (go_at_call 10; (refine HU.out.mono ?_); rintro e w5 ⟨rfl, hg5⟩; have H5 := Lib.hid (Grew.trans H4.out.2 hg5); clear hg5)
      | (go_at_call 13; (refine (HN.out _).mono ?_); rintro e w6 ⟨rfl, rfl⟩))
    go_ret
    exact ⟨rfl, H5.out⟩
  · exfalso
    refine hne ⟨?_, ?_⟩
    · rw [HO.out.1, HO.out.2.2.2]; simp [partsN]
    · rw [HO.out.2.1, HO.out.2.2.1, HO.out.2.2.2]; simp [partsN]

end Go.Proofs.YtjlfnebkibgfmaaGreatDoor

/- Strings as rows of numbers; append of one string to a row of the call's own. -/
namespace Go.Proofs.YtjlfnebkibgfmaaGreatDoor
open Go.RowKit

theorem son_append (a b : List Int) : strOfNums a ++ strOfNums b = strOfNums (a ++ b) := by
  apply ByteArray.ext
  rw [ByteArray.data_append]
  simp [strOfNums]
theorem son_extract (l : List Int) (i j : Nat) : (strOfNums l).extract i j = strOfNums ((l.take j).drop i) := by
  apply ByteArray.ext
  rw [ByteArray.data_extract]
  simp [strOfNums, List.map_take, List.map_drop, List.drop_take]
theorem son_inj {a b : List Int} (ha : ∀ q ∈ a, 0 ≤ q ∧ q ≤ 255) (hb : ∀ q ∈ b, 0 ≤ q ∧ q ≤ 255) (h : strOfNums a = strOfNums b) : a = b := by
  have h1 := congrArg (fun s => s.data.toList) h
  simp only [strOfNums_data] at h1
  have h2 : ∀ l : List Int, (∀ q ∈ l, 0 ≤ q ∧ q ≤ 255) → (l.map fun n => UInt8.ofNat n.toNat).map (fun b => ((b.toNat : Nat) : Int)) = l := by
    intro l hl
    rw [List.map_map]
    conv => rhs; rw [← List.map_id l]
    refine List.map_congr_left fun q hq => ?_
    have := hl q hq
    simp only [Function.comp_apply, UInt8.toNat_ofNat', id_eq]
    rw [Nat.mod_eq_of_lt (by omega)]
    omega
  rw [← h2 a ha, ← h2 b hb, h1]
theorem son_beq {a b : List Int} (ha : ∀ q ∈ a, 0 ≤ q ∧ q ≤ 255) (hb : ∀ q ∈ b, 0 ≤ q ∧ q ≤ 255) : ((strOfNums a).toList == (strOfNums b).toList) = decide (a = b) := by
  by_cases h : a = b
  · subst h; simp
  · rw [decide_eq_false h]
    refine beq_eq_false_iff_ne.2 fun e => h (son_inj ha hb ?_)
    rw [ByteArray.toList_eq, ByteArray.toList_eq] at e
    exact ByteArray.ext (Array.toList_inj.1 e)
/-- A row of strings. -/
def sv (ps : List (List Int)) : List Value := ps.map fun P => .string (strOfNums P)
theorem sv_len (ps : List (List Int)) : (sv ps).length = ps.length := by simp [sv]
theorem sv_snoc (ps : List (List Int)) (P : List Int) : sv ps ++ [.string (strOfNums P)] = sv (ps ++ [P]) := by simp [sv]
theorem sv_at {ps : List (List Int)} {k : Nat} {P : List Int} (h : ps[k]? = some P) : (sv ps)[k]? = some (.string (strOfNums P)) := by simp [sv, h]
theorem strInfo_ : (Tryz.prog.info? 9).map (fun i => (i.zero, i.size, i.bytes)) = some (some (.string ⟨#[]⟩), 1, 16) := by kernel_rfl
theorem app_str {w : World} {ops : Array Oper} {rest : List Oper} {o : Oper} {a : Act} {Q : Exit → Act → World → Prop} (hgd : o.guard = none) (s x : Operand)
    (ho : o.op = .call { callee := .builtin .append, args := #[s, x], argTypes := #[30, 30] }) (base : Nat) (v : Value) (n : Nat) (xs : List Value) (hs : a.eval s = v) (hown : w.ownsRow base 9 1 v n xs)
    (e : ByteArray) (hx : a.eval x = .slice (some ⟨w.heap.size, 0, none⟩) 1 1) (hn : n ≤ 1000000) (hb : base ≤ w.heap.size)
    (h : ∀ v' w', w'.ownsRow base 9 1 v' (n + 1) (xs ++ [.string e]) → Ap w w' v v' → wpList Tryz.prog ops Q rest (a.put o.dst v') w') :
    wpList Tryz.prog ops Q (o :: rest) a (w.alloc (.cells #[.string e] 9)) := by
  obtain ⟨i0, hi0, hz0, hz1, hz2⟩ := info_parts strInfo_
  refine wpList_append_own_at _ hgd s x 30 ho base 9 i0 _ 1 16 Tryz.underlying30 hi0 hz0 hz1 hz2 rfl (by omega) v n xs hs (own_grew hown ((Chg.refl _ _).alloc _)) ⟨w.heap.size, 0, none⟩ 1 1 [.string e] hx rfl (news_one _ _ _) (by simp [Value.oneCell']) (by simp only [maxLen]; omega) (by omega) (by simp; omega) ?_
  intro v1 w1 h1 h2 _ h4
  exact h v1 w1 h1 ((Ap.refl _ _).push ((Chg.refl _ _).alloc _) h2 h4)

end Go.Proofs.YtjlfnebkibgfmaaGreatDoor

/- The chain's document: Parts. -/
namespace Go.Proofs.YtjlfnebkibgfmaaGreatDoor
open Go.RowKit

def parts (n : Nat) (bs : List Int) (k : Nat) : List (List Int) := (List.range k).map (part n bs)
theorem parts_len (n : Nat) (bs : List Int) (k : Nat) : (parts n bs k).length = k := by simp [parts]
theorem parts_succ (n : Nat) (bs : List Int) (k : Nat) : parts n bs (k + 1) = parts n bs k ++ [part n bs k] := by simp [parts, List.range_succ]

attribute [local go_sem] strOfNums_size
set_option maxRecDepth 100000 in
set_option maxHeartbeats 1600000 in
theorem xparts_any (bs : List Int) (n : Nat) (w : World) (hb : 1 ≤ bs.length) (hb2 : bs.length ≤ 100000) (hn : 1 ≤ n) (hn2 : n ≤ 100000) :
    Calls Tryz.prog 8 #[.string (strOfNums bs), .int .i64 n] w fun e w' => OwnOut w w' 9 1 (partsN bs.length n) (sv (parts n bs (partsN bs.length n))) (fun A c => .slice A (partsN bs.length n) c) e := by
  have HB := Lib.hid hb
  clear hb
  go_enter Tryz.func8, Tryz.ntmps8
  go_wp2
  go_loopg [0, 5] bs.length (fun q s v wr => ∃ (k : Nat) (R : List Int), q = R.length ∧ bs.drop (k * n) = R ∧ 1 ≤ R.length ∧ s = .string (strOfNums R) ∧ wr.ownsRow w.heap.size 9 1 v k (sv (parts n bs k)) ∧ Grew w wr)
  case atStart => exact ⟨0, bs, rfl, by simp, HB.out, rfl, World.ownsRow_nil _ _ _ _, Chg.refl _ _⟩
  case round =>
    obtain ⟨k, R, rfl, hR, hR1, rfl, hown, hg⟩ := hrel
    have HK := Lib.hid (And.intro hR (And.intro hown hg))
    have hRl : R.length = bs.length - k * n := by rw [← hR]; simp
    have HL := Lib.hid hRl
    have hsz := hg.size
    have hkn : k < partsN bs.length n := (parts_lt HB.out hn k).1 (by omega)
    have hkb : k ≤ 100000 := by
      have : k * 1 ≤ k * n := Nat.mul_le_mul_left _ hn
      omega
    have HKn := Lib.hid hkn
    clear hR hown hg hRl hkn
    have hbs : w.heap.size ≤ wr.heap.size := hsz
    have hxl := son_extract R 0 n
    have hxr := son_extract R n R.length
    by_cases hlt : n < R.length
    · rw [List.drop_zero] at hxl
      rw [List.take_of_length_le (Nat.le_refl _)] at hxr
      go_wp2_with (at_builtin; (refine app_str rfl (.tmp 10) (.tmp 14) rfl w.heap.size u5 k (sv (parts n bs k)) rfl HK.out.2.1 _ rfl (by omega) hbs ?_); intro v1 w1 hown1 hap1; have HO1 := Lib.hid (And.intro hown1 hap1); clear hown1 hap1)
      have hp : part n bs k = R.take n := by unfold part; rw [HK.out.1]
      go_roundg (R.drop n).length
      case measure => simp; omega
      case rel =>
        refine ⟨k + 1, R.drop n, rfl, ?_, by simp; omega, rfl, ?_, HO1.out.2.grow HK.out.2.2 fun j hj => (HK.out.2.1.lt j hj).1⟩
        · rw [← HK.out.1, List.drop_drop, Nat.add_mul, Nat.one_mul]
        · have ho := HO1.out.1
          rw [sv_snoc, ← hp, ← parts_succ] at ho
          exact ho
    · go_wp2_with (at_builtin; (refine app_str rfl (.tmp 19) (.tmp 21) rfl w.heap.size u5 k (sv (parts n bs k)) rfl HK.out.2.1 _ rfl (by omega) hbs ?_); intro v1 w1 hown1 hap1; have HO1 := Lib.hid (And.intro hown1 hap1); clear hown1 hap1)
      go_ret
      obtain ⟨A, c, rfl, -⟩ := own_shape HO1.out.1
      have hk1 : k + 1 = partsN bs.length n := by
        have h1 := parts_lt HB.out hn (k + 1)
        rw [Nat.add_mul, Nat.one_mul] at h1
        have := HKn.out
        have := HL.out
        omega
      have ho := HO1.out.1
      rw [sv_snoc] at ho
      have hp : part n bs k = R := by unfold part; rw [HK.out.1]; exact List.take_of_length_le (by omega)
      rw [← hp, ← parts_succ, hk1] at ho
      exact OwnOut.mk A c (by rw [hk1]; rfl) ho (HO1.out.2.grow HK.out.2.2 fun j hj => (HK.out.2.1.lt j hj).1)

end Go.Proofs.YtjlfnebkibgfmaaGreatDoor

/- A range over a map whose keys are ints (program-free). -/
namespace Go.Proofs.YtjlfnebkibgfmaaGreatDoor
open Go.RowKit Go.Maps

/-- At it lies an iterator over the map at b: what it has not told yet. -/
def IIt (P : Program) (k : TypeId) (w : World) (b it : Nat) (m : Int → Option Value) (s : Nat) (left : Int → Bool) (cnt : Nat) : Prop :=
  ∃ D lf, w.ranges P k rdV b it s D lf cnt ∧ Maps.size D = s ∧ Vw D m ∧ left = fun i => lf (.int .i64 i)
/-- The block at it is an iterator's. -/
def It (w : World) (it : Nat) (o : Obj) : Prop := w.heap[it]? = some o ∧ ∃ b s c n, o = .mapIter b s c n

section
variable {P : Program} {k t e : TypeId} {w w' : World} {b it s cnt : Nat} {m : Int → Option Value} {left : Int → Bool} {o : Obj}
theorem It.book (h : It w it o) : Book w it := by
  obtain ⟨h, b, s, c, n, rfl⟩ := h
  exact ⟨_, h, rfl⟩
theorem It.chg {F : Nat → Prop} (h : It w it o) (hc : Chg F w w') (hF : ¬ F it) : It w' it o :=
  ⟨(hc.block it (Array.getElem?_eq_some_iff.1 h.1).1 hF).trans h.1, h.2⟩
theorem It.grew (h : It w it o) (hc : Grew w w') : It w' it o := h.chg hc id
theorem It.lt (h : It w it o) : it < w.heap.size := (Array.getElem?_eq_some_iff.1 h.1).1
theorem IIt.has (h : IIt P k w b it m s left cnt) : ∃ o, It w it o := by
  obtain ⟨D, lf, ⟨es, clock, since, seen, c0, hb, hf, hn, hD, hr, rest⟩, _⟩ := h
  exact ⟨_, hr, _, _, _, _, rfl⟩
theorem IIt.imap (h : IIt P k w b it m s left cnt) : IMap P k w b m s := by
  obtain ⟨D, lf, h, hs, hv, _⟩ := h
  exact ⟨D, h.owns, hs, hv⟩
/-- The map and the iterator are as they were. -/
theorem IIt.same (h : IIt P k w b it m s left cnt) {o : Obj} (ho : It w it o) (hb : w'.heap[b]? = w.heap[b]?) (ho' : It w' it o) : IIt P k w' b it m s left cnt := by
  obtain ⟨D, lf, ⟨es, clock, since, seen, c0, hb0, hf, hn, hD, hr, rest⟩, h2⟩ := h
  have : o = .mapIter (some b) since seen c0 := by
    have := ho.1
    rw [hr] at this
    exact (Option.some.inj this).symm
  subst this
  exact ⟨D, lf, ⟨es, clock, since, seen, c0, hb.trans hb0, hf, hn, hD, ho'.1, rest⟩, h2⟩
theorem IIt.left_eq (h : IIt P k w b it m s left cnt) : w.rangeLeft b it = cnt := by
  obtain ⟨D, lf, h, _⟩ := h
  exact h.left_eq

theorem IMap.range_ (h : IMap P k w b m s) (K : Keyed P k) (ht : P.underlying t = some (.map k e)) :
    ∃ w', (Instr.range t (.map (some b))).run P w = .ok (.pointer (some ⟨w.heap.size, 0, none⟩)) w' ∧ IIt P k w' b w.heap.size m s (fun i => (m i).isSome) s ∧ Grew w w' ∧ w'.heap.size = w.heap.size + 1 := by
  obtain ⟨D, ho, hs, hv⟩ := h
  obtain ⟨w', h1, h2, h3, h4⟩ := ho.range K ht
  refine ⟨w', h1, ⟨D, _, hs ▸ h2, hs, hv, funext fun i => ?_⟩, (Chg.refl NoF w).grown h3 (fun j hj => by cases hj), h4⟩
  cases hm : m i with
  | none => rw [hv.no i hm]; rfl
  | some v => rw [(hv.yes i v hm).1]; rfl

theorem wf_keyOf {i : Int} (hk : P.underlying k = some (.int .i64)) {kl : Lit} {key : Value} (h : keyOf P k key = some kl) : ∃ x, key = .int .i64 x ∧ kl = .int .i64 x ∧ (Lit.int .i64 x).wf = true := Maps.keyOf_int_inv hk h

theorem IIt.next (h : IIt P k w b it m s left cnt) (K : Keyed P k) (hk : P.underlying k = some (.int .i64)) (ty : TypeId) :
    (cnt = 0 ∧ (∀ i, left i = false) ∧ (Instr.next (.pointer (some ⟨it, 0, none⟩)) false ty).run P w = .ok (.tuple #[.bool false]) w) ∨
    ∃ i v w' cnt', left i = true ∧ m i = some v ∧ (Instr.next (.pointer (some ⟨it, 0, none⟩)) false ty).run P w = .ok (.tuple #[.bool true, .int .i64 i, v]) w' ∧
      IIt P k w' b it m s (fun j => left j && !decide (j = i)) cnt' ∧ cnt' < cnt ∧ Kept it w w' ∧ w'.heap.size = w.heap.size ∧ (Instr.entry (.pointer (some ⟨it, 0, none⟩))).run P w' = .ok (.tuple #[.int .i64 i, v]) w' := by
  obtain ⟨o, ho⟩ := h.has
  obtain ⟨D, lf, hr, hs, hv, rfl⟩ := h
  rcases hr.next K ty with ⟨h0, hl, hrun⟩ | ⟨key, v, kl, y, w', cnt', hkey, hlk, hvy, hat, hrun, hrg, hlt, hgr, hsz, hen⟩
  · exact .inl ⟨h0, fun i => hl _, hrun⟩
  · obtain ⟨x, rfl, rfl, hwx⟩ := Maps.keyOf_int_inv hk hkey
    simp only [rdV, Option.some.injEq] at hvy
    subst hvy
    have hmx : m x = some v := by
      cases hm : m x with
      | none =>
        have h1 := hat .nil
        rw [atKey_of_not_has (hv.no x hm)] at h1
        cases h1
      | some v' =>
        have h1 := hat .nil
        rw [(hv.yes x v' hm).2 .nil] at h1
        injection h1 with h1
        rw [h1]
    refine .inr ⟨x, v, w', cnt', hlk, hmx, hrun, ⟨D, _, hrg, hs, hv, funext fun j => ?_⟩, hlt, ⟨(Chg.refl (fun j => j = it) w).grown hgr fun j hj _ => by injection hj with hj; exact hj.symm, ho.book⟩, hsz, hen⟩
    have : ((Lit.int .i64 j).sameKey (.int .i64 x)) = decide (j = x) := by
      by_cases e : j = x
      · subst e
        rw [WideAt.sameKey_self (keyLit _)]
        simp
      · rw [show decide (j = x) = false from decide_eq_false e]
        cases hsk : (Lit.int .i64 j).sameKey (.int .i64 x) with
        | false => rfl
        | true => simp [Lit.sameKey] at hsk; exact absurd hsk e
    simp [this]

variable {F : Fence} {n : Nat} {ops : Array Oper} {rest : List Oper} {op : Oper} {a : Act} {Q : Exit → Act → World → Prop}
/-- 'range m', at the operation. -/
theorem wpListIn_range_im (hg : op.guard = none) (mo : Operand) (t : TypeId) (hop : op.op = Op.range t mo) (h : IMap P k w b m s) (K : Keyed P k) (ht : P.underlying t = some (.map k e)) (hm : a.eval mo = .map (some b))
    (hK : ∀ w', IIt P k w' b w.heap.size m s (fun i => (m i).isSome) s → Grew w w' → w'.heap.size = w.heap.size + 1 → wpListIn F n P ops Q rest (a.put op.dst (.pointer (some ⟨w.heap.size, 0, none⟩))) w') :
    wpListIn F n P ops Q (op :: rest) a w := by
  refine wpListIn_plain hg fun K' hK' => ?_
  obtain ⟨w', hrun, r1, r2, r3⟩ := h.range_ K ht
  unfold Oper.wpIn
  refine ⟨by simp [Oper.about, hop], ?_⟩
  rw [Oper.semAt_plain F _ _ (by rw [hop]; intro c hc'; cases hc')]
  simp [execOp, hop, hm, hrun, Result.andThen]
  exact hK' _ _ (hK w' r1 r2 r3)
/-- The range's step. -/
theorem wpListIn_next_im (hg : op.guard = none) (ito : Operand) (hop : op.op = Op.next ito false) (h : IIt P k w b it m s left cnt) (K : Keyed P k) (hk : P.underlying k = some (.int .i64)) (hit : a.eval ito = .pointer (some ⟨it, 0, none⟩))
    (hDone : cnt = 0 → (∀ i, left i = false) → wpListIn F n P ops Q rest (a.put op.dst (.tuple #[.bool false])) w)
    (hMore : ∀ (i : Int) (v : Value) (w' : World) (cnt' : Nat), left i = true → m i = some v → IIt P k w' b it m s (fun j => left j && !decide (j = i)) cnt' → cnt' < cnt → Kept it w w' → w'.heap.size = w.heap.size → (Instr.entry (.pointer (some ⟨it, 0, none⟩))).run P w' = .ok (.tuple #[.int .i64 i, v]) w' → wpListIn F n P ops Q rest (a.put op.dst (.tuple #[.bool true, .int .i64 i, v])) w') :
    wpListIn F n P ops Q (op :: rest) a w := by
  refine wpListIn_plain hg fun K' hK' => ?_
  unfold Oper.wpIn
  refine ⟨by simp [Oper.about, hop], ?_⟩
  rw [Oper.semAt_plain F _ _ (by rw [hop]; intro c hc'; cases hc')]
  rcases h.next K hk op.type with ⟨h0, hl, hrun⟩ | ⟨i, v, w', cnt', h1, h2, hrun, h3, h4, h5, h6, h7⟩
  · simp [execOp, hop, hit, hrun, Result.andThen]
    exact hK' _ _ (hDone h0 hl)
  · simp [execOp, hop, hit, hrun, Result.andThen]
    exact hK' _ _ (hMore i v w' cnt' h1 h2 h3 h4 h5 h6 h7)
end

end Go.Proofs.YtjlfnebkibgfmaaGreatDoor

/- The pager: Abort. -/
namespace Go.Proofs.YtjlfnebkibgfmaaGreatDoor
open Go.RowKit Go.Maps

/-- A pool into which some are given back. -/
def gvn (fe : List Bool) (f : Nat → Bool) : List Bool := (List.range fe.length).map fun s => fe.getD s false || f s
theorem gvn_len (fe : List Bool) (f : Nat → Bool) : (gvn fe f).length = fe.length := by simp [gvn]
theorem gvn_at (fe : List Bool) (f : Nat → Bool) (s : Nat) : (gvn fe f).getD s false = (decide (s < fe.length) && (fe.getD s false || f s)) := by
  unfold gvn
  rw [List.getD_eq_getElem?_getD, List.getElem?_map]
  by_cases h : s < fe.length
  · rw [List.getElem?_range h]; simp [h]
  · rw [List.getElem?_eq_none (by simpa using h)]; simp [h]
theorem list_getD {a b : List Bool} (hl : a.length = b.length) (h : ∀ s, s < a.length → a.getD s false = b.getD s false) : a = b := by
  apply List.ext_getElem hl
  intro i h1 h2
  have := h i h1
  rw [List.getD_eq_getElem?_getD, List.getD_eq_getElem?_getD, List.getElem?_eq_getElem h1, List.getElem?_eq_getElem h2] at this
  simpa using this
theorem gvn_none (fe : List Bool) : gvn fe (fun _ => false) = fe := list_getD (gvn_len _ _) fun s hs => by
  rw [gvn_len] at hs
  rw [gvn_at]; simp [hs]
theorem gvn_more (fe : List Bool) (f : Nat → Bool) (s : Nat) (hs : s < fe.length) (h1 : fe.getD s false = false) (h2 : f s = false) : trn (gvn fe f) s = gvn fe (setB f s true) := by
  have hg : (gvn fe f).getD s false = false := by rw [gvn_at, h1, h2]; simp
  refine list_getD (by simp [trn, gvn_len]) fun j hj => ?_
  rw [trn_getD (by rw [gvn_len]; exact hs), gvn_at fe (setB f s true), hg]
  have hj' : j < fe.length := by simpa [trn, gvn_len] using hj
  by_cases e : j = s
  · subst e; simp [setB, hs]
  · rw [if_neg e, gvn_at]; simp [setB, e]
theorem gvn_give (fe : List Bool) (f : Nat → Bool) (s : Nat) (hs : s < fe.length) (h1 : fe.getD s false = false) (h2 : f s = false) : toL (gvn fe f) (s : Int) true = (gvn fe (setB f s true), 0) := by
  unfold toL
  rw [gvn_len, if_neg (by omega), Int.toNat_natCast, if_neg (by rw [gvn_at, h1, h2]; simp), gvn_more fe f s hs h1 h2]

/-- A change given up. -/
def Gp.abort (X : Gp) (o : Cg) : Gp := { X with table := o.was, free := gvn X.free o.fresh, op := none }
/-- What has been given back so far. -/
def gvF (fr : Nat → Bool) (left : Int → Bool) : Nat → Bool := fun s => fr s && !left (s : Int)
theorem gvF_start (fr : Nat → Bool) : gvF fr (fun i => (mB fr i).isSome) = fun _ => false := by
  funext s
  show (fr s && !(mB fr (s : Int)).isSome) = false
  rw [mB_nat]
  cases fr s <;> rfl
theorem gvF_end (fr : Nat → Bool) (left : Int → Bool) (h : ∀ i, left i = false) : gvF fr left = fr := by
  funext s
  unfold gvF
  rw [h]; simp
theorem gvF_step (fr : Nat → Bool) (left : Int → Bool) (s : Nat) (hf : fr s = true) : gvF fr (fun j => left j && !decide (j = (s : Int))) = setB (gvF fr left) s true := by
  funext j
  unfold gvF setB
  by_cases e : j = s
  · subst e; simp [hf]
  · have : ¬ (j : Int) = (s : Int) := by omega
    simp [e, this]

section
variable {w w' : World} {L : Nat → Nat} {p d b ca c M1 s1 M2 s2 : Nat} {X : Gp} {o : Cg} {A : Option Addr} {vp vt vw vl : Value} {F : Nat → Prop}
/-- The change is dropped: its table is the pager's. -/
theorem GIn.abort (h : GIn w L p X d b A ca vp vt (some ⟨c, 0, none⟩)) (hi : ChIn w L o c vw M1 s1 vl M2 s2) (hF : ∀ j, F j ↔ L j ≠ 0) :
    GTo w ((w.setCell ⟨p, 4, none⟩ vw).setCell ⟨p, 6, none⟩ (.pointer none)) p F { X with table := o.was, op := none } := by
  have hc : Chg (fun j => j = p) w ((w.setCell ⟨p, 4, none⟩ vw).setCell ⟨p, 6, none⟩ (.pointer none)) := ((Chg.refl (fun j => j = p) w).setCell (p := ⟨p, 4, none⟩) (fun _ => rfl) _).setCell (p := ⟨p, 6, none⟩) (fun _ => rfl) _
  have hcL : Chg (fun j => L j = 1) w ((w.setCell ⟨p, 4, none⟩ vw).setCell ⟨p, 6, none⟩ (.pointer none)) := hc.mono fun i _ e => e ▸ h.lp
  obtain ⟨L', hL'⟩ : ∃ L' : Nat → Nat, L' = fun j => if L j = 7 then 5 else if L j ≤ 4 then L j else 0 := ⟨_, rfl⟩
  have lo : ∀ j m, m ≠ 0 → m ≤ 4 → (L' j = m ↔ L j = m) := fun j m h0 h4 => by
    rw [hL']
    dsimp only
    split
    · omega
    · split <;> omega
  have hset : ∀ m, m ≠ 0 → m ≤ 4 → (fun j => L' j = m) = (fun j => L j = m) := fun m h1 h2 => funext fun j => propext (lo j m h1 h2)
  have l5 : ∀ j, L j = 7 → L' j = 5 := fun j hj => by rw [hL']; simp [hj]
  have lz : ∀ j, L' j ≠ 0 → L j ≠ 0 := fun j hj e => by rw [hL'] at hj; simp [e] at hj
  have hgi : GIn ((w.setCell ⟨p, 4, none⟩ vw).setCell ⟨p, 6, none⟩ (.pointer none)) L' p { X with table := o.was, op := none } d b A ca vp vw none := by
    refine ⟨?_, (lo p 1 (by omega) (by omega)).2 h.lp, ?_, h.pol.chg hcL fun j hj e => by have := h.lo j hj; omega, fun j hj => (lo j 3 (by omega) (by omega)).2 (h.lo j hj), own_lab h.pgs h.lg hcL (by omega), fun j hj => (lo j 4 (by omega) (by omega)).2 (h.lg j hj),
      own_lab hi.was hi.lw hcL (by omega), fun j hj => l5 j (hi.lw j hj), rfl, fun j hj => Nat.lt_of_lt_of_le (h.lt j (lz j hj)) hc.size, ?_, tab_chg h.tab hcL (by rw [h.l0]; omega)⟩
    · have := (h.blk.put 4 vw).put 6 (.pointer none)
      simpa using this
    · rw [hset 2 (by omega) (by omega)]
      exact h.dsk.chg hcL fun j hj e => by omega
    · rw [hL']; simp [h.l0]
  exact ⟨fun j => L' j ≠ 0, hgi.gs, hc.mono fun i _ e => (hF i).2 (by rw [e, h.lp]; omega), fun j hj => .inl ((hF j).2 (lz j hj))⟩
end

set_option maxRecDepth 100000 in
set_option maxHeartbeats 3200000 in
theorem gabort_ok (p : Nat) (F : Nat → Prop) (X : Gp) (o : Cg) (w : World) (h : GS w p F X) (hok : X.Ok) (hx : X.op = some o) :
    Calls Tryz.prog 9 #[.pointer (some ⟨p, 0, none⟩)] w fun e' w' => e' = .returned (.int .i64 0) ∧ GTo w w' p F (X.abort o) := by
  have hrd := gready_any p F X w h
  rw [hok.rdy hx] at hrd
  have hv := hok.inv
  simp only [Gp.old, Gp.fr, Gp.lf, Gp.tc, hx] at hv
  obtain ⟨L, d, b, A, ca, vp, vt, vo, h, hF⟩ := h
  have ho := h.opn
  rw [hx] at ho
  obtain ⟨c, vw, M1, s1, vl, M2, s2, rfl, hi2⟩ := ho
  obtain ⟨c0, f0, s0⟩ := h.blk.facts
  obtain ⟨c1, f1, s1'⟩ := hi2.blk.facts
  obtain ⟨W1, hrg, hI1, hg1, hz1⟩ := hi2.fr.range_ (t := 46) kInt Tryz.underlying46
  have hfl : ∀ s, o.fresh s = true → 2 ≤ s ∧ s < X.free.length ∧ X.free.getD s false = false := fun s hs => by
    have := hv.frr s hs
    exact ⟨this.1, by rw [hv.lens.1]; exact this.2.1, (hv.acct s this.2.1).2 (.inr (.inr (.inr hs)))⟩
  have hxl : X.free.length ≤ 4096 := by rw [hv.lens.1]; exact hv.sz.2.1
  obtain ⟨it, hit⟩ : ∃ it, w.heap.size = it := ⟨_, rfl⟩
  rw [hit] at hI1 hrg
  have HX := Lib.hid hx
  have H := Lib.hid (And.intro hrd (And.intro h (And.intro hi2 (And.intro hF (And.intro hfl (And.intro hI1 (And.intro hg1 (And.intro hz1 hit))))))))
  clear h hrd hx hv hok hi2 hF hfl hI1 hg1 hz1 hit
  go_enter Tryz.func9, Tryz.ntmps9
  go_wp2_with (go_at_call 23; (refine H.out.1.mono ?_); rintro e w1 ⟨rfl, rfl⟩)
  have hG1 : GIn W1 L p { X with free := gvn X.free (gvF o.fresh fun i => (mB o.fresh i).isSome) } d b A ca vp vt (some ⟨c, 0, none⟩) := by
    rw [gvF_start, gvn_none]
    exact H.out.2.1.grew H.out.2.2.2.2.2.2.1
  have HG1 := Lib.hid hG1
  clear hG1 c0 f0 s0 c1 f1 s1'
  go_loopg [] s1 (fun q wr => ∃ left : Int → Bool, GIn wr L p { X with free := gvn X.free (gvF o.fresh left) } d b A ca vp vt (some ⟨c, 0, none⟩) ∧ IIt Tryz.prog 3 wr M1 it (mB o.fresh) s1 left q ∧ Chg (fun j => L j = 3) w wr)
  case atStart => exact ⟨_, HG1.out, H.out.2.2.2.2.2.1, H.out.2.2.2.2.2.2.1.chg⟩
  case round =>
    obtain ⟨left, hG, hI, hC⟩ := hrel
    obtain ⟨ob, hob⟩ := hI.has
    have hitl : w.heap.size ≤ it := by rw [H.out.2.2.2.2.2.2.2.2]; exact Nat.le_refl _
    have hLit : ∀ j, L j ≠ 0 → j ≠ it := fun j hj e => by have := H.out.2.1.lt j hj; omega
    rcases hI.next kInt Tryz.underlying3 0 with ⟨h0, hl, hrun⟩ | ⟨i, v, w3, q', hli, hmi, hrun, hI3, hq, hk3, hz3, hen⟩
    · have HD := Lib.hid (And.intro hG (And.intro hl hC))
      clear hG hI hC hl hob
      have hop := HD.out.1.opn
      rw [show ({ X with free := gvn X.free (gvF o.fresh left) } : Gp).op = some o from HX.out] at hop
      obtain ⟨c', vw', M1', s1'', vl', M2', s2'', hce, hi3⟩ := hop
      obtain rfl : c = c' := by injection hce with e; injection e
      obtain ⟨c0, f0, s0⟩ := HD.out.1.blk.facts
      obtain ⟨c1, f1, s1'⟩ := hi3.blk.facts
      obtain ⟨Aw, cw, rfl, -⟩ := own_shape hi3.was
      have HI3 := Lib.hid hi3
      clear hi3 hce
      go_wp2
      go_ret
      refine ⟨rfl, To.then (F1 := F) (HD.out.2.2.mono fun j _ e => (H.out.2.2.2.1 j).2 (by omega)) (fun j hj => .inl hj) ?_⟩
      have := HD.out.1.abort HI3.out H.out.2.2.2.1
      rw [gvF_end _ _ HD.out.2.1] at this
      exact this
    · have hnt : ∃ s : Nat, i = (s : Int) ∧ o.fresh s = true := by
        unfold mB at hmi
        split at hmi
        · rename_i hh
          exact ⟨i.toNat, by omega, hh.2⟩
        · cases hmi
      obtain ⟨s, rfl, hfs⟩ := hnt
      have hG3 : GIn w3 L p { X with free := gvn X.free (gvF o.fresh left) } d b A ca vp vt (some ⟨c, 0, none⟩) := hG.chg hk3.chg hLit (fun e => by have := tab_pos H.out.2.1.tab; omega)
      have hfl := H.out.2.2.2.2.1 s hfs
      have hgv := pgive_any b s _ A ca w3 hG3.pol (by show (gvn X.free _).length ≤ 65536; rw [gvn_len]; omega)
      have htl := gvn_give X.free (gvF o.fresh left) s hfl.2.1 hfl.2.2 (by unfold gvF; rw [hfs, hli]; rfl)
      have hgv2 : Calls Tryz.prog 24 #[.pointer (some ⟨b, 0, none⟩), .int .i64 (s : Int)] w3 fun e w' => e = .returned (.int .i64 0) ∧ PIn w' b (gvn X.free (setB (gvF o.fresh left) s true)) A ca ∧ Chg (PF b A) w3 w' := by
        rw [← show (toL (gvn X.free (gvF o.fresh left)) (s : Int) true).1 = gvn X.free (setB (gvF o.fresh left) s true) from by rw [htl]]
        refine hgv.mono fun e w' h => ?_
        rw [show (toL ({ X with free := gvn X.free (gvF o.fresh left) } : Gp).free (s : Int) true) = (gvn X.free (setB (gvF o.fresh left) s true), 0) from htl] at h
        rw [htl]
        exact h
      have HR := Lib.hid (And.intro hG3 (And.intro hI3 (And.intro hk3 (And.intro hC (And.intro hgv2 (And.intro hfs hLit))))))
      obtain ⟨c0, f0, s0⟩ := hG3.blk.facts
      clear hG hI hob hG3 hI3 hk3 hC hgv hgv2 htl hfl hli hmi hfs hLit
      go_wp2_with (go_at_call 24; (refine HR.out.2.2.2.2.1.mono ?_); rintro e w4 ⟨rfl, h4, h5⟩; have H4 := Lib.hid (And.intro h4 h5); clear h4 h5 c0 f0 s0)
      obtain ⟨hG4, ht4⟩ := HR.out.1.pool H4.out.1 H4.out.2
      obtain ⟨ob3, hob3⟩ := HR.out.2.1.has
      have h3F : ∀ j, PF b A j → L j = 3 := H.out.2.1.lo
      have hob4 : It w4 it ob3 := hob3.chg H4.out.2 (fun e => HR.out.2.2.2.2.2.2 it (by have := h3F it e; omega) rfl)
      have hI4 := HR.out.2.1.same hob3 (H4.out.2.block M1 HR.out.2.1.imap.lt (fun e => by have := h3F M1 e; have := H.out.2.2.1.lf; omega)) hob4
      go_roundg q'
      case measure => exact hq
      case rel =>
        refine ⟨_, ?_, hI4, Chg.trans (HR.out.2.2.2.1.kept HR.out.2.2.1 hitl) ht4.chg fun j _ e => e⟩
        rw [gvF_step _ _ s HR.out.2.2.2.2.2.1]
        exact hG4

end Go.Proofs.YtjlfnebkibgfmaaGreatDoor

/- Contracts of the library that the kit has proved once, laid at this seat (printed by the kit's lay-plain through lay.py). -/
namespace Go.Proofs.YtjlfnebkibgfmaaGreatDoor
open Go.Shelf
def sortInt_ren : Go.Shelf.Ren := ⟨fun | 189 => 69 | 125 => 87 | 257 => 86 | 128 => 109 | 129 => 110 | 294 => 100 | 295 => 101 | 296 => 102 | 297 => 103 | 298 => 104 | 299 => 105 | 216 => 106 | 300 => 107 | 301 => 108 | 328 => 115 | 329 => 116 | 330 => 117 | 331 => 118 | 332 => 119 | 215 => 120 | 343 => 121 | n => n, fun | 28 => 41 | 3 => 3 | 46 => 87 | 0 => 0 | 51 => 123 | 53 => 80 | 4 => 4 | 183 => 137 | 182 => 136 | 131 => 98 | 5 => 5 | 9 => 9 | 218 => 150 | 222 => 154 | 228 => 156 | 229 => 71 | n => n, fun | n => n⟩
theorem sortInt : Go.Proofs.Lays.n189 Tryz.prog sortInt_ren := {
  mixed := by kernel_rfl
  f125 := Tryz.func87.trans (congrArg some (by kernel_rfl))
  f128 := Tryz.func109.trans (congrArg some (by kernel_rfl))
  f129 := Tryz.func110.trans (congrArg some (by kernel_rfl))
  f189 := Tryz.func69.trans (congrArg some (by kernel_rfl))
  f215 := Tryz.func120.trans (congrArg some (by kernel_rfl))
  f216 := Tryz.func106.trans (congrArg some (by kernel_rfl))
  f257 := Tryz.func86.trans (congrArg some (by kernel_rfl))
  f294 := Tryz.func100.trans (congrArg some (by kernel_rfl))
  f295 := Tryz.func101.trans (congrArg some (by kernel_rfl))
  f296 := Tryz.func102.trans (congrArg some (by kernel_rfl))
  f297 := Tryz.func103.trans (congrArg some (by kernel_rfl))
  f298 := Tryz.func104.trans (congrArg some (by kernel_rfl))
  f299 := Tryz.func105.trans (congrArg some (by kernel_rfl))
  f300 := Tryz.func107.trans (congrArg some (by kernel_rfl))
  f301 := Tryz.func108.trans (congrArg some (by kernel_rfl))
  f328 := Tryz.func115.trans (congrArg some (by kernel_rfl))
  f329 := Tryz.func116.trans (congrArg some (by kernel_rfl))
  f330 := Tryz.func117.trans (congrArg some (by kernel_rfl))
  f331 := Tryz.func118.trans (congrArg some (by kernel_rfl))
  f332 := Tryz.func119.trans (congrArg some (by kernel_rfl))
  f343 := Tryz.func121.trans (congrArg some (by kernel_rfl))
  t0 := Tryz.underlying0
  a0 := Tryz.isAgg0
  z0 := Tryz.sizeOf0
  v0 := Tryz.zeroValue0
  t3 := Tryz.underlying3
  a3 := Tryz.isAgg3
  z3 := Tryz.sizeOf3
  v3 := Tryz.zeroValue3
  t4 := Tryz.underlying4
  a4 := Tryz.isAgg4
  z4 := Tryz.sizeOf4
  v4 := Tryz.zeroValue4
  t5 := Tryz.underlying5
  a5 := Tryz.isAgg5
  z5 := Tryz.sizeOf5
  v5 := Tryz.zeroValue5
  t9 := Tryz.underlying9
  a9 := Tryz.isAgg9
  z9 := Tryz.sizeOf9
  v9 := Tryz.zeroValue9
  t28 := Tryz.underlying41
  a28 := Tryz.isAgg41
  z28 := Tryz.sizeOf41
  v28 := Tryz.zeroValue41
  t46 := Tryz.underlying87
  a46 := Tryz.isAgg87
  z46 := Tryz.sizeOf87
  v46 := Tryz.zeroValue87
  t51 := Tryz.underlying123
  a51 := Tryz.isAgg123
  z51 := Tryz.sizeOf123
  v51 := Tryz.zeroValue123
  t53 := Tryz.underlying80
  a53 := Tryz.isAgg80
  z53 := Tryz.sizeOf80
  v53 := Tryz.zeroValue80
  t131 := Tryz.underlying98
  a131 := Tryz.isAgg98
  z131 := Tryz.sizeOf98
  v131 := Tryz.zeroValue98
  t182 := Tryz.underlying136
  a182 := Tryz.isAgg136
  z182 := Tryz.sizeOf136
  v182 := Tryz.zeroValue136
  t183 := Tryz.underlying137
  a183 := Tryz.isAgg137
  z183 := Tryz.sizeOf137
  v183 := Tryz.zeroValue137
  t218 := Tryz.underlying150
  a218 := Tryz.isAgg150
  z218 := Tryz.sizeOf150
  v218 := Tryz.zeroValue150
  t222 := Tryz.underlying154
  a222 := Tryz.isAgg154
  z222 := Tryz.sizeOf154
  v222 := Tryz.zeroValue154
  t228 := Tryz.underlying156
  a228 := Tryz.isAgg156
  z228 := Tryz.sizeOf156
  v228 := Tryz.zeroValue156
  t229 := Tryz.underlying71
  a229 := Tryz.isAgg71
  z229 := Tryz.sizeOf71
  v229 := Tryz.zeroValue71 }
end Go.Proofs.YtjlfnebkibgfmaaGreatDoor

/- The keys of a set of numbers, told by its map, collected, sorted. -/
namespace Go.Proofs.YtjlfnebkibgfmaaGreatDoor
open Go.RowKit Go.Maps
attribute [local go_sem] Oper.semAt_some

/-- What the iterator has told, and what is left. -/
structure ToldK (f : Nat → Bool) (xs : List Nat) (left : Int → Bool) : Prop where
  nd : xs.Nodup
  sub : ∀ s ∈ xs, f s = true
  left : ∀ i, left i = true ↔ 0 ≤ i ∧ f i.toNat = true ∧ i.toNat ∉ xs
theorem ToldK.start (f : Nat → Bool) : ToldK f [] (fun i => (mB f i).isSome) :=
  ⟨List.nodup_nil, fun _ h => (by cases h), fun i => by
    unfold mB
    by_cases h : 0 ≤ i ∧ f i.toNat = true
    · rw [if_pos h]; simp [h]
    · rw [if_neg h]
      simp only [Option.isSome_none, Bool.false_eq_true, List.not_mem_nil, not_false_eq_true, and_true, false_iff]
      exact h⟩
theorem ToldK.next {f : Nat → Bool} {xs : List Nat} {left : Int → Bool} (h : ToldK f xs left) {i : Int} (hl : left i = true) : ∃ s : Nat, i = (s : Int) ∧ f s = true ∧ s ∉ xs ∧ ToldK f (xs ++ [s]) (fun j => left j && !decide (j = i)) := by
  obtain ⟨h0, h1, h2⟩ := (h.left i).1 hl
  refine ⟨i.toNat, by omega, h1, h2, List.nodup_append.2 ⟨h.nd, by simp, fun a ha b hb e => by simp at hb; subst hb; subst e; exact h2 ha⟩, fun s hs => ?_, fun j => ?_⟩
  · rcases List.mem_append.1 hs with e | e
    · exact h.sub s e
    · simp only [List.mem_singleton] at e; subst e; exact h1
  · simp only [Bool.and_eq_true, h.left j, Bool.not_eq_true', decide_eq_false_iff_not, List.mem_append, List.mem_singleton, not_or]
    constructor
    · rintro ⟨⟨a, b, c⟩, d⟩; exact ⟨a, b, c, fun e => d (by omega)⟩
    · rintro ⟨a, b, c, d⟩; exact ⟨⟨a, b, c⟩, fun e => d (by rw [e])⟩
/-- The numbers of a set, rising. -/
def keysL (f : Nat → Bool) (N : Nat) : List Nat := (List.range N).filter f
theorem ToldK.done {f : Nat → Bool} {xs : List Nat} {left : Int → Bool} {N : Nat} (h : ToldK f xs left) (hl : ∀ i, left i = false) (hN : ∀ s, f s = true → s < N) : xs.Perm (keysL f N) := by
  refine (List.perm_ext_iff_of_nodup h.nd (List.nodup_range.filter _)).2 fun s => ?_
  show s ∈ xs ↔ s ∈ (List.range N).filter f
  rw [List.mem_filter, List.mem_range]
  constructor
  · intro e; exact ⟨hN s (h.sub s e), h.sub s e⟩
  · rintro ⟨-, e⟩
    by_cases hm : s ∈ xs
    · exact hm
    · have := (h.left (s : Int)).2 ⟨by omega, by simpa using e, by simpa using hm⟩
      rw [hl] at this
      cases this
theorem ToldK.len {f : Nat → Bool} {xs : List Nat} {left : Int → Bool} {N : Nat} (h : ToldK f xs left) (hN : ∀ s, f s = true → s < N) : xs.length ≤ N := by
  have := List.Nodup.length_le_of_subset h.nd (l₂ := List.range N) fun s hs => List.mem_range.2 (hN s (h.sub s hs))
  rwa [List.length_range] at this

theorem mkeys_any (R : Nat) (w W : World) (hW : w.alloc (.cells #[.map (some R)] 46) = W) :
    Calls Tryz.prog 52 #[.map (some R)] w fun e w' => e = .returned (.func (.func 70) #[] #[.pointer (some ⟨w.heap.size, 0, none⟩)]) ∧ W = w' := by
  subst hW
  go_enter Tryz.func52, Tryz.ntmps52
  go_wp2
  go_ret
  exact ⟨rfl, rfl⟩

set_option maxRecDepth 100000 in
set_option maxHeartbeats 800000 in
theorem mkeys_iter (bb y R s0 N : Nat) (f : Nat → Bool) (J : List Nat → World → Prop) (w : World) (hN : ∀ s, f s = true → s < N)
    (hin : ∀ xs W, J xs W → Blk W bb 46 #[.map (some R)] ∧ IMap Tryz.prog 3 W R (mB f) s0)
    (hgr : ∀ xs W W', J xs W → Grew W W' → J xs W')
    (hkp : ∀ xs W W' it, J xs W → w.heap.size ≤ it → Kept it W W' → J xs W')
    (hyld : ∀ xs s W it o, J xs W → It W it o → w.heap.size ≤ it → f s = true → xs.length < N → YieldAt Fence.wide 0 Tryz.prog y #[.int .i64 s] W fun e w' => e = .returned (.bool true) ∧ J (xs ++ [s]) w' ∧ It w' it o ∧ w'.heap[R]? = W.heap[R]?)
    (h0 : J [] w) :
    Calls Tryz.prog 70 #[.func (.yield y) #[] #[], .pointer (some ⟨bb, 0, none⟩)] w fun e w' => (∃ v, e = .returned v) ∧ ∃ xs, xs.Perm (keysL f N) ∧ J xs w' := by
  obtain ⟨c1, f1, s1⟩ := (hin [] w h0).1.facts
  have HM := Lib.hid (hin [] w h0).2
  have Hgr := Lib.hid hgr
  have Hkp := Lib.hid hkp
  have Hyld := Lib.hid hyld
  have H0 := Lib.hid h0
  have HN := Lib.hid hN
  clear hin hgr hyld h0 hkp hN
  (refine (callsIn_wide (n := 1)).1 (callsIn_of_wp Tryz.func70 rfl trivial ?_ rfl); simp only [Tryz.ntmps70, List.size_toArray, List.length_cons, List.length_nil, Nat.reduceAdd, Nat.reduceSub, Array.replicate_succ, Array.replicate_zero, List.push_toArray, List.append_toArray, List.nil_append, List.cons_append])
  gi_wp2_with (gi_at_range; refine wpListIn_range_im rfl _ 46 rfl HM.out kInt Tryz.underlying46 (by rfl) ?_; intro w1 hi1 hg1 hz1)
  have HJ1 := Lib.hid (Hgr.out _ _ _ H0.out hg1)
  have HI1 := Lib.hid hi1
  clear hi1 hg1 c1 f1 s1
  go_frame
  gi_loopg [3] s0 (fun n v wr => ∃ (cnt : Nat) (xs : List Nat) (left : Int → Bool), cnt ≤ n ∧ J xs wr ∧ IIt Tryz.prog 3 wr R w.heap.size (mB f) s0 left cnt ∧ ToldK f xs left)
  case atStart => exact ⟨s0, [], _, Nat.le_refl _, HJ1.out, HI1.out, ToldK.start f⟩
  case round =>
    obtain ⟨cnt, xs, left, hcn, hJ, hI, hT⟩ := hrel
    have HJ := Lib.hid hJ
    have HI := Lib.hid hI
    have HT := Lib.hid hT
    clear hJ hI hT
    gi_wp2_with (gi_at_next; refine wpListIn_next_im rfl _ rfl HI.out kInt Tryz.underlying3 rfl ?_ ?_)
    · intro hc0 hl0
      have HL0 := Lib.hid hl0
      clear hc0 hl0
      gi_wp2
      refine bodyPost_end (results_none rfl _ _ _) rfl ?_
      exact ⟨⟨_, rfl⟩, xs, HT.out.done HL0.out HN.out, HJ.out⟩
    · intro i v w2 cnt2 hl hv hi2 hlt hk2 hz2 hen
      obtain ⟨s, rfl, hs, hsx, hT2⟩ := HT.out.next hl
      have HJ2 := Lib.hid (Hkp.out _ _ _ _ HJ.out (Nat.le_refl _) hk2)
      have HI2 := Lib.hid hi2
      have HT2 := Lib.hid hT2
      obtain ⟨o, ho⟩ := hi2.has
      have HO := Lib.hid ho
      have hxl : xs.length < N := by
        have h1 : (xs ++ [s]).length ≤ N := hT2.len HN.out
        rw [List.length_append] at h1
        exact h1
      obtain ⟨fn, tmps, assign, body, hy, hR⟩ := Hyld.out xs s _ w.heap.size o HJ2.out HO.out (Nat.le_refl _) hs hxl
      have HR := Lib.hid hR
      clear hl hv hi2 hk2 hT2 ho hs hsx hR hxl
      gi_wp2_with (refine HR.out.mono ?_; rintro e w3 ⟨rfl, hJ3, hO3, hR3⟩; have HJ3 := Lib.hid (And.intro hJ3 (And.intro hO3 hR3)); clear hJ3 hO3 hR3)
      gi_roundg cnt2
      case measure => omega
      case rel => exact ⟨cnt2, _, _, Nat.le_refl _, HJ3.out.1, HI2.out.same HO.out HJ3.out.2.2 HJ3.out.2.1, HT2.out⟩

/-- What has been collected: box B holds a slice of memory that was made since Wr. -/
def CollK (Wr W : World) (B : Nat) (xs : List Nat) : Prop := ∃ v, Blk W B 41 #[v] ∧ W.ownsRow Wr.heap.size 3 1 v xs.length (nv xs)
theorem CollK.grew {w W W' : World} {B : Nat} {xs : List Nat} (h : CollK w W B xs) (hg : Grew W W') : CollK w W' B xs := by
  obtain ⟨v, hb, ho⟩ := h
  exact ⟨v, hb.grew hg, own_grew ho hg⟩
theorem CollK.kept {w W W' : World} {B k : Nat} {xs : List Nat} (h : CollK w W B xs) (hk : Kept k W W') : CollK w W' B xs := by
  obtain ⟨v, hb, ho⟩ := h
  exact ⟨v, hb.kept hk, own_kept ho hk⟩
/-- One more, appended and stored back. -/
theorem CollK.more {w W W1 : World} {F : Nat → Prop} {B n x : Nat} {xs : List Nat} {v v' : Value} (hb : Blk W B 41 #[v]) (ho : W.ownsRow w.heap.size 3 1 v xs.length (nv xs)) (hw : Chg F w W) (hB : F B)
    (hn : n = xs.length + 1) (ho' : W1.ownsRow w.heap.size 3 1 v' n (nv xs ++ [.int .i64 x])) (hg : W.grownBy W1 v.ownBlock) :
    Blk W1 B 41 #[v] ∧ Chg F w (W1.setCell ⟨B, 0, none⟩ v') ∧ CollK w (W1.setCell ⟨B, 0, none⟩ v') B (xs ++ [x]) ∧ Chg (fun j => some j = v.ownBlock ∨ j = B) W (W1.setCell ⟨B, 0, none⟩ v') := by
  have hne : some B ≠ v.ownBlock := fun e => own_blk_ne ho hb (by decide) e.symm
  have hb1 := hb.grown hg hne
  have hw1 : Chg F w W1 := hw.grown hg fun k hk hlt => by
    have := (ho.lt k hk).1; omega
  refine ⟨hb1, hw1.setCell (p := ⟨B, 0, none⟩) (fun h => hB) _, ⟨v', ?_, ?_⟩, ?_⟩
  · have := hb1.put 0 v'
    simpa using this
  · have hc : Chg (fun j => j = B) W1 (W1.setCell ⟨B, 0, none⟩ v') := (Chg.refl (fun j => j = B) W1).setCell (p := ⟨B, 0, none⟩) (fun _ => rfl) _
    have := own_chg ho' hc fun g hg e => own_blk_ne ho' hb1 (by decide) (by rw [hg, e])
    subst hn
    simpa [nv] using this
  · exact ((Chg.refl _ W).grown hg fun k hk _ => .inl hk.symm).setCell (p := ⟨B, 0, none⟩) (fun _ => .inr rfl) _
theorem Rec.collK {w W X : World} {B L : Nat} {xs : List Nat} {v : Value} {r : Loop} (h : Rec W L r) (ho : W.ownsRow w.heap.size 3 1 v xs.length (nv xs)) (hb : Blk W B 41 #[v]) (hc : Chg (fun j => some j = v.ownBlock ∨ j = B) W X) : Rec X L r :=
  h.chg hc fun e => by
    rcases e with e | e
    · exact own_noBook ho e.symm h.isBook
    · exact h.ne_blk hb e
theorem Dfr.collK {w W X : World} {B L : Nat} {xs : List Nat} {v : Value} (h : Dfr W L) (ho : W.ownsRow w.heap.size 3 1 v xs.length (nv xs)) (hb : Blk W B 41 #[v]) (hc : Chg (fun j => some j = v.ownBlock ∨ j = B) W X) : Dfr X L :=
  h.chg hc fun e => by
    rcases e with e | e
    · exact own_noBook ho e.symm h.isBook
    · exact h.ne_blk hb e
/-- Between two rounds. -/
def CollKJ (Wr W : World) (B D L : Nat) (r : Loop) (xs : List Nat) : Prop := Chg (fun j => j = B ∨ j = L) Wr W ∧ CollK Wr W B xs ∧ Dfr W D ∧ Rec W L (Loop.at_ r .ready none)
theorem CollKJ.grew {Wr W W' : World} {B D L : Nat} {r : Loop} {xs : List Nat} (h : CollKJ Wr W B D L r xs) (hg : Grew W W') : CollKJ Wr W' B D L r xs := ⟨h.1.grew hg, h.2.1.grew hg, h.2.2.1.grew hg, h.2.2.2.grew hg⟩
theorem CollKJ.itr {Wr W W' : World} {B D L it : Nat} {r : Loop} {xs : List Nat} (h : CollKJ Wr W B D L r xs) (hge : Wr.heap.size ≤ it) (hk : Kept it W W') (hD : D < Wr.heap.size) (hL : L < Wr.heap.size) : CollKJ Wr W' B D L r xs :=
  ⟨Chg.trans h.1 hk.chg fun i hi e => by omega, h.2.1.kept hk, h.2.2.1.kept hk (by omega), h.2.2.2.kept hk (by omega)⟩

set_option maxRecDepth 100000 in
set_option maxHeartbeats 1600000 in
theorem kappend_any (bs R s0 N : Nat) (f : Nat → Bool) (w : World) (hb : Blk w bs 46 #[.map (some R)]) (hm : IMap Tryz.prog 3 w R (mB f) s0) (hN : ∀ s, f s = true → s < N) (hl : N ≤ 1000000) :
    Calls Tryz.prog 85 #[.slice none 0 0, .func (.func 70) #[] #[.pointer (some ⟨bs, 0, none⟩)]] w fun e w' => ∃ l : List Nat, l.Perm (keysL f N) ∧ OwnOut w w' 3 1 l.length (nv l) (fun A c => .slice A l.length c) e := by
  have hbw := hb.lt
  have hmw := hm.lt
  have H := Lib.hid (And.intro hb (And.intro hm hN))
  clear hb hm hN
  (refine calls_of_marks Tryz.func85 rfl ?_; simp only [Tryz.ntmps85, List.size_toArray, List.length_cons, List.length_nil, Nat.reduceAdd, Nat.reduceSub, Array.replicate_succ, Array.replicate_zero, List.push_toArray, List.append_toArray, List.nil_append, List.cons_append])
  go_wp2_with fail
  obtain ⟨W0, hW0⟩ : ∃ W0, w.alloc (.cells #[.slice none 0 0] 41) = W0 := ⟨_, rfl⟩
  have HG0 := Lib.hid (show Grew w W0 from hW0 ▸ (Chg.refl _ _).alloc _)
  have HB := Lib.hid (show Blk W0 w.heap.size 41 #[.slice none 0 0] from hW0 ▸ Blk.new _ _ _)
  rw [hW0]
  clear hW0
  refine wp_range (gf := 70) (lb := #[.pointer (some ⟨bs, 0, none⟩)]) rfl (enters_of Tryz.func70 (by kernel_rfl) rfl) ?_
  intro r W2 D L hr hg1 hDl hLl hD hR
  have HR1 := Lib.hid hr
  have HG1 := Lib.hid (Grew.trans HG0.out hg1)
  have hDL := Ne.symm (hR.ne_dfr hD)
  have hz0 := HB.out.lt
  have hz3 := hg1.size
  have hL2 := hR.lt
  have hD2 := hD.lt
  have HI := Lib.hid (And.intro (H.out.1.grew HG1.out) (H.out.2.1.grew HG1.out))
  have HJ0 := Lib.hid (show CollKJ W2 W2 w.heap.size D L r [] from ⟨Chg.refl _ _, ⟨_, HB.out.grew hg1, World.ownsRow_nil _ _ _ _⟩, hD, hR⟩)
  clear hr hg1 hD hR
  refine (mkeys_iter bs L R s0 N f (fun xs W => CollKJ W2 W w.heap.size D L r xs) W2 H.out.2.2
    (fun k W hJ => ⟨HI.out.1.chg hJ.1 (by omega), HI.out.2.chg hJ.1 (by omega)⟩) (fun k W W' hJ hg => hJ.grew hg) (fun k W W' it hJ hge hk => hJ.itr hge hk hD2 hL2) (fun xs x1 W it o hJ hit hge hx hlx => ?yld) HJ0.out).mono ?post
  case yld =>
    have HX := Lib.hid hx
    have hws := hJ.1.size
    have HR := Lib.hid hJ.2.2.2
    have HD := Lib.hid hJ.2.2.1
    have HT := Lib.hid hit
    obtain ⟨v, hv1, hv2⟩ := hJ.2.1
    have HV := Lib.hid (And.intro hv1 (And.intro hv2 hJ.1))
    have hneL : it ≠ L := by omega
    clear hJ hx hv1 hv2 hit
    obtain ⟨hr1, hr2, hr3, hr4⟩ := HR1.out
    refine yield_wide HR.out (by rw [hr2]; rfl) ?_
    rw [hr1, hr2, hr3, hr4]
    clear hr1 hr2 hr3 hr4
    intro K hK
    have HK := Lib.hid hK
    clear hK
    gi_wp2
    refine HK.out _ _ HR.out fun W3 Q hk hR2 hQ => ?_
    have HQ := Lib.hid hQ
    have HV1 := Lib.hid (HV.out.1.kept hk)
    have HV2 := Lib.hid (own_kept HV.out.2.1 hk)
    have HV3 := Lib.hid (Chg.trans HV.out.2.2 hk.chg fun i _ e => .inr e)
    have HW5 := Lib.hid hR2
    have HW6 := Lib.hid (HD.out.kept hk hDL)
    have HT3 := Lib.hid (HT.out.chg hk.chg hneL)
    have hRm : W3.heap[R]? = W.heap[R]? := hk.chg.block R (by omega) (by omega)
    have HRm := Lib.hid hRm
    have hsz : W.heap.size ≤ W3.heap.size := hk.chg.size
    clear hk hR2 hQ hRm
    obtain ⟨c2, f2, s2⟩ := HV1.out.facts
    have hle2 : xs.length ≤ 1000000 := by omega
    obtain ⟨i0, hi, hz0', hz1, hz2⟩ := info_parts i64Info_
    have HV2a := Lib.hid (own_grew HV2.out ((Chg.refl NoF W3).alloc (.cells #[.int .i64 x1] 3)))
    have HT4 := Lib.hid (HT3.out.grew ((Chg.refl NoF W3).alloc (.cells #[.int .i64 x1] 3)))
    gi_wp2_with (gi_at_builtin; refine wpListIn_append_own_at _ (by rfl) _ _ 41 (by rfl) W2.heap.size 3 i0 (.int .i64 0) 1 8 Tryz.underlying41 hi hz0' hz1 hz2 rfl (by decide) v _ _ (by rfl) HV2a.out ⟨W3.heap.size, 0, none⟩ 1 1 [.int .i64 x1] (by rfl) (by rfl) (news_one _ _ _) (by simp [Value.oneCell']) (by simp only [maxLen]; omega) (by omega) (by simp; omega) ?_; intro v' w5 ho5 hg5 _ _; obtain ⟨g', cap', rfl⟩ := ownsRow_succ ho5; have HM := Lib.hid (CollK.more (HV1.out.alloc _) HV2a.out (HV3.out.alloc _) (.inl rfl) rfl ho5 hg5); clear ho5 hg5; obtain ⟨c5, f5, s5⟩ := HM.out.1.facts)
    refine HQ.out _ _ _ ⟨(HW5.out.alloc _).collK HV2a.out (HV1.out.alloc _) HM.out.2.2.2, fun w' hk' hR' => ⟨rfl, ⟨Chg.trans HM.out.2.1 hk'.chg fun i _ e => .inr e, HM.out.2.2.1.kept hk', ((HW6.out.alloc _).collK HV2a.out (HV1.out.alloc _) HM.out.2.2.2).kept hk' hDL, hR'⟩,
      (HT4.out.chg HM.out.2.2.2 (fun e => by rcases e with e | e; exact own_noBook HV2a.out e.symm HT4.out.book; exact (HV1.out.alloc _).noBook (e ▸ HT4.out.book))).chg hk'.chg hneL, ?_⟩⟩
    have hRw : R < W.heap.size := by omega
    refine (hk'.chg.block R ?_ (by omega)).trans ((HM.out.2.2.2.block R ?_ ?_).trans ((Below.heap_alloc _ _ _ (by omega)).trans HRm.out))
    · have := HM.out.2.2.2.size; simp only [World.size_alloc] at this; omega
    · simp only [World.size_alloc]; omega
    · rintro (e | e)
      · have := (HV2a.out.lt R e.symm).1; omega
      · omega
  case post =>
    rintro e w3 ⟨hv, l, hpl, hJ⟩
    refine ⟨hv, .inl ⟨hJ.2.2.2, fun w4 hk4 => ?_⟩⟩
    obtain ⟨v, hv1, hv2⟩ := hJ.2.1
    obtain ⟨A', c', rfl, _⟩ := own_shape hv2
    have HV := Lib.hid (And.intro (hv1.kept hk4) (own_kept hv2 hk4))
    have HD := Lib.hid (hJ.2.2.1.kept hk4 hDL)
    have HC := Lib.hid (Chg.trans hJ.1 hk4.chg fun i _ e => .inr e)
    have HP := Lib.hid hpl
    clear hJ hk4 hv1 hv2 hpl
    obtain ⟨c2, f2, s2⟩ := HV.out.1.facts
    go_wp2
    refine postM_ret1 (v := .slice A' l.length c') HD.out rfl fun w5 hk5 => ⟨by simp [results, Tryz.results85, go_sem], l, HP.out, A', c', rfl, own_base (own_kept HV.out.2 hk5) (by have := HG1.out.size; omega), ?_⟩
    have hF : Grew w w4 := by
      refine Chg.mono (Chg.trans (F := fun j => w.heap.size ≤ j) HG1.out.chg HC.out fun i hi e => ?_) fun i hi e => absurd e (by omega)
      rcases e with e | e <;> omega
    exact Chg.kept hF hk5 (by omega)

end Go.Proofs.YtjlfnebkibgfmaaGreatDoor

/- The keys of a set of numbers, sorted. -/
namespace Go.Proofs.YtjlfnebkibgfmaaGreatDoor
open Go.RowKit Go.Maps Go.Shelf Go.Sort

theorem putCells_takeI {cur : Array Value} {F : Array Int} (h : F.size ≤ cur.size) : (putCells (Value.int .i64) 0 F cur).toList.take F.size = F.toList.map (Value.int .i64) := by
  apply List.ext_getElem?
  intro j
  by_cases hj : j < F.size
  · rw [List.getElem?_take_of_lt hj, Array.getElem?_toList]
    simp [putCells, hj, show j < cur.size by omega]
  · rw [List.getElem?_take_eq_none (by omega), List.getElem?_eq_none (by simp; omega)]
theorem own_sortedI {w : World} {base g cap n : Nat} {e : TypeId} {os : Array Obj} {l : List Nat} {ys : List Int} (h : w.ownsRow base e 1 (.slice (some ⟨g, 0, none⟩) l.length cap) l.length (nv l)) (hl : ys.length = l.length) :
    (grow (putRow (Value.int .i64) (Sort.ahead w n) g 0 ys.toArray) os).ownsRow base e 1 (.slice (some ⟨g, 0, none⟩) l.length cap) l.length (ys.map (Value.int .i64)) ∧ w.grownBy (grow (putRow (Value.int .i64) (Sort.ahead w n) g 0 ys.toArray) os) (some g) := by
  obtain ⟨cur, hb, hg, hnc, hcm, hcs, htake, hxl⟩ := own_row h
  have hgl : g < w.heap.size := (Array.getElem?_eq_some_iff.1 hg).1
  have hh : (grow (putRow (Value.int .i64) (Sort.ahead w n) g 0 ys.toArray) os).heap[g]? = some (.cells (putCells (Value.int .i64) 0 ys.toArray cur) e (0, 0)) := by
    rw [heap_grow_old _ _ (by simpa [putRow, mapBlock, Sort.ahead] using hgl)]
    simp [putRow, mapBlock, Sort.ahead, Array.getElem?_modify, hg, onCells]
  refine ⟨⟨by simp [hl], .inr ⟨g, cap, _, rfl, hb, hh, hnc, hcm, by simp [putCells, hcs], ?_⟩⟩, rfl, rfl, rfl, by simp [putRow, mapBlock, Sort.ahead, grow], fun k hk hne => ?_⟩
  · have := putCells_takeI (cur := cur) (F := ys.toArray) (by simp [hl]; omega)
    rw [Nat.mul_one, ← hl]
    simpa using this
  · rw [heap_grow_old _ _ (by simpa [putRow, mapBlock, Sort.ahead] using hk)]
    have : g ≠ k := fun e => hne (by rw [e])
    simp [putRow, mapBlock, Sort.ahead, Array.getElem?_modify, this]
/-- The same numbers, rising. -/
theorem sorted_is {l : List Nat} {f : Nat → Bool} {N : Nat} (h : l.Perm (keysL f N)) : (l.map fun n : Nat => (n : Int)).mergeSort (fun x y => decide (x ≤ y)) = (keysL f N).map fun n : Nat => (n : Int) := by
  have h1 := List.pairwise_mergeSort (le := fun x y : Int => decide (x ≤ y)) (fun a b c hab hbc => by simp at *; omega) (fun a b => by simp; omega) (l.map fun n : Nat => (n : Int))
  have h2 : ((keysL f N).map fun n : Nat => (n : Int)).Pairwise fun a b => decide (a ≤ b) = true := by
    rw [List.pairwise_map]
    have : (keysL f N).Pairwise (· < ·) := List.Pairwise.filter _ List.pairwise_lt_range
    exact this.imp fun hab => by simp; omega
  refine List.Perm.eq_of_pairwise (le := fun a b : Int => decide (a ≤ b) = true) (fun a b _ _ hab hba => by simp at *; omega) h1 h2 ?_
  exact (List.mergeSort_perm _ _).trans (h.map _)

set_option maxRecDepth 100000 in
set_option maxHeartbeats 800000 in
theorem ksorted_any (bs R s0 N : Nat) (f : Nat → Bool) (w : World) (hb : Blk w bs 46 #[.map (some R)]) (hm : IMap Tryz.prog 3 w R (mB f) s0) (hN : ∀ s, f s = true → s < N) (hl : N ≤ 1000000) (hne : 0 < (keysL f N).length) :
    Calls Tryz.prog 51 #[.func (.func 70) #[] #[.pointer (some ⟨bs, 0, none⟩)]] w fun e w' => OwnOut w w' 3 1 (keysL f N).length (nv (keysL f N)) (fun A c => .slice A (keysL f N).length c) e := by
  have H := Lib.hid (kappend_any bs R s0 N f w hb hm hN hl)
  have hcol : Calls Tryz.prog 68 #[.func (.func 70) #[] #[.pointer (some ⟨bs, 0, none⟩)]] w fun e w' => ∃ l : List Nat, l.Perm (keysL f N) ∧ OwnOut w w' 3 1 l.length (nv l) (fun A c => .slice A l.length c) e := by
    clear hb hm hN
    go_enter Tryz.func68, Tryz.ntmps68
    go_wp2_with fail
    refine H.out.mono ?_
    rintro e w1 ⟨l, hp, A, c, rfl, ho, hg⟩
    have HO := Lib.hid (And.intro hp (And.intro ho hg))
    clear hp ho hg
    go_wp2_with fail
    go_ret
    exact ⟨l, HO.out.1, A, c, rfl, HO.out.2.1, HO.out.2.2⟩
  have HC := Lib.hid hcol
  clear hb hm hcol
  go_enter Tryz.func51, Tryz.ntmps51
  go_wp2_with fail
  refine HC.out.mono ?_
  rintro e w1 ⟨l, hp, A, c, rfl, ho, hg⟩
  have hll : l.length = (keysL f N).length := hp.length_eq
  have hlN : l.length ≤ N := by rw [hll]; unfold keysL; exact Nat.le_trans (List.length_filter_le _ _) (by simp)
  cases A with
  | none =>
    obtain ⟨h0, rfl⟩ := own_none ho
    omega
  | some a =>
    obtain ⟨g, rfl, hgl⟩ := own_some ho
    have hzl : (l.map fun n : Nat => (n : Int)).length = l.length := by simp
    have hso := Any.slices_Sort_int sortInt g 0 c (l.map fun n : Nat => (n : Int)) w1 (fun j hj => by
      have hj' : j < l.length := by simpa using hj
      obtain ⟨cur, hb, hgc, hnc, hcm, hcs, htake, hxl⟩ := own_row ho
      refine ⟨?_, by simp [World.frozen?, hgc]⟩
      have := ho.cells (g := g) rfl j (.int .i64 (l[j] : Int)) (by simp [nv, hj'])
      rw [Addr.add_lit] at this
      rw [this]
      simp [hj']) hgl (by rw [hzl]; omega)
    rw [hzl, sorted_is hp] at hso
    have hso2 : Calls Tryz.prog 69 #[.slice (some ⟨g, 0, none⟩) l.length c] w1 fun e w' => e = .returned (.tuple #[]) ∧ ∃ n os, w' = grow (putRow (Value.int .i64) (Sort.ahead w1 n) g 0 ((keysL f N).map fun n : Nat => (n : Int)).toArray) os := hso
    clear hso
    have HO := Lib.hid (And.intro hp (And.intro ho (And.intro hg hll)))
    clear hp ho hg
    rw [hll] at hso2
    have HS := Lib.hid hso2
    clear hso2
    go_wp2_with fail
    refine HS.out.mono ?_
    rintro e w2 ⟨rfl, n, os, rfl⟩
    have hr := own_sortedI (n := n) (os := os) HO.out.2.1 (ys := (keysL f N).map fun n : Nat => (n : Int)) (by simp [hll])
    obtain ⟨W2, hW2⟩ : ∃ W2, grow (putRow (Value.int .i64) (Sort.ahead w1 n) g 0 ((keysL f N).map fun n : Nat => (n : Int)).toArray) os = W2 := ⟨_, rfl⟩
    rw [hW2] at hr ⊢
    have HR := Lib.hid hr
    clear hr hW2
    go_wp2_with fail
    go_ret
    refine OwnOut.mk (some ⟨g, 0, none⟩) c rfl ?_ (HO.out.2.2.1.grown HR.out.2 fun k hk hlt => by injection hk with hk; have := (HO.out.2.1.lt g rfl).1; omega)
    rw [← hll]
    have := HR.out.1
    rw [List.map_map] at this
    exact this

end Go.Proofs.YtjlfnebkibgfmaaGreatDoor

/- The disk: Flush. -/
namespace Go.Proofs.YtjlfnebkibgfmaaGreatDoor
open Go.RowKit Go.Maps
open Go.ChangeMaps (setBlock)

theorem imap_clear {P : Program} {k t e : TypeId} {w : World} {b s : Nat} {m : Int → Option Value} (h : IMap P k w b m s) (ht : P.underlying t = some (.map k e)) (ty : TypeId) :
    ∃ w', (Builtin.clear_ #[t] ty #[.map (some b)]).run P w = .ok (.tuple #[]) w' ∧ IMap P k w' b (fun _ => none) 0 ∧ Chg (fun j => j = b) w w' := by
  obtain ⟨D, ⟨es, clock, hb, hf, -⟩, -⟩ := h
  have hlt : b < w.heap.size := (Array.getElem?_eq_some_iff.1 hb).1
  refine ⟨{ w with heap := w.heap.setIfInBounds b (.map #[] clock) }, ?_, ⟨.map [], ⟨#[], clock, ?_, ⟨by simp, MapKept.stamped_empty clock, by simp⟩, Nat.le_refl _, rfl⟩, rfl, ⟨fun _ _ => rfl, fun _ _ h => by cases h⟩⟩, ⟨rfl, rfl, rfl, by simp, fun j hj hn => ?_⟩⟩
  · simp [Builtin.clear_, run_underlying ht, MapKept.run_getObj_map hb, MapKept.run_setObj_map _ hb, Result.andThen]
  · simp [hlt]
  · simp [Array.getElem?_setIfInBounds, Ne.symm hn]

/-- All is on the disk. -/
def Dk.flushed (D : Dk) : Dk := { D with data := fun i => D.rd (i : Int), cache := fun _ => none, done := wrap64 (D.done + 1) }
theorem Dk.flushed_rd (D : Dk) (i : Nat) : D.flushed.rd (i : Int) = D.rd (i : Int) := by
  unfold Dk.flushed
  rw [Dk.rd_none rfl]
  simp

theorem own_noMap {w : World} {b n s b2 s2 : Nat} {e kt : TypeId} {v : Value} {xs : List Value} {P : Program} {m : Int → Option Value} (h : w.ownsRow b e n v s xs) (k : IMap P kt w b2 m s2) : v.ownBlock ≠ some b2 := by
  intro he
  rcases h.2 with ⟨rfl, _⟩ | ⟨g', cap, cur, rfl, _, hh, _⟩
  · simp [Value.ownBlock] at he
  · have : g' = b2 := by simpa [Value.ownBlock] using he
    subst this
    obtain ⟨D, ⟨es, clock, hb, -⟩, -⟩ := k
    rw [hh] at hb
    cases hb

/-- Between two entries. -/
structure FluJ (w W : World) (d n c g M it s q : Nat) (cs : Array Value) (vs : List Value) (cm : Int → Option Value) (left : Int → Bool) : Prop where
  blk : Blk W d 70 cs
  row : ∃ vs', W.ownsRow 0 22 1 (.slice (some ⟨g, 0, none⟩) n c) n vs' ∧ ∀ i, i < n → vs'[i]? = if left (i : Int) then vs[i]? else (match cm i with | some v => some v | none => vs[i]?)
  it_ : IIt Tryz.prog 3 W M it cm s left q
  chg : Chg (fun j => j = g) w W

set_option maxRecDepth 100000 in
set_option maxHeartbeats 1600000 in
theorem dflush_ok (d : Nat) (F : Nat → Prop) (D : Dk) (w : World) (h : DS w d F D) (hd : D.down = false) (ha : D.armed = false) :
    Calls Tryz.prog 28 #[.pointer (some ⟨d, 0, none⟩)] w fun e w' => e = .returned (.int .i64 0) ∧ DTo w w' d F D.flushed := by
  have HC := Lib.hid (dcommand_ok d F D w h ha)
  have hb0 : ∃ cs, Blk w d 70 cs ∧ cs[5]? = some (.bool false) := by
    obtain ⟨⟨A, c, M, s, vs, cm, hi⟩, -⟩ := h
    exact ⟨_, hi.blk, by rw [hd]; rfl⟩
  obtain ⟨cs0, hb0, h05⟩ := hb0
  have c05 := hb0.cell 5
  rw [h05] at c05
  have s05 := hb0.lt
  clear h hb0 h05
  go_enter Tryz.func28, Tryz.ntmps28
  go_wp2_with fail
  refine HC.out.mono ?_
  clear c05 s05
  rintro e w1 ⟨rfl, F1, ⟨⟨A, c, M, s, vs, cm, hi⟩, hl0⟩, hc1, hn1⟩
  obtain ⟨g, rfl, hg⟩ := own_block hi.row (by have := hi.sml.1; exact Nat.lt_of_lt_of_le Nat.zero_lt_one this)
  obtain ⟨w2, hrg, hI2, hg2, hz2⟩ := hi.map.range_ (t := 67) kInt Tryz.underlying67
  obtain ⟨it, hit⟩ : ∃ it, w1.heap.size = it := ⟨_, rfl⟩
  rw [hit] at hrg hI2
  have hsm := hi.sml
  dsimp only at hsm
  obtain ⟨c0, f0, s0⟩ := hi.blk.facts
  have hB2 := hi.blk.grew hg2
  obtain ⟨cs, hcs⟩ : ∃ cs : Array Value, (#[.int .i64 D.sz, .slice (some ⟨g, 0, none⟩) D.n c, .map (some M), .bool D.armed, .int .i64 D.left, .bool D.down, .int .i64 (wrap64 (D.done + 1))] : Array Value) = cs := ⟨_, rfl⟩
  have HJ0 := Lib.hid (show FluJ w1 w2 d D.n c g M it s s cs vs cm (fun i => (cm i).isSome) from ⟨hcs ▸ hB2, ⟨vs, own_grew hi.row hg2, fun i _ => by
    cases hm : cm (i : Int) with
    | none => simp [hm]
    | some v => simp [hm]⟩, hI2, hg2.chg⟩)
  have H1 := Lib.hid (And.intro hi (And.intro hl0 (And.intro hc1 (And.intro hn1 (And.intro hg2 (And.intro hit hcs))))))
  clear hi hl0 hc1 hn1 hg2 hI2 hB2 hz2
  go_wp2_with fail
  clear hrg c0 f0
  go_loopg [] s (fun q wr => ∃ left : Int → Bool, FluJ w1 wr d D.n c g M it s q cs vs cm left)
  case atStart => exact ⟨_, HJ0.out⟩
  case round =>
    obtain ⟨left, hJ⟩ := hrel
    obtain ⟨ob, hob⟩ := hJ.it_.has
    rcases hJ.it_.next kInt Tryz.underlying3 0 with ⟨h0, hl, hrun⟩ | ⟨i, v, w3, q', hli, hmi, hrun, hI3, hq, hk3, hz3, hen⟩
    · have hbk := hJ.blk
      rw [← H1.out.2.2.2.2.2.2] at hbk
      obtain ⟨c1, f1, s1⟩ := hbk.facts
      obtain ⟨w4, hcl, hm4, hc4⟩ := imap_clear hJ.it_.imap (t := 67) Tryz.underlying67 0
      have HD := Lib.hid (And.intro hJ (And.intro hl (And.intro hm4 hc4)))
      clear hJ hl hob hbk hm4 hc4
      go_wp2
      go_ret
      refine ⟨rfl, ?_⟩
      obtain ⟨hi, hl0, hc1, hn1, hg2, hit, hcs⟩ := H1.out
      obtain ⟨hJ, hl, hm4, hc4⟩ := HD.out
      obtain ⟨vs', hr', hv'⟩ := hJ.row
      have hMd := imap_ne hi.map hi.blk
      have hgM : g ≠ M := fun e => own_noMap hi.row hi.map (by simp [Value.ownBlock, e])
      have hgd : g ≠ d := fun e => own_blk_ne hi.row hi.blk (by decide) (by simp [Value.ownBlock, e])
      have hcw : Chg (fun j => j = g ∨ j = M) w1 w4 := Chg.trans (hJ.chg.mono fun _ _ e => .inl e) hc4 fun j _ e => .inr e
      have hnb : ∀ j, (j = g ∨ j = M) → NotB w1 j := by
        rintro j (rfl | rfl)
        · exact own_notB hi.row (by decide) rfl
        · exact map_notB hi.map
      have hF : ∀ j, (j = g ∨ j = M) → F1 j := by
        rintro j (rfl | rfl)
        · exact hi.inF.2.2 _ rfl
        · exact hi.inF.2.1
      refine ⟨F1, ⟨⟨some ⟨g, 0, none⟩, c, M, 0, vs', fun _ => none, ?_, ?_, hm4, fun i hin => ?_, (fun _ _ => rfl), (fun i bs hb => by cases hb), hi.inF, ⟨hsm.1, hsm.2.1, hsm.2.2.1, hsm.2.2.2.1, Nat.zero_le _⟩⟩, fun j hj => Nat.lt_of_lt_of_le (hl0 j hj) hcw.size⟩, Chg.trans hc1 (hcw.mono fun j _ e => hF j e) (fun j hj e => (hn1 j e).resolve_right (by omega)), fun j hj => hn1 j hj⟩
      · have := hJ.blk.chg hc4 (by simpa using Ne.symm hMd)
        rw [← hcs] at this
        exact this
      · exact own_chg hr' hc4 (fun j hj e => by simp [Value.ownBlock] at hj; omega)
      · have hvi := hv' i hin
        rw [hl, if_neg (by simp)] at hvi
        cases hm : cm (i : Int) with
        | some v =>
          rw [hm] at hvi
          cases hca : D.cache (i : Int) with
          | none => have := hi.no i hca; rw [hm] at this; cases this
          | some bs =>
            obtain ⟨v', e1, e2, e3, -⟩ := hi.has i bs hca
            rw [hm] at e1
            cases e1
            have e4 : D.flushed.data i = bs := by unfold Dk.flushed; exact Dk.rd_some hca
            rw [e4]
            exact ⟨v, hvi, e2.past hcw hnb, e3⟩
        | none =>
          rw [hm] at hvi
          obtain ⟨v, e1, e2, e3⟩ := hi.dat i hin
          have hca : D.cache (i : Int) = none := by
            cases hca : D.cache (i : Int) with
            | none => rfl
            | some bs => obtain ⟨v', e1, -⟩ := hi.has i bs hca; rw [hm] at e1; cases e1
          have e4 : D.flushed.data i = D.data i := by unfold Dk.flushed; dsimp only; rw [Dk.rd_none hca]; simp
          rw [e4]
          refine ⟨v, ?_, e2.past hcw hnb, e3⟩
          rw [hvi]; exact e1
    · have hin : ∃ k : Nat, i = (k : Int) ∧ k < D.n ∧ ∃ A' n' c', v = .slice A' n' c' := by
        cases hca : D.cache i with
        | none => have := H1.out.1.no i hca; rw [hmi] at this; cases this
        | some bs =>
          obtain ⟨v', e1, e2, e3, e4, e5⟩ := H1.out.1.has i bs hca
          rw [hmi] at e1
          cases e1
          obtain ⟨A', c', e6, -⟩ := own_shape e2.1
          exact ⟨i.toNat, by omega, by have e7 : i < (D.n : Int) := e5; omega, A', _, c', e6⟩
      obtain ⟨k, rfl, hkn, A', n', c', rfl⟩ := hin
      obtain ⟨vs', hr', hv'⟩ := hJ.row
      have hitl : w1.heap.size ≤ it := by have := H1.out.2.2.2.2.2.1; omega
      have hitg : it ≠ g := by omega
      have hr3 := own_chg hr' hk3.chg (fun j hj e => by simp [Value.ownBlock] at hj; omega)
      have hB3 := hJ.blk.kept hk3
      have hst := hr3.stored k (.slice A' n' c')
      have hkl : k < vs'.length := by have := hr'.1; rw [Nat.mul_one] at this; omega
      obtain ⟨u, hu⟩ : ∃ u, vs'[k]? = some u := ⟨_, List.getElem?_eq_getElem hkl⟩
      have ck : w3.cell? ⟨g, k, none⟩ = some u := by rw [hr3.cellAt k (by rw [Nat.mul_one]; exact hkn)]; exact hu
      have fk := hr3.frozenAt k
      have sk : g < w3.heap.size := (hr3.lt g rfl).2
      have hB3' := hB3
      rw [← H1.out.2.2.2.2.2.2] at hB3'
      obtain ⟨c1, f1, s1⟩ := hB3'.facts
      have u1 : (k : Int) < (D.n : Int) := by omega
      have HR := Lib.hid (And.intro hJ (And.intro hr3 (And.intro hv' (And.intro hI3 (And.intro hk3 (And.intro hst (And.intro hB3 (And.intro hmi (And.intro hli (And.intro hitl (And.intro hob hkl)))))))))))
      clear hJ hr3 hr' hv' hI3 hk3 hst hB3 hB3' hmi hli hitl hob hkl hu hz3
      go_wp2
      obtain ⟨hJ, hr3, hv', hI3, hk3, hst, hB3, hmi, hli, hitl, hob, hkl⟩ := HR.out
      have hi := H1.out.1
      have hgd : g ≠ d := fun e => own_blk_ne hi.row hi.blk (by decide) (by simp [Value.ownBlock, e])
      have hgM : g ≠ M := fun e => own_noMap hi.row hi.map (by simp [Value.ownBlock, e])
      have hg1 := (hi.row.lt g rfl).2
      obtain ⟨ob3, hob3⟩ := hI3.has
      go_roundg q'
      case measure => exact hq
      case rel =>
        have hc4 : Chg (fun j => j = g) w3 (w3.setCell ⟨g, k, none⟩ (.slice A' n' c')) := (Chg.refl (fun j => j = g) w3).setCell (p := ⟨g, k, none⟩) (fun _ => rfl) _
        refine ⟨_, ⟨hB3.chg hc4 (Ne.symm hgd), ⟨_, hst.1, fun i hin => ?_⟩, hI3.same hob3 (hc4.block M hI3.imap.lt (Ne.symm hgM)) (hob3.chg hc4 (by omega)), Chg.trans (hJ.chg.kept hk3 hitl) hc4 fun j _ e => e⟩⟩
        by_cases e : i = k
        · subst e
          rw [List.getElem?_set_self hkl]
          simp [hmi]
        · have e2 : ¬ (i : Int) = (k : Int) := by omega
          rw [List.getElem?_set_ne (by omega), hv' i hin]
          simp [e2]

end Go.Proofs.YtjlfnebkibgfmaaGreatDoor

/- The slots: Save. -/
namespace Go.Proofs.YtjlfnebkibgfmaaGreatDoor
open Go.RowKit Go.Maps

theorem slot_any (ep q : Nat) (A : Option Addr) (n c : Nat) (w : World) (h : ep ≤ 9223372036854775807) (hq : ep % 2 = q) :
    Calls Tryz.prog 56 #[.agg #[.int .i64 ep, .slice A n c]] w fun e w' => e = .returned (.int .i64 q) ∧ Grew w w' := by
  have q1 : (ep : Int).tmod 2 = (q : Int) := by rw [Int.tmod_eq_emod_of_nonneg (by omega)]; omega
  have q2 : (ep : Int) % 2 = (q : Int) := by omega
  have q3 : q ≤ 1 := by omega
  clear hq
  go_enter Tryz.func56, Tryz.ntmps56
  go_wp2
  go_ret
  exact ⟨rfl, (Chg.refl _ _).alloc _⟩

theorem grp_mono : ∀ (m a b : Nat), a ≤ m → a ≤ b → (grp a).length ≤ (grp b).length := by
  intro m
  induction m with
  | zero =>
    intro a b ha _
    obtain rfl : a = 0 := by omega
    rw [grp_small (by omega)]
    by_cases hb : b < 128
    · rw [grp_small hb]; simp
    · rw [grp_more (by omega)]; simp
  | succ m ih =>
    intro a b ha hab
    by_cases h : a < 128
    · rw [grp_small h]
      by_cases hb : b < 128
      · rw [grp_small hb]; simp
      · rw [grp_more (by omega)]; simp
    · rw [grp_more (u := a) (by omega), grp_more (u := b) (by omega)]
      have := ih (a / 128) (b / 128) (by omega) (by omega)
      simp only [List.length_cons]
      omega
theorem grps_mono (l : List Nat) (h : ∀ n ∈ l, n < 4096) : (grps l).length ≤ (grps (List.replicate l.length 4095)).length := by
  induction l with
  | nil => simp [grps]
  | cons n l ih =>
    have h1 := ih fun x hx => h x (List.mem_cons_of_mem _ hx)
    have h2 := grp_mono _ (2 * n) (2 * 4095) (Nat.le_refl _) (by have := h n (by simp); omega)
    unfold grps at h1 ⊢
    rw [List.length_cons, List.replicate_succ, List.flatMap_cons, List.flatMap_cons, List.length_append, List.length_append]
    omega
/-- A root of so many numbers fits where the greatest one does. -/
theorem body_fits {ep sz : Nat} {l : List Nat} (h : fitsN l.length sz = true) (h2 : ep ≤ 1099511627776) (hg : ∀ n ∈ l, n < 4096) : (bodyL ep l).length + 14 ≤ sz := by
  have h1 := of_decide_eq_true h
  have h3 := grp_mono _ (2 * ep) (2 * 1099511627776) (Nat.le_refl _) (by omega)
  have h4 := grps_mono l hg
  simp only [bodyL, List.length_append, List.length_replicate] at h1 ⊢
  omega

theorem rootL_len {ep sz : Nat} {l : List Nat} (h : (bodyL ep l).length + 14 ≤ sz) : (rootL ep l sz).length = sz := by
  unfold rootL
  rw [List.length_append, sealL_len (by omega)]
  simp [tail8]
  omega

set_option maxRecDepth 100000 in
set_option maxHeartbeats 1600000 in
theorem save_ok (d : Nat) (F : Nat → Prop) (D : Dk) (ep : Nat) (l : List Nat) (A : Option Addr) (c : Nat) (w : World) (h : DS w d F D) (hd : D.down = false) (ha : D.armed = false) (hn : 2 ≤ D.n) (hs : Sl w 1 A l.length (nv l)) (h1 : 1 ≤ ep) (h2 : ep ≤ 1099511627776) (hl : l.length ≤ 64) (hg : ∀ n ∈ l, n < 4096) (hfit : (bodyL ep l).length + 14 ≤ D.sz) :
    Calls Tryz.prog 29 #[.pointer (some ⟨d, 0, none⟩), .agg #[.int .i64 ep, .slice A l.length c]] w fun e w' => e = .returned (.int .i64 0) ∧ DTo w w' d F (D.wr ((ep % 2 : Nat) : Int) (rootL ep l D.sz)).flushed := by
  have hsm := h.sml
  obtain ⟨n, hnn⟩ : ∃ n, l.length = n := ⟨_, rfl⟩
  obtain ⟨W1, hW1⟩ : ∃ W, w.alloc (.cells #[.int .i64 ep, .slice A n c] 65) = W := ⟨_, rfl⟩
  have hG1 : Grew w W1 := hW1 ▸ (Chg.refl _ _).alloc _
  have hB1 : Blk W1 w.heap.size 65 #[.int .i64 ep, .slice A n c] := hW1 ▸ Blk.new _ _ _
  have H := Lib.hid (And.intro (h.grew hG1) (And.intro hd (And.intro ha (And.intro (hs.grew hG1) (And.intro hg (And.intro hfit (And.intro hnn (And.intro hG1 hB1))))))))
  have HW1 := Lib.hid hW1
  obtain ⟨b0, hb0⟩ : ∃ b, w.heap.size = b := ⟨_, rfl⟩
  rw [hb0] at hB1
  have Hb0 := Lib.hid hb0
  obtain ⟨q, hqq⟩ : ∃ q, ep % 2 = q := ⟨_, rfl⟩
  have hq : q < 2 := by omega
  rw [hnn] at hl ⊢
  rw [hqq]
  clear h hd ha hs hg hfit hnn hG1 hW1 hb0
  go_enter Tryz.func29, Tryz.ntmps29
  go_wp2_with (first | (rw [HW1.out]) | (rw [Hb0.out]))
  have hS0 : ∀ W', Grew W1 W' → W'.cell? ⟨b0, 0, none⟩ = some (.int .i64 ep) ∧ W'.cell? ⟨b0, 1, none⟩ = some (.slice A n c) := fun W' hc => by
    have h8 := hB1.grew hc
    exact ⟨h8.cell 0, h8.cell 1⟩
  have HS0 := Lib.hid hS0
  clear hS0 hB1
  refine wp_region_held_drew (S := fun W' => W'.cell? ⟨b0, 0, none⟩ = some (.int .i64 ep) ∧ W'.cell? ⟨b0, 1, none⟩ = some (.slice A n c)) (by kernel_rfl) (HS0.out _ ((Chg.refl _ _).drew)) (fun hHeld => ?_)
  refine wpAnyH_take (i := 0) (v := ?_) rfl (by kernel_rfl) (by kernel_rfl) (by kernel_rfl) (fun _ _ _ h => h) (Or.inl ⟨by rfl, ?_⟩) hHeld ?_
  rotate_left
  · (intro w hSw; (try dsimp only at hSw); go_simp) <;> with_reducible rfl
  (try simp only [Act.put, List.setIfInBounds_toArray, List.set_cons_zero, List.set_cons_succ, List.getElem_toArray, List.getElem_cons_zero, List.getElem_cons_succ])
  refine wpAnyH_take (i := 1) (v := ?_) rfl (by kernel_rfl) (by kernel_rfl) (by kernel_rfl) (fun _ _ _ h => h) (Or.inl ⟨by rfl, ?_⟩) hHeld ?_
  rotate_left
  · (intro w hSw; (try dsimp only at hSw); go_simp) <;> with_reducible rfl
  (try simp only [Act.put, List.setIfInBounds_toArray, List.set_cons_zero, List.set_cons_succ, List.getElem_toArray, List.getElem_cons_zero, List.getElem_cons_succ])
  refine wpAnyH_ready (rs := [2]) (by kernel_rfl) (by simp) ?_
  refine AllReadyH.cons rfl (fun K hK => ?_) AllReadyH.nil
  go_simp
  refine (dsize_any d F D _ (H.out.1.grew ((Chg.refl _ _).drew))).mono ?_
  rintro e w2 ⟨rfl, rfl⟩
  refine hK.out _ _ (HS0.out _ ((Chg.refl _ _).drew)) (fun hHeld => ?_)
  clear hK K
  (try simp only [Act.put, List.setIfInBounds_toArray, List.set_cons_zero, List.set_cons_succ, List.getElem_toArray, List.getElem_cons_zero, List.getElem_cons_succ])
  refine wpAnyH_ready (rs := [3]) (by kernel_rfl) (by simp) ?_
  refine AllReadyH.cons rfl (fun K hK => ?_) AllReadyH.nil
  go_simp
  have hby := rbytes_ok ep l D.sz A c W1.drew (H.out.2.2.2.1.grew ((Chg.refl _ _).drew)) h1 h2 (by rw [H.out.2.2.2.2.2.2.1]; exact hl) H.out.2.2.2.2.1 hsm.2.2.2 H.out.2.2.2.2.2.1
  rw [H.out.2.2.2.2.2.2.1] at hby
  refine hby.mono ?_
  clear hby
  rintro e w3 ⟨A3, c3, rfl, ho3, hg3⟩
  have H3 := Lib.hid (And.intro ho3 (show Grew W1 w3 from Grew.trans ((Chg.refl NoF W1).drew) hg3))
  clear ho3 hg3
  refine hK.out _ _ (HS0.out _ H3.out.2) (fun hHeld => ?_)
  clear hK K
  (try simp only [Act.put, List.setIfInBounds_toArray, List.set_cons_zero, List.set_cons_succ, List.getElem_toArray, List.getElem_cons_zero, List.getElem_cons_succ])
  refine wpAnyH_ready (rs := [4]) (by kernel_rfl) (by simp) ?_
  refine AllReadyH.cons rfl (fun K hK => ?_) AllReadyH.nil
  go_simp
  refine hK.out _ _ hHeld (fun hHeld => ?_)
  clear hK K
  (try simp only [Act.put, List.setIfInBounds_toArray, List.set_cons_zero, List.set_cons_succ, List.getElem_toArray, List.getElem_cons_zero, List.getElem_cons_succ])
  refine wpAnyH_take (i := 5) (v := ?_) rfl (by kernel_rfl) (by kernel_rfl) (by kernel_rfl) (fun _ _ _ h => h) (Or.inl ⟨by rfl, ?_⟩) hHeld ?_
  rotate_left
  · (intro w hSw; (try dsimp only at hSw); go_simp) <;> with_reducible rfl
  (try simp only [Act.put, List.setIfInBounds_toArray, List.set_cons_zero, List.set_cons_succ, List.getElem_toArray, List.getElem_cons_zero, List.getElem_cons_succ])
  refine wpAnyH_take (i := 6) (v := ?_) rfl (by kernel_rfl) (by kernel_rfl) (by kernel_rfl) (fun _ _ _ h => h) (Or.inl ⟨by rfl, ?_⟩) hHeld ?_
  rotate_left
  · (intro w hSw; (try dsimp only at hSw); go_simp) <;> with_reducible rfl
  (try simp only [Act.put, List.setIfInBounds_toArray, List.set_cons_zero, List.set_cons_succ, List.getElem_toArray, List.getElem_cons_zero, List.getElem_cons_succ])
  refine wpAnyH_ready (rs := [7]) (by kernel_rfl) (by simp) ?_
  refine AllReadyH.cons rfl (fun K hK => ?_) AllReadyH.nil
  go_simp
  refine hK.out _ _ hHeld (fun hHeld => ?_)
  clear hK K
  (try simp only [Act.put, List.setIfInBounds_toArray, List.set_cons_zero, List.set_cons_succ, List.getElem_toArray, List.getElem_cons_zero, List.getElem_cons_succ])
  refine wpAnyH_ready (rs := [8]) (by kernel_rfl) (by simp) ?_
  refine AllReadyH.cons rfl (fun K hK => ?_) AllReadyH.nil
  go_simp
  refine hK.out _ _ hHeld (fun hHeld => ?_)
  clear hK K
  (try simp only [Act.put, List.setIfInBounds_toArray, List.set_cons_zero, List.set_cons_succ, List.getElem_toArray, List.getElem_cons_zero, List.getElem_cons_succ])
  refine wpAnyH_done (by kernel_rfl) ?_ _
  have c0 := (HS0.out _ H3.out.2).1
  have c1 := (HS0.out _ H3.out.2).2
  clear hHeld HS0
  obtain ⟨gA, rfl, hgA⟩ := own_block H3.out.1 (by omega)
  have hd3 : DS w3 d F D := H.out.1.grew H3.out.2
  obtain ⟨nD, hnD⟩ : ∃ nD, D.n = nD := ⟨_, rfl⟩
  have hdn : 2 ≤ nD := hnD ▸ hn
  have t1 : decide ((nD : Int) < 2) = false := decide_eq_false (by omega)
  have hse := dsectors_any d F D w3 hd3
  rw [hnD] at hse
  have hsl := slot_any ep q A n c w3 (by omega) hqq
  have hlen := rootL_len H.out.2.2.2.2.2.1
  have H4 := Lib.hid (And.intro hd3 (And.intro hse (And.intro hsl hlen)))
  have hgF : ¬ F gA := fun e => by have := (H3.out.1.lt gA rfl).1; have := hd3.2 gA e; have := H.out.1.2 gA e; have h9 : W1.drew.heap.size = W1.heap.size := rfl; omega
  have HgF := Lib.hid hgF
  clear hd3 hse hsl hlen hgF
  go_wp2_with (first
    | (go_at_call 31; (refine H4.out.2.1.mono ?_); rintro e w4 ⟨rfl, rfl⟩)
    | (go_at_call 56; (refine H4.out.2.2.1.mono ?_); rintro e w4 ⟨rfl, hg4⟩; have H5 := Lib.hid hg4; clear hg4))
  have hwr := dwrite_ok d (q : Int) (rootL ep l D.sz) (some ⟨gA, 0, none⟩) (by simp) c3 F D w4 (H4.out.1.grew H5.out) H.out.2.1 H.out.2.2.1 (by omega) (by omega) H4.out.2.2.2 (by rw [H4.out.2.2.2]; exact (Sl.of_own (own_base H3.out.1 (Nat.zero_le _))).grew H5.out)
  rw [H4.out.2.2.2] at hwr
  have HW := Lib.hid hwr
  clear hwr c0 c1
  refine HW.out.mono ?_
  rintro e w5 ⟨rfl, F5, hd5, hc5, hn5⟩
  have hF5 : Chg F w w5 ∧ ∀ j, F5 j → F j ∨ w.heap.size ≤ j := ⟨Grew.then H.out.2.2.2.2.2.2.2.1 (Grew.then H3.out.2 (Grew.then H5.out hc5)), fun j hj => (hn5 j hj).imp id fun e => by have h1 := H.out.2.2.2.2.2.2.2.1.size; have h2 := H3.out.2.size; have h3 := H5.out.size; omega⟩
  have HF := Lib.hid (And.intro (dflush_ok d F5 _ w5 hd5 H.out.2.1 H.out.2.2.1) hF5)
  clear hd5 hc5 hn5 hF5
  go_wp2_with fail
  refine HF.out.1.mono ?_
  rintro e w6 ⟨rfl, F6, h6, hc6, hn6⟩
  have H6 := Lib.hid (And.intro h6 (And.intro hc6 hn6))
  clear h6 hc6 hn6
  go_wp2_with fail
  go_ret
  exact ⟨rfl, F6, H6.out.1, Chg.trans HF.out.2.1 H6.out.2.1 fun i hi e => (HF.out.2.2 i e).resolve_right (by omega), fun j hj => (H6.out.2.2 j hj).elim (HF.out.2.2 j) fun e => .inr (Nat.le_trans HF.out.2.1.size e)⟩

end Go.Proofs.YtjlfnebkibgfmaaGreatDoor

/- The pager: a table page's bytes. -/
namespace Go.Proofs.YtjlfnebkibgfmaaGreatDoor
open Go.RowKit Go.Maps

theorem own_apart {w : World} {b1 b2 n1 n2 s1 s2 : Nat} {e1 e2 : TypeId} {v1 v2 : Value} {xs ys : List Value} (h : w.ownsRow b1 e1 s1 v1 n1 xs) (k : w.ownsRow b2 e2 s2 v2 n2 ys) (he : e1 ≠ e2) : ∀ g, v2.ownBlock = some g → v1.ownBlock ≠ some g := by
  intro g hg h1
  rcases h.2 with ⟨rfl, _⟩ | ⟨g1, c1, cur1, rfl, _, hh, _⟩
  · simp [Value.ownBlock] at h1
  · have e : g1 = g := by simpa [Value.ownBlock] using h1
    subst e
    exact own_blk_ne k (show Blk w g1 e1 cur1 from hh) (Ne.symm he) hg

theorem pairs_eq {α : Type} (a b : Nat → α) : ∀ r, ((List.range r).flatMap fun i => [a i, b i]) = (List.range (2 * r)).map fun q => if q % 2 = 0 then a (q / 2) else b (q / 2)
  | 0 => rfl
  | r + 1 => by
    rw [List.range_succ, List.flatMap_append, pairs_eq a b r, show 2 * (r + 1) = 2 * r + 1 + 1 by omega, List.range_succ, List.range_succ, List.map_append, List.map_append]
    simp only [List.flatMap_cons, List.flatMap_nil, List.append_nil, List.map_cons, List.map_nil, List.append_assoc, List.cons_append, List.nil_append]
    rw [if_pos (by omega), if_neg (by omega), show 2 * r / 2 = r by omega, show (2 * r + 1) / 2 = r by omega]
/-- A table page's bytes, its first i entries laid. -/
def secL (tb : List Nat) (row sz k i : Nat) : List Int :=
  (List.range sz).map fun q => if q / 2 < i ∧ q / 2 < row then (if q % 2 = 0 then ((tb.getD (k * row + q / 2) 0 % 256 : Nat) : Int) else ((tb.getD (k * row + q / 2) 0 / 256 % 256 : Nat) : Int)) else 0
theorem secL_len (tb : List Nat) (row sz k i : Nat) : (secL tb row sz k i).length = sz := by simp [secL]
theorem secL_zero (tb : List Nat) (row sz k : Nat) : secL tb row sz k 0 = List.replicate sz 0 := by
  apply List.ext_getElem (by simp [secL])
  intro q h1 h2
  simp [secL]
theorem secL_step (tb : List Nat) {row sz k i v : Nat} (hi : i < row) (hz : 2 * row ≤ sz) (hv : tb[k * row + i]? = some v) : ((secL tb row sz k i).set (2 * i) ((v % 256 : Nat) : Int)).set (2 * i + 1) ((v / 256 % 256 : Nat) : Int) = secL tb row sz k (i + 1) := by
  have hg : tb.getD (k * row + i) 0 = v := by rw [List.getD_eq_getElem?_getD, hv]; rfl
  apply List.ext_getElem (by simp [secL])
  intro q h1 h2
  have hq : q < sz := by simpa [secL] using h2
  rw [List.getElem_set, List.getElem_set]
  simp only [secL, List.getElem_map, List.getElem_range]
  by_cases e1 : 2 * i + 1 = q
  · subst e1
    rw [if_pos rfl, if_pos ⟨by omega, by omega⟩, if_neg (by omega), show (2 * i + 1) / 2 = i by omega, hg]
  · rw [if_neg e1]
    by_cases e2 : 2 * i = q
    · subst e2
      rw [if_pos rfl, if_pos ⟨by omega, by omega⟩, if_pos (by omega), show 2 * i / 2 = i by omega, hg]
    · rw [if_neg e2]
      have e3 : (q / 2 < i ∧ q / 2 < row) ↔ (q / 2 < i + 1 ∧ q / 2 < row) := by omega
      simp only [e3]
theorem secL_full {tb : List Nat} {row sz k m : Nat} (hz : 2 * row ≤ sz) (hm : m ≤ row) (hl : m < row → tb.length ≤ k * row + m) : secL tb row sz k m = tabL tb row sz k := by
  unfold tabL
  rw [pairs_eq]
  apply List.ext_getElem (by simp [secL]; omega)
  intro q h1 h2
  have hq : q < sz := by simpa [secL] using h1
  simp only [secL, List.getElem_map, List.getElem_range]
  by_cases e1 : q < 2 * row
  · rw [List.getElem_append_left (by simpa using e1)]
    simp only [List.getElem_map, List.getElem_range]
    by_cases e2 : q / 2 < m
    · rw [if_pos ⟨e2, by omega⟩]
    · rw [if_neg (by omega)]
      have e3 : tb.getD (k * row + q / 2) 0 = 0 := by
        rw [List.getD_eq_getElem?_getD, List.getElem?_eq_none (by have := hl (by omega); omega)]; rfl
      rw [e3]
      split <;> rfl
  · rw [List.getElem_append_right (by simpa using e1), if_neg (by omega)]
    simp
/-- Has a table page used pages so far? -/
def someB (tb : List Nat) (row k i : Nat) : Bool := (List.range i).any fun j => tb.getD (k * row + j) 0 != 0
theorem someB_step {tb : List Nat} {row k i v : Nat} (hv : tb[k * row + i]? = some v) : someB tb row k (i + 1) = (someB tb row k i || v != 0) := by
  unfold someB
  rw [List.range_succ, List.any_append]
  simp [List.getD_eq_getElem?_getD, hv]
theorem someB_full {tb : List Nat} {row k m : Nat} (hm : m ≤ row) (hl : m < row → tb.length ≤ k * row + m) : someB tb row k m = someB tb row k row := by
  unfold someB
  rw [Bool.eq_iff_iff]
  simp only [List.any_eq_true, List.mem_range, bne_iff_ne]
  constructor
  · rintro ⟨j, hj, e⟩; exact ⟨j, by omega, e⟩
  · rintro ⟨j, hj, e⟩
    refine ⟨j, ?_, e⟩
    by_cases h : j < m
    · exact h
    · exfalso
      apply e
      rw [List.getD_eq_getElem?_getD, List.getElem?_eq_none (by have := hl (by omega); omega)]
      rfl

set_option maxRecDepth 100000 in
set_option maxHeartbeats 1600000 in
theorem gsector_any (p k : Nat) (F : Nat → Prop) (X : Gp) (w : World) (h : GS w p F X) (hrow : X.row = X.D.sz / 2) (hk : k < 64) (hkr : k * X.row < X.table.length) (hl : X.table.length ≤ 4096) (ht : ∀ s ∈ X.table, s < 4096) :
    Calls Tryz.prog 53 #[.pointer (some ⟨p, 0, none⟩), .int .i64 k] w fun e w' =>
      ∃ A c, e = .returned (.tuple #[.slice A X.D.sz c, .bool (someB X.table X.row k X.row)]) ∧ w'.ownsRow w.heap.size 5 1 (.slice A X.D.sz c) X.D.sz (bv (tabL X.table X.row X.D.sz k)) ∧ Grew w w' := by
  have hsz := gsize_any p F X w h
  obtain ⟨L, d, b, A, ca, vp, vt, vo, h, hF⟩ := h
  have hsm := h.dsk.sml
  obtain ⟨T, hT⟩ : ∃ T, X.table.length = T := ⟨_, rfl⟩
  obtain ⟨row, hr⟩ : ∃ r, X.row = r := ⟨_, rfl⟩
  obtain ⟨sz, hs⟩ : ∃ r, X.D.sz = r := ⟨_, rfl⟩
  obtain ⟨lo, hlo⟩ : ∃ lo, k * row = lo := ⟨_, rfl⟩
  obtain ⟨hi, hhi⟩ : ∃ hi, (if lo + row ≤ T then lo + row else T) = hi := ⟨_, rfl⟩
  have hown := h.tbl
  obtain ⟨At, ct, rfl, hct⟩ := own_shape hown
  obtain ⟨gt, rfl, hgt⟩ := own_block hown (by omega)
  rw [hT] at hct hl hkr hown
  rw [hr] at hrow hkr
  rw [hs] at hsm hsz hrow
  rw [hlo] at hkr
  have hB := h.blk
  rw [hr, hT] at hB
  have hlh : lo ≤ hi ∧ hi ≤ T ∧ hi ≤ lo + row := by rw [← hhi]; split <;> omega
  obtain ⟨h1, h2, h3⟩ := hlh
  have q1 : (k : Int) * (row : Int) = (lo : Int) := by rw [← hlo]; simp
  have q2 : ((k : Int) + 1) * (row : Int) = ((lo + row : Nat) : Int) := by rw [Int.add_mul, q1]; simp
  have v1 : hi ≤ ct := by omega
  have v2 : ¬ (ct = lo) := by omega
  have w1 : IntKind.i64.wrap (lo : Int) = (lo : Int) := wrap_nat (by omega)
  have w3 : IntKind.i64.wrap ((k : Int) + 1) = (k : Int) + 1 := by have := wrap_nat (n := k + 1) (by omega); simpa using this
  have w4 : IntKind.i64.wrap ((lo + row : Nat) : Int) = ((lo + row : Nat) : Int) := wrap_nat (by omega)
  have w5 : min ((lo + row : Nat) : Int) (T : Int) = (hi : Int) := by rw [← hhi]; split <;> omega
  have w6 : min ((lo : Int) + (row : Int)) (T : Int) = (hi : Int) := by rw [← w5]; simp
  have w7 : IntKind.i64.wrap ((lo : Int) + (row : Int)) = (lo : Int) + (row : Int) := by rw [← Int.natCast_add]; exact w4
  obtain ⟨w2, hmk0, ho2, hg2, hz2⟩ := make_bytes sz w (by omega)
  obtain ⟨g, hg⟩ : ∃ g, w.heap.size = g := ⟨_, rfl⟩
  rw [hg] at hmk0 ho2
  have hmk : (Instr.makeSlice 22 (.int .i64 sz) (.int .i64 sz)).run Tryz.prog w = .ok (.slice (some ⟨g, 0, none⟩) sz sz) w2 := hmk0
  have hB2 := hB.grew hg2
  obtain ⟨c0, f0, s0⟩ := hB2.facts
  have H := Lib.hid (And.intro hsz (And.intro (own_grew hown hg2) (And.intro ho2 (And.intro hg2 (And.intro ht (And.intro hhi (And.intro hrow (And.intro hlo (And.intro hT hg)))))))))
  rw [hs, hr]
  clear h hF hsz hown hB hB2 ho2 hg2 hz2 hmk0 ht hhi hrow hr hs hlo hT hg
  go_enter Tryz.func53, Tryz.ntmps53
  go_wp2_with (go_at_call 18; (refine H.out.1.mono ?_); rintro e w1 ⟨rfl, rfl⟩)
  have c2 := c0 2
  have c4 := c0 4
  simp only [List.getElem?_toArray, List.getElem?_cons_zero, List.getElem?_cons_succ] at c2 c4
  clear hmk c0 f0
  refine wp_region_held_drew (S := fun W' => W'.cell? ⟨p, 2, none⟩ = some (.int .i64 row) ∧ W'.cell? ⟨p, 4, none⟩ = some (.slice (some ⟨gt, 0, none⟩) T ct)) (by kernel_rfl) ⟨c2, c4⟩ (fun hHeld => ?_)
  refine wpAnyH_take (i := 0) (v := ?_) rfl (by kernel_rfl) (by kernel_rfl) (by kernel_rfl) (fun _ _ _ h => h) (Or.inl ⟨by rfl, ?_⟩) hHeld ?_
  rotate_left
  · (intro w hSw; (try dsimp only at hSw); go_simp) <;> with_reducible rfl
  (try simp only [Act.put, List.setIfInBounds_toArray, List.set_cons_zero, List.set_cons_succ, List.getElem_toArray, List.getElem_cons_zero, List.getElem_cons_succ])
  refine wpAnyH_take (i := 1) (v := ?_) rfl (by kernel_rfl) (by kernel_rfl) (by kernel_rfl) (fun _ _ _ h => h) (Or.inl ⟨by rfl, ?_⟩) hHeld ?_
  rotate_left
  · (intro w hSw; (try dsimp only at hSw); go_simp) <;> with_reducible rfl
  (try simp only [Act.put, List.setIfInBounds_toArray, List.set_cons_zero, List.set_cons_succ, List.getElem_toArray, List.getElem_cons_zero, List.getElem_cons_succ])
  refine wpAnyH_take (i := 2) (v := ?_) rfl (by kernel_rfl) (by kernel_rfl) (by kernel_rfl) (fun _ _ _ h => h) (Or.inl ⟨by rfl, ?_⟩) hHeld ?_
  rotate_left
  · (intro w hSw; (try dsimp only at hSw); go_simp) <;> with_reducible rfl
  (try simp only [Act.put, List.setIfInBounds_toArray, List.set_cons_zero, List.set_cons_succ, List.getElem_toArray, List.getElem_cons_zero, List.getElem_cons_succ])
  refine wpAnyH_take (i := 3) (v := ?_) rfl (by kernel_rfl) (by kernel_rfl) (by kernel_rfl) (fun _ _ _ h => h) (Or.inl ⟨by rfl, ?_⟩) hHeld ?_
  rotate_left
  · (intro w hSw; (try dsimp only at hSw); go_simp) <;> with_reducible rfl
  (try simp only [Act.put, List.setIfInBounds_toArray, List.set_cons_zero, List.set_cons_succ, List.getElem_toArray, List.getElem_cons_zero, List.getElem_cons_succ])
  refine wpAnyH_take (i := 4) (v := ?_) rfl (by kernel_rfl) (by kernel_rfl) (by kernel_rfl) (fun _ _ _ h => h) (Or.inl ⟨by rfl, ?_⟩) hHeld ?_
  rotate_left
  · (intro w hSw; (try dsimp only at hSw); go_simp) <;> with_reducible rfl
  (try simp only [Act.put, List.setIfInBounds_toArray, List.set_cons_zero, List.set_cons_succ, List.getElem_toArray, List.getElem_cons_zero, List.getElem_cons_succ])
  refine wpAnyH_take (i := 5) (v := ?_) rfl (by kernel_rfl) (by kernel_rfl) (by kernel_rfl) (fun _ _ _ h => h) (Or.inl ⟨by rfl, ?_⟩) hHeld ?_
  rotate_left
  · (intro w hSw; (try dsimp only at hSw); go_simp) <;> with_reducible rfl
  (try simp only [Act.put, List.setIfInBounds_toArray, List.set_cons_zero, List.set_cons_succ, List.getElem_toArray, List.getElem_cons_zero, List.getElem_cons_succ])
  refine wpAnyH_take (i := 6) (v := ?_) rfl (by kernel_rfl) (by kernel_rfl) (by kernel_rfl) (fun _ _ _ h => h) (Or.inl ⟨by rfl, ?_⟩) hHeld ?_
  rotate_left
  · (intro w hSw; (try dsimp only at hSw); go_simp) <;> with_reducible rfl
  (try simp only [Act.put, List.setIfInBounds_toArray, List.set_cons_zero, List.set_cons_succ, List.getElem_toArray, List.getElem_cons_zero, List.getElem_cons_succ])
  refine wpAnyH_take (i := 7) (v := ?_) rfl (by kernel_rfl) (by kernel_rfl) (by kernel_rfl) (fun _ _ _ h => h) (Or.inl ⟨by rfl, ?_⟩) hHeld ?_
  rotate_left
  · (intro w hSw; (try dsimp only at hSw); go_simp) <;> with_reducible rfl
  (try simp only [Act.put, List.setIfInBounds_toArray, List.set_cons_zero, List.set_cons_succ, List.getElem_toArray, List.getElem_cons_zero, List.getElem_cons_succ])
  refine wpAnyH_take (i := 8) (v := ?_) rfl (by kernel_rfl) (by kernel_rfl) (by kernel_rfl) (fun _ _ _ h => h) (Or.inl ⟨by rfl, ?_⟩) hHeld ?_
  rotate_left
  · (intro w hSw; (try dsimp only at hSw); go_simp) <;> with_reducible rfl
  (try simp only [Act.put, List.setIfInBounds_toArray, List.set_cons_zero, List.set_cons_succ, List.getElem_toArray, List.getElem_cons_zero, List.getElem_cons_succ])
  refine wpAnyH_take (i := 9) (v := ?_) rfl (by kernel_rfl) (by kernel_rfl) (by kernel_rfl) (fun _ _ _ h => h) (Or.inl ⟨by rfl, ?_⟩) hHeld ?_
  rotate_left
  · (intro w hSw; (try dsimp only at hSw); go_simp) <;> with_reducible rfl
  (try simp only [Act.put, List.setIfInBounds_toArray, List.set_cons_zero, List.set_cons_succ, List.getElem_toArray, List.getElem_cons_zero, List.getElem_cons_succ])
  refine wpAnyH_take (i := 10) (v := ?_) rfl (by kernel_rfl) (by kernel_rfl) (by kernel_rfl) (fun _ _ _ h => h) (Or.inl ⟨by rfl, ?_⟩) hHeld ?_
  rotate_left
  · (intro w hSw; (try dsimp only at hSw); go_simp) <;> with_reducible rfl
  (try simp only [Act.put, List.setIfInBounds_toArray, List.set_cons_zero, List.set_cons_succ, List.getElem_toArray, List.getElem_cons_zero, List.getElem_cons_succ])
  refine wpAnyH_take (i := 11) (v := ?_) rfl (by kernel_rfl) (by kernel_rfl) (by kernel_rfl) (fun _ _ _ h => h) (Or.inl ⟨by rfl, ?_⟩) hHeld ?_
  rotate_left
  · (intro w hSw; (try dsimp only at hSw); go_simp) <;> with_reducible rfl
  (try simp only [Act.put, List.setIfInBounds_toArray, List.set_cons_zero, List.set_cons_succ, List.getElem_toArray, List.getElem_cons_zero, List.getElem_cons_succ])
  refine wpAnyH_take (i := 12) (v := ?_) rfl (by kernel_rfl) (by kernel_rfl) (by kernel_rfl) (fun _ _ _ h => h) (Or.inl ⟨by rfl, ?_⟩) hHeld ?_
  rotate_left
  · (intro w hSw; (try dsimp only at hSw); go_simp) <;> with_reducible rfl
  (try simp only [Act.put, List.setIfInBounds_toArray, List.set_cons_zero, List.set_cons_succ, List.getElem_toArray, List.getElem_cons_zero, List.getElem_cons_succ])
  refine wpAnyH_take (i := 13) (v := ?_) rfl (by kernel_rfl) (by kernel_rfl) (by kernel_rfl) (fun _ _ _ h => h) (Or.inl ⟨by rfl, ?_⟩) hHeld ?_
  rotate_left
  · (intro w hSw; (try dsimp only at hSw); go_simp) <;> with_reducible rfl
  (try simp only [Act.put, List.setIfInBounds_toArray, List.set_cons_zero, List.set_cons_succ, List.getElem_toArray, List.getElem_cons_zero, List.getElem_cons_succ])
  refine wpAnyH_take (i := 14) (v := ?_) rfl (by kernel_rfl) (by kernel_rfl) (by kernel_rfl) (fun _ _ _ h => h) (Or.inl ⟨by rfl, ?_⟩) hHeld ?_
  rotate_left
  · (intro w hSw; (try dsimp only at hSw); go_simp) <;> with_reducible rfl
  (try simp only [Act.put, List.setIfInBounds_toArray, List.set_cons_zero, List.set_cons_succ, List.getElem_toArray, List.getElem_cons_zero, List.getElem_cons_succ])
  refine wpAnyH_take (i := 15) (v := ?_) rfl (by kernel_rfl) (by kernel_rfl) (by kernel_rfl) (fun _ _ _ h => h) (Or.inl ⟨by rfl, ?_⟩) hHeld ?_
  rotate_left
  · (intro w hSw; (try dsimp only at hSw); go_simp) <;> with_reducible rfl
  (try simp only [Act.put, List.setIfInBounds_toArray, List.set_cons_zero, List.set_cons_succ, List.getElem_toArray, List.getElem_cons_zero, List.getElem_cons_succ])
  refine wpAnyH_take (i := 16) (v := ?_) rfl (by kernel_rfl) (by kernel_rfl) (by kernel_rfl) (fun _ _ _ h => h) (Or.inl ⟨by rfl, ?_⟩) hHeld ?_
  rotate_left
  · (intro w hSw; (try dsimp only at hSw); go_simp) <;> with_reducible rfl
  (try simp only [Act.put, List.setIfInBounds_toArray, List.set_cons_zero, List.set_cons_succ, List.getElem_toArray, List.getElem_cons_zero, List.getElem_cons_succ])
  refine wpAnyH_take (i := 17) (v := ?_) rfl (by kernel_rfl) (by kernel_rfl) (by kernel_rfl) (fun _ _ _ h => h) (Or.inl ⟨by rfl, ?_⟩) hHeld ?_
  rotate_left
  · (intro w hSw; (try dsimp only at hSw); go_simp) <;> with_reducible rfl
  (try simp only [Act.put, List.setIfInBounds_toArray, List.set_cons_zero, List.set_cons_succ, List.getElem_toArray, List.getElem_cons_zero, List.getElem_cons_succ])
  refine wpAnyH_take (i := 18) (v := ?_) rfl (by kernel_rfl) (by kernel_rfl) (by kernel_rfl) (fun _ _ _ h => h) (Or.inl ⟨by rfl, ?_⟩) hHeld ?_
  rotate_left
  · (intro w hSw; (try dsimp only at hSw); go_simp) <;> with_reducible rfl
  (try simp only [Act.put, List.setIfInBounds_toArray, List.set_cons_zero, List.set_cons_succ, List.getElem_toArray, List.getElem_cons_zero, List.getElem_cons_succ])
  refine wpAnyH_take (i := 19) (v := ?_) rfl (by kernel_rfl) (by kernel_rfl) (by kernel_rfl) (fun _ _ _ h => h) (Or.inl ⟨by rfl, ?_⟩) hHeld ?_
  rotate_left
  · (intro w hSw; (try dsimp only at hSw); go_simp) <;> with_reducible rfl
  (try simp only [Act.put, List.setIfInBounds_toArray, List.set_cons_zero, List.set_cons_succ, List.getElem_toArray, List.getElem_cons_zero, List.getElem_cons_succ])
  refine wpAnyH_take (i := 20) (v := ?_) rfl (by kernel_rfl) (by kernel_rfl) (by kernel_rfl) (fun _ _ _ h => h) (Or.inl ⟨by rfl, ?_⟩) hHeld ?_
  rotate_left
  · (intro w hSw; (try dsimp only at hSw); go_simp) <;> with_reducible rfl
  (try simp only [Act.put, List.setIfInBounds_toArray, List.set_cons_zero, List.set_cons_succ, List.getElem_toArray, List.getElem_cons_zero, List.getElem_cons_succ])
  refine wpAnyH_take (i := 21) (v := ?_) rfl (by kernel_rfl) (by kernel_rfl) (by kernel_rfl) (fun _ _ _ h => h) (Or.inl ⟨by rfl, ?_⟩) hHeld ?_
  rotate_left
  · (intro w hSw; (try dsimp only at hSw); go_simp) <;> with_reducible rfl
  (try simp only [Act.put, List.setIfInBounds_toArray, List.set_cons_zero, List.set_cons_succ, List.getElem_toArray, List.getElem_cons_zero, List.getElem_cons_succ])
  refine wpAnyH_take (i := 22) (v := ?_) rfl (by kernel_rfl) (by kernel_rfl) (by kernel_rfl) (fun _ _ _ h => h) (Or.inl ⟨by rfl, ?_⟩) hHeld ?_
  rotate_left
  · (intro w hSw; (try dsimp only at hSw); go_simp) <;> with_reducible rfl
  (try simp only [Act.put, List.setIfInBounds_toArray, List.set_cons_zero, List.set_cons_succ, List.getElem_toArray, List.getElem_cons_zero, List.getElem_cons_succ])
  refine wpAnyH_take (i := 23) (v := ?_) rfl (by kernel_rfl) (by kernel_rfl) (by kernel_rfl) (fun _ _ _ h => h) (Or.inl ⟨by rfl, ?_⟩) hHeld ?_
  rotate_left
  · (intro w hSw; (try dsimp only at hSw); go_simp) <;> with_reducible rfl
  (try simp only [Act.put, List.setIfInBounds_toArray, List.set_cons_zero, List.set_cons_succ, List.getElem_toArray, List.getElem_cons_zero, List.getElem_cons_succ])
  refine wpAnyH_take (i := 24) (v := ?_) rfl (by kernel_rfl) (by kernel_rfl) (by kernel_rfl) (fun _ _ _ h => h) (Or.inl ⟨by rfl, ?_⟩) hHeld ?_
  rotate_left
  · (intro w hSw; (try dsimp only at hSw); go_simp) <;> with_reducible rfl
  (try simp only [Act.put, List.setIfInBounds_toArray, List.set_cons_zero, List.set_cons_succ, List.getElem_toArray, List.getElem_cons_zero, List.getElem_cons_succ])
  refine wpAnyH_take (i := 25) (v := ?_) rfl (by kernel_rfl) (by kernel_rfl) (by kernel_rfl) (fun _ _ _ h => h) (Or.inl ⟨by rfl, ?_⟩) hHeld ?_
  rotate_left
  · (intro w hSw; (try dsimp only at hSw); go_simp) <;> with_reducible rfl
  (try simp only [Act.put, List.setIfInBounds_toArray, List.set_cons_zero, List.set_cons_succ, List.getElem_toArray, List.getElem_cons_zero, List.getElem_cons_succ])
  refine wpAnyH_done (by kernel_rfl) ?_ _
  clear hHeld
  obtain ⟨m, hm⟩ : ∃ m, hi - lo = m := ⟨_, rfl⟩
  rw [hm]
  obtain ⟨W9, hw9⟩ : ∃ W9, w2.drew = W9 := ⟨_, rfl⟩
  have HJ0 := Lib.hid (show W9.ownsRow g 5 1 (.slice (some ⟨g, 0, none⟩) sz sz) sz (bv (secL X.table row sz k 0)) ∧ W9.ownsRow 0 3 1 (.slice (some ⟨gt, 0, none⟩) T ct) T (nv X.table) ∧ Grew w W9 from by
    subst hw9
    rw [secL_zero]
    exact ⟨H.out.2.2.1, H.out.2.1, H.out.2.2.2.1.drew⟩)
  have HM := Lib.hid hm
  rw [hw9]
  clear hm hw9 w1 w3 w4 w5 w6 w7 v1 v2 c2 c4
  have hm1 : m ≤ row := by have := HM.out; omega
  have hm2 : lo + m ≤ T := by have := HM.out; omega
  have hrz : 2 * row ≤ sz := by have := H.out.2.2.2.2.2.2.1; omega
  go_wp2_with fail
  go_loopg [7, 38] m (fun q sb v wr => ∃ i : Nat, q = m - i ∧ i ≤ m ∧ sb = .bool (someB X.table row k i) ∧ v = .int .i64 i ∧ wr.ownsRow g 5 1 (.slice (some ⟨g, 0, none⟩) sz sz) sz (bv (secL X.table row sz k i)) ∧ wr.ownsRow 0 3 1 (.slice (some ⟨gt, 0, none⟩) T ct) T (nv X.table) ∧ Grew w wr)
  case atStart => exact ⟨0, rfl, Nat.zero_le _, rfl, rfl, HJ0.out.1, HJ0.out.2.1, HJ0.out.2.2⟩
  case round =>
    obtain ⟨i, rfl, hi2, rfl, rfl, ho, ht, hg⟩ := hrel
    by_cases hlt : i < m
    · obtain ⟨s, hs⟩ : ∃ s, X.table[lo + i]? = some s := ⟨_, List.getElem?_eq_getElem (by rw [H.out.2.2.2.2.2.2.2.2.1]; omega)⟩
      have hs4 := H.out.2.2.2.2.1 s (List.mem_of_getElem? hs)
      have ce : wr.cell? ⟨gt, lo + i, none⟩ = some (.int .i64 s) := by
        have := ht.cells (g := gt) rfl (lo + i) (.int .i64 s) (by simp [nv, hs])
        rwa [Addr.add_lit, Nat.zero_add] at this
      obtain ⟨u0, hu0⟩ : ∃ u, wr.cell? ⟨g, 2 * i, none⟩ = some u := by
        rw [ho.cellAt (2 * i) (by omega)]
        exact ⟨_, List.getElem?_eq_getElem (by rw [bv_len, secL_len]; omega)⟩
      obtain ⟨u1, hu1⟩ : ∃ u, wr.cell? ⟨g, 2 * i + 1, none⟩ = some u := by
        rw [ho.cellAt (2 * i + 1) (by omega)]
        exact ⟨_, List.getElem?_eq_getElem (by rw [bv_len, secL_len]; omega)⟩
      have fr0 := ho.frozenAt (2 * i)
      have fr1 := ho.frozenAt (2 * i + 1)
      have sg : g < wr.heap.size := (ho.lt g rfl).2
      have hsm2 : s / 256 ≤ 255 := by omega
      have b1 : 2 * (i : Int) < (sz : Int) := by omega
      have b2 : 2 * (i : Int) + 1 < (sz : Int) := by omega
      have hst := (((ho.stored (2 * i) (.int .u8 ((s : Int) % 256))).1).stored (2 * i + 1) (.int .u8 ((s : Int) / 256))).1
      have hs2 : X.table[k * row + i]? = some s := by rw [H.out.2.2.2.2.2.2.2.1]; exact hs
      have hsb := someB_step (row := row) hs2
      have hn0 : ((s : Int) != 0) = (s != 0) := by cases s <;> simp <;> omega
      obtain ⟨sb, hsbv⟩ : ∃ sb, someB X.table row k i = sb := ⟨_, rfl⟩
      have hwr : Grew w ((wr.setCell ⟨g, 2 * i, none⟩ (.int .u8 ((s : Int) % 256))).setCell ⟨g, 2 * i + 1, none⟩ (.int .u8 ((s : Int) / 256))) := by
        have h9 := H.out.2.2.2.2.2.2.2.2.2
        exact (hg.setCell (p := ⟨g, 2 * i, none⟩) (fun e => absurd e (by simp only; omega)) _).setCell (p := ⟨g, 2 * i + 1, none⟩) (fun e => absurd e (by simp only; omega)) _
      have htt : ((wr.setCell ⟨g, 2 * i, none⟩ (.int .u8 ((s : Int) % 256))).setCell ⟨g, 2 * i + 1, none⟩ (.int .u8 ((s : Int) / 256))).ownsRow 0 3 1 (.slice (some ⟨gt, 0, none⟩) T ct) T (nv X.table) := by
        have hgg : gt ≠ g := fun e => own_apart ho ht (by decide) gt rfl (by simp [Value.ownBlock, e])
        refine own_chg ht (((Chg.refl (fun j => j = g) wr).setCell (p := ⟨g, 2 * i, none⟩) (fun _ => rfl) _).setCell (p := ⟨g, 2 * i + 1, none⟩) (fun _ => rfl) _) (fun q hq e => ?_)
        simp [Value.ownBlock] at hq
        omega
      have hrow : ((bv (secL X.table row sz k i)).set (2 * i) (.int .u8 ((s : Int) % 256))).set (2 * i + 1) (.int .u8 ((s : Int) / 256)) = bv (secL X.table row sz k (i + 1)) := by
        rw [← secL_step X.table (show i < row by omega) hrz hs2]
        unfold bv
        rw [List.map_set, List.map_set, show ((s % 256 : Nat) : Int) = (s : Int) % 256 by omega, show ((s / 256 % 256 : Nat) : Int) = (s : Int) / 256 by omega]
      rw [hrow] at hst
      have HR := Lib.hid (And.intro hst (And.intro htt (And.intro hwr (And.intro hsb hsbv))))
      rw [hsbv]
      clear hs hs2 hst ho ht hg hsb hsbv hwr htt hrow
      cases sb with
      | true =>
        go_wp2
        go_roundg (m - (i + 1))
        case measure => omega
        case rel => exact ⟨i + 1, rfl, by omega, by rw [HR.out.2.2.2.1, HR.out.2.2.2.2]; rfl, by simp, HR.out.1, HR.out.2.1, HR.out.2.2.1⟩
      | false =>
        go_wp2
        go_roundg (m - (i + 1))
        case measure => omega
        case rel => exact ⟨i + 1, rfl, by omega, by rw [HR.out.2.2.2.1, HR.out.2.2.2.2, ← hn0]; rfl, by simp, HR.out.1, HR.out.2.1, HR.out.2.2.1⟩
    · obtain rfl : i = m := by omega
      have hfull := secL_full (tb := X.table) (k := k) hrz hm1 (fun h => by have h1 := HM.out; have h2 := H.out.2.2.2.2.2.1; have h3 := H.out.2.2.2.2.2.2.2.1; have h4 := H.out.2.2.2.2.2.2.2.2.1; split at h2 <;> omega)
      have hsome := someB_full (tb := X.table) (row := row) (k := k) hm1 (fun h => by have h1 := HM.out; have h2 := H.out.2.2.2.2.2.1; have h3 := H.out.2.2.2.2.2.2.2.1; have h4 := H.out.2.2.2.2.2.2.2.2.1; split at h2 <;> omega)
      have HD := Lib.hid (And.intro ho (And.intro hg (And.intro hfull hsome)))
      clear ho ht hg hfull hsome
      go_wp2
      go_ret2
      refine ⟨some ⟨g, 0, none⟩, sz, by rw [← HD.out.2.2.2]; rfl, ?_, HD.out.2.1⟩
      rw [H.out.2.2.2.2.2.2.2.2.2, ← HD.out.2.2.1]
      exact HD.out.1

end Go.Proofs.YtjlfnebkibgfmaaGreatDoor

/- The pager: the table pages are written, one by one (plain). -/
namespace Go.Proofs.YtjlfnebkibgfmaaGreatDoor
open Go.RowKit Go.Maps

theorem tabL_byte (tb : List Nat) (row sz k : Nat) : ∀ x ∈ tabL tb row sz k, 0 ≤ x ∧ x ≤ 255 := by
  intro x hx
  unfold tabL at hx
  rcases List.mem_append.1 hx with e | e
  · obtain ⟨i, -, e⟩ := List.mem_flatMap.1 e
    simp only [List.mem_cons, List.not_mem_nil, or_false] at e
    rcases e with rfl | rfl <;> omega
  · have := (List.mem_replicate.1 e).2; omega
theorem tabL_len {tb : List Nat} {row sz k : Nat} (h : 2 * row ≤ sz) : (tabL tb row sz k).length = sz := by
  unfold tabL
  rw [pairs_eq]
  simp
  omega
theorem tabL_congr {tb tb' : List Nat} {row sz k : Nat} (h : ∀ i, i < row → tb.getD (k * row + i) 0 = tb'.getD (k * row + i) 0) : tabL tb row sz k = tabL tb' row sz k := by
  unfold tabL
  rw [List.flatMap_def, List.flatMap_def, List.map_congr_left fun i hi => by rw [h i (List.mem_range.1 hi)]]

/-- What turns while the table pages are written. -/
structure TS where
  D : Dk
  fe : List Bool
  fr : Nat → Bool
  lf : List Nat
  pg : List Nat
def TS.left (S : TS) (k s : Nat) : TS := { S with lf := if s ≤ 1 then S.lf else S.lf ++ [s], pg := S.pg.set k 0 }
def TS.lay (S : TS) (k s j : Nat) (bs : List Int) : TS := { D := S.D.wr j bs, fe := trn S.fe j, fr := setB S.fr j true, lf := if s ≤ 1 then S.lf else S.lf ++ [s], pg := S.pg.set k j }
/-- What holds behind some table pages. -/
structure TInv (D0 : Dk) (pg0 tb old : List Nat) (fr0 : Nat → Bool) (S : TS) (dn : Nat → Bool) (rem : Nat) : Prop where
  n : S.D.n = D0.n ∧ S.D.sz = D0.sz ∧ S.D.down = D0.down ∧ S.D.armed = D0.armed
  byt : ∀ s : Nat, s < D0.n → ∀ x ∈ S.D.rd (s : Int), 0 ≤ x ∧ x ≤ 255
  fel : S.fe.length = D0.n
  pgl : S.pg.length = pg0.length
  keep : ∀ k : Nat, dn k = false → S.pg[k]? = pg0[k]?
  new : ∀ k s : Nat, dn k = true → S.pg[k]? = some s → (s = 0 ∧ someB tb (D0.sz / 2) k (D0.sz / 2) = false) ∨ (2 ≤ s ∧ S.fr s = true ∧ fr0 s = false ∧ S.D.rd (s : Int) = tabL tb (D0.sz / 2) D0.sz k ∧ someB tb (D0.sz / 2) k (D0.sz / 2) = true)
  frr : ∀ s, S.fr s = true → fr0 s = true ∨ ∃ k : Nat, dn k = true ∧ S.pg[k]? = some s
  frk : ∀ s, fr0 s = true → S.fr s = true
  frn : ∀ s, S.fr s = true → 2 ≤ s ∧ s < D0.n ∧ (∀ k : Nat, pg0[k]? ≠ some s) ∧ ∀ i : Nat, old[i]? ≠ some s
  jP : ∀ i j s : Nat, S.pg[i]? = some s → S.pg[j]? = some s → s ≠ 0 → i = j
  acct : ∀ s, s < D0.n → (S.fe.getD s false = false ↔ s < 2 ∨ (∃ k : Nat, pg0[k]? = some s) ∨ (∃ i : Nat, old[i]? = some s) ∨ S.fr s = true)
  lf : S.lf.Nodup ∧ ∀ s, s ∈ S.lf ↔ (2 ≤ s ∧ ∃ i : Nat, old[i]? = some s ∧ tb[i]? ≠ some s) ∨ (s ≠ 0 ∧ ∃ k : Nat, dn k = true ∧ pg0[k]? = some s)
  rd : ∀ s : Nat, (S.fr s = true → fr0 s = true) → S.D.rd (s : Int) = D0.rd (s : Int)
  room : rem ≤ cnt S.fe

section
variable {D0 : Dk} {ep : Nat} {pg0 tb old lf0 : List Nat} {fe0 : List Bool} {fr0 tc dn : Nat → Bool} {S : TS} {k s j rem : Nat}
theorem TInv.start (h : Inv D0 ep pg0 tb old fe0 fr0 lf0 tc) : TInv D0 pg0 tb old fr0 ⟨D0, fe0, fr0, lf0, pg0⟩ (fun _ => false) (cntN tc 64) :=
  ⟨⟨rfl, rfl, rfl, rfl⟩, h.byt, h.lens.1, rfl, fun _ _ => rfl, (fun _ _ e => by cases e), fun _ e => .inl e, fun _ e => e, fun s e => ⟨(h.frr s e).1, (h.frr s e).2.1, (h.frr s e).2.2.1, (h.frr s e).2.2.2.1⟩, h.jP, h.acct,
    ⟨h.lf.1, fun s => by rw [h.lf.2 s]; simp⟩, fun _ _ => rfl, h.room⟩
theorem setB_at (f : Nat → Bool) (k : Nat) (v : Bool) (j : Nat) : setB f k v j = if j = k then v else f j := rfl
/-- The old sectors that a table page had. -/
theorem TInv.lfstep (h0 : Inv D0 ep pg0 tb old fe0 fr0 lf0 tc) (h : TInv D0 pg0 tb old fr0 S dn (rem + 1)) (hk : dn k = false) (hs : pg0[k]? = some s) :
    (if s ≤ 1 then S.lf else S.lf ++ [s]).Nodup ∧ ∀ q, q ∈ (if s ≤ 1 then S.lf else S.lf ++ [s]) ↔ (2 ≤ q ∧ ∃ i : Nat, old[i]? = some q ∧ tb[i]? ≠ some q) ∨ (q ≠ 0 ∧ ∃ m : Nat, setB dn k true m = true ∧ pg0[m]? = some q) := by
  have hr : s ≠ 0 → 2 ≤ s := fun e => (h0.rP k s hs e).1
  have hsn : s ≠ 0 → s ∉ S.lf := fun e hm => by
    rcases (h.lf.2 s).1 hm with ⟨h2, i, hi, -⟩ | ⟨-, m, hm1, hm2⟩
    · have := h0.dis k i s hs hi; omega
    · have := h0.jP k m s hs hm2 e
      subst this
      rw [hk] at hm1
      cases hm1
  have key : ∀ q, (q ≠ 0 ∧ ∃ m : Nat, setB dn k true m = true ∧ pg0[m]? = some q) ↔ (q ≠ 0 ∧ ∃ m : Nat, dn m = true ∧ pg0[m]? = some q) ∨ (q ≠ 0 ∧ q = s) := fun q => by
    constructor
    · rintro ⟨e, m, h1, h2⟩
      rw [setB_at] at h1
      by_cases e2 : m = k
      · subst e2; rw [hs] at h2; injection h2 with h2; exact .inr ⟨e, h2.symm⟩
      · rw [if_neg e2] at h1; exact .inl ⟨e, m, h1, h2⟩
    · rintro (⟨e, m, h1, h2⟩ | ⟨e, rfl⟩)
      · refine ⟨e, m, ?_, h2⟩
        rw [setB_at]
        split
        · rfl
        · exact h1
      · exact ⟨e, k, by rw [setB_at, if_pos rfl], hs⟩
  by_cases h1 : s ≤ 1
  · have h00 : s = 0 := by
      by_cases e : s = 0
      · exact e
      · have := hr e; omega
    rw [if_pos h1]
    refine ⟨h.lf.1, fun q => ?_⟩
    rw [h.lf.2 q, key q]
    constructor
    · rintro (e | e)
      · exact .inl e
      · exact .inr (.inl e)
    · rintro (e | e | ⟨e1, e2⟩)
      · exact .inl e
      · exact .inr e
      · omega
  · rw [if_neg h1]
    refine ⟨List.nodup_append.2 ⟨h.lf.1, by simp, fun a ha b hb e => ?_⟩, fun q => ?_⟩
    · simp only [List.mem_singleton] at hb; subst hb; subst e; exact hsn (by omega) ha
    · rw [List.mem_append, List.mem_singleton, h.lf.2 q, key q]
      constructor
      · rintro ((e | e) | e)
        · exact .inl e
        · exact .inr (.inl e)
        · exact .inr (.inr ⟨by omega, e⟩)
      · rintro (e | e | ⟨-, e⟩)
        · exact .inl (.inl e)
        · exact .inl (.inr e)
        · exact .inr e
theorem TInv.skip (h0 : Inv D0 ep pg0 tb old fe0 fr0 lf0 tc) (h : TInv D0 pg0 tb old fr0 S dn (rem + 1)) (hk : dn k = false) (hs : pg0[k]? = some s) (hb : someB tb (D0.sz / 2) k (D0.sz / 2) = false) :
    TInv D0 pg0 tb old fr0 (S.left k s) (setB dn k true) rem := by
  have hkl : k < S.pg.length := by rw [h.pgl]; exact (List.getElem?_eq_some_iff.1 hs).1
  have hpg : S.pg[k]? = some s := by rw [h.keep k hk]; exact hs
  refine ⟨h.n, h.byt, h.fel, by simp [TS.left, h.pgl], fun m hm => ?_, fun m q hm hq => ?_, fun q hq => ?_, h.frk, h.frn, fun a b q ha hb2 hq => ?_, h.acct, h.lfstep h0 hk hs, h.rd, by have := h.room; show rem ≤ cnt S.fe; omega⟩
  · rw [setB_at] at hm
    have hmk : m ≠ k := fun e => by rw [if_pos e] at hm; cases hm
    rw [if_neg hmk] at hm
    simp only [TS.left]
    rw [set_at hkl, if_neg hmk]
    exact h.keep m hm
  · simp only [TS.left] at hq ⊢
    rw [set_at hkl] at hq
    rw [setB_at] at hm
    by_cases e : m = k
    · subst e
      rw [if_pos rfl] at hq
      injection hq with hq
      exact .inl ⟨hq.symm, hb⟩
    · rw [if_neg e] at hm hq
      exact h.new m q hm hq
  · rcases h.frr q hq with e | ⟨m, h1, h2⟩
    · exact .inl e
    · refine .inr ⟨m, ?_, ?_⟩
      · rw [setB_at]; split; rfl; exact h1
      · simp only [TS.left]
        rw [set_at hkl, if_neg (fun e => by subst e; rw [hk] at h1; cases h1)]
        exact h2
  · simp only [TS.left] at ha hb2
    rw [set_at hkl] at ha hb2
    split at ha
    · injection ha with ha; omega
    · split at hb2
      · injection hb2 with hb2; omega
      · exact h.jP a b q ha hb2 hq
/-- A sector that is free is none that counts. -/
theorem TInv.free (h : TInv D0 pg0 tb old fr0 S dn rem) (hj : S.fe.getD j false = true) : 2 ≤ j ∧ j < D0.n ∧ (∀ k : Nat, pg0[k]? ≠ some j) ∧ (∀ i : Nat, old[i]? ≠ some j) ∧ S.fr j = false := by
  have hjn : j < D0.n := by
    by_cases e : j < S.fe.length
    · have := h.fel; omega
    · rw [List.getD_eq_getElem?_getD, List.getElem?_eq_none (by omega)] at hj; simp at hj
  have hn : ¬ (j < 2 ∨ (∃ k : Nat, pg0[k]? = some j) ∨ (∃ i : Nat, old[i]? = some j) ∨ S.fr j = true) := fun e => by
    have := (h.acct j hjn).2 e
    rw [hj] at this
    cases this
  simp only [not_or, not_exists] at hn
  exact ⟨by omega, hjn, hn.2.1, hn.2.2.1, by cases e : S.fr j with | false => rfl | true => exact absurd e hn.2.2.2⟩
theorem TInv.lay (h0 : Inv D0 ep pg0 tb old fe0 fr0 lf0 tc) (h : TInv D0 pg0 tb old fr0 S dn (rem + 1)) (hk : dn k = false) (hs : pg0[k]? = some s) (hb : someB tb (D0.sz / 2) k (D0.sz / 2) = true) (hj : S.fe.getD j false = true) :
    TInv D0 pg0 tb old fr0 (S.lay k s j (tabL tb (D0.sz / 2) D0.sz k)) (setB dn k true) rem := by
  have hkl : k < S.pg.length := by rw [h.pgl]; exact (List.getElem?_eq_some_iff.1 hs).1
  obtain ⟨j2, jn, jp, jo, jf⟩ := h.free hj
  have hjl : j < S.fe.length := by rw [h.fel]; exact jn
  have hf0 : fr0 j = false := by cases e : fr0 j with | false => rfl | true => rw [h.frk j e] at jf; cases jf
  have hjpg : ∀ m : Nat, S.pg[m]? ≠ some j := fun m hm => by
    cases hd : dn m with
    | false => rw [h.keep m hd] at hm; exact jp m hm
    | true =>
      rcases h.new m j hd hm with ⟨e, -⟩ | ⟨-, e, -⟩
      · omega
      · rw [jf] at e; cases e
  refine ⟨h.n, fun q hq x hx => ?_, by simp [TS.lay, trn, h.fel], by simp [TS.lay, h.pgl], fun m hm => ?_, fun m q hm hq => ?_, fun q hq => ?_, fun q hq => ?_, fun q hq => ?_, fun a b q ha hb2 hq => ?_, fun q hq => ?_, h.lfstep h0 hk hs, fun q hq => ?_, ?_⟩
  · simp only [TS.lay] at hx
    rw [Dk.wr_rd] at hx
    split at hx
    · exact tabL_byte _ _ _ _ x hx
    · exact h.byt q hq x hx
  · rw [setB_at] at hm
    have hmk : m ≠ k := fun e => by rw [if_pos e] at hm; cases hm
    rw [if_neg hmk] at hm
    simp only [TS.lay]
    rw [set_at hkl, if_neg hmk]
    exact h.keep m hm
  · simp only [TS.lay] at hq ⊢
    rw [set_at hkl] at hq
    rw [setB_at] at hm
    by_cases e : m = k
    · subst e
      rw [if_pos rfl] at hq
      injection hq with hq
      subst hq
      exact .inr ⟨j2, by rw [setB_at, if_pos rfl], hf0, by rw [Dk.wr_rd, if_pos rfl], hb⟩
    · rw [if_neg e] at hm hq
      rcases h.new m q hm hq with e1 | ⟨e1, e2, e3, e4, e5⟩
      · exact .inl e1
      · have hqj : q ≠ j := by rintro rfl; rw [jf] at e2; cases e2
        exact .inr ⟨e1, by rw [setB_at, if_neg hqj]; exact e2, e3, by rw [Dk.wr_rd, if_neg hqj]; exact e4, e5⟩
  · simp only [TS.lay] at hq ⊢
    rw [setB_at] at hq
    by_cases e : q = j
    · subst e
      exact .inr ⟨k, by rw [setB_at, if_pos rfl], by rw [set_at hkl, if_pos rfl]⟩
    · rw [if_neg e] at hq
      rcases h.frr q hq with e1 | ⟨m, h1, h2⟩
      · exact .inl e1
      · refine .inr ⟨m, by rw [setB_at]; split; rfl; exact h1, ?_⟩
        rw [set_at hkl, if_neg (fun e => by subst e; rw [hk] at h1; cases h1)]
        exact h2
  · simp only [TS.lay]
    rw [setB_at]
    split
    · rfl
    · exact h.frk q hq
  · simp only [TS.lay] at hq
    rw [setB_at] at hq
    by_cases e : q = j
    · subst e; exact ⟨j2, jn, jp, jo⟩
    · rw [if_neg e] at hq; exact h.frn q hq
  · simp only [TS.lay] at ha hb2
    rw [set_at hkl] at ha hb2
    split at ha
    · split at hb2
      · omega
      · injection ha with ha; subst ha; exact absurd hb2 (hjpg b)
    · split at hb2
      · injection hb2 with hb2; subst hb2; exact absurd ha (hjpg a)
      · exact h.jP a b q ha hb2 hq
  · simp only [TS.lay]
    rw [trn_getD hjl, setB_at]
    by_cases e : q = j
    · subst e; rw [if_pos rfl, hj]; simp
    · simp only [e, if_false]
      exact h.acct q hq
  · simp only [TS.lay] at hq ⊢
    have hqj : q ≠ j := by
      rintro rfl
      have := hq (by rw [setB_at, if_pos rfl])
      rw [hf0] at this
      cases this
    rw [Dk.wr_rd, if_neg hqj]
    exact h.rd q fun e => hq (by rw [setB_at, if_neg hqj]; exact e)
  · have h1 := cnt_trn_no hj
    have h2 := h.room
    show rem ≤ cnt (trn S.fe j)
    omega
end

end Go.Proofs.YtjlfnebkibgfmaaGreatDoor

/- The pager: the table pages are written, one by one. -/
namespace Go.Proofs.YtjlfnebkibgfmaaGreatDoor
open Go.RowKit Go.Maps
open Go.ChangeMaps (setBlock)

/-- A row of the call's own, outside of F. -/
structure OutR (b0 : Nat) (W : World) (F : Nat → Prop) (e : TypeId) (v : Value) (n : Nat) (xs : List Value) : Prop where
  own : W.ownsRow b0 e 1 v n xs
  out : ∀ g, v.ownBlock = some g → ¬ F g
section
variable {b0 n : Nat} {W W' : World} {F F' G : Nat → Prop} {e : TypeId} {v : Value} {xs : List Value}
theorem OutR.rch (h : OutR b0 W F e v n xs) (k : Rch F F' W W') : OutR b0 W' F' e v n xs :=
  ⟨own_chg h.own k.chg h.out, fun g hg q => (k.new g q).elim (h.out g hg) fun q => by have := (h.own.lt g hg).2; omega⟩
theorem OutR.grew (h : OutR b0 W F e v n xs) (hg : Grew W W') : OutR b0 W' F e v n xs := ⟨own_grew h.own hg, h.out⟩
theorem OutR.chg (h : OutR b0 W F e v n xs) (hc : Chg G W W') (hG : ∀ g, v.ownBlock = some g → ¬ G g) : OutR b0 W' F e v n xs := ⟨own_chg h.own hc hG, h.out⟩
end

theorem ChIn.past {w w' : World} {L : Nat → Nat} {o : Cg} {c M1 s1 M2 s2 : Nat} {vw vl : Value} {G : Nat → Prop} (h : ChIn w L o c vw M1 s1 vl M2 s2) (hc : Chg G w w') (hG : ∀ j, L j ≠ 0 → ¬ G j) : ChIn w' L o c vw M1 s1 vl M2 s2 :=
  ⟨h.blk.chg hc (hG _ (by rw [h.lc]; omega)), h.lc, own_chg h.was hc (fun j hj => hG j (by rw [h.lw j hj]; omega)), h.lw, h.fr.chg hc (hG _ (by rw [h.lf]; omega)), h.lf, own_chg h.lft hc (fun j hj => hG j (by rw [h.ll j hj]; omega)), h.ll, h.tch.chg hc (hG _ (by rw [h.lt]; omega)), h.lt, h.n1, h.n2⟩
def Gp.at_ (X : Gp) (o : Cg) (S : TS) : Gp := { X with D := S.D, free := S.fe, op := some { o with fresh := S.fr, left := S.lf } }
theorem mem_keysL {f : Nat → Bool} {N k : Nat} : k ∈ keysL f N ↔ k < N ∧ f k = true := by
  unfold keysL
  rw [List.mem_filter, List.mem_range]
theorem keysL_len (f : Nat → Bool) (N : Nat) : (keysL f N).length = cntN f N := by
  unfold keysL
  rw [cntN_countP, List.countP_eq_length_filter]
theorem keysL_nd (f : Nat → Bool) (N : Nat) : (keysL f N).Nodup := List.nodup_range.filter _
/-- The first i of them are done. -/
def dnOf (ks : List Nat) (i : Nat) : Nat → Bool := fun k => decide (k ∈ ks.take i)
theorem dnOf_zero (ks : List Nat) : dnOf ks 0 = fun _ => false := by funext k; simp [dnOf]
theorem dnOf_step {ks : List Nat} {i k : Nat} (h : ks[i]? = some k) : dnOf ks (i + 1) = setB (dnOf ks i) k true := by
  funext m
  rw [setB_at]
  unfold dnOf
  rw [List.take_add_one, h]
  by_cases e : m = k
  · subst e; simp
  · simp [e]
theorem dnOf_new {ks : List Nat} {i k : Nat} (hn : ks.Nodup) (h : ks[i]? = some k) : dnOf ks i k = false := by
  unfold dnOf
  refine decide_eq_false fun hm => ?_
  obtain ⟨q, hq, e⟩ := List.mem_iff_getElem.1 hm
  rw [List.getElem_take] at e
  rw [List.length_take] at hq
  have h9 : ks[q]? = ks[i]? := by rw [List.getElem?_eq_getElem (show q < ks.length by omega), h, e]
  have := (List.getElem?_inj (by omega) hn).1 h9
  omega
theorem TInv.lfle {D0 : Dk} {ep : Nat} {pg0 tb old lf0 : List Nat} {fe0 : List Bool} {fr0 tc dn : Nat → Bool} {S : TS} {rem : Nat} (h0 : Inv D0 ep pg0 tb old fe0 fr0 lf0 tc) (h : TInv D0 pg0 tb old fr0 S dn rem) : S.lf.length ≤ 4096 := by
  have h1 := List.Nodup.length_le_of_subset h.lf.1 (l₂ := List.range D0.n) fun s hs => List.mem_range.2 (by
    rcases (h.lf.2 s).1 hs with ⟨-, i, hi, -⟩ | ⟨e, k, -, hk⟩
    · exact h0.rO i s hi
    · exact (h0.rP k s hk e).2)
  have := h0.sz
  rw [List.length_range] at h1
  omega

theorem tabs_lt (row need sz : Nat) : ∀ f k0, (∀ j, j < k0 → j * row < need) → ∀ j, j < tabs row need sz f k0 → j * row < need
  | 0, k0, h, j, hj => h j hj
  | f + 1, k0, h, j, hj => by
    unfold tabs at hj
    split at hj
    · rename_i hc
      refine tabs_lt row need sz f (k0 + 1) (fun q hq => ?_) j hj
      by_cases e : q = k0
      · subst e; exact hc.2
      · exact h q (by omega)
    · exact h j hj
theorem cap_lt {n sz k : Nat} (hz : 64 ≤ sz) (hk : k < tabN n sz) : k * (sz / 2) < capN n sz := by
  have h1 := tabs_lt (sz / 2) (n - 2) sz 64 0 (fun j hj => by omega) k hk
  have h2 : (k + 1) * (sz / 2) ≤ tabN n sz * (sz / 2) := Nat.mul_le_mul_right _ hk
  rw [Nat.add_mul, Nat.one_mul] at h2
  unfold capN
  split <;> omega

/-- Between two table pages. -/
structure TabsJ (w wr : World) (p : Nat) (F F' : Nat → Prop) (X : Gp) (o : Cg) (S : TS) (ks : List Nat) (vp vk : Value) : Prop where
  gs : GS wr p F' (X.at_ o S)
  rch : Rch F F' w wr
  row : OutR w.heap.size wr F' 3 vp X.pages.length (nv S.pg)
  keys : OutR w.heap.size wr F' 3 vk ks.length (nv ks)
  ne : ∀ g, vp.ownBlock = some g → vk.ownBlock ≠ some g
/-- What tables leaves. -/
def TabsO (w w' : World) (p : Nat) (F : Nat → Prop) (X : Gp) (o : Cg) (e : Ending) : Prop :=
  ∃ S F' v, e = .returned (.tuple #[v, .int .i64 0]) ∧ TInv X.D X.pages X.table o.was o.fresh S (dnOf (keysL o.touched 64) (keysL o.touched 64).length) 0 ∧ GS w' p F' (X.at_ o S) ∧ Rch F F' w w' ∧ OutR w.heap.size w' F' 3 v X.pages.length (nv S.pg)

section
variable {w wr w' : World} {p : Nat} {F F' F2 : Nat → Prop} {X : Gp} {o : Cg} {S S' : TS} {ks : List Nat} {vp vk : Value}
theorem TabsJ.step (h : TabsJ w wr p F F' X o S ks vp vk) (hg : GS w' p F2 (X.at_ o S')) (hr : Rch F' F2 wr w') (hp : S'.pg = S.pg) : TabsJ w w' p F F2 X o S' ks vp vk :=
  ⟨hg, h.rch.trans hr, by rw [hp]; exact h.row.rch hr, h.keys.rch hr, h.ne⟩
theorem TabsJ.grew (h : TabsJ w wr p F F' X o S ks vp vk) (hg : Grew wr w') : TabsJ w w' p F F' X o S ks vp vk :=
  ⟨h.gs.grew hg, h.rch.trans (Rch.grew hg), h.row.grew hg, h.keys.grew hg, h.ne⟩
/-- An entry of the new table is laid. -/
theorem TabsJ.put {g c : Nat} (h : TabsJ w wr p F F' X o S ks (.slice (some ⟨g, 0, none⟩) X.pages.length c) vk) (h0 : 0 < w.heap.size) (k j : Nat) :
    TabsJ w (wr.setCell ⟨g, k, none⟩ (.int .i64 j)) p F F' X o { S with pg := S.pg.set k j } ks (.slice (some ⟨g, 0, none⟩) X.pages.length c) vk := by
  have hc : Chg (fun q => q = g) wr (wr.setCell ⟨g, k, none⟩ (.int .i64 j)) := (Chg.refl (fun q => q = g) wr).setCell (p := ⟨g, k, none⟩) (fun _ => rfl) _
  have hgF : ¬ F' g := h.row.out g rfl
  have hgw := (h.row.own.lt g rfl).1
  refine ⟨h.gs.chg hc (fun q hq e => hgF (e ▸ hq)) (by omega), ⟨Chg.trans h.rch.chg hc fun i hi e => by omega, fun q hq => h.rch.new q hq⟩, ⟨?_, fun q hq => h.row.out q hq⟩, h.keys.chg hc fun q hq e => h.ne q (by rw [e]; rfl) hq, fun q hq => h.ne q hq⟩
  have := (h.row.own.stored k (.int .i64 j)).1
  have e : nv (S.pg.set k j) = (nv S.pg).set k (.int .i64 (j : Int)) := by simp [nv, List.map_set]
  show (wr.setCell ⟨g, k, none⟩ (.int .i64 (j : Int))).ownsRow _ _ _ _ _ (nv (S.pg.set k j))
  rw [e]
  exact this
end

set_option maxRecDepth 100000 in
set_option maxHeartbeats 6400000 in
theorem gtables_ok (p : Nat) (F : Nat → Prop) (X : Gp) (o : Cg) (w : World) (h : GS w p F X) (hok : X.Ok) (hx : X.op = some o) (hne : 0 < (keysL o.touched 64).length) :
    Calls Tryz.prog 27 #[.pointer (some ⟨p, 0, none⟩)] w fun e w' => TabsO w w' p F X o e := by
  have hv := hok.inv
  simp only [Gp.old, Gp.fr, Gp.lf, Gp.tc, hx] at hv
  have hup := hok.up
  have hrow := hok.row
  have hsz := hv.sz
  have HGS := Lib.hid h
  have hpos := tab_pos h.tab
  obtain ⟨L, d, b, A, ca, vp, vt, vo, h, hF⟩ := h
  have ho := h.opn
  rw [hx] at ho
  obtain ⟨c, vw, M1, s1, vl, M2, s2, rfl, hi2⟩ := ho
  obtain ⟨Ap, cp, rfl, -⟩ := own_shape h.pgs
  have hcl := clone_ints X.pages Ap cp w h.pgs (by have := hv.pg64; omega)
  obtain ⟨c0, f0, s0⟩ := h.blk.facts
  have hn64 : ∀ k, o.touched k = true → k < 64 := hi2.n2.2
  have hopt : X.op = some { o with fresh := o.fresh, left := o.left } := hx
  have H := Lib.hid (And.intro h (And.intro hi2 (And.intro hF (And.intro hcl (And.intro hv (And.intro hup (And.intro hrow (And.intro hsz (And.intro hx hne)))))))))
  clear h hi2 hF hcl hv hup hrow hsz hx hok hopt
  go_enter Tryz.func27, Tryz.ntmps27
  go_wp2_with fail
  refine H.out.2.2.2.1.mono ?_
  rintro e w1 ⟨A1, c1, rfl, ho1, hg1⟩
  have hB1 := H.out.1.blk.grew hg1
  have hB2 := H.out.2.1.blk.grew hg1
  obtain ⟨d0, e0, s0'⟩ := hB1.facts
  obtain ⟨d1, e1, s1'⟩ := hB2.facts
  have H1 := Lib.hid (And.intro ho1 hg1)
  clear ho1 hg1 hB1 hB2 c0 f0 s0
  obtain ⟨W2, hW2⟩ : ∃ W, w1.alloc (.cells #[.map (some M2)] 46) = W := ⟨_, rfl⟩
  go_wp2_with (go_at_call 52; (refine (mkeys_any M2 _ W2 hW2).mono ?_); rintro e w2 ⟨rfl, rfl⟩)
  have hg2 : Grew w1 W2 := hW2 ▸ (Chg.refl _ _).alloc _
  have hbb : Blk W2 w1.heap.size 46 #[.map (some M2)] := hW2 ▸ Blk.new _ _ _
  have hks := ksorted_any w1.heap.size M2 s2 64 o.touched W2 hbb (H.out.2.1.tch.grew (Grew.trans H1.out.2 hg2)) hn64 (by omega) H.out.2.2.2.2.2.2.2.2.2
  have HK := Lib.hid (And.intro hks hg2)
  clear hks hg2 hbb hW2 d0 e0 s0' d1 e1 s1'
  refine HK.out.1.mono ?_
  rintro e w3 ⟨A3, c3, rfl, ho3, hg3⟩
  obtain ⟨ks, hks⟩ : ∃ ks, keysL o.touched 64 = ks := ⟨_, rfl⟩
  have hGw3 : Grew w w3 := Grew.trans H1.out.2 (Grew.trans HK.out.2 hg3)
  have hAt : X.at_ o ⟨X.D, X.free, o.fresh, o.left, X.pages⟩ = X := by
    unfold Gp.at_
    rw [show ({ o with fresh := o.fresh, left := o.left } : Cg) = o from rfl, ← H.out.2.2.2.2.2.2.2.2.1]
  rw [hks] at ho3
  have hJ0 : TabsJ w w3 p F F X o ⟨X.D, X.free, o.fresh, o.left, X.pages⟩ ks (.slice A1 X.pages.length c1) (.slice A3 ks.length c3) := by
    have hl1 := H1.out.1.lt
    have hl3 := ho3.lt
    have hz2 := H1.out.2.size
    have hz3 := HK.out.2.size
    refine ⟨by rw [hAt]; exact HGS.out.grew hGw3, Rch.grew hGw3, ⟨own_grew H1.out.1 (Grew.trans HK.out.2 hg3), fun g hg e => ?_⟩, ⟨own_base ho3 (by omega), fun g hg e => ?_⟩, fun g hg1 hg3' => ?_⟩
    · have h8 := (hl1 g hg).1; have h9 := HGS.out.lt g e; omega
    · have h8 := (hl3 g hg).1; have h9 := HGS.out.lt g e; omega
    · have h8 := (hl1 g hg1).2; have h9 := (hl3 g hg3').1; omega
  have hT0 := TInv.start H.out.2.2.2.2.1
  rw [← keysL_len, hks, ← dnOf_zero ks] at hT0
  have hrm : ks.length - 0 = ks.length := rfl
  have HJ0 := Lib.hid (And.intro hJ0 hT0)
  have HKs := Lib.hid hks
  have hkl : ks.length ≤ 64 := by rw [← hks, keysL_len]; exact cntN_le _ _
  simp only [hks]
  clear ho3 hg3 hGw3 hAt hJ0 hT0 hks hrm hne
  obtain ⟨row, hrw⟩ : ∃ r, X.row = r := ⟨_, rfl⟩
  have HRw := Lib.hid hrw
  go_wp2_with fail
  go_loopg [27] ks.length (fun q v wr => ∃ (i : Nat) (S : TS) (F' : Nat → Prop), q = ks.length - i ∧ i ≤ ks.length ∧ v = .int .i64 i ∧ TabsJ w wr p F F' X o S ks (.slice A1 X.pages.length c1) (.slice A3 ks.length c3) ∧ TInv X.D X.pages X.table o.was o.fresh S (dnOf ks i) (ks.length - i))
  case atStart => exact ⟨0, ⟨X.D, X.free, o.fresh, o.left, X.pages⟩, F, rfl, Nat.zero_le _, rfl, HJ0.out.1, HJ0.out.2⟩
  case round =>
    obtain ⟨i, S, F', rfl, hi, rfl, hJ, hT⟩ := hrel
    have HJ := Lib.hid (And.intro hJ hT)
    clear hJ hT
    by_cases hlt : i < ks.length
    · obtain ⟨k, hk⟩ : ∃ k, ks[i]? = some k := ⟨_, List.getElem?_eq_getElem hlt⟩
      have hkm : k ∈ keysL o.touched 64 := by rw [HKs.out]; exact List.mem_of_getElem? hk
      obtain ⟨hk64, hkt⟩ := mem_keysL.1 hkm
      have hkp : k < X.pages.length := H.out.2.2.2.2.1.tc6 k hkt
      have hkS : k < S.pg.length := by rw [HJ.out.2.pgl]; exact hkp
      have hdn : dnOf ks i k = false := dnOf_new (HKs.out ▸ keysL_nd _ _) hk
      obtain ⟨s, hs⟩ : ∃ s, X.pages[k]? = some s := ⟨_, List.getElem?_eq_getElem hkp⟩
      have hsS : S.pg[k]? = some s := by rw [HJ.out.2.keep k hdn]; exact hs
      obtain ⟨gq, rfl, hgq⟩ := own_block HJ.out.1.row.own (by omega)
      obtain ⟨g3, rfl, hg3⟩ := own_block HJ.out.1.keys.own (by omega)
      have ck : wr.cell? ⟨g3, i, none⟩ = some (.int .i64 k) := by
        have := HJ.out.1.keys.own.cells (g := g3) rfl i (.int .i64 k) (by simp [nv, hk])
        rwa [Addr.add_lit, Nat.zero_add] at this
      have cs : wr.cell? ⟨gq, k, none⟩ = some (.int .i64 s) := by
        have := HJ.out.1.row.own.cells (g := gq) rfl k (.int .i64 s) (by simp [nv, hsS])
        rwa [Addr.add_lit, Nat.zero_add] at this
      have hfs : S.fr s = false := by
        cases e : S.fr s with
        | false => rfl
        | true => exact absurd hs ((HJ.out.2.frn s e).2.2.1 k)
      have hsn : s ≠ 0 → s < X.D.n := fun e => (H.out.2.2.2.2.1.rP k s hs e).2
      have hfl : S.fe.length ≤ 4096 := by have := HJ.out.2.fel; have := H.out.2.2.2.2.2.2.2.1; omega
      have hlv := gleave_any p s F' (X.at_ o S) { o with fresh := S.fr, left := S.lf } wr HJ.out.1.gs rfl hfl (fun h2 => ⟨by have h8 := HJ.out.2.fel; have h9 := hsn (by omega); show s < S.fe.length; omega, fun e => by rw [show ({ o with fresh := S.fr, left := S.lf } : Cg).fresh s = S.fr s from rfl, hfs] at e; cases e⟩) (by have := TInv.lfle H.out.2.2.2.2.1 HJ.out.2; show S.lf.length ≤ 100000; omega)
      have hle : (X.at_ o S).leave { o with fresh := S.fr, left := S.lf } s = X.at_ o { S with lf := if s ≤ 1 then S.lf else S.lf ++ [s] } := by
        unfold Gp.leave Gp.left Gp.at_
        by_cases h1 : s ≤ 1
        · rw [if_pos h1, if_pos h1]
        · rw [if_neg h1, if_neg h1]
          simp only [hfs]
          rfl
      rw [hle] at hlv
      obtain ⟨lf', hlf⟩ : ∃ lf', (if s ≤ 1 then S.lf else S.lf ++ [s]) = lf' := ⟨_, rfl⟩
      rw [hlf] at hlv
      have HLf := Lib.hid hlf
      have HLv := Lib.hid (And.intro hlv (And.intro hk (And.intro hdn (And.intro hs (And.intro hfs hkt)))))
      clear hlv hle hlf hk hkm hkt hdn hs hsS hfs hsn
      go_wp2_with fail
      refine HLv.out.1.mono ?_
      rintro e w4 ⟨rfl, F4, hg4, hc4, hn4⟩
      have hJ4 := HJ.out.1.step (S' := { S with lf := lf' }) hg4 ⟨hc4, hn4⟩ rfl
      have hJ5 := hJ4.put hpos k 0
      have H4 := Lib.hid (And.intro hJ4 hJ5)
      obtain ⟨u0, hu0⟩ : ∃ u, w4.cell? ⟨gq, k, none⟩ = some u := by
        rw [hJ4.row.own.cellAt k (by omega)]
        exact ⟨_, List.getElem?_eq_getElem (by rw [nv_len]; exact hkS)⟩
      have fr0 := hJ4.row.own.frozenAt k
      have sgq := (hJ4.row.own.lt gq rfl).2
      clear hg4 hc4 hn4 hJ4 hJ5 cs ck
      go_wp2_with fail
      have hat5 : X.at_ o { S with lf := lf', pg := S.pg.set k 0 } = X.at_ o { S with lf := lf' } := rfl
      have hsec := gsector_any p k F4 (X.at_ o { S with lf := lf', pg := S.pg.set k 0 }) _ H4.out.2.gs (by show X.row = S.D.sz / 2; rw [HJ.out.2.n.2.1]; exact H.out.2.2.2.2.2.2.1) hk64 (by
        show k * X.row < X.table.length
        rw [H.out.2.2.2.2.2.2.1, H.out.2.2.2.2.1.lens.2.2.1]
        exact cap_lt H.out.2.2.2.2.2.2.2.1.2.2.1 (by rw [← H.out.2.2.2.2.1.lens.2.1]; exact hkp)) H.out.2.2.2.2.1.tb4.1 (fun q hq => by
        obtain ⟨m, hm⟩ := List.mem_iff_getElem?.1 hq
        by_cases e : q < 2
        · omega
        · have h9 := H.out.2.2.2.2.2.2.2.1
          rcases H.out.2.2.2.2.1.cur m q hm (by omega) with e1 | e1
          · have := (H.out.2.2.2.2.1.frr q e1).2.1; omega
          · have := H.out.2.2.2.2.1.rO m q e1; omega)
      have hsb : someB X.table X.row k X.row = someB X.table (X.D.sz / 2) k (X.D.sz / 2) := by rw [H.out.2.2.2.2.2.2.1]
      have htl : tabL X.table X.row S.D.sz k = tabL X.table (X.D.sz / 2) X.D.sz k := by rw [H.out.2.2.2.2.2.2.1, HJ.out.2.n.2.1]
      have hsec2 : Calls Tryz.prog 53 #[.pointer (some ⟨p, 0, none⟩), .int .i64 k] (w4.setCell ⟨gq, k, none⟩ (.int .i64 ((0 : Nat) : Int))) fun e w' =>
          ∃ A c, e = .returned (.tuple #[.slice A S.D.sz c, .bool (someB X.table X.row k X.row)]) ∧ w'.ownsRow (w4.setCell ⟨gq, k, none⟩ (.int .i64 ((0 : Nat) : Int))).heap.size 5 1 (.slice A S.D.sz c) S.D.sz (bv (tabL X.table X.row S.D.sz k)) ∧ Grew (w4.setCell ⟨gq, k, none⟩ (.int .i64 ((0 : Nat) : Int))) w' := hsec
      have HSe := Lib.hid (And.intro hsec2 (And.intro hsb htl))
      clear hsec hsec2 hsb htl hat5 hu0 fr0 sgq
      refine HSe.out.1.mono ?_
      rintro e w6 ⟨A6, c6, rfl, ho6, hg6⟩
      have hJ6 := H4.out.2.grew hg6
      have hT := HJ.out.2
      rw [show ks.length - i = (ks.length - (i + 1)) + 1 by omega] at hT
      obtain ⟨sb, hsb⟩ : ∃ sb, someB X.table X.row k X.row = sb := ⟨_, rfl⟩
      have hsb2 := HSe.out.2.1
      rw [hsb] at hsb2
      have H6 := Lib.hid (And.intro hJ6 (And.intro hT (And.intro ho6 (And.intro hg6 hsb2))))
      rw [hsb]
      clear hJ6 hT ho6 hg6 hsb hsb2
      cases sb with
      | false =>
        go_wp2_with fail
        go_roundg (ks.length - (i + 1))
        case measure => omega
        case rel => exact ⟨i + 1, S.left k s, F4, rfl, by omega, by simp, by unfold TS.left; rw [HLf.out]; exact H6.out.1, by rw [dnOf_step HLv.out.2.1]; exact TInv.skip H.out.2.2.2.2.1 H6.out.2.1 HLv.out.2.2.1 HLv.out.2.2.2.1 H6.out.2.2.2.2.symm⟩
      | true =>
        obtain ⟨L6, d6, b6, A6p, ca6, vp6, vt6, vo6, hG6, hF6⟩ := H6.out.1.gs
        obtain rfl : F4 = fun j => L6 j ≠ 0 := funext fun j => propext (hF6 j)
        have ho6 : OpnIn w6 L6 vo6 (some { o with fresh := S.fr, left := lf' }) := hG6.opn
        obtain ⟨c', vw', M1', s1', vl', M2', s2', rfl, hi6⟩ := ho6
        obtain ⟨j, hj, hjl, hjt⟩ := take_there (fe := S.fe) (by have := H6.out.2.1.room; omega)
        obtain ⟨j2, jn, jp, jo, jf⟩ := H6.out.2.1.free hjt
        obtain ⟨gb, rfl, hgb⟩ := own_block H6.out.2.2.1 (by have := HJ.out.2.n.2.1; have := H.out.2.2.2.2.2.2.2.1; omega)
        have hgb4 := (H6.out.2.2.1.lt gb rfl).1
        have hbO : OutR w.heap.size w6 (fun j => L6 j ≠ 0) 5 (.slice (some ⟨gb, 0, none⟩) S.D.sz c6) S.D.sz (bv (tabL X.table X.row S.D.sz k)) := by
          have hz5 := H4.out.2.rch.chg.size
          refine ⟨own_base H6.out.2.2.1 (by omega), fun q hq e => ?_⟩
          simp [Value.ownBlock] at hq
          subst hq
          have h8 : gb < (w4.setCell ⟨gq, k, none⟩ (.int .i64 ((0 : Nat) : Int))).heap.size := H4.out.2.gs.lt gb e
          omega
        obtain ⟨x0, y0, z0⟩ := hG6.blk.facts
        have hptk := ptake_some b6 j S.fe A6p ca6 w6 hG6.pol (by omega) hG6.tab hj
        have H7 := Lib.hid (And.intro hG6 (And.intro hi6 (And.intro hbO (And.intro hptk (And.intro hj (And.intro hjt (And.intro (And.intro j2 (And.intro jn (And.intro jp jo))) jf)))))))
        have hgqb : gq ≠ gb := fun e => by
          have h8 : gq < (w4.setCell ⟨gq, k, none⟩ (.int .i64 ((0 : Nat) : Int))).heap.size := by have := (H4.out.2.row.own.lt gq rfl).2; exact this
          omega
        clear hG6 hi6 hbO hptk hj hjt jp jo jf hF6 hgb4
        go_wp2_with fail
        refine H7.out.2.2.2.1.mono ?_
        rintro e w7 ⟨rfl, h71, h72⟩
        obtain ⟨hG7, ht7⟩ := H7.out.1.pool h71 h72
        have hr7 := (ht7.s (K := fun m => m = 3) H7.out.1.lt rfl (by omega)).rch (by omega) (fun j => Iff.rfl)
        have hJ7 := H6.out.1.step (S' := { S with fe := trn S.fe j, lf := lf', pg := S.pg.set k 0 }) hG7.gs hr7 rfl
        have hb7 := H7.out.2.2.1.rch hr7
        have hi7 := H7.out.2.1.keep ht7 (by omega)
        have hJ8 := hJ7.put hpos k j
        have hc8 : Chg (fun q => q = gq) w7 (w7.setCell ⟨gq, k, none⟩ (.int .i64 j)) := (Chg.refl (fun q => q = gq) w7).setCell (p := ⟨gq, k, none⟩) (fun _ => rfl) _
        have hgqF : ∀ q, L6 q ≠ 0 → q ≠ gq := fun q hq e => hJ7.row.out gq rfl (e ▸ hq)
        have hgw := (hJ7.row.own.lt gq rfl).1
        have hG8 := hG7.chg hc8 hgqF (by omega)
        have hi8 : ChIn (w7.setCell ⟨gq, k, none⟩ (.int .i64 j)) L6 { o with fresh := S.fr, left := lf' } c' vw' M1' s1' vl' M2' s2' := hi7.past hc8 hgqF
        have hb8 := hb7.chg hc8 (fun q hq e => hgqb (by simp [Value.ownBlock] at hq; omega))
        obtain ⟨v0, st, o1, o2, hr1, hr2, hG9, ht9⟩ := hG8.frput hi8 (by have := H.out.2.2.2.2.2.2.2.1; omega) H7.out.2.2.2.2.2.2.2
        simp only [goInt] at hr1 hr2
        have hr9 := (ht9.s (K := fun m => m = 8) hG8.lt rfl (by omega)).rch (by omega) (fun j => Iff.rfl)
        have hJ9 := hJ8.step (S' := { S with fe := trn S.fe j, lf := lf', pg := (S.pg.set k 0).set k j, fr := setB S.fr j true }) hG9.gs hr9 rfl
        have hb9 := hb8.rch hr9
        obtain ⟨u0, hu0⟩ : ∃ u, w7.cell? ⟨gq, k, none⟩ = some u := by
          rw [hJ7.row.own.cellAt k (by omega)]
          exact ⟨_, List.getElem?_eq_getElem (by rw [nv_len, List.length_set]; exact hkS)⟩
        have fr0 := hJ7.row.own.frozenAt k
        have sgq := (hJ7.row.own.lt gq rfl).2
        clear x0 y0 z0
        obtain ⟨x0, y0, z0⟩ := hG7.blk.facts
        obtain ⟨x1, y1, z1⟩ := hi7.blk.facts
        have x9 := hG9.blk.cell 0
        simp only [List.getElem?_toArray, List.getElem?_cons_zero] at x9
        have H9 := Lib.hid (And.intro hG9 (And.intro hJ9 hb9))
        clear hG7 ht7 hr7 hJ7 hb7 hi7 hJ8 hc8 hgqF hG8 hi8 hb8 hG9 ht9 hr9 hJ9 hb9 h71 h72
        go_wp2_with fail
        obtain ⟨W9, hW9⟩ : ∃ W, setBlock (setBlock (w7.setCell ⟨gq, k, none⟩ (.int .i64 j)) M1' o1) M1' o2 = W := ⟨_, rfl⟩
        rw [hW9] at H9 ⊢
        clear hr1 hr2 hu0 fr0 sgq x0 y0 z0 x1 y1 z1 x9 hW9
        have hdw := dwrite_ok d6 j (tabL X.table X.row S.D.sz k) (some ⟨gb, 0, none⟩) (by simp) c6 (fun q => L6 q = 2) S.D W9 H9.out.1.dsk (by rw [HJ.out.2.n.2.2.1]; exact H.out.2.2.2.2.2.1.2.1) (by rw [HJ.out.2.n.2.2.2]; exact H.out.2.2.2.2.2.1.2.2) (by omega) (by have := HJ.out.2.n.1; omega)
          (tabL_len (by rw [HJ.out.2.n.2.1, H.out.2.2.2.2.2.2.1]; omega)) (by have := Sl.of_own (own_base H9.out.2.2.own (Nat.zero_le _)); rw [tabL_len (by rw [HJ.out.2.n.2.1, H.out.2.2.2.2.2.2.1]; omega)]; exact this)
        rw [tabL_len (by rw [HJ.out.2.n.2.1, H.out.2.2.2.2.2.2.1]; omega)] at hdw
        have HDw := Lib.hid hdw
        clear hdw
        refine HDw.out.mono ?_
        rintro e w10 ⟨rfl, h10⟩
        obtain ⟨L10, hG10, ht10⟩ := H9.out.1.disk h10
        have hr10 := (ht10.s (K := fun m => m = 2) H9.out.1.lt rfl (by omega)).rch (by omega) (fun j => Iff.rfl)
        have hJ10 := H9.out.2.1.step (S' := S.lay k s j (tabL X.table X.row S.D.sz k)) (show GS w10 p (fun j => L10 j ≠ 0) (X.at_ o (S.lay k s j (tabL X.table X.row S.D.sz k))) from by
          have e1 : X.at_ o (S.lay k s j (tabL X.table X.row S.D.sz k)) = { X with D := S.D.wr j (tabL X.table X.row S.D.sz k), free := trn S.fe j, op := some { o with fresh := setB S.fr j true, left := lf' } } := by
            unfold Gp.at_ TS.lay
            rw [HLf.out]
          rw [e1]
          exact hG10.gs) hr10 (by unfold TS.lay; simp)
        have hT10 := TInv.lay H.out.2.2.2.2.1 H6.out.2.1 HLv.out.2.2.1 HLv.out.2.2.2.1 H6.out.2.2.2.2.symm H7.out.2.2.2.2.2.1
        rw [← HSe.out.2.2] at hT10
        have H10 := Lib.hid (And.intro hJ10 hT10)
        clear h10 hG10 ht10 hr10 hJ10 hT10
        go_wp2_with fail
        go_roundg (ks.length - (i + 1))
        case measure => omega
        case rel => exact ⟨i + 1, S.lay k s j (tabL X.table X.row S.D.sz k), _, rfl, by omega, by simp, H10.out.1, by rw [dnOf_step HLv.out.2.1]; exact H10.out.2⟩
    · obtain rfl : i = ks.length := by omega
      go_wp2_with fail
      go_ret2
      refine ⟨S, F', _, rfl, ?_, HJ.out.1.gs, HJ.out.1.rch, HJ.out.1.row⟩
      have := HJ.out.2
      rw [Nat.sub_self] at this
      rw [HKs.out]
      exact this

end Go.Proofs.YtjlfnebkibgfmaaGreatDoor
