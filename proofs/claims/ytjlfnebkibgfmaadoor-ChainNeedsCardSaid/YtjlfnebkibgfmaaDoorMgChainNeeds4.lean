/- ChainNeeds returns true, for every input. It has no condition; the table of math/bits that its row lists is tied to the program. -/
import Derived.Test.YtjlfnebkibgfmaaDoorMgChainNeeds3
import Derived.Test.YtjlfnebkibgfmaaDoorRows
import Derived.Test.YtjlfnebkibgfmaaDoorTie
import Derived.Test.YtjlfnebkibgfmaaDoorCards
import Derived.Lib.LaidTab
import Derived.LaidLaws
import Derived.LaidHandle
import Derived.SevenTiedAt
import Derived.ProofKit
import Derived.OpenShut
import Derived.ShutString
import Derived.ChangeOld
import Derived.Deep.Slices
import Derived.Deep.Fields
set_option linter.unusedSimpArgs false
set_option linter.unusedVariables false

/- The pager: Open on an empty disk. -/
namespace Go.Proofs.YtjlfnebkibgfmaaDoor
open Go.RowKit Go.Maps

set_option maxHeartbeats 800000 in
theorem gopen_range (d : Nat) (F : Nat → Prop) (D : Dk) (w : World) (h : DS w d F D) (hr : D.n < 8 ∨ D.sz < 64) :
    Calls Tryd.prog 20 #[.pointer (some ⟨d, 0, none⟩)] w fun e w' => e = .returned (.tuple #[.pointer none, .int .i64 11]) ∧ w = w' := by
  have H := Lib.hid h
  clear h
  by_cases h8 : D.n < 8
  · have a1 : decide ((D.n : Int) < 8) = true := decide_eq_true (by omega)
    clear hr h8
    go_enter Tryd.func20, Tryd.ntmps20
    go_wp2_with (first
      | (go_at_call 39; (refine (dsectors_any d F D _ H.out).mono ?_); rintro e w1 ⟨rfl, rfl⟩)
      | (go_at_call 40; (refine (dsize_any d F D _ H.out).mono ?_); rintro e w1 ⟨rfl, rfl⟩))
    go_ret2
    exact ⟨rfl, rfl⟩
  · have a1 : decide ((D.n : Int) < 8) = false := decide_eq_false (by omega)
    have a2 : decide ((D.sz : Int) < 64) = true := decide_eq_true (by omega)
    clear hr h8
    go_enter Tryd.func20, Tryd.ntmps20
    go_wp2_with (first
      | (go_at_call 39; (refine (dsectors_any d F D _ H.out).mono ?_); rintro e w1 ⟨rfl, rfl⟩)
      | (go_at_call 40; (refine (dsize_any d F D _ H.out).mono ?_); rintro e w1 ⟨rfl, rfl⟩))
    go_ret2
    exact ⟨rfl, rfl⟩

/-- A new pager. -/
def Gp.fresh (D : Dk) : Gp := { D := D, epoch := 0, row := D.sz / 2, pages := List.replicate (tabN D.n D.sz) 0, table := List.replicate (capN D.n D.sz) 0, free := trn (trn (full D.n) 0) 1, op := none, down := false }

/-- A row of noughts, new since w0. -/
structure NewInts (w0 w : World) (g n : Nat) : Prop where
  blk : Blk w g 3 (nv (List.replicate n 0)).toArray
  new : w0.heap.size ≤ g
structure NewPool (w0 w : World) (b n : Nat) (A : Option Addr) (c : Nat) : Prop where
  p : PIn w b (full n) A c
  new : ∀ j, PF b A j → w0.heap.size ≤ j
theorem NewInts.grew {w0 w w' : World} {g n : Nat} (h : NewInts w0 w g n) (hg : Grew w w') : NewInts w0 w' g n := ⟨h.blk.grew hg, h.new⟩
theorem NewPool.grew {w0 w w' : World} {b n c : Nat} {A : Option Addr} (h : NewPool w0 w b n A c) (hg : Grew w w') : NewPool w0 w' b n A c := ⟨h.p.grew hg, h.new⟩
/-- A new pager, as its parts lie. -/
structure OpenIn (w0 w : World) (p d row T C g1 g2 b n : Nat) (A : Option Addr) (c : Nat) : Prop where
  blk : Blk w p 61 #[.pointer (some ⟨d, 0, none⟩), .int .i64 0, .int .i64 row, .slice (some ⟨g1, 0, none⟩) T T, .slice (some ⟨g2, 0, none⟩) C C, .pointer (some ⟨b, 0, none⟩), .pointer none, .bool false]
  t1 : NewInts w0 w g1 T
  t2 : NewInts w0 w g2 C
  ne : g1 ≠ g2
  pool : NewPool w0 w b n A c
  grew : Grew w0 w
  new : w0.heap.size ≤ p
def OpenJ (w0 : World) (d row T C n : Nat) (v : Value) (w : World) : Prop := ∃ p g1 g2 b A c, v = .pointer (some ⟨p, 0, none⟩) ∧ OpenIn w0 w p d row T C g1 g2 b n A c
theorem openJ_mk {w0 w : World} {d row T C g1 g2 b n c : Nat} {A : Option Addr} {r : Int} (hr : r = (row : Int)) (h1 : NewInts w0 w g1 T) (h2 : NewInts w0 w g2 C) (hne : g1 ≠ g2) (hp : NewPool w0 w b n A c) (hg : Grew w0 w) :
    OpenJ w0 d row T C n (.pointer (some ⟨w.heap.size, 0, none⟩)) (w.alloc (.cells #[.pointer (some ⟨d, 0, none⟩), .int .i64 0, .int .i64 r, .slice (some ⟨g1, 0, none⟩) T T, .slice (some ⟨g2, 0, none⟩) C C, .pointer (some ⟨b, 0, none⟩), .pointer none, .bool false] 61)) := by
  subst hr
  exact ⟨_, g1, g2, b, A, c, rfl, Blk.new _ _ _, h1.grew ((Chg.refl _ _).alloc _), h2.grew ((Chg.refl _ _).alloc _), hne, hp.grew ((Chg.refl _ _).alloc _), hg.alloc _, hg.size⟩

/-- The pool of n sectors, when the first k are marked. -/
def mkd (n : Nat) : Nat → List Bool
  | 0 => full n
  | k + 1 => trn (mkd n k) k
theorem mkd_len (n : Nat) : ∀ k, (mkd n k).length = n
  | 0 => full_len n
  | k + 1 => by rw [mkd, trn, List.length_set]; exact mkd_len n k
theorem mkd_at (n : Nat) : ∀ k j, k ≤ n → (mkd n k).getD j false = (decide (k ≤ j) && decide (j < n))
  | 0, j, _ => by rw [mkd, full_at]; simp
  | k + 1, j, hk => by
    rw [mkd, trn, getD_set _ _ _ _ (by rw [mkd_len]; omega), mkd_at n k k (by omega), mkd_at n k j (by omega)]
    by_cases e : j = k
    · subst e; simp; omega
    · rw [if_neg e]
      by_cases h1 : k ≤ j
      · simp [h1, show k + 1 ≤ j by omega]
      · simp [h1, show ¬ k + 1 ≤ j by omega]
theorem mkd_mark (n k : Nat) (hk : k < n) : toL (mkd n k) (k : Int) false = (mkd n (k + 1), 0) := by
  unfold toL
  rw [if_neg (by rw [mkd_len]; omega), Int.toNat_natCast, mkd_at n k k (by omega), if_neg (by simp; omega)]
  rfl
theorem own_new {w : World} {g n : Nat} {t : TypeId} {cs : Array Value} (h : Blk w g t cs) (hn : cs.size = n) (hm : n ≤ maxLen) : w.ownsRow 0 t 1 (.slice (some ⟨g, 0, none⟩) n n) n cs.toList :=
  ⟨by simp [hn], .inr ⟨g, n, cs, rfl, Nat.zero_le _, h, Nat.le_refl _, hm, by simp [hn], by rw [Nat.mul_one, ← hn, ← Array.length_toList, List.take_length]⟩⟩
theorem blk_ne {w : World} {g g' : Nat} {t t' : TypeId} {cs cs' : Array Value} (h : Blk w g t cs) (h' : Blk w g' t' cs') (hne : t ≠ t') : g ≠ g' := by
  rintro rfl
  unfold Blk at h h'
  rw [h] at h'
  injection h' with h'
  injection h' with h1 h2
  exact hne h2
theorem pf_ne {w : World} {b c g : Nat} {x : List Bool} {A : Option Addr} {t : TypeId} {cs : Array Value} (h : PIn w b x A c) (hg : Blk w g t cs) (h1 : t ≠ 101) (h2 : t ≠ 102) : ¬ PF b A g := by
  rintro (rfl | ⟨a, rfl, rfl⟩)
  · have := h.blk
    unfold Blk at this hg
    rw [this] at hg
    cases hg
    exact h1 rfl
  · exact own_blk_ne h.own hg (Ne.symm h2) rfl
/-- A new pager stands. -/
theorem gfresh_mk {w0 w : World} {d p g1 g2 b c : Nat} {A : Option Addr} {F : Nat → Prop} {D : Dk} (hd : DS w d F D) (hF0 : ∀ j, F j → j < w0.heap.size) (h0 : ¬ F 0) (hpos : 0 < w0.heap.size) (hT : TabAt 0 tab w) (hn : D.n ≤ 4096)
    (hb : Blk w p 61 #[.pointer (some ⟨d, 0, none⟩), .int .i64 0, .int .i64 (D.sz / 2 : Nat), .slice (some ⟨g1, 0, none⟩) (tabN D.n D.sz) (tabN D.n D.sz), .slice (some ⟨g2, 0, none⟩) (capN D.n D.sz) (capN D.n D.sz), .pointer (some ⟨b, 0, none⟩), .pointer none, .bool false])
    (h1 : Blk w g1 3 (nv (List.replicate (tabN D.n D.sz) 0)).toArray) (h2 : Blk w g2 3 (nv (List.replicate (capN D.n D.sz) 0)).toArray) (hne : g1 ≠ g2) (hp : PIn w b (mkd D.n 2) A c)
    (n0 : w0.heap.size ≤ p) (n1 : w0.heap.size ≤ g1) (n2 : w0.heap.size ≤ g2) (n3 : ∀ j, PF b A j → w0.heap.size ≤ j) :
    ∃ F', GS w p F' (Gp.fresh D) ∧ ∀ j, F' j → F j ∨ w0.heap.size ≤ j := by
  classical
  have hC : capN D.n D.sz ≤ 4096 := by unfold capN; split <;> omega
  have hT64 : tabN D.n D.sz ≤ 64 := by have := tabs_le (D.sz / 2) (D.n - 2) D.sz 64 0; unfold tabN; omega
  have d1 : p ≠ g1 := blk_ne hb h1 (by decide)
  have d2 : p ≠ g2 := blk_ne hb h2 (by decide)
  have d3 := pf_ne hp hb (by decide) (by decide)
  have d4 := pf_ne hp h1 (by decide) (by decide)
  have d5 := pf_ne hp h2 (by decide) (by decide)
  obtain ⟨L, hL⟩ : ∃ L : Nat → Nat, L = fun j => if j = p then 1 else if j = g1 then 4 else if j = g2 then 5 else if PF b A j then 3 else if F j then 2 else 0 := ⟨_, rfl⟩
  have l1 : L p = 1 := by rw [hL]; simp
  have l4 : L g1 = 4 := by rw [hL]; simp [Ne.symm d1]
  have l5 : L g2 = 5 := by rw [hL]; simp [Ne.symm d2, Ne.symm hne]
  have l3 : ∀ j, PF b A j → L j = 3 := fun j hj => by
    have e1 : j ≠ p := fun e => d3 (e ▸ hj)
    have e2 : j ≠ g1 := fun e => d4 (e ▸ hj)
    have e3 : j ≠ g2 := fun e => d5 (e ▸ hj)
    rw [hL]; simp [e1, e2, e3, hj]
  have l2 : ∀ j, L j = 2 ↔ F j := fun j => by
    have hlt : F j → j < w0.heap.size := hF0 j
    by_cases e1 : j = p
    · subst e1; rw [l1]; exact ⟨fun e => by omega, fun e => by have := hlt e; omega⟩
    by_cases e2 : j = g1
    · subst e2; rw [l4]; exact ⟨fun e => by omega, fun e => by have := hlt e; omega⟩
    by_cases e3 : j = g2
    · subst e3; rw [l5]; exact ⟨fun e => by omega, fun e => by have := hlt e; omega⟩
    by_cases e4 : PF b A j
    · rw [l3 j e4]; exact ⟨fun e => by omega, fun e => by have := hlt e; have := n3 j e4; omega⟩
    · rw [hL]; by_cases e5 : F j <;> simp [e1, e2, e3, e4, e5]
  have l0 : ∀ j, L j ≠ 0 → F j ∨ (w0.heap.size ≤ j ∧ j < w.heap.size) := fun j hj => by
    by_cases e1 : j = p
    · subst e1; exact .inr ⟨n0, hb.lt⟩
    by_cases e2 : j = g1
    · subst e2; exact .inr ⟨n1, h1.lt⟩
    by_cases e3 : j = g2
    · subst e3; exact .inr ⟨n2, h2.lt⟩
    by_cases e4 : PF b A j
    · exact .inr ⟨n3 j e4, hp.lt j e4⟩
    by_cases e5 : F j
    · exact .inl e5
    · rw [hL] at hj; simp [e1, e2, e3, e4, e5] at hj
  refine ⟨fun j => L j ≠ 0, ⟨L, d, b, A, c, _, _, none, ⟨hb, l1, ?_, hp, l3, ?_, fun j hj => ?_, ?_, fun j hj => ?_, rfl, fun j hj => ?_, ?_, hT⟩, fun _ => Iff.rfl⟩, fun j hj => (l0 j hj).imp id fun e => e.1⟩
  · rw [show (fun j => L j = 2) = F from funext fun j => propext (l2 j)]
    exact hd
  · have := own_new (n := tabN D.n D.sz) h1 (by simp [nv]) (by simp only [maxLen]; omega)
    simpa [Gp.fresh] using this
  · have : g1 = j := by simpa [Value.ownBlock] using hj
    rw [← this]; exact l4
  · have := own_new (n := capN D.n D.sz) h2 (by simp [nv]) (by simp only [maxLen]; omega)
    simpa [Gp.fresh] using this
  · have : g2 = j := by simpa [Value.ownBlock] using hj
    rw [← this]; exact l5
  · rcases l0 j hj with e | e
    · exact hd.lt j e
    · exact e.2
  · by_cases e : L 0 = 0
    · exact e
    · rcases l0 0 e with e | e
      · exact absurd e h0
      · omega

set_option maxRecDepth 100000 in
set_option maxHeartbeats 6400000 in
theorem gopen_new (d : Nat) (F : Nat → Prop) (D : Dk) (w : World) (h : DS w d F D) (hd : D.down = false) (hT : TabAt 0 tab w) (h0 : ¬ F 0) (hn : 8 ≤ D.n) (hz : 64 ≤ D.sz) (hp : ∀ i : Nat, i < 2 → partL ((D.rd i).take (D.sz - 8)) = none) (hby : ∀ i : Nat, i < 2 → ∀ x ∈ D.rd i, 0 ≤ x ∧ x ≤ 255) :
    Calls Tryd.prog 20 #[.pointer (some ⟨d, 0, none⟩)] w fun e w' => ∃ p F', e = .returned (.tuple #[.pointer (some ⟨p, 0, none⟩), .int .i64 0]) ∧ GS w' p F' (Gp.fresh D) ∧ Grew w w' ∧ ∀ j, F' j → F j ∨ w.heap.size ≤ j := by
  have hsm := h.sml
  have a1 : decide ((D.n : Int) < 8) = false := decide_eq_false (by omega)
  have a2 : decide ((D.sz : Int) < 64) = false := decide_eq_false (by omega)
  have H := Lib.hid (And.intro h (And.intro hT (And.intro hp hby)))
  clear h hT hp hby
  go_enter Tryd.func20, Tryd.ntmps20
  go_wp2_with (first
    | (go_at_call 39; (refine (dsectors_any d F D _ H.out.1).mono ?_); rintro e w1 ⟨rfl, rfl⟩)
    | (go_at_call 40; (refine (dsize_any d F D _ H.out.1).mono ?_); rintro e w1 ⟨rfl, rfl⟩)
    | (go_at_call 41; (refine (places_any D.n D.sz _ hn hsm.2.1 hz hsm.2.2.2).mono ?_); rintro e w1 ⟨rfl, hg1⟩; have HG1 := Lib.hid hg1; clear hg1))
  have hT := tabs_le (D.sz / 2) (D.n - 2) D.sz 64 0
  have hT64 : tabN D.n D.sz ≤ 64 := by unfold tabN; omega
  have hC : capN D.n D.sz ≤ 4096 := by unfold capN; split <;> omega
  have eq2 : (D.sz : Int).tdiv 2 = ((D.sz / 2 : Nat) : Int) := by simp
  have ew2 : IntKind.i64.wrap ((D.sz / 2 : Nat) : Int) = ((D.sz / 2 : Nat) : Int) := wrap_nat (by omega)
  have ew3 : IntKind.i64.wrap ((D.sz : Int) / 2) = ((D.sz / 2 : Nat) : Int) := by have := ew2; simpa using this
  have HG0 := Lib.hid (show Grew w1 w1.drew from (Chg.refl _ _).drew)
  clear hT
  go_cut [6] (fun v wx => OpenJ w1 d (D.sz / 2) (tabN D.n D.sz) (capN D.n D.sz) D.n v wx)
  case first =>
    refine wp_region_held_drew (S := fun _ => True) (by kernel_rfl) trivial (fun _ => ?_)
    refine wpAnyH_take (i := 0) (v := ?_) rfl (by kernel_rfl) (by kernel_rfl) (by kernel_rfl) (fun _ _ _ h => h) (Or.inl ⟨by rfl, ?_⟩) trivial ?_
    rotate_left
    · (intro w hSw; (try dsimp only at hSw); go_simp) <;> with_reducible rfl
    (try simp only [Act.put, List.setIfInBounds_toArray, List.set_cons_zero, List.set_cons_succ])
    refine wpAnyH_take (i := 1) (v := ?_) rfl (by kernel_rfl) (by kernel_rfl) (by kernel_rfl) (fun _ _ _ h => h) (Or.inl ⟨by rfl, ?_⟩) trivial ?_
    rotate_left
    · (intro w hSw; (try dsimp only at hSw); go_simp) <;> with_reducible rfl
    (try simp only [Act.put, List.setIfInBounds_toArray, List.set_cons_zero, List.set_cons_succ])
    refine wpAnyH_take (i := 4) (v := ?_) rfl (by kernel_rfl) (by kernel_rfl) (by kernel_rfl) (fun _ _ _ h => h) (Or.inl ⟨by rfl, ?_⟩) trivial ?_
    rotate_left
    · (intro w hSw; (try dsimp only at hSw); go_simp) <;> with_reducible rfl
    (try simp only [Act.put, List.setIfInBounds_toArray, List.set_cons_zero, List.set_cons_succ])
    refine wpAnyH_take (i := 6) (v := ?_) rfl (by kernel_rfl) (by kernel_rfl) (by kernel_rfl) (fun _ _ _ h => h) (Or.inl ⟨by rfl, ?_⟩) trivial ?_
    rotate_left
    · (intro w hSw; (try dsimp only at hSw); go_simp) <;> with_reducible rfl
    (try simp only [Act.put, List.setIfInBounds_toArray, List.set_cons_zero, List.set_cons_succ])
    refine wpAnyH_take (i := 8) (v := ?_) rfl (by kernel_rfl) (by kernel_rfl) (by kernel_rfl) (fun _ _ _ h => h) (Or.inl ⟨by rfl, ?_⟩) trivial ?_
    rotate_left
    · (intro w hSw; (try dsimp only at hSw); go_simp) <;> with_reducible rfl
    (try simp only [Act.put, List.setIfInBounds_toArray, List.set_cons_zero, List.set_cons_succ])
    obtain ⟨y5, hr5, hB5, hG5, hs5⟩ := make_ints (tabN D.n D.sz) (w1.drew) (by omega)
    obtain ⟨y7, hr7, hB7, hG7, hs7⟩ := make_ints (capN D.n D.sz) (w1.drew) (by omega)
    refine wpAnyH_ready (rs := [2, 5, 7]) (by kernel_rfl) (by simp) ?_
    refine (AllReadyH.cons rfl (fun K hK => ?_) (AllReadyH.cons rfl (fun K hK => ?_) (AllReadyH.cons rfl (fun K hK => ?_) AllReadyH.nil)))
    · go_simp
      refine (dsize_any d F D _ (H.out.1.grew (Grew.trans HG1.out HG0.out))).mono ?_
      rintro e u2 ⟨rfl, rfl⟩
      refine hK.out _ _ trivial (fun _ => ?_)
      clear hK K
      (try simp only [Act.put, List.setIfInBounds_toArray, List.set_cons_zero, List.set_cons_succ])
      clear hr5 hB5 hG5 hs5 y5 hr7 hB7 hG7 hs7 y7
      refine wpAnyH_take (i := 3) (v := ?_) rfl (by kernel_rfl) (by kernel_rfl) (by kernel_rfl) (fun _ _ _ h => h) (Or.inl ⟨by rfl, ?_⟩) trivial ?_
      rotate_left
      · (intro w hSw; (try dsimp only at hSw); go_simp) <;> with_reducible rfl
      (try simp only [Act.put, List.setIfInBounds_toArray, List.set_cons_zero, List.set_cons_succ])
      obtain ⟨y5, hr5, hB5, hG5, hs5⟩ := make_ints (tabN D.n D.sz) (w1.drew) (by omega)
      obtain ⟨y7, hr7, hB7, hG7, hs7⟩ := make_ints (capN D.n D.sz) (w1.drew) (by omega)
      refine wpAnyH_ready (rs := [5, 7, 9]) (by kernel_rfl) (by simp) ?_
      refine (AllReadyH.cons rfl (fun K hK => ?_) (AllReadyH.cons rfl (fun K hK => ?_) (AllReadyH.cons rfl (fun K hK => ?_) AllReadyH.nil)))
      · go_simp
        refine hK.out _ _ trivial (fun _ => ?_)
        clear hK K
        (try simp only [Act.put, List.setIfInBounds_toArray, List.set_cons_zero, List.set_cons_succ])
        have HQ5 := Lib.hid (show NewInts w1 y5 (w1.drew).heap.size (tabN D.n D.sz) from ⟨hB5, HG0.out.size⟩)
        have HLT5 := Lib.hid (show (w1.drew).heap.size < y5.heap.size from HQ5.out.1.lt)
        have HG5 := Lib.hid (Grew.trans HG0.out hG5)
        clear hr5 hB5 hG5 hs5 hr7 hB7 hG7 hs7 y7
        obtain ⟨y7, hr7, hB7, hG7, hs7⟩ := make_ints (capN D.n D.sz) (y5) (by omega)
        refine wpAnyH_ready (rs := [7, 9]) (by kernel_rfl) (by simp) ?_
        refine (AllReadyH.cons rfl (fun K hK => ?_) (AllReadyH.cons rfl (fun K hK => ?_) AllReadyH.nil))
        · go_simp
          refine hK.out _ _ trivial (fun _ => ?_)
          clear hK K
          (try simp only [Act.put, List.setIfInBounds_toArray, List.set_cons_zero, List.set_cons_succ])
          have HQ5 := Lib.hid (HQ5.out.grew hG7)
          have HQ7 := Lib.hid (show NewInts w1 y7 (y5).heap.size (capN D.n D.sz) from ⟨hB7, HG5.out.size⟩)
          have HD := Lib.hid (show (w1.drew).heap.size ≠ (y5).heap.size from Nat.ne_of_lt HLT5.out)
          have HG7 := Lib.hid (Grew.trans HG5.out hG7)
          clear hr7 hB7 hG7 hs7
          refine wpAnyH_ready (rs := [9]) (by kernel_rfl) (by simp) ?_
          refine (AllReadyH.cons rfl (fun K hK => ?_) AllReadyH.nil)
          · go_simp
            refine (dsectors_any d F D _ (H.out.1.grew (Grew.trans HG1.out HG7.out))).mono ?_
            rintro e u2 ⟨rfl, rfl⟩
            refine hK.out _ _ trivial (fun _ => ?_)
            clear hK K
            (try simp only [Act.put, List.setIfInBounds_toArray, List.set_cons_zero, List.set_cons_succ])
            refine wpAnyH_ready (rs := [10]) (by kernel_rfl) (by simp) ?_
            refine (AllReadyH.cons rfl (fun K hK => ?_) AllReadyH.nil)
            · go_simp
              refine (pnew_any D.n _ (by omega)).mono ?_
              rintro e y10 ⟨A10, c10, rfl, hp10, hg10, hn10⟩
              refine hK.out _ _ trivial (fun _ => ?_)
              clear hK K
              (try simp only [Act.put, List.setIfInBounds_toArray, List.set_cons_zero, List.set_cons_succ])
              have HQ5 := Lib.hid (HQ5.out.grew hg10)
              have HQ7 := Lib.hid (HQ7.out.grew hg10)
              have HQ10 := Lib.hid (show NewPool w1 y10 (y7).heap.size D.n A10 c10 from ⟨hp10, fun j hj => Nat.le_trans HG7.out.size (hn10 j hj)⟩)
              have HG10 := Lib.hid (Grew.trans HG7.out hg10)
              clear hp10 hg10 hn10
              refine wpAnyH_take (i := 11) (v := ?_) rfl (by kernel_rfl) (by kernel_rfl) (by kernel_rfl) (fun _ _ _ h => h) (Or.inl ⟨by rfl, ?_⟩) trivial ?_
              rotate_left
              · (intro w hSw; (try dsimp only at hSw); go_simp) <;> with_reducible rfl
              (try simp only [Act.put, List.setIfInBounds_toArray, List.set_cons_zero, List.set_cons_succ])
              refine wpAnyH_ready (rs := [12]) (by kernel_rfl) (by simp) ?_
              refine AllReadyH.cons rfl (fun K hK => ?_) AllReadyH.nil
              go_simp
              refine hK.out _ _ trivial (fun _ => ?_)
              clear hK K
              (try simp only [Act.put, List.setIfInBounds_toArray, List.set_cons_zero, List.set_cons_succ])
              refine wpAnyH_ready (rs := [13]) (by kernel_rfl) (by simp) ?_
              refine AllReadyH.cons rfl (fun K hK => ?_) AllReadyH.nil
              go_simp
              refine hK.out _ _ trivial (fun _ => ?_)
              clear hK K
              (try simp only [Act.put, List.setIfInBounds_toArray, List.set_cons_zero, List.set_cons_succ])
              refine wpAnyH_done (by kernel_rfl) ?_ _
              go_wp2
              go_meet
              exact openJ_mk (by first | exact ew3 | omega) HQ5.out HQ7.out HD.out HQ10.out HG10.out
        · go_simp
          refine (dsectors_any d F D _ (H.out.1.grew (Grew.trans HG1.out HG5.out))).mono ?_
          rintro e u2 ⟨rfl, rfl⟩
          refine hK.out _ _ trivial (fun _ => ?_)
          clear hK K
          (try simp only [Act.put, List.setIfInBounds_toArray, List.set_cons_zero, List.set_cons_succ])
          clear hr7 hB7 hG7 hs7 y7
          obtain ⟨y7, hr7, hB7, hG7, hs7⟩ := make_ints (capN D.n D.sz) (y5) (by omega)
          refine wpAnyH_ready (rs := [7, 10]) (by kernel_rfl) (by simp) ?_
          refine (AllReadyH.cons rfl (fun K hK => ?_) (AllReadyH.cons rfl (fun K hK => ?_) AllReadyH.nil))
          · go_simp
            refine hK.out _ _ trivial (fun _ => ?_)
            clear hK K
            (try simp only [Act.put, List.setIfInBounds_toArray, List.set_cons_zero, List.set_cons_succ])
            have HQ5 := Lib.hid (HQ5.out.grew hG7)
            have HQ7 := Lib.hid (show NewInts w1 y7 (y5).heap.size (capN D.n D.sz) from ⟨hB7, HG5.out.size⟩)
            have HD := Lib.hid (show (w1.drew).heap.size ≠ (y5).heap.size from Nat.ne_of_lt HLT5.out)
            have HG7 := Lib.hid (Grew.trans HG5.out hG7)
            clear hr7 hB7 hG7 hs7
            refine wpAnyH_ready (rs := [10]) (by kernel_rfl) (by simp) ?_
            refine (AllReadyH.cons rfl (fun K hK => ?_) AllReadyH.nil)
            · go_simp
              refine (pnew_any D.n _ (by omega)).mono ?_
              rintro e y10 ⟨A10, c10, rfl, hp10, hg10, hn10⟩
              refine hK.out _ _ trivial (fun _ => ?_)
              clear hK K
              (try simp only [Act.put, List.setIfInBounds_toArray, List.set_cons_zero, List.set_cons_succ])
              have HQ5 := Lib.hid (HQ5.out.grew hg10)
              have HQ7 := Lib.hid (HQ7.out.grew hg10)
              have HQ10 := Lib.hid (show NewPool w1 y10 (y7).heap.size D.n A10 c10 from ⟨hp10, fun j hj => Nat.le_trans HG7.out.size (hn10 j hj)⟩)
              have HG10 := Lib.hid (Grew.trans HG7.out hg10)
              clear hp10 hg10 hn10
              refine wpAnyH_take (i := 11) (v := ?_) rfl (by kernel_rfl) (by kernel_rfl) (by kernel_rfl) (fun _ _ _ h => h) (Or.inl ⟨by rfl, ?_⟩) trivial ?_
              rotate_left
              · (intro w hSw; (try dsimp only at hSw); go_simp) <;> with_reducible rfl
              (try simp only [Act.put, List.setIfInBounds_toArray, List.set_cons_zero, List.set_cons_succ])
              refine wpAnyH_ready (rs := [12]) (by kernel_rfl) (by simp) ?_
              refine AllReadyH.cons rfl (fun K hK => ?_) AllReadyH.nil
              go_simp
              refine hK.out _ _ trivial (fun _ => ?_)
              clear hK K
              (try simp only [Act.put, List.setIfInBounds_toArray, List.set_cons_zero, List.set_cons_succ])
              refine wpAnyH_ready (rs := [13]) (by kernel_rfl) (by simp) ?_
              refine AllReadyH.cons rfl (fun K hK => ?_) AllReadyH.nil
              go_simp
              refine hK.out _ _ trivial (fun _ => ?_)
              clear hK K
              (try simp only [Act.put, List.setIfInBounds_toArray, List.set_cons_zero, List.set_cons_succ])
              refine wpAnyH_done (by kernel_rfl) ?_ _
              go_wp2
              go_meet
              exact openJ_mk (by first | exact ew3 | omega) HQ5.out HQ7.out HD.out HQ10.out HG10.out
          · go_simp
            refine (pnew_any D.n _ (by omega)).mono ?_
            rintro e y10 ⟨A10, c10, rfl, hp10, hg10, hn10⟩
            refine hK.out _ _ trivial (fun _ => ?_)
            clear hK K
            (try simp only [Act.put, List.setIfInBounds_toArray, List.set_cons_zero, List.set_cons_succ])
            have HQ5 := Lib.hid (HQ5.out.grew hg10)
            have HLT5 := Lib.hid (Nat.lt_of_lt_of_le HLT5.out hg10.size)
            have HQ10 := Lib.hid (show NewPool w1 y10 (y5).heap.size D.n A10 c10 from ⟨hp10, fun j hj => Nat.le_trans HG5.out.size (hn10 j hj)⟩)
            have HG10 := Lib.hid (Grew.trans HG5.out hg10)
            clear hp10 hg10 hn10
            clear hr7 hB7 hG7 hs7 y7
            obtain ⟨y7, hr7, hB7, hG7, hs7⟩ := make_ints (capN D.n D.sz) (y10) (by omega)
            refine wpAnyH_ready (rs := [7]) (by kernel_rfl) (by simp) ?_
            refine (AllReadyH.cons rfl (fun K hK => ?_) AllReadyH.nil)
            · go_simp
              refine hK.out _ _ trivial (fun _ => ?_)
              clear hK K
              (try simp only [Act.put, List.setIfInBounds_toArray, List.set_cons_zero, List.set_cons_succ])
              have HQ5 := Lib.hid (HQ5.out.grew hG7)
              have HQ10 := Lib.hid (HQ10.out.grew hG7)
              have HQ7 := Lib.hid (show NewInts w1 y7 (y10).heap.size (capN D.n D.sz) from ⟨hB7, HG10.out.size⟩)
              have HD := Lib.hid (show (w1.drew).heap.size ≠ (y10).heap.size from Nat.ne_of_lt HLT5.out)
              have HG7 := Lib.hid (Grew.trans HG10.out hG7)
              clear hr7 hB7 hG7 hs7
              refine wpAnyH_take (i := 11) (v := ?_) rfl (by kernel_rfl) (by kernel_rfl) (by kernel_rfl) (fun _ _ _ h => h) (Or.inl ⟨by rfl, ?_⟩) trivial ?_
              rotate_left
              · (intro w hSw; (try dsimp only at hSw); go_simp) <;> with_reducible rfl
              (try simp only [Act.put, List.setIfInBounds_toArray, List.set_cons_zero, List.set_cons_succ])
              refine wpAnyH_ready (rs := [12]) (by kernel_rfl) (by simp) ?_
              refine AllReadyH.cons rfl (fun K hK => ?_) AllReadyH.nil
              go_simp
              refine hK.out _ _ trivial (fun _ => ?_)
              clear hK K
              (try simp only [Act.put, List.setIfInBounds_toArray, List.set_cons_zero, List.set_cons_succ])
              refine wpAnyH_ready (rs := [13]) (by kernel_rfl) (by simp) ?_
              refine AllReadyH.cons rfl (fun K hK => ?_) AllReadyH.nil
              go_simp
              refine hK.out _ _ trivial (fun _ => ?_)
              clear hK K
              (try simp only [Act.put, List.setIfInBounds_toArray, List.set_cons_zero, List.set_cons_succ])
              refine wpAnyH_done (by kernel_rfl) ?_ _
              go_wp2
              go_meet
              exact openJ_mk (by first | exact ew3 | omega) HQ5.out HQ7.out HD.out HQ10.out HG7.out
      · go_simp
        refine hK.out _ _ trivial (fun _ => ?_)
        clear hK K
        (try simp only [Act.put, List.setIfInBounds_toArray, List.set_cons_zero, List.set_cons_succ])
        have HQ7 := Lib.hid (show NewInts w1 y7 (w1.drew).heap.size (capN D.n D.sz) from ⟨hB7, HG0.out.size⟩)
        have HLT7 := Lib.hid (show (w1.drew).heap.size < y7.heap.size from HQ7.out.1.lt)
        have HG7 := Lib.hid (Grew.trans HG0.out hG7)
        clear hr7 hB7 hG7 hs7 hr5 hB5 hG5 hs5 y5
        obtain ⟨y5, hr5, hB5, hG5, hs5⟩ := make_ints (tabN D.n D.sz) (y7) (by omega)
        refine wpAnyH_ready (rs := [5, 9]) (by kernel_rfl) (by simp) ?_
        refine (AllReadyH.cons rfl (fun K hK => ?_) (AllReadyH.cons rfl (fun K hK => ?_) AllReadyH.nil))
        · go_simp
          refine hK.out _ _ trivial (fun _ => ?_)
          clear hK K
          (try simp only [Act.put, List.setIfInBounds_toArray, List.set_cons_zero, List.set_cons_succ])
          have HQ7 := Lib.hid (HQ7.out.grew hG5)
          have HQ5 := Lib.hid (show NewInts w1 y5 (y7).heap.size (tabN D.n D.sz) from ⟨hB5, HG7.out.size⟩)
          have HD := Lib.hid (show (y7).heap.size ≠ (w1.drew).heap.size from Ne.symm (Nat.ne_of_lt HLT7.out))
          have HG5 := Lib.hid (Grew.trans HG7.out hG5)
          clear hr5 hB5 hG5 hs5
          refine wpAnyH_ready (rs := [9]) (by kernel_rfl) (by simp) ?_
          refine (AllReadyH.cons rfl (fun K hK => ?_) AllReadyH.nil)
          · go_simp
            refine (dsectors_any d F D _ (H.out.1.grew (Grew.trans HG1.out HG5.out))).mono ?_
            rintro e u2 ⟨rfl, rfl⟩
            refine hK.out _ _ trivial (fun _ => ?_)
            clear hK K
            (try simp only [Act.put, List.setIfInBounds_toArray, List.set_cons_zero, List.set_cons_succ])
            refine wpAnyH_ready (rs := [10]) (by kernel_rfl) (by simp) ?_
            refine (AllReadyH.cons rfl (fun K hK => ?_) AllReadyH.nil)
            · go_simp
              refine (pnew_any D.n _ (by omega)).mono ?_
              rintro e y10 ⟨A10, c10, rfl, hp10, hg10, hn10⟩
              refine hK.out _ _ trivial (fun _ => ?_)
              clear hK K
              (try simp only [Act.put, List.setIfInBounds_toArray, List.set_cons_zero, List.set_cons_succ])
              have HQ7 := Lib.hid (HQ7.out.grew hg10)
              have HQ5 := Lib.hid (HQ5.out.grew hg10)
              have HQ10 := Lib.hid (show NewPool w1 y10 (y5).heap.size D.n A10 c10 from ⟨hp10, fun j hj => Nat.le_trans HG5.out.size (hn10 j hj)⟩)
              have HG10 := Lib.hid (Grew.trans HG5.out hg10)
              clear hp10 hg10 hn10
              refine wpAnyH_take (i := 11) (v := ?_) rfl (by kernel_rfl) (by kernel_rfl) (by kernel_rfl) (fun _ _ _ h => h) (Or.inl ⟨by rfl, ?_⟩) trivial ?_
              rotate_left
              · (intro w hSw; (try dsimp only at hSw); go_simp) <;> with_reducible rfl
              (try simp only [Act.put, List.setIfInBounds_toArray, List.set_cons_zero, List.set_cons_succ])
              refine wpAnyH_ready (rs := [12]) (by kernel_rfl) (by simp) ?_
              refine AllReadyH.cons rfl (fun K hK => ?_) AllReadyH.nil
              go_simp
              refine hK.out _ _ trivial (fun _ => ?_)
              clear hK K
              (try simp only [Act.put, List.setIfInBounds_toArray, List.set_cons_zero, List.set_cons_succ])
              refine wpAnyH_ready (rs := [13]) (by kernel_rfl) (by simp) ?_
              refine AllReadyH.cons rfl (fun K hK => ?_) AllReadyH.nil
              go_simp
              refine hK.out _ _ trivial (fun _ => ?_)
              clear hK K
              (try simp only [Act.put, List.setIfInBounds_toArray, List.set_cons_zero, List.set_cons_succ])
              refine wpAnyH_done (by kernel_rfl) ?_ _
              go_wp2
              go_meet
              exact openJ_mk (by first | exact ew3 | omega) HQ5.out HQ7.out HD.out HQ10.out HG10.out
        · go_simp
          refine (dsectors_any d F D _ (H.out.1.grew (Grew.trans HG1.out HG7.out))).mono ?_
          rintro e u2 ⟨rfl, rfl⟩
          refine hK.out _ _ trivial (fun _ => ?_)
          clear hK K
          (try simp only [Act.put, List.setIfInBounds_toArray, List.set_cons_zero, List.set_cons_succ])
          clear hr5 hB5 hG5 hs5 y5
          obtain ⟨y5, hr5, hB5, hG5, hs5⟩ := make_ints (tabN D.n D.sz) (y7) (by omega)
          refine wpAnyH_ready (rs := [5, 10]) (by kernel_rfl) (by simp) ?_
          refine (AllReadyH.cons rfl (fun K hK => ?_) (AllReadyH.cons rfl (fun K hK => ?_) AllReadyH.nil))
          · go_simp
            refine hK.out _ _ trivial (fun _ => ?_)
            clear hK K
            (try simp only [Act.put, List.setIfInBounds_toArray, List.set_cons_zero, List.set_cons_succ])
            have HQ7 := Lib.hid (HQ7.out.grew hG5)
            have HQ5 := Lib.hid (show NewInts w1 y5 (y7).heap.size (tabN D.n D.sz) from ⟨hB5, HG7.out.size⟩)
            have HD := Lib.hid (show (y7).heap.size ≠ (w1.drew).heap.size from Ne.symm (Nat.ne_of_lt HLT7.out))
            have HG5 := Lib.hid (Grew.trans HG7.out hG5)
            clear hr5 hB5 hG5 hs5
            refine wpAnyH_ready (rs := [10]) (by kernel_rfl) (by simp) ?_
            refine (AllReadyH.cons rfl (fun K hK => ?_) AllReadyH.nil)
            · go_simp
              refine (pnew_any D.n _ (by omega)).mono ?_
              rintro e y10 ⟨A10, c10, rfl, hp10, hg10, hn10⟩
              refine hK.out _ _ trivial (fun _ => ?_)
              clear hK K
              (try simp only [Act.put, List.setIfInBounds_toArray, List.set_cons_zero, List.set_cons_succ])
              have HQ7 := Lib.hid (HQ7.out.grew hg10)
              have HQ5 := Lib.hid (HQ5.out.grew hg10)
              have HQ10 := Lib.hid (show NewPool w1 y10 (y5).heap.size D.n A10 c10 from ⟨hp10, fun j hj => Nat.le_trans HG5.out.size (hn10 j hj)⟩)
              have HG10 := Lib.hid (Grew.trans HG5.out hg10)
              clear hp10 hg10 hn10
              refine wpAnyH_take (i := 11) (v := ?_) rfl (by kernel_rfl) (by kernel_rfl) (by kernel_rfl) (fun _ _ _ h => h) (Or.inl ⟨by rfl, ?_⟩) trivial ?_
              rotate_left
              · (intro w hSw; (try dsimp only at hSw); go_simp) <;> with_reducible rfl
              (try simp only [Act.put, List.setIfInBounds_toArray, List.set_cons_zero, List.set_cons_succ])
              refine wpAnyH_ready (rs := [12]) (by kernel_rfl) (by simp) ?_
              refine AllReadyH.cons rfl (fun K hK => ?_) AllReadyH.nil
              go_simp
              refine hK.out _ _ trivial (fun _ => ?_)
              clear hK K
              (try simp only [Act.put, List.setIfInBounds_toArray, List.set_cons_zero, List.set_cons_succ])
              refine wpAnyH_ready (rs := [13]) (by kernel_rfl) (by simp) ?_
              refine AllReadyH.cons rfl (fun K hK => ?_) AllReadyH.nil
              go_simp
              refine hK.out _ _ trivial (fun _ => ?_)
              clear hK K
              (try simp only [Act.put, List.setIfInBounds_toArray, List.set_cons_zero, List.set_cons_succ])
              refine wpAnyH_done (by kernel_rfl) ?_ _
              go_wp2
              go_meet
              exact openJ_mk (by first | exact ew3 | omega) HQ5.out HQ7.out HD.out HQ10.out HG10.out
          · go_simp
            refine (pnew_any D.n _ (by omega)).mono ?_
            rintro e y10 ⟨A10, c10, rfl, hp10, hg10, hn10⟩
            refine hK.out _ _ trivial (fun _ => ?_)
            clear hK K
            (try simp only [Act.put, List.setIfInBounds_toArray, List.set_cons_zero, List.set_cons_succ])
            have HQ7 := Lib.hid (HQ7.out.grew hg10)
            have HLT7 := Lib.hid (Nat.lt_of_lt_of_le HLT7.out hg10.size)
            have HQ10 := Lib.hid (show NewPool w1 y10 (y7).heap.size D.n A10 c10 from ⟨hp10, fun j hj => Nat.le_trans HG7.out.size (hn10 j hj)⟩)
            have HG10 := Lib.hid (Grew.trans HG7.out hg10)
            clear hp10 hg10 hn10
            clear hr5 hB5 hG5 hs5 y5
            obtain ⟨y5, hr5, hB5, hG5, hs5⟩ := make_ints (tabN D.n D.sz) (y10) (by omega)
            refine wpAnyH_ready (rs := [5]) (by kernel_rfl) (by simp) ?_
            refine (AllReadyH.cons rfl (fun K hK => ?_) AllReadyH.nil)
            · go_simp
              refine hK.out _ _ trivial (fun _ => ?_)
              clear hK K
              (try simp only [Act.put, List.setIfInBounds_toArray, List.set_cons_zero, List.set_cons_succ])
              have HQ7 := Lib.hid (HQ7.out.grew hG5)
              have HQ10 := Lib.hid (HQ10.out.grew hG5)
              have HQ5 := Lib.hid (show NewInts w1 y5 (y10).heap.size (tabN D.n D.sz) from ⟨hB5, HG10.out.size⟩)
              have HD := Lib.hid (show (y10).heap.size ≠ (w1.drew).heap.size from Ne.symm (Nat.ne_of_lt HLT7.out))
              have HG5 := Lib.hid (Grew.trans HG10.out hG5)
              clear hr5 hB5 hG5 hs5
              refine wpAnyH_take (i := 11) (v := ?_) rfl (by kernel_rfl) (by kernel_rfl) (by kernel_rfl) (fun _ _ _ h => h) (Or.inl ⟨by rfl, ?_⟩) trivial ?_
              rotate_left
              · (intro w hSw; (try dsimp only at hSw); go_simp) <;> with_reducible rfl
              (try simp only [Act.put, List.setIfInBounds_toArray, List.set_cons_zero, List.set_cons_succ])
              refine wpAnyH_ready (rs := [12]) (by kernel_rfl) (by simp) ?_
              refine AllReadyH.cons rfl (fun K hK => ?_) AllReadyH.nil
              go_simp
              refine hK.out _ _ trivial (fun _ => ?_)
              clear hK K
              (try simp only [Act.put, List.setIfInBounds_toArray, List.set_cons_zero, List.set_cons_succ])
              refine wpAnyH_ready (rs := [13]) (by kernel_rfl) (by simp) ?_
              refine AllReadyH.cons rfl (fun K hK => ?_) AllReadyH.nil
              go_simp
              refine hK.out _ _ trivial (fun _ => ?_)
              clear hK K
              (try simp only [Act.put, List.setIfInBounds_toArray, List.set_cons_zero, List.set_cons_succ])
              refine wpAnyH_done (by kernel_rfl) ?_ _
              go_wp2
              go_meet
              exact openJ_mk (by first | exact ew3 | omega) HQ5.out HQ7.out HD.out HQ10.out HG5.out
      · go_simp
        refine (dsectors_any d F D _ (H.out.1.grew (Grew.trans HG1.out HG0.out))).mono ?_
        rintro e u2 ⟨rfl, rfl⟩
        refine hK.out _ _ trivial (fun _ => ?_)
        clear hK K
        (try simp only [Act.put, List.setIfInBounds_toArray, List.set_cons_zero, List.set_cons_succ])
        clear hr5 hB5 hG5 hs5 y5 hr7 hB7 hG7 hs7 y7
        obtain ⟨y5, hr5, hB5, hG5, hs5⟩ := make_ints (tabN D.n D.sz) (w1.drew) (by omega)
        obtain ⟨y7, hr7, hB7, hG7, hs7⟩ := make_ints (capN D.n D.sz) (w1.drew) (by omega)
        refine wpAnyH_ready (rs := [5, 7, 10]) (by kernel_rfl) (by simp) ?_
        refine (AllReadyH.cons rfl (fun K hK => ?_) (AllReadyH.cons rfl (fun K hK => ?_) (AllReadyH.cons rfl (fun K hK => ?_) AllReadyH.nil)))
        · go_simp
          refine hK.out _ _ trivial (fun _ => ?_)
          clear hK K
          (try simp only [Act.put, List.setIfInBounds_toArray, List.set_cons_zero, List.set_cons_succ])
          have HQ5 := Lib.hid (show NewInts w1 y5 (w1.drew).heap.size (tabN D.n D.sz) from ⟨hB5, HG0.out.size⟩)
          have HLT5 := Lib.hid (show (w1.drew).heap.size < y5.heap.size from HQ5.out.1.lt)
          have HG5 := Lib.hid (Grew.trans HG0.out hG5)
          clear hr5 hB5 hG5 hs5 hr7 hB7 hG7 hs7 y7
          obtain ⟨y7, hr7, hB7, hG7, hs7⟩ := make_ints (capN D.n D.sz) (y5) (by omega)
          refine wpAnyH_ready (rs := [7, 10]) (by kernel_rfl) (by simp) ?_
          refine (AllReadyH.cons rfl (fun K hK => ?_) (AllReadyH.cons rfl (fun K hK => ?_) AllReadyH.nil))
          · go_simp
            refine hK.out _ _ trivial (fun _ => ?_)
            clear hK K
            (try simp only [Act.put, List.setIfInBounds_toArray, List.set_cons_zero, List.set_cons_succ])
            have HQ5 := Lib.hid (HQ5.out.grew hG7)
            have HQ7 := Lib.hid (show NewInts w1 y7 (y5).heap.size (capN D.n D.sz) from ⟨hB7, HG5.out.size⟩)
            have HD := Lib.hid (show (w1.drew).heap.size ≠ (y5).heap.size from Nat.ne_of_lt HLT5.out)
            have HG7 := Lib.hid (Grew.trans HG5.out hG7)
            clear hr7 hB7 hG7 hs7
            refine wpAnyH_ready (rs := [10]) (by kernel_rfl) (by simp) ?_
            refine (AllReadyH.cons rfl (fun K hK => ?_) AllReadyH.nil)
            · go_simp
              refine (pnew_any D.n _ (by omega)).mono ?_
              rintro e y10 ⟨A10, c10, rfl, hp10, hg10, hn10⟩
              refine hK.out _ _ trivial (fun _ => ?_)
              clear hK K
              (try simp only [Act.put, List.setIfInBounds_toArray, List.set_cons_zero, List.set_cons_succ])
              have HQ5 := Lib.hid (HQ5.out.grew hg10)
              have HQ7 := Lib.hid (HQ7.out.grew hg10)
              have HQ10 := Lib.hid (show NewPool w1 y10 (y7).heap.size D.n A10 c10 from ⟨hp10, fun j hj => Nat.le_trans HG7.out.size (hn10 j hj)⟩)
              have HG10 := Lib.hid (Grew.trans HG7.out hg10)
              clear hp10 hg10 hn10
              refine wpAnyH_take (i := 11) (v := ?_) rfl (by kernel_rfl) (by kernel_rfl) (by kernel_rfl) (fun _ _ _ h => h) (Or.inl ⟨by rfl, ?_⟩) trivial ?_
              rotate_left
              · (intro w hSw; (try dsimp only at hSw); go_simp) <;> with_reducible rfl
              (try simp only [Act.put, List.setIfInBounds_toArray, List.set_cons_zero, List.set_cons_succ])
              refine wpAnyH_ready (rs := [12]) (by kernel_rfl) (by simp) ?_
              refine AllReadyH.cons rfl (fun K hK => ?_) AllReadyH.nil
              go_simp
              refine hK.out _ _ trivial (fun _ => ?_)
              clear hK K
              (try simp only [Act.put, List.setIfInBounds_toArray, List.set_cons_zero, List.set_cons_succ])
              refine wpAnyH_ready (rs := [13]) (by kernel_rfl) (by simp) ?_
              refine AllReadyH.cons rfl (fun K hK => ?_) AllReadyH.nil
              go_simp
              refine hK.out _ _ trivial (fun _ => ?_)
              clear hK K
              (try simp only [Act.put, List.setIfInBounds_toArray, List.set_cons_zero, List.set_cons_succ])
              refine wpAnyH_done (by kernel_rfl) ?_ _
              go_wp2
              go_meet
              exact openJ_mk (by first | exact ew3 | omega) HQ5.out HQ7.out HD.out HQ10.out HG10.out
          · go_simp
            refine (pnew_any D.n _ (by omega)).mono ?_
            rintro e y10 ⟨A10, c10, rfl, hp10, hg10, hn10⟩
            refine hK.out _ _ trivial (fun _ => ?_)
            clear hK K
            (try simp only [Act.put, List.setIfInBounds_toArray, List.set_cons_zero, List.set_cons_succ])
            have HQ5 := Lib.hid (HQ5.out.grew hg10)
            have HLT5 := Lib.hid (Nat.lt_of_lt_of_le HLT5.out hg10.size)
            have HQ10 := Lib.hid (show NewPool w1 y10 (y5).heap.size D.n A10 c10 from ⟨hp10, fun j hj => Nat.le_trans HG5.out.size (hn10 j hj)⟩)
            have HG10 := Lib.hid (Grew.trans HG5.out hg10)
            clear hp10 hg10 hn10
            clear hr7 hB7 hG7 hs7 y7
            obtain ⟨y7, hr7, hB7, hG7, hs7⟩ := make_ints (capN D.n D.sz) (y10) (by omega)
            refine wpAnyH_ready (rs := [7]) (by kernel_rfl) (by simp) ?_
            refine (AllReadyH.cons rfl (fun K hK => ?_) AllReadyH.nil)
            · go_simp
              refine hK.out _ _ trivial (fun _ => ?_)
              clear hK K
              (try simp only [Act.put, List.setIfInBounds_toArray, List.set_cons_zero, List.set_cons_succ])
              have HQ5 := Lib.hid (HQ5.out.grew hG7)
              have HQ10 := Lib.hid (HQ10.out.grew hG7)
              have HQ7 := Lib.hid (show NewInts w1 y7 (y10).heap.size (capN D.n D.sz) from ⟨hB7, HG10.out.size⟩)
              have HD := Lib.hid (show (w1.drew).heap.size ≠ (y10).heap.size from Nat.ne_of_lt HLT5.out)
              have HG7 := Lib.hid (Grew.trans HG10.out hG7)
              clear hr7 hB7 hG7 hs7
              refine wpAnyH_take (i := 11) (v := ?_) rfl (by kernel_rfl) (by kernel_rfl) (by kernel_rfl) (fun _ _ _ h => h) (Or.inl ⟨by rfl, ?_⟩) trivial ?_
              rotate_left
              · (intro w hSw; (try dsimp only at hSw); go_simp) <;> with_reducible rfl
              (try simp only [Act.put, List.setIfInBounds_toArray, List.set_cons_zero, List.set_cons_succ])
              refine wpAnyH_ready (rs := [12]) (by kernel_rfl) (by simp) ?_
              refine AllReadyH.cons rfl (fun K hK => ?_) AllReadyH.nil
              go_simp
              refine hK.out _ _ trivial (fun _ => ?_)
              clear hK K
              (try simp only [Act.put, List.setIfInBounds_toArray, List.set_cons_zero, List.set_cons_succ])
              refine wpAnyH_ready (rs := [13]) (by kernel_rfl) (by simp) ?_
              refine AllReadyH.cons rfl (fun K hK => ?_) AllReadyH.nil
              go_simp
              refine hK.out _ _ trivial (fun _ => ?_)
              clear hK K
              (try simp only [Act.put, List.setIfInBounds_toArray, List.set_cons_zero, List.set_cons_succ])
              refine wpAnyH_done (by kernel_rfl) ?_ _
              go_wp2
              go_meet
              exact openJ_mk (by first | exact ew3 | omega) HQ5.out HQ7.out HD.out HQ10.out HG7.out
        · go_simp
          refine hK.out _ _ trivial (fun _ => ?_)
          clear hK K
          (try simp only [Act.put, List.setIfInBounds_toArray, List.set_cons_zero, List.set_cons_succ])
          have HQ7 := Lib.hid (show NewInts w1 y7 (w1.drew).heap.size (capN D.n D.sz) from ⟨hB7, HG0.out.size⟩)
          have HLT7 := Lib.hid (show (w1.drew).heap.size < y7.heap.size from HQ7.out.1.lt)
          have HG7 := Lib.hid (Grew.trans HG0.out hG7)
          clear hr7 hB7 hG7 hs7 hr5 hB5 hG5 hs5 y5
          obtain ⟨y5, hr5, hB5, hG5, hs5⟩ := make_ints (tabN D.n D.sz) (y7) (by omega)
          refine wpAnyH_ready (rs := [5, 10]) (by kernel_rfl) (by simp) ?_
          refine (AllReadyH.cons rfl (fun K hK => ?_) (AllReadyH.cons rfl (fun K hK => ?_) AllReadyH.nil))
          · go_simp
            refine hK.out _ _ trivial (fun _ => ?_)
            clear hK K
            (try simp only [Act.put, List.setIfInBounds_toArray, List.set_cons_zero, List.set_cons_succ])
            have HQ7 := Lib.hid (HQ7.out.grew hG5)
            have HQ5 := Lib.hid (show NewInts w1 y5 (y7).heap.size (tabN D.n D.sz) from ⟨hB5, HG7.out.size⟩)
            have HD := Lib.hid (show (y7).heap.size ≠ (w1.drew).heap.size from Ne.symm (Nat.ne_of_lt HLT7.out))
            have HG5 := Lib.hid (Grew.trans HG7.out hG5)
            clear hr5 hB5 hG5 hs5
            refine wpAnyH_ready (rs := [10]) (by kernel_rfl) (by simp) ?_
            refine (AllReadyH.cons rfl (fun K hK => ?_) AllReadyH.nil)
            · go_simp
              refine (pnew_any D.n _ (by omega)).mono ?_
              rintro e y10 ⟨A10, c10, rfl, hp10, hg10, hn10⟩
              refine hK.out _ _ trivial (fun _ => ?_)
              clear hK K
              (try simp only [Act.put, List.setIfInBounds_toArray, List.set_cons_zero, List.set_cons_succ])
              have HQ7 := Lib.hid (HQ7.out.grew hg10)
              have HQ5 := Lib.hid (HQ5.out.grew hg10)
              have HQ10 := Lib.hid (show NewPool w1 y10 (y5).heap.size D.n A10 c10 from ⟨hp10, fun j hj => Nat.le_trans HG5.out.size (hn10 j hj)⟩)
              have HG10 := Lib.hid (Grew.trans HG5.out hg10)
              clear hp10 hg10 hn10
              refine wpAnyH_take (i := 11) (v := ?_) rfl (by kernel_rfl) (by kernel_rfl) (by kernel_rfl) (fun _ _ _ h => h) (Or.inl ⟨by rfl, ?_⟩) trivial ?_
              rotate_left
              · (intro w hSw; (try dsimp only at hSw); go_simp) <;> with_reducible rfl
              (try simp only [Act.put, List.setIfInBounds_toArray, List.set_cons_zero, List.set_cons_succ])
              refine wpAnyH_ready (rs := [12]) (by kernel_rfl) (by simp) ?_
              refine AllReadyH.cons rfl (fun K hK => ?_) AllReadyH.nil
              go_simp
              refine hK.out _ _ trivial (fun _ => ?_)
              clear hK K
              (try simp only [Act.put, List.setIfInBounds_toArray, List.set_cons_zero, List.set_cons_succ])
              refine wpAnyH_ready (rs := [13]) (by kernel_rfl) (by simp) ?_
              refine AllReadyH.cons rfl (fun K hK => ?_) AllReadyH.nil
              go_simp
              refine hK.out _ _ trivial (fun _ => ?_)
              clear hK K
              (try simp only [Act.put, List.setIfInBounds_toArray, List.set_cons_zero, List.set_cons_succ])
              refine wpAnyH_done (by kernel_rfl) ?_ _
              go_wp2
              go_meet
              exact openJ_mk (by first | exact ew3 | omega) HQ5.out HQ7.out HD.out HQ10.out HG10.out
          · go_simp
            refine (pnew_any D.n _ (by omega)).mono ?_
            rintro e y10 ⟨A10, c10, rfl, hp10, hg10, hn10⟩
            refine hK.out _ _ trivial (fun _ => ?_)
            clear hK K
            (try simp only [Act.put, List.setIfInBounds_toArray, List.set_cons_zero, List.set_cons_succ])
            have HQ7 := Lib.hid (HQ7.out.grew hg10)
            have HLT7 := Lib.hid (Nat.lt_of_lt_of_le HLT7.out hg10.size)
            have HQ10 := Lib.hid (show NewPool w1 y10 (y7).heap.size D.n A10 c10 from ⟨hp10, fun j hj => Nat.le_trans HG7.out.size (hn10 j hj)⟩)
            have HG10 := Lib.hid (Grew.trans HG7.out hg10)
            clear hp10 hg10 hn10
            clear hr5 hB5 hG5 hs5 y5
            obtain ⟨y5, hr5, hB5, hG5, hs5⟩ := make_ints (tabN D.n D.sz) (y10) (by omega)
            refine wpAnyH_ready (rs := [5]) (by kernel_rfl) (by simp) ?_
            refine (AllReadyH.cons rfl (fun K hK => ?_) AllReadyH.nil)
            · go_simp
              refine hK.out _ _ trivial (fun _ => ?_)
              clear hK K
              (try simp only [Act.put, List.setIfInBounds_toArray, List.set_cons_zero, List.set_cons_succ])
              have HQ7 := Lib.hid (HQ7.out.grew hG5)
              have HQ10 := Lib.hid (HQ10.out.grew hG5)
              have HQ5 := Lib.hid (show NewInts w1 y5 (y10).heap.size (tabN D.n D.sz) from ⟨hB5, HG10.out.size⟩)
              have HD := Lib.hid (show (y10).heap.size ≠ (w1.drew).heap.size from Ne.symm (Nat.ne_of_lt HLT7.out))
              have HG5 := Lib.hid (Grew.trans HG10.out hG5)
              clear hr5 hB5 hG5 hs5
              refine wpAnyH_take (i := 11) (v := ?_) rfl (by kernel_rfl) (by kernel_rfl) (by kernel_rfl) (fun _ _ _ h => h) (Or.inl ⟨by rfl, ?_⟩) trivial ?_
              rotate_left
              · (intro w hSw; (try dsimp only at hSw); go_simp) <;> with_reducible rfl
              (try simp only [Act.put, List.setIfInBounds_toArray, List.set_cons_zero, List.set_cons_succ])
              refine wpAnyH_ready (rs := [12]) (by kernel_rfl) (by simp) ?_
              refine AllReadyH.cons rfl (fun K hK => ?_) AllReadyH.nil
              go_simp
              refine hK.out _ _ trivial (fun _ => ?_)
              clear hK K
              (try simp only [Act.put, List.setIfInBounds_toArray, List.set_cons_zero, List.set_cons_succ])
              refine wpAnyH_ready (rs := [13]) (by kernel_rfl) (by simp) ?_
              refine AllReadyH.cons rfl (fun K hK => ?_) AllReadyH.nil
              go_simp
              refine hK.out _ _ trivial (fun _ => ?_)
              clear hK K
              (try simp only [Act.put, List.setIfInBounds_toArray, List.set_cons_zero, List.set_cons_succ])
              refine wpAnyH_done (by kernel_rfl) ?_ _
              go_wp2
              go_meet
              exact openJ_mk (by first | exact ew3 | omega) HQ5.out HQ7.out HD.out HQ10.out HG5.out
        · go_simp
          refine (pnew_any D.n _ (by omega)).mono ?_
          rintro e y10 ⟨A10, c10, rfl, hp10, hg10, hn10⟩
          refine hK.out _ _ trivial (fun _ => ?_)
          clear hK K
          (try simp only [Act.put, List.setIfInBounds_toArray, List.set_cons_zero, List.set_cons_succ])
          have HQ10 := Lib.hid (show NewPool w1 y10 (w1.drew).heap.size D.n A10 c10 from ⟨hp10, fun j hj => Nat.le_trans HG0.out.size (hn10 j hj)⟩)
          have HG10 := Lib.hid (Grew.trans HG0.out hg10)
          clear hp10 hg10 hn10
          clear hr5 hB5 hG5 hs5 y5 hr7 hB7 hG7 hs7 y7
          obtain ⟨y5, hr5, hB5, hG5, hs5⟩ := make_ints (tabN D.n D.sz) (y10) (by omega)
          obtain ⟨y7, hr7, hB7, hG7, hs7⟩ := make_ints (capN D.n D.sz) (y10) (by omega)
          refine wpAnyH_ready (rs := [5, 7]) (by kernel_rfl) (by simp) ?_
          refine (AllReadyH.cons rfl (fun K hK => ?_) (AllReadyH.cons rfl (fun K hK => ?_) AllReadyH.nil))
          · go_simp
            refine hK.out _ _ trivial (fun _ => ?_)
            clear hK K
            (try simp only [Act.put, List.setIfInBounds_toArray, List.set_cons_zero, List.set_cons_succ])
            have HQ10 := Lib.hid (HQ10.out.grew hG5)
            have HQ5 := Lib.hid (show NewInts w1 y5 (y10).heap.size (tabN D.n D.sz) from ⟨hB5, HG10.out.size⟩)
            have HLT5 := Lib.hid (show (y10).heap.size < y5.heap.size from HQ5.out.1.lt)
            have HG5 := Lib.hid (Grew.trans HG10.out hG5)
            clear hr5 hB5 hG5 hs5 hr7 hB7 hG7 hs7 y7
            obtain ⟨y7, hr7, hB7, hG7, hs7⟩ := make_ints (capN D.n D.sz) (y5) (by omega)
            refine wpAnyH_ready (rs := [7]) (by kernel_rfl) (by simp) ?_
            refine (AllReadyH.cons rfl (fun K hK => ?_) AllReadyH.nil)
            · go_simp
              refine hK.out _ _ trivial (fun _ => ?_)
              clear hK K
              (try simp only [Act.put, List.setIfInBounds_toArray, List.set_cons_zero, List.set_cons_succ])
              have HQ10 := Lib.hid (HQ10.out.grew hG7)
              have HQ5 := Lib.hid (HQ5.out.grew hG7)
              have HQ7 := Lib.hid (show NewInts w1 y7 (y5).heap.size (capN D.n D.sz) from ⟨hB7, HG5.out.size⟩)
              have HD := Lib.hid (show (y10).heap.size ≠ (y5).heap.size from Nat.ne_of_lt HLT5.out)
              have HG7 := Lib.hid (Grew.trans HG5.out hG7)
              clear hr7 hB7 hG7 hs7
              refine wpAnyH_take (i := 11) (v := ?_) rfl (by kernel_rfl) (by kernel_rfl) (by kernel_rfl) (fun _ _ _ h => h) (Or.inl ⟨by rfl, ?_⟩) trivial ?_
              rotate_left
              · (intro w hSw; (try dsimp only at hSw); go_simp) <;> with_reducible rfl
              (try simp only [Act.put, List.setIfInBounds_toArray, List.set_cons_zero, List.set_cons_succ])
              refine wpAnyH_ready (rs := [12]) (by kernel_rfl) (by simp) ?_
              refine AllReadyH.cons rfl (fun K hK => ?_) AllReadyH.nil
              go_simp
              refine hK.out _ _ trivial (fun _ => ?_)
              clear hK K
              (try simp only [Act.put, List.setIfInBounds_toArray, List.set_cons_zero, List.set_cons_succ])
              refine wpAnyH_ready (rs := [13]) (by kernel_rfl) (by simp) ?_
              refine AllReadyH.cons rfl (fun K hK => ?_) AllReadyH.nil
              go_simp
              refine hK.out _ _ trivial (fun _ => ?_)
              clear hK K
              (try simp only [Act.put, List.setIfInBounds_toArray, List.set_cons_zero, List.set_cons_succ])
              refine wpAnyH_done (by kernel_rfl) ?_ _
              go_wp2
              go_meet
              exact openJ_mk (by first | exact ew3 | omega) HQ5.out HQ7.out HD.out HQ10.out HG7.out
          · go_simp
            refine hK.out _ _ trivial (fun _ => ?_)
            clear hK K
            (try simp only [Act.put, List.setIfInBounds_toArray, List.set_cons_zero, List.set_cons_succ])
            have HQ10 := Lib.hid (HQ10.out.grew hG7)
            have HQ7 := Lib.hid (show NewInts w1 y7 (y10).heap.size (capN D.n D.sz) from ⟨hB7, HG10.out.size⟩)
            have HLT7 := Lib.hid (show (y10).heap.size < y7.heap.size from HQ7.out.1.lt)
            have HG7 := Lib.hid (Grew.trans HG10.out hG7)
            clear hr7 hB7 hG7 hs7 hr5 hB5 hG5 hs5 y5
            obtain ⟨y5, hr5, hB5, hG5, hs5⟩ := make_ints (tabN D.n D.sz) (y7) (by omega)
            refine wpAnyH_ready (rs := [5]) (by kernel_rfl) (by simp) ?_
            refine (AllReadyH.cons rfl (fun K hK => ?_) AllReadyH.nil)
            · go_simp
              refine hK.out _ _ trivial (fun _ => ?_)
              clear hK K
              (try simp only [Act.put, List.setIfInBounds_toArray, List.set_cons_zero, List.set_cons_succ])
              have HQ10 := Lib.hid (HQ10.out.grew hG5)
              have HQ7 := Lib.hid (HQ7.out.grew hG5)
              have HQ5 := Lib.hid (show NewInts w1 y5 (y7).heap.size (tabN D.n D.sz) from ⟨hB5, HG7.out.size⟩)
              have HD := Lib.hid (show (y7).heap.size ≠ (y10).heap.size from Ne.symm (Nat.ne_of_lt HLT7.out))
              have HG5 := Lib.hid (Grew.trans HG7.out hG5)
              clear hr5 hB5 hG5 hs5
              refine wpAnyH_take (i := 11) (v := ?_) rfl (by kernel_rfl) (by kernel_rfl) (by kernel_rfl) (fun _ _ _ h => h) (Or.inl ⟨by rfl, ?_⟩) trivial ?_
              rotate_left
              · (intro w hSw; (try dsimp only at hSw); go_simp) <;> with_reducible rfl
              (try simp only [Act.put, List.setIfInBounds_toArray, List.set_cons_zero, List.set_cons_succ])
              refine wpAnyH_ready (rs := [12]) (by kernel_rfl) (by simp) ?_
              refine AllReadyH.cons rfl (fun K hK => ?_) AllReadyH.nil
              go_simp
              refine hK.out _ _ trivial (fun _ => ?_)
              clear hK K
              (try simp only [Act.put, List.setIfInBounds_toArray, List.set_cons_zero, List.set_cons_succ])
              refine wpAnyH_ready (rs := [13]) (by kernel_rfl) (by simp) ?_
              refine AllReadyH.cons rfl (fun K hK => ?_) AllReadyH.nil
              go_simp
              refine hK.out _ _ trivial (fun _ => ?_)
              clear hK K
              (try simp only [Act.put, List.setIfInBounds_toArray, List.set_cons_zero, List.set_cons_succ])
              refine wpAnyH_done (by kernel_rfl) ?_ _
              go_wp2
              go_meet
              exact openJ_mk (by first | exact ew3 | omega) HQ5.out HQ7.out HD.out HQ10.out HG5.out
    · go_simp
      refine hK.out _ _ trivial (fun _ => ?_)
      clear hK K
      (try simp only [Act.put, List.setIfInBounds_toArray, List.set_cons_zero, List.set_cons_succ])
      have HQ5 := Lib.hid (show NewInts w1 y5 (w1.drew).heap.size (tabN D.n D.sz) from ⟨hB5, HG0.out.size⟩)
      have HLT5 := Lib.hid (show (w1.drew).heap.size < y5.heap.size from HQ5.out.1.lt)
      have HG5 := Lib.hid (Grew.trans HG0.out hG5)
      clear hr5 hB5 hG5 hs5 hr7 hB7 hG7 hs7 y7
      obtain ⟨y7, hr7, hB7, hG7, hs7⟩ := make_ints (capN D.n D.sz) (y5) (by omega)
      refine wpAnyH_ready (rs := [2, 7]) (by kernel_rfl) (by simp) ?_
      refine (AllReadyH.cons rfl (fun K hK => ?_) (AllReadyH.cons rfl (fun K hK => ?_) AllReadyH.nil))
      · go_simp
        refine (dsize_any d F D _ (H.out.1.grew (Grew.trans HG1.out HG5.out))).mono ?_
        rintro e u2 ⟨rfl, rfl⟩
        refine hK.out _ _ trivial (fun _ => ?_)
        clear hK K
        (try simp only [Act.put, List.setIfInBounds_toArray, List.set_cons_zero, List.set_cons_succ])
        clear hr7 hB7 hG7 hs7 y7
        refine wpAnyH_take (i := 3) (v := ?_) rfl (by kernel_rfl) (by kernel_rfl) (by kernel_rfl) (fun _ _ _ h => h) (Or.inl ⟨by rfl, ?_⟩) trivial ?_
        rotate_left
        · (intro w hSw; (try dsimp only at hSw); go_simp) <;> with_reducible rfl
        (try simp only [Act.put, List.setIfInBounds_toArray, List.set_cons_zero, List.set_cons_succ])
        obtain ⟨y7, hr7, hB7, hG7, hs7⟩ := make_ints (capN D.n D.sz) (y5) (by omega)
        refine wpAnyH_ready (rs := [7, 9]) (by kernel_rfl) (by simp) ?_
        refine (AllReadyH.cons rfl (fun K hK => ?_) (AllReadyH.cons rfl (fun K hK => ?_) AllReadyH.nil))
        · go_simp
          refine hK.out _ _ trivial (fun _ => ?_)
          clear hK K
          (try simp only [Act.put, List.setIfInBounds_toArray, List.set_cons_zero, List.set_cons_succ])
          have HQ5 := Lib.hid (HQ5.out.grew hG7)
          have HQ7 := Lib.hid (show NewInts w1 y7 (y5).heap.size (capN D.n D.sz) from ⟨hB7, HG5.out.size⟩)
          have HD := Lib.hid (show (w1.drew).heap.size ≠ (y5).heap.size from Nat.ne_of_lt HLT5.out)
          have HG7 := Lib.hid (Grew.trans HG5.out hG7)
          clear hr7 hB7 hG7 hs7
          refine wpAnyH_ready (rs := [9]) (by kernel_rfl) (by simp) ?_
          refine (AllReadyH.cons rfl (fun K hK => ?_) AllReadyH.nil)
          · go_simp
            refine (dsectors_any d F D _ (H.out.1.grew (Grew.trans HG1.out HG7.out))).mono ?_
            rintro e u2 ⟨rfl, rfl⟩
            refine hK.out _ _ trivial (fun _ => ?_)
            clear hK K
            (try simp only [Act.put, List.setIfInBounds_toArray, List.set_cons_zero, List.set_cons_succ])
            refine wpAnyH_ready (rs := [10]) (by kernel_rfl) (by simp) ?_
            refine (AllReadyH.cons rfl (fun K hK => ?_) AllReadyH.nil)
            · go_simp
              refine (pnew_any D.n _ (by omega)).mono ?_
              rintro e y10 ⟨A10, c10, rfl, hp10, hg10, hn10⟩
              refine hK.out _ _ trivial (fun _ => ?_)
              clear hK K
              (try simp only [Act.put, List.setIfInBounds_toArray, List.set_cons_zero, List.set_cons_succ])
              have HQ5 := Lib.hid (HQ5.out.grew hg10)
              have HQ7 := Lib.hid (HQ7.out.grew hg10)
              have HQ10 := Lib.hid (show NewPool w1 y10 (y7).heap.size D.n A10 c10 from ⟨hp10, fun j hj => Nat.le_trans HG7.out.size (hn10 j hj)⟩)
              have HG10 := Lib.hid (Grew.trans HG7.out hg10)
              clear hp10 hg10 hn10
              refine wpAnyH_take (i := 11) (v := ?_) rfl (by kernel_rfl) (by kernel_rfl) (by kernel_rfl) (fun _ _ _ h => h) (Or.inl ⟨by rfl, ?_⟩) trivial ?_
              rotate_left
              · (intro w hSw; (try dsimp only at hSw); go_simp) <;> with_reducible rfl
              (try simp only [Act.put, List.setIfInBounds_toArray, List.set_cons_zero, List.set_cons_succ])
              refine wpAnyH_ready (rs := [12]) (by kernel_rfl) (by simp) ?_
              refine AllReadyH.cons rfl (fun K hK => ?_) AllReadyH.nil
              go_simp
              refine hK.out _ _ trivial (fun _ => ?_)
              clear hK K
              (try simp only [Act.put, List.setIfInBounds_toArray, List.set_cons_zero, List.set_cons_succ])
              refine wpAnyH_ready (rs := [13]) (by kernel_rfl) (by simp) ?_
              refine AllReadyH.cons rfl (fun K hK => ?_) AllReadyH.nil
              go_simp
              refine hK.out _ _ trivial (fun _ => ?_)
              clear hK K
              (try simp only [Act.put, List.setIfInBounds_toArray, List.set_cons_zero, List.set_cons_succ])
              refine wpAnyH_done (by kernel_rfl) ?_ _
              go_wp2
              go_meet
              exact openJ_mk (by first | exact ew3 | omega) HQ5.out HQ7.out HD.out HQ10.out HG10.out
        · go_simp
          refine (dsectors_any d F D _ (H.out.1.grew (Grew.trans HG1.out HG5.out))).mono ?_
          rintro e u2 ⟨rfl, rfl⟩
          refine hK.out _ _ trivial (fun _ => ?_)
          clear hK K
          (try simp only [Act.put, List.setIfInBounds_toArray, List.set_cons_zero, List.set_cons_succ])
          clear hr7 hB7 hG7 hs7 y7
          obtain ⟨y7, hr7, hB7, hG7, hs7⟩ := make_ints (capN D.n D.sz) (y5) (by omega)
          refine wpAnyH_ready (rs := [7, 10]) (by kernel_rfl) (by simp) ?_
          refine (AllReadyH.cons rfl (fun K hK => ?_) (AllReadyH.cons rfl (fun K hK => ?_) AllReadyH.nil))
          · go_simp
            refine hK.out _ _ trivial (fun _ => ?_)
            clear hK K
            (try simp only [Act.put, List.setIfInBounds_toArray, List.set_cons_zero, List.set_cons_succ])
            have HQ5 := Lib.hid (HQ5.out.grew hG7)
            have HQ7 := Lib.hid (show NewInts w1 y7 (y5).heap.size (capN D.n D.sz) from ⟨hB7, HG5.out.size⟩)
            have HD := Lib.hid (show (w1.drew).heap.size ≠ (y5).heap.size from Nat.ne_of_lt HLT5.out)
            have HG7 := Lib.hid (Grew.trans HG5.out hG7)
            clear hr7 hB7 hG7 hs7
            refine wpAnyH_ready (rs := [10]) (by kernel_rfl) (by simp) ?_
            refine (AllReadyH.cons rfl (fun K hK => ?_) AllReadyH.nil)
            · go_simp
              refine (pnew_any D.n _ (by omega)).mono ?_
              rintro e y10 ⟨A10, c10, rfl, hp10, hg10, hn10⟩
              refine hK.out _ _ trivial (fun _ => ?_)
              clear hK K
              (try simp only [Act.put, List.setIfInBounds_toArray, List.set_cons_zero, List.set_cons_succ])
              have HQ5 := Lib.hid (HQ5.out.grew hg10)
              have HQ7 := Lib.hid (HQ7.out.grew hg10)
              have HQ10 := Lib.hid (show NewPool w1 y10 (y7).heap.size D.n A10 c10 from ⟨hp10, fun j hj => Nat.le_trans HG7.out.size (hn10 j hj)⟩)
              have HG10 := Lib.hid (Grew.trans HG7.out hg10)
              clear hp10 hg10 hn10
              refine wpAnyH_take (i := 11) (v := ?_) rfl (by kernel_rfl) (by kernel_rfl) (by kernel_rfl) (fun _ _ _ h => h) (Or.inl ⟨by rfl, ?_⟩) trivial ?_
              rotate_left
              · (intro w hSw; (try dsimp only at hSw); go_simp) <;> with_reducible rfl
              (try simp only [Act.put, List.setIfInBounds_toArray, List.set_cons_zero, List.set_cons_succ])
              refine wpAnyH_ready (rs := [12]) (by kernel_rfl) (by simp) ?_
              refine AllReadyH.cons rfl (fun K hK => ?_) AllReadyH.nil
              go_simp
              refine hK.out _ _ trivial (fun _ => ?_)
              clear hK K
              (try simp only [Act.put, List.setIfInBounds_toArray, List.set_cons_zero, List.set_cons_succ])
              refine wpAnyH_ready (rs := [13]) (by kernel_rfl) (by simp) ?_
              refine AllReadyH.cons rfl (fun K hK => ?_) AllReadyH.nil
              go_simp
              refine hK.out _ _ trivial (fun _ => ?_)
              clear hK K
              (try simp only [Act.put, List.setIfInBounds_toArray, List.set_cons_zero, List.set_cons_succ])
              refine wpAnyH_done (by kernel_rfl) ?_ _
              go_wp2
              go_meet
              exact openJ_mk (by first | exact ew3 | omega) HQ5.out HQ7.out HD.out HQ10.out HG10.out
          · go_simp
            refine (pnew_any D.n _ (by omega)).mono ?_
            rintro e y10 ⟨A10, c10, rfl, hp10, hg10, hn10⟩
            refine hK.out _ _ trivial (fun _ => ?_)
            clear hK K
            (try simp only [Act.put, List.setIfInBounds_toArray, List.set_cons_zero, List.set_cons_succ])
            have HQ5 := Lib.hid (HQ5.out.grew hg10)
            have HLT5 := Lib.hid (Nat.lt_of_lt_of_le HLT5.out hg10.size)
            have HQ10 := Lib.hid (show NewPool w1 y10 (y5).heap.size D.n A10 c10 from ⟨hp10, fun j hj => Nat.le_trans HG5.out.size (hn10 j hj)⟩)
            have HG10 := Lib.hid (Grew.trans HG5.out hg10)
            clear hp10 hg10 hn10
            clear hr7 hB7 hG7 hs7 y7
            obtain ⟨y7, hr7, hB7, hG7, hs7⟩ := make_ints (capN D.n D.sz) (y10) (by omega)
            refine wpAnyH_ready (rs := [7]) (by kernel_rfl) (by simp) ?_
            refine (AllReadyH.cons rfl (fun K hK => ?_) AllReadyH.nil)
            · go_simp
              refine hK.out _ _ trivial (fun _ => ?_)
              clear hK K
              (try simp only [Act.put, List.setIfInBounds_toArray, List.set_cons_zero, List.set_cons_succ])
              have HQ5 := Lib.hid (HQ5.out.grew hG7)
              have HQ10 := Lib.hid (HQ10.out.grew hG7)
              have HQ7 := Lib.hid (show NewInts w1 y7 (y10).heap.size (capN D.n D.sz) from ⟨hB7, HG10.out.size⟩)
              have HD := Lib.hid (show (w1.drew).heap.size ≠ (y10).heap.size from Nat.ne_of_lt HLT5.out)
              have HG7 := Lib.hid (Grew.trans HG10.out hG7)
              clear hr7 hB7 hG7 hs7
              refine wpAnyH_take (i := 11) (v := ?_) rfl (by kernel_rfl) (by kernel_rfl) (by kernel_rfl) (fun _ _ _ h => h) (Or.inl ⟨by rfl, ?_⟩) trivial ?_
              rotate_left
              · (intro w hSw; (try dsimp only at hSw); go_simp) <;> with_reducible rfl
              (try simp only [Act.put, List.setIfInBounds_toArray, List.set_cons_zero, List.set_cons_succ])
              refine wpAnyH_ready (rs := [12]) (by kernel_rfl) (by simp) ?_
              refine AllReadyH.cons rfl (fun K hK => ?_) AllReadyH.nil
              go_simp
              refine hK.out _ _ trivial (fun _ => ?_)
              clear hK K
              (try simp only [Act.put, List.setIfInBounds_toArray, List.set_cons_zero, List.set_cons_succ])
              refine wpAnyH_ready (rs := [13]) (by kernel_rfl) (by simp) ?_
              refine AllReadyH.cons rfl (fun K hK => ?_) AllReadyH.nil
              go_simp
              refine hK.out _ _ trivial (fun _ => ?_)
              clear hK K
              (try simp only [Act.put, List.setIfInBounds_toArray, List.set_cons_zero, List.set_cons_succ])
              refine wpAnyH_done (by kernel_rfl) ?_ _
              go_wp2
              go_meet
              exact openJ_mk (by first | exact ew3 | omega) HQ5.out HQ7.out HD.out HQ10.out HG7.out
      · go_simp
        refine hK.out _ _ trivial (fun _ => ?_)
        clear hK K
        (try simp only [Act.put, List.setIfInBounds_toArray, List.set_cons_zero, List.set_cons_succ])
        have HQ5 := Lib.hid (HQ5.out.grew hG7)
        have HQ7 := Lib.hid (show NewInts w1 y7 (y5).heap.size (capN D.n D.sz) from ⟨hB7, HG5.out.size⟩)
        have HD := Lib.hid (show (w1.drew).heap.size ≠ (y5).heap.size from Nat.ne_of_lt HLT5.out)
        have HG7 := Lib.hid (Grew.trans HG5.out hG7)
        clear hr7 hB7 hG7 hs7
        refine wpAnyH_ready (rs := [2]) (by kernel_rfl) (by simp) ?_
        refine (AllReadyH.cons rfl (fun K hK => ?_) AllReadyH.nil)
        · go_simp
          refine (dsize_any d F D _ (H.out.1.grew (Grew.trans HG1.out HG7.out))).mono ?_
          rintro e u2 ⟨rfl, rfl⟩
          refine hK.out _ _ trivial (fun _ => ?_)
          clear hK K
          (try simp only [Act.put, List.setIfInBounds_toArray, List.set_cons_zero, List.set_cons_succ])
          refine wpAnyH_take (i := 3) (v := ?_) rfl (by kernel_rfl) (by kernel_rfl) (by kernel_rfl) (fun _ _ _ h => h) (Or.inl ⟨by rfl, ?_⟩) trivial ?_
          rotate_left
          · (intro w hSw; (try dsimp only at hSw); go_simp) <;> with_reducible rfl
          (try simp only [Act.put, List.setIfInBounds_toArray, List.set_cons_zero, List.set_cons_succ])
          refine wpAnyH_ready (rs := [9]) (by kernel_rfl) (by simp) ?_
          refine (AllReadyH.cons rfl (fun K hK => ?_) AllReadyH.nil)
          · go_simp
            refine (dsectors_any d F D _ (H.out.1.grew (Grew.trans HG1.out HG7.out))).mono ?_
            rintro e u2 ⟨rfl, rfl⟩
            refine hK.out _ _ trivial (fun _ => ?_)
            clear hK K
            (try simp only [Act.put, List.setIfInBounds_toArray, List.set_cons_zero, List.set_cons_succ])
            refine wpAnyH_ready (rs := [10]) (by kernel_rfl) (by simp) ?_
            refine (AllReadyH.cons rfl (fun K hK => ?_) AllReadyH.nil)
            · go_simp
              refine (pnew_any D.n _ (by omega)).mono ?_
              rintro e y10 ⟨A10, c10, rfl, hp10, hg10, hn10⟩
              refine hK.out _ _ trivial (fun _ => ?_)
              clear hK K
              (try simp only [Act.put, List.setIfInBounds_toArray, List.set_cons_zero, List.set_cons_succ])
              have HQ5 := Lib.hid (HQ5.out.grew hg10)
              have HQ7 := Lib.hid (HQ7.out.grew hg10)
              have HQ10 := Lib.hid (show NewPool w1 y10 (y7).heap.size D.n A10 c10 from ⟨hp10, fun j hj => Nat.le_trans HG7.out.size (hn10 j hj)⟩)
              have HG10 := Lib.hid (Grew.trans HG7.out hg10)
              clear hp10 hg10 hn10
              refine wpAnyH_take (i := 11) (v := ?_) rfl (by kernel_rfl) (by kernel_rfl) (by kernel_rfl) (fun _ _ _ h => h) (Or.inl ⟨by rfl, ?_⟩) trivial ?_
              rotate_left
              · (intro w hSw; (try dsimp only at hSw); go_simp) <;> with_reducible rfl
              (try simp only [Act.put, List.setIfInBounds_toArray, List.set_cons_zero, List.set_cons_succ])
              refine wpAnyH_ready (rs := [12]) (by kernel_rfl) (by simp) ?_
              refine AllReadyH.cons rfl (fun K hK => ?_) AllReadyH.nil
              go_simp
              refine hK.out _ _ trivial (fun _ => ?_)
              clear hK K
              (try simp only [Act.put, List.setIfInBounds_toArray, List.set_cons_zero, List.set_cons_succ])
              refine wpAnyH_ready (rs := [13]) (by kernel_rfl) (by simp) ?_
              refine AllReadyH.cons rfl (fun K hK => ?_) AllReadyH.nil
              go_simp
              refine hK.out _ _ trivial (fun _ => ?_)
              clear hK K
              (try simp only [Act.put, List.setIfInBounds_toArray, List.set_cons_zero, List.set_cons_succ])
              refine wpAnyH_done (by kernel_rfl) ?_ _
              go_wp2
              go_meet
              exact openJ_mk (by first | exact ew3 | omega) HQ5.out HQ7.out HD.out HQ10.out HG10.out
    · go_simp
      refine hK.out _ _ trivial (fun _ => ?_)
      clear hK K
      (try simp only [Act.put, List.setIfInBounds_toArray, List.set_cons_zero, List.set_cons_succ])
      have HQ7 := Lib.hid (show NewInts w1 y7 (w1.drew).heap.size (capN D.n D.sz) from ⟨hB7, HG0.out.size⟩)
      have HLT7 := Lib.hid (show (w1.drew).heap.size < y7.heap.size from HQ7.out.1.lt)
      have HG7 := Lib.hid (Grew.trans HG0.out hG7)
      clear hr7 hB7 hG7 hs7 hr5 hB5 hG5 hs5 y5
      obtain ⟨y5, hr5, hB5, hG5, hs5⟩ := make_ints (tabN D.n D.sz) (y7) (by omega)
      refine wpAnyH_ready (rs := [2, 5]) (by kernel_rfl) (by simp) ?_
      refine (AllReadyH.cons rfl (fun K hK => ?_) (AllReadyH.cons rfl (fun K hK => ?_) AllReadyH.nil))
      · go_simp
        refine (dsize_any d F D _ (H.out.1.grew (Grew.trans HG1.out HG7.out))).mono ?_
        rintro e u2 ⟨rfl, rfl⟩
        refine hK.out _ _ trivial (fun _ => ?_)
        clear hK K
        (try simp only [Act.put, List.setIfInBounds_toArray, List.set_cons_zero, List.set_cons_succ])
        clear hr5 hB5 hG5 hs5 y5
        refine wpAnyH_take (i := 3) (v := ?_) rfl (by kernel_rfl) (by kernel_rfl) (by kernel_rfl) (fun _ _ _ h => h) (Or.inl ⟨by rfl, ?_⟩) trivial ?_
        rotate_left
        · (intro w hSw; (try dsimp only at hSw); go_simp) <;> with_reducible rfl
        (try simp only [Act.put, List.setIfInBounds_toArray, List.set_cons_zero, List.set_cons_succ])
        obtain ⟨y5, hr5, hB5, hG5, hs5⟩ := make_ints (tabN D.n D.sz) (y7) (by omega)
        refine wpAnyH_ready (rs := [5, 9]) (by kernel_rfl) (by simp) ?_
        refine (AllReadyH.cons rfl (fun K hK => ?_) (AllReadyH.cons rfl (fun K hK => ?_) AllReadyH.nil))
        · go_simp
          refine hK.out _ _ trivial (fun _ => ?_)
          clear hK K
          (try simp only [Act.put, List.setIfInBounds_toArray, List.set_cons_zero, List.set_cons_succ])
          have HQ7 := Lib.hid (HQ7.out.grew hG5)
          have HQ5 := Lib.hid (show NewInts w1 y5 (y7).heap.size (tabN D.n D.sz) from ⟨hB5, HG7.out.size⟩)
          have HD := Lib.hid (show (y7).heap.size ≠ (w1.drew).heap.size from Ne.symm (Nat.ne_of_lt HLT7.out))
          have HG5 := Lib.hid (Grew.trans HG7.out hG5)
          clear hr5 hB5 hG5 hs5
          refine wpAnyH_ready (rs := [9]) (by kernel_rfl) (by simp) ?_
          refine (AllReadyH.cons rfl (fun K hK => ?_) AllReadyH.nil)
          · go_simp
            refine (dsectors_any d F D _ (H.out.1.grew (Grew.trans HG1.out HG5.out))).mono ?_
            rintro e u2 ⟨rfl, rfl⟩
            refine hK.out _ _ trivial (fun _ => ?_)
            clear hK K
            (try simp only [Act.put, List.setIfInBounds_toArray, List.set_cons_zero, List.set_cons_succ])
            refine wpAnyH_ready (rs := [10]) (by kernel_rfl) (by simp) ?_
            refine (AllReadyH.cons rfl (fun K hK => ?_) AllReadyH.nil)
            · go_simp
              refine (pnew_any D.n _ (by omega)).mono ?_
              rintro e y10 ⟨A10, c10, rfl, hp10, hg10, hn10⟩
              refine hK.out _ _ trivial (fun _ => ?_)
              clear hK K
              (try simp only [Act.put, List.setIfInBounds_toArray, List.set_cons_zero, List.set_cons_succ])
              have HQ7 := Lib.hid (HQ7.out.grew hg10)
              have HQ5 := Lib.hid (HQ5.out.grew hg10)
              have HQ10 := Lib.hid (show NewPool w1 y10 (y5).heap.size D.n A10 c10 from ⟨hp10, fun j hj => Nat.le_trans HG5.out.size (hn10 j hj)⟩)
              have HG10 := Lib.hid (Grew.trans HG5.out hg10)
              clear hp10 hg10 hn10
              refine wpAnyH_take (i := 11) (v := ?_) rfl (by kernel_rfl) (by kernel_rfl) (by kernel_rfl) (fun _ _ _ h => h) (Or.inl ⟨by rfl, ?_⟩) trivial ?_
              rotate_left
              · (intro w hSw; (try dsimp only at hSw); go_simp) <;> with_reducible rfl
              (try simp only [Act.put, List.setIfInBounds_toArray, List.set_cons_zero, List.set_cons_succ])
              refine wpAnyH_ready (rs := [12]) (by kernel_rfl) (by simp) ?_
              refine AllReadyH.cons rfl (fun K hK => ?_) AllReadyH.nil
              go_simp
              refine hK.out _ _ trivial (fun _ => ?_)
              clear hK K
              (try simp only [Act.put, List.setIfInBounds_toArray, List.set_cons_zero, List.set_cons_succ])
              refine wpAnyH_ready (rs := [13]) (by kernel_rfl) (by simp) ?_
              refine AllReadyH.cons rfl (fun K hK => ?_) AllReadyH.nil
              go_simp
              refine hK.out _ _ trivial (fun _ => ?_)
              clear hK K
              (try simp only [Act.put, List.setIfInBounds_toArray, List.set_cons_zero, List.set_cons_succ])
              refine wpAnyH_done (by kernel_rfl) ?_ _
              go_wp2
              go_meet
              exact openJ_mk (by first | exact ew3 | omega) HQ5.out HQ7.out HD.out HQ10.out HG10.out
        · go_simp
          refine (dsectors_any d F D _ (H.out.1.grew (Grew.trans HG1.out HG7.out))).mono ?_
          rintro e u2 ⟨rfl, rfl⟩
          refine hK.out _ _ trivial (fun _ => ?_)
          clear hK K
          (try simp only [Act.put, List.setIfInBounds_toArray, List.set_cons_zero, List.set_cons_succ])
          clear hr5 hB5 hG5 hs5 y5
          obtain ⟨y5, hr5, hB5, hG5, hs5⟩ := make_ints (tabN D.n D.sz) (y7) (by omega)
          refine wpAnyH_ready (rs := [5, 10]) (by kernel_rfl) (by simp) ?_
          refine (AllReadyH.cons rfl (fun K hK => ?_) (AllReadyH.cons rfl (fun K hK => ?_) AllReadyH.nil))
          · go_simp
            refine hK.out _ _ trivial (fun _ => ?_)
            clear hK K
            (try simp only [Act.put, List.setIfInBounds_toArray, List.set_cons_zero, List.set_cons_succ])
            have HQ7 := Lib.hid (HQ7.out.grew hG5)
            have HQ5 := Lib.hid (show NewInts w1 y5 (y7).heap.size (tabN D.n D.sz) from ⟨hB5, HG7.out.size⟩)
            have HD := Lib.hid (show (y7).heap.size ≠ (w1.drew).heap.size from Ne.symm (Nat.ne_of_lt HLT7.out))
            have HG5 := Lib.hid (Grew.trans HG7.out hG5)
            clear hr5 hB5 hG5 hs5
            refine wpAnyH_ready (rs := [10]) (by kernel_rfl) (by simp) ?_
            refine (AllReadyH.cons rfl (fun K hK => ?_) AllReadyH.nil)
            · go_simp
              refine (pnew_any D.n _ (by omega)).mono ?_
              rintro e y10 ⟨A10, c10, rfl, hp10, hg10, hn10⟩
              refine hK.out _ _ trivial (fun _ => ?_)
              clear hK K
              (try simp only [Act.put, List.setIfInBounds_toArray, List.set_cons_zero, List.set_cons_succ])
              have HQ7 := Lib.hid (HQ7.out.grew hg10)
              have HQ5 := Lib.hid (HQ5.out.grew hg10)
              have HQ10 := Lib.hid (show NewPool w1 y10 (y5).heap.size D.n A10 c10 from ⟨hp10, fun j hj => Nat.le_trans HG5.out.size (hn10 j hj)⟩)
              have HG10 := Lib.hid (Grew.trans HG5.out hg10)
              clear hp10 hg10 hn10
              refine wpAnyH_take (i := 11) (v := ?_) rfl (by kernel_rfl) (by kernel_rfl) (by kernel_rfl) (fun _ _ _ h => h) (Or.inl ⟨by rfl, ?_⟩) trivial ?_
              rotate_left
              · (intro w hSw; (try dsimp only at hSw); go_simp) <;> with_reducible rfl
              (try simp only [Act.put, List.setIfInBounds_toArray, List.set_cons_zero, List.set_cons_succ])
              refine wpAnyH_ready (rs := [12]) (by kernel_rfl) (by simp) ?_
              refine AllReadyH.cons rfl (fun K hK => ?_) AllReadyH.nil
              go_simp
              refine hK.out _ _ trivial (fun _ => ?_)
              clear hK K
              (try simp only [Act.put, List.setIfInBounds_toArray, List.set_cons_zero, List.set_cons_succ])
              refine wpAnyH_ready (rs := [13]) (by kernel_rfl) (by simp) ?_
              refine AllReadyH.cons rfl (fun K hK => ?_) AllReadyH.nil
              go_simp
              refine hK.out _ _ trivial (fun _ => ?_)
              clear hK K
              (try simp only [Act.put, List.setIfInBounds_toArray, List.set_cons_zero, List.set_cons_succ])
              refine wpAnyH_done (by kernel_rfl) ?_ _
              go_wp2
              go_meet
              exact openJ_mk (by first | exact ew3 | omega) HQ5.out HQ7.out HD.out HQ10.out HG10.out
          · go_simp
            refine (pnew_any D.n _ (by omega)).mono ?_
            rintro e y10 ⟨A10, c10, rfl, hp10, hg10, hn10⟩
            refine hK.out _ _ trivial (fun _ => ?_)
            clear hK K
            (try simp only [Act.put, List.setIfInBounds_toArray, List.set_cons_zero, List.set_cons_succ])
            have HQ7 := Lib.hid (HQ7.out.grew hg10)
            have HLT7 := Lib.hid (Nat.lt_of_lt_of_le HLT7.out hg10.size)
            have HQ10 := Lib.hid (show NewPool w1 y10 (y7).heap.size D.n A10 c10 from ⟨hp10, fun j hj => Nat.le_trans HG7.out.size (hn10 j hj)⟩)
            have HG10 := Lib.hid (Grew.trans HG7.out hg10)
            clear hp10 hg10 hn10
            clear hr5 hB5 hG5 hs5 y5
            obtain ⟨y5, hr5, hB5, hG5, hs5⟩ := make_ints (tabN D.n D.sz) (y10) (by omega)
            refine wpAnyH_ready (rs := [5]) (by kernel_rfl) (by simp) ?_
            refine (AllReadyH.cons rfl (fun K hK => ?_) AllReadyH.nil)
            · go_simp
              refine hK.out _ _ trivial (fun _ => ?_)
              clear hK K
              (try simp only [Act.put, List.setIfInBounds_toArray, List.set_cons_zero, List.set_cons_succ])
              have HQ7 := Lib.hid (HQ7.out.grew hG5)
              have HQ10 := Lib.hid (HQ10.out.grew hG5)
              have HQ5 := Lib.hid (show NewInts w1 y5 (y10).heap.size (tabN D.n D.sz) from ⟨hB5, HG10.out.size⟩)
              have HD := Lib.hid (show (y10).heap.size ≠ (w1.drew).heap.size from Ne.symm (Nat.ne_of_lt HLT7.out))
              have HG5 := Lib.hid (Grew.trans HG10.out hG5)
              clear hr5 hB5 hG5 hs5
              refine wpAnyH_take (i := 11) (v := ?_) rfl (by kernel_rfl) (by kernel_rfl) (by kernel_rfl) (fun _ _ _ h => h) (Or.inl ⟨by rfl, ?_⟩) trivial ?_
              rotate_left
              · (intro w hSw; (try dsimp only at hSw); go_simp) <;> with_reducible rfl
              (try simp only [Act.put, List.setIfInBounds_toArray, List.set_cons_zero, List.set_cons_succ])
              refine wpAnyH_ready (rs := [12]) (by kernel_rfl) (by simp) ?_
              refine AllReadyH.cons rfl (fun K hK => ?_) AllReadyH.nil
              go_simp
              refine hK.out _ _ trivial (fun _ => ?_)
              clear hK K
              (try simp only [Act.put, List.setIfInBounds_toArray, List.set_cons_zero, List.set_cons_succ])
              refine wpAnyH_ready (rs := [13]) (by kernel_rfl) (by simp) ?_
              refine AllReadyH.cons rfl (fun K hK => ?_) AllReadyH.nil
              go_simp
              refine hK.out _ _ trivial (fun _ => ?_)
              clear hK K
              (try simp only [Act.put, List.setIfInBounds_toArray, List.set_cons_zero, List.set_cons_succ])
              refine wpAnyH_done (by kernel_rfl) ?_ _
              go_wp2
              go_meet
              exact openJ_mk (by first | exact ew3 | omega) HQ5.out HQ7.out HD.out HQ10.out HG5.out
      · go_simp
        refine hK.out _ _ trivial (fun _ => ?_)
        clear hK K
        (try simp only [Act.put, List.setIfInBounds_toArray, List.set_cons_zero, List.set_cons_succ])
        have HQ7 := Lib.hid (HQ7.out.grew hG5)
        have HQ5 := Lib.hid (show NewInts w1 y5 (y7).heap.size (tabN D.n D.sz) from ⟨hB5, HG7.out.size⟩)
        have HD := Lib.hid (show (y7).heap.size ≠ (w1.drew).heap.size from Ne.symm (Nat.ne_of_lt HLT7.out))
        have HG5 := Lib.hid (Grew.trans HG7.out hG5)
        clear hr5 hB5 hG5 hs5
        refine wpAnyH_ready (rs := [2]) (by kernel_rfl) (by simp) ?_
        refine (AllReadyH.cons rfl (fun K hK => ?_) AllReadyH.nil)
        · go_simp
          refine (dsize_any d F D _ (H.out.1.grew (Grew.trans HG1.out HG5.out))).mono ?_
          rintro e u2 ⟨rfl, rfl⟩
          refine hK.out _ _ trivial (fun _ => ?_)
          clear hK K
          (try simp only [Act.put, List.setIfInBounds_toArray, List.set_cons_zero, List.set_cons_succ])
          refine wpAnyH_take (i := 3) (v := ?_) rfl (by kernel_rfl) (by kernel_rfl) (by kernel_rfl) (fun _ _ _ h => h) (Or.inl ⟨by rfl, ?_⟩) trivial ?_
          rotate_left
          · (intro w hSw; (try dsimp only at hSw); go_simp) <;> with_reducible rfl
          (try simp only [Act.put, List.setIfInBounds_toArray, List.set_cons_zero, List.set_cons_succ])
          refine wpAnyH_ready (rs := [9]) (by kernel_rfl) (by simp) ?_
          refine (AllReadyH.cons rfl (fun K hK => ?_) AllReadyH.nil)
          · go_simp
            refine (dsectors_any d F D _ (H.out.1.grew (Grew.trans HG1.out HG5.out))).mono ?_
            rintro e u2 ⟨rfl, rfl⟩
            refine hK.out _ _ trivial (fun _ => ?_)
            clear hK K
            (try simp only [Act.put, List.setIfInBounds_toArray, List.set_cons_zero, List.set_cons_succ])
            refine wpAnyH_ready (rs := [10]) (by kernel_rfl) (by simp) ?_
            refine (AllReadyH.cons rfl (fun K hK => ?_) AllReadyH.nil)
            · go_simp
              refine (pnew_any D.n _ (by omega)).mono ?_
              rintro e y10 ⟨A10, c10, rfl, hp10, hg10, hn10⟩
              refine hK.out _ _ trivial (fun _ => ?_)
              clear hK K
              (try simp only [Act.put, List.setIfInBounds_toArray, List.set_cons_zero, List.set_cons_succ])
              have HQ7 := Lib.hid (HQ7.out.grew hg10)
              have HQ5 := Lib.hid (HQ5.out.grew hg10)
              have HQ10 := Lib.hid (show NewPool w1 y10 (y5).heap.size D.n A10 c10 from ⟨hp10, fun j hj => Nat.le_trans HG5.out.size (hn10 j hj)⟩)
              have HG10 := Lib.hid (Grew.trans HG5.out hg10)
              clear hp10 hg10 hn10
              refine wpAnyH_take (i := 11) (v := ?_) rfl (by kernel_rfl) (by kernel_rfl) (by kernel_rfl) (fun _ _ _ h => h) (Or.inl ⟨by rfl, ?_⟩) trivial ?_
              rotate_left
              · (intro w hSw; (try dsimp only at hSw); go_simp) <;> with_reducible rfl
              (try simp only [Act.put, List.setIfInBounds_toArray, List.set_cons_zero, List.set_cons_succ])
              refine wpAnyH_ready (rs := [12]) (by kernel_rfl) (by simp) ?_
              refine AllReadyH.cons rfl (fun K hK => ?_) AllReadyH.nil
              go_simp
              refine hK.out _ _ trivial (fun _ => ?_)
              clear hK K
              (try simp only [Act.put, List.setIfInBounds_toArray, List.set_cons_zero, List.set_cons_succ])
              refine wpAnyH_ready (rs := [13]) (by kernel_rfl) (by simp) ?_
              refine AllReadyH.cons rfl (fun K hK => ?_) AllReadyH.nil
              go_simp
              refine hK.out _ _ trivial (fun _ => ?_)
              clear hK K
              (try simp only [Act.put, List.setIfInBounds_toArray, List.set_cons_zero, List.set_cons_succ])
              refine wpAnyH_done (by kernel_rfl) ?_ _
              go_wp2
              go_meet
              exact openJ_mk (by first | exact ew3 | omega) HQ5.out HQ7.out HD.out HQ10.out HG10.out
  case rest =>
    obtain ⟨p, g1, g2, b, A, c, rfl, hO⟩ := hcut
    have HO := Lib.hid hO
    obtain ⟨c0, f0, s0⟩ := hO.blk.facts
    clear hO
    have hdF : ∀ u, Chg (PF b A) wc u → DS u d F D := fun u hu => ((H.out.1.grew HG1.out).grew HO.out.grew).chg hu fun j hj e => by
      have h1 := H.out.1.lt j hj
      have h2 := HO.out.pool.new j e
      have h3 := HG1.out.size
      omega
    have hkeep : ∀ u, Chg (PF b A) wc u → Blk u p 61 #[.pointer (some ⟨d, 0, none⟩), .int .i64 0, .int .i64 (D.sz / 2 : Nat), .slice (some ⟨g1, 0, none⟩) (tabN D.n D.sz) (tabN D.n D.sz), .slice (some ⟨g2, 0, none⟩) (capN D.n D.sz) (capN D.n D.sz), .pointer (some ⟨b, 0, none⟩), .pointer none, .bool false] := fun u hu =>
      HO.out.blk.chg hu (pf_ne HO.out.pool.p HO.out.blk (by decide) (by decide))
    have HD := Lib.hid hdF
    have HK := Lib.hid hkeep
    have HX := Lib.hid (show D.n ≤ 65536 by omega)
    clear hdF hkeep
    go_wp2
    go_loopw [41] (fun i wr => ∃ k : Nat, k ≤ 2 ∧ i = .int .i64 k ∧ PIn wr b (mkd D.n k) A c ∧ Chg (PF b A) wc wr) (fun i _ => 2 - (intOf i).toNat)
    case atStart => exact ⟨0, Nat.zero_le _, rfl, HO.out.pool.p, Chg.refl _ _⟩
    case round =>
      obtain ⟨k, hk, rfl, hp, hc⟩ := hrel
      have HP := Lib.hid (And.intro hp hc)
      obtain ⟨c1, f1, s1⟩ := (HK.out wr hc).facts
      clear c0 f0 s0 hp hc
      by_cases hlt : k < 2
      · go_wp2_with (go_at_call 43; (refine (pmark_any b k _ A c _ HP.out.1 (by rw [mkd_len]; exact HX.out)).mono ?_); rintro e w3 ⟨rfl, h3, h4⟩; have H3 := Lib.hid (And.intro h3 h4); clear h3 h4)
        have H4 := Lib.hid (show PIn w3 b (mkd D.n (k + 1)) A c from by have := H3.out.1; rw [mkd_mark D.n k (by omega)] at this; exact this)
        exact ⟨⟨k + 1, by omega, by simp, H4.out, Chg.trans HP.out.2 H3.out.2 fun _ _ e => e⟩, by simp [intOf]; omega⟩
      · obtain rfl : k = 2 := by omega
        go_wp2_with (go_at_call 44; (refine (load_none d F D _ (HD.out _ HP.out.2) hd (by omega) (by omega) H.out.2.2.1 H.out.2.2.2).mono ?_); rintro e w4 ⟨rfl, h4⟩; have H4 := Lib.hid h4; clear h4)
        go_ret2
        have hg : Grew w1 w4 := Grew.trans (Chg.trans HO.out.grew HP.out.2 fun i hi e => by have := HO.out.pool.new i e; omega) H4.out
        have hsz := HG1.out.size
        obtain ⟨F', hF, hnew⟩ := gfresh_mk (w0 := w1) ((H.out.1.grew HG1.out).grew hg) (fun j hj => Nat.lt_of_lt_of_le (H.out.1.lt j hj) hsz) h0 (Nat.lt_of_lt_of_le (tab_pos H.out.2.1) hsz) (tab_chg (tab_chg H.out.2.1 HG1.out id) hg id) hsm.2.1
          ((HK.out _ HP.out.2).grew H4.out) ((HO.out.t1.blk.chg HP.out.2 (pf_ne HO.out.pool.p HO.out.t1.blk (by decide) (by decide))).grew H4.out) ((HO.out.t2.blk.chg HP.out.2 (pf_ne HO.out.pool.p HO.out.t2.blk (by decide) (by decide))).grew H4.out) HO.out.ne (HP.out.1.grew H4.out)
          HO.out.new HO.out.t1.new HO.out.t2.new HO.out.pool.new
        exact ⟨p, F', rfl, hF.grew ((Chg.refl _ _).alloc _), (Grew.trans HG1.out hg).alloc _, fun j hj => (hnew j hj).imp id fun e => Nat.le_trans hsz e⟩

end Go.Proofs.YtjlfnebkibgfmaaDoor

/- The pager: a new one on a new disk, as its pages are. -/
namespace Go.Proofs.YtjlfnebkibgfmaaDoor
open Go.RowKit Go.Maps

/-- A pager without pages. -/
def Rp.fresh (n sz : Nat) : Rp := { n := n, sz := sz, now := List.replicate (capN n sz) .no, was := none, touched := fun _ => false, epoch := 0 }
theorem rootL_zeros {ep m : Nat} {pg : List Nat} {sz : Nat} (h1 : 1 ≤ ep) (h2 : ep ≤ 1099511627776) (he : List.replicate m 0 = rootL ep pg sz) : False := by
  have hz : ∀ x ∈ tail8 ep, x = 0 := fun x hx => by
    have : x ∈ rootL ep pg sz := List.mem_append_right _ hx
    rw [← he] at this
    exact (List.mem_replicate.1 this).2
  have e0 := hz ((ep / 1099511627776 % 256 : Nat) : Int) (by simp [tail8])
  have e1 := hz ((ep / 4294967296 % 256 : Nat) : Int) (by simp [tail8])
  have e2 := hz ((ep / 16777216 % 256 : Nat) : Int) (by simp [tail8])
  have e3 := hz ((ep / 65536 % 256 : Nat) : Int) (by simp [tail8])
  have e4 := hz ((ep / 256 % 256 : Nat) : Int) (by simp [tail8])
  have e5 := hz ((ep % 256 : Nat) : Int) (by simp [tail8])
  omega
theorem rep_at {n i s : Nat} (h : (List.replicate n 0)[i]? = some s) : s = 0 := by
  rw [List.getElem?_replicate] at h
  split at h <;> simp at h
  exact h.symm
theorem rep_getD (n i : Nat) : (List.replicate n 0).getD i 0 = 0 := by
  rw [List.getD_eq_getElem?_getD]
  cases h : (List.replicate n 0)[i]? with
  | none => rfl
  | some s => rw [rep_at h]; rfl
theorem Gp.fresh_ok (n sz : Nat) (D : Dk) (hD : D = ⟨n, sz, fun _ => List.replicate sz 0, fun _ => none, false, 0, false, 0⟩) (h : 8 ≤ n ∧ n ≤ 4096 ∧ 64 ≤ sz ∧ sz ≤ 4096) : (Gp.fresh D).Ok ∧ (Gp.fresh D).view = Rp.fresh n sz := by
  subst hD
  have hm : ∀ s, s < n → (mkd n 2).getD s false = decide (2 ≤ s) := fun s hs => by rw [mkd_at n 2 s (by omega)]; simp [hs]
  have hcap : capN n sz ≤ 4096 := by unfold capN; split <;> omega
  refine ⟨⟨⟨h, ⟨mkd_len n 2, by simp [Gp.fresh], by simp [Gp.fresh], by simp [Gp.fresh, Gp.old]⟩, fun i s hi => ?_, fun k s hk h0 => absurd (rep_at hk) h0, fun i j s hi _ h2 => ?_, fun i j s hi _ h0 => absurd (rep_at hi) h0, fun k i s hk _ => ?_, fun s hs => ?_, fun s hs => ?_, fun i s hi h2 => ?_, fun i j s hi _ h2 => ?_, ⟨List.nodup_nil, fun s => ?_⟩, fun i hi => absurd rfl hi, fun k hk => ?_, ?_, fun s _ _ => rfl, ⟨fun e => ?_, fun i e' pg' _ hg _ hr => ?_, fun _ s hs => (List.mem_replicate.1 hs).2, fun k _ i _ => rep_getD _ _, fun k s hk h0 => absurd (rep_at hk) h0, fun k s hk h0 => absurd (rep_at hk) h0⟩, fun s _ x hx => ?_, Nat.zero_le _⟩, rfl, ⟨rfl, rfl, rfl⟩⟩, ?_⟩
  · have := rep_at hi; show s < n; omega
  · have := rep_at hi; omega
  · have := rep_at hk; omega
  · show (mkd n 2).getD s false = false ↔ _
    rw [hm s hs]
    constructor
    · intro e; left; simpa using e
    · rintro (e | ⟨k, e⟩ | ⟨k, e⟩ | e)
      · simpa using e
      · have := rep_at e; simp; omega
      · have := rep_at e; simp; omega
      · simp [Gp.fresh, Gp.fr] at e
  · simp [Gp.fresh, Gp.fr] at hs
  · have := rep_at hi; omega
  · have := rep_at hi; omega
  · simp only [Gp.fresh, Gp.lf, List.not_mem_nil, false_iff, not_and, not_exists]
    rintro h2 i hi
    have := rep_at hi
    omega
  · simp [Gp.fresh, Gp.tc] at hk
  · rw [show (Gp.fresh _).tc = fun _ => false from rfl, show cntN (fun _ => false) 64 = 0 from cntN_false fun _ _ => rfl]
    exact Nat.zero_le _
  · simp [Gp.fresh] at e
  · exact (rootL_zeros hg.1 hg.2.1 (show List.replicate sz 0 = _ from hr)).elim
  · have : x = 0 := (List.mem_replicate.1 (show x ∈ List.replicate sz 0 from hx)).2
    omega
  · simp [Gp.view, Rp.fresh, Gp.fresh, Gp.fr, Gp.tc, pk]

theorem gp_open_new (n sz d : Nat) (F : Nat → Prop) (w : World) (h : DS w d F ⟨n, sz, fun _ => List.replicate sz 0, fun _ => none, false, 0, false, 0⟩) (hT : TabAt 0 tab w) (h0 : ¬ F 0) (hn : 8 ≤ n) (hz : 64 ≤ sz) :
    Calls Tryd.prog 20 #[.pointer (some ⟨d, 0, none⟩)] w fun e w' => ∃ p F', e = .returned (.tuple #[.pointer (some ⟨p, 0, none⟩), .int .i64 0]) ∧ GP w' p F' (Rp.fresh n sz) ∧ Grew w w' ∧ ∀ j, F' j → F j ∨ w.heap.size ≤ j := by
  have hs := h.sml
  have hsz : 64 ≤ sz ∧ sz ≤ 4096 := ⟨hz, hs.2.2.2⟩
  have hnn : n ≤ 4096 := hs.2.1
  have hfo := Gp.fresh_ok n sz _ rfl ⟨hn, hnn, hsz⟩
  refine (gopen_new d F _ w h rfl hT h0 hn hz (fun i _ => ?_) (fun i _ x hx => ?_)).mono ?_
  · show partL (List.take (sz - 8) (List.replicate sz 0)) = none
    rw [List.take_replicate, Nat.min_eq_left (by omega)]
    exact part_zeros _ (by omega) (by omega)
  · have : x = 0 := (List.mem_replicate.1 (show x ∈ List.replicate sz 0 from hx)).2
    omega
  · rintro e w' ⟨p, F', rfl, h1, h2, h3⟩
    exact ⟨p, F', rfl, ⟨_, h1, hfo.1, hfo.2⟩, h2, h3⟩

end Go.Proofs.YtjlfnebkibgfmaaDoor

/- The chain's laws: a new pager in an open change; awake. -/
namespace Go.Proofs.YtjlfnebkibgfmaaDoor
open Go.RowKit Go.Maps

/-- The pages of a new pager in an open change. -/
def Rp.open0 (n : Nat) : Rp := (Rp.fresh n 64).begun
set_option maxRecDepth 100000 in
set_option maxHeartbeats 800000 in
theorem fresh_any (n : Nat) (w : World) (hT : TabAt 0 tab w) (h1 : 8 ≤ n) (h2 : n ≤ 4096) :
    Calls Tryd.prog 8 #[.int .i64 n] w fun e w' => ∃ p F, e = .returned (.pointer (some ⟨p, 0, none⟩)) ∧ GP w' p F (Rp.open0 n) ∧ Grew w w' ∧ ∀ j, F j → w.heap.size ≤ j := by
  have H := Lib.hid hT
  clear hT
  go_enter Tryd.func8, Tryd.ntmps8
  go_wp2_with fail
  refine (dnew_any n 64 _ (by omega) h2 (by omega) (by omega)).mono ?_
  rintro e w1 ⟨d, F1, rfl, hd, hg1, hn1⟩
  have hT1 := tab_chg H.out hg1 id
  have hF0 : ¬ F1 0 := fun e => by have := hn1 0 e; have := tab_pos H.out; omega
  have H1 := Lib.hid (And.intro hd (And.intro hg1 (And.intro hn1 (And.intro hT1 hF0))))
  clear hd hg1 hn1 hT1 hF0
  go_wp2_with fail
  refine (gp_open_new n 64 d F1 w1 H1.out.1 H1.out.2.2.2.1 H1.out.2.2.2.2 h1 (by omega)).mono ?_
  rintro e w2 ⟨p, F2, rfl, hp, hg2, hn2⟩
  have H2 := Lib.hid (And.intro hp (And.intro (Grew.trans H1.out.2.1 hg2) (fun j hj => show w.heap.size ≤ j from (hn2 j hj).elim (H1.out.2.2.1 j) fun e => Nat.le_trans H1.out.2.1.size e)))
  clear hp hg2 hn2
  go_wp2_with fail
  refine (gp_begin p F2 _ w2 H2.out.1 rfl).mono ?_
  rintro e w3 ⟨rfl, F3, h3, hc3, hn3⟩
  have H3 := Lib.hid (And.intro h3 (And.intro hc3 hn3))
  clear h3 hc3 hn3
  go_wp2_with fail
  go_ret
  refine ⟨p, F3, rfl, H3.out.1, Chg.trans H2.out.2.1 H3.out.2.1 fun i hi e => by have := H2.out.2.2 i e; omega, fun j hj => (H3.out.2.2 j hj).elim (H2.out.2.2 j) fun e => Nat.le_trans H2.out.2.1.size e⟩

theorem open0_12 : (Rp.open0 12).slack = 9 ∧ (Rp.open0 12).now.countP Pk.used = 0 ∧ (Rp.open0 12).now.length = 10 ∧ (Rp.open0 12).sz = 64 := ⟨by kernel_rfl, by kernel_rfl, by kernel_rfl, rfl⟩
theorem chg_new {F : Nat → Prop} {w w1 w2 : World} (hg : Grew w w1) (hc : Chg F w1 w2) (hn : ∀ j, F j → w.heap.size ≤ j) : Grew w w2 := Chg.trans hg hc fun i hi e => by have := hn i e; omega

set_option maxRecDepth 100000 in
set_option maxHeartbeats 1600000 in
theorem cawake_any (w : World) (hT : TabAt 0 tab w) :
    Calls Tryd.prog 7 #[] w fun e w' => e = .returned (.bool true) ∧ Grew w w' := by
  have H := Lib.hid hT
  have o12 := open0_12
  have HO := Lib.hid o12
  have hneed : ∀ u, Calls Tryd.prog 6 #[.int .i64 60, .int .i64 64] u fun e w' => e = .returned (.int .i64 2) ∧ u = w' := fun u => need_any 60 64 u (by omega) (by omega)
  have HN := Lib.hid hneed
  clear hT o12 hneed
  go_enter Tryd.func7, Tryd.ntmps7
  go_wp2_with fail
  refine (fresh_any 12 _ H.out (by omega) (by omega)).mono ?_
  rintro e w1 ⟨p, F, rfl, hp, hg1, hn1⟩
  obtain ⟨w2, hmk0, ho2, hg2, hz2⟩ := make_bytes 60 w1 (by omega)
  have hmk : (Instr.makeSlice 29 (.int .i64 60) (.int .i64 60)).run Tryd.prog w1 = .ok (.slice (some ⟨w1.heap.size, 0, none⟩) 60 60) w2 := hmk0
  clear hmk0
  have H1 := Lib.hid (And.intro hp (And.intro hg1 (And.intro hn1 (And.intro ho2 (And.intro hg2 hz2)))))
  clear hp hg1 hn1 ho2 hg2 hz2
  go_wp2_with fail
  have hput := cput_any p F (Rp.open0 12) (List.replicate 60 0) w1.heap.size 0 60 w2 (H1.out.1.grew H1.out.2.2.2.2.1) (by simp [Rp.open0, Rp.begun]) (by simp) (by simp) (fun q hq => by have := (List.mem_replicate.1 hq).2; omega) (by simp)
    (by have := Sl.of_own H1.out.2.2.2.1; simpa using this) (fun e => by have := H1.out.1.lt _ e; omega)
  simp only [List.length_replicate] at hput
  refine hput.mono ?_
  clear hput hmk
  rintro e w3 (⟨i0, l, y, rfl, hi0, hto, hrel⟩ | ⟨y, rfl, -, -, hne⟩)
  · obtain ⟨F3, hp3, hc3, hn3⟩ := hto
    have hln : l.length = 2 := by rw [hrel.stands.len, hrel.like.sz]; simp [partsN, HO.out.2.2.2]
    have H3 := Lib.hid (And.intro hp3 (And.intro hrel (And.intro hi0 (And.intro hln (And.intro (show Grew w w3 from chg_new (Grew.trans H1.out.2.1 H1.out.2.2.2.2.1) hc3 H1.out.2.2.1) (fun j hj => show w.heap.size ≤ j from (hn3 j hj).elim (H1.out.2.2.1 j) fun e => by have h8 := H1.out.2.1.size; have h9 := H1.out.2.2.2.2.1.size; omega))))))
    clear hp3 hc3 hn3 hrel hi0 hln
    go_wp2_with fail
    refine (cget_stands p F3 y w3 l (List.replicate 60 0) i0 H3.out.1 H3.out.2.1.stands (by simp) (by simp) H3.out.2.2.1).mono ?_
    rintro e w4 ⟨hp4, hc4, A4, c4, rfl, -⟩
    have H4 := Lib.hid (And.intro hp4 (show Grew w w4 from chg_new H3.out.2.2.2.2.1 hc4 H3.out.2.2.2.2.2))
    have hus := gp_used p F3 y w4 hp4
    have hu2 : y.now.countP Pk.used = 2 := by rw [H3.out.2.1.used, HO.out.2.1, H3.out.2.2.2.1]
    rw [hu2] at hus
    have HU := Lib.hid hus
    simp only [List.length_replicate]
    clear hp4 hc4 hus hu2
    go_wp2_with (first
      | (go_at_call 15; (refine HU.out.mono ?_); rintro e w5 ⟨rfl, hg5⟩; have H5 := Lib.hid (Grew.trans H4.out.2 hg5); clear hg5)
      | (go_at_call 6; (refine (HN.out _).mono ?_); rintro e w6 ⟨rfl, rfl⟩))
    go_ret
    exact ⟨rfl, H5.out⟩
  · exfalso
    refine hne ⟨?_, ?_⟩
    · rw [HO.out.1, HO.out.2.2.2]; simp [partsN]
    · rw [HO.out.2.1, HO.out.2.2.1, HO.out.2.2.2]; simp [partsN]

end Go.Proofs.YtjlfnebkibgfmaaDoor

/- ChainNeeds, walked. -/
namespace Go.Proofs.YtjlfnebkibgfmaaDoor
open Go.RowKit Go.Maps

set_option maxRecDepth 100000 in
set_option maxHeartbeats 1600000 in
theorem needs_walk (w : World) (hT : TabAt 0 tab w) (n : Int) (hn : -9223372036854775808 ≤ n ∧ n ≤ 9223372036854775807) (z : Int) (hz : -9223372036854775808 ≤ z ∧ z ≤ 9223372036854775807) :
    Calls Tryd.prog 3 #[.int .i64 n, .int .i64 z] w fun e w' => e = .returned (.bool true) ∧ Grew w w' := by
  have H := Lib.hid hT
  have HA := Lib.hid (fun u (hg : Grew w u) => cawake_any u (tab_chg hT hg id))
  have hne := need_any n z w hn hz
  have HN := Lib.hid hne
  clear hT hne
  obtain ⟨n1, n2⟩ := hn
  obtain ⟨z1, z2⟩ := hz
  by_cases ho : n < 1 ∨ 16384 < n ∨ z < 64
  · have hk : needI n z = 0 := by unfold needI; rw [if_pos ho]
    rw [hk] at HN
    have t0 : (decide (n < 1) = true) ∨ (decide (n < 1) = false ∧ decide (16384 < n) = true) ∨ (decide (n < 1) = false ∧ decide (16384 < n) = false ∧ decide (z < 64) = true) := by
      by_cases a : n < 1
      · exact .inl (decide_eq_true a)
      · by_cases b : 16384 < n
        · exact .inr (.inl ⟨decide_eq_false a, decide_eq_true b⟩)
        · exact .inr (.inr ⟨decide_eq_false a, decide_eq_false b, decide_eq_true (by omega)⟩)
    clear ho hk
    rcases t0 with t1 | ⟨t1, t2⟩ | ⟨t1, t2, t3⟩
    all_goals
      go_enter Tryd.func3, Tryd.ntmps3
      go_wp2_with (first
        | (go_at_call 6; (refine HN.out.mono ?_); rintro e w1 ⟨rfl, rfl⟩)
        | (go_at_call 7; (refine (HA.out _ (Chg.refl _ _)).mono ?_); rintro e w2 ⟨rfl, hg2⟩; have H2 := Lib.hid hg2; clear hg2))
      go_ret
      exact ⟨rfl, H2.out⟩
  · have hk : needI n z = (n - 1) / (z - 5) + 1 := by unfold needI; rw [if_neg ho]
    rw [hk] at HN
    have t1 : decide (n < 1) = false := decide_eq_false (by omega)
    have t2 : decide (16384 < n) = false := decide_eq_false (by omega)
    have t3 : decide (z < 64) = false := decide_eq_false (by omega)
    have b1 : 1 ≤ n := by omega
    have b2 : n ≤ 16384 := by omega
    have b3 : 64 ≤ z := by omega
    obtain ⟨q, hq⟩ : ∃ q, (n - 1) / (z - 5) = q := ⟨_, rfl⟩
    have hq0 : 0 ≤ q := hq ▸ Int.ediv_nonneg (by omega) (by omega)
    have hdm : (z - 5) * q + (n - 1) % (z - 5) = n - 1 := by rw [← hq]; exact Int.mul_ediv_add_emod (n - 1) (z - 5)
    have hm0 := Int.emod_nonneg (n - 1) (show z - 5 ≠ 0 by omega)
    have hm1 := Int.emod_lt_of_pos (n - 1) (show 0 < z - 5 by omega)
    have hc1 : (z - 5) * q = q * (z - 5) := Int.mul_comm _ _
    have hqn : q ≤ n - 1 := by rw [← hq]; exact Int.ediv_le_self _ (by omega)
    have hc2 : (q + 1) * (z - 5) = q * (z - 5) + (z - 5) := by rw [Int.add_mul, Int.one_mul]
    obtain ⟨P, hP⟩ : ∃ P, q * (z - 5) = P := ⟨_, rfl⟩
    have hP0 : 0 ≤ P := hP ▸ Int.mul_nonneg hq0 (by omega)
    rw [hc1, hP] at hdm
    rw [hP] at hc2
    have hbig : P + (z - 5) ≤ 9223372036854775807 := by
      by_cases e : q = 0
      · subst e; rw [Int.zero_mul] at hP; omega
      · have : 1 * (z - 5) ≤ q * (z - 5) := Int.mul_le_mul_of_nonneg_right (by omega) (by omega)
        omega
    rw [hq] at HN
    have t4 : decide (1 ≤ q + 1) = true := decide_eq_true (by omega)
    have t5 : decide (P < n) = true := decide_eq_true (by omega)
    have t6 : decide (n < q + 1) = false := decide_eq_false (by omega)
    have t7 : decide (n ≤ P + (z - 5)) = true := decide_eq_true (by omega)
    have u1 : n ≤ P + (z - 5) := by omega
    have u2 : P < n := by omega
    clear ho hk hq hdm hm0 hm1 hc1
    go_enter Tryd.func3, Tryd.ntmps3
    go_wp2_with (first
      | (go_at_call 6; (refine HN.out.mono ?_); rintro e w1 ⟨rfl, rfl⟩)
      | (go_at_call 7; (refine (HA.out _ (Chg.refl _ _)).mono ?_); rintro e w2 ⟨rfl, hg2⟩; have H2 := Lib.hid hg2; clear hg2))
    go_ret
    exact ⟨rfl, H2.out⟩

end Go.Proofs.YtjlfnebkibgfmaaDoor

/- The laws: the table that the rows list, in a walk's words; a world that meets it. -/
namespace Go.Proofs.YtjlfnebkibgfmaaDoor
open Go.RowKit

def tabI : List Int := tab.map Int.ofNat
/-- The listed variable's name. -/
def laidName : String := Rows.chainNeedsRow.named.headD (toString 0)
theorem laid_is {H : Type} : (Rows.laid_math_bits_deBruijn64tab : DataW H) = Lib.tabData .u8 tabI := rfl
theorem tab_of_laid {W : World} (h : laidMetH Tryd.prog Rows.chainNeedsRow.laid W) : TabAt 0 tab W := by
  have h' : laidMet Tryd.prog [(laidName, Lib.tabData .u8 tabI)] W := h
  have hg : Tryd.prog.globalNamed laidName = some 0 := by kernel_rfl
  have ht := Lib.tabIs_of_head (t := 117) (e := 5) (n := 64) hg (by kernel_rfl) Tryd.underlying117 Tryd.underlying5 (by kernel_rfl) (by kernel_rfl) h'
  intro j hj
  have := ht.cell hg j (by simpa [tabI] using hj)
  rw [this]
  congr 2
  unfold tabI
  rw [List.getD_eq_getElem?_getD, List.getElem?_map, List.getD_eq_getElem?_getD]
  cases tab[j]? <;> rfl

noncomputable def laidWorld (os : Os) : World :=
  { World.holding Tryd.prog os ⟨#[], #[], []⟩ with heap := (World.holding Tryd.prog os ⟨#[], #[], []⟩).heap.modify 0 fun
      | .cells _ t frozen => .cells (tabI.map fun z => Value.int .u8 z).toArray t frozen
      | o => o }
theorem laidWorld_met (os : Os) (args : Array Value) : laidMetH Tryd.prog Rows.chainNeedsRow.laid ((laidWorld os).forCall (fun _ _ => 0) ⟨#[], args, []⟩).memory :=
  laidMetH_of_parts (laidMet_of_run' 8 (by kernel_rfl) (by kernel_rfl)) (by kernel_rfl)

end Go.Proofs.YtjlfnebkibgfmaaDoor

/- What a law's arguments are, opened: a slice of whatever element, record by record. No program stands in this text. -/
namespace Go.Proofs.YtjlfnebkibgfmaaDoor
open Go.ChangeShapes Go.WideShapes Go.ChangeAt Go.RowKit Go.Deep

theorem choose_list {α : Type} (P : Nat → α → Prop) : ∀ (n : Nat), (∀ i, i < n → ∃ x, P i x) → ∃ l : List α, l.length = n ∧ ∀ i x, l[i]? = some x → P i x
  | 0, _ => ⟨[], rfl, fun i x h => by simp at h⟩
  | n + 1, h => by
    obtain ⟨l, hl, hp⟩ := choose_list P n (fun i hi => h i (by omega))
    obtain ⟨x, hx⟩ := h n (by omega)
    refine ⟨l ++ [x], by simp [hl], fun i y hy => ?_⟩
    by_cases hi : i < l.length
    · rw [List.getElem?_append_left hi] at hy
      exact hp i y hy
    · rw [List.getElem?_append_right (by omega)] at hy
      have h0 : i - l.length = 0 := by
        rcases Nat.eq_zero_or_pos (i - l.length) with h0 | h0
        · exact h0
        · rw [List.getElem?_eq_none (by simp; omega)] at hy; cases hy
      rw [h0] at hy
      simp at hy
      subst hy
      obtain rfl : i = n := by omega
      exact hx

theorem wf_bounds {n : Int} (h : (Lit.int .i64 n).wf = true) : -9223372036854775808 ≤ n ∧ n ≤ 9223372036854775807 := by
  simpa [Lit.wf, IntKind.min, IntKind.max, IntKind.signed, IntKind.bits] using h

section
variable {H : Type} {enc : TypeId × Value → H} {P : Program} {w : World} {base : Nat} {spare : Nat → Bool} {held : Bool}

/-- A slice whose elements have s cells each: for each element its cells, and that they read. -/
theorem open_elems {t e : TypeId} {fuel s len cap : Nat} {A : Option Addr} {x : DataW H × List MemPlace} (ht : P.underlying t = some (.slice e)) (hC : P.cellsOf e = s) (hs : 0 < s)
    (h : DataW.trod enc P w base spare held fuel t [.slice A len cap] = some x) :
    len ≤ maxLen ∧ (len = 0 ∨ ∃ b off, A = some ⟨b, off, none⟩ ∧ b < w.heap.size ∧ ∀ i, i < len → ∃ (cs : List Value) (n : Nat) (y : DataW H × List MemPlace), cs.length = s ∧ (∀ j, j < s → w.cell? ⟨b, off + (i * s + j), none⟩ = cs[j]?) ∧ DataW.trod enc P w base spare held n e cs = some y) := by
  rcases open_slice ht h with ⟨hcs, _⟩ | ⟨a, len', cap', m, n, D, Pl, hcs, hb, hl, hm, hmm, hx, hi⟩
  · simp at hcs
    obtain ⟨rfl, rfl, rfl⟩ := hcs
    exact ⟨Nat.zero_le _, .inl rfl⟩
  · simp at hcs
    obtain ⟨rfl, rfl, rfl⟩ := hcs
    refine ⟨Nat.le_trans hl hm, ?_⟩
    rcases Nat.eq_zero_or_pos len with h0 | h0
    · exact .inl h0
    right
    have hlm : len ≤ m := by rw [hmm]; split <;> omega
    obtain ⟨b, off, spot⟩ := a
    have cellAt : ∀ i, i < len → ∃ cs' y, cs'.length = s ∧ (∀ j, j < s → w.cell? (Addr.add ⟨b, off, spot⟩ (i * s + j)) = cs'[j]?) ∧ DataW.trod enc P w base spare held n e cs' = some y := by
      intro i hil
      obtain ⟨cs', hc, ht'⟩ := hi i (by omega)
      rw [hC] at hc
      obtain ⟨_, hcl, hat⟩ := World.cells?_some hc
      refine ⟨cs', _, hcl, fun j hj => ?_, ht'⟩
      rw [← hat j hj]
      congr 1
      unfold Addr.add
      by_cases h1 : i * s = 0 <;> by_cases h2 : j = 0 <;> simp [h1, h2, Nat.add_assoc]
    have hspot : spot = none := by
      obtain ⟨cs', y, hcl, hat, _⟩ := cellAt 0 h0
      have := hat 0 hs
      have h0' : cs'[0]? = some (cs'[0]'(by omega)) := List.getElem?_eq_getElem (by omega)
      rw [h0'] at this
      simpa [Addr.add] using World.cell?_spot this
    subst hspot
    refine ⟨b, off, rfl, ?_, fun i hil => ?_⟩
    · obtain ⟨cs', y, hcl, hat, _⟩ := cellAt 0 h0
      have := hat 0 hs
      have h0' : cs'[0]? = some (cs'[0]'(by omega)) := List.getElem?_eq_getElem (by omega)
      rw [h0'] at this
      simpa [Addr.add] using World.block_lt_of_cell? w _ this
    · obtain ⟨cs', y, hcl, hat, ht'⟩ := cellAt i hil
      refine ⟨cs', n, y, hcl, fun j hj => ?_, ht'⟩
      have := hat j hj
      rw [Addr.add_lit] at this
      exact this
end

end Go.Proofs.YtjlfnebkibgfmaaDoor

/- A law's argument that is a slice of int. No program stands in this text. -/
namespace Go.Proofs.YtjlfnebkibgfmaaDoor
open Go.ChangeShapes Go.WideShapes Go.ChangeAt Go.RowKit Go.Deep

theorem ints_opened {H : Type} {enc : TypeId × Value → H} {P : Program} {w : World} {base : Nat} {spare : Nat → Bool} {held : Bool} {t e : TypeId} {fuel len cap : Nat} {A : Option Addr} {x : DataW H × List MemPlace}
    (ht : P.underlying t = some (.slice e)) (he : P.underlying e = some (.int .i64)) (hC : P.cellsOf e = 1) (h : DataW.trod enc P w base spare held fuel t [.slice A len cap] = some x) :
    ∃ l : List Int, len = l.length ∧ len ≤ maxLen ∧ Sl w 1 A l.length (l.map (Value.int .i64)) ∧ ∀ n ∈ l, -9223372036854775808 ≤ n ∧ n ≤ 9223372036854775807 := by
  obtain ⟨hm, hc⟩ := open_elems ht (s := 1) hC (by omega) h
  rcases hc with rfl | ⟨b, off, rfl, hb, hi⟩
  · exact ⟨[], rfl, hm, Sl.nil _ _ _, fun r hr => by cases hr⟩
  · obtain ⟨l, hl, hp⟩ := choose_list (fun i (r : Int) => (-9223372036854775808 ≤ r ∧ r ≤ 9223372036854775807) ∧ w.cell? ⟨b, off + i, none⟩ = some (.int .i64 r)) len (fun i hil => by
      obtain ⟨cs, n, y, hcl, hat, hT⟩ := hi i hil
      match cs, hcl with
      | [c], _ =>
        obtain ⟨r, e1, -, w1⟩ := DataW.trod_int he hT
        simp at e1
        subst e1
        have := hat 0 (by omega)
        exact ⟨r, wf_bounds w1, by simpa using this⟩)
    refine ⟨l, hl.symm, hm, ⟨by simp, fun _ => ⟨b, off, rfl, hb, fun j u hu => ?_⟩⟩, fun r hr => ?_⟩
    · rw [List.getElem?_map] at hu
      cases hj : l[j]? with
      | none => rw [hj] at hu; cases hu
      | some r => rw [hj] at hu; simp at hu; subst hu; exact (hp j r hj).2
    · obtain ⟨i, hi, rfl⟩ := List.getElem_of_mem hr
      exact (hp i _ (List.getElem?_eq_getElem hi)).1

end Go.Proofs.YtjlfnebkibgfmaaDoor

namespace Go.Proofs.YtjlfnebkibgfmaaDoor
open Go.ChangeShapes Go.WideShapes Go.ChangeAt Go.RowKit
set_option linter.unusedVariables false

namespace lawChainNeeds
theorem own : ownKnob Tryd.prog.godebug = none := by kernel_rfl
theorem laidOut : laidOutB Tryd.prog = true := by kernel_rfl
set_option maxRecDepth 100000 in
theorem lifted (os : Os) (started : os.Started) (H : Type) (enc : TypeId × Value → H) :
    ReturnsInHanded {} Tryd.checked os 3 .any (fun w args => (Rows.chainNeedsSpec.pre enc Tryd.prog Tryd.f3 [] false w args ∧ laidMetH Tryd.prog Rows.chainNeedsRow.laid w) ∧ sizedMet enc Tryd.prog Tryd.f3 (OpenSpec.ofChange Rows.chainNeedsSpec) false w args) (Rows.chainNeedsSpec.post enc Tryd.prog Tryd.f3 false true false false) := by
  refine returnsInHanded_of_change_and (C := Tryd.checked) (X := fun w _ => laidMetH Tryd.prog Rows.chainNeedsRow.laid w) (fun _ _ _ hh h => h.of_heap hh) own started (by kernel_rfl) Tryd.func3
    (ChangeSpec.witness_at (enc := enc) (C := Tryd.checked) (os := os) (X := fun w _ => laidMetH Tryd.prog Rows.chainNeedsRow.laid w) false (laidWorld os) #[.int .i64 0, .int .i64 0] 8 rfl (by kernel_rfl) (by kernel_rfl) (by kernel_rfl) (by kernel_rfl) (by kernel_rfl) (laidWorld_met os _)) ?_
  intro W base args ds gs before hval0 hW _ _ hL0 _
  have hL : laidMetH Tryd.prog Rows.chainNeedsRow.laid W := hL0
  have hT0 := tab_of_laid hL
  have hval : ∀ (j : Nat) t v, Tryd.f3.params[j]? = some t → args[j]? = some v → Value.okWide Tryd.prog W .any base t v := hval0
  have hW1 := hW
  obtain ⟨p, q, hA0, hV, rfl, hfz, hnd⟩ := hW
  have hA : DataW.TrodAll enc Tryd.prog W 0 (fun _ => true) true Tryd.f3.params.toList args.toList ds p := hA0
  rw [Tryd.params3] at hA hval
  obtain ⟨v0, vs0, d0, ds0, p0, q0, hargs, rfl, rfl, h0, r0⟩ := trodAll_cons hA
  obtain ⟨v1, vs1, d1, ds1, p1, q1, rfl, rfl, rfl, h1, r1⟩ := trodAll_cons r0
  obtain ⟨rfl, rfl, rfl⟩ := trodAll_nil r1
  obtain rfl : args = #[v0, v1] := by cases args; simp_all
  obtain ⟨rfl, rfl⟩ := trodVars_none hV
  obtain ⟨a0, rfl, rfl, rfl, w0⟩ := open_int Tryd.underlying3 (hval 0 3 v0 rfl rfl) h0
  obtain ⟨a1, rfl, rfl, rfl, w1⟩ := open_int Tryd.underlying3 (hval 1 3 v1 rfl rfl) h1
  clear hA0 hval0
  refine (needs_walk W hT0 a0 (wf_bounds w0) a1 (wf_bounds w1)).mono fun e W1 ⟨he, hg⟩ => ?_
  subst he
  have bel := hg.below
  exact ⟨_, rfl, _, _, _, [], _, [], hW1, trodAll_mk1 (shut_bool Tryd.underlying4 _), (trodAll_cons_mk (shut_int Tryd.underlying3 w0) (trodAll_cons_mk (shut_int Tryd.underlying3 w1) trodAll_mk0)), rfl, bel.frame _, fun h => by cases h⟩
theorem over : Rows.chainNeedsRow.holds Tryd.pinned (OpenSpec.ofChange Rows.chainNeedsSpec) :=
  OpenClaim.holds_of_wide 3 Tryd.f3 rfl rfl rfl rfl rfl rfl rfl ⟨rfl, rfl, rfl, rfl, rfl⟩ rfl rfl rfl rfl rfl (by kernel_rfl) Tryd.func3 (by kernel_rfl)
    (of_decide_eq_true (by kernel_rfl)) (by unfold Func.isWrapper; first | (rw [if_pos (by decide +kernel)]; kernel_rfl) | (rw [if_neg (by decide +kernel)]; exact ⟨rfl, rfl⟩))
    (fun os started H enc _ => lifted os started H enc)
/-- The statement, a card whose listed variable is tied to the program. -/
theorem proved : Rows.ChainNeedsCardSaid :=
  Claim7.holds_tied_plain_at .later [] [.data] true Rows.chainNeedsCard.stood.harness false over (fun _ h => by cases h) (by kernel_rfl) (fun _ h => by cases h) chainNeeds_row_tie rfl ⟨rfl, rfl⟩ (by kernel_rfl) rfl
    (fun f fn hf hfn => by
      obtain rfl : f = 3 := Option.some.inj ((show Tryd.prog.funcNamed Rows.chainNeedsRow.func = some 3 by kernel_rfl).symm.trans hf) |>.symm
      obtain rfl : fn = Tryd.f3 := (Option.some.inj (Tryd.func3.symm.trans hfn)).symm
      refine ⟨by kernel_rfl, fun j t ht => ?_⟩
      have hall : ∀ t ∈ Tryd.f3.params.toList, Tryd.prog.wantsStandIn t = false := by
        rw [Tryd.params3]
        intro t ht
        simp only [List.mem_cons, List.not_mem_nil, or_false] at ht
        rcases ht with rfl | rfl <;> kernel_rfl
      exact hall t (by rw [Array.mem_toList_iff]; exact Array.mem_of_getElem? ht))
    (by kernel_rfl)
#print axioms proved
end lawChainNeeds

end Go.Proofs.YtjlfnebkibgfmaaDoor
