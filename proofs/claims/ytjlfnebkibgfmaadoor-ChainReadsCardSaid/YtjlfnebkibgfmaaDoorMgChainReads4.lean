/- ChainReads returns true, for every input. It has no condition; the table of math/bits that its row lists is tied to the program. -/
import Derived.Test.YtjlfnebkibgfmaaDoorMgChainReads3
import Derived.Laws.BytesArg
import Derived.Lib.SlicesS
import Derived.ProofKit
import Derived.OpenShut
import Derived.ShutString
import Derived.ChangeOld
import Derived.Deep.Slices
import Derived.Deep.Fields
import Derived.Test.YtjlfnebkibgfmaaDoorRows
import Derived.Test.YtjlfnebkibgfmaaDoorTie
import Derived.Test.YtjlfnebkibgfmaaDoorCards
import Derived.Lib.LaidTab
import Derived.LaidLaws
import Derived.LaidHandle
import Derived.SevenTiedAt
set_option linter.unusedSimpArgs false
set_option linter.unusedVariables false

/- The pager: Open on an empty disk. -/
namespace Go.Proofs.YtjlfnebkibgfmaaDoor
open Go.RowKit Go.Maps

set_option maxHeartbeats 800000 in
theorem gopen_range (d : Nat) (F : Nat → Prop) (D : Dk) (w : World) (h : DS w d F D) (hr : D.n < 8 ∨ D.sz < 64) :
    Calls Tryd.prog 20 #[.pointer (some ⟨d, 0, none⟩)] w fun e w' => e = .returned (.tuple #[.pointer none, .int .i64 11]) ∧ w = w' := by
  have H := Lib.hid h
  clear h
  by_cases h8 : D.n < 8
  · have a1 : decide ((D.n : Int) < 8) = true := decide_eq_true (by omega)
    clear hr h8
    go_enter Tryd.func20, Tryd.ntmps20
    go_wp2_with (first
      | (go_at_call 39; (refine (dsectors_any d F D _ H.out).mono ?_); rintro e w1 ⟨rfl, rfl⟩)
      | (go_at_call 40; (refine (dsize_any d F D _ H.out).mono ?_); rintro e w1 ⟨rfl, rfl⟩))
    go_ret2
    exact ⟨rfl, rfl⟩
  · have a1 : decide ((D.n : Int) < 8) = false := decide_eq_false (by omega)
    have a2 : decide ((D.sz : Int) < 64) = true := decide_eq_true (by omega)
    clear hr h8
    go_enter Tryd.func20, Tryd.ntmps20
    go_wp2_with (first
      | (go_at_call 39; (refine (dsectors_any d F D _ H.out).mono ?_); rintro e w1 ⟨rfl, rfl⟩)
      | (go_at_call 40; (refine (dsize_any d F D _ H.out).mono ?_); rintro e w1 ⟨rfl, rfl⟩))
    go_ret2
    exact ⟨rfl, rfl⟩

/-- A new pager. -/
def Gp.fresh (D : Dk) : Gp := { D := D, epoch := 0, row := D.sz / 2, pages := List.replicate (tabN D.n D.sz) 0, table := List.replicate (capN D.n D.sz) 0, free := trn (trn (full D.n) 0) 1, op := none, down := false }

/-- A row of noughts, new since w0. -/
structure NewInts (w0 w : World) (g n : Nat) : Prop where
  blk : Blk w g 3 (nv (List.replicate n 0)).toArray
  new : w0.heap.size ≤ g
structure NewPool (w0 w : World) (b n : Nat) (A : Option Addr) (c : Nat) : Prop where
  p : PIn w b (full n) A c
  new : ∀ j, PF b A j → w0.heap.size ≤ j
theorem NewInts.grew {w0 w w' : World} {g n : Nat} (h : NewInts w0 w g n) (hg : Grew w w') : NewInts w0 w' g n := ⟨h.blk.grew hg, h.new⟩
theorem NewPool.grew {w0 w w' : World} {b n c : Nat} {A : Option Addr} (h : NewPool w0 w b n A c) (hg : Grew w w') : NewPool w0 w' b n A c := ⟨h.p.grew hg, h.new⟩
/-- A new pager, as its parts lie. -/
structure OpenIn (w0 w : World) (p d row T C g1 g2 b n : Nat) (A : Option Addr) (c : Nat) : Prop where
  blk : Blk w p 61 #[.pointer (some ⟨d, 0, none⟩), .int .i64 0, .int .i64 row, .slice (some ⟨g1, 0, none⟩) T T, .slice (some ⟨g2, 0, none⟩) C C, .pointer (some ⟨b, 0, none⟩), .pointer none, .bool false]
  t1 : NewInts w0 w g1 T
  t2 : NewInts w0 w g2 C
  ne : g1 ≠ g2
  pool : NewPool w0 w b n A c
  grew : Grew w0 w
  new : w0.heap.size ≤ p
def OpenJ (w0 : World) (d row T C n : Nat) (v : Value) (w : World) : Prop := ∃ p g1 g2 b A c, v = .pointer (some ⟨p, 0, none⟩) ∧ OpenIn w0 w p d row T C g1 g2 b n A c
theorem openJ_mk {w0 w : World} {d row T C g1 g2 b n c : Nat} {A : Option Addr} {r : Int} (hr : r = (row : Int)) (h1 : NewInts w0 w g1 T) (h2 : NewInts w0 w g2 C) (hne : g1 ≠ g2) (hp : NewPool w0 w b n A c) (hg : Grew w0 w) :
    OpenJ w0 d row T C n (.pointer (some ⟨w.heap.size, 0, none⟩)) (w.alloc (.cells #[.pointer (some ⟨d, 0, none⟩), .int .i64 0, .int .i64 r, .slice (some ⟨g1, 0, none⟩) T T, .slice (some ⟨g2, 0, none⟩) C C, .pointer (some ⟨b, 0, none⟩), .pointer none, .bool false] 61)) := by
  subst hr
  exact ⟨_, g1, g2, b, A, c, rfl, Blk.new _ _ _, h1.grew ((Chg.refl _ _).alloc _), h2.grew ((Chg.refl _ _).alloc _), hne, hp.grew ((Chg.refl _ _).alloc _), hg.alloc _, hg.size⟩

/-- The pool of n sectors, when the first k are marked. -/
def mkd (n : Nat) : Nat → List Bool
  | 0 => full n
  | k + 1 => trn (mkd n k) k
theorem mkd_len (n : Nat) : ∀ k, (mkd n k).length = n
  | 0 => full_len n
  | k + 1 => by rw [mkd, trn, List.length_set]; exact mkd_len n k
theorem mkd_at (n : Nat) : ∀ k j, k ≤ n → (mkd n k).getD j false = (decide (k ≤ j) && decide (j < n))
  | 0, j, _ => by rw [mkd, full_at]; simp
  | k + 1, j, hk => by
    rw [mkd, trn, getD_set _ _ _ _ (by rw [mkd_len]; omega), mkd_at n k k (by omega), mkd_at n k j (by omega)]
    by_cases e : j = k
    · subst e; simp; omega
    · rw [if_neg e]
      by_cases h1 : k ≤ j
      · simp [h1, show k + 1 ≤ j by omega]
      · simp [h1, show ¬ k + 1 ≤ j by omega]
theorem mkd_mark (n k : Nat) (hk : k < n) : toL (mkd n k) (k : Int) false = (mkd n (k + 1), 0) := by
  unfold toL
  rw [if_neg (by rw [mkd_len]; omega), Int.toNat_natCast, mkd_at n k k (by omega), if_neg (by simp; omega)]
  rfl
theorem own_new {w : World} {g n : Nat} {t : TypeId} {cs : Array Value} (h : Blk w g t cs) (hn : cs.size = n) (hm : n ≤ maxLen) : w.ownsRow 0 t 1 (.slice (some ⟨g, 0, none⟩) n n) n cs.toList :=
  ⟨by simp [hn], .inr ⟨g, n, cs, rfl, Nat.zero_le _, h, Nat.le_refl _, hm, by simp [hn], by rw [Nat.mul_one, ← hn, ← Array.length_toList, List.take_length]⟩⟩
theorem blk_ne {w : World} {g g' : Nat} {t t' : TypeId} {cs cs' : Array Value} (h : Blk w g t cs) (h' : Blk w g' t' cs') (hne : t ≠ t') : g ≠ g' := by
  rintro rfl
  unfold Blk at h h'
  rw [h] at h'
  injection h' with h'
  injection h' with h1 h2
  exact hne h2
theorem pf_ne {w : World} {b c g : Nat} {x : List Bool} {A : Option Addr} {t : TypeId} {cs : Array Value} (h : PIn w b x A c) (hg : Blk w g t cs) (h1 : t ≠ 101) (h2 : t ≠ 102) : ¬ PF b A g := by
  rintro (rfl | ⟨a, rfl, rfl⟩)
  · have := h.blk
    unfold Blk at this hg
    rw [this] at hg
    cases hg
    exact h1 rfl
  · exact own_blk_ne h.own hg (Ne.symm h2) rfl
/-- A new pager stands. -/
theorem gfresh_mk {w0 w : World} {d p g1 g2 b c : Nat} {A : Option Addr} {F : Nat → Prop} {D : Dk} (hd : DS w d F D) (hF0 : ∀ j, F j → j < w0.heap.size) (h0 : ¬ F 0) (hpos : 0 < w0.heap.size) (hT : TabAt 0 tab w) (hn : D.n ≤ 4096)
    (hb : Blk w p 61 #[.pointer (some ⟨d, 0, none⟩), .int .i64 0, .int .i64 (D.sz / 2 : Nat), .slice (some ⟨g1, 0, none⟩) (tabN D.n D.sz) (tabN D.n D.sz), .slice (some ⟨g2, 0, none⟩) (capN D.n D.sz) (capN D.n D.sz), .pointer (some ⟨b, 0, none⟩), .pointer none, .bool false])
    (h1 : Blk w g1 3 (nv (List.replicate (tabN D.n D.sz) 0)).toArray) (h2 : Blk w g2 3 (nv (List.replicate (capN D.n D.sz) 0)).toArray) (hne : g1 ≠ g2) (hp : PIn w b (mkd D.n 2) A c)
    (n0 : w0.heap.size ≤ p) (n1 : w0.heap.size ≤ g1) (n2 : w0.heap.size ≤ g2) (n3 : ∀ j, PF b A j → w0.heap.size ≤ j) :
    ∃ F', GS w p F' (Gp.fresh D) ∧ ∀ j, F' j → F j ∨ w0.heap.size ≤ j := by
  classical
  have hC : capN D.n D.sz ≤ 4096 := by unfold capN; split <;> omega
  have hT64 : tabN D.n D.sz ≤ 64 := by have := tabs_le (D.sz / 2) (D.n - 2) D.sz 64 0; unfold tabN; omega
  have d1 : p ≠ g1 := blk_ne hb h1 (by decide)
  have d2 : p ≠ g2 := blk_ne hb h2 (by decide)
  have d3 := pf_ne hp hb (by decide) (by decide)
  have d4 := pf_ne hp h1 (by decide) (by decide)
  have d5 := pf_ne hp h2 (by decide) (by decide)
  obtain ⟨L, hL⟩ : ∃ L : Nat → Nat, L = fun j => if j = p then 1 else if j = g1 then 4 else if j = g2 then 5 else if PF b A j then 3 else if F j then 2 else 0 := ⟨_, rfl⟩
  have l1 : L p = 1 := by rw [hL]; simp
  have l4 : L g1 = 4 := by rw [hL]; simp [Ne.symm d1]
  have l5 : L g2 = 5 := by rw [hL]; simp [Ne.symm d2, Ne.symm hne]
  have l3 : ∀ j, PF b A j → L j = 3 := fun j hj => by
    have e1 : j ≠ p := fun e => d3 (e ▸ hj)
    have e2 : j ≠ g1 := fun e => d4 (e ▸ hj)
    have e3 : j ≠ g2 := fun e => d5 (e ▸ hj)
    rw [hL]; simp [e1, e2, e3, hj]
  have l2 : ∀ j, L j = 2 ↔ F j := fun j => by
    have hlt : F j → j < w0.heap.size := hF0 j
    by_cases e1 : j = p
    · subst e1; rw [l1]; exact ⟨fun e => by omega, fun e => by have := hlt e; omega⟩
    by_cases e2 : j = g1
    · subst e2; rw [l4]; exact ⟨fun e => by omega, fun e => by have := hlt e; omega⟩
    by_cases e3 : j = g2
    · subst e3; rw [l5]; exact ⟨fun e => by omega, fun e => by have := hlt e; omega⟩
    by_cases e4 : PF b A j
    · rw [l3 j e4]; exact ⟨fun e => by omega, fun e => by have := hlt e; have := n3 j e4; omega⟩
    · rw [hL]; by_cases e5 : F j <;> simp [e1, e2, e3, e4, e5]
  have l0 : ∀ j, L j ≠ 0 → F j ∨ (w0.heap.size ≤ j ∧ j < w.heap.size) := fun j hj => by
    by_cases e1 : j = p
    · subst e1; exact .inr ⟨n0, hb.lt⟩
    by_cases e2 : j = g1
    · subst e2; exact .inr ⟨n1, h1.lt⟩
    by_cases e3 : j = g2
    · subst e3; exact .inr ⟨n2, h2.lt⟩
    by_cases e4 : PF b A j
    · exact .inr ⟨n3 j e4, hp.lt j e4⟩
    by_cases e5 : F j
    · exact .inl e5
    · rw [hL] at hj; simp [e1, e2, e3, e4, e5] at hj
  refine ⟨fun j => L j ≠ 0, ⟨L, d, b, A, c, _, _, none, ⟨hb, l1, ?_, hp, l3, ?_, fun j hj => ?_, ?_, fun j hj => ?_, rfl, fun j hj => ?_, ?_, hT⟩, fun _ => Iff.rfl⟩, fun j hj => (l0 j hj).imp id fun e => e.1⟩
  · rw [show (fun j => L j = 2) = F from funext fun j => propext (l2 j)]
    exact hd
  · have := own_new (n := tabN D.n D.sz) h1 (by simp [nv]) (by simp only [maxLen]; omega)
    simpa [Gp.fresh] using this
  · have : g1 = j := by simpa [Value.ownBlock] using hj
    rw [← this]; exact l4
  · have := own_new (n := capN D.n D.sz) h2 (by simp [nv]) (by simp only [maxLen]; omega)
    simpa [Gp.fresh] using this
  · have : g2 = j := by simpa [Value.ownBlock] using hj
    rw [← this]; exact l5
  · rcases l0 j hj with e | e
    · exact hd.lt j e
    · exact e.2
  · by_cases e : L 0 = 0
    · exact e
    · rcases l0 0 e with e | e
      · exact absurd e h0
      · omega

set_option maxRecDepth 100000 in
set_option maxHeartbeats 6400000 in
theorem gopen_new (d : Nat) (F : Nat → Prop) (D : Dk) (w : World) (h : DS w d F D) (hd : D.down = false) (hT : TabAt 0 tab w) (h0 : ¬ F 0) (hn : 8 ≤ D.n) (hz : 64 ≤ D.sz) (hp : ∀ i : Nat, i < 2 → partL ((D.rd i).take (D.sz - 8)) = none) (hby : ∀ i : Nat, i < 2 → ∀ x ∈ D.rd i, 0 ≤ x ∧ x ≤ 255) :
    Calls Tryd.prog 20 #[.pointer (some ⟨d, 0, none⟩)] w fun e w' => ∃ p F', e = .returned (.tuple #[.pointer (some ⟨p, 0, none⟩), .int .i64 0]) ∧ GS w' p F' (Gp.fresh D) ∧ Grew w w' ∧ ∀ j, F' j → F j ∨ w.heap.size ≤ j := by
  have hsm := h.sml
  have a1 : decide ((D.n : Int) < 8) = false := decide_eq_false (by omega)
  have a2 : decide ((D.sz : Int) < 64) = false := decide_eq_false (by omega)
  have H := Lib.hid (And.intro h (And.intro hT (And.intro hp hby)))
  clear h hT hp hby
  go_enter Tryd.func20, Tryd.ntmps20
  go_wp2_with (first
    | (go_at_call 39; (refine (dsectors_any d F D _ H.out.1).mono ?_); rintro e w1 ⟨rfl, rfl⟩)
    | (go_at_call 40; (refine (dsize_any d F D _ H.out.1).mono ?_); rintro e w1 ⟨rfl, rfl⟩)
    | (go_at_call 41; (refine (places_any D.n D.sz _ hn hsm.2.1 hz hsm.2.2.2).mono ?_); rintro e w1 ⟨rfl, hg1⟩; have HG1 := Lib.hid hg1; clear hg1))
  have hT := tabs_le (D.sz / 2) (D.n - 2) D.sz 64 0
  have hT64 : tabN D.n D.sz ≤ 64 := by unfold tabN; omega
  have hC : capN D.n D.sz ≤ 4096 := by unfold capN; split <;> omega
  have eq2 : (D.sz : Int).tdiv 2 = ((D.sz / 2 : Nat) : Int) := by simp
  have ew2 : IntKind.i64.wrap ((D.sz / 2 : Nat) : Int) = ((D.sz / 2 : Nat) : Int) := wrap_nat (by omega)
  have ew3 : IntKind.i64.wrap ((D.sz : Int) / 2) = ((D.sz / 2 : Nat) : Int) := by have := ew2; simpa using this
  have HG0 := Lib.hid (show Grew w1 w1.drew from (Chg.refl _ _).drew)
  clear hT
  go_cut [6] (fun v wx => OpenJ w1 d (D.sz / 2) (tabN D.n D.sz) (capN D.n D.sz) D.n v wx)
  case first =>
    refine wp_region_held_drew (S := fun _ => True) (by kernel_rfl) trivial (fun _ => ?_)
    refine wpAnyH_take (i := 0) (v := ?_) rfl (by kernel_rfl) (by kernel_rfl) (by kernel_rfl) (fun _ _ _ h => h) (Or.inl ⟨by rfl, ?_⟩) trivial ?_
    rotate_left
    · (intro w hSw; (try dsimp only at hSw); go_simp) <;> with_reducible rfl
    (try simp only [Act.put, List.setIfInBounds_toArray, List.set_cons_zero, List.set_cons_succ])
    refine wpAnyH_take (i := 1) (v := ?_) rfl (by kernel_rfl) (by kernel_rfl) (by kernel_rfl) (fun _ _ _ h => h) (Or.inl ⟨by rfl, ?_⟩) trivial ?_
    rotate_left
    · (intro w hSw; (try dsimp only at hSw); go_simp) <;> with_reducible rfl
    (try simp only [Act.put, List.setIfInBounds_toArray, List.set_cons_zero, List.set_cons_succ])
    refine wpAnyH_take (i := 4) (v := ?_) rfl (by kernel_rfl) (by kernel_rfl) (by kernel_rfl) (fun _ _ _ h => h) (Or.inl ⟨by rfl, ?_⟩) trivial ?_
    rotate_left
    · (intro w hSw; (try dsimp only at hSw); go_simp) <;> with_reducible rfl
    (try simp only [Act.put, List.setIfInBounds_toArray, List.set_cons_zero, List.set_cons_succ])
    refine wpAnyH_take (i := 6) (v := ?_) rfl (by kernel_rfl) (by kernel_rfl) (by kernel_rfl) (fun _ _ _ h => h) (Or.inl ⟨by rfl, ?_⟩) trivial ?_
    rotate_left
    · (intro w hSw; (try dsimp only at hSw); go_simp) <;> with_reducible rfl
    (try simp only [Act.put, List.setIfInBounds_toArray, List.set_cons_zero, List.set_cons_succ])
    refine wpAnyH_take (i := 8) (v := ?_) rfl (by kernel_rfl) (by kernel_rfl) (by kernel_rfl) (fun _ _ _ h => h) (Or.inl ⟨by rfl, ?_⟩) trivial ?_
    rotate_left
    · (intro w hSw; (try dsimp only at hSw); go_simp) <;> with_reducible rfl
    (try simp only [Act.put, List.setIfInBounds_toArray, List.set_cons_zero, List.set_cons_succ])
    obtain ⟨y5, hr5, hB5, hG5, hs5⟩ := make_ints (tabN D.n D.sz) (w1.drew) (by omega)
    obtain ⟨y7, hr7, hB7, hG7, hs7⟩ := make_ints (capN D.n D.sz) (w1.drew) (by omega)
    refine wpAnyH_ready (rs := [2, 5, 7]) (by kernel_rfl) (by simp) ?_
    refine (AllReadyH.cons rfl (fun K hK => ?_) (AllReadyH.cons rfl (fun K hK => ?_) (AllReadyH.cons rfl (fun K hK => ?_) AllReadyH.nil)))
    · go_simp
      refine (dsize_any d F D _ (H.out.1.grew (Grew.trans HG1.out HG0.out))).mono ?_
      rintro e u2 ⟨rfl, rfl⟩
      refine hK.out _ _ trivial (fun _ => ?_)
      clear hK K
      (try simp only [Act.put, List.setIfInBounds_toArray, List.set_cons_zero, List.set_cons_succ])
      clear hr5 hB5 hG5 hs5 y5 hr7 hB7 hG7 hs7 y7
      refine wpAnyH_take (i := 3) (v := ?_) rfl (by kernel_rfl) (by kernel_rfl) (by kernel_rfl) (fun _ _ _ h => h) (Or.inl ⟨by rfl, ?_⟩) trivial ?_
      rotate_left
      · (intro w hSw; (try dsimp only at hSw); go_simp) <;> with_reducible rfl
      (try simp only [Act.put, List.setIfInBounds_toArray, List.set_cons_zero, List.set_cons_succ])
      obtain ⟨y5, hr5, hB5, hG5, hs5⟩ := make_ints (tabN D.n D.sz) (w1.drew) (by omega)
      obtain ⟨y7, hr7, hB7, hG7, hs7⟩ := make_ints (capN D.n D.sz) (w1.drew) (by omega)
      refine wpAnyH_ready (rs := [5, 7, 9]) (by kernel_rfl) (by simp) ?_
      refine (AllReadyH.cons rfl (fun K hK => ?_) (AllReadyH.cons rfl (fun K hK => ?_) (AllReadyH.cons rfl (fun K hK => ?_) AllReadyH.nil)))
      · go_simp
        refine hK.out _ _ trivial (fun _ => ?_)
        clear hK K
        (try simp only [Act.put, List.setIfInBounds_toArray, List.set_cons_zero, List.set_cons_succ])
        have HQ5 := Lib.hid (show NewInts w1 y5 (w1.drew).heap.size (tabN D.n D.sz) from ⟨hB5, HG0.out.size⟩)
        have HLT5 := Lib.hid (show (w1.drew).heap.size < y5.heap.size from HQ5.out.1.lt)
        have HG5 := Lib.hid (Grew.trans HG0.out hG5)
        clear hr5 hB5 hG5 hs5 hr7 hB7 hG7 hs7 y7
        obtain ⟨y7, hr7, hB7, hG7, hs7⟩ := make_ints (capN D.n D.sz) (y5) (by omega)
        refine wpAnyH_ready (rs := [7, 9]) (by kernel_rfl) (by simp) ?_
        refine (AllReadyH.cons rfl (fun K hK => ?_) (AllReadyH.cons rfl (fun K hK => ?_) AllReadyH.nil))
        · go_simp
          refine hK.out _ _ trivial (fun _ => ?_)
          clear hK K
          (try simp only [Act.put, List.setIfInBounds_toArray, List.set_cons_zero, List.set_cons_succ])
          have HQ5 := Lib.hid (HQ5.out.grew hG7)
          have HQ7 := Lib.hid (show NewInts w1 y7 (y5).heap.size (capN D.n D.sz) from ⟨hB7, HG5.out.size⟩)
          have HD := Lib.hid (show (w1.drew).heap.size ≠ (y5).heap.size from Nat.ne_of_lt HLT5.out)
          have HG7 := Lib.hid (Grew.trans HG5.out hG7)
          clear hr7 hB7 hG7 hs7
          refine wpAnyH_ready (rs := [9]) (by kernel_rfl) (by simp) ?_
          refine (AllReadyH.cons rfl (fun K hK => ?_) AllReadyH.nil)
          · go_simp
            refine (dsectors_any d F D _ (H.out.1.grew (Grew.trans HG1.out HG7.out))).mono ?_
            rintro e u2 ⟨rfl, rfl⟩
            refine hK.out _ _ trivial (fun _ => ?_)
            clear hK K
            (try simp only [Act.put, List.setIfInBounds_toArray, List.set_cons_zero, List.set_cons_succ])
            refine wpAnyH_ready (rs := [10]) (by kernel_rfl) (by simp) ?_
            refine (AllReadyH.cons rfl (fun K hK => ?_) AllReadyH.nil)
            · go_simp
              refine (pnew_any D.n _ (by omega)).mono ?_
              rintro e y10 ⟨A10, c10, rfl, hp10, hg10, hn10⟩
              refine hK.out _ _ trivial (fun _ => ?_)
              clear hK K
              (try simp only [Act.put, List.setIfInBounds_toArray, List.set_cons_zero, List.set_cons_succ])
              have HQ5 := Lib.hid (HQ5.out.grew hg10)
              have HQ7 := Lib.hid (HQ7.out.grew hg10)
              have HQ10 := Lib.hid (show NewPool w1 y10 (y7).heap.size D.n A10 c10 from ⟨hp10, fun j hj => Nat.le_trans HG7.out.size (hn10 j hj)⟩)
              have HG10 := Lib.hid (Grew.trans HG7.out hg10)
              clear hp10 hg10 hn10
              refine wpAnyH_take (i := 11) (v := ?_) rfl (by kernel_rfl) (by kernel_rfl) (by kernel_rfl) (fun _ _ _ h => h) (Or.inl ⟨by rfl, ?_⟩) trivial ?_
              rotate_left
              · (intro w hSw; (try dsimp only at hSw); go_simp) <;> with_reducible rfl
              (try simp only [Act.put, List.setIfInBounds_toArray, List.set_cons_zero, List.set_cons_succ])
              refine wpAnyH_ready (rs := [12]) (by kernel_rfl) (by simp) ?_
              refine AllReadyH.cons rfl (fun K hK => ?_) AllReadyH.nil
              go_simp
              refine hK.out _ _ trivial (fun _ => ?_)
              clear hK K
              (try simp only [Act.put, List.setIfInBounds_toArray, List.set_cons_zero, List.set_cons_succ])
              refine wpAnyH_ready (rs := [13]) (by kernel_rfl) (by simp) ?_
              refine AllReadyH.cons rfl (fun K hK => ?_) AllReadyH.nil
              go_simp
              refine hK.out _ _ trivial (fun _ => ?_)
              clear hK K
              (try simp only [Act.put, List.setIfInBounds_toArray, List.set_cons_zero, List.set_cons_succ])
              refine wpAnyH_done (by kernel_rfl) ?_ _
              go_wp2
              go_meet
              exact openJ_mk (by first | exact ew3 | omega) HQ5.out HQ7.out HD.out HQ10.out HG10.out
        · go_simp
          refine (dsectors_any d F D _ (H.out.1.grew (Grew.trans HG1.out HG5.out))).mono ?_
          rintro e u2 ⟨rfl, rfl⟩
          refine hK.out _ _ trivial (fun _ => ?_)
          clear hK K
          (try simp only [Act.put, List.setIfInBounds_toArray, List.set_cons_zero, List.set_cons_succ])
          clear hr7 hB7 hG7 hs7 y7
          obtain ⟨y7, hr7, hB7, hG7, hs7⟩ := make_ints (capN D.n D.sz) (y5) (by omega)
          refine wpAnyH_ready (rs := [7, 10]) (by kernel_rfl) (by simp) ?_
          refine (AllReadyH.cons rfl (fun K hK => ?_) (AllReadyH.cons rfl (fun K hK => ?_) AllReadyH.nil))
          · go_simp
            refine hK.out _ _ trivial (fun _ => ?_)
            clear hK K
            (try simp only [Act.put, List.setIfInBounds_toArray, List.set_cons_zero, List.set_cons_succ])
            have HQ5 := Lib.hid (HQ5.out.grew hG7)
            have HQ7 := Lib.hid (show NewInts w1 y7 (y5).heap.size (capN D.n D.sz) from ⟨hB7, HG5.out.size⟩)
            have HD := Lib.hid (show (w1.drew).heap.size ≠ (y5).heap.size from Nat.ne_of_lt HLT5.out)
            have HG7 := Lib.hid (Grew.trans HG5.out hG7)
            clear hr7 hB7 hG7 hs7
            refine wpAnyH_ready (rs := [10]) (by kernel_rfl) (by simp) ?_
            refine (AllReadyH.cons rfl (fun K hK => ?_) AllReadyH.nil)
            · go_simp
              refine (pnew_any D.n _ (by omega)).mono ?_
              rintro e y10 ⟨A10, c10, rfl, hp10, hg10, hn10⟩
              refine hK.out _ _ trivial (fun _ => ?_)
              clear hK K
              (try simp only [Act.put, List.setIfInBounds_toArray, List.set_cons_zero, List.set_cons_succ])
              have HQ5 := Lib.hid (HQ5.out.grew hg10)
              have HQ7 := Lib.hid (HQ7.out.grew hg10)
              have HQ10 := Lib.hid (show NewPool w1 y10 (y7).heap.size D.n A10 c10 from ⟨hp10, fun j hj => Nat.le_trans HG7.out.size (hn10 j hj)⟩)
              have HG10 := Lib.hid (Grew.trans HG7.out hg10)
              clear hp10 hg10 hn10
              refine wpAnyH_take (i := 11) (v := ?_) rfl (by kernel_rfl) (by kernel_rfl) (by kernel_rfl) (fun _ _ _ h => h) (Or.inl ⟨by rfl, ?_⟩) trivial ?_
              rotate_left
              · (intro w hSw; (try dsimp only at hSw); go_simp) <;> with_reducible rfl
              (try simp only [Act.put, List.setIfInBounds_toArray, List.set_cons_zero, List.set_cons_succ])
              refine wpAnyH_ready (rs := [12]) (by kernel_rfl) (by simp) ?_
              refine AllReadyH.cons rfl (fun K hK => ?_) AllReadyH.nil
              go_simp
              refine hK.out _ _ trivial (fun _ => ?_)
              clear hK K
              (try simp only [Act.put, List.setIfInBounds_toArray, List.set_cons_zero, List.set_cons_succ])
              refine wpAnyH_ready (rs := [13]) (by kernel_rfl) (by simp) ?_
              refine AllReadyH.cons rfl (fun K hK => ?_) AllReadyH.nil
              go_simp
              refine hK.out _ _ trivial (fun _ => ?_)
              clear hK K
              (try simp only [Act.put, List.setIfInBounds_toArray, List.set_cons_zero, List.set_cons_succ])
              refine wpAnyH_done (by kernel_rfl) ?_ _
              go_wp2
              go_meet
              exact openJ_mk (by first | exact ew3 | omega) HQ5.out HQ7.out HD.out HQ10.out HG10.out
          · go_simp
            refine (pnew_any D.n _ (by omega)).mono ?_
            rintro e y10 ⟨A10, c10, rfl, hp10, hg10, hn10⟩
            refine hK.out _ _ trivial (fun _ => ?_)
            clear hK K
            (try simp only [Act.put, List.setIfInBounds_toArray, List.set_cons_zero, List.set_cons_succ])
            have HQ5 := Lib.hid (HQ5.out.grew hg10)
            have HLT5 := Lib.hid (Nat.lt_of_lt_of_le HLT5.out hg10.size)
            have HQ10 := Lib.hid (show NewPool w1 y10 (y5).heap.size D.n A10 c10 from ⟨hp10, fun j hj => Nat.le_trans HG5.out.size (hn10 j hj)⟩)
            have HG10 := Lib.hid (Grew.trans HG5.out hg10)
            clear hp10 hg10 hn10
            clear hr7 hB7 hG7 hs7 y7
            obtain ⟨y7, hr7, hB7, hG7, hs7⟩ := make_ints (capN D.n D.sz) (y10) (by omega)
            refine wpAnyH_ready (rs := [7]) (by kernel_rfl) (by simp) ?_
            refine (AllReadyH.cons rfl (fun K hK => ?_) AllReadyH.nil)
            · go_simp
              refine hK.out _ _ trivial (fun _ => ?_)
              clear hK K
              (try simp only [Act.put, List.setIfInBounds_toArray, List.set_cons_zero, List.set_cons_succ])
              have HQ5 := Lib.hid (HQ5.out.grew hG7)
              have HQ10 := Lib.hid (HQ10.out.grew hG7)
              have HQ7 := Lib.hid (show NewInts w1 y7 (y10).heap.size (capN D.n D.sz) from ⟨hB7, HG10.out.size⟩)
              have HD := Lib.hid (show (w1.drew).heap.size ≠ (y10).heap.size from Nat.ne_of_lt HLT5.out)
              have HG7 := Lib.hid (Grew.trans HG10.out hG7)
              clear hr7 hB7 hG7 hs7
              refine wpAnyH_take (i := 11) (v := ?_) rfl (by kernel_rfl) (by kernel_rfl) (by kernel_rfl) (fun _ _ _ h => h) (Or.inl ⟨by rfl, ?_⟩) trivial ?_
              rotate_left
              · (intro w hSw; (try dsimp only at hSw); go_simp) <;> with_reducible rfl
              (try simp only [Act.put, List.setIfInBounds_toArray, List.set_cons_zero, List.set_cons_succ])
              refine wpAnyH_ready (rs := [12]) (by kernel_rfl) (by simp) ?_
              refine AllReadyH.cons rfl (fun K hK => ?_) AllReadyH.nil
              go_simp
              refine hK.out _ _ trivial (fun _ => ?_)
              clear hK K
              (try simp only [Act.put, List.setIfInBounds_toArray, List.set_cons_zero, List.set_cons_succ])
              refine wpAnyH_ready (rs := [13]) (by kernel_rfl) (by simp) ?_
              refine AllReadyH.cons rfl (fun K hK => ?_) AllReadyH.nil
              go_simp
              refine hK.out _ _ trivial (fun _ => ?_)
              clear hK K
              (try simp only [Act.put, List.setIfInBounds_toArray, List.set_cons_zero, List.set_cons_succ])
              refine wpAnyH_done (by kernel_rfl) ?_ _
              go_wp2
              go_meet
              exact openJ_mk (by first | exact ew3 | omega) HQ5.out HQ7.out HD.out HQ10.out HG7.out
      · go_simp
        refine hK.out _ _ trivial (fun _ => ?_)
        clear hK K
        (try simp only [Act.put, List.setIfInBounds_toArray, List.set_cons_zero, List.set_cons_succ])
        have HQ7 := Lib.hid (show NewInts w1 y7 (w1.drew).heap.size (capN D.n D.sz) from ⟨hB7, HG0.out.size⟩)
        have HLT7 := Lib.hid (show (w1.drew).heap.size < y7.heap.size from HQ7.out.1.lt)
        have HG7 := Lib.hid (Grew.trans HG0.out hG7)
        clear hr7 hB7 hG7 hs7 hr5 hB5 hG5 hs5 y5
        obtain ⟨y5, hr5, hB5, hG5, hs5⟩ := make_ints (tabN D.n D.sz) (y7) (by omega)
        refine wpAnyH_ready (rs := [5, 9]) (by kernel_rfl) (by simp) ?_
        refine (AllReadyH.cons rfl (fun K hK => ?_) (AllReadyH.cons rfl (fun K hK => ?_) AllReadyH.nil))
        · go_simp
          refine hK.out _ _ trivial (fun _ => ?_)
          clear hK K
          (try simp only [Act.put, List.setIfInBounds_toArray, List.set_cons_zero, List.set_cons_succ])
          have HQ7 := Lib.hid (HQ7.out.grew hG5)
          have HQ5 := Lib.hid (show NewInts w1 y5 (y7).heap.size (tabN D.n D.sz) from ⟨hB5, HG7.out.size⟩)
          have HD := Lib.hid (show (y7).heap.size ≠ (w1.drew).heap.size from Ne.symm (Nat.ne_of_lt HLT7.out))
          have HG5 := Lib.hid (Grew.trans HG7.out hG5)
          clear hr5 hB5 hG5 hs5
          refine wpAnyH_ready (rs := [9]) (by kernel_rfl) (by simp) ?_
          refine (AllReadyH.cons rfl (fun K hK => ?_) AllReadyH.nil)
          · go_simp
            refine (dsectors_any d F D _ (H.out.1.grew (Grew.trans HG1.out HG5.out))).mono ?_
            rintro e u2 ⟨rfl, rfl⟩
            refine hK.out _ _ trivial (fun _ => ?_)
            clear hK K
            (try simp only [Act.put, List.setIfInBounds_toArray, List.set_cons_zero, List.set_cons_succ])
            refine wpAnyH_ready (rs := [10]) (by kernel_rfl) (by simp) ?_
            refine (AllReadyH.cons rfl (fun K hK => ?_) AllReadyH.nil)
            · go_simp
              refine (pnew_any D.n _ (by omega)).mono ?_
              rintro e y10 ⟨A10, c10, rfl, hp10, hg10, hn10⟩
              refine hK.out _ _ trivial (fun _ => ?_)
              clear hK K
              (try simp only [Act.put, List.setIfInBounds_toArray, List.set_cons_zero, List.set_cons_succ])
              have HQ7 := Lib.hid (HQ7.out.grew hg10)
              have HQ5 := Lib.hid (HQ5.out.grew hg10)
              have HQ10 := Lib.hid (show NewPool w1 y10 (y5).heap.size D.n A10 c10 from ⟨hp10, fun j hj => Nat.le_trans HG5.out.size (hn10 j hj)⟩)
              have HG10 := Lib.hid (Grew.trans HG5.out hg10)
              clear hp10 hg10 hn10
              refine wpAnyH_take (i := 11) (v := ?_) rfl (by kernel_rfl) (by kernel_rfl) (by kernel_rfl) (fun _ _ _ h => h) (Or.inl ⟨by rfl, ?_⟩) trivial ?_
              rotate_left
              · (intro w hSw; (try dsimp only at hSw); go_simp) <;> with_reducible rfl
              (try simp only [Act.put, List.setIfInBounds_toArray, List.set_cons_zero, List.set_cons_succ])
              refine wpAnyH_ready (rs := [12]) (by kernel_rfl) (by simp) ?_
              refine AllReadyH.cons rfl (fun K hK => ?_) AllReadyH.nil
              go_simp
              refine hK.out _ _ trivial (fun _ => ?_)
              clear hK K
              (try simp only [Act.put, List.setIfInBounds_toArray, List.set_cons_zero, List.set_cons_succ])
              refine wpAnyH_ready (rs := [13]) (by kernel_rfl) (by simp) ?_
              refine AllReadyH.cons rfl (fun K hK => ?_) AllReadyH.nil
              go_simp
              refine hK.out _ _ trivial (fun _ => ?_)
              clear hK K
              (try simp only [Act.put, List.setIfInBounds_toArray, List.set_cons_zero, List.set_cons_succ])
              refine wpAnyH_done (by kernel_rfl) ?_ _
              go_wp2
              go_meet
              exact openJ_mk (by first | exact ew3 | omega) HQ5.out HQ7.out HD.out HQ10.out HG10.out
        · go_simp
          refine (dsectors_any d F D _ (H.out.1.grew (Grew.trans HG1.out HG7.out))).mono ?_
          rintro e u2 ⟨rfl, rfl⟩
          refine hK.out _ _ trivial (fun _ => ?_)
          clear hK K
          (try simp only [Act.put, List.setIfInBounds_toArray, List.set_cons_zero, List.set_cons_succ])
          clear hr5 hB5 hG5 hs5 y5
          obtain ⟨y5, hr5, hB5, hG5, hs5⟩ := make_ints (tabN D.n D.sz) (y7) (by omega)
          refine wpAnyH_ready (rs := [5, 10]) (by kernel_rfl) (by simp) ?_
          refine (AllReadyH.cons rfl (fun K hK => ?_) (AllReadyH.cons rfl (fun K hK => ?_) AllReadyH.nil))
          · go_simp
            refine hK.out _ _ trivial (fun _ => ?_)
            clear hK K
            (try simp only [Act.put, List.setIfInBounds_toArray, List.set_cons_zero, List.set_cons_succ])
            have HQ7 := Lib.hid (HQ7.out.grew hG5)
            have HQ5 := Lib.hid (show NewInts w1 y5 (y7).heap.size (tabN D.n D.sz) from ⟨hB5, HG7.out.size⟩)
            have HD := Lib.hid (show (y7).heap.size ≠ (w1.drew).heap.size from Ne.symm (Nat.ne_of_lt HLT7.out))
            have HG5 := Lib.hid (Grew.trans HG7.out hG5)
            clear hr5 hB5 hG5 hs5
            refine wpAnyH_ready (rs := [10]) (by kernel_rfl) (by simp) ?_
            refine (AllReadyH.cons rfl (fun K hK => ?_) AllReadyH.nil)
            · go_simp
              refine (pnew_any D.n _ (by omega)).mono ?_
              rintro e y10 ⟨A10, c10, rfl, hp10, hg10, hn10⟩
              refine hK.out _ _ trivial (fun _ => ?_)
              clear hK K
              (try simp only [Act.put, List.setIfInBounds_toArray, List.set_cons_zero, List.set_cons_succ])
              have HQ7 := Lib.hid (HQ7.out.grew hg10)
              have HQ5 := Lib.hid (HQ5.out.grew hg10)
              have HQ10 := Lib.hid (show NewPool w1 y10 (y5).heap.size D.n A10 c10 from ⟨hp10, fun j hj => Nat.le_trans HG5.out.size (hn10 j hj)⟩)
              have HG10 := Lib.hid (Grew.trans HG5.out hg10)
              clear hp10 hg10 hn10
              refine wpAnyH_take (i := 11) (v := ?_) rfl (by kernel_rfl) (by kernel_rfl) (by kernel_rfl) (fun _ _ _ h => h) (Or.inl ⟨by rfl, ?_⟩) trivial ?_
              rotate_left
              · (intro w hSw; (try dsimp only at hSw); go_simp) <;> with_reducible rfl
              (try simp only [Act.put, List.setIfInBounds_toArray, List.set_cons_zero, List.set_cons_succ])
              refine wpAnyH_ready (rs := [12]) (by kernel_rfl) (by simp) ?_
              refine AllReadyH.cons rfl (fun K hK => ?_) AllReadyH.nil
              go_simp
              refine hK.out _ _ trivial (fun _ => ?_)
              clear hK K
              (try simp only [Act.put, List.setIfInBounds_toArray, List.set_cons_zero, List.set_cons_succ])
              refine wpAnyH_ready (rs := [13]) (by kernel_rfl) (by simp) ?_
              refine AllReadyH.cons rfl (fun K hK => ?_) AllReadyH.nil
              go_simp
              refine hK.out _ _ trivial (fun _ => ?_)
              clear hK K
              (try simp only [Act.put, List.setIfInBounds_toArray, List.set_cons_zero, List.set_cons_succ])
              refine wpAnyH_done (by kernel_rfl) ?_ _
              go_wp2
              go_meet
              exact openJ_mk (by first | exact ew3 | omega) HQ5.out HQ7.out HD.out HQ10.out HG10.out
          · go_simp
            refine (pnew_any D.n _ (by omega)).mono ?_
            rintro e y10 ⟨A10, c10, rfl, hp10, hg10, hn10⟩
            refine hK.out _ _ trivial (fun _ => ?_)
            clear hK K
            (try simp only [Act.put, List.setIfInBounds_toArray, List.set_cons_zero, List.set_cons_succ])
            have HQ7 := Lib.hid (HQ7.out.grew hg10)
            have HLT7 := Lib.hid (Nat.lt_of_lt_of_le HLT7.out hg10.size)
            have HQ10 := Lib.hid (show NewPool w1 y10 (y7).heap.size D.n A10 c10 from ⟨hp10, fun j hj => Nat.le_trans HG7.out.size (hn10 j hj)⟩)
            have HG10 := Lib.hid (Grew.trans HG7.out hg10)
            clear hp10 hg10 hn10
            clear hr5 hB5 hG5 hs5 y5
            obtain ⟨y5, hr5, hB5, hG5, hs5⟩ := make_ints (tabN D.n D.sz) (y10) (by omega)
            refine wpAnyH_ready (rs := [5]) (by kernel_rfl) (by simp) ?_
            refine (AllReadyH.cons rfl (fun K hK => ?_) AllReadyH.nil)
            · go_simp
              refine hK.out _ _ trivial (fun _ => ?_)
              clear hK K
              (try simp only [Act.put, List.setIfInBounds_toArray, List.set_cons_zero, List.set_cons_succ])
              have HQ7 := Lib.hid (HQ7.out.grew hG5)
              have HQ10 := Lib.hid (HQ10.out.grew hG5)
              have HQ5 := Lib.hid (show NewInts w1 y5 (y10).heap.size (tabN D.n D.sz) from ⟨hB5, HG10.out.size⟩)
              have HD := Lib.hid (show (y10).heap.size ≠ (w1.drew).heap.size from Ne.symm (Nat.ne_of_lt HLT7.out))
              have HG5 := Lib.hid (Grew.trans HG10.out hG5)
              clear hr5 hB5 hG5 hs5
              refine wpAnyH_take (i := 11) (v := ?_) rfl (by kernel_rfl) (by kernel_rfl) (by kernel_rfl) (fun _ _ _ h => h) (Or.inl ⟨by rfl, ?_⟩) trivial ?_
              rotate_left
              · (intro w hSw; (try dsimp only at hSw); go_simp) <;> with_reducible rfl
              (try simp only [Act.put, List.setIfInBounds_toArray, List.set_cons_zero, List.set_cons_succ])
              refine wpAnyH_ready (rs := [12]) (by kernel_rfl) (by simp) ?_
              refine AllReadyH.cons rfl (fun K hK => ?_) AllReadyH.nil
              go_simp
              refine hK.out _ _ trivial (fun _ => ?_)
              clear hK K
              (try simp only [Act.put, List.setIfInBounds_toArray, List.set_cons_zero, List.set_cons_succ])
              refine wpAnyH_ready (rs := [13]) (by kernel_rfl) (by simp) ?_
              refine AllReadyH.cons rfl (fun K hK => ?_) AllReadyH.nil
              go_simp
              refine hK.out _ _ trivial (fun _ => ?_)
              clear hK K
              (try simp only [Act.put, List.setIfInBounds_toArray, List.set_cons_zero, List.set_cons_succ])
              refine wpAnyH_done (by kernel_rfl) ?_ _
              go_wp2
              go_meet
              exact openJ_mk (by first | exact ew3 | omega) HQ5.out HQ7.out HD.out HQ10.out HG5.out
      · go_simp
        refine (dsectors_any d F D _ (H.out.1.grew (Grew.trans HG1.out HG0.out))).mono ?_
        rintro e u2 ⟨rfl, rfl⟩
        refine hK.out _ _ trivial (fun _ => ?_)
        clear hK K
        (try simp only [Act.put, List.setIfInBounds_toArray, List.set_cons_zero, List.set_cons_succ])
        clear hr5 hB5 hG5 hs5 y5 hr7 hB7 hG7 hs7 y7
        obtain ⟨y5, hr5, hB5, hG5, hs5⟩ := make_ints (tabN D.n D.sz) (w1.drew) (by omega)
        obtain ⟨y7, hr7, hB7, hG7, hs7⟩ := make_ints (capN D.n D.sz) (w1.drew) (by omega)
        refine wpAnyH_ready (rs := [5, 7, 10]) (by kernel_rfl) (by simp) ?_
        refine (AllReadyH.cons rfl (fun K hK => ?_) (AllReadyH.cons rfl (fun K hK => ?_) (AllReadyH.cons rfl (fun K hK => ?_) AllReadyH.nil)))
        · go_simp
          refine hK.out _ _ trivial (fun _ => ?_)
          clear hK K
          (try simp only [Act.put, List.setIfInBounds_toArray, List.set_cons_zero, List.set_cons_succ])
          have HQ5 := Lib.hid (show NewInts w1 y5 (w1.drew).heap.size (tabN D.n D.sz) from ⟨hB5, HG0.out.size⟩)
          have HLT5 := Lib.hid (show (w1.drew).heap.size < y5.heap.size from HQ5.out.1.lt)
          have HG5 := Lib.hid (Grew.trans HG0.out hG5)
          clear hr5 hB5 hG5 hs5 hr7 hB7 hG7 hs7 y7
          obtain ⟨y7, hr7, hB7, hG7, hs7⟩ := make_ints (capN D.n D.sz) (y5) (by omega)
          refine wpAnyH_ready (rs := [7, 10]) (by kernel_rfl) (by simp) ?_
          refine (AllReadyH.cons rfl (fun K hK => ?_) (AllReadyH.cons rfl (fun K hK => ?_) AllReadyH.nil))
          · go_simp
            refine hK.out _ _ trivial (fun _ => ?_)
            clear hK K
            (try simp only [Act.put, List.setIfInBounds_toArray, List.set_cons_zero, List.set_cons_succ])
            have HQ5 := Lib.hid (HQ5.out.grew hG7)
            have HQ7 := Lib.hid (show NewInts w1 y7 (y5).heap.size (capN D.n D.sz) from ⟨hB7, HG5.out.size⟩)
            have HD := Lib.hid (show (w1.drew).heap.size ≠ (y5).heap.size from Nat.ne_of_lt HLT5.out)
            have HG7 := Lib.hid (Grew.trans HG5.out hG7)
            clear hr7 hB7 hG7 hs7
            refine wpAnyH_ready (rs := [10]) (by kernel_rfl) (by simp) ?_
            refine (AllReadyH.cons rfl (fun K hK => ?_) AllReadyH.nil)
            · go_simp
              refine (pnew_any D.n _ (by omega)).mono ?_
              rintro e y10 ⟨A10, c10, rfl, hp10, hg10, hn10⟩
              refine hK.out _ _ trivial (fun _ => ?_)
              clear hK K
              (try simp only [Act.put, List.setIfInBounds_toArray, List.set_cons_zero, List.set_cons_succ])
              have HQ5 := Lib.hid (HQ5.out.grew hg10)
              have HQ7 := Lib.hid (HQ7.out.grew hg10)
              have HQ10 := Lib.hid (show NewPool w1 y10 (y7).heap.size D.n A10 c10 from ⟨hp10, fun j hj => Nat.le_trans HG7.out.size (hn10 j hj)⟩)
              have HG10 := Lib.hid (Grew.trans HG7.out hg10)
              clear hp10 hg10 hn10
              refine wpAnyH_take (i := 11) (v := ?_) rfl (by kernel_rfl) (by kernel_rfl) (by kernel_rfl) (fun _ _ _ h => h) (Or.inl ⟨by rfl, ?_⟩) trivial ?_
              rotate_left
              · (intro w hSw; (try dsimp only at hSw); go_simp) <;> with_reducible rfl
              (try simp only [Act.put, List.setIfInBounds_toArray, List.set_cons_zero, List.set_cons_succ])
              refine wpAnyH_ready (rs := [12]) (by kernel_rfl) (by simp) ?_
              refine AllReadyH.cons rfl (fun K hK => ?_) AllReadyH.nil
              go_simp
              refine hK.out _ _ trivial (fun _ => ?_)
              clear hK K
              (try simp only [Act.put, List.setIfInBounds_toArray, List.set_cons_zero, List.set_cons_succ])
              refine wpAnyH_ready (rs := [13]) (by kernel_rfl) (by simp) ?_
              refine AllReadyH.cons rfl (fun K hK => ?_) AllReadyH.nil
              go_simp
              refine hK.out _ _ trivial (fun _ => ?_)
              clear hK K
              (try simp only [Act.put, List.setIfInBounds_toArray, List.set_cons_zero, List.set_cons_succ])
              refine wpAnyH_done (by kernel_rfl) ?_ _
              go_wp2
              go_meet
              exact openJ_mk (by first | exact ew3 | omega) HQ5.out HQ7.out HD.out HQ10.out HG10.out
          · go_simp
            refine (pnew_any D.n _ (by omega)).mono ?_
            rintro e y10 ⟨A10, c10, rfl, hp10, hg10, hn10⟩
            refine hK.out _ _ trivial (fun _ => ?_)
            clear hK K
            (try simp only [Act.put, List.setIfInBounds_toArray, List.set_cons_zero, List.set_cons_succ])
            have HQ5 := Lib.hid (HQ5.out.grew hg10)
            have HLT5 := Lib.hid (Nat.lt_of_lt_of_le HLT5.out hg10.size)
            have HQ10 := Lib.hid (show NewPool w1 y10 (y5).heap.size D.n A10 c10 from ⟨hp10, fun j hj => Nat.le_trans HG5.out.size (hn10 j hj)⟩)
            have HG10 := Lib.hid (Grew.trans HG5.out hg10)
            clear hp10 hg10 hn10
            clear hr7 hB7 hG7 hs7 y7
            obtain ⟨y7, hr7, hB7, hG7, hs7⟩ := make_ints (capN D.n D.sz) (y10) (by omega)
            refine wpAnyH_ready (rs := [7]) (by kernel_rfl) (by simp) ?_
            refine (AllReadyH.cons rfl (fun K hK => ?_) AllReadyH.nil)
            · go_simp
              refine hK.out _ _ trivial (fun _ => ?_)
              clear hK K
              (try simp only [Act.put, List.setIfInBounds_toArray, List.set_cons_zero, List.set_cons_succ])
              have HQ5 := Lib.hid (HQ5.out.grew hG7)
              have HQ10 := Lib.hid (HQ10.out.grew hG7)
              have HQ7 := Lib.hid (show NewInts w1 y7 (y10).heap.size (capN D.n D.sz) from ⟨hB7, HG10.out.size⟩)
              have HD := Lib.hid (show (w1.drew).heap.size ≠ (y10).heap.size from Nat.ne_of_lt HLT5.out)
              have HG7 := Lib.hid (Grew.trans HG10.out hG7)
              clear hr7 hB7 hG7 hs7
              refine wpAnyH_take (i := 11) (v := ?_) rfl (by kernel_rfl) (by kernel_rfl) (by kernel_rfl) (fun _ _ _ h => h) (Or.inl ⟨by rfl, ?_⟩) trivial ?_
              rotate_left
              · (intro w hSw; (try dsimp only at hSw); go_simp) <;> with_reducible rfl
              (try simp only [Act.put, List.setIfInBounds_toArray, List.set_cons_zero, List.set_cons_succ])
              refine wpAnyH_ready (rs := [12]) (by kernel_rfl) (by simp) ?_
              refine AllReadyH.cons rfl (fun K hK => ?_) AllReadyH.nil
              go_simp
              refine hK.out _ _ trivial (fun _ => ?_)
              clear hK K
              (try simp only [Act.put, List.setIfInBounds_toArray, List.set_cons_zero, List.set_cons_succ])
              refine wpAnyH_ready (rs := [13]) (by kernel_rfl) (by simp) ?_
              refine AllReadyH.cons rfl (fun K hK => ?_) AllReadyH.nil
              go_simp
              refine hK.out _ _ trivial (fun _ => ?_)
              clear hK K
              (try simp only [Act.put, List.setIfInBounds_toArray, List.set_cons_zero, List.set_cons_succ])
              refine wpAnyH_done (by kernel_rfl) ?_ _
              go_wp2
              go_meet
              exact openJ_mk (by first | exact ew3 | omega) HQ5.out HQ7.out HD.out HQ10.out HG7.out
        · go_simp
          refine hK.out _ _ trivial (fun _ => ?_)
          clear hK K
          (try simp only [Act.put, List.setIfInBounds_toArray, List.set_cons_zero, List.set_cons_succ])
          have HQ7 := Lib.hid (show NewInts w1 y7 (w1.drew).heap.size (capN D.n D.sz) from ⟨hB7, HG0.out.size⟩)
          have HLT7 := Lib.hid (show (w1.drew).heap.size < y7.heap.size from HQ7.out.1.lt)
          have HG7 := Lib.hid (Grew.trans HG0.out hG7)
          clear hr7 hB7 hG7 hs7 hr5 hB5 hG5 hs5 y5
          obtain ⟨y5, hr5, hB5, hG5, hs5⟩ := make_ints (tabN D.n D.sz) (y7) (by omega)
          refine wpAnyH_ready (rs := [5, 10]) (by kernel_rfl) (by simp) ?_
          refine (AllReadyH.cons rfl (fun K hK => ?_) (AllReadyH.cons rfl (fun K hK => ?_) AllReadyH.nil))
          · go_simp
            refine hK.out _ _ trivial (fun _ => ?_)
            clear hK K
            (try simp only [Act.put, List.setIfInBounds_toArray, List.set_cons_zero, List.set_cons_succ])
            have HQ7 := Lib.hid (HQ7.out.grew hG5)
            have HQ5 := Lib.hid (show NewInts w1 y5 (y7).heap.size (tabN D.n D.sz) from ⟨hB5, HG7.out.size⟩)
            have HD := Lib.hid (show (y7).heap.size ≠ (w1.drew).heap.size from Ne.symm (Nat.ne_of_lt HLT7.out))
            have HG5 := Lib.hid (Grew.trans HG7.out hG5)
            clear hr5 hB5 hG5 hs5
            refine wpAnyH_ready (rs := [10]) (by kernel_rfl) (by simp) ?_
            refine (AllReadyH.cons rfl (fun K hK => ?_) AllReadyH.nil)
            · go_simp
              refine (pnew_any D.n _ (by omega)).mono ?_
              rintro e y10 ⟨A10, c10, rfl, hp10, hg10, hn10⟩
              refine hK.out _ _ trivial (fun _ => ?_)
              clear hK K
              (try simp only [Act.put, List.setIfInBounds_toArray, List.set_cons_zero, List.set_cons_succ])
              have HQ7 := Lib.hid (HQ7.out.grew hg10)
              have HQ5 := Lib.hid (HQ5.out.grew hg10)
              have HQ10 := Lib.hid (show NewPool w1 y10 (y5).heap.size D.n A10 c10 from ⟨hp10, fun j hj => Nat.le_trans HG5.out.size (hn10 j hj)⟩)
              have HG10 := Lib.hid (Grew.trans HG5.out hg10)
              clear hp10 hg10 hn10
              refine wpAnyH_take (i := 11) (v := ?_) rfl (by kernel_rfl) (by kernel_rfl) (by kernel_rfl) (fun _ _ _ h => h) (Or.inl ⟨by rfl, ?_⟩) trivial ?_
              rotate_left
              · (intro w hSw; (try dsimp only at hSw); go_simp) <;> with_reducible rfl
              (try simp only [Act.put, List.setIfInBounds_toArray, List.set_cons_zero, List.set_cons_succ])
              refine wpAnyH_ready (rs := [12]) (by kernel_rfl) (by simp) ?_
              refine AllReadyH.cons rfl (fun K hK => ?_) AllReadyH.nil
              go_simp
              refine hK.out _ _ trivial (fun _ => ?_)
              clear hK K
              (try simp only [Act.put, List.setIfInBounds_toArray, List.set_cons_zero, List.set_cons_succ])
              refine wpAnyH_ready (rs := [13]) (by kernel_rfl) (by simp) ?_
              refine AllReadyH.cons rfl (fun K hK => ?_) AllReadyH.nil
              go_simp
              refine hK.out _ _ trivial (fun _ => ?_)
              clear hK K
              (try simp only [Act.put, List.setIfInBounds_toArray, List.set_cons_zero, List.set_cons_succ])
              refine wpAnyH_done (by kernel_rfl) ?_ _
              go_wp2
              go_meet
              exact openJ_mk (by first | exact ew3 | omega) HQ5.out HQ7.out HD.out HQ10.out HG10.out
          · go_simp
            refine (pnew_any D.n _ (by omega)).mono ?_
            rintro e y10 ⟨A10, c10, rfl, hp10, hg10, hn10⟩
            refine hK.out _ _ trivial (fun _ => ?_)
            clear hK K
            (try simp only [Act.put, List.setIfInBounds_toArray, List.set_cons_zero, List.set_cons_succ])
            have HQ7 := Lib.hid (HQ7.out.grew hg10)
            have HLT7 := Lib.hid (Nat.lt_of_lt_of_le HLT7.out hg10.size)
            have HQ10 := Lib.hid (show NewPool w1 y10 (y7).heap.size D.n A10 c10 from ⟨hp10, fun j hj => Nat.le_trans HG7.out.size (hn10 j hj)⟩)
            have HG10 := Lib.hid (Grew.trans HG7.out hg10)
            clear hp10 hg10 hn10
            clear hr5 hB5 hG5 hs5 y5
            obtain ⟨y5, hr5, hB5, hG5, hs5⟩ := make_ints (tabN D.n D.sz) (y10) (by omega)
            refine wpAnyH_ready (rs := [5]) (by kernel_rfl) (by simp) ?_
            refine (AllReadyH.cons rfl (fun K hK => ?_) AllReadyH.nil)
            · go_simp
              refine hK.out _ _ trivial (fun _ => ?_)
              clear hK K
              (try simp only [Act.put, List.setIfInBounds_toArray, List.set_cons_zero, List.set_cons_succ])
              have HQ7 := Lib.hid (HQ7.out.grew hG5)
              have HQ10 := Lib.hid (HQ10.out.grew hG5)
              have HQ5 := Lib.hid (show NewInts w1 y5 (y10).heap.size (tabN D.n D.sz) from ⟨hB5, HG10.out.size⟩)
              have HD := Lib.hid (show (y10).heap.size ≠ (w1.drew).heap.size from Ne.symm (Nat.ne_of_lt HLT7.out))
              have HG5 := Lib.hid (Grew.trans HG10.out hG5)
              clear hr5 hB5 hG5 hs5
              refine wpAnyH_take (i := 11) (v := ?_) rfl (by kernel_rfl) (by kernel_rfl) (by kernel_rfl) (fun _ _ _ h => h) (Or.inl ⟨by rfl, ?_⟩) trivial ?_
              rotate_left
              · (intro w hSw; (try dsimp only at hSw); go_simp) <;> with_reducible rfl
              (try simp only [Act.put, List.setIfInBounds_toArray, List.set_cons_zero, List.set_cons_succ])
              refine wpAnyH_ready (rs := [12]) (by kernel_rfl) (by simp) ?_
              refine AllReadyH.cons rfl (fun K hK => ?_) AllReadyH.nil
              go_simp
              refine hK.out _ _ trivial (fun _ => ?_)
              clear hK K
              (try simp only [Act.put, List.setIfInBounds_toArray, List.set_cons_zero, List.set_cons_succ])
              refine wpAnyH_ready (rs := [13]) (by kernel_rfl) (by simp) ?_
              refine AllReadyH.cons rfl (fun K hK => ?_) AllReadyH.nil
              go_simp
              refine hK.out _ _ trivial (fun _ => ?_)
              clear hK K
              (try simp only [Act.put, List.setIfInBounds_toArray, List.set_cons_zero, List.set_cons_succ])
              refine wpAnyH_done (by kernel_rfl) ?_ _
              go_wp2
              go_meet
              exact openJ_mk (by first | exact ew3 | omega) HQ5.out HQ7.out HD.out HQ10.out HG5.out
        · go_simp
          refine (pnew_any D.n _ (by omega)).mono ?_
          rintro e y10 ⟨A10, c10, rfl, hp10, hg10, hn10⟩
          refine hK.out _ _ trivial (fun _ => ?_)
          clear hK K
          (try simp only [Act.put, List.setIfInBounds_toArray, List.set_cons_zero, List.set_cons_succ])
          have HQ10 := Lib.hid (show NewPool w1 y10 (w1.drew).heap.size D.n A10 c10 from ⟨hp10, fun j hj => Nat.le_trans HG0.out.size (hn10 j hj)⟩)
          have HG10 := Lib.hid (Grew.trans HG0.out hg10)
          clear hp10 hg10 hn10
          clear hr5 hB5 hG5 hs5 y5 hr7 hB7 hG7 hs7 y7
          obtain ⟨y5, hr5, hB5, hG5, hs5⟩ := make_ints (tabN D.n D.sz) (y10) (by omega)
          obtain ⟨y7, hr7, hB7, hG7, hs7⟩ := make_ints (capN D.n D.sz) (y10) (by omega)
          refine wpAnyH_ready (rs := [5, 7]) (by kernel_rfl) (by simp) ?_
          refine (AllReadyH.cons rfl (fun K hK => ?_) (AllReadyH.cons rfl (fun K hK => ?_) AllReadyH.nil))
          · go_simp
            refine hK.out _ _ trivial (fun _ => ?_)
            clear hK K
            (try simp only [Act.put, List.setIfInBounds_toArray, List.set_cons_zero, List.set_cons_succ])
            have HQ10 := Lib.hid (HQ10.out.grew hG5)
            have HQ5 := Lib.hid (show NewInts w1 y5 (y10).heap.size (tabN D.n D.sz) from ⟨hB5, HG10.out.size⟩)
            have HLT5 := Lib.hid (show (y10).heap.size < y5.heap.size from HQ5.out.1.lt)
            have HG5 := Lib.hid (Grew.trans HG10.out hG5)
            clear hr5 hB5 hG5 hs5 hr7 hB7 hG7 hs7 y7
            obtain ⟨y7, hr7, hB7, hG7, hs7⟩ := make_ints (capN D.n D.sz) (y5) (by omega)
            refine wpAnyH_ready (rs := [7]) (by kernel_rfl) (by simp) ?_
            refine (AllReadyH.cons rfl (fun K hK => ?_) AllReadyH.nil)
            · go_simp
              refine hK.out _ _ trivial (fun _ => ?_)
              clear hK K
              (try simp only [Act.put, List.setIfInBounds_toArray, List.set_cons_zero, List.set_cons_succ])
              have HQ10 := Lib.hid (HQ10.out.grew hG7)
              have HQ5 := Lib.hid (HQ5.out.grew hG7)
              have HQ7 := Lib.hid (show NewInts w1 y7 (y5).heap.size (capN D.n D.sz) from ⟨hB7, HG5.out.size⟩)
              have HD := Lib.hid (show (y10).heap.size ≠ (y5).heap.size from Nat.ne_of_lt HLT5.out)
              have HG7 := Lib.hid (Grew.trans HG5.out hG7)
              clear hr7 hB7 hG7 hs7
              refine wpAnyH_take (i := 11) (v := ?_) rfl (by kernel_rfl) (by kernel_rfl) (by kernel_rfl) (fun _ _ _ h => h) (Or.inl ⟨by rfl, ?_⟩) trivial ?_
              rotate_left
              · (intro w hSw; (try dsimp only at hSw); go_simp) <;> with_reducible rfl
              (try simp only [Act.put, List.setIfInBounds_toArray, List.set_cons_zero, List.set_cons_succ])
              refine wpAnyH_ready (rs := [12]) (by kernel_rfl) (by simp) ?_
              refine AllReadyH.cons rfl (fun K hK => ?_) AllReadyH.nil
              go_simp
              refine hK.out _ _ trivial (fun _ => ?_)
              clear hK K
              (try simp only [Act.put, List.setIfInBounds_toArray, List.set_cons_zero, List.set_cons_succ])
              refine wpAnyH_ready (rs := [13]) (by kernel_rfl) (by simp) ?_
              refine AllReadyH.cons rfl (fun K hK => ?_) AllReadyH.nil
              go_simp
              refine hK.out _ _ trivial (fun _ => ?_)
              clear hK K
              (try simp only [Act.put, List.setIfInBounds_toArray, List.set_cons_zero, List.set_cons_succ])
              refine wpAnyH_done (by kernel_rfl) ?_ _
              go_wp2
              go_meet
              exact openJ_mk (by first | exact ew3 | omega) HQ5.out HQ7.out HD.out HQ10.out HG7.out
          · go_simp
            refine hK.out _ _ trivial (fun _ => ?_)
            clear hK K
            (try simp only [Act.put, List.setIfInBounds_toArray, List.set_cons_zero, List.set_cons_succ])
            have HQ10 := Lib.hid (HQ10.out.grew hG7)
            have HQ7 := Lib.hid (show NewInts w1 y7 (y10).heap.size (capN D.n D.sz) from ⟨hB7, HG10.out.size⟩)
            have HLT7 := Lib.hid (show (y10).heap.size < y7.heap.size from HQ7.out.1.lt)
            have HG7 := Lib.hid (Grew.trans HG10.out hG7)
            clear hr7 hB7 hG7 hs7 hr5 hB5 hG5 hs5 y5
            obtain ⟨y5, hr5, hB5, hG5, hs5⟩ := make_ints (tabN D.n D.sz) (y7) (by omega)
            refine wpAnyH_ready (rs := [5]) (by kernel_rfl) (by simp) ?_
            refine (AllReadyH.cons rfl (fun K hK => ?_) AllReadyH.nil)
            · go_simp
              refine hK.out _ _ trivial (fun _ => ?_)
              clear hK K
              (try simp only [Act.put, List.setIfInBounds_toArray, List.set_cons_zero, List.set_cons_succ])
              have HQ10 := Lib.hid (HQ10.out.grew hG5)
              have HQ7 := Lib.hid (HQ7.out.grew hG5)
              have HQ5 := Lib.hid (show NewInts w1 y5 (y7).heap.size (tabN D.n D.sz) from ⟨hB5, HG7.out.size⟩)
              have HD := Lib.hid (show (y7).heap.size ≠ (y10).heap.size from Ne.symm (Nat.ne_of_lt HLT7.out))
              have HG5 := Lib.hid (Grew.trans HG7.out hG5)
              clear hr5 hB5 hG5 hs5
              refine wpAnyH_take (i := 11) (v := ?_) rfl (by kernel_rfl) (by kernel_rfl) (by kernel_rfl) (fun _ _ _ h => h) (Or.inl ⟨by rfl, ?_⟩) trivial ?_
              rotate_left
              · (intro w hSw; (try dsimp only at hSw); go_simp) <;> with_reducible rfl
              (try simp only [Act.put, List.setIfInBounds_toArray, List.set_cons_zero, List.set_cons_succ])
              refine wpAnyH_ready (rs := [12]) (by kernel_rfl) (by simp) ?_
              refine AllReadyH.cons rfl (fun K hK => ?_) AllReadyH.nil
              go_simp
              refine hK.out _ _ trivial (fun _ => ?_)
              clear hK K
              (try simp only [Act.put, List.setIfInBounds_toArray, List.set_cons_zero, List.set_cons_succ])
              refine wpAnyH_ready (rs := [13]) (by kernel_rfl) (by simp) ?_
              refine AllReadyH.cons rfl (fun K hK => ?_) AllReadyH.nil
              go_simp
              refine hK.out _ _ trivial (fun _ => ?_)
              clear hK K
              (try simp only [Act.put, List.setIfInBounds_toArray, List.set_cons_zero, List.set_cons_succ])
              refine wpAnyH_done (by kernel_rfl) ?_ _
              go_wp2
              go_meet
              exact openJ_mk (by first | exact ew3 | omega) HQ5.out HQ7.out HD.out HQ10.out HG5.out
    · go_simp
      refine hK.out _ _ trivial (fun _ => ?_)
      clear hK K
      (try simp only [Act.put, List.setIfInBounds_toArray, List.set_cons_zero, List.set_cons_succ])
      have HQ5 := Lib.hid (show NewInts w1 y5 (w1.drew).heap.size (tabN D.n D.sz) from ⟨hB5, HG0.out.size⟩)
      have HLT5 := Lib.hid (show (w1.drew).heap.size < y5.heap.size from HQ5.out.1.lt)
      have HG5 := Lib.hid (Grew.trans HG0.out hG5)
      clear hr5 hB5 hG5 hs5 hr7 hB7 hG7 hs7 y7
      obtain ⟨y7, hr7, hB7, hG7, hs7⟩ := make_ints (capN D.n D.sz) (y5) (by omega)
      refine wpAnyH_ready (rs := [2, 7]) (by kernel_rfl) (by simp) ?_
      refine (AllReadyH.cons rfl (fun K hK => ?_) (AllReadyH.cons rfl (fun K hK => ?_) AllReadyH.nil))
      · go_simp
        refine (dsize_any d F D _ (H.out.1.grew (Grew.trans HG1.out HG5.out))).mono ?_
        rintro e u2 ⟨rfl, rfl⟩
        refine hK.out _ _ trivial (fun _ => ?_)
        clear hK K
        (try simp only [Act.put, List.setIfInBounds_toArray, List.set_cons_zero, List.set_cons_succ])
        clear hr7 hB7 hG7 hs7 y7
        refine wpAnyH_take (i := 3) (v := ?_) rfl (by kernel_rfl) (by kernel_rfl) (by kernel_rfl) (fun _ _ _ h => h) (Or.inl ⟨by rfl, ?_⟩) trivial ?_
        rotate_left
        · (intro w hSw; (try dsimp only at hSw); go_simp) <;> with_reducible rfl
        (try simp only [Act.put, List.setIfInBounds_toArray, List.set_cons_zero, List.set_cons_succ])
        obtain ⟨y7, hr7, hB7, hG7, hs7⟩ := make_ints (capN D.n D.sz) (y5) (by omega)
        refine wpAnyH_ready (rs := [7, 9]) (by kernel_rfl) (by simp) ?_
        refine (AllReadyH.cons rfl (fun K hK => ?_) (AllReadyH.cons rfl (fun K hK => ?_) AllReadyH.nil))
        · go_simp
          refine hK.out _ _ trivial (fun _ => ?_)
          clear hK K
          (try simp only [Act.put, List.setIfInBounds_toArray, List.set_cons_zero, List.set_cons_succ])
          have HQ5 := Lib.hid (HQ5.out.grew hG7)
          have HQ7 := Lib.hid (show NewInts w1 y7 (y5).heap.size (capN D.n D.sz) from ⟨hB7, HG5.out.size⟩)
          have HD := Lib.hid (show (w1.drew).heap.size ≠ (y5).heap.size from Nat.ne_of_lt HLT5.out)
          have HG7 := Lib.hid (Grew.trans HG5.out hG7)
          clear hr7 hB7 hG7 hs7
          refine wpAnyH_ready (rs := [9]) (by kernel_rfl) (by simp) ?_
          refine (AllReadyH.cons rfl (fun K hK => ?_) AllReadyH.nil)
          · go_simp
            refine (dsectors_any d F D _ (H.out.1.grew (Grew.trans HG1.out HG7.out))).mono ?_
            rintro e u2 ⟨rfl, rfl⟩
            refine hK.out _ _ trivial (fun _ => ?_)
            clear hK K
            (try simp only [Act.put, List.setIfInBounds_toArray, List.set_cons_zero, List.set_cons_succ])
            refine wpAnyH_ready (rs := [10]) (by kernel_rfl) (by simp) ?_
            refine (AllReadyH.cons rfl (fun K hK => ?_) AllReadyH.nil)
            · go_simp
              refine (pnew_any D.n _ (by omega)).mono ?_
              rintro e y10 ⟨A10, c10, rfl, hp10, hg10, hn10⟩
              refine hK.out _ _ trivial (fun _ => ?_)
              clear hK K
              (try simp only [Act.put, List.setIfInBounds_toArray, List.set_cons_zero, List.set_cons_succ])
              have HQ5 := Lib.hid (HQ5.out.grew hg10)
              have HQ7 := Lib.hid (HQ7.out.grew hg10)
              have HQ10 := Lib.hid (show NewPool w1 y10 (y7).heap.size D.n A10 c10 from ⟨hp10, fun j hj => Nat.le_trans HG7.out.size (hn10 j hj)⟩)
              have HG10 := Lib.hid (Grew.trans HG7.out hg10)
              clear hp10 hg10 hn10
              refine wpAnyH_take (i := 11) (v := ?_) rfl (by kernel_rfl) (by kernel_rfl) (by kernel_rfl) (fun _ _ _ h => h) (Or.inl ⟨by rfl, ?_⟩) trivial ?_
              rotate_left
              · (intro w hSw; (try dsimp only at hSw); go_simp) <;> with_reducible rfl
              (try simp only [Act.put, List.setIfInBounds_toArray, List.set_cons_zero, List.set_cons_succ])
              refine wpAnyH_ready (rs := [12]) (by kernel_rfl) (by simp) ?_
              refine AllReadyH.cons rfl (fun K hK => ?_) AllReadyH.nil
              go_simp
              refine hK.out _ _ trivial (fun _ => ?_)
              clear hK K
              (try simp only [Act.put, List.setIfInBounds_toArray, List.set_cons_zero, List.set_cons_succ])
              refine wpAnyH_ready (rs := [13]) (by kernel_rfl) (by simp) ?_
              refine AllReadyH.cons rfl (fun K hK => ?_) AllReadyH.nil
              go_simp
              refine hK.out _ _ trivial (fun _ => ?_)
              clear hK K
              (try simp only [Act.put, List.setIfInBounds_toArray, List.set_cons_zero, List.set_cons_succ])
              refine wpAnyH_done (by kernel_rfl) ?_ _
              go_wp2
              go_meet
              exact openJ_mk (by first | exact ew3 | omega) HQ5.out HQ7.out HD.out HQ10.out HG10.out
        · go_simp
          refine (dsectors_any d F D _ (H.out.1.grew (Grew.trans HG1.out HG5.out))).mono ?_
          rintro e u2 ⟨rfl, rfl⟩
          refine hK.out _ _ trivial (fun _ => ?_)
          clear hK K
          (try simp only [Act.put, List.setIfInBounds_toArray, List.set_cons_zero, List.set_cons_succ])
          clear hr7 hB7 hG7 hs7 y7
          obtain ⟨y7, hr7, hB7, hG7, hs7⟩ := make_ints (capN D.n D.sz) (y5) (by omega)
          refine wpAnyH_ready (rs := [7, 10]) (by kernel_rfl) (by simp) ?_
          refine (AllReadyH.cons rfl (fun K hK => ?_) (AllReadyH.cons rfl (fun K hK => ?_) AllReadyH.nil))
          · go_simp
            refine hK.out _ _ trivial (fun _ => ?_)
            clear hK K
            (try simp only [Act.put, List.setIfInBounds_toArray, List.set_cons_zero, List.set_cons_succ])
            have HQ5 := Lib.hid (HQ5.out.grew hG7)
            have HQ7 := Lib.hid (show NewInts w1 y7 (y5).heap.size (capN D.n D.sz) from ⟨hB7, HG5.out.size⟩)
            have HD := Lib.hid (show (w1.drew).heap.size ≠ (y5).heap.size from Nat.ne_of_lt HLT5.out)
            have HG7 := Lib.hid (Grew.trans HG5.out hG7)
            clear hr7 hB7 hG7 hs7
            refine wpAnyH_ready (rs := [10]) (by kernel_rfl) (by simp) ?_
            refine (AllReadyH.cons rfl (fun K hK => ?_) AllReadyH.nil)
            · go_simp
              refine (pnew_any D.n _ (by omega)).mono ?_
              rintro e y10 ⟨A10, c10, rfl, hp10, hg10, hn10⟩
              refine hK.out _ _ trivial (fun _ => ?_)
              clear hK K
              (try simp only [Act.put, List.setIfInBounds_toArray, List.set_cons_zero, List.set_cons_succ])
              have HQ5 := Lib.hid (HQ5.out.grew hg10)
              have HQ7 := Lib.hid (HQ7.out.grew hg10)
              have HQ10 := Lib.hid (show NewPool w1 y10 (y7).heap.size D.n A10 c10 from ⟨hp10, fun j hj => Nat.le_trans HG7.out.size (hn10 j hj)⟩)
              have HG10 := Lib.hid (Grew.trans HG7.out hg10)
              clear hp10 hg10 hn10
              refine wpAnyH_take (i := 11) (v := ?_) rfl (by kernel_rfl) (by kernel_rfl) (by kernel_rfl) (fun _ _ _ h => h) (Or.inl ⟨by rfl, ?_⟩) trivial ?_
              rotate_left
              · (intro w hSw; (try dsimp only at hSw); go_simp) <;> with_reducible rfl
              (try simp only [Act.put, List.setIfInBounds_toArray, List.set_cons_zero, List.set_cons_succ])
              refine wpAnyH_ready (rs := [12]) (by kernel_rfl) (by simp) ?_
              refine AllReadyH.cons rfl (fun K hK => ?_) AllReadyH.nil
              go_simp
              refine hK.out _ _ trivial (fun _ => ?_)
              clear hK K
              (try simp only [Act.put, List.setIfInBounds_toArray, List.set_cons_zero, List.set_cons_succ])
              refine wpAnyH_ready (rs := [13]) (by kernel_rfl) (by simp) ?_
              refine AllReadyH.cons rfl (fun K hK => ?_) AllReadyH.nil
              go_simp
              refine hK.out _ _ trivial (fun _ => ?_)
              clear hK K
              (try simp only [Act.put, List.setIfInBounds_toArray, List.set_cons_zero, List.set_cons_succ])
              refine wpAnyH_done (by kernel_rfl) ?_ _
              go_wp2
              go_meet
              exact openJ_mk (by first | exact ew3 | omega) HQ5.out HQ7.out HD.out HQ10.out HG10.out
          · go_simp
            refine (pnew_any D.n _ (by omega)).mono ?_
            rintro e y10 ⟨A10, c10, rfl, hp10, hg10, hn10⟩
            refine hK.out _ _ trivial (fun _ => ?_)
            clear hK K
            (try simp only [Act.put, List.setIfInBounds_toArray, List.set_cons_zero, List.set_cons_succ])
            have HQ5 := Lib.hid (HQ5.out.grew hg10)
            have HLT5 := Lib.hid (Nat.lt_of_lt_of_le HLT5.out hg10.size)
            have HQ10 := Lib.hid (show NewPool w1 y10 (y5).heap.size D.n A10 c10 from ⟨hp10, fun j hj => Nat.le_trans HG5.out.size (hn10 j hj)⟩)
            have HG10 := Lib.hid (Grew.trans HG5.out hg10)
            clear hp10 hg10 hn10
            clear hr7 hB7 hG7 hs7 y7
            obtain ⟨y7, hr7, hB7, hG7, hs7⟩ := make_ints (capN D.n D.sz) (y10) (by omega)
            refine wpAnyH_ready (rs := [7]) (by kernel_rfl) (by simp) ?_
            refine (AllReadyH.cons rfl (fun K hK => ?_) AllReadyH.nil)
            · go_simp
              refine hK.out _ _ trivial (fun _ => ?_)
              clear hK K
              (try simp only [Act.put, List.setIfInBounds_toArray, List.set_cons_zero, List.set_cons_succ])
              have HQ5 := Lib.hid (HQ5.out.grew hG7)
              have HQ10 := Lib.hid (HQ10.out.grew hG7)
              have HQ7 := Lib.hid (show NewInts w1 y7 (y10).heap.size (capN D.n D.sz) from ⟨hB7, HG10.out.size⟩)
              have HD := Lib.hid (show (w1.drew).heap.size ≠ (y10).heap.size from Nat.ne_of_lt HLT5.out)
              have HG7 := Lib.hid (Grew.trans HG10.out hG7)
              clear hr7 hB7 hG7 hs7
              refine wpAnyH_take (i := 11) (v := ?_) rfl (by kernel_rfl) (by kernel_rfl) (by kernel_rfl) (fun _ _ _ h => h) (Or.inl ⟨by rfl, ?_⟩) trivial ?_
              rotate_left
              · (intro w hSw; (try dsimp only at hSw); go_simp) <;> with_reducible rfl
              (try simp only [Act.put, List.setIfInBounds_toArray, List.set_cons_zero, List.set_cons_succ])
              refine wpAnyH_ready (rs := [12]) (by kernel_rfl) (by simp) ?_
              refine AllReadyH.cons rfl (fun K hK => ?_) AllReadyH.nil
              go_simp
              refine hK.out _ _ trivial (fun _ => ?_)
              clear hK K
              (try simp only [Act.put, List.setIfInBounds_toArray, List.set_cons_zero, List.set_cons_succ])
              refine wpAnyH_ready (rs := [13]) (by kernel_rfl) (by simp) ?_
              refine AllReadyH.cons rfl (fun K hK => ?_) AllReadyH.nil
              go_simp
              refine hK.out _ _ trivial (fun _ => ?_)
              clear hK K
              (try simp only [Act.put, List.setIfInBounds_toArray, List.set_cons_zero, List.set_cons_succ])
              refine wpAnyH_done (by kernel_rfl) ?_ _
              go_wp2
              go_meet
              exact openJ_mk (by first | exact ew3 | omega) HQ5.out HQ7.out HD.out HQ10.out HG7.out
      · go_simp
        refine hK.out _ _ trivial (fun _ => ?_)
        clear hK K
        (try simp only [Act.put, List.setIfInBounds_toArray, List.set_cons_zero, List.set_cons_succ])
        have HQ5 := Lib.hid (HQ5.out.grew hG7)
        have HQ7 := Lib.hid (show NewInts w1 y7 (y5).heap.size (capN D.n D.sz) from ⟨hB7, HG5.out.size⟩)
        have HD := Lib.hid (show (w1.drew).heap.size ≠ (y5).heap.size from Nat.ne_of_lt HLT5.out)
        have HG7 := Lib.hid (Grew.trans HG5.out hG7)
        clear hr7 hB7 hG7 hs7
        refine wpAnyH_ready (rs := [2]) (by kernel_rfl) (by simp) ?_
        refine (AllReadyH.cons rfl (fun K hK => ?_) AllReadyH.nil)
        · go_simp
          refine (dsize_any d F D _ (H.out.1.grew (Grew.trans HG1.out HG7.out))).mono ?_
          rintro e u2 ⟨rfl, rfl⟩
          refine hK.out _ _ trivial (fun _ => ?_)
          clear hK K
          (try simp only [Act.put, List.setIfInBounds_toArray, List.set_cons_zero, List.set_cons_succ])
          refine wpAnyH_take (i := 3) (v := ?_) rfl (by kernel_rfl) (by kernel_rfl) (by kernel_rfl) (fun _ _ _ h => h) (Or.inl ⟨by rfl, ?_⟩) trivial ?_
          rotate_left
          · (intro w hSw; (try dsimp only at hSw); go_simp) <;> with_reducible rfl
          (try simp only [Act.put, List.setIfInBounds_toArray, List.set_cons_zero, List.set_cons_succ])
          refine wpAnyH_ready (rs := [9]) (by kernel_rfl) (by simp) ?_
          refine (AllReadyH.cons rfl (fun K hK => ?_) AllReadyH.nil)
          · go_simp
            refine (dsectors_any d F D _ (H.out.1.grew (Grew.trans HG1.out HG7.out))).mono ?_
            rintro e u2 ⟨rfl, rfl⟩
            refine hK.out _ _ trivial (fun _ => ?_)
            clear hK K
            (try simp only [Act.put, List.setIfInBounds_toArray, List.set_cons_zero, List.set_cons_succ])
            refine wpAnyH_ready (rs := [10]) (by kernel_rfl) (by simp) ?_
            refine (AllReadyH.cons rfl (fun K hK => ?_) AllReadyH.nil)
            · go_simp
              refine (pnew_any D.n _ (by omega)).mono ?_
              rintro e y10 ⟨A10, c10, rfl, hp10, hg10, hn10⟩
              refine hK.out _ _ trivial (fun _ => ?_)
              clear hK K
              (try simp only [Act.put, List.setIfInBounds_toArray, List.set_cons_zero, List.set_cons_succ])
              have HQ5 := Lib.hid (HQ5.out.grew hg10)
              have HQ7 := Lib.hid (HQ7.out.grew hg10)
              have HQ10 := Lib.hid (show NewPool w1 y10 (y7).heap.size D.n A10 c10 from ⟨hp10, fun j hj => Nat.le_trans HG7.out.size (hn10 j hj)⟩)
              have HG10 := Lib.hid (Grew.trans HG7.out hg10)
              clear hp10 hg10 hn10
              refine wpAnyH_take (i := 11) (v := ?_) rfl (by kernel_rfl) (by kernel_rfl) (by kernel_rfl) (fun _ _ _ h => h) (Or.inl ⟨by rfl, ?_⟩) trivial ?_
              rotate_left
              · (intro w hSw; (try dsimp only at hSw); go_simp) <;> with_reducible rfl
              (try simp only [Act.put, List.setIfInBounds_toArray, List.set_cons_zero, List.set_cons_succ])
              refine wpAnyH_ready (rs := [12]) (by kernel_rfl) (by simp) ?_
              refine AllReadyH.cons rfl (fun K hK => ?_) AllReadyH.nil
              go_simp
              refine hK.out _ _ trivial (fun _ => ?_)
              clear hK K
              (try simp only [Act.put, List.setIfInBounds_toArray, List.set_cons_zero, List.set_cons_succ])
              refine wpAnyH_ready (rs := [13]) (by kernel_rfl) (by simp) ?_
              refine AllReadyH.cons rfl (fun K hK => ?_) AllReadyH.nil
              go_simp
              refine hK.out _ _ trivial (fun _ => ?_)
              clear hK K
              (try simp only [Act.put, List.setIfInBounds_toArray, List.set_cons_zero, List.set_cons_succ])
              refine wpAnyH_done (by kernel_rfl) ?_ _
              go_wp2
              go_meet
              exact openJ_mk (by first | exact ew3 | omega) HQ5.out HQ7.out HD.out HQ10.out HG10.out
    · go_simp
      refine hK.out _ _ trivial (fun _ => ?_)
      clear hK K
      (try simp only [Act.put, List.setIfInBounds_toArray, List.set_cons_zero, List.set_cons_succ])
      have HQ7 := Lib.hid (show NewInts w1 y7 (w1.drew).heap.size (capN D.n D.sz) from ⟨hB7, HG0.out.size⟩)
      have HLT7 := Lib.hid (show (w1.drew).heap.size < y7.heap.size from HQ7.out.1.lt)
      have HG7 := Lib.hid (Grew.trans HG0.out hG7)
      clear hr7 hB7 hG7 hs7 hr5 hB5 hG5 hs5 y5
      obtain ⟨y5, hr5, hB5, hG5, hs5⟩ := make_ints (tabN D.n D.sz) (y7) (by omega)
      refine wpAnyH_ready (rs := [2, 5]) (by kernel_rfl) (by simp) ?_
      refine (AllReadyH.cons rfl (fun K hK => ?_) (AllReadyH.cons rfl (fun K hK => ?_) AllReadyH.nil))
      · go_simp
        refine (dsize_any d F D _ (H.out.1.grew (Grew.trans HG1.out HG7.out))).mono ?_
        rintro e u2 ⟨rfl, rfl⟩
        refine hK.out _ _ trivial (fun _ => ?_)
        clear hK K
        (try simp only [Act.put, List.setIfInBounds_toArray, List.set_cons_zero, List.set_cons_succ])
        clear hr5 hB5 hG5 hs5 y5
        refine wpAnyH_take (i := 3) (v := ?_) rfl (by kernel_rfl) (by kernel_rfl) (by kernel_rfl) (fun _ _ _ h => h) (Or.inl ⟨by rfl, ?_⟩) trivial ?_
        rotate_left
        · (intro w hSw; (try dsimp only at hSw); go_simp) <;> with_reducible rfl
        (try simp only [Act.put, List.setIfInBounds_toArray, List.set_cons_zero, List.set_cons_succ])
        obtain ⟨y5, hr5, hB5, hG5, hs5⟩ := make_ints (tabN D.n D.sz) (y7) (by omega)
        refine wpAnyH_ready (rs := [5, 9]) (by kernel_rfl) (by simp) ?_
        refine (AllReadyH.cons rfl (fun K hK => ?_) (AllReadyH.cons rfl (fun K hK => ?_) AllReadyH.nil))
        · go_simp
          refine hK.out _ _ trivial (fun _ => ?_)
          clear hK K
          (try simp only [Act.put, List.setIfInBounds_toArray, List.set_cons_zero, List.set_cons_succ])
          have HQ7 := Lib.hid (HQ7.out.grew hG5)
          have HQ5 := Lib.hid (show NewInts w1 y5 (y7).heap.size (tabN D.n D.sz) from ⟨hB5, HG7.out.size⟩)
          have HD := Lib.hid (show (y7).heap.size ≠ (w1.drew).heap.size from Ne.symm (Nat.ne_of_lt HLT7.out))
          have HG5 := Lib.hid (Grew.trans HG7.out hG5)
          clear hr5 hB5 hG5 hs5
          refine wpAnyH_ready (rs := [9]) (by kernel_rfl) (by simp) ?_
          refine (AllReadyH.cons rfl (fun K hK => ?_) AllReadyH.nil)
          · go_simp
            refine (dsectors_any d F D _ (H.out.1.grew (Grew.trans HG1.out HG5.out))).mono ?_
            rintro e u2 ⟨rfl, rfl⟩
            refine hK.out _ _ trivial (fun _ => ?_)
            clear hK K
            (try simp only [Act.put, List.setIfInBounds_toArray, List.set_cons_zero, List.set_cons_succ])
            refine wpAnyH_ready (rs := [10]) (by kernel_rfl) (by simp) ?_
            refine (AllReadyH.cons rfl (fun K hK => ?_) AllReadyH.nil)
            · go_simp
              refine (pnew_any D.n _ (by omega)).mono ?_
              rintro e y10 ⟨A10, c10, rfl, hp10, hg10, hn10⟩
              refine hK.out _ _ trivial (fun _ => ?_)
              clear hK K
              (try simp only [Act.put, List.setIfInBounds_toArray, List.set_cons_zero, List.set_cons_succ])
              have HQ7 := Lib.hid (HQ7.out.grew hg10)
              have HQ5 := Lib.hid (HQ5.out.grew hg10)
              have HQ10 := Lib.hid (show NewPool w1 y10 (y5).heap.size D.n A10 c10 from ⟨hp10, fun j hj => Nat.le_trans HG5.out.size (hn10 j hj)⟩)
              have HG10 := Lib.hid (Grew.trans HG5.out hg10)
              clear hp10 hg10 hn10
              refine wpAnyH_take (i := 11) (v := ?_) rfl (by kernel_rfl) (by kernel_rfl) (by kernel_rfl) (fun _ _ _ h => h) (Or.inl ⟨by rfl, ?_⟩) trivial ?_
              rotate_left
              · (intro w hSw; (try dsimp only at hSw); go_simp) <;> with_reducible rfl
              (try simp only [Act.put, List.setIfInBounds_toArray, List.set_cons_zero, List.set_cons_succ])
              refine wpAnyH_ready (rs := [12]) (by kernel_rfl) (by simp) ?_
              refine AllReadyH.cons rfl (fun K hK => ?_) AllReadyH.nil
              go_simp
              refine hK.out _ _ trivial (fun _ => ?_)
              clear hK K
              (try simp only [Act.put, List.setIfInBounds_toArray, List.set_cons_zero, List.set_cons_succ])
              refine wpAnyH_ready (rs := [13]) (by kernel_rfl) (by simp) ?_
              refine AllReadyH.cons rfl (fun K hK => ?_) AllReadyH.nil
              go_simp
              refine hK.out _ _ trivial (fun _ => ?_)
              clear hK K
              (try simp only [Act.put, List.setIfInBounds_toArray, List.set_cons_zero, List.set_cons_succ])
              refine wpAnyH_done (by kernel_rfl) ?_ _
              go_wp2
              go_meet
              exact openJ_mk (by first | exact ew3 | omega) HQ5.out HQ7.out HD.out HQ10.out HG10.out
        · go_simp
          refine (dsectors_any d F D _ (H.out.1.grew (Grew.trans HG1.out HG7.out))).mono ?_
          rintro e u2 ⟨rfl, rfl⟩
          refine hK.out _ _ trivial (fun _ => ?_)
          clear hK K
          (try simp only [Act.put, List.setIfInBounds_toArray, List.set_cons_zero, List.set_cons_succ])
          clear hr5 hB5 hG5 hs5 y5
          obtain ⟨y5, hr5, hB5, hG5, hs5⟩ := make_ints (tabN D.n D.sz) (y7) (by omega)
          refine wpAnyH_ready (rs := [5, 10]) (by kernel_rfl) (by simp) ?_
          refine (AllReadyH.cons rfl (fun K hK => ?_) (AllReadyH.cons rfl (fun K hK => ?_) AllReadyH.nil))
          · go_simp
            refine hK.out _ _ trivial (fun _ => ?_)
            clear hK K
            (try simp only [Act.put, List.setIfInBounds_toArray, List.set_cons_zero, List.set_cons_succ])
            have HQ7 := Lib.hid (HQ7.out.grew hG5)
            have HQ5 := Lib.hid (show NewInts w1 y5 (y7).heap.size (tabN D.n D.sz) from ⟨hB5, HG7.out.size⟩)
            have HD := Lib.hid (show (y7).heap.size ≠ (w1.drew).heap.size from Ne.symm (Nat.ne_of_lt HLT7.out))
            have HG5 := Lib.hid (Grew.trans HG7.out hG5)
            clear hr5 hB5 hG5 hs5
            refine wpAnyH_ready (rs := [10]) (by kernel_rfl) (by simp) ?_
            refine (AllReadyH.cons rfl (fun K hK => ?_) AllReadyH.nil)
            · go_simp
              refine (pnew_any D.n _ (by omega)).mono ?_
              rintro e y10 ⟨A10, c10, rfl, hp10, hg10, hn10⟩
              refine hK.out _ _ trivial (fun _ => ?_)
              clear hK K
              (try simp only [Act.put, List.setIfInBounds_toArray, List.set_cons_zero, List.set_cons_succ])
              have HQ7 := Lib.hid (HQ7.out.grew hg10)
              have HQ5 := Lib.hid (HQ5.out.grew hg10)
              have HQ10 := Lib.hid (show NewPool w1 y10 (y5).heap.size D.n A10 c10 from ⟨hp10, fun j hj => Nat.le_trans HG5.out.size (hn10 j hj)⟩)
              have HG10 := Lib.hid (Grew.trans HG5.out hg10)
              clear hp10 hg10 hn10
              refine wpAnyH_take (i := 11) (v := ?_) rfl (by kernel_rfl) (by kernel_rfl) (by kernel_rfl) (fun _ _ _ h => h) (Or.inl ⟨by rfl, ?_⟩) trivial ?_
              rotate_left
              · (intro w hSw; (try dsimp only at hSw); go_simp) <;> with_reducible rfl
              (try simp only [Act.put, List.setIfInBounds_toArray, List.set_cons_zero, List.set_cons_succ])
              refine wpAnyH_ready (rs := [12]) (by kernel_rfl) (by simp) ?_
              refine AllReadyH.cons rfl (fun K hK => ?_) AllReadyH.nil
              go_simp
              refine hK.out _ _ trivial (fun _ => ?_)
              clear hK K
              (try simp only [Act.put, List.setIfInBounds_toArray, List.set_cons_zero, List.set_cons_succ])
              refine wpAnyH_ready (rs := [13]) (by kernel_rfl) (by simp) ?_
              refine AllReadyH.cons rfl (fun K hK => ?_) AllReadyH.nil
              go_simp
              refine hK.out _ _ trivial (fun _ => ?_)
              clear hK K
              (try simp only [Act.put, List.setIfInBounds_toArray, List.set_cons_zero, List.set_cons_succ])
              refine wpAnyH_done (by kernel_rfl) ?_ _
              go_wp2
              go_meet
              exact openJ_mk (by first | exact ew3 | omega) HQ5.out HQ7.out HD.out HQ10.out HG10.out
          · go_simp
            refine (pnew_any D.n _ (by omega)).mono ?_
            rintro e y10 ⟨A10, c10, rfl, hp10, hg10, hn10⟩
            refine hK.out _ _ trivial (fun _ => ?_)
            clear hK K
            (try simp only [Act.put, List.setIfInBounds_toArray, List.set_cons_zero, List.set_cons_succ])
            have HQ7 := Lib.hid (HQ7.out.grew hg10)
            have HLT7 := Lib.hid (Nat.lt_of_lt_of_le HLT7.out hg10.size)
            have HQ10 := Lib.hid (show NewPool w1 y10 (y7).heap.size D.n A10 c10 from ⟨hp10, fun j hj => Nat.le_trans HG7.out.size (hn10 j hj)⟩)
            have HG10 := Lib.hid (Grew.trans HG7.out hg10)
            clear hp10 hg10 hn10
            clear hr5 hB5 hG5 hs5 y5
            obtain ⟨y5, hr5, hB5, hG5, hs5⟩ := make_ints (tabN D.n D.sz) (y10) (by omega)
            refine wpAnyH_ready (rs := [5]) (by kernel_rfl) (by simp) ?_
            refine (AllReadyH.cons rfl (fun K hK => ?_) AllReadyH.nil)
            · go_simp
              refine hK.out _ _ trivial (fun _ => ?_)
              clear hK K
              (try simp only [Act.put, List.setIfInBounds_toArray, List.set_cons_zero, List.set_cons_succ])
              have HQ7 := Lib.hid (HQ7.out.grew hG5)
              have HQ10 := Lib.hid (HQ10.out.grew hG5)
              have HQ5 := Lib.hid (show NewInts w1 y5 (y10).heap.size (tabN D.n D.sz) from ⟨hB5, HG10.out.size⟩)
              have HD := Lib.hid (show (y10).heap.size ≠ (w1.drew).heap.size from Ne.symm (Nat.ne_of_lt HLT7.out))
              have HG5 := Lib.hid (Grew.trans HG10.out hG5)
              clear hr5 hB5 hG5 hs5
              refine wpAnyH_take (i := 11) (v := ?_) rfl (by kernel_rfl) (by kernel_rfl) (by kernel_rfl) (fun _ _ _ h => h) (Or.inl ⟨by rfl, ?_⟩) trivial ?_
              rotate_left
              · (intro w hSw; (try dsimp only at hSw); go_simp) <;> with_reducible rfl
              (try simp only [Act.put, List.setIfInBounds_toArray, List.set_cons_zero, List.set_cons_succ])
              refine wpAnyH_ready (rs := [12]) (by kernel_rfl) (by simp) ?_
              refine AllReadyH.cons rfl (fun K hK => ?_) AllReadyH.nil
              go_simp
              refine hK.out _ _ trivial (fun _ => ?_)
              clear hK K
              (try simp only [Act.put, List.setIfInBounds_toArray, List.set_cons_zero, List.set_cons_succ])
              refine wpAnyH_ready (rs := [13]) (by kernel_rfl) (by simp) ?_
              refine AllReadyH.cons rfl (fun K hK => ?_) AllReadyH.nil
              go_simp
              refine hK.out _ _ trivial (fun _ => ?_)
              clear hK K
              (try simp only [Act.put, List.setIfInBounds_toArray, List.set_cons_zero, List.set_cons_succ])
              refine wpAnyH_done (by kernel_rfl) ?_ _
              go_wp2
              go_meet
              exact openJ_mk (by first | exact ew3 | omega) HQ5.out HQ7.out HD.out HQ10.out HG5.out
      · go_simp
        refine hK.out _ _ trivial (fun _ => ?_)
        clear hK K
        (try simp only [Act.put, List.setIfInBounds_toArray, List.set_cons_zero, List.set_cons_succ])
        have HQ7 := Lib.hid (HQ7.out.grew hG5)
        have HQ5 := Lib.hid (show NewInts w1 y5 (y7).heap.size (tabN D.n D.sz) from ⟨hB5, HG7.out.size⟩)
        have HD := Lib.hid (show (y7).heap.size ≠ (w1.drew).heap.size from Ne.symm (Nat.ne_of_lt HLT7.out))
        have HG5 := Lib.hid (Grew.trans HG7.out hG5)
        clear hr5 hB5 hG5 hs5
        refine wpAnyH_ready (rs := [2]) (by kernel_rfl) (by simp) ?_
        refine (AllReadyH.cons rfl (fun K hK => ?_) AllReadyH.nil)
        · go_simp
          refine (dsize_any d F D _ (H.out.1.grew (Grew.trans HG1.out HG5.out))).mono ?_
          rintro e u2 ⟨rfl, rfl⟩
          refine hK.out _ _ trivial (fun _ => ?_)
          clear hK K
          (try simp only [Act.put, List.setIfInBounds_toArray, List.set_cons_zero, List.set_cons_succ])
          refine wpAnyH_take (i := 3) (v := ?_) rfl (by kernel_rfl) (by kernel_rfl) (by kernel_rfl) (fun _ _ _ h => h) (Or.inl ⟨by rfl, ?_⟩) trivial ?_
          rotate_left
          · (intro w hSw; (try dsimp only at hSw); go_simp) <;> with_reducible rfl
          (try simp only [Act.put, List.setIfInBounds_toArray, List.set_cons_zero, List.set_cons_succ])
          refine wpAnyH_ready (rs := [9]) (by kernel_rfl) (by simp) ?_
          refine (AllReadyH.cons rfl (fun K hK => ?_) AllReadyH.nil)
          · go_simp
            refine (dsectors_any d F D _ (H.out.1.grew (Grew.trans HG1.out HG5.out))).mono ?_
            rintro e u2 ⟨rfl, rfl⟩
            refine hK.out _ _ trivial (fun _ => ?_)
            clear hK K
            (try simp only [Act.put, List.setIfInBounds_toArray, List.set_cons_zero, List.set_cons_succ])
            refine wpAnyH_ready (rs := [10]) (by kernel_rfl) (by simp) ?_
            refine (AllReadyH.cons rfl (fun K hK => ?_) AllReadyH.nil)
            · go_simp
              refine (pnew_any D.n _ (by omega)).mono ?_
              rintro e y10 ⟨A10, c10, rfl, hp10, hg10, hn10⟩
              refine hK.out _ _ trivial (fun _ => ?_)
              clear hK K
              (try simp only [Act.put, List.setIfInBounds_toArray, List.set_cons_zero, List.set_cons_succ])
              have HQ7 := Lib.hid (HQ7.out.grew hg10)
              have HQ5 := Lib.hid (HQ5.out.grew hg10)
              have HQ10 := Lib.hid (show NewPool w1 y10 (y5).heap.size D.n A10 c10 from ⟨hp10, fun j hj => Nat.le_trans HG5.out.size (hn10 j hj)⟩)
              have HG10 := Lib.hid (Grew.trans HG5.out hg10)
              clear hp10 hg10 hn10
              refine wpAnyH_take (i := 11) (v := ?_) rfl (by kernel_rfl) (by kernel_rfl) (by kernel_rfl) (fun _ _ _ h => h) (Or.inl ⟨by rfl, ?_⟩) trivial ?_
              rotate_left
              · (intro w hSw; (try dsimp only at hSw); go_simp) <;> with_reducible rfl
              (try simp only [Act.put, List.setIfInBounds_toArray, List.set_cons_zero, List.set_cons_succ])
              refine wpAnyH_ready (rs := [12]) (by kernel_rfl) (by simp) ?_
              refine AllReadyH.cons rfl (fun K hK => ?_) AllReadyH.nil
              go_simp
              refine hK.out _ _ trivial (fun _ => ?_)
              clear hK K
              (try simp only [Act.put, List.setIfInBounds_toArray, List.set_cons_zero, List.set_cons_succ])
              refine wpAnyH_ready (rs := [13]) (by kernel_rfl) (by simp) ?_
              refine AllReadyH.cons rfl (fun K hK => ?_) AllReadyH.nil
              go_simp
              refine hK.out _ _ trivial (fun _ => ?_)
              clear hK K
              (try simp only [Act.put, List.setIfInBounds_toArray, List.set_cons_zero, List.set_cons_succ])
              refine wpAnyH_done (by kernel_rfl) ?_ _
              go_wp2
              go_meet
              exact openJ_mk (by first | exact ew3 | omega) HQ5.out HQ7.out HD.out HQ10.out HG10.out
  case rest =>
    obtain ⟨p, g1, g2, b, A, c, rfl, hO⟩ := hcut
    have HO := Lib.hid hO
    obtain ⟨c0, f0, s0⟩ := hO.blk.facts
    clear hO
    have hdF : ∀ u, Chg (PF b A) wc u → DS u d F D := fun u hu => ((H.out.1.grew HG1.out).grew HO.out.grew).chg hu fun j hj e => by
      have h1 := H.out.1.lt j hj
      have h2 := HO.out.pool.new j e
      have h3 := HG1.out.size
      omega
    have hkeep : ∀ u, Chg (PF b A) wc u → Blk u p 61 #[.pointer (some ⟨d, 0, none⟩), .int .i64 0, .int .i64 (D.sz / 2 : Nat), .slice (some ⟨g1, 0, none⟩) (tabN D.n D.sz) (tabN D.n D.sz), .slice (some ⟨g2, 0, none⟩) (capN D.n D.sz) (capN D.n D.sz), .pointer (some ⟨b, 0, none⟩), .pointer none, .bool false] := fun u hu =>
      HO.out.blk.chg hu (pf_ne HO.out.pool.p HO.out.blk (by decide) (by decide))
    have HD := Lib.hid hdF
    have HK := Lib.hid hkeep
    have HX := Lib.hid (show D.n ≤ 65536 by omega)
    clear hdF hkeep
    go_wp2
    go_loopw [41] (fun i wr => ∃ k : Nat, k ≤ 2 ∧ i = .int .i64 k ∧ PIn wr b (mkd D.n k) A c ∧ Chg (PF b A) wc wr) (fun i _ => 2 - (intOf i).toNat)
    case atStart => exact ⟨0, Nat.zero_le _, rfl, HO.out.pool.p, Chg.refl _ _⟩
    case round =>
      obtain ⟨k, hk, rfl, hp, hc⟩ := hrel
      have HP := Lib.hid (And.intro hp hc)
      obtain ⟨c1, f1, s1⟩ := (HK.out wr hc).facts
      clear c0 f0 s0 hp hc
      by_cases hlt : k < 2
      · go_wp2_with (go_at_call 43; (refine (pmark_any b k _ A c _ HP.out.1 (by rw [mkd_len]; exact HX.out)).mono ?_); rintro e w3 ⟨rfl, h3, h4⟩; have H3 := Lib.hid (And.intro h3 h4); clear h3 h4)
        have H4 := Lib.hid (show PIn w3 b (mkd D.n (k + 1)) A c from by have := H3.out.1; rw [mkd_mark D.n k (by omega)] at this; exact this)
        exact ⟨⟨k + 1, by omega, by simp, H4.out, Chg.trans HP.out.2 H3.out.2 fun _ _ e => e⟩, by simp [intOf]; omega⟩
      · obtain rfl : k = 2 := by omega
        go_wp2_with (go_at_call 44; (refine (load_none d F D _ (HD.out _ HP.out.2) hd (by omega) (by omega) H.out.2.2.1 H.out.2.2.2).mono ?_); rintro e w4 ⟨rfl, h4⟩; have H4 := Lib.hid h4; clear h4)
        go_ret2
        have hg : Grew w1 w4 := Grew.trans (Chg.trans HO.out.grew HP.out.2 fun i hi e => by have := HO.out.pool.new i e; omega) H4.out
        have hsz := HG1.out.size
        obtain ⟨F', hF, hnew⟩ := gfresh_mk (w0 := w1) ((H.out.1.grew HG1.out).grew hg) (fun j hj => Nat.lt_of_lt_of_le (H.out.1.lt j hj) hsz) h0 (Nat.lt_of_lt_of_le (tab_pos H.out.2.1) hsz) (tab_chg (tab_chg H.out.2.1 HG1.out id) hg id) hsm.2.1
          ((HK.out _ HP.out.2).grew H4.out) ((HO.out.t1.blk.chg HP.out.2 (pf_ne HO.out.pool.p HO.out.t1.blk (by decide) (by decide))).grew H4.out) ((HO.out.t2.blk.chg HP.out.2 (pf_ne HO.out.pool.p HO.out.t2.blk (by decide) (by decide))).grew H4.out) HO.out.ne (HP.out.1.grew H4.out)
          HO.out.new HO.out.t1.new HO.out.t2.new HO.out.pool.new
        exact ⟨p, F', rfl, hF.grew ((Chg.refl _ _).alloc _), (Grew.trans HG1.out hg).alloc _, fun j hj => (hnew j hj).imp id fun e => Nat.le_trans hsz e⟩

end Go.Proofs.YtjlfnebkibgfmaaDoor

/- The pager: a new one on a new disk, as its pages are. -/
namespace Go.Proofs.YtjlfnebkibgfmaaDoor
open Go.RowKit Go.Maps

/-- A pager without pages. -/
def Rp.fresh (n sz : Nat) : Rp := { n := n, sz := sz, now := List.replicate (capN n sz) .no, was := none, touched := fun _ => false, epoch := 0 }
theorem rootL_zeros {ep m : Nat} {pg : List Nat} {sz : Nat} (h1 : 1 ≤ ep) (h2 : ep ≤ 1099511627776) (he : List.replicate m 0 = rootL ep pg sz) : False := by
  have hz : ∀ x ∈ tail8 ep, x = 0 := fun x hx => by
    have : x ∈ rootL ep pg sz := List.mem_append_right _ hx
    rw [← he] at this
    exact (List.mem_replicate.1 this).2
  have e0 := hz ((ep / 1099511627776 % 256 : Nat) : Int) (by simp [tail8])
  have e1 := hz ((ep / 4294967296 % 256 : Nat) : Int) (by simp [tail8])
  have e2 := hz ((ep / 16777216 % 256 : Nat) : Int) (by simp [tail8])
  have e3 := hz ((ep / 65536 % 256 : Nat) : Int) (by simp [tail8])
  have e4 := hz ((ep / 256 % 256 : Nat) : Int) (by simp [tail8])
  have e5 := hz ((ep % 256 : Nat) : Int) (by simp [tail8])
  omega
theorem rep_at {n i s : Nat} (h : (List.replicate n 0)[i]? = some s) : s = 0 := by
  rw [List.getElem?_replicate] at h
  split at h <;> simp at h
  exact h.symm
theorem rep_getD (n i : Nat) : (List.replicate n 0).getD i 0 = 0 := by
  rw [List.getD_eq_getElem?_getD]
  cases h : (List.replicate n 0)[i]? with
  | none => rfl
  | some s => rw [rep_at h]; rfl
theorem Gp.fresh_ok (n sz : Nat) (D : Dk) (hD : D = ⟨n, sz, fun _ => List.replicate sz 0, fun _ => none, false, 0, false, 0⟩) (h : 8 ≤ n ∧ n ≤ 4096 ∧ 64 ≤ sz ∧ sz ≤ 4096) : (Gp.fresh D).Ok ∧ (Gp.fresh D).view = Rp.fresh n sz := by
  subst hD
  have hm : ∀ s, s < n → (mkd n 2).getD s false = decide (2 ≤ s) := fun s hs => by rw [mkd_at n 2 s (by omega)]; simp [hs]
  have hcap : capN n sz ≤ 4096 := by unfold capN; split <;> omega
  refine ⟨⟨⟨h, ⟨mkd_len n 2, by simp [Gp.fresh], by simp [Gp.fresh], by simp [Gp.fresh, Gp.old]⟩, fun i s hi => ?_, fun k s hk h0 => absurd (rep_at hk) h0, fun i j s hi _ h2 => ?_, fun i j s hi _ h0 => absurd (rep_at hi) h0, fun k i s hk _ => ?_, fun s hs => ?_, fun s hs => ?_, fun i s hi h2 => ?_, fun i j s hi _ h2 => ?_, ⟨List.nodup_nil, fun s => ?_⟩, fun i hi => absurd rfl hi, fun k hk => ?_, ?_, fun s _ _ => rfl, ⟨fun e => ?_, fun i e' pg' _ hg _ hr => ?_, fun _ s hs => (List.mem_replicate.1 hs).2, fun k _ i _ => rep_getD _ _, fun k s hk h0 => absurd (rep_at hk) h0, fun k s hk h0 => absurd (rep_at hk) h0⟩, fun s _ x hx => ?_, Nat.zero_le _⟩, rfl, ⟨rfl, rfl, rfl⟩⟩, ?_⟩
  · have := rep_at hi; show s < n; omega
  · have := rep_at hi; omega
  · have := rep_at hk; omega
  · show (mkd n 2).getD s false = false ↔ _
    rw [hm s hs]
    constructor
    · intro e; left; simpa using e
    · rintro (e | ⟨k, e⟩ | ⟨k, e⟩ | e)
      · simpa using e
      · have := rep_at e; simp; omega
      · have := rep_at e; simp; omega
      · simp [Gp.fresh, Gp.fr] at e
  · simp [Gp.fresh, Gp.fr] at hs
  · have := rep_at hi; omega
  · have := rep_at hi; omega
  · simp only [Gp.fresh, Gp.lf, List.not_mem_nil, false_iff, not_and, not_exists]
    rintro h2 i hi
    have := rep_at hi
    omega
  · simp [Gp.fresh, Gp.tc] at hk
  · rw [show (Gp.fresh _).tc = fun _ => false from rfl, show cntN (fun _ => false) 64 = 0 from cntN_false fun _ _ => rfl]
    exact Nat.zero_le _
  · simp [Gp.fresh] at e
  · exact (rootL_zeros hg.1 hg.2.1 (show List.replicate sz 0 = _ from hr)).elim
  · have : x = 0 := (List.mem_replicate.1 (show x ∈ List.replicate sz 0 from hx)).2
    omega
  · simp [Gp.view, Rp.fresh, Gp.fresh, Gp.fr, Gp.tc, pk]

theorem gp_open_new (n sz d : Nat) (F : Nat → Prop) (w : World) (h : DS w d F ⟨n, sz, fun _ => List.replicate sz 0, fun _ => none, false, 0, false, 0⟩) (hT : TabAt 0 tab w) (h0 : ¬ F 0) (hn : 8 ≤ n) (hz : 64 ≤ sz) :
    Calls Tryd.prog 20 #[.pointer (some ⟨d, 0, none⟩)] w fun e w' => ∃ p F', e = .returned (.tuple #[.pointer (some ⟨p, 0, none⟩), .int .i64 0]) ∧ GP w' p F' (Rp.fresh n sz) ∧ Grew w w' ∧ ∀ j, F' j → F j ∨ w.heap.size ≤ j := by
  have hs := h.sml
  have hsz : 64 ≤ sz ∧ sz ≤ 4096 := ⟨hz, hs.2.2.2⟩
  have hnn : n ≤ 4096 := hs.2.1
  have hfo := Gp.fresh_ok n sz _ rfl ⟨hn, hnn, hsz⟩
  refine (gopen_new d F _ w h rfl hT h0 hn hz (fun i _ => ?_) (fun i _ x hx => ?_)).mono ?_
  · show partL (List.take (sz - 8) (List.replicate sz 0)) = none
    rw [List.take_replicate, Nat.min_eq_left (by omega)]
    exact part_zeros _ (by omega) (by omega)
  · have : x = 0 := (List.mem_replicate.1 (show x ∈ List.replicate sz 0 from hx)).2
    omega
  · rintro e w' ⟨p, F', rfl, h1, h2, h3⟩
    exact ⟨p, F', rfl, ⟨_, h1, hfo.1, hfo.2⟩, h2, h3⟩

end Go.Proofs.YtjlfnebkibgfmaaDoor

/- The chain's laws: a new pager in an open change; awake. -/
namespace Go.Proofs.YtjlfnebkibgfmaaDoor
open Go.RowKit Go.Maps

/-- The pages of a new pager in an open change. -/
def Rp.open0 (n : Nat) : Rp := (Rp.fresh n 64).begun
set_option maxRecDepth 100000 in
set_option maxHeartbeats 800000 in
theorem fresh_any (n : Nat) (w : World) (hT : TabAt 0 tab w) (h1 : 8 ≤ n) (h2 : n ≤ 4096) :
    Calls Tryd.prog 8 #[.int .i64 n] w fun e w' => ∃ p F, e = .returned (.pointer (some ⟨p, 0, none⟩)) ∧ GP w' p F (Rp.open0 n) ∧ Grew w w' ∧ ∀ j, F j → w.heap.size ≤ j := by
  have H := Lib.hid hT
  clear hT
  go_enter Tryd.func8, Tryd.ntmps8
  go_wp2_with fail
  refine (dnew_any n 64 _ (by omega) h2 (by omega) (by omega)).mono ?_
  rintro e w1 ⟨d, F1, rfl, hd, hg1, hn1⟩
  have hT1 := tab_chg H.out hg1 id
  have hF0 : ¬ F1 0 := fun e => by have := hn1 0 e; have := tab_pos H.out; omega
  have H1 := Lib.hid (And.intro hd (And.intro hg1 (And.intro hn1 (And.intro hT1 hF0))))
  clear hd hg1 hn1 hT1 hF0
  go_wp2_with fail
  refine (gp_open_new n 64 d F1 w1 H1.out.1 H1.out.2.2.2.1 H1.out.2.2.2.2 h1 (by omega)).mono ?_
  rintro e w2 ⟨p, F2, rfl, hp, hg2, hn2⟩
  have H2 := Lib.hid (And.intro hp (And.intro (Grew.trans H1.out.2.1 hg2) (fun j hj => show w.heap.size ≤ j from (hn2 j hj).elim (H1.out.2.2.1 j) fun e => Nat.le_trans H1.out.2.1.size e)))
  clear hp hg2 hn2
  go_wp2_with fail
  refine (gp_begin p F2 _ w2 H2.out.1 rfl).mono ?_
  rintro e w3 ⟨rfl, F3, h3, hc3, hn3⟩
  have H3 := Lib.hid (And.intro h3 (And.intro hc3 hn3))
  clear h3 hc3 hn3
  go_wp2_with fail
  go_ret
  refine ⟨p, F3, rfl, H3.out.1, Chg.trans H2.out.2.1 H3.out.2.1 fun i hi e => by have := H2.out.2.2 i e; omega, fun j hj => (H3.out.2.2 j hj).elim (H2.out.2.2 j) fun e => Nat.le_trans H2.out.2.1.size e⟩

theorem open0_12 : (Rp.open0 12).slack = 9 ∧ (Rp.open0 12).now.countP Pk.used = 0 ∧ (Rp.open0 12).now.length = 10 ∧ (Rp.open0 12).sz = 64 := ⟨by kernel_rfl, by kernel_rfl, by kernel_rfl, rfl⟩
theorem chg_new {F : Nat → Prop} {w w1 w2 : World} (hg : Grew w w1) (hc : Chg F w1 w2) (hn : ∀ j, F j → w.heap.size ≤ j) : Grew w w2 := Chg.trans hg hc fun i hi e => by have := hn i e; omega

set_option maxRecDepth 100000 in
set_option maxHeartbeats 1600000 in
theorem cawake_any (w : World) (hT : TabAt 0 tab w) :
    Calls Tryd.prog 7 #[] w fun e w' => e = .returned (.bool true) ∧ Grew w w' := by
  have H := Lib.hid hT
  have o12 := open0_12
  have HO := Lib.hid o12
  have hneed : ∀ u, Calls Tryd.prog 6 #[.int .i64 60, .int .i64 64] u fun e w' => e = .returned (.int .i64 2) ∧ u = w' := fun u => need_any 60 64 u (by omega) (by omega)
  have HN := Lib.hid hneed
  clear hT o12 hneed
  go_enter Tryd.func7, Tryd.ntmps7
  go_wp2_with fail
  refine (fresh_any 12 _ H.out (by omega) (by omega)).mono ?_
  rintro e w1 ⟨p, F, rfl, hp, hg1, hn1⟩
  obtain ⟨w2, hmk0, ho2, hg2, hz2⟩ := make_bytes 60 w1 (by omega)
  have hmk : (Instr.makeSlice 29 (.int .i64 60) (.int .i64 60)).run Tryd.prog w1 = .ok (.slice (some ⟨w1.heap.size, 0, none⟩) 60 60) w2 := hmk0
  clear hmk0
  have H1 := Lib.hid (And.intro hp (And.intro hg1 (And.intro hn1 (And.intro ho2 (And.intro hg2 hz2)))))
  clear hp hg1 hn1 ho2 hg2 hz2
  go_wp2_with fail
  have hput := cput_any p F (Rp.open0 12) (List.replicate 60 0) w1.heap.size 0 60 w2 (H1.out.1.grew H1.out.2.2.2.2.1) (by simp [Rp.open0, Rp.begun]) (by simp) (by simp) (fun q hq => by have := (List.mem_replicate.1 hq).2; omega) (by simp)
    (by have := Sl.of_own H1.out.2.2.2.1; simpa using this) (fun e => by have := H1.out.1.lt _ e; omega)
  simp only [List.length_replicate] at hput
  refine hput.mono ?_
  clear hput hmk
  rintro e w3 (⟨i0, l, y, rfl, hi0, hto, hrel⟩ | ⟨y, rfl, -, -, hne⟩)
  · obtain ⟨F3, hp3, hc3, hn3⟩ := hto
    have hln : l.length = 2 := by rw [hrel.stands.len, hrel.like.sz]; simp [partsN, HO.out.2.2.2]
    have H3 := Lib.hid (And.intro hp3 (And.intro hrel (And.intro hi0 (And.intro hln (And.intro (show Grew w w3 from chg_new (Grew.trans H1.out.2.1 H1.out.2.2.2.2.1) hc3 H1.out.2.2.1) (fun j hj => show w.heap.size ≤ j from (hn3 j hj).elim (H1.out.2.2.1 j) fun e => by have h8 := H1.out.2.1.size; have h9 := H1.out.2.2.2.2.1.size; omega))))))
    clear hp3 hc3 hn3 hrel hi0 hln
    go_wp2_with fail
    refine (cget_stands p F3 y w3 l (List.replicate 60 0) i0 H3.out.1 H3.out.2.1.stands (by simp) (by simp) H3.out.2.2.1).mono ?_
    rintro e w4 ⟨hp4, hc4, A4, c4, rfl, -⟩
    have H4 := Lib.hid (And.intro hp4 (show Grew w w4 from chg_new H3.out.2.2.2.2.1 hc4 H3.out.2.2.2.2.2))
    have hus := gp_used p F3 y w4 hp4
    have hu2 : y.now.countP Pk.used = 2 := by rw [H3.out.2.1.used, HO.out.2.1, H3.out.2.2.2.1]
    rw [hu2] at hus
    have HU := Lib.hid hus
    simp only [List.length_replicate]
    clear hp4 hc4 hus hu2
    go_wp2_with (first
      | (go_at_call 15; (refine HU.out.mono ?_); rintro e w5 ⟨rfl, hg5⟩; have H5 := Lib.hid (Grew.trans H4.out.2 hg5); clear hg5)
      | (go_at_call 6; (refine (HN.out _).mono ?_); rintro e w6 ⟨rfl, rfl⟩))
    go_ret
    exact ⟨rfl, H5.out⟩
  · exfalso
    refine hne ⟨?_, ?_⟩
    · rw [HO.out.1, HO.out.2.2.2]; simp [partsN]
    · rw [HO.out.2.1, HO.out.2.2.1, HO.out.2.2.2]; simp [partsN]

end Go.Proofs.YtjlfnebkibgfmaaDoor

/- The chain's law ChainReads, plain: pages read one behind the other. -/
namespace Go.Proofs.YtjlfnebkibgfmaaDoor
open Go.RowKit Go.Maps

/-- These pages, and no others. -/
structure PgsAre (x : Rp) (Ps : List (List Int)) : Prop where
  at_ : ∀ (k : Nat) B, Ps[k]? = some B → x.now[k]? = some (.new B)
  no : ∀ (k : Nat) c, Ps.length ≤ k → x.now[k]? = some c → c.used = false
  sz : x.sz = 64
  few : Ps.length ≤ 8
  byt : ∀ B ∈ Ps, B.length = 64 ∧ ∀ q ∈ B, 0 ≤ q ∧ q ≤ 255
/-- The record from a page on, as the law reads it. -/
def readL (Ps : List (List Int)) (sz : Nat) : Nat → Int → List Int → Option (List Int)
  | 0, _, _ => none
  | f + 1, i, out => if i < 0 then some out else match Ps[i.toNat]? with
    | none => none
    | some b => match decP b sz with
      | none => none
      | some (P, nx) => readL Ps sz f ((nx : Int) - 1) (out ++ P)
section
variable {Ps : List (List Int)} {sz f k nx : Nat} {out b P : List Int} {i first : Int} {x : Rp} {l : List Nat} {ps : List (List Int)}
theorem readL_end (h : i < 0) : readL Ps sz (f + 1) i out = some out := by unfold readL; rw [if_pos h]
theorem readL_out (h : Ps[k]? = none) : readL Ps sz f (k : Int) out = none := by
  cases f with
  | zero => rfl
  | succ f => unfold readL; rw [if_neg (by omega), Int.toNat_natCast, h]
theorem readL_bad (h : Ps[k]? = some b) (hd : decP b sz = none) : readL Ps sz f (k : Int) out = none := by
  cases f with
  | zero => rfl
  | succ f =>
    unfold readL
    rw [if_neg (by omega), Int.toNat_natCast, h]
    simp only [hd]
theorem readL_step (h : Ps[k]? = some b) (hd : decP b sz = some (P, nx)) : readL Ps sz (f + 1) (k : Int) out = readL Ps sz f ((nx : Int) - 1) (out ++ P) := by
  conv => lhs; unfold readL
  rw [if_neg (by omega), Int.toNat_natCast, h]
  simp only [hd]
theorem Wk.link (h : Wk x first l ps i) : ∀ j ∈ l, ∃ c P nx, x.now[j]? = some c ∧ c.used = true ∧ decP (c.bytes x.sz) x.sz = some (P, nx) ∧ (((nx : Nat) : Int) - 1 = i ∨ ∃ j' ∈ l, ((nx : Nat) : Int) - 1 = ((j' : Nat) : Int)) := by
  induction h with
  | nil => intro j hj; simp at hj
  | @snoc l ps i c P nx h1 h2 h3 h4 h5 h6 ih =>
    intro j hj
    rcases List.mem_append.1 hj with e | e
    · obtain ⟨c', P', nx', a1, a2, a3, a4⟩ := ih j e
      refine ⟨c', P', nx', a1, a2, a3, .inr ?_⟩
      rcases a4 with a4 | ⟨j', b1, b2⟩
      · exact ⟨i, by simp, a4⟩
      · exact ⟨j', List.mem_append_left _ b1, b2⟩
    · simp only [List.mem_singleton] at e
      subst e
      exact ⟨c, P, nx, h2, h3, h4, .inl rfl⟩
theorem Wk.sums (h : Wk x first l ps i) : lenSum ps ≤ l.length * x.sz := by
  induction h with
  | nil => simp [lenSum]
  | @snoc l ps i c P nx h1 h2 h3 h4 h5 h6 ih =>
    have := (decP_some h4).2.2.2.1
    have e : lenSum (ps ++ [P]) = lenSum ps + P.length := by unfold lenSum; simp [List.sum_append]
    rw [e, List.length_append, List.length_singleton, Nat.add_mul, Nat.one_mul]
    omega
theorem PgsAre.page (hx : PgsAre x Ps) {c : Pk} (h : x.now[k]? = some c) (hu : c.used = true) : ∃ B, Ps[k]? = some B ∧ c.bytes x.sz = B := by
  by_cases e : k < Ps.length
  · have h1 := hx.at_ k _ (List.getElem?_eq_getElem e)
    rw [h] at h1
    injection h1 with h1
    subst h1
    exact ⟨_, List.getElem?_eq_getElem e, rfl⟩
  · have := hx.no k c (by omega) h
    rw [this] at hu
    cases hu
theorem Wk.reads (hx : PgsAre x Ps) (h : Wk x first l ps i) : ∀ f, readL Ps 64 (f + l.length) first [] = readL Ps 64 f i ps.flatten := by
  induction h with
  | nil => intro f; rfl
  | @snoc l ps i c P nx h1 h2 h3 h4 h5 h6 ih =>
    intro f
    have := ih (f + 1)
    rw [List.length_append, List.length_singleton, show f + (l.length + 1) = f + 1 + l.length by omega, this]
    obtain ⟨B, hB, eB⟩ := hx.page h2 h3
    rw [eB, hx.sz] at h4
    rw [readL_step hB h4]
    simp
theorem readL_loop (hx : PgsAre x Ps) (h : Wk x first l ps (k : Int)) (hk : k ∈ l) : ∀ (f j : Nat) out, j ∈ l → readL Ps 64 f (j : Int) out = none := by
  intro f
  induction f with
  | zero => intro j out _; rfl
  | succ f ih =>
    intro j out hj
    obtain ⟨c, P, nx, a1, a2, a3, a4⟩ := h.link j hj
    obtain ⟨B, hB, eB⟩ := hx.page a1 a2
    rw [eB, hx.sz] at a3
    rw [readL_step hB a3]
    rcases a4 with a4 | ⟨j', b1, b2⟩
    · rw [a4]; exact ih k _ hk
    · rw [b2]; exact ih j' _ b1
theorem Wk.few (hx : PgsAre x Ps) (h : Wk x first l ps i) : l.length ≤ Ps.length := by
  have := List.Nodup.length_le_of_subset h.nd.1 (l₂ := List.range Ps.length) fun s hs => List.mem_range.2 (by
    obtain ⟨c, P, nx, a1, a2, a3, a4⟩ := h.link s hs
    obtain ⟨B, hB, -⟩ := hx.page a1 a2
    exact (List.getElem?_eq_some_iff.1 hB).1)
  rwa [List.length_range] at this
/-- What a walk finds is what the law reads. -/
theorem reads_ok (hx : PgsAre x Ps) (h : Wk x first l ps i) (hi : i < 0) : readL Ps 64 (Ps.length + 1) first [] = some ps.flatten := by
  have hl := h.few hx
  have := h.reads hx (Ps.length - l.length + 1)
  rw [show Ps.length - l.length + 1 + l.length = Ps.length + 1 by omega] at this
  rw [this, readL_end hi]
theorem reads_bad (hx : PgsAre x Ps) (h : Wk x first l ps i) (hi : 0 ≤ i) (hw : Wrong x l ps i.toNat) : readL Ps 64 (Ps.length + 1) first [] = none := by
  have hl := h.few hx
  have h1 := h.reads hx (Ps.length - l.length + 1)
  rw [show Ps.length - l.length + 1 + l.length = Ps.length + 1 by omega] at h1
  rw [h1]
  obtain ⟨k, rfl⟩ := Int.eq_ofNat_of_zero_le hi
  rw [Int.toNat_natCast] at hw
  rcases hw with hw | ⟨c, c1, c2, c3 | ⟨P, nx, c3, c4 | c4⟩⟩
  · refine readL_out ?_
    cases hB : Ps[k]? with
    | none => rfl
    | some B => have := hw _ (hx.at_ k B hB); cases this
  · obtain ⟨B, hB, eB⟩ := hx.page c1 c2
    rw [eB, hx.sz] at c3
    exact readL_bad hB c3
  · exact readL_loop hx h c4 _ k _ c4
  · exfalso
    have h2 := h.sums
    have h3 := (decP_some c3).2.2.2.1
    rw [hx.sz] at h2 h3
    have h4 := hx.few
    have : l.length * 64 ≤ 8 * 64 := Nat.mul_le_mul_right _ (by omega)
    omega
theorem reads_first (hx : PgsAre x Ps) (h : Wk x first l ps i) (hf : first < 0 ∨ (Ps.length : Int) ≤ first) : l = [] ∧ ps = [] ∧ i = first := by
  induction h with
  | nil => exact ⟨rfl, rfl, rfl⟩
  | @snoc l ps i c P nx h1 h2 h3 h4 h5 h6 ih =>
    obtain ⟨-, -, e⟩ := ih
    obtain ⟨B, hB, -⟩ := hx.page h2 h3
    have := (List.getElem?_eq_some_iff.1 hB).1
    omega
end

/-- What all answers at such pages. -/
def AllL (w w' : World) (p : Nat) (F : Nat → Prop) (x : Rp) (Ps : List (List Int)) (first : Int) (e : Ending) : Prop :=
  GP w' p F x ∧ Chg F w w' ∧
    if first < 0 ∨ (Ps.length : Int) ≤ first then e = .returned (.tuple #[.slice none 0 0, .slice none 0 0, .int .i64 14])
    else match readL Ps 64 (Ps.length + 1) first [] with
      | none => e = .returned (.tuple #[.slice none 0 0, .slice none 0 0, .int .i64 22])
      | some s => ∃ n A1 c1 A2 c2, e = .returned (.tuple #[.slice A1 n c1, .slice A2 s.length c2, .int .i64 0]) ∧ w'.ownsRow w.heap.size 5 1 (.slice A2 s.length c2) s.length (bv s) ∧ (∀ q ∈ s, 0 ≤ q ∧ q ≤ 255) ∧ s.length ≤ 20000

theorem all_neg (p : Nat) (first : Int) (F : Nat → Prop) (x : Rp) (w : World) (h : GP w p F x) (hneg : first < 0) :
    Calls Tryd.prog 31 #[.pointer (some ⟨p, 0, none⟩), .int .i64 first] w fun e w' => GP w' p F x ∧ Chg F w w' ∧ e = .returned (.tuple #[.slice none 0 0, .slice none 0 0, .int .i64 14]) := by
  obtain ⟨a0, ha0⟩ : ∃ a0, w.heap.size = a0 := ⟨_, rfl⟩
  obtain ⟨W2, hW2⟩ : ∃ W, (w.alloc (.cells #[.slice none 0 0] 39)).alloc (.cells #[.slice none 0 0] 29) = W := ⟨_, rfl⟩
  have hg2 : Grew w W2 := hW2 ▸ ((Chg.refl _ _).alloc _).alloc _
  have hb1 : Blk W2 a0 39 #[.slice none 0 0] := by subst hW2 ha0; exact (Blk.new _ _ _).alloc _
  have hb2 : Blk W2 (a0 + 1) 29 #[.slice none 0 0] := by
    subst hW2 ha0
    have := Blk.new (w.alloc (.cells #[.slice none 0 0] 39)) 29 #[.slice none 0 0]
    simpa using this
  have H := Lib.hid (And.intro h (And.intro hg2 (And.intro hb1 (And.intro hb2 ha0))))
  clear h hg2 hb1 hb2
  have t1 : decide (first < 0) = true := decide_eq_true hneg
  obtain ⟨c1, f1, s1⟩ := H.out.2.2.1.facts
  obtain ⟨c2, f2, s2⟩ := H.out.2.2.2.1.facts
  clear hneg
  go_enter Tryd.func31, Tryd.ntmps31
  go_wp2_with (first | (rw [hW2]) | (rw [ha0]))
  have hc : Chg (fun j => j = a0 ∨ j = a0 + 1) W2 ((W2.setCell ⟨a0, 0, none⟩ (.slice none 0 0)).setCell ⟨a0 + 1, 0, none⟩ (.slice none 0 0)) := ((Chg.refl (fun j => j = a0 ∨ j = a0 + 1) _).setCell (p := ⟨a0, 0, none⟩) (fun _ => .inl rfl) _).setCell (p := ⟨a0 + 1, 0, none⟩) (fun _ => .inr rfl) _
  have hlt := H.out.1.lt
  have hz := tab_pos H.out.1.tab
  have he := H.out.2.2.2.2
  exact bodyPost_ret (v := .tuple #[.slice none 0 0, .slice none 0 0, .int .i64 14]) (by simp [results, Tryd.results31, go_sem, c1, f1, s1, c2, f2, s2]) rfl ⟨(H.out.1.grew H.out.2.1).chg hc (fun j hj e => by have := hlt j hj; omega) (by omega), Chg.trans H.out.2.1.chg hc fun j hj e => by omega, rfl⟩

theorem Wk.byt {x : Rp} {Ps : List (List Int)} (hx : PgsAre x Ps) {first i : Int} {l : List Nat} {ps : List (List Int)} (h : Wk x first l ps i) : ∀ q ∈ ps.flatten, 0 ≤ q ∧ q ≤ 255 := by
  induction h with
  | nil => intro q hq; simp at hq
  | @snoc l ps i c P nx h1 h2 h3 h4 h5 h6 ih =>
    intro q hq
    simp only [List.flatten_append, List.flatten_cons, List.flatten_nil, List.append_nil, List.mem_append] at hq
    rcases hq with hq | hq
    · exact ih q hq
    · obtain ⟨B, hB, eB⟩ := hx.page h2 h3
      rw [eB] at h4
      refine (hx.byt B (List.mem_of_getElem? hB)).2 q ?_
      unfold decP at h4
      simp only at h4
      split at h4
      · cases h4
      · injection h4 with h4
        injection h4 with h4 _
        rw [← h4] at hq
        exact List.mem_of_mem_drop (List.mem_of_mem_take hq)

theorem all_reads (p : Nat) (first : Int) (F : Nat → Prop) (x : Rp) (Ps : List (List Int)) (w : World) (h : GP w p F x) (hx : PgsAre x Ps) (hfi : -9223372036854775808 ≤ first ∧ first ≤ 9223372036854775807) :
    Calls Tryd.prog 31 #[.pointer (some ⟨p, 0, none⟩), .int .i64 first] w fun e w' => AllL w w' p F x Ps first e := by
  by_cases hneg : first < 0
  · refine (all_neg p first F x w h hneg).mono ?_
    rintro e w' ⟨h1, h2, rfl⟩
    refine ⟨h1, h2, ?_⟩
    rw [if_pos (.inl hneg)]
  · refine (all_any p first F x w h hfi).mono ?_
    rintro e w' ⟨h1, h2, ⟨l, ps, i, A1, c1, A2, c2, hw, hi, rfl, h3, h4⟩ | ⟨l, ps, i, hw, hi, hwr, rfl⟩ | ⟨e, -⟩⟩
    · refine ⟨h1, h2, ?_⟩
      by_cases hf : first < 0 ∨ (Ps.length : Int) ≤ first
      · obtain ⟨-, -, rfl⟩ := reads_first hx hw hf
        exact absurd hi hneg
      · rw [if_neg hf, reads_ok hx hw hi]
        rw [lenSum_flatten] at h4
        refine ⟨_, A1, c1, A2, c2, by rw [lenSum_flatten], h4, hw.byt hx, ?_⟩
        have := hw.nd.2.2.1
        rw [lenSum_flatten] at this
        omega
    · refine ⟨h1, h2, ?_⟩
      by_cases hf : first < 0 ∨ (Ps.length : Int) ≤ first
      · obtain ⟨-, -, rfl⟩ := reads_first hx hw hf
        rw [if_pos hf, if_pos ⟨fun c hc => hx.no _ c (by omega) hc, rfl⟩]
      · rw [if_neg hf, reads_bad hx hw hi hwr]
        rw [if_neg]
        rintro ⟨e1, rfl⟩
        have e3 : i.toNat < Ps.length := by omega
        have := e1 _ (hx.at_ _ _ (List.getElem?_eq_getElem e3))
        cases this
    · omega
section
variable (p : Nat) (first : Int) (F : Nat → Prop) (x : Rp) (Ps : List (List Int)) (w : World)
/-- What Get answers at such pages. -/
def GetL (w w' : World) (p : Nat) (F : Nat → Prop) (x : Rp) (Ps : List (List Int)) (first : Int) (e : Ending) : Prop :=
  GP w' p F x ∧ Chg F w w' ∧
    if first < 0 ∨ (Ps.length : Int) ≤ first then e = .returned (.tuple #[.slice none 0 0, .int .i64 14])
    else match readL Ps 64 (Ps.length + 1) first [] with
      | none => e = .returned (.tuple #[.slice none 0 0, .int .i64 22])
      | some s => ∃ A2 c2, e = .returned (.tuple #[.slice A2 s.length c2, .int .i64 0]) ∧ w'.ownsRow w.heap.size 5 1 (.slice A2 s.length c2) s.length (bv s) ∧ (∀ q ∈ s, 0 ≤ q ∧ q ≤ 255) ∧ s.length ≤ 20000
/-- What Pages answers at such pages. -/
def PgsL (w w' : World) (p : Nat) (F : Nat → Prop) (x : Rp) (Ps : List (List Int)) (first : Int) (e : Ending) : Prop :=
  GP w' p F x ∧ Chg F w w' ∧
    if first < 0 ∨ (Ps.length : Int) ≤ first then e = .returned (.tuple #[.slice none 0 0, .int .i64 14])
    else match readL Ps 64 (Ps.length + 1) first [] with
      | none => e = .returned (.tuple #[.slice none 0 0, .int .i64 22])
      | some _ => ∃ A1 n c1, e = .returned (.tuple #[.slice A1 n c1, .int .i64 0])
theorem allL_cases {w' : World} {e : Ending} (h : AllL w w' p F x Ps first e) : ∃ A1 n1 c1 A2 n2 c2 er, e = .returned (.tuple #[.slice A1 n1 c1, .slice A2 n2 c2, .int .i64 er]) ∧ GetL w w' p F x Ps first (.returned (.tuple #[.slice A2 n2 c2, .int .i64 er])) ∧ PgsL w w' p F x Ps first (.returned (.tuple #[.slice A1 n1 c1, .int .i64 er])) := by
  obtain ⟨h1, h2, h3⟩ := h
  by_cases hf : first < 0 ∨ (Ps.length : Int) ≤ first
  · rw [if_pos hf] at h3
    exact ⟨_, _, _, _, _, _, _, h3, ⟨h1, h2, by rw [if_pos hf]⟩, ⟨h1, h2, by rw [if_pos hf]⟩⟩
  · rw [if_neg hf] at h3
    cases hr : readL Ps 64 (Ps.length + 1) first [] with
    | none =>
      rw [hr] at h3
      exact ⟨_, _, _, _, _, _, _, h3, ⟨h1, h2, by rw [if_neg hf, hr]⟩, ⟨h1, h2, by rw [if_neg hf, hr]⟩⟩
    | some s =>
      rw [hr] at h3
      obtain ⟨n, A1, c1, A2, c2, h3, h4, h5, h6⟩ := h3
      exact ⟨_, _, _, _, _, _, _, h3, ⟨h1, h2, by rw [if_neg hf, hr]; exact ⟨A2, c2, rfl, h4, h5, h6⟩⟩, ⟨h1, h2, by rw [if_neg hf, hr]; exact ⟨A1, n, c1, rfl⟩⟩⟩
theorem cget_reads (h : GP w p F x) (hx : PgsAre x Ps) (hfi : -9223372036854775808 ≤ first ∧ first ≤ 9223372036854775807) :
    Calls Tryd.prog 11 #[.pointer (some ⟨p, 0, none⟩), .int .i64 first] w fun e w' => GetL w w' p F x Ps first e := by
  have H := Lib.hid (all_reads p first F x Ps w h hx hfi)
  clear h hx hfi
  go_enter Tryd.func11, Tryd.ntmps11
  go_wp2_with fail
  refine H.out.mono ?_
  intro e w1 h
  obtain ⟨A1, n1, c1, A2, n2, c2, er, rfl, h1, h2⟩ := allL_cases p first F x Ps w h
  have HO := Lib.hid h1
  clear h h1 h2
  go_wp2_with fail
  go_ret2
  exact HO.out
theorem cpages_reads (h : GP w p F x) (hx : PgsAre x Ps) (hfi : -9223372036854775808 ≤ first ∧ first ≤ 9223372036854775807) :
    Calls Tryd.prog 12 #[.pointer (some ⟨p, 0, none⟩), .int .i64 first] w fun e w' => PgsL w w' p F x Ps first e := by
  have H := Lib.hid (all_reads p first F x Ps w h hx hfi)
  clear h hx hfi
  go_enter Tryd.func12, Tryd.ntmps12
  go_wp2_with fail
  refine H.out.mono ?_
  intro e w1 h
  obtain ⟨A1, n1, c1, A2, n2, c2, er, rfl, h1, h2⟩ := allL_cases p first F x Ps w h
  have HO := Lib.hid h2
  clear h h1 h2
  go_wp2_with fail
  go_ret2
  exact HO.out
theorem cdel_bad (h : GP w p F x) (hx : PgsAre x Ps) (hfi : -9223372036854775808 ≤ first ∧ first ≤ 9223372036854775807) (hf : ¬ (first < 0 ∨ (Ps.length : Int) ≤ first)) (hr : readL Ps 64 (Ps.length + 1) first [] = none) :
    Calls Tryd.prog 14 #[.pointer (some ⟨p, 0, none⟩), .int .i64 first] w fun e w' => GP w' p F x ∧ Chg F w w' ∧ e = .returned (.int .i64 22) := by
  have H := Lib.hid (cpages_reads p first F x Ps w h hx hfi)
  have HR := Lib.hid (And.intro hf hr)
  clear h hx hfi hf hr
  go_enter Tryd.func14, Tryd.ntmps14
  go_wp2_with fail
  refine H.out.mono ?_
  rintro e w1 ⟨h1, h2, h3⟩
  rw [if_neg HR.out.1, HR.out.2] at h3
  subst h3
  have HO := Lib.hid (And.intro h1 h2)
  clear h1 h2
  go_wp2_with fail
  go_loopw [6, 17] (fun e q wr => e = .int .i64 22 ∧ q = .int .i64 0 ∧ wr = w1) (fun _ _ _ => 0)
  case atStart => exact ⟨rfl, rfl, rfl⟩
  case round =>
    obtain ⟨rfl, rfl, rfl⟩ := hrel
    go_wp2_with fail
    go_ret
    exact ⟨HO.out.1, HO.out.2, rfl⟩
end

end Go.Proofs.YtjlfnebkibgfmaaDoor

/- Strings as rows of numbers; append of one string to a row of the call's own. -/
namespace Go.Proofs.YtjlfnebkibgfmaaDoor
open Go.RowKit

theorem son_append (a b : List Int) : strOfNums a ++ strOfNums b = strOfNums (a ++ b) := by
  apply ByteArray.ext
  rw [ByteArray.data_append]
  simp [strOfNums]
theorem son_extract (l : List Int) (i j : Nat) : (strOfNums l).extract i j = strOfNums ((l.take j).drop i) := by
  apply ByteArray.ext
  rw [ByteArray.data_extract]
  simp [strOfNums, List.map_take, List.map_drop, List.drop_take]
theorem son_inj {a b : List Int} (ha : ∀ q ∈ a, 0 ≤ q ∧ q ≤ 255) (hb : ∀ q ∈ b, 0 ≤ q ∧ q ≤ 255) (h : strOfNums a = strOfNums b) : a = b := by
  have h1 := congrArg (fun s => s.data.toList) h
  simp only [strOfNums_data] at h1
  have h2 : ∀ l : List Int, (∀ q ∈ l, 0 ≤ q ∧ q ≤ 255) → (l.map fun n => UInt8.ofNat n.toNat).map (fun b => ((b.toNat : Nat) : Int)) = l := by
    intro l hl
    rw [List.map_map]
    conv => rhs; rw [← List.map_id l]
    refine List.map_congr_left fun q hq => ?_
    have := hl q hq
    simp only [Function.comp_apply, UInt8.toNat_ofNat', id_eq]
    rw [Nat.mod_eq_of_lt (by omega)]
    omega
  rw [← h2 a ha, ← h2 b hb, h1]
theorem son_beq {a b : List Int} (ha : ∀ q ∈ a, 0 ≤ q ∧ q ≤ 255) (hb : ∀ q ∈ b, 0 ≤ q ∧ q ≤ 255) : ((strOfNums a).toList == (strOfNums b).toList) = decide (a = b) := by
  by_cases h : a = b
  · subst h; simp
  · rw [decide_eq_false h]
    refine beq_eq_false_iff_ne.2 fun e => h (son_inj ha hb ?_)
    rw [ByteArray.toList_eq, ByteArray.toList_eq] at e
    exact ByteArray.ext (Array.toList_inj.1 e)
/-- A row of strings. -/
def sv (ps : List (List Int)) : List Value := ps.map fun P => .string (strOfNums P)
theorem sv_len (ps : List (List Int)) : (sv ps).length = ps.length := by simp [sv]
theorem sv_snoc (ps : List (List Int)) (P : List Int) : sv ps ++ [.string (strOfNums P)] = sv (ps ++ [P]) := by simp [sv]
theorem sv_at {ps : List (List Int)} {k : Nat} {P : List Int} (h : ps[k]? = some P) : (sv ps)[k]? = some (.string (strOfNums P)) := by simp [sv, h]
theorem strInfo_ : (Tryd.prog.info? 9).map (fun i => (i.zero, i.size, i.bytes)) = some (some (.string ⟨#[]⟩), 1, 16) := by kernel_rfl
theorem app_str {w : World} {ops : Array Oper} {rest : List Oper} {o : Oper} {a : Act} {Q : Exit → Act → World → Prop} (hgd : o.guard = none) (s x : Operand)
    (ho : o.op = .call { callee := .builtin .append, args := #[s, x], argTypes := #[28, 28] }) (base : Nat) (v : Value) (n : Nat) (xs : List Value) (hs : a.eval s = v) (hown : w.ownsRow base 9 1 v n xs)
    (e : ByteArray) (hx : a.eval x = .slice (some ⟨w.heap.size, 0, none⟩) 1 1) (hn : n ≤ 1000000) (hb : base ≤ w.heap.size)
    (h : ∀ v' w', w'.ownsRow base 9 1 v' (n + 1) (xs ++ [.string e]) → Ap w w' v v' → wpList Tryd.prog ops Q rest (a.put o.dst v') w') :
    wpList Tryd.prog ops Q (o :: rest) a (w.alloc (.cells #[.string e] 9)) := by
  obtain ⟨i0, hi0, hz0, hz1, hz2⟩ := info_parts strInfo_
  refine wpList_append_own_at _ hgd s x 28 ho base 9 i0 _ 1 16 Tryd.underlying28 hi0 hz0 hz1 hz2 rfl (by omega) v n xs hs (own_grew hown ((Chg.refl _ _).alloc _)) ⟨w.heap.size, 0, none⟩ 1 1 [.string e] hx rfl (news_one _ _ _) (by simp [Value.oneCell']) (by simp only [maxLen]; omega) (by omega) (by simp; omega) ?_
  intro v1 w1 h1 h2 _ h4
  exact h v1 w1 h1 ((Ap.refl _ _).push ((Chg.refl _ _).alloc _) h2 h4)

end Go.Proofs.YtjlfnebkibgfmaaDoor

/- The chain's document: Parts, Page. -/
namespace Go.Proofs.YtjlfnebkibgfmaaDoor
open Go.RowKit

def parts (n : Nat) (bs : List Int) (k : Nat) : List (List Int) := (List.range k).map (part n bs)
theorem parts_len (n : Nat) (bs : List Int) (k : Nat) : (parts n bs k).length = k := by simp [parts]
theorem parts_succ (n : Nat) (bs : List Int) (k : Nat) : parts n bs (k + 1) = parts n bs k ++ [part n bs k] := by simp [parts, List.range_succ]

attribute [local go_sem] strOfNums_size
set_option maxRecDepth 100000 in
set_option maxHeartbeats 1600000 in
theorem xparts_any (bs : List Int) (n : Nat) (w : World) (hb : 1 ≤ bs.length) (hb2 : bs.length ≤ 100000) (hn : 1 ≤ n) (hn2 : n ≤ 100000) :
    Calls Tryd.prog 17 #[.string (strOfNums bs), .int .i64 n] w fun e w' => OwnOut w w' 9 1 (partsN bs.length n) (sv (parts n bs (partsN bs.length n))) (fun A c => .slice A (partsN bs.length n) c) e := by
  have HB := Lib.hid hb
  clear hb
  go_enter Tryd.func17, Tryd.ntmps17
  go_wp2
  go_loopg [0, 5] bs.length (fun q s v wr => ∃ (k : Nat) (R : List Int), q = R.length ∧ bs.drop (k * n) = R ∧ 1 ≤ R.length ∧ s = .string (strOfNums R) ∧ wr.ownsRow w.heap.size 9 1 v k (sv (parts n bs k)) ∧ Grew w wr)
  case atStart => exact ⟨0, bs, rfl, by simp, HB.out, rfl, World.ownsRow_nil _ _ _ _, Chg.refl _ _⟩
  case round =>
    obtain ⟨k, R, rfl, hR, hR1, rfl, hown, hg⟩ := hrel
    have HK := Lib.hid (And.intro hR (And.intro hown hg))
    have hRl : R.length = bs.length - k * n := by rw [← hR]; simp
    have HL := Lib.hid hRl
    have hsz := hg.size
    have hkn : k < partsN bs.length n := (parts_lt HB.out hn k).1 (by omega)
    have hkb : k ≤ 100000 := by
      have : k * 1 ≤ k * n := Nat.mul_le_mul_left _ hn
      omega
    have HKn := Lib.hid hkn
    clear hR hown hg hRl hkn
    have hbs : w.heap.size ≤ wr.heap.size := hsz
    have hxl := son_extract R 0 n
    have hxr := son_extract R n R.length
    by_cases hlt : n < R.length
    · rw [List.drop_zero] at hxl
      rw [List.take_of_length_le (Nat.le_refl _)] at hxr
      go_wp2_with (at_builtin; (refine app_str rfl (.tmp 10) (.tmp 14) rfl w.heap.size u5 k (sv (parts n bs k)) rfl HK.out.2.1 _ rfl (by omega) hbs ?_); intro v1 w1 hown1 hap1; have HO1 := Lib.hid (And.intro hown1 hap1); clear hown1 hap1)
      have hp : part n bs k = R.take n := by unfold part; rw [HK.out.1]
      go_roundg (R.drop n).length
      case measure => simp; omega
      case rel =>
        refine ⟨k + 1, R.drop n, rfl, ?_, by simp; omega, rfl, ?_, HO1.out.2.grow HK.out.2.2 fun j hj => (HK.out.2.1.lt j hj).1⟩
        · rw [← HK.out.1, List.drop_drop, Nat.add_mul, Nat.one_mul]
        · have ho := HO1.out.1
          rw [sv_snoc, ← hp, ← parts_succ] at ho
          exact ho
    · go_wp2_with (at_builtin; (refine app_str rfl (.tmp 19) (.tmp 21) rfl w.heap.size u5 k (sv (parts n bs k)) rfl HK.out.2.1 _ rfl (by omega) hbs ?_); intro v1 w1 hown1 hap1; have HO1 := Lib.hid (And.intro hown1 hap1); clear hown1 hap1)
      go_ret
      obtain ⟨A, c, rfl, -⟩ := own_shape HO1.out.1
      have hk1 : k + 1 = partsN bs.length n := by
        have h1 := parts_lt HB.out hn (k + 1)
        rw [Nat.add_mul, Nat.one_mul] at h1
        have := HKn.out
        have := HL.out
        omega
      have ho := HO1.out.1
      rw [sv_snoc] at ho
      have hp : part n bs k = R := by unfold part; rw [HK.out.1]; exact List.take_of_length_le (by omega)
      rw [← hp, ← parts_succ, hk1] at ho
      exact OwnOut.mk A c (by rw [hk1]; rfl) ho (HO1.out.2.grow HK.out.2.2 fun j hj => (HK.out.2.1.lt j hj).1)

theorem conv5 (w : World) (a b c d e : Int) : (convert 29 9 (.slice (some ⟨w.heap.size, 0, none⟩) 5 5)).run Tryd.prog (w.alloc (.cells #[.int .u8 a, .int .u8 b, .int .u8 c, .int .u8 d, .int .u8 e] 5)) = .ok (.string (strOfNums [a, b, c, d, e])) (w.alloc (.cells #[.int .u8 a, .int .u8 b, .int .u8 c, .int .u8 d, .int .u8 e] 5)) := by
  refine run_convert_bytes_arg _ 29 5 Tryd.underlying29 (by kernel_rfl) w.heap.size 0 5 5 [a, b, c, d, e] rfl (fun i hi => ?_) 9 (by kernel_rfl)
  rw [Nat.zero_add, (Blk.new w 5 #[.int .u8 a, .int .u8 b, .int .u8 c, .int .u8 d, .int .u8 e]).cell i]
  match i, hi with
  | 0, _ => rfl
  | 1, _ => rfl
  | 2, _ => rfl
  | 3, _ => rfl
  | 4, _ => rfl
theorem son_zero (l : List Int) : strOfNums l ++ ⟨#[0]⟩ = strOfNums (l ++ [0]) := by rw [← son_append]; rfl
attribute [local go_sem] conv5 son_append son_zero
set_option maxRecDepth 100000 in
set_option maxHeartbeats 1600000 in
theorem xpage_any (P : List Int) (z : Int) (nx sz : Nat) (w : World) (hz1 : z + 1 = (nx : Int)) (hn : nx ≤ 65536) (hl : P.length + 5 ≤ sz) (hz : sz ≤ 4096) :
    Calls Tryd.prog 32 #[.string (strOfNums P), .int .i64 z, .int .i64 sz] w fun e w' => e = .returned (.string (strOfNums (pgL P nx sz))) ∧ Grew w w' := by
  go_enter Tryd.func32, Tryd.ntmps32
  go_wp2
  obtain ⟨B, hB⟩ : ∃ B : List Int, (3 :: (nx : Int) % 256 :: (nx : Int) / 256 % 256 :: (P.length : Int) % 256 :: (P.length : Int) / 256 :: P) = B := ⟨_, rfl⟩
  rw [hB]
  have hBl : B.length = 5 + P.length := by rw [← hB]; simp; omega
  have HB := Lib.hid hB
  have HBl := Lib.hid hBl
  clear hB hBl
  go_loopg [8] (sz - B.length) (fun q v wr => ∃ X : List Int, q = sz - X.length ∧ X = B ++ List.replicate (X.length - B.length) 0 ∧ B.length ≤ X.length ∧ X.length ≤ sz ∧ v = .string (strOfNums X) ∧ Grew w wr)
  case atStart => exact ⟨B, rfl, by simp, Nat.le_refl _, by rw [HBl.out]; omega, rfl, (Chg.refl _ _).alloc _⟩
  case round =>
    obtain ⟨X, rfl, hX, hX1, hX2, rfl, hg⟩ := hrel
    have HX := Lib.hid hX
    have HG := Lib.hid hg
    clear hX hg
    by_cases hlt : X.length < sz
    · go_wp2
      go_roundg (sz - (X ++ [0]).length)
      case measure => simp; omega
      case rel =>
        refine ⟨X ++ [0], rfl, ?_, by simp; omega, by simp; omega, rfl, HG.out⟩
        have e : (X ++ [(0 : Int)]).length - B.length = (X.length - B.length) + 1 := by simp; omega
        rw [e, List.replicate_succ', ← List.append_assoc, ← HX.out]
    · go_wp2
      go_ret
      refine ⟨?_, HG.out⟩
      have e : X = pgL P nx sz := by
        have h1 := HX.out
        have h2 := HBl.out
        rw [h1, show (X.length - B.length) = sz - 5 - P.length by omega, ← HB.out]
        unfold pgL
        simp
        omega
      rw [← e]
      rfl

end Go.Proofs.YtjlfnebkibgfmaaDoor

/- The chain's law ChainReads: what the law reads itself. -/
namespace Go.Proofs.YtjlfnebkibgfmaaDoor
open Go.RowKit Go.Maps

theorem son_index {P : Program} {t : TypeId} (ht : P.underlying t = some .string) {bs : List Int} {j : Nat} {y : Int} (hj : bs[j]? = some y) (hy : 0 ≤ y ∧ y ≤ 255) (w : World) :
    (Instr.index t (.string (strOfNums bs)) (.int .i64 (j : Int))).run P w = .ok (.int .u8 y) w := by
  have hlt : j < bs.length := (List.getElem?_eq_some_iff.1 hj).1
  have hsz : (strOfNums bs).size = bs.length := strOfNums_size bs
  have hj2 : ((j : Int)).toNat < (strOfNums bs).size := by rw [hsz, Int.toNat_natCast]; exact hlt
  rw [run_index_string w t (strOfNums bs) .i64 (j : Int) ht, dif_pos ⟨by omega, by rw [hsz]; omega⟩]
  congr 2
  have e2 : (strOfNums bs)[((j : Int)).toNat] = UInt8.ofNat y.toNat := by
    show (strOfNums bs).data[((j : Int)).toNat] = _
    have h3 : (strOfNums bs).data.toList[j]? = some (UInt8.ofNat y.toNat) := by rw [strOfNums_data, List.getElem?_map, hj]; rfl
    rw [Array.getElem?_toList] at h3
    exact (Array.getElem?_eq_some_iff.1 h3).2
  rw [e2, UInt8.toNat_ofNat']
  omega

def rdO : Option (List Int) → Value
  | none => .tuple #[.string ⟨#[]⟩, .bool false]
  | some s => .tuple #[.string (strOfNums s), .bool true]
attribute [local go_sem] strOfNums_size

/-- What a page says, number by number. -/
theorem decP_at {B : List Int} {sz x1 x2 x3 x4 : Nat} (e1 : B[1]? = some (x1 : Int)) (e2 : B[2]? = some (x2 : Int)) (e3 : B[3]? = some (x3 : Int)) (e4 : B[4]? = some (x4 : Int)) :
    decP B sz = if x3 + 256 * x4 < 1 ∨ sz - 5 < x3 + 256 * x4 ∨ (0 < x1 + 256 * x2 ∧ x3 + 256 * x4 < sz - 5) ∨ pgL ((B.drop 5).take (x3 + 256 * x4)) (x1 + 256 * x2) sz ≠ B then none else some ((B.drop 5).take (x3 + 256 * x4), x1 + 256 * x2) := by
  unfold decP
  simp only [List.getD_eq_getElem?_getD, e1, e2, e3, e4, Option.getD_some, Int.toNat_natCast]

set_option maxRecDepth 100000 in
set_option maxHeartbeats 3200000 in
theorem xread_any (Ps : List (List Int)) (first : Int) (A : Option Addr) (c : Nat) (w : World) (hN : Ps.length ≤ 8) (hby : ∀ B ∈ Ps, B.length = 64 ∧ ∀ q ∈ B, 0 ≤ q ∧ q ≤ 255) (hs : Sl w 1 A Ps.length (sv Ps)) (hfi : -9223372036854775808 ≤ first ∧ first ≤ 9223372036854775807) :
    Calls Tryd.prog 13 #[.slice A Ps.length c, .int .i64 first] w fun e w' => e = .returned (rdO (readL Ps 64 (Ps.length + 1) first [])) ∧ Grew w w' := by
  obtain ⟨N, hNN⟩ : ∃ N, Ps.length = N := ⟨_, rfl⟩
  obtain ⟨R, hR⟩ : ∃ R, readL Ps 64 (Ps.length + 1) first [] = R := ⟨_, rfl⟩
  have H := Lib.hid (And.intro hby (And.intro hs (And.intro hR hNN)))
  rw [hR]
  rw [hNN] at hN ⊢
  clear hby hs hR hNN
  go_enter Tryd.func13, Tryd.ntmps13
  go_wp2
  go_loopg [1, 6, 13] (N + 1) (fun q a s v wr => ∃ (k : Nat) (i : Int) (out : List Int), q = N + 1 - k ∧ k ≤ N + 1 ∧ a = .int .i64 i ∧ s = .string (strOfNums out) ∧ v = .int .i64 k ∧ R = readL Ps 64 (N + 1 - k) i out ∧ Grew w wr ∧ (-9223372036854775808 ≤ i ∧ i ≤ 9223372036854775807) ∧ out.length ≤ 64 * k)
  case atStart => exact ⟨0, first, [], rfl, by omega, rfl, rfl, rfl, by rw [← H.out.2.2.1, H.out.2.2.2]; rfl, Chg.refl _ _, hfi, by simp⟩
  case round =>
    obtain ⟨k, i, out, rfl, hk, rfl, rfl, rfl, hR, hg, hib, hol⟩ := hrel
    have HK := Lib.hid (And.intro hR hg)
    clear hR hg hfi
    obtain ⟨ib1, ib2⟩ := hib
    by_cases hlt : k < N + 1
    · have u1 : (k : Int) < (N : Int) + 1 := by omega
      by_cases hneg : i < 0
      · have t1 : decide (i < 0) = true := decide_eq_true hneg
        have hR : R = some out := by rw [HK.out.1, show N + 1 - k = (N - k) + 1 by omega, readL_end hneg]
        have HR := Lib.hid hR
        clear hneg hR
        go_wp2_with fail
        go_ret2
        exact ⟨by rw [HR.out]; rfl, HK.out.2⟩
      · have t1 : decide (i < 0) = false := decide_eq_false hneg
        obtain ⟨j, rfl⟩ := Int.eq_ofNat_of_zero_le (show 0 ≤ i by omega)
        by_cases hjN : j < N
        · have t2 : decide ((N : Int) ≤ (j : Int)) = false := decide_eq_false (by omega)
          obtain ⟨B, hB⟩ : ∃ B, Ps[j]? = some B := ⟨_, List.getElem?_eq_getElem (by rw [H.out.2.2.2]; exact hjN)⟩
          have hbB := H.out.1 B (List.mem_of_getElem? hB)
          obtain ⟨bA, oA, rfl, hbA, hxA⟩ := H.out.2.1.2 (by rw [H.out.2.2.2]; omega)
          have hcell : wr.cell? ⟨bA, oA + j, none⟩ = some (.string (strOfNums B)) := by
            exact (HK.out.2.cell (p := ⟨bA, oA + j, none⟩) hbA id).trans (hxA j _ (sv_at hB))
          have gt : ∀ m, m < 64 → ∃ y : Nat, B[m]? = some (y : Int) ∧ y ≤ 255 := fun m hm => by
            have h1 : B[m]? = some (B[m]'(by omega)) := List.getElem?_eq_getElem (by omega)
            have h2 := hbB.2 _ (List.mem_of_getElem? h1)
            exact ⟨(B[m]'(by omega)).toNat, by rw [h1]; congr 1; omega, by omega⟩
          obtain ⟨x1, e1, l1⟩ := gt 1 (by omega)
          obtain ⟨x2, e2, l2⟩ := gt 2 (by omega)
          obtain ⟨x3, e3, l3⟩ := gt 3 (by omega)
          obtain ⟨x4, e4, l4⟩ := gt 4 (by omega)
          have d1 : ∀ W, (Instr.index 9 (.string (strOfNums B)) (.int .i64 1)).run Tryd.prog W = .ok (.int .u8 x1) W := fun W => son_index (P := Tryd.prog) (t := 9) Tryd.underlying9 (j := 1) e1 (by omega) W
          have d2 : ∀ W, (Instr.index 9 (.string (strOfNums B)) (.int .i64 2)).run Tryd.prog W = .ok (.int .u8 x2) W := fun W => son_index (P := Tryd.prog) (t := 9) Tryd.underlying9 (j := 2) e2 (by omega) W
          have d3 : ∀ W, (Instr.index 9 (.string (strOfNums B)) (.int .i64 3)).run Tryd.prog W = .ok (.int .u8 x3) W := fun W => son_index (P := Tryd.prog) (t := 9) Tryd.underlying9 (j := 3) e3 (by omega) W
          have d4 : ∀ W, (Instr.index 9 (.string (strOfNums B)) (.int .i64 4)).run Tryd.prog W = .ok (.int .u8 x4) W := fun W => son_index (P := Tryd.prog) (t := 9) Tryd.underlying9 (j := 4) e4 (by omega) W
          have hdec := decP_at (sz := 64) e1 e2 e3 e4
          obtain ⟨nx, hnx⟩ : ∃ nx, x1 + 256 * x2 = nx := ⟨_, rfl⟩
          obtain ⟨n, hnn⟩ : ∃ n, x3 + 256 * x4 = n := ⟨_, rfl⟩
          rw [hnx, hnn] at hdec
          have q1 : (x1 : Int) + 256 * (x2 : Int) = (nx : Int) := by omega
          have q2 : (x3 : Int) + 256 * (x4 : Int) = (n : Int) := by omega
          have hnx5 : nx ≤ 65535 := by omega
          have hn5 : n ≤ 65535 := by omega
          have HB := Lib.hid (And.intro hB (And.intro hbB hdec))
          clear hB hbB hdec gt e1 e2 e3 e4 hnx hnn hxA
          go_wp2_with fail
          go_quiet (fail)
          obtain ⟨w2, hw2⟩ : ∃ w2, wr.drewN nq = w2 := ⟨_, rfl⟩
          have HG2 := Lib.hid (show Grew w w2 from hw2 ▸ HK.out.2.drewN _)
          rw [hw2]
          clear hw2 d1 d2 d3 d4 q1 q2 hcell l1 l2 l3 l4
          have hbad : decP B 64 = none → R = none := fun e => by rw [HK.out.1]; exact readL_bad HB.out.1 e
          have HBad := Lib.hid hbad
          clear hbad
          by_cases h1 : n < 1
          · have hR := HBad.out (by rw [HB.out.2.2, if_pos (.inl h1)])
            have HR := Lib.hid hR
            have t3 : decide ((n : Int) < 1) = true := decide_eq_true (by omega)
            clear h1 hR
            go_wp2_with fail
            go_ret2
            exact ⟨by rw [HR.out]; rfl, HG2.out⟩
          have t3 : decide ((n : Int) < 1) = false := decide_eq_false (by omega)
          by_cases h2 : 59 < n
          · have hR := HBad.out (by rw [HB.out.2.2, if_pos (.inr (.inl (by omega)))])
            have HR := Lib.hid hR
            have t4 : decide ((59 : Int) < (n : Int)) = true := decide_eq_true (by omega)
            clear h1 h2 hR
            go_wp2_with fail
            go_ret2
            exact ⟨by rw [HR.out]; rfl, HG2.out⟩
          have t4 : decide ((59 : Int) < (n : Int)) = false := decide_eq_false (by omega)
          by_cases h3 : 0 < nx ∧ n < 59
          · have hR := HBad.out (by rw [HB.out.2.2, if_pos (.inr (.inr (.inl (by omega))))])
            have HR := Lib.hid hR
            have t5 : decide ((1 : Int) ≤ (nx : Int)) = true := decide_eq_true (by omega)
            have t6 : ((n : Int) != 59) = true := by simp; omega
            have t7 : ((n : Int) == 59) = false := by simp; omega
            clear h1 h2 h3 hR
            go_wp2_with fail
            go_ret2
            exact ⟨by rw [HR.out]; rfl, HG2.out⟩
          obtain ⟨P, hP⟩ : ∃ P, (B.drop 5).take n = P := ⟨_, rfl⟩
          have hPl : P.length = n := by rw [← hP, List.length_take, List.length_drop, HB.out.2.1.1]; omega
          have hPb : ∀ q ∈ P, 0 ≤ q ∧ q ≤ 255 := fun q hq => HB.out.2.1.2 q (List.mem_of_mem_drop (List.mem_of_mem_take (hP ▸ hq)))
          have hpg := fun W => xpage_any P ((nx : Int) - 1) nx 64 W (by omega) (by omega) (by omega) (by omega)
          have hdd : decP B 64 = if decide (B = pgL P nx 64) then some (P, nx) else none := by
            rw [HB.out.2.2, hP]
            by_cases e : B = pgL P nx 64
            · rw [if_neg (fun q => q.elim h1 fun q => q.elim (by omega) fun q => q.elim (by omega) fun q => q e.symm), decide_eq_true e]; rfl
            · rw [if_pos (.inr (.inr (.inr (Ne.symm e)))), decide_eq_false e]; rfl
          have hcmp : ((strOfNums B).toList == (strOfNums (pgL P nx 64)).toList) = decide (B = pgL P nx 64) := son_beq HB.out.2.1.2 (pgL_byte hPb)
          have hx5 : (strOfNums B).extract 5 (5 + n) = strOfNums P := by rw [son_extract, List.drop_take, ← hP]; congr 2; omega
          have hcase : decide ((1 : Int) ≤ (nx : Int)) = false ∨ (decide ((1 : Int) ≤ (nx : Int)) = true ∧ ((n : Int) != 59) = false ∧ ((n : Int) == 59) = true) := by
            by_cases e : 0 < nx
            · exact .inr ⟨decide_eq_true (by omega), by simp; omega, by simp; omega⟩
            · exact .inl (decide_eq_false (by omega))
          have hbl : B.length = 64 := HB.out.2.1.1
          have HPG := Lib.hid hpg
          have HD := Lib.hid hdd
          have HP := Lib.hid (And.intro hP hPl)
          have hn59 : n ≤ 59 := by omega
          have hP59 : P.length ≤ 59 := by omega
          have hP59 : out.length ≤ 1000 := by omega
          obtain ⟨bq, hbq⟩ : ∃ bq, decide (B = pgL P nx 64) = bq := ⟨_, rfl⟩
          rw [hbq] at HD hcmp
          clear h1 h2 h3 hP hPl hPb hpg hdd hbq
          cases bq with
          | false =>
            have hR := HBad.out (by rw [HD.out]; rfl)
            have HR := Lib.hid hR
            clear hR
            rcases hcase with t5 | ⟨t5, t6, t7⟩
            all_goals
              go_wp2_with (go_at_call 32; (refine (HPG.out _).mono ?_); rintro e w3 ⟨rfl, hg3⟩; have H3 := Lib.hid hg3; clear hg3)
              go_ret2
              exact ⟨by rw [HR.out]; rfl, Grew.trans HG2.out H3.out⟩
          | true =>
            have hR : R = readL Ps 64 (N + 1 - (k + 1)) ((nx : Int) - 1) (out ++ P) := by
              rw [HK.out.1, show N + 1 - k = (N + 1 - (k + 1)) + 1 by omega]
              exact readL_step HB.out.1 (by rw [HD.out]; rfl)
            have HR := Lib.hid hR
            clear hR
            rcases hcase with t5 | ⟨t5, t6, t7⟩
            all_goals
              go_wp2_with (go_at_call 32; (refine (HPG.out _).mono ?_); rintro e w3 ⟨rfl, hg3⟩; have H3 := Lib.hid hg3; clear hg3)
              go_roundg (N + 1 - (k + 1))
              case measure => omega
              case rel => exact ⟨k + 1, (nx : Int) - 1, out ++ P, rfl, by omega, rfl, by rw [son_append], by simp, HR.out, Grew.trans HG2.out H3.out, by omega, by rw [List.length_append]; omega⟩
        · have t2 : decide ((N : Int) ≤ (j : Int)) = true := decide_eq_true (by omega)
          have hR : R = none := by rw [HK.out.1]; exact readL_out (List.getElem?_eq_none (by rw [H.out.2.2.2]; omega))
          have HR := Lib.hid hR
          clear hneg hR
          go_wp2_with fail
          go_ret2
          exact ⟨by rw [HR.out]; rfl, HK.out.2⟩
    · have u1 : (N : Int) + 1 ≤ (k : Int) := by omega
      have hR : R = none := by rw [HK.out.1, show N + 1 - k = 0 by omega]; rfl
      have HR := Lib.hid hR
      clear hR
      go_wp2_with fail
      go_ret2
      exact ⟨by rw [HR.out]; rfl, HK.out.2⟩

end Go.Proofs.YtjlfnebkibgfmaaDoor

/- What a law's arguments are, opened: a slice of whatever element, record by record. No program stands in this text. -/
namespace Go.Proofs.YtjlfnebkibgfmaaDoor
open Go.ChangeShapes Go.WideShapes Go.ChangeAt Go.RowKit Go.Deep

theorem choose_list {α : Type} (P : Nat → α → Prop) : ∀ (n : Nat), (∀ i, i < n → ∃ x, P i x) → ∃ l : List α, l.length = n ∧ ∀ i x, l[i]? = some x → P i x
  | 0, _ => ⟨[], rfl, fun i x h => by simp at h⟩
  | n + 1, h => by
    obtain ⟨l, hl, hp⟩ := choose_list P n (fun i hi => h i (by omega))
    obtain ⟨x, hx⟩ := h n (by omega)
    refine ⟨l ++ [x], by simp [hl], fun i y hy => ?_⟩
    by_cases hi : i < l.length
    · rw [List.getElem?_append_left hi] at hy
      exact hp i y hy
    · rw [List.getElem?_append_right (by omega)] at hy
      have h0 : i - l.length = 0 := by
        rcases Nat.eq_zero_or_pos (i - l.length) with h0 | h0
        · exact h0
        · rw [List.getElem?_eq_none (by simp; omega)] at hy; cases hy
      rw [h0] at hy
      simp at hy
      subst hy
      obtain rfl : i = n := by omega
      exact hx

theorem wf_bounds {n : Int} (h : (Lit.int .i64 n).wf = true) : -9223372036854775808 ≤ n ∧ n ≤ 9223372036854775807 := by
  simpa [Lit.wf, IntKind.min, IntKind.max, IntKind.signed, IntKind.bits] using h

section
variable {H : Type} {enc : TypeId × Value → H} {P : Program} {w : World} {base : Nat} {spare : Nat → Bool} {held : Bool}

/-- A slice whose elements have s cells each: for each element its cells, and that they read. -/
theorem open_elems {t e : TypeId} {fuel s len cap : Nat} {A : Option Addr} {x : DataW H × List MemPlace} (ht : P.underlying t = some (.slice e)) (hC : P.cellsOf e = s) (hs : 0 < s)
    (h : DataW.trod enc P w base spare held fuel t [.slice A len cap] = some x) :
    len ≤ maxLen ∧ (len = 0 ∨ ∃ b off, A = some ⟨b, off, none⟩ ∧ b < w.heap.size ∧ ∀ i, i < len → ∃ (cs : List Value) (n : Nat) (y : DataW H × List MemPlace), cs.length = s ∧ (∀ j, j < s → w.cell? ⟨b, off + (i * s + j), none⟩ = cs[j]?) ∧ DataW.trod enc P w base spare held n e cs = some y) := by
  rcases open_slice ht h with ⟨hcs, _⟩ | ⟨a, len', cap', m, n, D, Pl, hcs, hb, hl, hm, hmm, hx, hi⟩
  · simp at hcs
    obtain ⟨rfl, rfl, rfl⟩ := hcs
    exact ⟨Nat.zero_le _, .inl rfl⟩
  · simp at hcs
    obtain ⟨rfl, rfl, rfl⟩ := hcs
    refine ⟨Nat.le_trans hl hm, ?_⟩
    rcases Nat.eq_zero_or_pos len with h0 | h0
    · exact .inl h0
    right
    have hlm : len ≤ m := by rw [hmm]; split <;> omega
    obtain ⟨b, off, spot⟩ := a
    have cellAt : ∀ i, i < len → ∃ cs' y, cs'.length = s ∧ (∀ j, j < s → w.cell? (Addr.add ⟨b, off, spot⟩ (i * s + j)) = cs'[j]?) ∧ DataW.trod enc P w base spare held n e cs' = some y := by
      intro i hil
      obtain ⟨cs', hc, ht'⟩ := hi i (by omega)
      rw [hC] at hc
      obtain ⟨_, hcl, hat⟩ := World.cells?_some hc
      refine ⟨cs', _, hcl, fun j hj => ?_, ht'⟩
      rw [← hat j hj]
      congr 1
      unfold Addr.add
      by_cases h1 : i * s = 0 <;> by_cases h2 : j = 0 <;> simp [h1, h2, Nat.add_assoc]
    have hspot : spot = none := by
      obtain ⟨cs', y, hcl, hat, _⟩ := cellAt 0 h0
      have := hat 0 hs
      have h0' : cs'[0]? = some (cs'[0]'(by omega)) := List.getElem?_eq_getElem (by omega)
      rw [h0'] at this
      simpa [Addr.add] using World.cell?_spot this
    subst hspot
    refine ⟨b, off, rfl, ?_, fun i hil => ?_⟩
    · obtain ⟨cs', y, hcl, hat, _⟩ := cellAt 0 h0
      have := hat 0 hs
      have h0' : cs'[0]? = some (cs'[0]'(by omega)) := List.getElem?_eq_getElem (by omega)
      rw [h0'] at this
      simpa [Addr.add] using World.block_lt_of_cell? w _ this
    · obtain ⟨cs', y, hcl, hat, ht'⟩ := cellAt i hil
      refine ⟨cs', n, y, hcl, fun j hj => ?_, ht'⟩
      have := hat j hj
      rw [Addr.add_lit] at this
      exact this
end

end Go.Proofs.YtjlfnebkibgfmaaDoor

/- A law's argument that is a slice of bytes. No program stands in this text. -/
namespace Go.Proofs.YtjlfnebkibgfmaaDoor
open Go.ChangeShapes Go.WideShapes Go.ChangeAt Go.RowKit Go.Deep

theorem wf_byte {n : Int} (h : (Lit.int .u8 n).wf = true) : 0 ≤ n ∧ n ≤ 255 := by
  simpa [Lit.wf, IntKind.min, IntKind.max, IntKind.signed, IntKind.bits] using h

theorem bytes_opened {H : Type} {enc : TypeId × Value → H} {P : Program} {w : World} {base : Nat} {spare : Nat → Bool} {held : Bool} {t e : TypeId} {fuel len cap : Nat} {A : Option Addr} {x : DataW H × List MemPlace}
    (ht : P.underlying t = some (.slice e)) (he : P.underlying e = some (.int .u8)) (hC : P.cellsOf e = 1) (h : DataW.trod enc P w base spare held fuel t [.slice A len cap] = some x) :
    ∃ l : List Int, len = l.length ∧ len ≤ maxLen ∧ Sl w 1 A l.length (l.map (Value.int .u8)) ∧ ∀ n ∈ l, 0 ≤ n ∧ n ≤ 255 := by
  obtain ⟨hm, hc⟩ := open_elems ht (s := 1) hC (by omega) h
  rcases hc with rfl | ⟨b, off, rfl, hb, hi⟩
  · exact ⟨[], rfl, hm, Sl.nil _ _ _, fun r hr => by cases hr⟩
  · obtain ⟨l, hl, hp⟩ := choose_list (fun i (r : Int) => (0 ≤ r ∧ r ≤ 255) ∧ w.cell? ⟨b, off + i, none⟩ = some (.int .u8 r)) len (fun i hil => by
      obtain ⟨cs, n, y, hcl, hat, hT⟩ := hi i hil
      match cs, hcl with
      | [c], _ =>
        obtain ⟨r, e1, -, w1⟩ := DataW.trod_int he hT
        simp at e1
        subst e1
        have := hat 0 (by omega)
        exact ⟨r, wf_byte w1, by simpa using this⟩)
    refine ⟨l, hl.symm, hm, ⟨by simp, fun _ => ⟨b, off, rfl, hb, fun j u hu => ?_⟩⟩, fun r hr => ?_⟩
    · rw [List.getElem?_map] at hu
      cases hj : l[j]? with
      | none => rw [hj] at hu; cases hu
      | some r => rw [hj] at hu; simp at hu; subst hu; exact (hp j r hj).2
    · obtain ⟨i, hi, rfl⟩ := List.getElem_of_mem hr
      exact (hp i _ (List.getElem?_eq_getElem hi)).1

end Go.Proofs.YtjlfnebkibgfmaaDoor

/- A law's argument that is a slice of slices of bytes. -/
namespace Go.Proofs.YtjlfnebkibgfmaaDoor
open Go.ChangeShapes Go.WideShapes Go.ChangeAt Go.RowKit Go.Deep

/-- A slice of bytes, as it is handed. -/
structure SB where
  a : Option Addr
  c : Nat
  l : List Int
def SB.val (x : SB) : Value := .slice x.a x.l.length x.c
def SB.ok (w : World) (x : SB) : Prop := Sl w 1 x.a x.l.length (bv x.l) ∧ x.l.length ≤ x.c ∧ x.c ≤ maxLen ∧ ∀ q ∈ x.l, 0 ≤ q ∧ q ≤ 255
theorem SB.ok.grew {w w' : World} {x : SB} (h : x.ok w) (hg : Grew w w') : x.ok w' := ⟨h.1.grew hg, h.2⟩
section
variable {H : Type} {enc : TypeId × Value → H} {P : Program} {w : World} {base : Nat} {spare : Nat → Bool} {held : Bool}
theorem SB.of_trod {t e : TypeId} {fuel : Nat} {v : Value} {x : DataW H × List MemPlace} (ht : P.underlying t = some (.slice e)) (he : P.underlying e = some (.int .u8)) (hC : P.cellsOf e = 1) (h : DataW.trod enc P w base spare held fuel t [v] = some x) :
    ∃ s : SB, v = s.val ∧ s.ok w := by
  have h1 := h
  rcases open_slice ht h with ⟨hcs, _⟩ | ⟨a, len, cap, m, n, D, Pl, hcs, hb, hl, hm, _⟩
  · simp at hcs
    subst hcs
    exact ⟨⟨none, 0, []⟩, rfl, Sl.nil _ _ _, Nat.le_refl _, Nat.zero_le _, fun q hq => by simp at hq⟩
  · simp at hcs
    subst hcs
    obtain ⟨l, rfl, -, h2, h3⟩ := bytes_opened ht he hC h1
    exact ⟨⟨some a, cap, l⟩, rfl, h2, hl, hm, h3⟩
end
theorem SB.opened {H : Type} {enc : TypeId × Value → H} {w : World} {base fuel len cap : Nat} {spare : Nat → Bool} {held : Bool} {A : Option Addr} {x : DataW H × List MemPlace} (h : DataW.trod enc Tryd.prog w base spare held fuel 47 [.slice A len cap] = some x) :
    ∃ l : List SB, len = l.length ∧ len ≤ maxLen ∧ Sl w 1 A l.length (l.map SB.val) ∧ ∀ r ∈ l, r.ok w := by
  obtain ⟨hm, hc⟩ := open_elems Tryd.underlying47 (s := 1) (by kernel_rfl) (by omega) h
  rcases hc with rfl | ⟨b, off, rfl, hb, hi⟩
  · exact ⟨[], rfl, hm, Sl.nil _ _ _, fun r hr => by cases hr⟩
  · obtain ⟨l, hl, hp⟩ := choose_list (fun i (r : SB) => r.ok w ∧ w.cell? ⟨b, off + i, none⟩ = some r.val) len (fun i hil => by
      obtain ⟨cs, n, y, hcl, hat, hT⟩ := hi i hil
      match cs, hcl with
      | [c], _ =>
        obtain ⟨r, rfl, hok⟩ := SB.of_trod Tryd.underlying29 Tryd.underlying5 (by kernel_rfl) hT
        have := hat 0 (by omega)
        exact ⟨r, hok, by simpa using this⟩)
    refine ⟨l, hl.symm, hm, ⟨by simp, fun _ => ⟨b, off, rfl, hb, fun j u hu => ?_⟩⟩, fun r hr => ?_⟩
    · rw [List.getElem?_map] at hu
      cases hj : l[j]? with
      | none => rw [hj] at hu; cases hu
      | some r => rw [hj] at hu; simp at hu; subst hu; exact (hp j r hj).2
    · obtain ⟨i, hi, rfl⟩ := List.getElem_of_mem hr
      exact (hp i _ (List.getElem?_eq_getElem hi)).1

/-- What ChainReads is handed for a page. -/
structure Wrt where
  kind : Int
  next : Int
  many : Int
  data : SB
def Wrt.vals (x : Wrt) : List Value := [.int .i64 x.kind, .int .i64 x.next, .int .i64 x.many, x.data.val]
def Wrt.ok (w : World) (x : Wrt) : Prop := (-9223372036854775808 ≤ x.kind ∧ x.kind ≤ 9223372036854775807) ∧ (-9223372036854775808 ≤ x.next ∧ x.next ≤ 9223372036854775807) ∧ (-9223372036854775808 ≤ x.many ∧ x.many ≤ 9223372036854775807) ∧ x.data.ok w
theorem Wrt.vals_len (l : List Wrt) : (l.flatMap Wrt.vals).length = l.length * 4 := by
  induction l with
  | nil => rfl
  | cons x l ih => rw [List.flatMap_cons, List.length_append, ih, List.length_cons]; simp only [Wrt.vals, List.length_cons, List.length_nil]; omega
theorem Wrt.vals_at (l : List Wrt) : ∀ (k : Nat) (x : Wrt), l[k]? = some x → ∀ j, j < 4 → (l.flatMap Wrt.vals)[k * 4 + j]? = x.vals[j]? := by
  induction l with
  | nil => intro k x h; simp at h
  | cons y l ih =>
    intro k x h j hj
    cases k with
    | zero =>
      simp only [List.getElem?_cons_zero, Option.some.injEq] at h
      subst h
      rw [List.flatMap_cons, Nat.zero_mul, Nat.zero_add, List.getElem?_append_left (by simp [Wrt.vals]; omega)]
    | succ k =>
      simp only [List.getElem?_cons_succ] at h
      rw [List.flatMap_cons, List.getElem?_append_right (by simp [Wrt.vals]; omega)]
      rw [← ih k x h j hj]
      congr 1
      simp [Wrt.vals]
      omega
theorem Sl.atWrt {w : World} {A : Option Addr} {l : List Wrt} (h : Sl w 4 A l.length (l.flatMap Wrt.vals)) {k : Nat} {x : Wrt} (hx : l[k]? = some x) :
    ∃ b off, A = some ⟨b, off, none⟩ ∧ b < w.heap.size ∧ w.cell? ⟨b, off + k * 4, none⟩ = some (.int .i64 x.kind) ∧ w.cell? ⟨b, off + k * 4 + 1, none⟩ = some (.int .i64 x.next) ∧ w.cell? ⟨b, off + k * 4 + 2, none⟩ = some (.int .i64 x.many) ∧ w.cell? ⟨b, off + k * 4 + 3, none⟩ = some x.data.val := by
  have hk : k < l.length := (List.getElem?_eq_some_iff.1 hx).1
  obtain ⟨b, off, hA, hb, hc⟩ := h.2 (by omega)
  have hv := Wrt.vals_at l k x hx
  refine ⟨b, off, hA, hb, ?_, ?_, ?_, ?_⟩
  · have := hc (k * 4 + 0) _ ((hv 0 (by omega)).trans rfl); simpa [Nat.add_assoc] using this
  · have := hc (k * 4 + 1) _ ((hv 1 (by omega)).trans rfl); simpa [Nat.add_assoc] using this
  · have := hc (k * 4 + 2) _ ((hv 2 (by omega)).trans rfl); simpa [Nat.add_assoc] using this
  · have := hc (k * 4 + 3) _ ((hv 3 (by omega)).trans rfl); simpa [Nat.add_assoc] using this
set_option maxRecDepth 100000 in
theorem Wrt.of_trod {H : Type} {enc : TypeId × Value → H} {w : World} {base n : Nat} {spare : Nat → Bool} {held : Bool} {cs : List Value} {y : DataW H × List MemPlace} (hl : cs.length = 4) (h : DataW.trod enc Tryd.prog w base spare held n 31 cs = some y) : ∃ r : Wrt, cs = r.vals ∧ r.ok w := by
  obtain ⟨xs, n, _, _, _, hlen, hf⟩ := DataW.trod_struct Tryd.underlying31 h
  match cs, hl with
  | [c0, c1, c2, c3], _ =>
    match xs, hlen with
    | [y0, y1, y2, y3], _ =>
      have f0 : DataW.trod enc Tryd.prog w base spare held n 3 (([c0, c1, c2, c3].drop 0).take (Tryd.prog.cellsOf 3)) = some y0 := hf 0 _ rfl
      rw [show Tryd.prog.cellsOf 3 = 1 from by kernel_rfl] at f0
      have f1 : DataW.trod enc Tryd.prog w base spare held n 3 (([c0, c1, c2, c3].drop 1).take (Tryd.prog.cellsOf 3)) = some y1 := hf 1 _ rfl
      rw [show Tryd.prog.cellsOf 3 = 1 from by kernel_rfl] at f1
      have f2 : DataW.trod enc Tryd.prog w base spare held n 3 (([c0, c1, c2, c3].drop 2).take (Tryd.prog.cellsOf 3)) = some y2 := hf 2 _ rfl
      rw [show Tryd.prog.cellsOf 3 = 1 from by kernel_rfl] at f2
      have f3 : DataW.trod enc Tryd.prog w base spare held n 29 (([c0, c1, c2, c3].drop 3).take (Tryd.prog.cellsOf 29)) = some y3 := hf 3 _ rfl
      rw [show Tryd.prog.cellsOf 29 = 1 from by kernel_rfl] at f3
      obtain ⟨n0, e0, -, w0⟩ := DataW.trod_int Tryd.underlying3 f0
      simp at e0
      subst e0
      obtain ⟨n1, e1, -, w1⟩ := DataW.trod_int Tryd.underlying3 f1
      simp at e1
      subst e1
      obtain ⟨n2, e2, -, w2⟩ := DataW.trod_int Tryd.underlying3 f2
      simp at e2
      subst e2
      obtain ⟨s, rfl, hok⟩ := SB.of_trod Tryd.underlying29 Tryd.underlying5 (by kernel_rfl) (show DataW.trod enc Tryd.prog w base spare held n 29 [c3] = some y3 from f3)
      exact ⟨⟨n0, n1, n2, s⟩, rfl, wf_bounds w0, wf_bounds w1, wf_bounds w2, hok⟩
theorem Wrt.opened {H : Type} {enc : TypeId × Value → H} {w : World} {base fuel len cap : Nat} {spare : Nat → Bool} {held : Bool} {A : Option Addr} {x : DataW H × List MemPlace} (h : DataW.trod enc Tryd.prog w base spare held fuel 25 [.slice A len cap] = some x) :
    ∃ l : List Wrt, len = l.length ∧ len ≤ maxLen ∧ Sl w 4 A l.length (l.flatMap Wrt.vals) ∧ ∀ r ∈ l, r.ok w := by
  obtain ⟨hm, hc⟩ := open_elems Tryd.underlying25 (s := 4) (by kernel_rfl) (by omega) h
  rcases hc with rfl | ⟨b, off, rfl, hb, hi⟩
  · exact ⟨[], rfl, hm, Sl.nil _ _ _, fun r hr => by cases hr⟩
  · obtain ⟨l, hl, hp⟩ := choose_list (fun i (r : Wrt) => r.ok w ∧ ∀ j u, r.vals[j]? = some u → w.cell? ⟨b, off + (i * 4 + j), none⟩ = some u) len (fun i hil => by
      obtain ⟨cs, n, y, hcl, hat, hT⟩ := hi i hil
      obtain ⟨r, rfl, hok⟩ := Wrt.of_trod hcl hT
      refine ⟨r, hok, fun j u hu => ?_⟩
      have hj : j < 4 := by rw [← hcl]; exact (List.getElem?_eq_some_iff.1 hu).1
      rw [hat j hj, hu])
    refine ⟨l, hl.symm, hm, ⟨Wrt.vals_len l, fun _ => ⟨b, off, rfl, hb, fun j u hu => ?_⟩⟩, fun r hr => ?_⟩
    · have hj : j < l.length * 4 := by rw [← Wrt.vals_len l]; exact (List.getElem?_eq_some_iff.1 hu).1
      have hi' : j / 4 < l.length := by omega
      have hr : l[j / 4]? = some l[j / 4] := List.getElem?_eq_getElem hi'
      have he : j = j / 4 * 4 + j % 4 := by omega
      have hv := Wrt.vals_at l (j / 4) _ hr (j % 4) (by omega)
      rw [← he, hu] at hv
      have := (hp (j / 4) _ hr).2 (j % 4) u hv.symm
      rwa [← he] at this
    · obtain ⟨i, hi, rfl⟩ := List.getElem_of_mem hr
      exact (hp i _ (List.getElem?_eq_getElem hi)).1

end Go.Proofs.YtjlfnebkibgfmaaDoor

/- The chain's law ChainReads: the pages that it writes. -/
namespace Go.Proofs.YtjlfnebkibgfmaaDoor
open Go.RowKit Go.Maps

/-- The pages that were written so far, and the row of their bytes. -/
structure RdsJ (w W : World) (p : Nat) (F : Nat → Prop) (x : Rp) (Ps Rs : List (List Int)) (v : Value) : Prop where
  gp : GP W p F x
  ps : PgsAre x Ps
  was : x.was ≠ none
  slack : x.slack + (Ps.length : Int) = 36
  len : x.now.length = 38
  used : x.now.countP Pk.used = Ps.length
  row : W.ownsRow w.heap.size 9 1 v Rs.length (sv Rs)
  rF : ∀ g, v.ownBlock = some g → ¬ F g
  gr : Grew w W
  new : ∀ j, F j → w.heap.size ≤ j
  pos : 0 < w.heap.size
theorem open0_40 : (Rp.open0 40).slack = 36 ∧ (Rp.open0 40).now.length = 38 ∧ (Rp.open0 40).sz = 64 ∧ (Rp.open0 40).now = List.replicate 38 .no := ⟨by kernel_rfl, by kernel_rfl, rfl, by kernel_rfl⟩
section
variable {w W W' : World} {p : Nat} {F F' : Nat → Prop} {x y : Rp} {Ps Rs Ps' : List (List Int)} {v v' : Value}
theorem RdsJ.grew (h : RdsJ w W p F x Ps Rs v) (hg : Grew W W') : RdsJ w W' p F x Ps Rs v :=
  ⟨h.gp.grew hg, h.ps, h.was, h.slack, h.len, h.used, own_grew h.row hg, h.rF, Grew.trans h.gr hg, h.new, h.pos⟩
theorem RdsJ.chg (h : RdsJ w W p F x Ps Rs v) (hg : GP W' p F x) (hc : Chg F W W') : RdsJ w W' p F x Ps Rs v :=
  ⟨hg, h.ps, h.was, h.slack, h.len, h.used, own_chg h.row hc h.rF, h.rF, chg_new h.gr hc h.new, h.new, h.pos⟩
theorem RdsJ.step (h : RdsJ w W p F x Ps Rs v) (hg : GP W' p F' y) (hr : Rch F F' W W') (h1 : PgsAre y Ps') (h2 : y.was ≠ none) (h3 : y.slack + (Ps'.length : Int) = 36) (h4 : y.now.length = 38) (h5 : y.now.countP Pk.used = Ps'.length) : RdsJ w W' p F' y Ps' Rs v :=
  ⟨hg, h1, h2, h3, h4, h5, own_chg h.row hr.chg h.rF, fun g hgb e => (hr.new g e).elim (h.rF g hgb) fun e => by have := (h.row.lt g hgb).2; omega, chg_new h.gr hr.chg h.new, fun j hj => (hr.new j hj).elim (h.new j) fun e => Nat.le_trans h.gr.size e, h.pos⟩
theorem RdsJ.push (h : RdsJ w W p F x Ps Rs v) {B : List Int} (ha : Ap W W' v v') (ho : W'.ownsRow w.heap.size 9 1 v' (Rs.length + 1) (sv Rs ++ [.string (strOfNums B)])) : RdsJ w W' p F x Ps (Rs ++ [B]) v' := by
  have hn : ∀ j, v.ownBlock = some j → w.heap.size ≤ j := fun j hj => (h.row.lt j hj).1
  refine ⟨h.gp.chg ha.chg (fun j hj e => h.rF j e hj) (fun e => by have := hn 0 e; have := h.pos; omega), h.ps, h.was, h.slack, h.len, h.used, ?_, fun g hg e => (ha.at_ g hg).elim (fun q => h.rF g q e) (fun q => by have := h.gp.lt g e; omega), ha.grow h.gr hn, h.new, h.pos⟩
  rw [sv_snoc] at ho
  simpa using ho
theorem RdsJ.start (h : GP W p F (Rp.open0 40)) (hg : Grew w W) (hn : ∀ j, F j → w.heap.size ≤ j) (hp : 0 < w.heap.size) : RdsJ w W p F (Rp.open0 40) [] [] (.slice none 0 0) := by
  obtain ⟨o1, o2, o3, o4⟩ := open0_40
  refine ⟨h, ⟨fun k B hk => by simp at hk, fun k c _ hk => ?_, o3, by simp, fun B hB => by simp at hB⟩, by simp [Rp.open0, Rp.begun], by rw [o1]; rfl, o2, by rw [o4]; rfl, World.ownsRow_nil _ _ _ _, fun g hg => by simp [Value.ownBlock] at hg, hg, hn, hp⟩
  rw [o4, List.getElem?_replicate] at hk
  split at hk
  · injection hk with hk; subst hk; rfl
  · cases hk
theorem RdsJ.at_ (h : RdsJ w W p F x Ps Rs v) {i : Nat} (hi : x.now[i]? = some .no) (hl : ∀ (k : Nat) c, k < i → x.now[k]? = some c → c ≠ .no) : i = Ps.length := by
  have hN := h.ps.few
  have hL := h.len
  rcases Nat.lt_trichotomy i Ps.length with e | e | e
  · have := h.ps.at_ i _ (List.getElem?_eq_getElem e)
    rw [hi] at this
    cases this
  · exact e
  · have h1 : x.now[Ps.length]? = some (x.now[Ps.length]'(by omega)) := List.getElem?_eq_getElem (by omega)
    have h2 := h.ps.no _ _ (Nat.le_refl _) h1
    have h3 := hl _ _ e h1
    revert h2 h3
    generalize x.now[Ps.length]'(by omega) = c
    cases c <;> simp [Pk.used]
/-- One page more, that is written. -/
theorem PgsAre.more (h : PgsAre x Ps) {B : List Int} (hx : Ps.length < x.now.length) (hN : Ps.length < 8) (hB : B.length = 64 ∧ ∀ q ∈ B, 0 ≤ q ∧ q ≤ 255) : PgsAre ((x.put Ps.length .zero).put Ps.length (.new B)) (Ps ++ [B]) := by
  have hat : ∀ k : Nat, ((x.put Ps.length .zero).put Ps.length (.new B)).now[k]? = if k = Ps.length then some (.new B) else x.now[k]? := fun k => by
    rw [Rp.put_at (by rw [Rp.put_len]; exact hx), Rp.put_at hx]
    split <;> rfl
  refine ⟨fun k C hk => ?_, fun k c hk hc => ?_, h.sz, by simp; omega, fun C hC => ?_⟩
  · rw [hat]
    by_cases e : k < Ps.length
    · rw [List.getElem?_append_left e] at hk
      rw [if_neg (by omega)]
      exact h.at_ k C hk
    · rw [List.getElem?_append_right (by omega)] at hk
      have : k - Ps.length = 0 := by
        rcases Nat.eq_zero_or_pos (k - Ps.length) with h0 | h0
        · exact h0
        · rw [List.getElem?_eq_none (by simp; omega)] at hk; cases hk
      rw [this] at hk
      simp at hk
      subst hk
      rw [if_pos (by omega)]
  · simp only [List.length_append, List.length_singleton] at hk
    rw [hat, if_neg (by omega)] at hc
    exact h.no k c (by omega) hc
  · rcases List.mem_append.1 hC with e | e
    · exact h.byt C e
    · simp only [List.mem_singleton] at e; subst e; exact hB
end

/-- string(b) of a row of the call's own. -/
theorem conv_own {w : World} {base n c : Nat} {bs : List Int} {A : Option Addr} (h : w.ownsRow base 5 1 (.slice A n c) n (bv bs)) : (convert 29 9 (.slice A n c)).run Tryd.prog w = .ok (.string (strOfNums bs)) w := by
  have hl : bs.length = n := by have := h.1; rwa [bv_len, Nat.mul_one] at this
  rcases A with _ | a
  · have h0 : n = 0 := (own_none h).1
    subst h0
    obtain rfl : bs = [] := List.eq_nil_of_length_eq_zero hl
    exact run_convert_bytes_nil w 29 5 Tryd.underlying29 (by kernel_rfl) 0 c 9 (by kernel_rfl)
  · obtain ⟨g, rfl, hg⟩ := own_some h
    refine run_convert_bytes_arg w 29 5 Tryd.underlying29 (by kernel_rfl) g 0 n c bs hl (fun i hi => ?_) 9 (by kernel_rfl)
    have := World.ownsRow.cells (g := g) h rfl i (.int .u8 (bs.getD i 0)) (by
      have hib : i < bs.length := by omega
      simp [bv, hib])
    rw [Addr.add_lit] at this
    simpa using this

theorem wrap_byte (z : Int) : 0 ≤ IntKind.u8.wrap z ∧ IntKind.u8.wrap z ≤ 255 := bounds_u8 (wf_wrap .u8 z)
theorem blk_five {w : World} {g : Nat} (h : Blk w g 5 (bv (List.replicate 64 0)).toArray) (u0 u1 u2 u3 u4 : Int) :
    Blk ((((((w.setCell ⟨g, 0, none⟩ (.int .u8 u0)).setCell ⟨g, 1, none⟩ (.int .u8 u1)).setCell ⟨g, 2, none⟩ (.int .u8 u2)).setCell ⟨g, 3, none⟩ (.int .u8 u3)).setCell ⟨g, 4, none⟩ (.int .u8 u4)).drew) g 5 (bv (u0 :: u1 :: u2 :: u3 :: u4 :: List.replicate 59 0)).toArray :=
  ((((((h.put 0 (.int .u8 u0)).put 1 (.int .u8 u1)).put 2 (.int .u8 u2)).put 3 (.int .u8 u3)).put 4 (.int .u8 u4)).drew)
/-- What copy lays behind the head. -/
def lay5 (C D : List Int) : List Int := splice C 5 (D.take 59)
theorem lay5_ok {C D : List Int} (hC : C.length = 64) (hc : ∀ q ∈ C, 0 ≤ q ∧ q ≤ 255) (hd : ∀ q ∈ D, 0 ≤ q ∧ q ≤ 255) : (lay5 C D).length = 64 ∧ ∀ q ∈ lay5 C D, 0 ≤ q ∧ q ≤ 255 := by
  unfold lay5 splice
  refine ⟨by simp; omega, fun q hq => ?_⟩
  simp only [List.mem_append] at hq
  rcases hq with e | e | e
  · exact hc q (List.mem_of_mem_take e)
  · exact hd q (List.mem_of_mem_take e)
  · exact hc q (List.mem_of_mem_drop e)
theorem bv_splice (C D : List Int) : splice (bv C) 5 (bv (D.take 59)) = bv (lay5 C D) := by simp [splice, lay5, bv, List.map_take, List.map_drop]
theorem copy_run {W : World} {g c : Nat} {C D : List Int} {A : Option Addr} (hg : Blk W g 5 (bv C).toArray) (hC : C.length = 64) (hs : Sl W 1 A D.length (bv D)) :
    ∃ w', (Builtin.copy_ #[29, 29] 3 #[.slice (some ⟨g, 5, none⟩) 59 59, .slice A D.length c]).run Tryd.prog W = .ok (.int .i64 ((bv (D.take 59)).length : Nat)) w' ∧ Blk w' g 5 (bv (lay5 C D)).toArray ∧ W.grownBy w' (some g) := by
  rw [← bv_splice]
  refine run_copy_sp (P := Tryd.prog) (ty := 3) (sT := 29) (dLen := 59) (dCap := 59) (sLen := D.length) (sCap := c) (sp := A) (off := 5) (cs := bv (D.take 59)) Tryd.underlying29 (by kernel_rfl) hg (by rw [bv_len, List.length_take]; exact Nat.min_comm _ _) (fun h0 => ?_) (by simp [bv_len]; omega) (bv_one _)
  rw [bv_len, List.length_take] at h0
  obtain ⟨ad, e, hx⟩ := hs.src (by rw [bv_len]; omega)
  refine ⟨ad, e, fun j v hv => hx j v ?_⟩
  simp only [bv, List.map_take] at hv
  rw [List.getElem?_take] at hv
  split at hv
  · exact hv
  · cases hv

set_option maxRecDepth 100000 in
set_option maxHeartbeats 6400000 in
theorem creads_walk (w : World) (hT : TabAt 0 tab w) (A : Option Addr) (c : Nat) (l : List Wrt) (hm : l.length ≤ maxLen) (hs : Sl w 4 A l.length (l.flatMap Wrt.vals)) (ok : ∀ r ∈ l, r.ok w) (a1 : Int) (ha : -9223372036854775808 ≤ a1 ∧ a1 ≤ 9223372036854775807) :
    Calls Tryd.prog 4 #[.slice A l.length c, .int .i64 a1] w fun e w' => e = .returned (.bool true) ∧ Grew w w' := by
  have H := Lib.hid (And.intro hT (And.intro hs ok))
  have HA := Lib.hid (fun u (hg : Grew w u) => cawake_any u (tab_chg hT hg id))
  clear hT hs ok
  by_cases hl : l.length ≤ 8
  · have t1 : decide ((8 : Int) < (l.length : Int)) = false := decide_eq_false (by omega)
    go_enter Tryd.func4, Tryd.ntmps4
    go_wp2_with fail
    refine (fresh_any 40 _ H.out.1 (by omega) (by omega)).mono ?_
    rintro e w1 ⟨p, F, rfl, hp, hg1, hn1⟩
    have HJ0 := Lib.hid (RdsJ.start hp hg1 hn1 (tab_pos H.out.1))
    clear hp hg1 hn1
    go_wp2_with fail
    go_loopg [6, 27] l.length (fun q v k wr => ∃ (n : Nat) (F : Nat → Prop) (x : Rp) (Ps : List (List Int)), q = l.length - n ∧ n ≤ l.length ∧ Ps.length = n ∧ RdsJ w wr p F x Ps Ps v ∧ k = .int .i64 n)
    case atStart => exact ⟨0, F, _, [], rfl, Nat.zero_le _, rfl, HJ0.out, rfl⟩
    case round =>
      obtain ⟨n, F1, x, Ps, rfl, hn, rfl, hJ, rfl⟩ := hrel
      obtain ⟨Av, cv, rfl, -⟩ := own_shape hJ.row
      have HJ := Lib.hid (And.intro hJ trivial)
      clear hJ
      by_cases hlt : Ps.length < l.length
      · obtain ⟨r, hr⟩ : ∃ r, l[Ps.length]? = some r := ⟨_, List.getElem?_eq_getElem hlt⟩
        obtain ⟨bA, oA, rfl, hbA, k0, k1, k2, k3⟩ := H.out.2.1.atWrt hr
        have hgr := HJ.out.1.gr
        have c0 := (hgr.cell (p := ⟨bA, oA + Ps.length * 4, none⟩) hbA id).trans k0
        have c1 := (hgr.cell (p := ⟨bA, oA + Ps.length * 4 + 1, none⟩) hbA id).trans k1
        have c2 := (hgr.cell (p := ⟨bA, oA + Ps.length * 4 + 2, none⟩) hbA id).trans k2
        have c3 := (hgr.cell (p := ⟨bA, oA + Ps.length * 4 + 3, none⟩) hbA id).trans k3
        have hrk := H.out.2.2 r (List.mem_of_getElem? hr)
        have HR := Lib.hid (And.intro hrk hr)
        obtain ⟨kd, nx, mn, ⟨dA, dc, D⟩⟩ := r
        simp only [SB.val] at c3
        obtain ⟨⟨b1, b2⟩, ⟨b3, b4⟩, ⟨b5, b6⟩, -⟩ := hrk
        dsimp only at b1 b2 b3 b4 b5 b6 c0 c1 c2
        clear hr k0 k1 k2 k3 hgr
        obtain ⟨W0, hW0⟩ : ∃ W, wr.alloc (.cells #[.int .i64 kd, .int .i64 nx, .int .i64 mn, .slice dA D.length dc] 31) = W := ⟨_, rfl⟩
        have hG0 : Grew wr W0 := hW0 ▸ (Chg.refl _ _).alloc _
        have HW0 := Lib.hid hW0
        have hB0 : Blk W0 wr.heap.size 31 #[.int .i64 kd, .int .i64 nx, .int .i64 mn, .slice dA D.length dc] := by rw [← hW0]; exact Blk.new _ _ _
        obtain ⟨e1, e2, e3⟩ := hB0.facts
        by_cases hd : D.length ≤ 64
        · have t2 : decide ((64 : Int) < (D.length : Int)) = false := decide_eq_false (by omega)
          obtain ⟨w2, hmk0, ho2, hg2, hz2⟩ := make_bytes 64 W0 (by omega)
          have hz0 : W0.heap.size = wr.heap.size + 1 := by rw [← hW0]; simp
          have hB8 := hB0.grew hg2
          rw [hz0] at hmk0 ho2
          have hBg : Blk w2 (wr.heap.size + 1) 5 (bv (List.replicate 64 0)).toArray := by
            obtain ⟨cur, -, h1, -, -, h2, h3, -⟩ := own_row ho2
            have : cur = (bv (List.replicate 64 0)).toArray := by
              apply Array.toList_inj.1
              rw [List.toList_toArray, ← h3, List.take_of_length_le (by simp [h2])]
            rw [this] at h1
            exact h1
          have hmk : (Instr.makeSlice 29 (.int .i64 64) (.int .i64 64)).run Tryd.prog W0 = .ok (.slice (some ⟨wr.heap.size + 1, 0, none⟩) 64 64) w2 := hmk0
          have HB := Lib.hid (And.intro hB8 (And.intro hBg (Grew.trans hG0 hg2)))
          obtain ⟨f1, f2, f3⟩ := hB8.facts
          obtain ⟨g1, g2, g3⟩ := hBg.facts
          clear hmk0 ho2 hg2 hz2 hz0 hB8 hBg hG0 hB0
          go_wp2_with (rw [HW0.out])
          clear hmk e1 e2 e3 c0 c1 c2 c3
          have hS0 : ∀ W', Chg (fun j => j = wr.heap.size + 1) w2 W' → W'.cell? ⟨wr.heap.size, 0, none⟩ = some (.int .i64 kd) ∧ W'.cell? ⟨wr.heap.size, 1, none⟩ = some (.int .i64 nx) ∧ W'.cell? ⟨wr.heap.size, 2, none⟩ = some (.int .i64 mn) := fun W' hc => by
            have h8 := HB.out.1.chg hc (by omega)
            exact ⟨h8.cell 0, h8.cell 1, h8.cell 2⟩
          have HS0 := Lib.hid hS0
          refine wp_region_held_drew (S := fun W' => W'.cell? ⟨wr.heap.size, 0, none⟩ = some (.int .i64 kd) ∧ W'.cell? ⟨wr.heap.size, 1, none⟩ = some (.int .i64 nx) ∧ W'.cell? ⟨wr.heap.size, 2, none⟩ = some (.int .i64 mn)) (by kernel_rfl) (hS0 _ ((Chg.refl _ _).drew)) (fun hHeld => ?_)
          clear hS0
          refine wpAnyH_take (i := 0) (v := ?_) rfl (by kernel_rfl) (by kernel_rfl) (by kernel_rfl) (fun _ _ _ h => h) (Or.inl ⟨by rfl, ?_⟩) hHeld ?_
          rotate_left
          · (intro w hSw; (try dsimp only at hSw); go_simp) <;> with_reducible rfl
          (try simp only [Act.put, List.setIfInBounds_toArray, List.set_cons_zero, List.set_cons_succ])
          refine wpAnyH_take (i := 1) (v := ?_) rfl (by kernel_rfl) (by kernel_rfl) (by kernel_rfl) (fun _ _ _ h => h) (Or.inl ⟨by rfl, ?_⟩) hHeld ?_
          rotate_left
          · (intro w hSw; (try dsimp only at hSw); go_simp) <;> with_reducible rfl
          (try simp only [Act.put, List.setIfInBounds_toArray, List.set_cons_zero, List.set_cons_succ])
          refine wpAnyH_take (i := 2) (v := ?_) rfl (by kernel_rfl) (by kernel_rfl) (by kernel_rfl) (fun _ _ _ h => h) (Or.inl ⟨by rfl, ?_⟩) hHeld ?_
          rotate_left
          · (intro w hSw; (try dsimp only at hSw); go_simp) <;> with_reducible rfl
          (try simp only [Act.put, List.setIfInBounds_toArray, List.set_cons_zero, List.set_cons_succ])
          refine wpAnyH_take (i := 3) (v := ?_) rfl (by kernel_rfl) (by kernel_rfl) (by kernel_rfl) (fun _ _ _ h => h) (Or.inl ⟨by rfl, ?_⟩) hHeld ?_
          rotate_left
          · (intro w hSw; (try dsimp only at hSw); go_simp) <;> with_reducible rfl
          (try simp only [Act.put, List.setIfInBounds_toArray, List.set_cons_zero, List.set_cons_succ])
          refine wpAnyH_take (i := 4) (v := ?_) rfl (by kernel_rfl) (by kernel_rfl) (by kernel_rfl) (fun _ _ _ h => h) (Or.inl ⟨by rfl, ?_⟩) hHeld ?_
          rotate_left
          · (intro w hSw; (try dsimp only at hSw); go_simp) <;> with_reducible rfl
          (try simp only [Act.put, List.setIfInBounds_toArray, List.set_cons_zero, List.set_cons_succ])
          refine wpAnyH_take (i := 5) (v := ?_) rfl (by kernel_rfl) (by kernel_rfl) (by kernel_rfl) (fun _ _ _ h => h) (Or.inl ⟨by rfl, ?_⟩) hHeld ?_
          rotate_left
          · (intro w hSw; (try dsimp only at hSw); go_simp) <;> with_reducible rfl
          (try simp only [Act.put, List.setIfInBounds_toArray, List.set_cons_zero, List.set_cons_succ])
          refine wpAnyH_take (i := 6) (v := ?_) rfl (by kernel_rfl) (by kernel_rfl) (by kernel_rfl) (fun _ _ _ h => h) (Or.inl ⟨by rfl, ?_⟩) hHeld ?_
          rotate_left
          · (intro w hSw; (try dsimp only at hSw); go_simp) <;> with_reducible rfl
          (try simp only [Act.put, List.setIfInBounds_toArray, List.set_cons_zero, List.set_cons_succ])
          refine wpAnyH_take (i := 7) (v := ?_) rfl (by kernel_rfl) (by kernel_rfl) (by kernel_rfl) (fun _ _ _ h => h) (Or.inl ⟨by rfl, ?_⟩) hHeld ?_
          rotate_left
          · (intro w hSw; (try dsimp only at hSw); go_simp) <;> with_reducible rfl
          (try simp only [Act.put, List.setIfInBounds_toArray, List.set_cons_zero, List.set_cons_succ])
          refine wpAnyH_take (i := 8) (v := ?_) rfl (by kernel_rfl) (by kernel_rfl) (by kernel_rfl) (fun _ _ _ h => h) (Or.inl ⟨by rfl, ?_⟩) hHeld ?_
          rotate_left
          · (intro w hSw; (try dsimp only at hSw); go_simp) <;> with_reducible rfl
          (try simp only [Act.put, List.setIfInBounds_toArray, List.set_cons_zero, List.set_cons_succ])
          refine wpAnyH_take (i := 9) (v := ?_) rfl (by kernel_rfl) (by kernel_rfl) (by kernel_rfl) (fun _ _ _ h => h) (Or.inl ⟨by rfl, ?_⟩) hHeld ?_
          rotate_left
          · (intro w hSw; (try dsimp only at hSw); go_simp) <;> with_reducible rfl
          (try simp only [Act.put, List.setIfInBounds_toArray, List.set_cons_zero, List.set_cons_succ])
          refine wpAnyH_take (i := 10) (v := ?_) rfl (by kernel_rfl) (by kernel_rfl) (by kernel_rfl) (fun _ _ _ h => h) (Or.inl ⟨by rfl, ?_⟩) hHeld ?_
          rotate_left
          · (intro w hSw; (try dsimp only at hSw); go_simp) <;> with_reducible rfl
          (try simp only [Act.put, List.setIfInBounds_toArray, List.set_cons_zero, List.set_cons_succ])
          refine wpAnyH_take (i := 11) (v := ?_) rfl (by kernel_rfl) (by kernel_rfl) (by kernel_rfl) (fun _ _ _ h => h) (Or.inl ⟨by rfl, ?_⟩) hHeld ?_
          rotate_left
          · (intro w hSw; (try dsimp only at hSw); go_simp) <;> with_reducible rfl
          (try simp only [Act.put, List.setIfInBounds_toArray, List.set_cons_zero, List.set_cons_succ])
          refine wpAnyH_take (i := 12) (v := ?_) rfl (by kernel_rfl) (by kernel_rfl) (by kernel_rfl) (fun _ _ _ h => h) (Or.inl ⟨by rfl, ?_⟩) hHeld ?_
          rotate_left
          · (intro w hSw; (try dsimp only at hSw); go_simp) <;> with_reducible rfl
          (try simp only [Act.put, List.setIfInBounds_toArray, List.set_cons_zero, List.set_cons_succ])
          refine wpAnyH_take (i := 13) (v := ?_) rfl (by kernel_rfl) (by kernel_rfl) (by kernel_rfl) (fun _ _ _ h => h) (Or.inl ⟨by rfl, ?_⟩) hHeld ?_
          rotate_left
          · (intro w hSw; (try dsimp only at hSw); go_simp) <;> with_reducible rfl
          (try simp only [Act.put, List.setIfInBounds_toArray, List.set_cons_zero, List.set_cons_succ])
          refine wpAnyH_take (i := 14) (v := ?_) rfl (by kernel_rfl) (by kernel_rfl) (by kernel_rfl) (fun _ _ _ h => h) (Or.inl ⟨by rfl, ?_⟩) hHeld ?_
          rotate_left
          · (intro w hSw; (try dsimp only at hSw); go_simp) <;> with_reducible rfl
          (try simp only [Act.put, List.setIfInBounds_toArray, List.set_cons_zero, List.set_cons_succ])
          refine wpAnyH_take (i := 15) (v := ?_) rfl (by kernel_rfl) (by kernel_rfl) (by kernel_rfl) (fun _ _ _ h => h) (Or.inl ⟨by rfl, ?_⟩) hHeld ?_
          rotate_left
          · (intro w hSw; (try dsimp only at hSw); go_simp) <;> with_reducible rfl
          (try simp only [Act.put, List.setIfInBounds_toArray, List.set_cons_zero, List.set_cons_succ])
          refine wpAnyH_take (i := 16) (v := ?_) rfl (by kernel_rfl) (by kernel_rfl) (by kernel_rfl) (fun _ _ _ h => h) (Or.inl ⟨by rfl, ?_⟩) hHeld ?_
          rotate_left
          · (intro w hSw; (try dsimp only at hSw); go_simp) <;> with_reducible rfl
          (try simp only [Act.put, List.setIfInBounds_toArray, List.set_cons_zero, List.set_cons_succ])
          refine wpAnyH_take (i := 17) (v := ?_) rfl (by kernel_rfl) (by kernel_rfl) (by kernel_rfl) (fun _ _ _ h => h) (Or.inl ⟨by rfl, ?_⟩) hHeld ?_
          rotate_left
          · (intro w hSw; (try dsimp only at hSw); go_simp) <;> with_reducible rfl
          (try simp only [Act.put, List.setIfInBounds_toArray, List.set_cons_zero, List.set_cons_succ])
          refine wpAnyH_take (i := 18) (v := ?_) rfl (by kernel_rfl) (by kernel_rfl) (by kernel_rfl) (fun _ _ _ h => h) (Or.inl ⟨by rfl, ?_⟩) hHeld ?_
          rotate_left
          · (intro w hSw; (try dsimp only at hSw); go_simp) <;> with_reducible rfl
          (try simp only [Act.put, List.setIfInBounds_toArray, List.set_cons_zero, List.set_cons_succ])
          refine wpAnyH_take (i := 19) (v := ?_) rfl (by kernel_rfl) (by kernel_rfl) (by kernel_rfl) (fun _ _ _ h => h) (Or.inl ⟨by rfl, ?_⟩) hHeld ?_
          rotate_left
          · (intro w hSw; (try dsimp only at hSw); go_simp) <;> with_reducible rfl
          (try simp only [Act.put, List.setIfInBounds_toArray, List.set_cons_zero, List.set_cons_succ])
          refine wpAnyH_take (i := 20) (v := ?_) rfl (by kernel_rfl) (by kernel_rfl) (by kernel_rfl) (fun _ _ _ h => h) (Or.inl ⟨by rfl, ?_⟩) hHeld ?_
          rotate_left
          · (intro w hSw; (try dsimp only at hSw); go_simp) <;> with_reducible rfl
          (try simp only [Act.put, List.setIfInBounds_toArray, List.set_cons_zero, List.set_cons_succ])
          refine wpAnyH_take (i := 21) (v := ?_) rfl (by kernel_rfl) (by kernel_rfl) (by kernel_rfl) (fun _ _ _ h => h) (Or.inl ⟨by rfl, ?_⟩) hHeld ?_
          rotate_left
          · (intro w hSw; (try dsimp only at hSw); go_simp) <;> with_reducible rfl
          (try simp only [Act.put, List.setIfInBounds_toArray, List.set_cons_zero, List.set_cons_succ])
          refine wpAnyH_take (i := 22) (v := ?_) rfl (by kernel_rfl) (by kernel_rfl) (by kernel_rfl) (fun _ _ _ h => h) (Or.inl ⟨by rfl, ?_⟩) hHeld ?_
          rotate_left
          · (intro w hSw; (try dsimp only at hSw); go_simp) <;> with_reducible rfl
          (try simp only [Act.put, List.setIfInBounds_toArray, List.set_cons_zero, List.set_cons_succ])
          refine wpAnyH_ready (rs := [23]) (by kernel_rfl) (by simp) ?_
          refine AllReadyH.cons rfl (fun K hK => ?_) AllReadyH.nil
          go_simp
          refine hK.out _ _ (HS0.out _ (by (repeat (first | (with_reducible exact (Chg.refl _ _)) | (with_reducible refine Chg.alloc ?_ _) | (with_reducible refine Chg.drew ?_) | (with_reducible refine Chg.drewN ?_ _) | ((with_reducible refine Chg.setCell ?_ ?hp _); (case hp => (intro _; rfl))))))) (fun hHeld => ?_)
          clear hK K
          (try simp only [Act.put, List.setIfInBounds_toArray, List.set_cons_zero, List.set_cons_succ])
          refine wpAnyH_take (i := 24) (v := ?_) rfl (by kernel_rfl) (by kernel_rfl) (by kernel_rfl) (fun _ _ _ h => h) (Or.inl ⟨by rfl, ?_⟩) hHeld ?_
          rotate_left
          · (intro w hSw; (try dsimp only at hSw); go_simp) <;> with_reducible rfl
          (try simp only [Act.put, List.setIfInBounds_toArray, List.set_cons_zero, List.set_cons_succ])
          refine wpAnyH_ready (rs := [25]) (by kernel_rfl) (by simp) ?_
          refine AllReadyH.cons rfl (fun K hK => ?_) AllReadyH.nil
          go_simp
          refine hK.out _ _ (HS0.out _ (by (repeat (first | (with_reducible exact (Chg.refl _ _)) | (with_reducible refine Chg.alloc ?_ _) | (with_reducible refine Chg.drew ?_) | (with_reducible refine Chg.drewN ?_ _) | ((with_reducible refine Chg.setCell ?_ ?hp _); (case hp => (intro _; rfl))))))) (fun hHeld => ?_)
          clear hK K
          (try simp only [Act.put, List.setIfInBounds_toArray, List.set_cons_zero, List.set_cons_succ])
          refine wpAnyH_take (i := 26) (v := ?_) rfl (by kernel_rfl) (by kernel_rfl) (by kernel_rfl) (fun _ _ _ h => h) (Or.inl ⟨by rfl, ?_⟩) hHeld ?_
          rotate_left
          · (intro w hSw; (try dsimp only at hSw); go_simp) <;> with_reducible rfl
          (try simp only [Act.put, List.setIfInBounds_toArray, List.set_cons_zero, List.set_cons_succ])
          refine wpAnyH_ready (rs := [27]) (by kernel_rfl) (by simp) ?_
          refine AllReadyH.cons rfl (fun K hK => ?_) AllReadyH.nil
          go_simp
          refine hK.out _ _ (HS0.out _ (by (repeat (first | (with_reducible exact (Chg.refl _ _)) | (with_reducible refine Chg.alloc ?_ _) | (with_reducible refine Chg.drew ?_) | (with_reducible refine Chg.drewN ?_ _) | ((with_reducible refine Chg.setCell ?_ ?hp _); (case hp => (intro _; rfl))))))) (fun hHeld => ?_)
          clear hK K
          (try simp only [Act.put, List.setIfInBounds_toArray, List.set_cons_zero, List.set_cons_succ])
          refine wpAnyH_take (i := 28) (v := ?_) rfl (by kernel_rfl) (by kernel_rfl) (by kernel_rfl) (fun _ _ _ h => h) (Or.inl ⟨by rfl, ?_⟩) hHeld ?_
          rotate_left
          · (intro w hSw; (try dsimp only at hSw); go_simp) <;> with_reducible rfl
          (try simp only [Act.put, List.setIfInBounds_toArray, List.set_cons_zero, List.set_cons_succ])
          refine wpAnyH_ready (rs := [29]) (by kernel_rfl) (by simp) ?_
          refine AllReadyH.cons rfl (fun K hK => ?_) AllReadyH.nil
          go_simp
          refine hK.out _ _ (HS0.out _ (by (repeat (first | (with_reducible exact (Chg.refl _ _)) | (with_reducible refine Chg.alloc ?_ _) | (with_reducible refine Chg.drew ?_) | (with_reducible refine Chg.drewN ?_ _) | ((with_reducible refine Chg.setCell ?_ ?hp _); (case hp => (intro _; rfl))))))) (fun hHeld => ?_)
          clear hK K
          (try simp only [Act.put, List.setIfInBounds_toArray, List.set_cons_zero, List.set_cons_succ])
          refine wpAnyH_take (i := 30) (v := ?_) rfl (by kernel_rfl) (by kernel_rfl) (by kernel_rfl) (fun _ _ _ h => h) (Or.inl ⟨by rfl, ?_⟩) hHeld ?_
          rotate_left
          · (intro w hSw; (try dsimp only at hSw); go_simp) <;> with_reducible rfl
          (try simp only [Act.put, List.setIfInBounds_toArray, List.set_cons_zero, List.set_cons_succ])
          refine wpAnyH_ready (rs := [31]) (by kernel_rfl) (by simp) ?_
          refine AllReadyH.cons rfl (fun K hK => ?_) AllReadyH.nil
          go_simp
          refine hK.out _ _ (HS0.out _ (by (repeat (first | (with_reducible exact (Chg.refl _ _)) | (with_reducible refine Chg.alloc ?_ _) | (with_reducible refine Chg.drew ?_) | (with_reducible refine Chg.drewN ?_ _) | ((with_reducible refine Chg.setCell ?_ ?hp _); (case hp => (intro _; rfl))))))) (fun hHeld => ?_)
          clear hK K
          (try simp only [Act.put, List.setIfInBounds_toArray, List.set_cons_zero, List.set_cons_succ])
          refine wpAnyH_done (by kernel_rfl) ?_ _
          clear hHeld HS0
          have h5 := blk_five HB.out.2.1 (IntKind.u8.wrap kd) (IntKind.u8.wrap nx) (IntKind.u8.wrap (nx / 256)) (IntKind.u8.wrap mn) (IntKind.u8.wrap (mn / 256))
          obtain ⟨C, hC⟩ : ∃ C, IntKind.u8.wrap kd :: IntKind.u8.wrap nx :: IntKind.u8.wrap (nx / 256) :: IntKind.u8.wrap mn :: IntKind.u8.wrap (mn / 256) :: List.replicate 59 0 = C := ⟨_, rfl⟩
          have hCl : C.length = 64 := by rw [← hC]; simp
          have hCb : ∀ q ∈ C, 0 ≤ q ∧ q ≤ 255 := by
            rw [← hC]
            intro q hq
            simp only [List.mem_cons, List.mem_replicate] at hq
            rcases hq with rfl | rfl | rfl | rfl | rfl | ⟨-, rfl⟩
            · exact wrap_byte _
            · exact wrap_byte _
            · exact wrap_byte _
            · exact wrap_byte _
            · exact wrap_byte _
            · omega
          have hg5 : Chg (fun j => j = wr.heap.size + 1) w2 ((((((w2.setCell ⟨wr.heap.size + 1, 0, none⟩ (.int .u8 (IntKind.u8.wrap kd))).setCell ⟨wr.heap.size + 1, 1, none⟩ (.int .u8 (IntKind.u8.wrap nx))).setCell ⟨wr.heap.size + 1, 2, none⟩ (.int .u8 (IntKind.u8.wrap (nx / 256)))).setCell ⟨wr.heap.size + 1, 3, none⟩ (.int .u8 (IntKind.u8.wrap mn))).setCell ⟨wr.heap.size + 1, 4, none⟩ (.int .u8 (IntKind.u8.wrap (mn / 256)))).drew) := by
            (repeat (first | (with_reducible exact (Chg.refl _ _)) | (with_reducible refine Chg.alloc ?_ _) | (with_reducible refine Chg.drew ?_) | (with_reducible refine Chg.drewN ?_ _) | ((with_reducible refine Chg.setCell ?_ ?hp _); (case hp => (intro _; rfl)))))
          rw [hC] at h5
          obtain ⟨W5, hW5⟩ : ∃ W, ((((((w2.setCell ⟨wr.heap.size + 1, 0, none⟩ (.int .u8 (IntKind.u8.wrap kd))).setCell ⟨wr.heap.size + 1, 1, none⟩ (.int .u8 (IntKind.u8.wrap nx))).setCell ⟨wr.heap.size + 1, 2, none⟩ (.int .u8 (IntKind.u8.wrap (nx / 256)))).setCell ⟨wr.heap.size + 1, 3, none⟩ (.int .u8 (IntKind.u8.wrap mn))).setCell ⟨wr.heap.size + 1, 4, none⟩ (.int .u8 (IntKind.u8.wrap (mn / 256)))).drew) = W := ⟨_, rfl⟩
          rw [hW5] at h5 hg5 ⊢
          have h8 := HB.out.1.chg hg5 (by omega)
          have hG5 : Grew wr W5 := Chg.trans HB.out.2.2 hg5 fun i hi e => by omega
          have hsd : Sl W5 1 dA D.length (bv D) := HR.out.1.2.2.2.1.grew (Grew.trans HJ.out.1.gr hG5)
          obtain ⟨w6, hcp0, hb6, hg6⟩ := copy_run (c := dc) h5.drew hCl (show Sl W5.drew 1 dA D.length (bv D) from hsd)
          have hcp : (Builtin.copy_ #[29, 29] 3 #[.slice (some ⟨wr.heap.size + 1, 5, none⟩) 59 59, .slice dA D.length dc]).run Tryd.prog W5.drew = .ok (.int .i64 ((bv (D.take 59)).length : Nat)) w6 := hcp0
          have hB6 := lay5_ok hCl hCb HR.out.1.2.2.2.2.2.2
          have hG6 : Grew wr w6 := (hG5.drew).grown hg6 fun k hk hlt => by injection hk with hk; omega
          have H6 := Lib.hid (And.intro hb6 (And.intro hG6 hB6))
          have H6B := Lib.hid h8
          have H6G := Lib.hid (show W5.drew.grownBy w6 (some (wr.heap.size + 1)) from hg6)
          obtain ⟨e1, e2, e3⟩ := h8.facts
          clear f1 f2 f3 g1 g2 g3 h5 hC hCl hCb hg5 hW5 h8 hG5 hsd hcp0 hb6 hg6 hB6 hG6
          go_wp2_with fail
          refine wp_region_held_drew (S := fun W' => W'.cell? ⟨wr.heap.size, 3, none⟩ = some (.slice dA D.length dc)) (by kernel_rfl) (e1 3) (fun hHeld => ?_)
          refine wpAnyH_take (i := 0) (v := ?_) rfl (by kernel_rfl) (by kernel_rfl) (by kernel_rfl) (fun _ _ _ h => h) (Or.inl ⟨by rfl, ?_⟩) hHeld ?_
          rotate_left
          · (intro w hSw; (try dsimp only at hSw); go_simp) <;> with_reducible rfl
          (try simp only [Act.put, List.setIfInBounds_toArray, List.set_cons_zero, List.set_cons_succ])
          refine wpAnyH_take (i := 1) (v := ?_) rfl (by kernel_rfl) (by kernel_rfl) (by kernel_rfl) (fun _ _ _ h => h) (Or.inl ⟨by rfl, ?_⟩) hHeld ?_
          rotate_left
          · (intro w hSw; (try dsimp only at hSw); go_simp) <;> with_reducible rfl
          (try simp only [Act.put, List.setIfInBounds_toArray, List.set_cons_zero, List.set_cons_succ])
          refine wpAnyH_take (i := 2) (v := ?_) rfl (by kernel_rfl) (by kernel_rfl) (by kernel_rfl) (fun _ _ _ h => h) (Or.inl ⟨by rfl, ?_⟩) hHeld ?_
          rotate_left
          · (intro w hSw; (try dsimp only at hSw); go_simp) <;> with_reducible rfl
          (try simp only [Act.put, List.setIfInBounds_toArray, List.set_cons_zero, List.set_cons_succ])
          refine wpAnyH_take (i := 3) (v := ?_) rfl (by kernel_rfl) (by kernel_rfl) (by kernel_rfl) (fun _ _ _ h => h) (Or.inl ⟨by rfl, ?_⟩) hHeld ?_
          rotate_left
          · (intro w hSw; (try dsimp only at hSw); go_simp) <;> with_reducible rfl
          (try simp only [Act.put, List.setIfInBounds_toArray, List.set_cons_zero, List.set_cons_succ])
          refine wpAnyH_ready (rs := [4]) (by kernel_rfl) (by simp) ?_
          refine AllReadyH.cons rfl (fun K hK => ?_) AllReadyH.nil
          go_simp
          refine hK.out _ _ (by have := ((H6B.out.drew).chg (grown_chg H6G.out) (by simp)).cell 3; exact this) (fun hHeld => ?_)
          clear hK K
          (try simp only [Act.put, List.setIfInBounds_toArray, List.set_cons_zero, List.set_cons_succ])
          refine wpAnyH_done (by kernel_rfl) ?_ _
          clear hHeld hcp e1 e2 e3 H6B H6G
          obtain ⟨B, hBB⟩ : ∃ B, lay5 C D = B := ⟨_, rfl⟩
          rw [hBB] at H6
          have hBg6 : Blk w6 (wr.heap.size + 1) 5 (bv B).toArray := H6.out.1
          have hJ6 := HJ.out.1.grew H6.out.2.1
          have hB6 := H6.out.2.2
          have hno : Pk.no ∈ x.now := no_mem _ (by have := hJ6.used; have := hJ6.len; omega)
          have hslk : (0 : Int) ≤ x.slack := by have := hJ6.slack; omega
          have hgF1 : ¬ F1 (wr.heap.size + 1) := fun e => by have := HJ.out.1.gp.lt _ e; omega
          have H7 := Lib.hid (And.intro hJ6 (And.intro hBg6 (And.intro hB6 (And.intro hno (And.intro hslk hgF1)))))
          clear hBg6 hJ6 hB6 hno hslk hgF1 hBB
          go_wp2_with fail
          refine (gp_alloc_any p F1 x w6 H7.out.1.gp H7.out.1.was).mono ?_
          rintro e w7 (⟨i, h1, h2, rfl, F2, h3, h4, h5⟩ | ⟨hne, -, -⟩)
          rotate_left
          · exact absurd ⟨H7.out.2.2.2.2.1, H7.out.2.2.2.1⟩ hne
          obtain rfl : i = Ps.length := H7.out.1.at_ h1 h2
          have hil : Ps.length < x.now.length := (List.getElem?_eq_some_iff.1 h1).1
          have hs1 : (x.put Ps.length .zero).slack = x.slack := by have := Rp.put_slack (c := .zero) H7.out.1.was h1; simpa [Pk.isNew] using this
          have hu1 : (x.put Ps.length .zero).now.countP Pk.used = x.now.countP Pk.used + 1 := by have := Rp.put_used (c := .zero) h1; simpa [Pk.used] using this
          have hB7 : Blk w7 (wr.heap.size + 1) 5 (bv B).toArray := H7.out.2.1.chg h4 H7.out.2.2.2.2.2
          have hgF2 : ¬ F2 (wr.heap.size + 1) := fun e => (h5 _ e).elim H7.out.2.2.2.2.2 fun e => by have := H7.out.2.1.lt; omega
          have hat7 : (x.put Ps.length .zero).now[Ps.length]? = some .zero := by rw [Rp.put_at hil, if_pos rfl]
          have hwr := gp_write_any p F2 (x.put Ps.length .zero) w7 Ps.length B (some ⟨wr.heap.size + 1, 0, none⟩) 64 .zero h3 H7.out.1.was hat7 rfl (by rw [show (x.put Ps.length .zero).sz = x.sz from rfl, H7.out.1.ps.sz]; exact H7.out.2.2.1.1) H7.out.2.2.1.2 (by simp)
            ⟨by rw [bv_len, Nat.mul_one], fun _ => ⟨_, 0, rfl, hB7.lt, fun j u hu => by rw [Nat.zero_add, hB7.cell]; simpa using hu⟩⟩ (fun a ha => by injection ha with ha; rw [← ha]; exact hgF2)
          rw [H7.out.2.2.1.1] at hwr
          have H8 := Lib.hid (And.intro h1 (And.intro h4 (And.intro h5 (And.intro hil (And.intro hs1 (And.intro hu1 (And.intro hB7 (And.intro hgF2 hat7))))))))
          have hPl8 : Ps.length ≤ 8 := by omega
          have HWr := Lib.hid hwr
          clear h1 h2 h3 h4 h5 hil hs1 hu1 hB7 hgF2 hat7 hwr
          go_wp2_with fail
          refine HWr.out.mono ?_
          clear HWr
          rintro e w8 (⟨rfl, F3, h1, h2, h3⟩ | ⟨hne, -, -, -⟩)
          rotate_left
          · exfalso
            have h8 := H8.out.2.2.2.2.1
            have h9 := H7.out.1.slack
            omega
          have hs2 : ((x.put Ps.length .zero).put Ps.length (.new B)).slack + 1 = (x.put Ps.length .zero).slack := by have := Rp.put_slack (x := x.put Ps.length .zero) (c := .new B) H7.out.1.was H8.out.2.2.2.2.2.2.2.2; simpa [Pk.isNew] using this
          have hu2 : ((x.put Ps.length .zero).put Ps.length (.new B)).now.countP Pk.used = (x.put Ps.length .zero).now.countP Pk.used := by have := Rp.put_used (x := x.put Ps.length .zero) (c := .new B) H8.out.2.2.2.2.2.2.2.2; simpa [Pk.used] using this
          have hPS := H7.out.1.ps.more H8.out.2.2.2.1 (by omega) H7.out.2.2.1
          have hJ8 := H7.out.1.step h1 (Rch.trans ⟨H8.out.2.1, H8.out.2.2.1⟩ ⟨h2, h3⟩) hPS H7.out.1.was (by have h8 := H8.out.2.2.2.2.1; have h9 := H7.out.1.slack; rw [List.length_append]; simp; omega) (by rw [Rp.put_len, Rp.put_len]; exact H7.out.1.len) (by have h8 := H8.out.2.2.2.2.2.1; have h9 := H7.out.1.used; rw [List.length_append, hu2, h8, h9]; rfl)
          have hB8 := H8.out.2.2.2.2.2.2.1.chg h2 H8.out.2.2.2.2.2.2.2.1
          have hcv := conv_own (n := 64) (bs := B) (own_new (n := 64) hB8 (by simp [bv_len, H7.out.2.2.1.1]) (by simp [maxLen]))
          have H9 := Lib.hid hJ8
          clear h1 h2 h3 hs2 hu2 hPS hJ8 hB8
          go_wp2_with (at_builtin; (refine app_str rfl (.tmp 89) (.tmp 92) rfl w.heap.size (.slice Av Ps.length cv) Ps.length (sv Ps) rfl H9.out.row (strOfNums B) rfl (by omega) H9.out.gr.size ?_); intro v1 w9 hown1 hap1; have HO1 := Lib.hid (And.intro hown1 hap1); clear hown1 hap1)
          go_roundg (l.length - (Ps.length + 1))
          case measure => omega
          case rel => exact ⟨Ps.length + 1, F3, _, Ps ++ [B], rfl, by omega, by simp, H9.out.push HO1.out.2 HO1.out.1, by simp⟩
        · have t2 : decide ((64 : Int) < (D.length : Int)) = true := decide_eq_true (by omega)
          have hAw := HA.out W0 (Grew.trans HJ.out.1.gr hG0)
          have HAw := Lib.hid hAw
          have HG0 := Lib.hid (Grew.trans HJ.out.1.gr hG0)
          clear hAw hG0 hW0 hB0
          go_wp2_with (first | (rw [HW0.out]) | (go_at_call 7; (refine HAw.out.mono ?_); rintro e w2 ⟨rfl, hg2⟩; have H2 := Lib.hid hg2; clear hg2))
          go_ret
          exact ⟨rfl, Grew.trans HG0.out H2.out⟩
      · have hN8 : Ps.length ≤ 8 := by omega
        obtain ⟨hlo, hhi⟩ := ha
        by_cases hf : a1 < 0 ∨ (Ps.length : Int) ≤ a1
        · have hgt := cget_reads p a1 F1 x Ps wr HJ.out.1.gp HJ.out.1.ps ⟨hlo, hhi⟩
          have HGt := Lib.hid hgt
          have t0 : (decide (a1 < 0) = true) ∨ (decide (a1 < 0) = false ∧ decide ((Ps.length : Int) ≤ a1) = true) := by
            by_cases e : a1 < 0
            · exact .inl (decide_eq_true e)
            · exact .inr ⟨decide_eq_false e, decide_eq_true (by omega)⟩
          have HF := Lib.hid hf
          clear hgt hf
          go_wp2_with fail
          refine HGt.out.mono ?_
          rintro e w3 ⟨h1, h2, h3⟩
          rw [if_pos HF.out] at h3
          subst h3
          have hJ3 := HJ.out.1.chg h1 h2
          have hpg := cpages_reads p a1 F1 x Ps w3 h1 hJ3.ps ⟨hlo, hhi⟩
          have H3 := Lib.hid (And.intro hJ3 hpg)
          clear h1 h2 hJ3 hpg
          go_wp2_with fail
          refine H3.out.2.mono ?_
          rintro e w4 ⟨h1, h2, h3⟩
          rw [if_pos HF.out] at h3
          subst h3
          have hJ4 := H3.out.1.chg h1 h2
          have H4 := Lib.hid hJ4.gr
          clear h1 h2 hJ4
          rcases t0 with t2 | ⟨t2, t3⟩
          all_goals
            go_wp2_with (go_at_call 7; (refine (HA.out _ H4.out).mono ?_); rintro e w2 ⟨rfl, hg2⟩; have H2 := Lib.hid hg2; clear hg2)
            go_ret
            exact ⟨rfl, Grew.trans H4.out H2.out⟩
        · have hgt := cget_reads p a1 F1 x Ps wr HJ.out.1.gp HJ.out.1.ps ⟨hlo, hhi⟩
          have t2 : decide (a1 < 0) = false := decide_eq_false (by omega)
          have t3 : decide ((Ps.length : Int) ≤ a1) = false := decide_eq_false (by omega)
          obtain ⟨R, hR⟩ : ∃ R, readL Ps 64 (Ps.length + 1) a1 [] = R := ⟨_, rfl⟩
          have HF := Lib.hid (And.intro hf hR)
          have HGt := Lib.hid hgt
          clear hgt hf hR
          cases R with
          | none =>
            go_wp2_with fail
            refine HGt.out.mono ?_
            rintro e w3 ⟨h1, h2, h3⟩
            rw [if_neg HF.out.1, HF.out.2] at h3
            subst h3
            have hJ3 := HJ.out.1.chg h1 h2
            have H3 := Lib.hid (And.intro hJ3 (cpages_reads p a1 F1 x Ps w3 h1 hJ3.ps ⟨hlo, hhi⟩))
            clear h1 h2 hJ3
            go_wp2_with fail
            refine H3.out.2.mono ?_
            rintro e w4 ⟨h1, h2, h3⟩
            rw [if_neg HF.out.1, HF.out.2] at h3
            subst h3
            have hJ4 := H3.out.1.chg h1 h2
            have hrd := xread_any Ps a1 Av cv w4 hJ4.ps.few hJ4.ps.byt (Sl.of_own hJ4.row) ⟨hlo, hhi⟩
            rw [HF.out.2] at hrd
            have H4 := Lib.hid (And.intro hJ4 hrd)
            clear h1 h2 hJ4 hrd
            go_wp2_with fail
            refine H4.out.2.mono ?_
            rintro e w5 ⟨rfl, hg5⟩
            have hJ5 := H4.out.1.grew hg5
            have hdl := cdel_bad p a1 F1 x Ps w5 hJ5.gp hJ5.ps ⟨hlo, hhi⟩ HF.out.1 HF.out.2
            have H5 := Lib.hid (And.intro hJ5 hdl)
            unfold rdO
            clear hg5 hJ5 hdl
            go_wp2_with fail
            refine H5.out.2.mono ?_
            rintro e w6 ⟨h1, h2, rfl⟩
            have hJ6 := H5.out.1.chg h1 h2
            have hus := gp_used p F1 x w6 h1
            rw [hJ6.used] at hus
            have H6 := Lib.hid (And.intro hJ6 hus)
            clear h1 h2 hJ6 hus
            go_wp2_with (first
              | (go_at_call 15; (refine H6.out.2.mono ?_); rintro e w7 ⟨rfl, hg7⟩; have H7 := Lib.hid (Grew.trans H6.out.1.gr hg7); clear hg7)
              | (go_at_call 7; (refine (HA.out _ H7.out).mono ?_); rintro e w2 ⟨rfl, hg2⟩; have H2 := Lib.hid hg2; clear hg2))
            go_ret
            exact ⟨rfl, Grew.trans H7.out H2.out⟩
          | some s =>
            go_wp2_with fail
            refine HGt.out.mono ?_
            rintro e w3 ⟨h1, h2, h3⟩
            rw [if_neg HF.out.1, HF.out.2] at h3
            obtain ⟨A2, c2, rfl, h4, h5, h6⟩ := h3
            have hJ3 := HJ.out.1.chg h1 h2
            have hnF : ∀ g, (Value.slice A2 s.length c2).ownBlock = some g → ¬ F1 g := fun g hg e => by have := (h4.lt g hg).1; have := HJ.out.1.gp.lt g e; omega
            have H3 := Lib.hid (And.intro hJ3 (And.intro (cpages_reads p a1 F1 x Ps w3 h1 hJ3.ps ⟨hlo, hhi⟩) (And.intro h4 (And.intro h5 hnF))))
            clear h1 h2 hJ3 h4 h5 hnF
            go_wp2_with fail
            refine H3.out.2.1.mono ?_
            rintro e w4 ⟨h1, h2, h3⟩
            rw [if_neg HF.out.1, HF.out.2] at h3
            obtain ⟨A3, n3, c3, rfl⟩ := h3
            have hJ4 := H3.out.1.chg h1 h2
            have ho4 := own_chg H3.out.2.2.1 h2 H3.out.2.2.2.2
            have hrd := xread_any Ps a1 Av cv w4 hJ4.ps.few hJ4.ps.byt (Sl.of_own hJ4.row) ⟨hlo, hhi⟩
            rw [HF.out.2] at hrd
            have H4 := Lib.hid (And.intro hJ4 (And.intro hrd ho4))
            clear h1 h2 hJ4 hrd ho4
            go_wp2_with fail
            refine H4.out.2.1.mono ?_
            rintro e w5 ⟨rfl, hg5⟩
            have hcv := conv_own (own_grew H4.out.2.2 hg5)
            have H5 := Lib.hid (Grew.trans H4.out.1.gr hg5)
            unfold rdO
            clear hg5
            go_wp2_with (go_at_call 7; (refine (HA.out _ H5.out).mono ?_); rintro e w2 ⟨rfl, hg2⟩; have H2 := Lib.hid hg2; clear hg2)
            go_ret
            exact ⟨rfl, Grew.trans H5.out H2.out⟩
  · have t1 : decide ((8 : Int) < (l.length : Int)) = true := decide_eq_true (by omega)
    go_enter Tryd.func4, Tryd.ntmps4
    go_wp2_with (go_at_call 7; (refine (HA.out _ (Chg.refl _ _)).mono ?_); rintro e w2 ⟨rfl, hg2⟩; have H2 := Lib.hid hg2; clear hg2)
    go_ret
    exact ⟨rfl, H2.out⟩

end Go.Proofs.YtjlfnebkibgfmaaDoor

/- The laws: the table that the rows list, in a walk's words; a world that meets it. -/
namespace Go.Proofs.YtjlfnebkibgfmaaDoor
open Go.RowKit

def tabI : List Int := tab.map Int.ofNat
/-- The listed variable's name. -/
def laidName : String := Rows.chainNeedsRow.named.headD (toString 0)
theorem laid_is {H : Type} : (Rows.laid_math_bits_deBruijn64tab : DataW H) = Lib.tabData .u8 tabI := rfl
theorem tab_of_laid {W : World} (h : laidMetH Tryd.prog Rows.chainNeedsRow.laid W) : TabAt 0 tab W := by
  have h' : laidMet Tryd.prog [(laidName, Lib.tabData .u8 tabI)] W := h
  have hg : Tryd.prog.globalNamed laidName = some 0 := by kernel_rfl
  have ht := Lib.tabIs_of_head (t := 117) (e := 5) (n := 64) hg (by kernel_rfl) Tryd.underlying117 Tryd.underlying5 (by kernel_rfl) (by kernel_rfl) h'
  intro j hj
  have := ht.cell hg j (by simpa [tabI] using hj)
  rw [this]
  congr 2
  unfold tabI
  rw [List.getD_eq_getElem?_getD, List.getElem?_map, List.getD_eq_getElem?_getD]
  cases tab[j]? <;> rfl

noncomputable def laidWorld (os : Os) : World :=
  { World.holding Tryd.prog os ⟨#[], #[], []⟩ with heap := (World.holding Tryd.prog os ⟨#[], #[], []⟩).heap.modify 0 fun
      | .cells _ t frozen => .cells (tabI.map fun z => Value.int .u8 z).toArray t frozen
      | o => o }
theorem laidWorld_met (os : Os) (args : Array Value) : laidMetH Tryd.prog Rows.chainNeedsRow.laid ((laidWorld os).forCall (fun _ _ => 0) ⟨#[], args, []⟩).memory :=
  laidMetH_of_parts (laidMet_of_run' 8 (by kernel_rfl) (by kernel_rfl)) (by kernel_rfl)

end Go.Proofs.YtjlfnebkibgfmaaDoor

/- A law's argument that is a slice of int. No program stands in this text. -/
namespace Go.Proofs.YtjlfnebkibgfmaaDoor
open Go.ChangeShapes Go.WideShapes Go.ChangeAt Go.RowKit Go.Deep

theorem ints_opened {H : Type} {enc : TypeId × Value → H} {P : Program} {w : World} {base : Nat} {spare : Nat → Bool} {held : Bool} {t e : TypeId} {fuel len cap : Nat} {A : Option Addr} {x : DataW H × List MemPlace}
    (ht : P.underlying t = some (.slice e)) (he : P.underlying e = some (.int .i64)) (hC : P.cellsOf e = 1) (h : DataW.trod enc P w base spare held fuel t [.slice A len cap] = some x) :
    ∃ l : List Int, len = l.length ∧ len ≤ maxLen ∧ Sl w 1 A l.length (l.map (Value.int .i64)) ∧ ∀ n ∈ l, -9223372036854775808 ≤ n ∧ n ≤ 9223372036854775807 := by
  obtain ⟨hm, hc⟩ := open_elems ht (s := 1) hC (by omega) h
  rcases hc with rfl | ⟨b, off, rfl, hb, hi⟩
  · exact ⟨[], rfl, hm, Sl.nil _ _ _, fun r hr => by cases hr⟩
  · obtain ⟨l, hl, hp⟩ := choose_list (fun i (r : Int) => (-9223372036854775808 ≤ r ∧ r ≤ 9223372036854775807) ∧ w.cell? ⟨b, off + i, none⟩ = some (.int .i64 r)) len (fun i hil => by
      obtain ⟨cs, n, y, hcl, hat, hT⟩ := hi i hil
      match cs, hcl with
      | [c], _ =>
        obtain ⟨r, e1, -, w1⟩ := DataW.trod_int he hT
        simp at e1
        subst e1
        have := hat 0 (by omega)
        exact ⟨r, wf_bounds w1, by simpa using this⟩)
    refine ⟨l, hl.symm, hm, ⟨by simp, fun _ => ⟨b, off, rfl, hb, fun j u hu => ?_⟩⟩, fun r hr => ?_⟩
    · rw [List.getElem?_map] at hu
      cases hj : l[j]? with
      | none => rw [hj] at hu; cases hu
      | some r => rw [hj] at hu; simp at hu; subst hu; exact (hp j r hj).2
    · obtain ⟨i, hi, rfl⟩ := List.getElem_of_mem hr
      exact (hp i _ (List.getElem?_eq_getElem hi)).1

end Go.Proofs.YtjlfnebkibgfmaaDoor

namespace Go.Proofs.YtjlfnebkibgfmaaDoor
open Go.ChangeShapes Go.WideShapes Go.ChangeAt Go.RowKit
set_option linter.unusedVariables false

namespace lawChainReads
theorem own : ownKnob Tryd.prog.godebug = none := by kernel_rfl
theorem laidOut : laidOutB Tryd.prog = true := by kernel_rfl
set_option maxRecDepth 100000 in
theorem lifted (os : Os) (started : os.Started) (H : Type) (enc : TypeId × Value → H) :
    ReturnsInHanded {} Tryd.checked os 4 .any (fun w args => (Rows.chainReadsSpec.pre enc Tryd.prog Tryd.f4 [] false w args ∧ laidMetH Tryd.prog Rows.chainReadsRow.laid w) ∧ sizedMet enc Tryd.prog Tryd.f4 (OpenSpec.ofChange Rows.chainReadsSpec) false w args) (Rows.chainReadsSpec.post enc Tryd.prog Tryd.f4 false true false false) := by
  refine returnsInHanded_of_change_and (C := Tryd.checked) (X := fun w _ => laidMetH Tryd.prog Rows.chainReadsRow.laid w) (fun _ _ _ hh h => h.of_heap hh) own started (by kernel_rfl) Tryd.func4
    (ChangeSpec.witness_at (enc := enc) (C := Tryd.checked) (os := os) (X := fun w _ => laidMetH Tryd.prog Rows.chainReadsRow.laid w) false (laidWorld os) #[.slice none 0 0, .int .i64 0] 8 rfl (by kernel_rfl) (by kernel_rfl) (by kernel_rfl) (by kernel_rfl) (by kernel_rfl) (laidWorld_met os _)) ?_
  intro W base args ds gs before hval0 hW _ _ hL0 _
  have hL : laidMetH Tryd.prog Rows.chainReadsRow.laid W := hL0
  have hT0 := tab_of_laid hL
  have hval : ∀ (j : Nat) t v, Tryd.f4.params[j]? = some t → args[j]? = some v → Value.okWide Tryd.prog W .any base t v := hval0
  have hW1 := hW
  obtain ⟨p, q, hA0, hV, rfl, hfz, hnd⟩ := hW
  have hA : DataW.TrodAll enc Tryd.prog W 0 (fun _ => true) true Tryd.f4.params.toList args.toList ds p := hA0
  rw [Tryd.params4] at hA hval
  obtain ⟨v0, vs0, d0, ds0, p0, q0, hargs, rfl, rfl, h0, r0⟩ := trodAll_cons hA
  obtain ⟨v1, vs1, d1, ds1, p1, q1, rfl, rfl, rfl, h1, r1⟩ := trodAll_cons r0
  obtain ⟨rfl, rfl, rfl⟩ := trodAll_nil r1
  obtain rfl : args = #[v0, v1] := by cases args; simp_all
  obtain ⟨rfl, rfl⟩ := trodVars_none hV
  obtain ⟨A0, n0, c0, rfl⟩ := okWide_slice Tryd.underlying25 (hval 0 25 v0 rfl rfl)
  have k0 := h0
  have lt0 : ∀ x ∈ p0, x.block < W.heap.size := by obtain ⟨m, hm⟩ := k0; exact DataW.trod_lt m _ _ _ hm
  obtain ⟨fu0, hf0⟩ := h0
  obtain ⟨l0, rfl, hm0, hs0, ok0⟩ := Wrt.opened (by simpa [Value.cells] using hf0)
  obtain ⟨a1, rfl, rfl, rfl, w1⟩ := open_int Tryd.underlying3 (hval 1 3 v1 rfl rfl) h1
  clear hA0 hval0
  refine (creads_walk W hT0 A0 c0 l0 hm0 hs0 ok0 a1 (wf_bounds w1)).mono fun e W1 ⟨he, hg⟩ => ?_
  subst he
  have bel := hg.below
  exact ⟨_, rfl, _, _, _, [], _, [], hW1, trodAll_mk1 (shut_bool Tryd.underlying4 _), (trodAll_cons_mk (Below.trod laidOut (by kernel_rfl) (of_decide_eq_true (by kernel_rfl)) k0 bel lt0) (trodAll_cons_mk (shut_int Tryd.underlying3 w1) trodAll_mk0)), rfl, bel.frame _, fun h => by cases h⟩
theorem over : Rows.chainReadsRow.holds Tryd.pinned (OpenSpec.ofChange Rows.chainReadsSpec) :=
  OpenClaim.holds_of_wide 4 Tryd.f4 rfl rfl rfl rfl rfl rfl rfl ⟨rfl, rfl, rfl, rfl, rfl⟩ rfl rfl rfl rfl rfl (by kernel_rfl) Tryd.func4 (by kernel_rfl)
    (of_decide_eq_true (by kernel_rfl)) (by unfold Func.isWrapper; first | (rw [if_pos (by decide +kernel)]; kernel_rfl) | (rw [if_neg (by decide +kernel)]; exact ⟨rfl, rfl⟩))
    (fun os started H enc _ => lifted os started H enc)
/-- The statement, a card whose listed variable is tied to the program. -/
theorem proved : Rows.ChainReadsCardSaid :=
  Claim7.holds_tied_plain_at .later [] [.data] true Rows.chainReadsCard.stood.harness false over (fun _ h => by cases h) (by kernel_rfl) (fun _ h => by cases h) chainReads_row_tie rfl ⟨rfl, rfl⟩ (by kernel_rfl) rfl
    (fun f fn hf hfn => by
      obtain rfl : f = 4 := Option.some.inj ((show Tryd.prog.funcNamed Rows.chainReadsRow.func = some 4 by kernel_rfl).symm.trans hf) |>.symm
      obtain rfl : fn = Tryd.f4 := (Option.some.inj (Tryd.func4.symm.trans hfn)).symm
      refine ⟨by kernel_rfl, fun j t ht => ?_⟩
      have hall : ∀ t ∈ Tryd.f4.params.toList, Tryd.prog.wantsStandIn t = false := by
        rw [Tryd.params4]
        intro t ht
        simp only [List.mem_cons, List.not_mem_nil, or_false] at ht
        rcases ht with rfl | rfl <;> kernel_rfl
      exact hall t (by rw [Array.mem_toList_iff]; exact Array.mem_of_getElem? ht))
    (by kernel_rfl)
#print axioms proved
end lawChainReads

end Go.Proofs.YtjlfnebkibgfmaaDoor
