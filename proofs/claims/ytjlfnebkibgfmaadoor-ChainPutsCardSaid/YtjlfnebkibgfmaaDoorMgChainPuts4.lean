/- ChainPuts returns true, for every input. It has no condition; the table of math/bits that its row lists is tied to the program. -/
import Derived.Test.YtjlfnebkibgfmaaDoorMgChainPuts3
import Derived.Sort.LoopGhostIn
import Derived.Laws.BytesArg
import Derived.Lib.SlicesS
import Derived.ProofKit
import Derived.OpenShut
import Derived.ShutString
import Derived.ChangeOld
import Derived.Deep.Slices
import Derived.Deep.Fields
import Derived.Test.YtjlfnebkibgfmaaDoorRows
import Derived.Test.YtjlfnebkibgfmaaDoorTie
import Derived.Test.YtjlfnebkibgfmaaDoorCards
import Derived.Lib.LaidTab
import Derived.LaidLaws
import Derived.LaidHandle
import Derived.SevenTiedAt
set_option linter.unusedSimpArgs false
set_option linter.unusedVariables false

/- The pager: Open on an empty disk. -/
namespace Go.Proofs.YtjlfnebkibgfmaaDoor
open Go.RowKit Go.Maps

set_option maxHeartbeats 800000 in
theorem gopen_range (d : Nat) (F : Nat → Prop) (D : Dk) (w : World) (h : DS w d F D) (hr : D.n < 8 ∨ D.sz < 64) :
    Calls Tryd.prog 20 #[.pointer (some ⟨d, 0, none⟩)] w fun e w' => e = .returned (.tuple #[.pointer none, .int .i64 11]) ∧ w = w' := by
  have H := Lib.hid h
  clear h
  by_cases h8 : D.n < 8
  · have a1 : decide ((D.n : Int) < 8) = true := decide_eq_true (by omega)
    clear hr h8
    go_enter Tryd.func20, Tryd.ntmps20
    go_wp2_with (first
      | (go_at_call 39; (refine (dsectors_any d F D _ H.out).mono ?_); rintro e w1 ⟨rfl, rfl⟩)
      | (go_at_call 40; (refine (dsize_any d F D _ H.out).mono ?_); rintro e w1 ⟨rfl, rfl⟩))
    go_ret2
    exact ⟨rfl, rfl⟩
  · have a1 : decide ((D.n : Int) < 8) = false := decide_eq_false (by omega)
    have a2 : decide ((D.sz : Int) < 64) = true := decide_eq_true (by omega)
    clear hr h8
    go_enter Tryd.func20, Tryd.ntmps20
    go_wp2_with (first
      | (go_at_call 39; (refine (dsectors_any d F D _ H.out).mono ?_); rintro e w1 ⟨rfl, rfl⟩)
      | (go_at_call 40; (refine (dsize_any d F D _ H.out).mono ?_); rintro e w1 ⟨rfl, rfl⟩))
    go_ret2
    exact ⟨rfl, rfl⟩

/-- A new pager. -/
def Gp.fresh (D : Dk) : Gp := { D := D, epoch := 0, row := D.sz / 2, pages := List.replicate (tabN D.n D.sz) 0, table := List.replicate (capN D.n D.sz) 0, free := trn (trn (full D.n) 0) 1, op := none, down := false }

/-- A row of noughts, new since w0. -/
structure NewInts (w0 w : World) (g n : Nat) : Prop where
  blk : Blk w g 3 (nv (List.replicate n 0)).toArray
  new : w0.heap.size ≤ g
structure NewPool (w0 w : World) (b n : Nat) (A : Option Addr) (c : Nat) : Prop where
  p : PIn w b (full n) A c
  new : ∀ j, PF b A j → w0.heap.size ≤ j
theorem NewInts.grew {w0 w w' : World} {g n : Nat} (h : NewInts w0 w g n) (hg : Grew w w') : NewInts w0 w' g n := ⟨h.blk.grew hg, h.new⟩
theorem NewPool.grew {w0 w w' : World} {b n c : Nat} {A : Option Addr} (h : NewPool w0 w b n A c) (hg : Grew w w') : NewPool w0 w' b n A c := ⟨h.p.grew hg, h.new⟩
/-- A new pager, as its parts lie. -/
structure OpenIn (w0 w : World) (p d row T C g1 g2 b n : Nat) (A : Option Addr) (c : Nat) : Prop where
  blk : Blk w p 61 #[.pointer (some ⟨d, 0, none⟩), .int .i64 0, .int .i64 row, .slice (some ⟨g1, 0, none⟩) T T, .slice (some ⟨g2, 0, none⟩) C C, .pointer (some ⟨b, 0, none⟩), .pointer none, .bool false]
  t1 : NewInts w0 w g1 T
  t2 : NewInts w0 w g2 C
  ne : g1 ≠ g2
  pool : NewPool w0 w b n A c
  grew : Grew w0 w
  new : w0.heap.size ≤ p
def OpenJ (w0 : World) (d row T C n : Nat) (v : Value) (w : World) : Prop := ∃ p g1 g2 b A c, v = .pointer (some ⟨p, 0, none⟩) ∧ OpenIn w0 w p d row T C g1 g2 b n A c
theorem openJ_mk {w0 w : World} {d row T C g1 g2 b n c : Nat} {A : Option Addr} {r : Int} (hr : r = (row : Int)) (h1 : NewInts w0 w g1 T) (h2 : NewInts w0 w g2 C) (hne : g1 ≠ g2) (hp : NewPool w0 w b n A c) (hg : Grew w0 w) :
    OpenJ w0 d row T C n (.pointer (some ⟨w.heap.size, 0, none⟩)) (w.alloc (.cells #[.pointer (some ⟨d, 0, none⟩), .int .i64 0, .int .i64 r, .slice (some ⟨g1, 0, none⟩) T T, .slice (some ⟨g2, 0, none⟩) C C, .pointer (some ⟨b, 0, none⟩), .pointer none, .bool false] 61)) := by
  subst hr
  exact ⟨_, g1, g2, b, A, c, rfl, Blk.new _ _ _, h1.grew ((Chg.refl _ _).alloc _), h2.grew ((Chg.refl _ _).alloc _), hne, hp.grew ((Chg.refl _ _).alloc _), hg.alloc _, hg.size⟩

/-- The pool of n sectors, when the first k are marked. -/
def mkd (n : Nat) : Nat → List Bool
  | 0 => full n
  | k + 1 => trn (mkd n k) k
theorem mkd_len (n : Nat) : ∀ k, (mkd n k).length = n
  | 0 => full_len n
  | k + 1 => by rw [mkd, trn, List.length_set]; exact mkd_len n k
theorem mkd_at (n : Nat) : ∀ k j, k ≤ n → (mkd n k).getD j false = (decide (k ≤ j) && decide (j < n))
  | 0, j, _ => by rw [mkd, full_at]; simp
  | k + 1, j, hk => by
    rw [mkd, trn, getD_set _ _ _ _ (by rw [mkd_len]; omega), mkd_at n k k (by omega), mkd_at n k j (by omega)]
    by_cases e : j = k
    · subst e; simp; omega
    · rw [if_neg e]
      by_cases h1 : k ≤ j
      · simp [h1, show k + 1 ≤ j by omega]
      · simp [h1, show ¬ k + 1 ≤ j by omega]
theorem mkd_mark (n k : Nat) (hk : k < n) : toL (mkd n k) (k : Int) false = (mkd n (k + 1), 0) := by
  unfold toL
  rw [if_neg (by rw [mkd_len]; omega), Int.toNat_natCast, mkd_at n k k (by omega), if_neg (by simp; omega)]
  rfl
theorem own_new {w : World} {g n : Nat} {t : TypeId} {cs : Array Value} (h : Blk w g t cs) (hn : cs.size = n) (hm : n ≤ maxLen) : w.ownsRow 0 t 1 (.slice (some ⟨g, 0, none⟩) n n) n cs.toList :=
  ⟨by simp [hn], .inr ⟨g, n, cs, rfl, Nat.zero_le _, h, Nat.le_refl _, hm, by simp [hn], by rw [Nat.mul_one, ← hn, ← Array.length_toList, List.take_length]⟩⟩
theorem blk_ne {w : World} {g g' : Nat} {t t' : TypeId} {cs cs' : Array Value} (h : Blk w g t cs) (h' : Blk w g' t' cs') (hne : t ≠ t') : g ≠ g' := by
  rintro rfl
  unfold Blk at h h'
  rw [h] at h'
  injection h' with h'
  injection h' with h1 h2
  exact hne h2
theorem pf_ne {w : World} {b c g : Nat} {x : List Bool} {A : Option Addr} {t : TypeId} {cs : Array Value} (h : PIn w b x A c) (hg : Blk w g t cs) (h1 : t ≠ 101) (h2 : t ≠ 102) : ¬ PF b A g := by
  rintro (rfl | ⟨a, rfl, rfl⟩)
  · have := h.blk
    unfold Blk at this hg
    rw [this] at hg
    cases hg
    exact h1 rfl
  · exact own_blk_ne h.own hg (Ne.symm h2) rfl
/-- A new pager stands. -/
theorem gfresh_mk {w0 w : World} {d p g1 g2 b c : Nat} {A : Option Addr} {F : Nat → Prop} {D : Dk} (hd : DS w d F D) (hF0 : ∀ j, F j → j < w0.heap.size) (h0 : ¬ F 0) (hpos : 0 < w0.heap.size) (hT : TabAt 0 tab w) (hn : D.n ≤ 4096)
    (hb : Blk w p 61 #[.pointer (some ⟨d, 0, none⟩), .int .i64 0, .int .i64 (D.sz / 2 : Nat), .slice (some ⟨g1, 0, none⟩) (tabN D.n D.sz) (tabN D.n D.sz), .slice (some ⟨g2, 0, none⟩) (capN D.n D.sz) (capN D.n D.sz), .pointer (some ⟨b, 0, none⟩), .pointer none, .bool false])
    (h1 : Blk w g1 3 (nv (List.replicate (tabN D.n D.sz) 0)).toArray) (h2 : Blk w g2 3 (nv (List.replicate (capN D.n D.sz) 0)).toArray) (hne : g1 ≠ g2) (hp : PIn w b (mkd D.n 2) A c)
    (n0 : w0.heap.size ≤ p) (n1 : w0.heap.size ≤ g1) (n2 : w0.heap.size ≤ g2) (n3 : ∀ j, PF b A j → w0.heap.size ≤ j) :
    ∃ F', GS w p F' (Gp.fresh D) ∧ ∀ j, F' j → F j ∨ w0.heap.size ≤ j := by
  classical
  have hC : capN D.n D.sz ≤ 4096 := by unfold capN; split <;> omega
  have hT64 : tabN D.n D.sz ≤ 64 := by have := tabs_le (D.sz / 2) (D.n - 2) D.sz 64 0; unfold tabN; omega
  have d1 : p ≠ g1 := blk_ne hb h1 (by decide)
  have d2 : p ≠ g2 := blk_ne hb h2 (by decide)
  have d3 := pf_ne hp hb (by decide) (by decide)
  have d4 := pf_ne hp h1 (by decide) (by decide)
  have d5 := pf_ne hp h2 (by decide) (by decide)
  obtain ⟨L, hL⟩ : ∃ L : Nat → Nat, L = fun j => if j = p then 1 else if j = g1 then 4 else if j = g2 then 5 else if PF b A j then 3 else if F j then 2 else 0 := ⟨_, rfl⟩
  have l1 : L p = 1 := by rw [hL]; simp
  have l4 : L g1 = 4 := by rw [hL]; simp [Ne.symm d1]
  have l5 : L g2 = 5 := by rw [hL]; simp [Ne.symm d2, Ne.symm hne]
  have l3 : ∀ j, PF b A j → L j = 3 := fun j hj => by
    have e1 : j ≠ p := fun e => d3 (e ▸ hj)
    have e2 : j ≠ g1 := fun e => d4 (e ▸ hj)
    have e3 : j ≠ g2 := fun e => d5 (e ▸ hj)
    rw [hL]; simp [e1, e2, e3, hj]
  have l2 : ∀ j, L j = 2 ↔ F j := fun j => by
    have hlt : F j → j < w0.heap.size := hF0 j
    by_cases e1 : j = p
    · subst e1; rw [l1]; exact ⟨fun e => by omega, fun e => by have := hlt e; omega⟩
    by_cases e2 : j = g1
    · subst e2; rw [l4]; exact ⟨fun e => by omega, fun e => by have := hlt e; omega⟩
    by_cases e3 : j = g2
    · subst e3; rw [l5]; exact ⟨fun e => by omega, fun e => by have := hlt e; omega⟩
    by_cases e4 : PF b A j
    · rw [l3 j e4]; exact ⟨fun e => by omega, fun e => by have := hlt e; have := n3 j e4; omega⟩
    · rw [hL]; by_cases e5 : F j <;> simp [e1, e2, e3, e4, e5]
  have l0 : ∀ j, L j ≠ 0 → F j ∨ (w0.heap.size ≤ j ∧ j < w.heap.size) := fun j hj => by
    by_cases e1 : j = p
    · subst e1; exact .inr ⟨n0, hb.lt⟩
    by_cases e2 : j = g1
    · subst e2; exact .inr ⟨n1, h1.lt⟩
    by_cases e3 : j = g2
    · subst e3; exact .inr ⟨n2, h2.lt⟩
    by_cases e4 : PF b A j
    · exact .inr ⟨n3 j e4, hp.lt j e4⟩
    by_cases e5 : F j
    · exact .inl e5
    · rw [hL] at hj; simp [e1, e2, e3, e4, e5] at hj
  refine ⟨fun j => L j ≠ 0, ⟨L, d, b, A, c, _, _, none, ⟨hb, l1, ?_, hp, l3, ?_, fun j hj => ?_, ?_, fun j hj => ?_, rfl, fun j hj => ?_, ?_, hT⟩, fun _ => Iff.rfl⟩, fun j hj => (l0 j hj).imp id fun e => e.1⟩
  · rw [show (fun j => L j = 2) = F from funext fun j => propext (l2 j)]
    exact hd
  · have := own_new (n := tabN D.n D.sz) h1 (by simp [nv]) (by simp only [maxLen]; omega)
    simpa [Gp.fresh] using this
  · have : g1 = j := by simpa [Value.ownBlock] using hj
    rw [← this]; exact l4
  · have := own_new (n := capN D.n D.sz) h2 (by simp [nv]) (by simp only [maxLen]; omega)
    simpa [Gp.fresh] using this
  · have : g2 = j := by simpa [Value.ownBlock] using hj
    rw [← this]; exact l5
  · rcases l0 j hj with e | e
    · exact hd.lt j e
    · exact e.2
  · by_cases e : L 0 = 0
    · exact e
    · rcases l0 0 e with e | e
      · exact absurd e h0
      · omega

set_option maxRecDepth 100000 in
set_option maxHeartbeats 6400000 in
theorem gopen_new (d : Nat) (F : Nat → Prop) (D : Dk) (w : World) (h : DS w d F D) (hd : D.down = false) (hT : TabAt 0 tab w) (h0 : ¬ F 0) (hn : 8 ≤ D.n) (hz : 64 ≤ D.sz) (hp : ∀ i : Nat, i < 2 → partL ((D.rd i).take (D.sz - 8)) = none) (hby : ∀ i : Nat, i < 2 → ∀ x ∈ D.rd i, 0 ≤ x ∧ x ≤ 255) :
    Calls Tryd.prog 20 #[.pointer (some ⟨d, 0, none⟩)] w fun e w' => ∃ p F', e = .returned (.tuple #[.pointer (some ⟨p, 0, none⟩), .int .i64 0]) ∧ GS w' p F' (Gp.fresh D) ∧ Grew w w' ∧ ∀ j, F' j → F j ∨ w.heap.size ≤ j := by
  have hsm := h.sml
  have a1 : decide ((D.n : Int) < 8) = false := decide_eq_false (by omega)
  have a2 : decide ((D.sz : Int) < 64) = false := decide_eq_false (by omega)
  have H := Lib.hid (And.intro h (And.intro hT (And.intro hp hby)))
  clear h hT hp hby
  go_enter Tryd.func20, Tryd.ntmps20
  go_wp2_with (first
    | (go_at_call 39; (refine (dsectors_any d F D _ H.out.1).mono ?_); rintro e w1 ⟨rfl, rfl⟩)
    | (go_at_call 40; (refine (dsize_any d F D _ H.out.1).mono ?_); rintro e w1 ⟨rfl, rfl⟩)
    | (go_at_call 41; (refine (places_any D.n D.sz _ hn hsm.2.1 hz hsm.2.2.2).mono ?_); rintro e w1 ⟨rfl, hg1⟩; have HG1 := Lib.hid hg1; clear hg1))
  have hT := tabs_le (D.sz / 2) (D.n - 2) D.sz 64 0
  have hT64 : tabN D.n D.sz ≤ 64 := by unfold tabN; omega
  have hC : capN D.n D.sz ≤ 4096 := by unfold capN; split <;> omega
  have eq2 : (D.sz : Int).tdiv 2 = ((D.sz / 2 : Nat) : Int) := by simp
  have ew2 : IntKind.i64.wrap ((D.sz / 2 : Nat) : Int) = ((D.sz / 2 : Nat) : Int) := wrap_nat (by omega)
  have ew3 : IntKind.i64.wrap ((D.sz : Int) / 2) = ((D.sz / 2 : Nat) : Int) := by have := ew2; simpa using this
  have HG0 := Lib.hid (show Grew w1 w1.drew from (Chg.refl _ _).drew)
  clear hT
  go_cut [6] (fun v wx => OpenJ w1 d (D.sz / 2) (tabN D.n D.sz) (capN D.n D.sz) D.n v wx)
  case first =>
    refine wp_region_held_drew (S := fun _ => True) (by kernel_rfl) trivial (fun _ => ?_)
    refine wpAnyH_take (i := 0) (v := ?_) rfl (by kernel_rfl) (by kernel_rfl) (by kernel_rfl) (fun _ _ _ h => h) (Or.inl ⟨by rfl, ?_⟩) trivial ?_
    rotate_left
    · (intro w hSw; (try dsimp only at hSw); go_simp) <;> with_reducible rfl
    (try simp only [Act.put, List.setIfInBounds_toArray, List.set_cons_zero, List.set_cons_succ])
    refine wpAnyH_take (i := 1) (v := ?_) rfl (by kernel_rfl) (by kernel_rfl) (by kernel_rfl) (fun _ _ _ h => h) (Or.inl ⟨by rfl, ?_⟩) trivial ?_
    rotate_left
    · (intro w hSw; (try dsimp only at hSw); go_simp) <;> with_reducible rfl
    (try simp only [Act.put, List.setIfInBounds_toArray, List.set_cons_zero, List.set_cons_succ])
    refine wpAnyH_take (i := 4) (v := ?_) rfl (by kernel_rfl) (by kernel_rfl) (by kernel_rfl) (fun _ _ _ h => h) (Or.inl ⟨by rfl, ?_⟩) trivial ?_
    rotate_left
    · (intro w hSw; (try dsimp only at hSw); go_simp) <;> with_reducible rfl
    (try simp only [Act.put, List.setIfInBounds_toArray, List.set_cons_zero, List.set_cons_succ])
    refine wpAnyH_take (i := 6) (v := ?_) rfl (by kernel_rfl) (by kernel_rfl) (by kernel_rfl) (fun _ _ _ h => h) (Or.inl ⟨by rfl, ?_⟩) trivial ?_
    rotate_left
    · (intro w hSw; (try dsimp only at hSw); go_simp) <;> with_reducible rfl
    (try simp only [Act.put, List.setIfInBounds_toArray, List.set_cons_zero, List.set_cons_succ])
    refine wpAnyH_take (i := 8) (v := ?_) rfl (by kernel_rfl) (by kernel_rfl) (by kernel_rfl) (fun _ _ _ h => h) (Or.inl ⟨by rfl, ?_⟩) trivial ?_
    rotate_left
    · (intro w hSw; (try dsimp only at hSw); go_simp) <;> with_reducible rfl
    (try simp only [Act.put, List.setIfInBounds_toArray, List.set_cons_zero, List.set_cons_succ])
    obtain ⟨y5, hr5, hB5, hG5, hs5⟩ := make_ints (tabN D.n D.sz) (w1.drew) (by omega)
    obtain ⟨y7, hr7, hB7, hG7, hs7⟩ := make_ints (capN D.n D.sz) (w1.drew) (by omega)
    refine wpAnyH_ready (rs := [2, 5, 7]) (by kernel_rfl) (by simp) ?_
    refine (AllReadyH.cons rfl (fun K hK => ?_) (AllReadyH.cons rfl (fun K hK => ?_) (AllReadyH.cons rfl (fun K hK => ?_) AllReadyH.nil)))
    · go_simp
      refine (dsize_any d F D _ (H.out.1.grew (Grew.trans HG1.out HG0.out))).mono ?_
      rintro e u2 ⟨rfl, rfl⟩
      refine hK.out _ _ trivial (fun _ => ?_)
      clear hK K
      (try simp only [Act.put, List.setIfInBounds_toArray, List.set_cons_zero, List.set_cons_succ])
      clear hr5 hB5 hG5 hs5 y5 hr7 hB7 hG7 hs7 y7
      refine wpAnyH_take (i := 3) (v := ?_) rfl (by kernel_rfl) (by kernel_rfl) (by kernel_rfl) (fun _ _ _ h => h) (Or.inl ⟨by rfl, ?_⟩) trivial ?_
      rotate_left
      · (intro w hSw; (try dsimp only at hSw); go_simp) <;> with_reducible rfl
      (try simp only [Act.put, List.setIfInBounds_toArray, List.set_cons_zero, List.set_cons_succ])
      obtain ⟨y5, hr5, hB5, hG5, hs5⟩ := make_ints (tabN D.n D.sz) (w1.drew) (by omega)
      obtain ⟨y7, hr7, hB7, hG7, hs7⟩ := make_ints (capN D.n D.sz) (w1.drew) (by omega)
      refine wpAnyH_ready (rs := [5, 7, 9]) (by kernel_rfl) (by simp) ?_
      refine (AllReadyH.cons rfl (fun K hK => ?_) (AllReadyH.cons rfl (fun K hK => ?_) (AllReadyH.cons rfl (fun K hK => ?_) AllReadyH.nil)))
      · go_simp
        refine hK.out _ _ trivial (fun _ => ?_)
        clear hK K
        (try simp only [Act.put, List.setIfInBounds_toArray, List.set_cons_zero, List.set_cons_succ])
        have HQ5 := Lib.hid (show NewInts w1 y5 (w1.drew).heap.size (tabN D.n D.sz) from ⟨hB5, HG0.out.size⟩)
        have HLT5 := Lib.hid (show (w1.drew).heap.size < y5.heap.size from HQ5.out.1.lt)
        have HG5 := Lib.hid (Grew.trans HG0.out hG5)
        clear hr5 hB5 hG5 hs5 hr7 hB7 hG7 hs7 y7
        obtain ⟨y7, hr7, hB7, hG7, hs7⟩ := make_ints (capN D.n D.sz) (y5) (by omega)
        refine wpAnyH_ready (rs := [7, 9]) (by kernel_rfl) (by simp) ?_
        refine (AllReadyH.cons rfl (fun K hK => ?_) (AllReadyH.cons rfl (fun K hK => ?_) AllReadyH.nil))
        · go_simp
          refine hK.out _ _ trivial (fun _ => ?_)
          clear hK K
          (try simp only [Act.put, List.setIfInBounds_toArray, List.set_cons_zero, List.set_cons_succ])
          have HQ5 := Lib.hid (HQ5.out.grew hG7)
          have HQ7 := Lib.hid (show NewInts w1 y7 (y5).heap.size (capN D.n D.sz) from ⟨hB7, HG5.out.size⟩)
          have HD := Lib.hid (show (w1.drew).heap.size ≠ (y5).heap.size from Nat.ne_of_lt HLT5.out)
          have HG7 := Lib.hid (Grew.trans HG5.out hG7)
          clear hr7 hB7 hG7 hs7
          refine wpAnyH_ready (rs := [9]) (by kernel_rfl) (by simp) ?_
          refine (AllReadyH.cons rfl (fun K hK => ?_) AllReadyH.nil)
          · go_simp
            refine (dsectors_any d F D _ (H.out.1.grew (Grew.trans HG1.out HG7.out))).mono ?_
            rintro e u2 ⟨rfl, rfl⟩
            refine hK.out _ _ trivial (fun _ => ?_)
            clear hK K
            (try simp only [Act.put, List.setIfInBounds_toArray, List.set_cons_zero, List.set_cons_succ])
            refine wpAnyH_ready (rs := [10]) (by kernel_rfl) (by simp) ?_
            refine (AllReadyH.cons rfl (fun K hK => ?_) AllReadyH.nil)
            · go_simp
              refine (pnew_any D.n _ (by omega)).mono ?_
              rintro e y10 ⟨A10, c10, rfl, hp10, hg10, hn10⟩
              refine hK.out _ _ trivial (fun _ => ?_)
              clear hK K
              (try simp only [Act.put, List.setIfInBounds_toArray, List.set_cons_zero, List.set_cons_succ])
              have HQ5 := Lib.hid (HQ5.out.grew hg10)
              have HQ7 := Lib.hid (HQ7.out.grew hg10)
              have HQ10 := Lib.hid (show NewPool w1 y10 (y7).heap.size D.n A10 c10 from ⟨hp10, fun j hj => Nat.le_trans HG7.out.size (hn10 j hj)⟩)
              have HG10 := Lib.hid (Grew.trans HG7.out hg10)
              clear hp10 hg10 hn10
              refine wpAnyH_take (i := 11) (v := ?_) rfl (by kernel_rfl) (by kernel_rfl) (by kernel_rfl) (fun _ _ _ h => h) (Or.inl ⟨by rfl, ?_⟩) trivial ?_
              rotate_left
              · (intro w hSw; (try dsimp only at hSw); go_simp) <;> with_reducible rfl
              (try simp only [Act.put, List.setIfInBounds_toArray, List.set_cons_zero, List.set_cons_succ])
              refine wpAnyH_ready (rs := [12]) (by kernel_rfl) (by simp) ?_
              refine AllReadyH.cons rfl (fun K hK => ?_) AllReadyH.nil
              go_simp
              refine hK.out _ _ trivial (fun _ => ?_)
              clear hK K
              (try simp only [Act.put, List.setIfInBounds_toArray, List.set_cons_zero, List.set_cons_succ])
              refine wpAnyH_ready (rs := [13]) (by kernel_rfl) (by simp) ?_
              refine AllReadyH.cons rfl (fun K hK => ?_) AllReadyH.nil
              go_simp
              refine hK.out _ _ trivial (fun _ => ?_)
              clear hK K
              (try simp only [Act.put, List.setIfInBounds_toArray, List.set_cons_zero, List.set_cons_succ])
              refine wpAnyH_done (by kernel_rfl) ?_ _
              go_wp2
              go_meet
              exact openJ_mk (by first | exact ew3 | omega) HQ5.out HQ7.out HD.out HQ10.out HG10.out
        · go_simp
          refine (dsectors_any d F D _ (H.out.1.grew (Grew.trans HG1.out HG5.out))).mono ?_
          rintro e u2 ⟨rfl, rfl⟩
          refine hK.out _ _ trivial (fun _ => ?_)
          clear hK K
          (try simp only [Act.put, List.setIfInBounds_toArray, List.set_cons_zero, List.set_cons_succ])
          clear hr7 hB7 hG7 hs7 y7
          obtain ⟨y7, hr7, hB7, hG7, hs7⟩ := make_ints (capN D.n D.sz) (y5) (by omega)
          refine wpAnyH_ready (rs := [7, 10]) (by kernel_rfl) (by simp) ?_
          refine (AllReadyH.cons rfl (fun K hK => ?_) (AllReadyH.cons rfl (fun K hK => ?_) AllReadyH.nil))
          · go_simp
            refine hK.out _ _ trivial (fun _ => ?_)
            clear hK K
            (try simp only [Act.put, List.setIfInBounds_toArray, List.set_cons_zero, List.set_cons_succ])
            have HQ5 := Lib.hid (HQ5.out.grew hG7)
            have HQ7 := Lib.hid (show NewInts w1 y7 (y5).heap.size (capN D.n D.sz) from ⟨hB7, HG5.out.size⟩)
            have HD := Lib.hid (show (w1.drew).heap.size ≠ (y5).heap.size from Nat.ne_of_lt HLT5.out)
            have HG7 := Lib.hid (Grew.trans HG5.out hG7)
            clear hr7 hB7 hG7 hs7
            refine wpAnyH_ready (rs := [10]) (by kernel_rfl) (by simp) ?_
            refine (AllReadyH.cons rfl (fun K hK => ?_) AllReadyH.nil)
            · go_simp
              refine (pnew_any D.n _ (by omega)).mono ?_
              rintro e y10 ⟨A10, c10, rfl, hp10, hg10, hn10⟩
              refine hK.out _ _ trivial (fun _ => ?_)
              clear hK K
              (try simp only [Act.put, List.setIfInBounds_toArray, List.set_cons_zero, List.set_cons_succ])
              have HQ5 := Lib.hid (HQ5.out.grew hg10)
              have HQ7 := Lib.hid (HQ7.out.grew hg10)
              have HQ10 := Lib.hid (show NewPool w1 y10 (y7).heap.size D.n A10 c10 from ⟨hp10, fun j hj => Nat.le_trans HG7.out.size (hn10 j hj)⟩)
              have HG10 := Lib.hid (Grew.trans HG7.out hg10)
              clear hp10 hg10 hn10
              refine wpAnyH_take (i := 11) (v := ?_) rfl (by kernel_rfl) (by kernel_rfl) (by kernel_rfl) (fun _ _ _ h => h) (Or.inl ⟨by rfl, ?_⟩) trivial ?_
              rotate_left
              · (intro w hSw; (try dsimp only at hSw); go_simp) <;> with_reducible rfl
              (try simp only [Act.put, List.setIfInBounds_toArray, List.set_cons_zero, List.set_cons_succ])
              refine wpAnyH_ready (rs := [12]) (by kernel_rfl) (by simp) ?_
              refine AllReadyH.cons rfl (fun K hK => ?_) AllReadyH.nil
              go_simp
              refine hK.out _ _ trivial (fun _ => ?_)
              clear hK K
              (try simp only [Act.put, List.setIfInBounds_toArray, List.set_cons_zero, List.set_cons_succ])
              refine wpAnyH_ready (rs := [13]) (by kernel_rfl) (by simp) ?_
              refine AllReadyH.cons rfl (fun K hK => ?_) AllReadyH.nil
              go_simp
              refine hK.out _ _ trivial (fun _ => ?_)
              clear hK K
              (try simp only [Act.put, List.setIfInBounds_toArray, List.set_cons_zero, List.set_cons_succ])
              refine wpAnyH_done (by kernel_rfl) ?_ _
              go_wp2
              go_meet
              exact openJ_mk (by first | exact ew3 | omega) HQ5.out HQ7.out HD.out HQ10.out HG10.out
          · go_simp
            refine (pnew_any D.n _ (by omega)).mono ?_
            rintro e y10 ⟨A10, c10, rfl, hp10, hg10, hn10⟩
            refine hK.out _ _ trivial (fun _ => ?_)
            clear hK K
            (try simp only [Act.put, List.setIfInBounds_toArray, List.set_cons_zero, List.set_cons_succ])
            have HQ5 := Lib.hid (HQ5.out.grew hg10)
            have HLT5 := Lib.hid (Nat.lt_of_lt_of_le HLT5.out hg10.size)
            have HQ10 := Lib.hid (show NewPool w1 y10 (y5).heap.size D.n A10 c10 from ⟨hp10, fun j hj => Nat.le_trans HG5.out.size (hn10 j hj)⟩)
            have HG10 := Lib.hid (Grew.trans HG5.out hg10)
            clear hp10 hg10 hn10
            clear hr7 hB7 hG7 hs7 y7
            obtain ⟨y7, hr7, hB7, hG7, hs7⟩ := make_ints (capN D.n D.sz) (y10) (by omega)
            refine wpAnyH_ready (rs := [7]) (by kernel_rfl) (by simp) ?_
            refine (AllReadyH.cons rfl (fun K hK => ?_) AllReadyH.nil)
            · go_simp
              refine hK.out _ _ trivial (fun _ => ?_)
              clear hK K
              (try simp only [Act.put, List.setIfInBounds_toArray, List.set_cons_zero, List.set_cons_succ])
              have HQ5 := Lib.hid (HQ5.out.grew hG7)
              have HQ10 := Lib.hid (HQ10.out.grew hG7)
              have HQ7 := Lib.hid (show NewInts w1 y7 (y10).heap.size (capN D.n D.sz) from ⟨hB7, HG10.out.size⟩)
              have HD := Lib.hid (show (w1.drew).heap.size ≠ (y10).heap.size from Nat.ne_of_lt HLT5.out)
              have HG7 := Lib.hid (Grew.trans HG10.out hG7)
              clear hr7 hB7 hG7 hs7
              refine wpAnyH_take (i := 11) (v := ?_) rfl (by kernel_rfl) (by kernel_rfl) (by kernel_rfl) (fun _ _ _ h => h) (Or.inl ⟨by rfl, ?_⟩) trivial ?_
              rotate_left
              · (intro w hSw; (try dsimp only at hSw); go_simp) <;> with_reducible rfl
              (try simp only [Act.put, List.setIfInBounds_toArray, List.set_cons_zero, List.set_cons_succ])
              refine wpAnyH_ready (rs := [12]) (by kernel_rfl) (by simp) ?_
              refine AllReadyH.cons rfl (fun K hK => ?_) AllReadyH.nil
              go_simp
              refine hK.out _ _ trivial (fun _ => ?_)
              clear hK K
              (try simp only [Act.put, List.setIfInBounds_toArray, List.set_cons_zero, List.set_cons_succ])
              refine wpAnyH_ready (rs := [13]) (by kernel_rfl) (by simp) ?_
              refine AllReadyH.cons rfl (fun K hK => ?_) AllReadyH.nil
              go_simp
              refine hK.out _ _ trivial (fun _ => ?_)
              clear hK K
              (try simp only [Act.put, List.setIfInBounds_toArray, List.set_cons_zero, List.set_cons_succ])
              refine wpAnyH_done (by kernel_rfl) ?_ _
              go_wp2
              go_meet
              exact openJ_mk (by first | exact ew3 | omega) HQ5.out HQ7.out HD.out HQ10.out HG7.out
      · go_simp
        refine hK.out _ _ trivial (fun _ => ?_)
        clear hK K
        (try simp only [Act.put, List.setIfInBounds_toArray, List.set_cons_zero, List.set_cons_succ])
        have HQ7 := Lib.hid (show NewInts w1 y7 (w1.drew).heap.size (capN D.n D.sz) from ⟨hB7, HG0.out.size⟩)
        have HLT7 := Lib.hid (show (w1.drew).heap.size < y7.heap.size from HQ7.out.1.lt)
        have HG7 := Lib.hid (Grew.trans HG0.out hG7)
        clear hr7 hB7 hG7 hs7 hr5 hB5 hG5 hs5 y5
        obtain ⟨y5, hr5, hB5, hG5, hs5⟩ := make_ints (tabN D.n D.sz) (y7) (by omega)
        refine wpAnyH_ready (rs := [5, 9]) (by kernel_rfl) (by simp) ?_
        refine (AllReadyH.cons rfl (fun K hK => ?_) (AllReadyH.cons rfl (fun K hK => ?_) AllReadyH.nil))
        · go_simp
          refine hK.out _ _ trivial (fun _ => ?_)
          clear hK K
          (try simp only [Act.put, List.setIfInBounds_toArray, List.set_cons_zero, List.set_cons_succ])
          have HQ7 := Lib.hid (HQ7.out.grew hG5)
          have HQ5 := Lib.hid (show NewInts w1 y5 (y7).heap.size (tabN D.n D.sz) from ⟨hB5, HG7.out.size⟩)
          have HD := Lib.hid (show (y7).heap.size ≠ (w1.drew).heap.size from Ne.symm (Nat.ne_of_lt HLT7.out))
          have HG5 := Lib.hid (Grew.trans HG7.out hG5)
          clear hr5 hB5 hG5 hs5
          refine wpAnyH_ready (rs := [9]) (by kernel_rfl) (by simp) ?_
          refine (AllReadyH.cons rfl (fun K hK => ?_) AllReadyH.nil)
          · go_simp
            refine (dsectors_any d F D _ (H.out.1.grew (Grew.trans HG1.out HG5.out))).mono ?_
            rintro e u2 ⟨rfl, rfl⟩
            refine hK.out _ _ trivial (fun _ => ?_)
            clear hK K
            (try simp only [Act.put, List.setIfInBounds_toArray, List.set_cons_zero, List.set_cons_succ])
            refine wpAnyH_ready (rs := [10]) (by kernel_rfl) (by simp) ?_
            refine (AllReadyH.cons rfl (fun K hK => ?_) AllReadyH.nil)
            · go_simp
              refine (pnew_any D.n _ (by omega)).mono ?_
              rintro e y10 ⟨A10, c10, rfl, hp10, hg10, hn10⟩
              refine hK.out _ _ trivial (fun _ => ?_)
              clear hK K
              (try simp only [Act.put, List.setIfInBounds_toArray, List.set_cons_zero, List.set_cons_succ])
              have HQ7 := Lib.hid (HQ7.out.grew hg10)
              have HQ5 := Lib.hid (HQ5.out.grew hg10)
              have HQ10 := Lib.hid (show NewPool w1 y10 (y5).heap.size D.n A10 c10 from ⟨hp10, fun j hj => Nat.le_trans HG5.out.size (hn10 j hj)⟩)
              have HG10 := Lib.hid (Grew.trans HG5.out hg10)
              clear hp10 hg10 hn10
              refine wpAnyH_take (i := 11) (v := ?_) rfl (by kernel_rfl) (by kernel_rfl) (by kernel_rfl) (fun _ _ _ h => h) (Or.inl ⟨by rfl, ?_⟩) trivial ?_
              rotate_left
              · (intro w hSw; (try dsimp only at hSw); go_simp) <;> with_reducible rfl
              (try simp only [Act.put, List.setIfInBounds_toArray, List.set_cons_zero, List.set_cons_succ])
              refine wpAnyH_ready (rs := [12]) (by kernel_rfl) (by simp) ?_
              refine AllReadyH.cons rfl (fun K hK => ?_) AllReadyH.nil
              go_simp
              refine hK.out _ _ trivial (fun _ => ?_)
              clear hK K
              (try simp only [Act.put, List.setIfInBounds_toArray, List.set_cons_zero, List.set_cons_succ])
              refine wpAnyH_ready (rs := [13]) (by kernel_rfl) (by simp) ?_
              refine AllReadyH.cons rfl (fun K hK => ?_) AllReadyH.nil
              go_simp
              refine hK.out _ _ trivial (fun _ => ?_)
              clear hK K
              (try simp only [Act.put, List.setIfInBounds_toArray, List.set_cons_zero, List.set_cons_succ])
              refine wpAnyH_done (by kernel_rfl) ?_ _
              go_wp2
              go_meet
              exact openJ_mk (by first | exact ew3 | omega) HQ5.out HQ7.out HD.out HQ10.out HG10.out
        · go_simp
          refine (dsectors_any d F D _ (H.out.1.grew (Grew.trans HG1.out HG7.out))).mono ?_
          rintro e u2 ⟨rfl, rfl⟩
          refine hK.out _ _ trivial (fun _ => ?_)
          clear hK K
          (try simp only [Act.put, List.setIfInBounds_toArray, List.set_cons_zero, List.set_cons_succ])
          clear hr5 hB5 hG5 hs5 y5
          obtain ⟨y5, hr5, hB5, hG5, hs5⟩ := make_ints (tabN D.n D.sz) (y7) (by omega)
          refine wpAnyH_ready (rs := [5, 10]) (by kernel_rfl) (by simp) ?_
          refine (AllReadyH.cons rfl (fun K hK => ?_) (AllReadyH.cons rfl (fun K hK => ?_) AllReadyH.nil))
          · go_simp
            refine hK.out _ _ trivial (fun _ => ?_)
            clear hK K
            (try simp only [Act.put, List.setIfInBounds_toArray, List.set_cons_zero, List.set_cons_succ])
            have HQ7 := Lib.hid (HQ7.out.grew hG5)
            have HQ5 := Lib.hid (show NewInts w1 y5 (y7).heap.size (tabN D.n D.sz) from ⟨hB5, HG7.out.size⟩)
            have HD := Lib.hid (show (y7).heap.size ≠ (w1.drew).heap.size from Ne.symm (Nat.ne_of_lt HLT7.out))
            have HG5 := Lib.hid (Grew.trans HG7.out hG5)
            clear hr5 hB5 hG5 hs5
            refine wpAnyH_ready (rs := [10]) (by kernel_rfl) (by simp) ?_
            refine (AllReadyH.cons rfl (fun K hK => ?_) AllReadyH.nil)
            · go_simp
              refine (pnew_any D.n _ (by omega)).mono ?_
              rintro e y10 ⟨A10, c10, rfl, hp10, hg10, hn10⟩
              refine hK.out _ _ trivial (fun _ => ?_)
              clear hK K
              (try simp only [Act.put, List.setIfInBounds_toArray, List.set_cons_zero, List.set_cons_succ])
              have HQ7 := Lib.hid (HQ7.out.grew hg10)
              have HQ5 := Lib.hid (HQ5.out.grew hg10)
              have HQ10 := Lib.hid (show NewPool w1 y10 (y5).heap.size D.n A10 c10 from ⟨hp10, fun j hj => Nat.le_trans HG5.out.size (hn10 j hj)⟩)
              have HG10 := Lib.hid (Grew.trans HG5.out hg10)
              clear hp10 hg10 hn10
              refine wpAnyH_take (i := 11) (v := ?_) rfl (by kernel_rfl) (by kernel_rfl) (by kernel_rfl) (fun _ _ _ h => h) (Or.inl ⟨by rfl, ?_⟩) trivial ?_
              rotate_left
              · (intro w hSw; (try dsimp only at hSw); go_simp) <;> with_reducible rfl
              (try simp only [Act.put, List.setIfInBounds_toArray, List.set_cons_zero, List.set_cons_succ])
              refine wpAnyH_ready (rs := [12]) (by kernel_rfl) (by simp) ?_
              refine AllReadyH.cons rfl (fun K hK => ?_) AllReadyH.nil
              go_simp
              refine hK.out _ _ trivial (fun _ => ?_)
              clear hK K
              (try simp only [Act.put, List.setIfInBounds_toArray, List.set_cons_zero, List.set_cons_succ])
              refine wpAnyH_ready (rs := [13]) (by kernel_rfl) (by simp) ?_
              refine AllReadyH.cons rfl (fun K hK => ?_) AllReadyH.nil
              go_simp
              refine hK.out _ _ trivial (fun _ => ?_)
              clear hK K
              (try simp only [Act.put, List.setIfInBounds_toArray, List.set_cons_zero, List.set_cons_succ])
              refine wpAnyH_done (by kernel_rfl) ?_ _
              go_wp2
              go_meet
              exact openJ_mk (by first | exact ew3 | omega) HQ5.out HQ7.out HD.out HQ10.out HG10.out
          · go_simp
            refine (pnew_any D.n _ (by omega)).mono ?_
            rintro e y10 ⟨A10, c10, rfl, hp10, hg10, hn10⟩
            refine hK.out _ _ trivial (fun _ => ?_)
            clear hK K
            (try simp only [Act.put, List.setIfInBounds_toArray, List.set_cons_zero, List.set_cons_succ])
            have HQ7 := Lib.hid (HQ7.out.grew hg10)
            have HLT7 := Lib.hid (Nat.lt_of_lt_of_le HLT7.out hg10.size)
            have HQ10 := Lib.hid (show NewPool w1 y10 (y7).heap.size D.n A10 c10 from ⟨hp10, fun j hj => Nat.le_trans HG7.out.size (hn10 j hj)⟩)
            have HG10 := Lib.hid (Grew.trans HG7.out hg10)
            clear hp10 hg10 hn10
            clear hr5 hB5 hG5 hs5 y5
            obtain ⟨y5, hr5, hB5, hG5, hs5⟩ := make_ints (tabN D.n D.sz) (y10) (by omega)
            refine wpAnyH_ready (rs := [5]) (by kernel_rfl) (by simp) ?_
            refine (AllReadyH.cons rfl (fun K hK => ?_) AllReadyH.nil)
            · go_simp
              refine hK.out _ _ trivial (fun _ => ?_)
              clear hK K
              (try simp only [Act.put, List.setIfInBounds_toArray, List.set_cons_zero, List.set_cons_succ])
              have HQ7 := Lib.hid (HQ7.out.grew hG5)
              have HQ10 := Lib.hid (HQ10.out.grew hG5)
              have HQ5 := Lib.hid (show NewInts w1 y5 (y10).heap.size (tabN D.n D.sz) from ⟨hB5, HG10.out.size⟩)
              have HD := Lib.hid (show (y10).heap.size ≠ (w1.drew).heap.size from Ne.symm (Nat.ne_of_lt HLT7.out))
              have HG5 := Lib.hid (Grew.trans HG10.out hG5)
              clear hr5 hB5 hG5 hs5
              refine wpAnyH_take (i := 11) (v := ?_) rfl (by kernel_rfl) (by kernel_rfl) (by kernel_rfl) (fun _ _ _ h => h) (Or.inl ⟨by rfl, ?_⟩) trivial ?_
              rotate_left
              · (intro w hSw; (try dsimp only at hSw); go_simp) <;> with_reducible rfl
              (try simp only [Act.put, List.setIfInBounds_toArray, List.set_cons_zero, List.set_cons_succ])
              refine wpAnyH_ready (rs := [12]) (by kernel_rfl) (by simp) ?_
              refine AllReadyH.cons rfl (fun K hK => ?_) AllReadyH.nil
              go_simp
              refine hK.out _ _ trivial (fun _ => ?_)
              clear hK K
              (try simp only [Act.put, List.setIfInBounds_toArray, List.set_cons_zero, List.set_cons_succ])
              refine wpAnyH_ready (rs := [13]) (by kernel_rfl) (by simp) ?_
              refine AllReadyH.cons rfl (fun K hK => ?_) AllReadyH.nil
              go_simp
              refine hK.out _ _ trivial (fun _ => ?_)
              clear hK K
              (try simp only [Act.put, List.setIfInBounds_toArray, List.set_cons_zero, List.set_cons_succ])
              refine wpAnyH_done (by kernel_rfl) ?_ _
              go_wp2
              go_meet
              exact openJ_mk (by first | exact ew3 | omega) HQ5.out HQ7.out HD.out HQ10.out HG5.out
      · go_simp
        refine (dsectors_any d F D _ (H.out.1.grew (Grew.trans HG1.out HG0.out))).mono ?_
        rintro e u2 ⟨rfl, rfl⟩
        refine hK.out _ _ trivial (fun _ => ?_)
        clear hK K
        (try simp only [Act.put, List.setIfInBounds_toArray, List.set_cons_zero, List.set_cons_succ])
        clear hr5 hB5 hG5 hs5 y5 hr7 hB7 hG7 hs7 y7
        obtain ⟨y5, hr5, hB5, hG5, hs5⟩ := make_ints (tabN D.n D.sz) (w1.drew) (by omega)
        obtain ⟨y7, hr7, hB7, hG7, hs7⟩ := make_ints (capN D.n D.sz) (w1.drew) (by omega)
        refine wpAnyH_ready (rs := [5, 7, 10]) (by kernel_rfl) (by simp) ?_
        refine (AllReadyH.cons rfl (fun K hK => ?_) (AllReadyH.cons rfl (fun K hK => ?_) (AllReadyH.cons rfl (fun K hK => ?_) AllReadyH.nil)))
        · go_simp
          refine hK.out _ _ trivial (fun _ => ?_)
          clear hK K
          (try simp only [Act.put, List.setIfInBounds_toArray, List.set_cons_zero, List.set_cons_succ])
          have HQ5 := Lib.hid (show NewInts w1 y5 (w1.drew).heap.size (tabN D.n D.sz) from ⟨hB5, HG0.out.size⟩)
          have HLT5 := Lib.hid (show (w1.drew).heap.size < y5.heap.size from HQ5.out.1.lt)
          have HG5 := Lib.hid (Grew.trans HG0.out hG5)
          clear hr5 hB5 hG5 hs5 hr7 hB7 hG7 hs7 y7
          obtain ⟨y7, hr7, hB7, hG7, hs7⟩ := make_ints (capN D.n D.sz) (y5) (by omega)
          refine wpAnyH_ready (rs := [7, 10]) (by kernel_rfl) (by simp) ?_
          refine (AllReadyH.cons rfl (fun K hK => ?_) (AllReadyH.cons rfl (fun K hK => ?_) AllReadyH.nil))
          · go_simp
            refine hK.out _ _ trivial (fun _ => ?_)
            clear hK K
            (try simp only [Act.put, List.setIfInBounds_toArray, List.set_cons_zero, List.set_cons_succ])
            have HQ5 := Lib.hid (HQ5.out.grew hG7)
            have HQ7 := Lib.hid (show NewInts w1 y7 (y5).heap.size (capN D.n D.sz) from ⟨hB7, HG5.out.size⟩)
            have HD := Lib.hid (show (w1.drew).heap.size ≠ (y5).heap.size from Nat.ne_of_lt HLT5.out)
            have HG7 := Lib.hid (Grew.trans HG5.out hG7)
            clear hr7 hB7 hG7 hs7
            refine wpAnyH_ready (rs := [10]) (by kernel_rfl) (by simp) ?_
            refine (AllReadyH.cons rfl (fun K hK => ?_) AllReadyH.nil)
            · go_simp
              refine (pnew_any D.n _ (by omega)).mono ?_
              rintro e y10 ⟨A10, c10, rfl, hp10, hg10, hn10⟩
              refine hK.out _ _ trivial (fun _ => ?_)
              clear hK K
              (try simp only [Act.put, List.setIfInBounds_toArray, List.set_cons_zero, List.set_cons_succ])
              have HQ5 := Lib.hid (HQ5.out.grew hg10)
              have HQ7 := Lib.hid (HQ7.out.grew hg10)
              have HQ10 := Lib.hid (show NewPool w1 y10 (y7).heap.size D.n A10 c10 from ⟨hp10, fun j hj => Nat.le_trans HG7.out.size (hn10 j hj)⟩)
              have HG10 := Lib.hid (Grew.trans HG7.out hg10)
              clear hp10 hg10 hn10
              refine wpAnyH_take (i := 11) (v := ?_) rfl (by kernel_rfl) (by kernel_rfl) (by kernel_rfl) (fun _ _ _ h => h) (Or.inl ⟨by rfl, ?_⟩) trivial ?_
              rotate_left
              · (intro w hSw; (try dsimp only at hSw); go_simp) <;> with_reducible rfl
              (try simp only [Act.put, List.setIfInBounds_toArray, List.set_cons_zero, List.set_cons_succ])
              refine wpAnyH_ready (rs := [12]) (by kernel_rfl) (by simp) ?_
              refine AllReadyH.cons rfl (fun K hK => ?_) AllReadyH.nil
              go_simp
              refine hK.out _ _ trivial (fun _ => ?_)
              clear hK K
              (try simp only [Act.put, List.setIfInBounds_toArray, List.set_cons_zero, List.set_cons_succ])
              refine wpAnyH_ready (rs := [13]) (by kernel_rfl) (by simp) ?_
              refine AllReadyH.cons rfl (fun K hK => ?_) AllReadyH.nil
              go_simp
              refine hK.out _ _ trivial (fun _ => ?_)
              clear hK K
              (try simp only [Act.put, List.setIfInBounds_toArray, List.set_cons_zero, List.set_cons_succ])
              refine wpAnyH_done (by kernel_rfl) ?_ _
              go_wp2
              go_meet
              exact openJ_mk (by first | exact ew3 | omega) HQ5.out HQ7.out HD.out HQ10.out HG10.out
          · go_simp
            refine (pnew_any D.n _ (by omega)).mono ?_
            rintro e y10 ⟨A10, c10, rfl, hp10, hg10, hn10⟩
            refine hK.out _ _ trivial (fun _ => ?_)
            clear hK K
            (try simp only [Act.put, List.setIfInBounds_toArray, List.set_cons_zero, List.set_cons_succ])
            have HQ5 := Lib.hid (HQ5.out.grew hg10)
            have HLT5 := Lib.hid (Nat.lt_of_lt_of_le HLT5.out hg10.size)
            have HQ10 := Lib.hid (show NewPool w1 y10 (y5).heap.size D.n A10 c10 from ⟨hp10, fun j hj => Nat.le_trans HG5.out.size (hn10 j hj)⟩)
            have HG10 := Lib.hid (Grew.trans HG5.out hg10)
            clear hp10 hg10 hn10
            clear hr7 hB7 hG7 hs7 y7
            obtain ⟨y7, hr7, hB7, hG7, hs7⟩ := make_ints (capN D.n D.sz) (y10) (by omega)
            refine wpAnyH_ready (rs := [7]) (by kernel_rfl) (by simp) ?_
            refine (AllReadyH.cons rfl (fun K hK => ?_) AllReadyH.nil)
            · go_simp
              refine hK.out _ _ trivial (fun _ => ?_)
              clear hK K
              (try simp only [Act.put, List.setIfInBounds_toArray, List.set_cons_zero, List.set_cons_succ])
              have HQ5 := Lib.hid (HQ5.out.grew hG7)
              have HQ10 := Lib.hid (HQ10.out.grew hG7)
              have HQ7 := Lib.hid (show NewInts w1 y7 (y10).heap.size (capN D.n D.sz) from ⟨hB7, HG10.out.size⟩)
              have HD := Lib.hid (show (w1.drew).heap.size ≠ (y10).heap.size from Nat.ne_of_lt HLT5.out)
              have HG7 := Lib.hid (Grew.trans HG10.out hG7)
              clear hr7 hB7 hG7 hs7
              refine wpAnyH_take (i := 11) (v := ?_) rfl (by kernel_rfl) (by kernel_rfl) (by kernel_rfl) (fun _ _ _ h => h) (Or.inl ⟨by rfl, ?_⟩) trivial ?_
              rotate_left
              · (intro w hSw; (try dsimp only at hSw); go_simp) <;> with_reducible rfl
              (try simp only [Act.put, List.setIfInBounds_toArray, List.set_cons_zero, List.set_cons_succ])
              refine wpAnyH_ready (rs := [12]) (by kernel_rfl) (by simp) ?_
              refine AllReadyH.cons rfl (fun K hK => ?_) AllReadyH.nil
              go_simp
              refine hK.out _ _ trivial (fun _ => ?_)
              clear hK K
              (try simp only [Act.put, List.setIfInBounds_toArray, List.set_cons_zero, List.set_cons_succ])
              refine wpAnyH_ready (rs := [13]) (by kernel_rfl) (by simp) ?_
              refine AllReadyH.cons rfl (fun K hK => ?_) AllReadyH.nil
              go_simp
              refine hK.out _ _ trivial (fun _ => ?_)
              clear hK K
              (try simp only [Act.put, List.setIfInBounds_toArray, List.set_cons_zero, List.set_cons_succ])
              refine wpAnyH_done (by kernel_rfl) ?_ _
              go_wp2
              go_meet
              exact openJ_mk (by first | exact ew3 | omega) HQ5.out HQ7.out HD.out HQ10.out HG7.out
        · go_simp
          refine hK.out _ _ trivial (fun _ => ?_)
          clear hK K
          (try simp only [Act.put, List.setIfInBounds_toArray, List.set_cons_zero, List.set_cons_succ])
          have HQ7 := Lib.hid (show NewInts w1 y7 (w1.drew).heap.size (capN D.n D.sz) from ⟨hB7, HG0.out.size⟩)
          have HLT7 := Lib.hid (show (w1.drew).heap.size < y7.heap.size from HQ7.out.1.lt)
          have HG7 := Lib.hid (Grew.trans HG0.out hG7)
          clear hr7 hB7 hG7 hs7 hr5 hB5 hG5 hs5 y5
          obtain ⟨y5, hr5, hB5, hG5, hs5⟩ := make_ints (tabN D.n D.sz) (y7) (by omega)
          refine wpAnyH_ready (rs := [5, 10]) (by kernel_rfl) (by simp) ?_
          refine (AllReadyH.cons rfl (fun K hK => ?_) (AllReadyH.cons rfl (fun K hK => ?_) AllReadyH.nil))
          · go_simp
            refine hK.out _ _ trivial (fun _ => ?_)
            clear hK K
            (try simp only [Act.put, List.setIfInBounds_toArray, List.set_cons_zero, List.set_cons_succ])
            have HQ7 := Lib.hid (HQ7.out.grew hG5)
            have HQ5 := Lib.hid (show NewInts w1 y5 (y7).heap.size (tabN D.n D.sz) from ⟨hB5, HG7.out.size⟩)
            have HD := Lib.hid (show (y7).heap.size ≠ (w1.drew).heap.size from Ne.symm (Nat.ne_of_lt HLT7.out))
            have HG5 := Lib.hid (Grew.trans HG7.out hG5)
            clear hr5 hB5 hG5 hs5
            refine wpAnyH_ready (rs := [10]) (by kernel_rfl) (by simp) ?_
            refine (AllReadyH.cons rfl (fun K hK => ?_) AllReadyH.nil)
            · go_simp
              refine (pnew_any D.n _ (by omega)).mono ?_
              rintro e y10 ⟨A10, c10, rfl, hp10, hg10, hn10⟩
              refine hK.out _ _ trivial (fun _ => ?_)
              clear hK K
              (try simp only [Act.put, List.setIfInBounds_toArray, List.set_cons_zero, List.set_cons_succ])
              have HQ7 := Lib.hid (HQ7.out.grew hg10)
              have HQ5 := Lib.hid (HQ5.out.grew hg10)
              have HQ10 := Lib.hid (show NewPool w1 y10 (y5).heap.size D.n A10 c10 from ⟨hp10, fun j hj => Nat.le_trans HG5.out.size (hn10 j hj)⟩)
              have HG10 := Lib.hid (Grew.trans HG5.out hg10)
              clear hp10 hg10 hn10
              refine wpAnyH_take (i := 11) (v := ?_) rfl (by kernel_rfl) (by kernel_rfl) (by kernel_rfl) (fun _ _ _ h => h) (Or.inl ⟨by rfl, ?_⟩) trivial ?_
              rotate_left
              · (intro w hSw; (try dsimp only at hSw); go_simp) <;> with_reducible rfl
              (try simp only [Act.put, List.setIfInBounds_toArray, List.set_cons_zero, List.set_cons_succ])
              refine wpAnyH_ready (rs := [12]) (by kernel_rfl) (by simp) ?_
              refine AllReadyH.cons rfl (fun K hK => ?_) AllReadyH.nil
              go_simp
              refine hK.out _ _ trivial (fun _ => ?_)
              clear hK K
              (try simp only [Act.put, List.setIfInBounds_toArray, List.set_cons_zero, List.set_cons_succ])
              refine wpAnyH_ready (rs := [13]) (by kernel_rfl) (by simp) ?_
              refine AllReadyH.cons rfl (fun K hK => ?_) AllReadyH.nil
              go_simp
              refine hK.out _ _ trivial (fun _ => ?_)
              clear hK K
              (try simp only [Act.put, List.setIfInBounds_toArray, List.set_cons_zero, List.set_cons_succ])
              refine wpAnyH_done (by kernel_rfl) ?_ _
              go_wp2
              go_meet
              exact openJ_mk (by first | exact ew3 | omega) HQ5.out HQ7.out HD.out HQ10.out HG10.out
          · go_simp
            refine (pnew_any D.n _ (by omega)).mono ?_
            rintro e y10 ⟨A10, c10, rfl, hp10, hg10, hn10⟩
            refine hK.out _ _ trivial (fun _ => ?_)
            clear hK K
            (try simp only [Act.put, List.setIfInBounds_toArray, List.set_cons_zero, List.set_cons_succ])
            have HQ7 := Lib.hid (HQ7.out.grew hg10)
            have HLT7 := Lib.hid (Nat.lt_of_lt_of_le HLT7.out hg10.size)
            have HQ10 := Lib.hid (show NewPool w1 y10 (y7).heap.size D.n A10 c10 from ⟨hp10, fun j hj => Nat.le_trans HG7.out.size (hn10 j hj)⟩)
            have HG10 := Lib.hid (Grew.trans HG7.out hg10)
            clear hp10 hg10 hn10
            clear hr5 hB5 hG5 hs5 y5
            obtain ⟨y5, hr5, hB5, hG5, hs5⟩ := make_ints (tabN D.n D.sz) (y10) (by omega)
            refine wpAnyH_ready (rs := [5]) (by kernel_rfl) (by simp) ?_
            refine (AllReadyH.cons rfl (fun K hK => ?_) AllReadyH.nil)
            · go_simp
              refine hK.out _ _ trivial (fun _ => ?_)
              clear hK K
              (try simp only [Act.put, List.setIfInBounds_toArray, List.set_cons_zero, List.set_cons_succ])
              have HQ7 := Lib.hid (HQ7.out.grew hG5)
              have HQ10 := Lib.hid (HQ10.out.grew hG5)
              have HQ5 := Lib.hid (show NewInts w1 y5 (y10).heap.size (tabN D.n D.sz) from ⟨hB5, HG10.out.size⟩)
              have HD := Lib.hid (show (y10).heap.size ≠ (w1.drew).heap.size from Ne.symm (Nat.ne_of_lt HLT7.out))
              have HG5 := Lib.hid (Grew.trans HG10.out hG5)
              clear hr5 hB5 hG5 hs5
              refine wpAnyH_take (i := 11) (v := ?_) rfl (by kernel_rfl) (by kernel_rfl) (by kernel_rfl) (fun _ _ _ h => h) (Or.inl ⟨by rfl, ?_⟩) trivial ?_
              rotate_left
              · (intro w hSw; (try dsimp only at hSw); go_simp) <;> with_reducible rfl
              (try simp only [Act.put, List.setIfInBounds_toArray, List.set_cons_zero, List.set_cons_succ])
              refine wpAnyH_ready (rs := [12]) (by kernel_rfl) (by simp) ?_
              refine AllReadyH.cons rfl (fun K hK => ?_) AllReadyH.nil
              go_simp
              refine hK.out _ _ trivial (fun _ => ?_)
              clear hK K
              (try simp only [Act.put, List.setIfInBounds_toArray, List.set_cons_zero, List.set_cons_succ])
              refine wpAnyH_ready (rs := [13]) (by kernel_rfl) (by simp) ?_
              refine AllReadyH.cons rfl (fun K hK => ?_) AllReadyH.nil
              go_simp
              refine hK.out _ _ trivial (fun _ => ?_)
              clear hK K
              (try simp only [Act.put, List.setIfInBounds_toArray, List.set_cons_zero, List.set_cons_succ])
              refine wpAnyH_done (by kernel_rfl) ?_ _
              go_wp2
              go_meet
              exact openJ_mk (by first | exact ew3 | omega) HQ5.out HQ7.out HD.out HQ10.out HG5.out
        · go_simp
          refine (pnew_any D.n _ (by omega)).mono ?_
          rintro e y10 ⟨A10, c10, rfl, hp10, hg10, hn10⟩
          refine hK.out _ _ trivial (fun _ => ?_)
          clear hK K
          (try simp only [Act.put, List.setIfInBounds_toArray, List.set_cons_zero, List.set_cons_succ])
          have HQ10 := Lib.hid (show NewPool w1 y10 (w1.drew).heap.size D.n A10 c10 from ⟨hp10, fun j hj => Nat.le_trans HG0.out.size (hn10 j hj)⟩)
          have HG10 := Lib.hid (Grew.trans HG0.out hg10)
          clear hp10 hg10 hn10
          clear hr5 hB5 hG5 hs5 y5 hr7 hB7 hG7 hs7 y7
          obtain ⟨y5, hr5, hB5, hG5, hs5⟩ := make_ints (tabN D.n D.sz) (y10) (by omega)
          obtain ⟨y7, hr7, hB7, hG7, hs7⟩ := make_ints (capN D.n D.sz) (y10) (by omega)
          refine wpAnyH_ready (rs := [5, 7]) (by kernel_rfl) (by simp) ?_
          refine (AllReadyH.cons rfl (fun K hK => ?_) (AllReadyH.cons rfl (fun K hK => ?_) AllReadyH.nil))
          · go_simp
            refine hK.out _ _ trivial (fun _ => ?_)
            clear hK K
            (try simp only [Act.put, List.setIfInBounds_toArray, List.set_cons_zero, List.set_cons_succ])
            have HQ10 := Lib.hid (HQ10.out.grew hG5)
            have HQ5 := Lib.hid (show NewInts w1 y5 (y10).heap.size (tabN D.n D.sz) from ⟨hB5, HG10.out.size⟩)
            have HLT5 := Lib.hid (show (y10).heap.size < y5.heap.size from HQ5.out.1.lt)
            have HG5 := Lib.hid (Grew.trans HG10.out hG5)
            clear hr5 hB5 hG5 hs5 hr7 hB7 hG7 hs7 y7
            obtain ⟨y7, hr7, hB7, hG7, hs7⟩ := make_ints (capN D.n D.sz) (y5) (by omega)
            refine wpAnyH_ready (rs := [7]) (by kernel_rfl) (by simp) ?_
            refine (AllReadyH.cons rfl (fun K hK => ?_) AllReadyH.nil)
            · go_simp
              refine hK.out _ _ trivial (fun _ => ?_)
              clear hK K
              (try simp only [Act.put, List.setIfInBounds_toArray, List.set_cons_zero, List.set_cons_succ])
              have HQ10 := Lib.hid (HQ10.out.grew hG7)
              have HQ5 := Lib.hid (HQ5.out.grew hG7)
              have HQ7 := Lib.hid (show NewInts w1 y7 (y5).heap.size (capN D.n D.sz) from ⟨hB7, HG5.out.size⟩)
              have HD := Lib.hid (show (y10).heap.size ≠ (y5).heap.size from Nat.ne_of_lt HLT5.out)
              have HG7 := Lib.hid (Grew.trans HG5.out hG7)
              clear hr7 hB7 hG7 hs7
              refine wpAnyH_take (i := 11) (v := ?_) rfl (by kernel_rfl) (by kernel_rfl) (by kernel_rfl) (fun _ _ _ h => h) (Or.inl ⟨by rfl, ?_⟩) trivial ?_
              rotate_left
              · (intro w hSw; (try dsimp only at hSw); go_simp) <;> with_reducible rfl
              (try simp only [Act.put, List.setIfInBounds_toArray, List.set_cons_zero, List.set_cons_succ])
              refine wpAnyH_ready (rs := [12]) (by kernel_rfl) (by simp) ?_
              refine AllReadyH.cons rfl (fun K hK => ?_) AllReadyH.nil
              go_simp
              refine hK.out _ _ trivial (fun _ => ?_)
              clear hK K
              (try simp only [Act.put, List.setIfInBounds_toArray, List.set_cons_zero, List.set_cons_succ])
              refine wpAnyH_ready (rs := [13]) (by kernel_rfl) (by simp) ?_
              refine AllReadyH.cons rfl (fun K hK => ?_) AllReadyH.nil
              go_simp
              refine hK.out _ _ trivial (fun _ => ?_)
              clear hK K
              (try simp only [Act.put, List.setIfInBounds_toArray, List.set_cons_zero, List.set_cons_succ])
              refine wpAnyH_done (by kernel_rfl) ?_ _
              go_wp2
              go_meet
              exact openJ_mk (by first | exact ew3 | omega) HQ5.out HQ7.out HD.out HQ10.out HG7.out
          · go_simp
            refine hK.out _ _ trivial (fun _ => ?_)
            clear hK K
            (try simp only [Act.put, List.setIfInBounds_toArray, List.set_cons_zero, List.set_cons_succ])
            have HQ10 := Lib.hid (HQ10.out.grew hG7)
            have HQ7 := Lib.hid (show NewInts w1 y7 (y10).heap.size (capN D.n D.sz) from ⟨hB7, HG10.out.size⟩)
            have HLT7 := Lib.hid (show (y10).heap.size < y7.heap.size from HQ7.out.1.lt)
            have HG7 := Lib.hid (Grew.trans HG10.out hG7)
            clear hr7 hB7 hG7 hs7 hr5 hB5 hG5 hs5 y5
            obtain ⟨y5, hr5, hB5, hG5, hs5⟩ := make_ints (tabN D.n D.sz) (y7) (by omega)
            refine wpAnyH_ready (rs := [5]) (by kernel_rfl) (by simp) ?_
            refine (AllReadyH.cons rfl (fun K hK => ?_) AllReadyH.nil)
            · go_simp
              refine hK.out _ _ trivial (fun _ => ?_)
              clear hK K
              (try simp only [Act.put, List.setIfInBounds_toArray, List.set_cons_zero, List.set_cons_succ])
              have HQ10 := Lib.hid (HQ10.out.grew hG5)
              have HQ7 := Lib.hid (HQ7.out.grew hG5)
              have HQ5 := Lib.hid (show NewInts w1 y5 (y7).heap.size (tabN D.n D.sz) from ⟨hB5, HG7.out.size⟩)
              have HD := Lib.hid (show (y7).heap.size ≠ (y10).heap.size from Ne.symm (Nat.ne_of_lt HLT7.out))
              have HG5 := Lib.hid (Grew.trans HG7.out hG5)
              clear hr5 hB5 hG5 hs5
              refine wpAnyH_take (i := 11) (v := ?_) rfl (by kernel_rfl) (by kernel_rfl) (by kernel_rfl) (fun _ _ _ h => h) (Or.inl ⟨by rfl, ?_⟩) trivial ?_
              rotate_left
              · (intro w hSw; (try dsimp only at hSw); go_simp) <;> with_reducible rfl
              (try simp only [Act.put, List.setIfInBounds_toArray, List.set_cons_zero, List.set_cons_succ])
              refine wpAnyH_ready (rs := [12]) (by kernel_rfl) (by simp) ?_
              refine AllReadyH.cons rfl (fun K hK => ?_) AllReadyH.nil
              go_simp
              refine hK.out _ _ trivial (fun _ => ?_)
              clear hK K
              (try simp only [Act.put, List.setIfInBounds_toArray, List.set_cons_zero, List.set_cons_succ])
              refine wpAnyH_ready (rs := [13]) (by kernel_rfl) (by simp) ?_
              refine AllReadyH.cons rfl (fun K hK => ?_) AllReadyH.nil
              go_simp
              refine hK.out _ _ trivial (fun _ => ?_)
              clear hK K
              (try simp only [Act.put, List.setIfInBounds_toArray, List.set_cons_zero, List.set_cons_succ])
              refine wpAnyH_done (by kernel_rfl) ?_ _
              go_wp2
              go_meet
              exact openJ_mk (by first | exact ew3 | omega) HQ5.out HQ7.out HD.out HQ10.out HG5.out
    · go_simp
      refine hK.out _ _ trivial (fun _ => ?_)
      clear hK K
      (try simp only [Act.put, List.setIfInBounds_toArray, List.set_cons_zero, List.set_cons_succ])
      have HQ5 := Lib.hid (show NewInts w1 y5 (w1.drew).heap.size (tabN D.n D.sz) from ⟨hB5, HG0.out.size⟩)
      have HLT5 := Lib.hid (show (w1.drew).heap.size < y5.heap.size from HQ5.out.1.lt)
      have HG5 := Lib.hid (Grew.trans HG0.out hG5)
      clear hr5 hB5 hG5 hs5 hr7 hB7 hG7 hs7 y7
      obtain ⟨y7, hr7, hB7, hG7, hs7⟩ := make_ints (capN D.n D.sz) (y5) (by omega)
      refine wpAnyH_ready (rs := [2, 7]) (by kernel_rfl) (by simp) ?_
      refine (AllReadyH.cons rfl (fun K hK => ?_) (AllReadyH.cons rfl (fun K hK => ?_) AllReadyH.nil))
      · go_simp
        refine (dsize_any d F D _ (H.out.1.grew (Grew.trans HG1.out HG5.out))).mono ?_
        rintro e u2 ⟨rfl, rfl⟩
        refine hK.out _ _ trivial (fun _ => ?_)
        clear hK K
        (try simp only [Act.put, List.setIfInBounds_toArray, List.set_cons_zero, List.set_cons_succ])
        clear hr7 hB7 hG7 hs7 y7
        refine wpAnyH_take (i := 3) (v := ?_) rfl (by kernel_rfl) (by kernel_rfl) (by kernel_rfl) (fun _ _ _ h => h) (Or.inl ⟨by rfl, ?_⟩) trivial ?_
        rotate_left
        · (intro w hSw; (try dsimp only at hSw); go_simp) <;> with_reducible rfl
        (try simp only [Act.put, List.setIfInBounds_toArray, List.set_cons_zero, List.set_cons_succ])
        obtain ⟨y7, hr7, hB7, hG7, hs7⟩ := make_ints (capN D.n D.sz) (y5) (by omega)
        refine wpAnyH_ready (rs := [7, 9]) (by kernel_rfl) (by simp) ?_
        refine (AllReadyH.cons rfl (fun K hK => ?_) (AllReadyH.cons rfl (fun K hK => ?_) AllReadyH.nil))
        · go_simp
          refine hK.out _ _ trivial (fun _ => ?_)
          clear hK K
          (try simp only [Act.put, List.setIfInBounds_toArray, List.set_cons_zero, List.set_cons_succ])
          have HQ5 := Lib.hid (HQ5.out.grew hG7)
          have HQ7 := Lib.hid (show NewInts w1 y7 (y5).heap.size (capN D.n D.sz) from ⟨hB7, HG5.out.size⟩)
          have HD := Lib.hid (show (w1.drew).heap.size ≠ (y5).heap.size from Nat.ne_of_lt HLT5.out)
          have HG7 := Lib.hid (Grew.trans HG5.out hG7)
          clear hr7 hB7 hG7 hs7
          refine wpAnyH_ready (rs := [9]) (by kernel_rfl) (by simp) ?_
          refine (AllReadyH.cons rfl (fun K hK => ?_) AllReadyH.nil)
          · go_simp
            refine (dsectors_any d F D _ (H.out.1.grew (Grew.trans HG1.out HG7.out))).mono ?_
            rintro e u2 ⟨rfl, rfl⟩
            refine hK.out _ _ trivial (fun _ => ?_)
            clear hK K
            (try simp only [Act.put, List.setIfInBounds_toArray, List.set_cons_zero, List.set_cons_succ])
            refine wpAnyH_ready (rs := [10]) (by kernel_rfl) (by simp) ?_
            refine (AllReadyH.cons rfl (fun K hK => ?_) AllReadyH.nil)
            · go_simp
              refine (pnew_any D.n _ (by omega)).mono ?_
              rintro e y10 ⟨A10, c10, rfl, hp10, hg10, hn10⟩
              refine hK.out _ _ trivial (fun _ => ?_)
              clear hK K
              (try simp only [Act.put, List.setIfInBounds_toArray, List.set_cons_zero, List.set_cons_succ])
              have HQ5 := Lib.hid (HQ5.out.grew hg10)
              have HQ7 := Lib.hid (HQ7.out.grew hg10)
              have HQ10 := Lib.hid (show NewPool w1 y10 (y7).heap.size D.n A10 c10 from ⟨hp10, fun j hj => Nat.le_trans HG7.out.size (hn10 j hj)⟩)
              have HG10 := Lib.hid (Grew.trans HG7.out hg10)
              clear hp10 hg10 hn10
              refine wpAnyH_take (i := 11) (v := ?_) rfl (by kernel_rfl) (by kernel_rfl) (by kernel_rfl) (fun _ _ _ h => h) (Or.inl ⟨by rfl, ?_⟩) trivial ?_
              rotate_left
              · (intro w hSw; (try dsimp only at hSw); go_simp) <;> with_reducible rfl
              (try simp only [Act.put, List.setIfInBounds_toArray, List.set_cons_zero, List.set_cons_succ])
              refine wpAnyH_ready (rs := [12]) (by kernel_rfl) (by simp) ?_
              refine AllReadyH.cons rfl (fun K hK => ?_) AllReadyH.nil
              go_simp
              refine hK.out _ _ trivial (fun _ => ?_)
              clear hK K
              (try simp only [Act.put, List.setIfInBounds_toArray, List.set_cons_zero, List.set_cons_succ])
              refine wpAnyH_ready (rs := [13]) (by kernel_rfl) (by simp) ?_
              refine AllReadyH.cons rfl (fun K hK => ?_) AllReadyH.nil
              go_simp
              refine hK.out _ _ trivial (fun _ => ?_)
              clear hK K
              (try simp only [Act.put, List.setIfInBounds_toArray, List.set_cons_zero, List.set_cons_succ])
              refine wpAnyH_done (by kernel_rfl) ?_ _
              go_wp2
              go_meet
              exact openJ_mk (by first | exact ew3 | omega) HQ5.out HQ7.out HD.out HQ10.out HG10.out
        · go_simp
          refine (dsectors_any d F D _ (H.out.1.grew (Grew.trans HG1.out HG5.out))).mono ?_
          rintro e u2 ⟨rfl, rfl⟩
          refine hK.out _ _ trivial (fun _ => ?_)
          clear hK K
          (try simp only [Act.put, List.setIfInBounds_toArray, List.set_cons_zero, List.set_cons_succ])
          clear hr7 hB7 hG7 hs7 y7
          obtain ⟨y7, hr7, hB7, hG7, hs7⟩ := make_ints (capN D.n D.sz) (y5) (by omega)
          refine wpAnyH_ready (rs := [7, 10]) (by kernel_rfl) (by simp) ?_
          refine (AllReadyH.cons rfl (fun K hK => ?_) (AllReadyH.cons rfl (fun K hK => ?_) AllReadyH.nil))
          · go_simp
            refine hK.out _ _ trivial (fun _ => ?_)
            clear hK K
            (try simp only [Act.put, List.setIfInBounds_toArray, List.set_cons_zero, List.set_cons_succ])
            have HQ5 := Lib.hid (HQ5.out.grew hG7)
            have HQ7 := Lib.hid (show NewInts w1 y7 (y5).heap.size (capN D.n D.sz) from ⟨hB7, HG5.out.size⟩)
            have HD := Lib.hid (show (w1.drew).heap.size ≠ (y5).heap.size from Nat.ne_of_lt HLT5.out)
            have HG7 := Lib.hid (Grew.trans HG5.out hG7)
            clear hr7 hB7 hG7 hs7
            refine wpAnyH_ready (rs := [10]) (by kernel_rfl) (by simp) ?_
            refine (AllReadyH.cons rfl (fun K hK => ?_) AllReadyH.nil)
            · go_simp
              refine (pnew_any D.n _ (by omega)).mono ?_
              rintro e y10 ⟨A10, c10, rfl, hp10, hg10, hn10⟩
              refine hK.out _ _ trivial (fun _ => ?_)
              clear hK K
              (try simp only [Act.put, List.setIfInBounds_toArray, List.set_cons_zero, List.set_cons_succ])
              have HQ5 := Lib.hid (HQ5.out.grew hg10)
              have HQ7 := Lib.hid (HQ7.out.grew hg10)
              have HQ10 := Lib.hid (show NewPool w1 y10 (y7).heap.size D.n A10 c10 from ⟨hp10, fun j hj => Nat.le_trans HG7.out.size (hn10 j hj)⟩)
              have HG10 := Lib.hid (Grew.trans HG7.out hg10)
              clear hp10 hg10 hn10
              refine wpAnyH_take (i := 11) (v := ?_) rfl (by kernel_rfl) (by kernel_rfl) (by kernel_rfl) (fun _ _ _ h => h) (Or.inl ⟨by rfl, ?_⟩) trivial ?_
              rotate_left
              · (intro w hSw; (try dsimp only at hSw); go_simp) <;> with_reducible rfl
              (try simp only [Act.put, List.setIfInBounds_toArray, List.set_cons_zero, List.set_cons_succ])
              refine wpAnyH_ready (rs := [12]) (by kernel_rfl) (by simp) ?_
              refine AllReadyH.cons rfl (fun K hK => ?_) AllReadyH.nil
              go_simp
              refine hK.out _ _ trivial (fun _ => ?_)
              clear hK K
              (try simp only [Act.put, List.setIfInBounds_toArray, List.set_cons_zero, List.set_cons_succ])
              refine wpAnyH_ready (rs := [13]) (by kernel_rfl) (by simp) ?_
              refine AllReadyH.cons rfl (fun K hK => ?_) AllReadyH.nil
              go_simp
              refine hK.out _ _ trivial (fun _ => ?_)
              clear hK K
              (try simp only [Act.put, List.setIfInBounds_toArray, List.set_cons_zero, List.set_cons_succ])
              refine wpAnyH_done (by kernel_rfl) ?_ _
              go_wp2
              go_meet
              exact openJ_mk (by first | exact ew3 | omega) HQ5.out HQ7.out HD.out HQ10.out HG10.out
          · go_simp
            refine (pnew_any D.n _ (by omega)).mono ?_
            rintro e y10 ⟨A10, c10, rfl, hp10, hg10, hn10⟩
            refine hK.out _ _ trivial (fun _ => ?_)
            clear hK K
            (try simp only [Act.put, List.setIfInBounds_toArray, List.set_cons_zero, List.set_cons_succ])
            have HQ5 := Lib.hid (HQ5.out.grew hg10)
            have HLT5 := Lib.hid (Nat.lt_of_lt_of_le HLT5.out hg10.size)
            have HQ10 := Lib.hid (show NewPool w1 y10 (y5).heap.size D.n A10 c10 from ⟨hp10, fun j hj => Nat.le_trans HG5.out.size (hn10 j hj)⟩)
            have HG10 := Lib.hid (Grew.trans HG5.out hg10)
            clear hp10 hg10 hn10
            clear hr7 hB7 hG7 hs7 y7
            obtain ⟨y7, hr7, hB7, hG7, hs7⟩ := make_ints (capN D.n D.sz) (y10) (by omega)
            refine wpAnyH_ready (rs := [7]) (by kernel_rfl) (by simp) ?_
            refine (AllReadyH.cons rfl (fun K hK => ?_) AllReadyH.nil)
            · go_simp
              refine hK.out _ _ trivial (fun _ => ?_)
              clear hK K
              (try simp only [Act.put, List.setIfInBounds_toArray, List.set_cons_zero, List.set_cons_succ])
              have HQ5 := Lib.hid (HQ5.out.grew hG7)
              have HQ10 := Lib.hid (HQ10.out.grew hG7)
              have HQ7 := Lib.hid (show NewInts w1 y7 (y10).heap.size (capN D.n D.sz) from ⟨hB7, HG10.out.size⟩)
              have HD := Lib.hid (show (w1.drew).heap.size ≠ (y10).heap.size from Nat.ne_of_lt HLT5.out)
              have HG7 := Lib.hid (Grew.trans HG10.out hG7)
              clear hr7 hB7 hG7 hs7
              refine wpAnyH_take (i := 11) (v := ?_) rfl (by kernel_rfl) (by kernel_rfl) (by kernel_rfl) (fun _ _ _ h => h) (Or.inl ⟨by rfl, ?_⟩) trivial ?_
              rotate_left
              · (intro w hSw; (try dsimp only at hSw); go_simp) <;> with_reducible rfl
              (try simp only [Act.put, List.setIfInBounds_toArray, List.set_cons_zero, List.set_cons_succ])
              refine wpAnyH_ready (rs := [12]) (by kernel_rfl) (by simp) ?_
              refine AllReadyH.cons rfl (fun K hK => ?_) AllReadyH.nil
              go_simp
              refine hK.out _ _ trivial (fun _ => ?_)
              clear hK K
              (try simp only [Act.put, List.setIfInBounds_toArray, List.set_cons_zero, List.set_cons_succ])
              refine wpAnyH_ready (rs := [13]) (by kernel_rfl) (by simp) ?_
              refine AllReadyH.cons rfl (fun K hK => ?_) AllReadyH.nil
              go_simp
              refine hK.out _ _ trivial (fun _ => ?_)
              clear hK K
              (try simp only [Act.put, List.setIfInBounds_toArray, List.set_cons_zero, List.set_cons_succ])
              refine wpAnyH_done (by kernel_rfl) ?_ _
              go_wp2
              go_meet
              exact openJ_mk (by first | exact ew3 | omega) HQ5.out HQ7.out HD.out HQ10.out HG7.out
      · go_simp
        refine hK.out _ _ trivial (fun _ => ?_)
        clear hK K
        (try simp only [Act.put, List.setIfInBounds_toArray, List.set_cons_zero, List.set_cons_succ])
        have HQ5 := Lib.hid (HQ5.out.grew hG7)
        have HQ7 := Lib.hid (show NewInts w1 y7 (y5).heap.size (capN D.n D.sz) from ⟨hB7, HG5.out.size⟩)
        have HD := Lib.hid (show (w1.drew).heap.size ≠ (y5).heap.size from Nat.ne_of_lt HLT5.out)
        have HG7 := Lib.hid (Grew.trans HG5.out hG7)
        clear hr7 hB7 hG7 hs7
        refine wpAnyH_ready (rs := [2]) (by kernel_rfl) (by simp) ?_
        refine (AllReadyH.cons rfl (fun K hK => ?_) AllReadyH.nil)
        · go_simp
          refine (dsize_any d F D _ (H.out.1.grew (Grew.trans HG1.out HG7.out))).mono ?_
          rintro e u2 ⟨rfl, rfl⟩
          refine hK.out _ _ trivial (fun _ => ?_)
          clear hK K
          (try simp only [Act.put, List.setIfInBounds_toArray, List.set_cons_zero, List.set_cons_succ])
          refine wpAnyH_take (i := 3) (v := ?_) rfl (by kernel_rfl) (by kernel_rfl) (by kernel_rfl) (fun _ _ _ h => h) (Or.inl ⟨by rfl, ?_⟩) trivial ?_
          rotate_left
          · (intro w hSw; (try dsimp only at hSw); go_simp) <;> with_reducible rfl
          (try simp only [Act.put, List.setIfInBounds_toArray, List.set_cons_zero, List.set_cons_succ])
          refine wpAnyH_ready (rs := [9]) (by kernel_rfl) (by simp) ?_
          refine (AllReadyH.cons rfl (fun K hK => ?_) AllReadyH.nil)
          · go_simp
            refine (dsectors_any d F D _ (H.out.1.grew (Grew.trans HG1.out HG7.out))).mono ?_
            rintro e u2 ⟨rfl, rfl⟩
            refine hK.out _ _ trivial (fun _ => ?_)
            clear hK K
            (try simp only [Act.put, List.setIfInBounds_toArray, List.set_cons_zero, List.set_cons_succ])
            refine wpAnyH_ready (rs := [10]) (by kernel_rfl) (by simp) ?_
            refine (AllReadyH.cons rfl (fun K hK => ?_) AllReadyH.nil)
            · go_simp
              refine (pnew_any D.n _ (by omega)).mono ?_
              rintro e y10 ⟨A10, c10, rfl, hp10, hg10, hn10⟩
              refine hK.out _ _ trivial (fun _ => ?_)
              clear hK K
              (try simp only [Act.put, List.setIfInBounds_toArray, List.set_cons_zero, List.set_cons_succ])
              have HQ5 := Lib.hid (HQ5.out.grew hg10)
              have HQ7 := Lib.hid (HQ7.out.grew hg10)
              have HQ10 := Lib.hid (show NewPool w1 y10 (y7).heap.size D.n A10 c10 from ⟨hp10, fun j hj => Nat.le_trans HG7.out.size (hn10 j hj)⟩)
              have HG10 := Lib.hid (Grew.trans HG7.out hg10)
              clear hp10 hg10 hn10
              refine wpAnyH_take (i := 11) (v := ?_) rfl (by kernel_rfl) (by kernel_rfl) (by kernel_rfl) (fun _ _ _ h => h) (Or.inl ⟨by rfl, ?_⟩) trivial ?_
              rotate_left
              · (intro w hSw; (try dsimp only at hSw); go_simp) <;> with_reducible rfl
              (try simp only [Act.put, List.setIfInBounds_toArray, List.set_cons_zero, List.set_cons_succ])
              refine wpAnyH_ready (rs := [12]) (by kernel_rfl) (by simp) ?_
              refine AllReadyH.cons rfl (fun K hK => ?_) AllReadyH.nil
              go_simp
              refine hK.out _ _ trivial (fun _ => ?_)
              clear hK K
              (try simp only [Act.put, List.setIfInBounds_toArray, List.set_cons_zero, List.set_cons_succ])
              refine wpAnyH_ready (rs := [13]) (by kernel_rfl) (by simp) ?_
              refine AllReadyH.cons rfl (fun K hK => ?_) AllReadyH.nil
              go_simp
              refine hK.out _ _ trivial (fun _ => ?_)
              clear hK K
              (try simp only [Act.put, List.setIfInBounds_toArray, List.set_cons_zero, List.set_cons_succ])
              refine wpAnyH_done (by kernel_rfl) ?_ _
              go_wp2
              go_meet
              exact openJ_mk (by first | exact ew3 | omega) HQ5.out HQ7.out HD.out HQ10.out HG10.out
    · go_simp
      refine hK.out _ _ trivial (fun _ => ?_)
      clear hK K
      (try simp only [Act.put, List.setIfInBounds_toArray, List.set_cons_zero, List.set_cons_succ])
      have HQ7 := Lib.hid (show NewInts w1 y7 (w1.drew).heap.size (capN D.n D.sz) from ⟨hB7, HG0.out.size⟩)
      have HLT7 := Lib.hid (show (w1.drew).heap.size < y7.heap.size from HQ7.out.1.lt)
      have HG7 := Lib.hid (Grew.trans HG0.out hG7)
      clear hr7 hB7 hG7 hs7 hr5 hB5 hG5 hs5 y5
      obtain ⟨y5, hr5, hB5, hG5, hs5⟩ := make_ints (tabN D.n D.sz) (y7) (by omega)
      refine wpAnyH_ready (rs := [2, 5]) (by kernel_rfl) (by simp) ?_
      refine (AllReadyH.cons rfl (fun K hK => ?_) (AllReadyH.cons rfl (fun K hK => ?_) AllReadyH.nil))
      · go_simp
        refine (dsize_any d F D _ (H.out.1.grew (Grew.trans HG1.out HG7.out))).mono ?_
        rintro e u2 ⟨rfl, rfl⟩
        refine hK.out _ _ trivial (fun _ => ?_)
        clear hK K
        (try simp only [Act.put, List.setIfInBounds_toArray, List.set_cons_zero, List.set_cons_succ])
        clear hr5 hB5 hG5 hs5 y5
        refine wpAnyH_take (i := 3) (v := ?_) rfl (by kernel_rfl) (by kernel_rfl) (by kernel_rfl) (fun _ _ _ h => h) (Or.inl ⟨by rfl, ?_⟩) trivial ?_
        rotate_left
        · (intro w hSw; (try dsimp only at hSw); go_simp) <;> with_reducible rfl
        (try simp only [Act.put, List.setIfInBounds_toArray, List.set_cons_zero, List.set_cons_succ])
        obtain ⟨y5, hr5, hB5, hG5, hs5⟩ := make_ints (tabN D.n D.sz) (y7) (by omega)
        refine wpAnyH_ready (rs := [5, 9]) (by kernel_rfl) (by simp) ?_
        refine (AllReadyH.cons rfl (fun K hK => ?_) (AllReadyH.cons rfl (fun K hK => ?_) AllReadyH.nil))
        · go_simp
          refine hK.out _ _ trivial (fun _ => ?_)
          clear hK K
          (try simp only [Act.put, List.setIfInBounds_toArray, List.set_cons_zero, List.set_cons_succ])
          have HQ7 := Lib.hid (HQ7.out.grew hG5)
          have HQ5 := Lib.hid (show NewInts w1 y5 (y7).heap.size (tabN D.n D.sz) from ⟨hB5, HG7.out.size⟩)
          have HD := Lib.hid (show (y7).heap.size ≠ (w1.drew).heap.size from Ne.symm (Nat.ne_of_lt HLT7.out))
          have HG5 := Lib.hid (Grew.trans HG7.out hG5)
          clear hr5 hB5 hG5 hs5
          refine wpAnyH_ready (rs := [9]) (by kernel_rfl) (by simp) ?_
          refine (AllReadyH.cons rfl (fun K hK => ?_) AllReadyH.nil)
          · go_simp
            refine (dsectors_any d F D _ (H.out.1.grew (Grew.trans HG1.out HG5.out))).mono ?_
            rintro e u2 ⟨rfl, rfl⟩
            refine hK.out _ _ trivial (fun _ => ?_)
            clear hK K
            (try simp only [Act.put, List.setIfInBounds_toArray, List.set_cons_zero, List.set_cons_succ])
            refine wpAnyH_ready (rs := [10]) (by kernel_rfl) (by simp) ?_
            refine (AllReadyH.cons rfl (fun K hK => ?_) AllReadyH.nil)
            · go_simp
              refine (pnew_any D.n _ (by omega)).mono ?_
              rintro e y10 ⟨A10, c10, rfl, hp10, hg10, hn10⟩
              refine hK.out _ _ trivial (fun _ => ?_)
              clear hK K
              (try simp only [Act.put, List.setIfInBounds_toArray, List.set_cons_zero, List.set_cons_succ])
              have HQ7 := Lib.hid (HQ7.out.grew hg10)
              have HQ5 := Lib.hid (HQ5.out.grew hg10)
              have HQ10 := Lib.hid (show NewPool w1 y10 (y5).heap.size D.n A10 c10 from ⟨hp10, fun j hj => Nat.le_trans HG5.out.size (hn10 j hj)⟩)
              have HG10 := Lib.hid (Grew.trans HG5.out hg10)
              clear hp10 hg10 hn10
              refine wpAnyH_take (i := 11) (v := ?_) rfl (by kernel_rfl) (by kernel_rfl) (by kernel_rfl) (fun _ _ _ h => h) (Or.inl ⟨by rfl, ?_⟩) trivial ?_
              rotate_left
              · (intro w hSw; (try dsimp only at hSw); go_simp) <;> with_reducible rfl
              (try simp only [Act.put, List.setIfInBounds_toArray, List.set_cons_zero, List.set_cons_succ])
              refine wpAnyH_ready (rs := [12]) (by kernel_rfl) (by simp) ?_
              refine AllReadyH.cons rfl (fun K hK => ?_) AllReadyH.nil
              go_simp
              refine hK.out _ _ trivial (fun _ => ?_)
              clear hK K
              (try simp only [Act.put, List.setIfInBounds_toArray, List.set_cons_zero, List.set_cons_succ])
              refine wpAnyH_ready (rs := [13]) (by kernel_rfl) (by simp) ?_
              refine AllReadyH.cons rfl (fun K hK => ?_) AllReadyH.nil
              go_simp
              refine hK.out _ _ trivial (fun _ => ?_)
              clear hK K
              (try simp only [Act.put, List.setIfInBounds_toArray, List.set_cons_zero, List.set_cons_succ])
              refine wpAnyH_done (by kernel_rfl) ?_ _
              go_wp2
              go_meet
              exact openJ_mk (by first | exact ew3 | omega) HQ5.out HQ7.out HD.out HQ10.out HG10.out
        · go_simp
          refine (dsectors_any d F D _ (H.out.1.grew (Grew.trans HG1.out HG7.out))).mono ?_
          rintro e u2 ⟨rfl, rfl⟩
          refine hK.out _ _ trivial (fun _ => ?_)
          clear hK K
          (try simp only [Act.put, List.setIfInBounds_toArray, List.set_cons_zero, List.set_cons_succ])
          clear hr5 hB5 hG5 hs5 y5
          obtain ⟨y5, hr5, hB5, hG5, hs5⟩ := make_ints (tabN D.n D.sz) (y7) (by omega)
          refine wpAnyH_ready (rs := [5, 10]) (by kernel_rfl) (by simp) ?_
          refine (AllReadyH.cons rfl (fun K hK => ?_) (AllReadyH.cons rfl (fun K hK => ?_) AllReadyH.nil))
          · go_simp
            refine hK.out _ _ trivial (fun _ => ?_)
            clear hK K
            (try simp only [Act.put, List.setIfInBounds_toArray, List.set_cons_zero, List.set_cons_succ])
            have HQ7 := Lib.hid (HQ7.out.grew hG5)
            have HQ5 := Lib.hid (show NewInts w1 y5 (y7).heap.size (tabN D.n D.sz) from ⟨hB5, HG7.out.size⟩)
            have HD := Lib.hid (show (y7).heap.size ≠ (w1.drew).heap.size from Ne.symm (Nat.ne_of_lt HLT7.out))
            have HG5 := Lib.hid (Grew.trans HG7.out hG5)
            clear hr5 hB5 hG5 hs5
            refine wpAnyH_ready (rs := [10]) (by kernel_rfl) (by simp) ?_
            refine (AllReadyH.cons rfl (fun K hK => ?_) AllReadyH.nil)
            · go_simp
              refine (pnew_any D.n _ (by omega)).mono ?_
              rintro e y10 ⟨A10, c10, rfl, hp10, hg10, hn10⟩
              refine hK.out _ _ trivial (fun _ => ?_)
              clear hK K
              (try simp only [Act.put, List.setIfInBounds_toArray, List.set_cons_zero, List.set_cons_succ])
              have HQ7 := Lib.hid (HQ7.out.grew hg10)
              have HQ5 := Lib.hid (HQ5.out.grew hg10)
              have HQ10 := Lib.hid (show NewPool w1 y10 (y5).heap.size D.n A10 c10 from ⟨hp10, fun j hj => Nat.le_trans HG5.out.size (hn10 j hj)⟩)
              have HG10 := Lib.hid (Grew.trans HG5.out hg10)
              clear hp10 hg10 hn10
              refine wpAnyH_take (i := 11) (v := ?_) rfl (by kernel_rfl) (by kernel_rfl) (by kernel_rfl) (fun _ _ _ h => h) (Or.inl ⟨by rfl, ?_⟩) trivial ?_
              rotate_left
              · (intro w hSw; (try dsimp only at hSw); go_simp) <;> with_reducible rfl
              (try simp only [Act.put, List.setIfInBounds_toArray, List.set_cons_zero, List.set_cons_succ])
              refine wpAnyH_ready (rs := [12]) (by kernel_rfl) (by simp) ?_
              refine AllReadyH.cons rfl (fun K hK => ?_) AllReadyH.nil
              go_simp
              refine hK.out _ _ trivial (fun _ => ?_)
              clear hK K
              (try simp only [Act.put, List.setIfInBounds_toArray, List.set_cons_zero, List.set_cons_succ])
              refine wpAnyH_ready (rs := [13]) (by kernel_rfl) (by simp) ?_
              refine AllReadyH.cons rfl (fun K hK => ?_) AllReadyH.nil
              go_simp
              refine hK.out _ _ trivial (fun _ => ?_)
              clear hK K
              (try simp only [Act.put, List.setIfInBounds_toArray, List.set_cons_zero, List.set_cons_succ])
              refine wpAnyH_done (by kernel_rfl) ?_ _
              go_wp2
              go_meet
              exact openJ_mk (by first | exact ew3 | omega) HQ5.out HQ7.out HD.out HQ10.out HG10.out
          · go_simp
            refine (pnew_any D.n _ (by omega)).mono ?_
            rintro e y10 ⟨A10, c10, rfl, hp10, hg10, hn10⟩
            refine hK.out _ _ trivial (fun _ => ?_)
            clear hK K
            (try simp only [Act.put, List.setIfInBounds_toArray, List.set_cons_zero, List.set_cons_succ])
            have HQ7 := Lib.hid (HQ7.out.grew hg10)
            have HLT7 := Lib.hid (Nat.lt_of_lt_of_le HLT7.out hg10.size)
            have HQ10 := Lib.hid (show NewPool w1 y10 (y7).heap.size D.n A10 c10 from ⟨hp10, fun j hj => Nat.le_trans HG7.out.size (hn10 j hj)⟩)
            have HG10 := Lib.hid (Grew.trans HG7.out hg10)
            clear hp10 hg10 hn10
            clear hr5 hB5 hG5 hs5 y5
            obtain ⟨y5, hr5, hB5, hG5, hs5⟩ := make_ints (tabN D.n D.sz) (y10) (by omega)
            refine wpAnyH_ready (rs := [5]) (by kernel_rfl) (by simp) ?_
            refine (AllReadyH.cons rfl (fun K hK => ?_) AllReadyH.nil)
            · go_simp
              refine hK.out _ _ trivial (fun _ => ?_)
              clear hK K
              (try simp only [Act.put, List.setIfInBounds_toArray, List.set_cons_zero, List.set_cons_succ])
              have HQ7 := Lib.hid (HQ7.out.grew hG5)
              have HQ10 := Lib.hid (HQ10.out.grew hG5)
              have HQ5 := Lib.hid (show NewInts w1 y5 (y10).heap.size (tabN D.n D.sz) from ⟨hB5, HG10.out.size⟩)
              have HD := Lib.hid (show (y10).heap.size ≠ (w1.drew).heap.size from Ne.symm (Nat.ne_of_lt HLT7.out))
              have HG5 := Lib.hid (Grew.trans HG10.out hG5)
              clear hr5 hB5 hG5 hs5
              refine wpAnyH_take (i := 11) (v := ?_) rfl (by kernel_rfl) (by kernel_rfl) (by kernel_rfl) (fun _ _ _ h => h) (Or.inl ⟨by rfl, ?_⟩) trivial ?_
              rotate_left
              · (intro w hSw; (try dsimp only at hSw); go_simp) <;> with_reducible rfl
              (try simp only [Act.put, List.setIfInBounds_toArray, List.set_cons_zero, List.set_cons_succ])
              refine wpAnyH_ready (rs := [12]) (by kernel_rfl) (by simp) ?_
              refine AllReadyH.cons rfl (fun K hK => ?_) AllReadyH.nil
              go_simp
              refine hK.out _ _ trivial (fun _ => ?_)
              clear hK K
              (try simp only [Act.put, List.setIfInBounds_toArray, List.set_cons_zero, List.set_cons_succ])
              refine wpAnyH_ready (rs := [13]) (by kernel_rfl) (by simp) ?_
              refine AllReadyH.cons rfl (fun K hK => ?_) AllReadyH.nil
              go_simp
              refine hK.out _ _ trivial (fun _ => ?_)
              clear hK K
              (try simp only [Act.put, List.setIfInBounds_toArray, List.set_cons_zero, List.set_cons_succ])
              refine wpAnyH_done (by kernel_rfl) ?_ _
              go_wp2
              go_meet
              exact openJ_mk (by first | exact ew3 | omega) HQ5.out HQ7.out HD.out HQ10.out HG5.out
      · go_simp
        refine hK.out _ _ trivial (fun _ => ?_)
        clear hK K
        (try simp only [Act.put, List.setIfInBounds_toArray, List.set_cons_zero, List.set_cons_succ])
        have HQ7 := Lib.hid (HQ7.out.grew hG5)
        have HQ5 := Lib.hid (show NewInts w1 y5 (y7).heap.size (tabN D.n D.sz) from ⟨hB5, HG7.out.size⟩)
        have HD := Lib.hid (show (y7).heap.size ≠ (w1.drew).heap.size from Ne.symm (Nat.ne_of_lt HLT7.out))
        have HG5 := Lib.hid (Grew.trans HG7.out hG5)
        clear hr5 hB5 hG5 hs5
        refine wpAnyH_ready (rs := [2]) (by kernel_rfl) (by simp) ?_
        refine (AllReadyH.cons rfl (fun K hK => ?_) AllReadyH.nil)
        · go_simp
          refine (dsize_any d F D _ (H.out.1.grew (Grew.trans HG1.out HG5.out))).mono ?_
          rintro e u2 ⟨rfl, rfl⟩
          refine hK.out _ _ trivial (fun _ => ?_)
          clear hK K
          (try simp only [Act.put, List.setIfInBounds_toArray, List.set_cons_zero, List.set_cons_succ])
          refine wpAnyH_take (i := 3) (v := ?_) rfl (by kernel_rfl) (by kernel_rfl) (by kernel_rfl) (fun _ _ _ h => h) (Or.inl ⟨by rfl, ?_⟩) trivial ?_
          rotate_left
          · (intro w hSw; (try dsimp only at hSw); go_simp) <;> with_reducible rfl
          (try simp only [Act.put, List.setIfInBounds_toArray, List.set_cons_zero, List.set_cons_succ])
          refine wpAnyH_ready (rs := [9]) (by kernel_rfl) (by simp) ?_
          refine (AllReadyH.cons rfl (fun K hK => ?_) AllReadyH.nil)
          · go_simp
            refine (dsectors_any d F D _ (H.out.1.grew (Grew.trans HG1.out HG5.out))).mono ?_
            rintro e u2 ⟨rfl, rfl⟩
            refine hK.out _ _ trivial (fun _ => ?_)
            clear hK K
            (try simp only [Act.put, List.setIfInBounds_toArray, List.set_cons_zero, List.set_cons_succ])
            refine wpAnyH_ready (rs := [10]) (by kernel_rfl) (by simp) ?_
            refine (AllReadyH.cons rfl (fun K hK => ?_) AllReadyH.nil)
            · go_simp
              refine (pnew_any D.n _ (by omega)).mono ?_
              rintro e y10 ⟨A10, c10, rfl, hp10, hg10, hn10⟩
              refine hK.out _ _ trivial (fun _ => ?_)
              clear hK K
              (try simp only [Act.put, List.setIfInBounds_toArray, List.set_cons_zero, List.set_cons_succ])
              have HQ7 := Lib.hid (HQ7.out.grew hg10)
              have HQ5 := Lib.hid (HQ5.out.grew hg10)
              have HQ10 := Lib.hid (show NewPool w1 y10 (y5).heap.size D.n A10 c10 from ⟨hp10, fun j hj => Nat.le_trans HG5.out.size (hn10 j hj)⟩)
              have HG10 := Lib.hid (Grew.trans HG5.out hg10)
              clear hp10 hg10 hn10
              refine wpAnyH_take (i := 11) (v := ?_) rfl (by kernel_rfl) (by kernel_rfl) (by kernel_rfl) (fun _ _ _ h => h) (Or.inl ⟨by rfl, ?_⟩) trivial ?_
              rotate_left
              · (intro w hSw; (try dsimp only at hSw); go_simp) <;> with_reducible rfl
              (try simp only [Act.put, List.setIfInBounds_toArray, List.set_cons_zero, List.set_cons_succ])
              refine wpAnyH_ready (rs := [12]) (by kernel_rfl) (by simp) ?_
              refine AllReadyH.cons rfl (fun K hK => ?_) AllReadyH.nil
              go_simp
              refine hK.out _ _ trivial (fun _ => ?_)
              clear hK K
              (try simp only [Act.put, List.setIfInBounds_toArray, List.set_cons_zero, List.set_cons_succ])
              refine wpAnyH_ready (rs := [13]) (by kernel_rfl) (by simp) ?_
              refine AllReadyH.cons rfl (fun K hK => ?_) AllReadyH.nil
              go_simp
              refine hK.out _ _ trivial (fun _ => ?_)
              clear hK K
              (try simp only [Act.put, List.setIfInBounds_toArray, List.set_cons_zero, List.set_cons_succ])
              refine wpAnyH_done (by kernel_rfl) ?_ _
              go_wp2
              go_meet
              exact openJ_mk (by first | exact ew3 | omega) HQ5.out HQ7.out HD.out HQ10.out HG10.out
  case rest =>
    obtain ⟨p, g1, g2, b, A, c, rfl, hO⟩ := hcut
    have HO := Lib.hid hO
    obtain ⟨c0, f0, s0⟩ := hO.blk.facts
    clear hO
    have hdF : ∀ u, Chg (PF b A) wc u → DS u d F D := fun u hu => ((H.out.1.grew HG1.out).grew HO.out.grew).chg hu fun j hj e => by
      have h1 := H.out.1.lt j hj
      have h2 := HO.out.pool.new j e
      have h3 := HG1.out.size
      omega
    have hkeep : ∀ u, Chg (PF b A) wc u → Blk u p 61 #[.pointer (some ⟨d, 0, none⟩), .int .i64 0, .int .i64 (D.sz / 2 : Nat), .slice (some ⟨g1, 0, none⟩) (tabN D.n D.sz) (tabN D.n D.sz), .slice (some ⟨g2, 0, none⟩) (capN D.n D.sz) (capN D.n D.sz), .pointer (some ⟨b, 0, none⟩), .pointer none, .bool false] := fun u hu =>
      HO.out.blk.chg hu (pf_ne HO.out.pool.p HO.out.blk (by decide) (by decide))
    have HD := Lib.hid hdF
    have HK := Lib.hid hkeep
    have HX := Lib.hid (show D.n ≤ 65536 by omega)
    clear hdF hkeep
    go_wp2
    go_loopw [41] (fun i wr => ∃ k : Nat, k ≤ 2 ∧ i = .int .i64 k ∧ PIn wr b (mkd D.n k) A c ∧ Chg (PF b A) wc wr) (fun i _ => 2 - (intOf i).toNat)
    case atStart => exact ⟨0, Nat.zero_le _, rfl, HO.out.pool.p, Chg.refl _ _⟩
    case round =>
      obtain ⟨k, hk, rfl, hp, hc⟩ := hrel
      have HP := Lib.hid (And.intro hp hc)
      obtain ⟨c1, f1, s1⟩ := (HK.out wr hc).facts
      clear c0 f0 s0 hp hc
      by_cases hlt : k < 2
      · go_wp2_with (go_at_call 43; (refine (pmark_any b k _ A c _ HP.out.1 (by rw [mkd_len]; exact HX.out)).mono ?_); rintro e w3 ⟨rfl, h3, h4⟩; have H3 := Lib.hid (And.intro h3 h4); clear h3 h4)
        have H4 := Lib.hid (show PIn w3 b (mkd D.n (k + 1)) A c from by have := H3.out.1; rw [mkd_mark D.n k (by omega)] at this; exact this)
        exact ⟨⟨k + 1, by omega, by simp, H4.out, Chg.trans HP.out.2 H3.out.2 fun _ _ e => e⟩, by simp [intOf]; omega⟩
      · obtain rfl : k = 2 := by omega
        go_wp2_with (go_at_call 44; (refine (load_none d F D _ (HD.out _ HP.out.2) hd (by omega) (by omega) H.out.2.2.1 H.out.2.2.2).mono ?_); rintro e w4 ⟨rfl, h4⟩; have H4 := Lib.hid h4; clear h4)
        go_ret2
        have hg : Grew w1 w4 := Grew.trans (Chg.trans HO.out.grew HP.out.2 fun i hi e => by have := HO.out.pool.new i e; omega) H4.out
        have hsz := HG1.out.size
        obtain ⟨F', hF, hnew⟩ := gfresh_mk (w0 := w1) ((H.out.1.grew HG1.out).grew hg) (fun j hj => Nat.lt_of_lt_of_le (H.out.1.lt j hj) hsz) h0 (Nat.lt_of_lt_of_le (tab_pos H.out.2.1) hsz) (tab_chg (tab_chg H.out.2.1 HG1.out id) hg id) hsm.2.1
          ((HK.out _ HP.out.2).grew H4.out) ((HO.out.t1.blk.chg HP.out.2 (pf_ne HO.out.pool.p HO.out.t1.blk (by decide) (by decide))).grew H4.out) ((HO.out.t2.blk.chg HP.out.2 (pf_ne HO.out.pool.p HO.out.t2.blk (by decide) (by decide))).grew H4.out) HO.out.ne (HP.out.1.grew H4.out)
          HO.out.new HO.out.t1.new HO.out.t2.new HO.out.pool.new
        exact ⟨p, F', rfl, hF.grew ((Chg.refl _ _).alloc _), (Grew.trans HG1.out hg).alloc _, fun j hj => (hnew j hj).imp id fun e => Nat.le_trans hsz e⟩

end Go.Proofs.YtjlfnebkibgfmaaDoor

/- The pager: a new one on a new disk, as its pages are. -/
namespace Go.Proofs.YtjlfnebkibgfmaaDoor
open Go.RowKit Go.Maps

/-- A pager without pages. -/
def Rp.fresh (n sz : Nat) : Rp := { n := n, sz := sz, now := List.replicate (capN n sz) .no, was := none, touched := fun _ => false, epoch := 0 }
theorem rootL_zeros {ep m : Nat} {pg : List Nat} {sz : Nat} (h1 : 1 ≤ ep) (h2 : ep ≤ 1099511627776) (he : List.replicate m 0 = rootL ep pg sz) : False := by
  have hz : ∀ x ∈ tail8 ep, x = 0 := fun x hx => by
    have : x ∈ rootL ep pg sz := List.mem_append_right _ hx
    rw [← he] at this
    exact (List.mem_replicate.1 this).2
  have e0 := hz ((ep / 1099511627776 % 256 : Nat) : Int) (by simp [tail8])
  have e1 := hz ((ep / 4294967296 % 256 : Nat) : Int) (by simp [tail8])
  have e2 := hz ((ep / 16777216 % 256 : Nat) : Int) (by simp [tail8])
  have e3 := hz ((ep / 65536 % 256 : Nat) : Int) (by simp [tail8])
  have e4 := hz ((ep / 256 % 256 : Nat) : Int) (by simp [tail8])
  have e5 := hz ((ep % 256 : Nat) : Int) (by simp [tail8])
  omega
theorem rep_at {n i s : Nat} (h : (List.replicate n 0)[i]? = some s) : s = 0 := by
  rw [List.getElem?_replicate] at h
  split at h <;> simp at h
  exact h.symm
theorem rep_getD (n i : Nat) : (List.replicate n 0).getD i 0 = 0 := by
  rw [List.getD_eq_getElem?_getD]
  cases h : (List.replicate n 0)[i]? with
  | none => rfl
  | some s => rw [rep_at h]; rfl
theorem Gp.fresh_ok (n sz : Nat) (D : Dk) (hD : D = ⟨n, sz, fun _ => List.replicate sz 0, fun _ => none, false, 0, false, 0⟩) (h : 8 ≤ n ∧ n ≤ 4096 ∧ 64 ≤ sz ∧ sz ≤ 4096) : (Gp.fresh D).Ok ∧ (Gp.fresh D).view = Rp.fresh n sz := by
  subst hD
  have hm : ∀ s, s < n → (mkd n 2).getD s false = decide (2 ≤ s) := fun s hs => by rw [mkd_at n 2 s (by omega)]; simp [hs]
  have hcap : capN n sz ≤ 4096 := by unfold capN; split <;> omega
  refine ⟨⟨⟨h, ⟨mkd_len n 2, by simp [Gp.fresh], by simp [Gp.fresh], by simp [Gp.fresh, Gp.old]⟩, fun i s hi => ?_, fun k s hk h0 => absurd (rep_at hk) h0, fun i j s hi _ h2 => ?_, fun i j s hi _ h0 => absurd (rep_at hi) h0, fun k i s hk _ => ?_, fun s hs => ?_, fun s hs => ?_, fun i s hi h2 => ?_, fun i j s hi _ h2 => ?_, ⟨List.nodup_nil, fun s => ?_⟩, fun i hi => absurd rfl hi, fun k hk => ?_, ?_, fun s _ _ => rfl, ⟨fun e => ?_, fun i e' pg' _ hg _ hr => ?_, fun _ s hs => (List.mem_replicate.1 hs).2, fun k _ i _ => rep_getD _ _, fun k s hk h0 => absurd (rep_at hk) h0, fun k s hk h0 => absurd (rep_at hk) h0⟩, fun s _ x hx => ?_, Nat.zero_le _⟩, rfl, ⟨rfl, rfl, rfl⟩⟩, ?_⟩
  · have := rep_at hi; show s < n; omega
  · have := rep_at hi; omega
  · have := rep_at hk; omega
  · show (mkd n 2).getD s false = false ↔ _
    rw [hm s hs]
    constructor
    · intro e; left; simpa using e
    · rintro (e | ⟨k, e⟩ | ⟨k, e⟩ | e)
      · simpa using e
      · have := rep_at e; simp; omega
      · have := rep_at e; simp; omega
      · simp [Gp.fresh, Gp.fr] at e
  · simp [Gp.fresh, Gp.fr] at hs
  · have := rep_at hi; omega
  · have := rep_at hi; omega
  · simp only [Gp.fresh, Gp.lf, List.not_mem_nil, false_iff, not_and, not_exists]
    rintro h2 i hi
    have := rep_at hi
    omega
  · simp [Gp.fresh, Gp.tc] at hk
  · rw [show (Gp.fresh _).tc = fun _ => false from rfl, show cntN (fun _ => false) 64 = 0 from cntN_false fun _ _ => rfl]
    exact Nat.zero_le _
  · simp [Gp.fresh] at e
  · exact (rootL_zeros hg.1 hg.2.1 (show List.replicate sz 0 = _ from hr)).elim
  · have : x = 0 := (List.mem_replicate.1 (show x ∈ List.replicate sz 0 from hx)).2
    omega
  · simp [Gp.view, Rp.fresh, Gp.fresh, Gp.fr, Gp.tc, pk]

theorem gp_open_new (n sz d : Nat) (F : Nat → Prop) (w : World) (h : DS w d F ⟨n, sz, fun _ => List.replicate sz 0, fun _ => none, false, 0, false, 0⟩) (hT : TabAt 0 tab w) (h0 : ¬ F 0) (hn : 8 ≤ n) (hz : 64 ≤ sz) :
    Calls Tryd.prog 20 #[.pointer (some ⟨d, 0, none⟩)] w fun e w' => ∃ p F', e = .returned (.tuple #[.pointer (some ⟨p, 0, none⟩), .int .i64 0]) ∧ GP w' p F' (Rp.fresh n sz) ∧ Grew w w' ∧ ∀ j, F' j → F j ∨ w.heap.size ≤ j := by
  have hs := h.sml
  have hsz : 64 ≤ sz ∧ sz ≤ 4096 := ⟨hz, hs.2.2.2⟩
  have hnn : n ≤ 4096 := hs.2.1
  have hfo := Gp.fresh_ok n sz _ rfl ⟨hn, hnn, hsz⟩
  refine (gopen_new d F _ w h rfl hT h0 hn hz (fun i _ => ?_) (fun i _ x hx => ?_)).mono ?_
  · show partL (List.take (sz - 8) (List.replicate sz 0)) = none
    rw [List.take_replicate, Nat.min_eq_left (by omega)]
    exact part_zeros _ (by omega) (by omega)
  · have : x = 0 := (List.mem_replicate.1 (show x ∈ List.replicate sz 0 from hx)).2
    omega
  · rintro e w' ⟨p, F', rfl, h1, h2, h3⟩
    exact ⟨p, F', rfl, ⟨_, h1, hfo.1, hfo.2⟩, h2, h3⟩

end Go.Proofs.YtjlfnebkibgfmaaDoor

/- The chain's laws: a new pager in an open change; awake. -/
namespace Go.Proofs.YtjlfnebkibgfmaaDoor
open Go.RowKit Go.Maps

/-- The pages of a new pager in an open change. -/
def Rp.open0 (n : Nat) : Rp := (Rp.fresh n 64).begun
set_option maxRecDepth 100000 in
set_option maxHeartbeats 800000 in
theorem fresh_any (n : Nat) (w : World) (hT : TabAt 0 tab w) (h1 : 8 ≤ n) (h2 : n ≤ 4096) :
    Calls Tryd.prog 8 #[.int .i64 n] w fun e w' => ∃ p F, e = .returned (.pointer (some ⟨p, 0, none⟩)) ∧ GP w' p F (Rp.open0 n) ∧ Grew w w' ∧ ∀ j, F j → w.heap.size ≤ j := by
  have H := Lib.hid hT
  clear hT
  go_enter Tryd.func8, Tryd.ntmps8
  go_wp2_with fail
  refine (dnew_any n 64 _ (by omega) h2 (by omega) (by omega)).mono ?_
  rintro e w1 ⟨d, F1, rfl, hd, hg1, hn1⟩
  have hT1 := tab_chg H.out hg1 id
  have hF0 : ¬ F1 0 := fun e => by have := hn1 0 e; have := tab_pos H.out; omega
  have H1 := Lib.hid (And.intro hd (And.intro hg1 (And.intro hn1 (And.intro hT1 hF0))))
  clear hd hg1 hn1 hT1 hF0
  go_wp2_with fail
  refine (gp_open_new n 64 d F1 w1 H1.out.1 H1.out.2.2.2.1 H1.out.2.2.2.2 h1 (by omega)).mono ?_
  rintro e w2 ⟨p, F2, rfl, hp, hg2, hn2⟩
  have H2 := Lib.hid (And.intro hp (And.intro (Grew.trans H1.out.2.1 hg2) (fun j hj => show w.heap.size ≤ j from (hn2 j hj).elim (H1.out.2.2.1 j) fun e => Nat.le_trans H1.out.2.1.size e)))
  clear hp hg2 hn2
  go_wp2_with fail
  refine (gp_begin p F2 _ w2 H2.out.1 rfl).mono ?_
  rintro e w3 ⟨rfl, F3, h3, hc3, hn3⟩
  have H3 := Lib.hid (And.intro h3 (And.intro hc3 hn3))
  clear h3 hc3 hn3
  go_wp2_with fail
  go_ret
  refine ⟨p, F3, rfl, H3.out.1, Chg.trans H2.out.2.1 H3.out.2.1 fun i hi e => by have := H2.out.2.2 i e; omega, fun j hj => (H3.out.2.2 j hj).elim (H2.out.2.2 j) fun e => Nat.le_trans H2.out.2.1.size e⟩

theorem open0_12 : (Rp.open0 12).slack = 9 ∧ (Rp.open0 12).now.countP Pk.used = 0 ∧ (Rp.open0 12).now.length = 10 ∧ (Rp.open0 12).sz = 64 := ⟨by kernel_rfl, by kernel_rfl, by kernel_rfl, rfl⟩
theorem chg_new {F : Nat → Prop} {w w1 w2 : World} (hg : Grew w w1) (hc : Chg F w1 w2) (hn : ∀ j, F j → w.heap.size ≤ j) : Grew w w2 := Chg.trans hg hc fun i hi e => by have := hn i e; omega

set_option maxRecDepth 100000 in
set_option maxHeartbeats 1600000 in
theorem cawake_any (w : World) (hT : TabAt 0 tab w) :
    Calls Tryd.prog 7 #[] w fun e w' => e = .returned (.bool true) ∧ Grew w w' := by
  have H := Lib.hid hT
  have o12 := open0_12
  have HO := Lib.hid o12
  have hneed : ∀ u, Calls Tryd.prog 6 #[.int .i64 60, .int .i64 64] u fun e w' => e = .returned (.int .i64 2) ∧ u = w' := fun u => need_any 60 64 u (by omega) (by omega)
  have HN := Lib.hid hneed
  clear hT o12 hneed
  go_enter Tryd.func7, Tryd.ntmps7
  go_wp2_with fail
  refine (fresh_any 12 _ H.out (by omega) (by omega)).mono ?_
  rintro e w1 ⟨p, F, rfl, hp, hg1, hn1⟩
  obtain ⟨w2, hmk0, ho2, hg2, hz2⟩ := make_bytes 60 w1 (by omega)
  have hmk : (Instr.makeSlice 29 (.int .i64 60) (.int .i64 60)).run Tryd.prog w1 = .ok (.slice (some ⟨w1.heap.size, 0, none⟩) 60 60) w2 := hmk0
  clear hmk0
  have H1 := Lib.hid (And.intro hp (And.intro hg1 (And.intro hn1 (And.intro ho2 (And.intro hg2 hz2)))))
  clear hp hg1 hn1 ho2 hg2 hz2
  go_wp2_with fail
  have hput := cput_any p F (Rp.open0 12) (List.replicate 60 0) w1.heap.size 0 60 w2 (H1.out.1.grew H1.out.2.2.2.2.1) (by simp [Rp.open0, Rp.begun]) (by simp) (by simp) (fun q hq => by have := (List.mem_replicate.1 hq).2; omega) (by simp)
    (by have := Sl.of_own H1.out.2.2.2.1; simpa using this) (fun e => by have := H1.out.1.lt _ e; omega)
  simp only [List.length_replicate] at hput
  refine hput.mono ?_
  clear hput hmk
  rintro e w3 (⟨i0, l, y, rfl, hi0, hto, hrel⟩ | ⟨y, rfl, -, -, hne⟩)
  · obtain ⟨F3, hp3, hc3, hn3⟩ := hto
    have hln : l.length = 2 := by rw [hrel.stands.len, hrel.like.sz]; simp [partsN, HO.out.2.2.2]
    have H3 := Lib.hid (And.intro hp3 (And.intro hrel (And.intro hi0 (And.intro hln (And.intro (show Grew w w3 from chg_new (Grew.trans H1.out.2.1 H1.out.2.2.2.2.1) hc3 H1.out.2.2.1) (fun j hj => show w.heap.size ≤ j from (hn3 j hj).elim (H1.out.2.2.1 j) fun e => by have h8 := H1.out.2.1.size; have h9 := H1.out.2.2.2.2.1.size; omega))))))
    clear hp3 hc3 hn3 hrel hi0 hln
    go_wp2_with fail
    refine (cget_stands p F3 y w3 l (List.replicate 60 0) i0 H3.out.1 H3.out.2.1.stands (by simp) (by simp) H3.out.2.2.1).mono ?_
    rintro e w4 ⟨hp4, hc4, A4, c4, rfl, -⟩
    have H4 := Lib.hid (And.intro hp4 (show Grew w w4 from chg_new H3.out.2.2.2.2.1 hc4 H3.out.2.2.2.2.2))
    have hus := gp_used p F3 y w4 hp4
    have hu2 : y.now.countP Pk.used = 2 := by rw [H3.out.2.1.used, HO.out.2.1, H3.out.2.2.2.1]
    rw [hu2] at hus
    have HU := Lib.hid hus
    simp only [List.length_replicate]
    clear hp4 hc4 hus hu2
    go_wp2_with (first
      | (go_at_call 15; (refine HU.out.mono ?_); rintro e w5 ⟨rfl, hg5⟩; have H5 := Lib.hid (Grew.trans H4.out.2 hg5); clear hg5)
      | (go_at_call 6; (refine (HN.out _).mono ?_); rintro e w6 ⟨rfl, rfl⟩))
    go_ret
    exact ⟨rfl, H5.out⟩
  · exfalso
    refine hne ⟨?_, ?_⟩
    · rw [HO.out.1, HO.out.2.2.2]; simp [partsN]
    · rw [HO.out.2.1, HO.out.2.2.1, HO.out.2.2.2]; simp [partsN]

end Go.Proofs.YtjlfnebkibgfmaaDoor

/- The pager: Free. -/
namespace Go.Proofs.YtjlfnebkibgfmaaDoor
open Go.RowKit Go.Maps

set_option maxHeartbeats 800000 in
theorem gfree_none (p : Nat) (i : Int) (F : Nat → Prop) (X : Gp) (w : World) (h : GS w p F X) (hr : X.rdy = 0) (hl : X.table.length ≤ 4096) (hu : X.usedB i = false) :
    Calls Tryd.prog 33 #[.pointer (some ⟨p, 0, none⟩), .int .i64 i] w fun e' w' => e' = .returned (.int .i64 14) ∧ w = w' := by
  have hrd := gready_any p F X w h
  rw [hr] at hrd
  have hus := gused_any p i F X w h (by omega)
  rw [hu] at hus
  have H := Lib.hid (And.intro hrd hus)
  clear h hr hrd hu hus
  go_enter Tryd.func33, Tryd.ntmps33
  go_wp2_with (first
    | (go_at_call 22; (refine H.out.1.mono ?_); rintro e w1 ⟨rfl, rfl⟩)
    | (go_at_call 25; (refine H.out.2.mono ?_); rintro e w1 ⟨rfl, rfl⟩))
  go_ret
  exact ⟨rfl, rfl⟩

set_option maxRecDepth 100000 in
set_option maxHeartbeats 800000 in
theorem gfree_full (p i s : Nat) (F : Nat → Prop) (X : Gp) (o : Cg) (w : World) (h : GS w p F X) (hr : X.rdy = 0) (hx : X.op = some o) (hz : X.Sz) (hn : X.D.n ≤ 4096) (hi : X.table[i]? = some s) (hs : s ≠ 0) (hm : X.room < (o.more (i / X.row) 0 : Nat)) :
    Calls Tryd.prog 33 #[.pointer (some ⟨p, 0, none⟩), .int .i64 i] w fun e' w' => e' = .returned (.int .i64 21) ∧ Grew w w' := by
  have hrd := gready_any p F X w h
  rw [hr] at hrd
  have hus := gused_in p i s F X w h (by have := hz.tab.2; omega) hi
  rw [show (s != 0) = true from by simpa using hs] at hus
  have htf := gtouch_full p i (i / X.row) 0 F X o w h hx (by have := hz.free; omega) (by have := hz.row; omega) rfl (by have := hz.tab.2; have := (List.getElem?_eq_some_iff.1 hi).1; omega) (by omega) hm
  have H := Lib.hid (And.intro hrd (And.intro hus htf))
  clear h hr hrd hus htf hx hz hn hi hs hm
  go_enter Tryd.func33, Tryd.ntmps33
  go_wp2_with (first
    | (go_at_call 22; (refine H.out.1.mono ?_); rintro e w1 ⟨rfl, rfl⟩)
    | (go_at_call 25; (refine H.out.2.1.mono ?_); rintro e w1 ⟨rfl, rfl⟩)
    | (go_at_call 24; (refine H.out.2.2.mono ?_); rintro e w1 ⟨rfl, hg1⟩; have HG1 := Lib.hid hg1; clear hg1))
  go_ret
  exact ⟨rfl, HG1.out⟩

set_option maxRecDepth 100000 in
set_option maxHeartbeats 1600000 in
theorem gfree_ok (p i s : Nat) (F : Nat → Prop) (X : Gp) (o : Cg) (w : World) (h : GS w p F X) (hr : X.rdy = 0) (hx : X.op = some o) (hz : X.Sz) (hn : X.D.n ≤ 4096) (hi : X.table[i]? = some s) (hs : s ≠ 0) (hc : X.canLeave o s) (hll : o.left.length ≤ 100000) (hm : (o.more (i / X.row) 0 : Nat) ≤ X.room) :
    Calls Tryd.prog 33 #[.pointer (some ⟨p, 0, none⟩), .int .i64 i] w fun e' w' => e' = .returned (.int .i64 0) ∧ GTo w w' p F (X.drop o i s) := by
  have hil : i < X.table.length := (List.getElem?_eq_some_iff.1 hi).1
  have hrd := gready_any p F X w h
  rw [hr] at hrd
  have hus := gused_in p i s F X w h (by have := hz.tab.2; omega) hi
  rw [show (s != 0) = true from by simpa using hs] at hus
  have htf := gtouch_ok p i (i / X.row) 0 F X o w h hx (by have := hz.free; omega) (by have := hz.row; omega) rfl (hz.k64 hil) (by have := hz.tab.2; omega) (by omega) hm
  have hlv := fun F1 w1 (h1 : GS w1 p F1 (X.touch o (i / X.row))) => gleave_any p s F1 (X.touch o (i / X.row)) (o.tch (i / X.row)) w1 h1 rfl (by have := hz.free; simp only [Gp.touch]; omega) hc hll
  have htb : ((X.touch o (i / X.row)).leave (o.tch (i / X.row)) s).table = X.table := by obtain ⟨o', -, e, -⟩ := Gp.leave_op (X.touch o (i / X.row)) (o.tch (i / X.row)) s rfl; exact e
  have H := Lib.hid (And.intro hrd (And.intro hus (And.intro htf (And.intro hlv (And.intro hi htb)))))
  have u1 : (0 : Int) ≤ (i : Int) := by omega
  have u2 : (i : Int) < (X.table.length : Int) := by omega
  have u3 : (i : Int) < (((X.touch o (i / X.row)).leave (o.tch (i / X.row)) s).table.length : Int) := by rw [htb]; exact u2
  clear h hr hrd hus htf hlv htb hx hz hn hi hs hm hc hll
  go_enter Tryd.func33, Tryd.ntmps33
  go_wp2_with (first
    | (go_at_call 22; (refine H.out.1.mono ?_); rintro e w1 ⟨rfl, rfl⟩)
    | (go_at_call 25; (refine H.out.2.1.mono ?_); rintro e w1 ⟨rfl, rfl⟩)
    | (go_at_call 24; (refine H.out.2.2.1.mono ?_); rintro e w1 ⟨rfl, F1, hgs, hc1, hn1⟩; have HS1 := Lib.hid hgs; obtain ⟨L1, d1, b1, A1, ca1, vp1, vt1, vo1, hg, -⟩ := hgs; obtain ⟨c9, f9, s9⟩ := hg.blk.facts; obtain ⟨g, ct1, rfl, hgl, hlg, hce, hfe⟩ := hg.entry (i := i) (s := s) H.out.2.2.2.2.1; have HT := Lib.hid (And.intro hc1 hn1); clear hg hc1 hn1)
    | (go_at_call 28; (refine (H.out.2.2.2.1 F1 _ HS1.out).mono ?_); clear c9 f9 s9 hgl hlg hce hfe; rintro e w2 ⟨rfl, F2, ⟨L2, d2, b2, A2, ca2, vp2, vt2, vo2, hg, hF2⟩, hc2, hn2⟩; obtain ⟨c9, f9, s9⟩ := hg.blk.facts; obtain ⟨g2, ct2, rfl, hgl, hlg, hce, hfe⟩ := hg.entry (i := i) (s := s) (by rw [H.out.2.2.2.2.2]; exact H.out.2.2.2.2.1); have HU := Lib.hid (And.intro hg (And.intro hF2 (And.intro hc2 hn2))); clear hg hF2 hc2 hn2))
  go_ret
  refine ⟨rfl, ?_⟩
  have hh := HU.out.1.tset rfl i 0
  refine To.then HT.out.1 HT.out.2 (To.then HU.out.2.2.1 HU.out.2.2.2 ?_)
  have := hh.1.to hh.2 (by omega) HU.out.2.1
  rw [H.out.2.2.2.2.2] at this
  exact this

end Go.Proofs.YtjlfnebkibgfmaaDoor

/- The pager, as its pages are: Free. -/
namespace Go.Proofs.YtjlfnebkibgfmaaDoor
open Go.RowKit Go.Maps

theorem Gp.Ok.canLeave {X : Gp} {o : Cg} {i s : Nat} (h : X.Ok) (hx : X.op = some o) (hi : X.table[i]? = some s) : X.canLeave o s := by
  intro h2
  have hv := h.inv
  simp only [Gp.old, Gp.fr, Gp.lf, Gp.tc, hx] at hv
  refine ⟨?_, fun hf => ?_⟩
  · rw [hv.lens.1]
    rcases hv.cur i s hi h2 with e | e
    · exact (hv.frr s e).2.1
    · exact hv.rO i s e
  · exact (hv.acct s (hv.frr s hf).2.1).2 (.inr (.inr (.inr hf)))
theorem Gp.Ok.drop {X : Gp} {o : Cg} {i s : Nat} (h : X.Ok) (hx : X.op = some o) (hi : X.table[i]? = some s) (hm : (o.more (i / X.row) 0 : Nat) ≤ X.room) : (X.drop o i s).Ok ∧ (X.drop o i s).view = X.view.put i .no := by
  obtain ⟨h1, -⟩ := h.tch hx (List.getElem?_eq_some_iff.1 hi).1 hm
  have ht : setB o.touched (i / (X.D.sz / 2)) true (i / (X.D.sz / 2)) = true := by simp [setB]
  have hr := h.row
  by_cases hs : s ≤ 1
  · have h2 := h1.zero (v := 0) hi (by omega) (by omega) ht
    have e : X.drop o i s = { X.touch o (i / X.row) with table := X.table.set i 0 } := by unfold Gp.drop Gp.leave; rw [if_pos hs]
    rw [e]
    refine ⟨⟨?_, h.row, h.up⟩, ?_⟩
    · rw [← h.row] at h2
      exact h2
    · unfold Gp.view Rp.put Gp.touch
      simp only [Gp.fr, Gp.tc, hx, Option.map_some, Rp.row]
      rw [List.map_set, show pk X.D o.fresh 0 = .no from rfl, hr]
  · cases hf : o.fresh s with
    | true =>
      have h2 := h1.give hi hf ht
      have e : X.drop o i s = { X with free := trn X.free s, table := X.table.set i 0, op := some { o with touched := setB o.touched (i / X.row) true, fresh := setB o.fresh s false } } := by
        unfold Gp.drop Gp.leave Cg.tch
        rw [if_neg hs]
        simp only [hf]
        rfl
      rw [e]
      refine ⟨⟨?_, h.row, h.up⟩, ?_⟩
      · rw [← h.row] at h2
        exact h2
      · unfold Gp.view Rp.put
        simp only [Gp.fr, Gp.tc, hx, Option.map_some, Rp.row]
        have e1 : (X.table.set i 0).map (pk X.D (setB o.fresh s false)) = (X.table.map (pk X.D o.fresh)).set i .no := by
          have hil : i < X.table.length := (List.getElem?_eq_some_iff.1 hi).1
          apply List.ext_getElem?
          intro k
          rw [set_at (by simpa using hil), List.getElem?_map, set_at hil, List.getElem?_map]
          by_cases hki : k = i
          · subst hki
            rw [if_pos rfl, if_pos rfl]
            rfl
          · rw [if_neg hki, if_neg hki]
            cases hk : X.table[k]? with
            | none => rfl
            | some q =>
              have hq : q ≠ s := by rintro rfl; exact hki (h1.jT k i q hk hi (by omega))
              simp only [Option.map_some, Option.some.injEq]
              unfold pk setB
              rw [if_neg hq]
        rw [e1, hr]
    | false =>
      have h2 := h1.left hi (by omega) hf ht
      have e : X.drop o i s = { X with table := X.table.set i 0, op := some { o with touched := setB o.touched (i / X.row) true, left := o.left ++ [s] } } := by
        unfold Gp.drop Gp.leave Cg.tch
        rw [if_neg hs]
        simp only [hf]
        rfl
      rw [e]
      refine ⟨⟨?_, h.row, h.up⟩, ?_⟩
      · rw [← h.row] at h2
        exact h2
      · unfold Gp.view Rp.put
        simp only [Gp.fr, Gp.tc, hx, Option.map_some, Rp.row]
        rw [List.map_set, show pk X.D o.fresh 0 = .no from rfl, hr]

section
variable (p i : Nat) (F : Nat → Prop) (x : Rp) (w : World)
theorem gp_free (c : Pk) (h : GP w p F x) (ho : x.was ≠ none) (hi : x.now[i]? = some c) (hu : c.used = true) (hm : (x.need (i / x.row) 0 : Nat) ≤ x.room) :
    Calls Tryd.prog 33 #[.pointer (some ⟨p, 0, none⟩), .int .i64 i] w fun e' w' => e' = .returned (.int .i64 0) ∧ GPTo w w' p F (x.put i .no) := by
  obtain ⟨X, h1, h2, rfl⟩ := h
  obtain ⟨o, hx⟩ := Gp.view_op ho
  obtain ⟨s, hs, h0, rfl⟩ := Gp.entry_used hi hu
  have hv := h2.inv
  simp only [Gp.old, Gp.fr, Gp.lf, Gp.tc, hx] at hv
  have hm' : (o.more (i / X.row) 0 : Nat) ≤ X.room := by rw [h2.room, Gp.more_need h2 hx]; exact hm
  have := h2.drop hx hs hm'
  refine (gfree_ok p i s F X o w h1 (h2.rdy hx) hx h2.sz hv.sz.2.1 hs h0 (h2.canLeave hx hs) (by have := hv.lfle; omega) hm').mono ?_
  rintro e w1 ⟨rfl, h3⟩
  exact ⟨rfl, h3.gp this.1 this.2⟩
end

end Go.Proofs.YtjlfnebkibgfmaaDoor

/- The chain: Del of a record that stands. -/
namespace Go.Proofs.YtjlfnebkibgfmaaDoor
open Go.RowKit Go.Maps

/-- Some pages are given up. -/
structure Freed (x y : Rp) (d : List Nat) : Prop where
  like : x.like y
  is : ∀ i ∈ d, y.now[i]? = some .no
  else_ : ∀ i, i ∉ d → y.now[i]? = x.now[i]?
  slack : x.slack ≤ y.slack
  used : y.now.countP Pk.used + d.length = x.now.countP Pk.used
theorem Freed.refl (x : Rp) : Freed x x [] := ⟨.refl x, fun i h => by simp at h, fun _ _ => rfl, Int.le_refl _, rfl⟩
theorem Freed.more {x y : Rp} {d : List Nat} {i : Nat} {c : Pk} (h : Freed x y d) (hw : x.was ≠ none) (hi : i ∉ d) (hc : x.now[i]? = some c) (hu : c.used = true) : Freed x (y.put i .no) (d ++ [i]) := by
  have hy : y.now[i]? = some c := by rw [h.else_ i hi]; exact hc
  have hil : i < y.now.length := (List.getElem?_eq_some_iff.1 hy).1
  have h1 := Rp.put_slack (c := .no) (by rw [h.like.was]; exact hw) hy
  have h2 := Rp.put_used (c := .no) hy
  refine ⟨h.like.trans (y.put_like _ _), fun j hj => ?_, fun j hj => ?_, ?_, ?_⟩
  · rw [Rp.put_at hil]
    rcases List.mem_append.1 hj with e | e
    · rw [if_neg (by rintro rfl; exact hi e)]; exact h.is j e
    · simp only [List.mem_singleton] at e; rw [if_pos e]
  · rw [Rp.put_at hil, if_neg (by rintro rfl; exact hj (by simp))]
    exact h.else_ j fun e => hj (List.mem_append_left _ e)
  · have h3 := h.slack
    rw [show Pk.no.isNew = false from rfl] at h1
    simp only [Bool.false_eq_true, if_false] at h1
    split at h1 <;> omega
  · have h3 := h.used
    rw [hu] at h2
    simp [Pk.used] at h2
    simp
    omega

/-- What lies there between two pages of Del. -/
structure DelJ (w W : World) (p : Nat) (F F' : Nat → Prop) (x y : Rp) (l : List Nat) (A : Option Addr) (c k : Nat) : Prop where
  gp : GP W p F' y
  rch : Rch F F' w W
  row : W.ownsRow w.heap.size 3 1 (.slice A l.length c) l.length (nv l)
  rn : ∀ g, (Value.slice A l.length c).ownBlock = some g → ¬ F' g
  fr : Freed x y (l.take k)

set_option maxRecDepth 100000 in
set_option maxHeartbeats 1600000 in
theorem cdel_any (p : Nat) (F : Nat → Prop) (x : Rp) (w : World) (l : List Nat) (bs : List Int) (i0 : Nat) (h : GP w p F x) (ho : x.was ≠ none) (hs : Stands x l bs) (hb : 1 ≤ bs.length) (hb2 : bs.length ≤ 16384) (h0 : l[0]? = some i0) (hsl : 0 ≤ x.slack) :
    Calls Tryd.prog 14 #[.pointer (some ⟨p, 0, none⟩), .int .i64 i0] w fun e w' => e = .returned (.int .i64 0) ∧ ∃ y, GPTo w w' p F y ∧ Freed x y l := by
  have hpg : Calls Tryd.prog 12 #[.pointer (some ⟨p, 0, none⟩), .int .i64 i0] w fun e w' => ∃ A c, e = .returned (.tuple #[.slice A l.length c, .int .i64 0]) ∧ DelJ w w' p F F x x l A c 0 := by
    have H := Lib.hid (all_stands p F x w l bs i0 h hs hb hb2 h0)
    have HF := Lib.hid h.lt
    clear h hs hb hb2 h0
    go_enter Tryd.func12, Tryd.ntmps12
    go_wp2_with fail
    refine H.out.mono ?_
    rintro e w1 ⟨h1, h2, A1, c1, A2, c2, rfl, h3, h4⟩
    have HO := Lib.hid (And.intro h1 (And.intro h2 h3))
    clear h1 h2 h3 h4
    go_wp2_with fail
    go_ret2
    exact ⟨A1, c1, rfl, HO.out.1, ⟨HO.out.2.1, fun _ e => .inl e⟩, HO.out.2.2, fun g hg e => by have := (HO.out.2.2.lt g hg).1; have := HF.out g e; omega, Freed.refl x⟩
  have hll : l.length ≤ 4096 := by
    have h1 := h.szs
    have h2 := List.Nodup.length_le_of_subset hs.nd (l₂ := List.range x.now.length) fun s hm => List.mem_range.2 (by
      obtain ⟨k, hk⟩ := List.mem_iff_getElem?.1 hm
      obtain ⟨c, e, -⟩ := hs.at_ k s hk
      exact (List.getElem?_eq_some_iff.1 e).1)
    rw [List.length_range] at h2
    omega
  have H := Lib.hid (And.intro hpg (And.intro ho (And.intro hs hsl)))
  clear h ho hs hb hb2 h0 hsl hpg
  go_enter Tryd.func14, Tryd.ntmps14
  go_wp2_with fail
  refine H.out.1.mono ?_
  rintro e w1 ⟨A, c, rfl, hJ⟩
  have HJ := Lib.hid hJ
  clear hJ
  go_wp2_with fail
  go_loopg [6, 17] l.length (fun q e v wr => ∃ (k : Nat) (F' : Nat → Prop) (y : Rp), q = l.length - k ∧ k ≤ l.length ∧ e = .int .i64 0 ∧ v = .int .i64 k ∧ DelJ w wr p F F' x y l A c k)
  case atStart => exact ⟨0, F, x, rfl, Nat.zero_le _, rfl, rfl, HJ.out⟩
  case round =>
    obtain ⟨k, F', y, rfl, hk, rfl, rfl, hJ⟩ := hrel
    have HK := Lib.hid hJ
    clear hJ
    by_cases hlt : k < l.length
    · obtain ⟨i, hi⟩ : ∃ i, l[k]? = some i := ⟨_, List.getElem?_eq_getElem hlt⟩
      obtain ⟨g, rfl, hg⟩ := own_block HK.out.row (by omega)
      have hce : wr.cell? ⟨g, k, none⟩ = some (.int .i64 i) := by
        have := HK.out.row.cells (g := g) rfl k (.int .i64 i) (by simp [nv, hi])
        rwa [Addr.add_lit, Nat.zero_add] at this
      obtain ⟨cc, e1, e2, -⟩ := H.out.2.2.1.at_ k i hi
      have hin : i ∉ l.take k := fun hm => by
        obtain ⟨q, hq, e⟩ := List.mem_iff_getElem.1 hm
        rw [List.getElem_take] at e
        rw [List.length_take] at hq
        have h9 : l[q]? = l[k]? := by rw [List.getElem?_eq_getElem (show q < l.length by omega), hi, e]
        have := (List.getElem?_inj (by omega) H.out.2.2.1.nd).1 h9
        omega
      have hy : y.now[i]? = some cc := by rw [HK.out.fr.else_ i hin]; exact e1
      have hyw : y.was ≠ none := by rw [HK.out.fr.like.was]; exact H.out.2.1
      have hrm : (y.need (i / y.row) 0 : Nat) ≤ y.room := HK.out.gp.need (HK.out.gp.part (List.getElem?_eq_some_iff.1 hy).1) (by have := HK.out.fr.slack; have := H.out.2.2.2; simp; omega)
      have HFr := Lib.hid (gp_free p i F' y wr cc HK.out.gp hyw hy e2 hrm)
      have HM := Lib.hid (HK.out.fr.more H.out.2.1 hin e1 e2)
      have HT := Lib.hid (show l.take k ++ [i] = l.take (k + 1) from by rw [List.take_add_one, hi]; rfl)
      clear hi e1 e2 hin hy hyw hrm
      go_wp2_with fail
      refine HFr.out.mono ?_
      rintro e w3 ⟨rfl, F2, h1, h2, h3⟩
      have HN := Lib.hid (show DelJ w w3 p F F2 x (y.put i .no) l (some ⟨g, 0, none⟩) c (k + 1) from ⟨h1, HK.out.rch.trans ⟨h2, h3⟩, own_chg HK.out.row h2 HK.out.rn, fun q hq e => (h3 q e).elim (HK.out.rn q hq) fun e => by have := (HK.out.row.lt q hq).2; omega, HT.out ▸ HM.out⟩)
      clear h1 h2 h3 hce
      go_wp2_with fail
      go_roundg (l.length - (k + 1))
      case measure => omega
      case rel => exact ⟨k + 1, F2, _, rfl, by omega, rfl, by simp, HN.out⟩
    · obtain rfl : k = l.length := by omega
      go_wp2_with fail
      go_ret
      have h5 := HK.out.fr
      rw [List.take_length] at h5
      exact ⟨rfl, y, ⟨F', HK.out.gp, HK.out.rch.chg, HK.out.rch.new⟩, h5⟩

end Go.Proofs.YtjlfnebkibgfmaaDoor

/- The chain: Each, of a record that stands. -/
namespace Go.Proofs.YtjlfnebkibgfmaaDoor
open Go.RowKit Go.Maps

theorem ceach_any (p i : Nat) (w W : World) (hW : (w.alloc (.cells #[.pointer (some ⟨p, 0, none⟩)] 26)).alloc (.cells #[.int .i64 i] 3) = W) :
    Calls Tryd.prog 38 #[.pointer (some ⟨p, 0, none⟩), .int .i64 i] w fun e w' => e = .returned (.func (.func 59) #[] #[.pointer (some ⟨w.heap.size, 0, none⟩), .pointer (some ⟨w.heap.size + 1, 0, none⟩)]) ∧ W = w' := by
  subst hW
  go_enter Tryd.func38, Tryd.ntmps38
  go_wp2
  go_ret
  exact ⟨rfl, rfl⟩

attribute [local go_sem] Oper.semAt_some
set_option maxHeartbeats 1600000 in
theorem ceach1_any (y s i g c : Nat) (P : List Int) (w : World) (R : Ending → World → Prop) (hb : Blk w s 98 #[.func (.yield y) #[] #[]]) (hs : Sl w 1 (some ⟨g, 5, none⟩) P.length (bv P)) (hP : 1 ≤ P.length ∧ P.length ≤ 20000)
    (hy : ∀ A c w', Grew w w' → w'.ownsRow w.heap.size 5 1 (.slice A P.length c) P.length (bv P) → YieldAt Fence.wide 0 Tryd.prog y #[.slice A P.length c] w' fun e W' => (∃ b, e = .returned (.bool b)) ∧ R e W') :
    Calls Tryd.prog 60 #[.int .i64 i, .slice (some ⟨g, 5, none⟩) P.length c, .pointer (some ⟨s, 0, none⟩)] w R := by
  obtain ⟨c0, f0, s0⟩ := hb.drew.facts
  have H := Lib.hid (And.intro hb (And.intro hs hy))
  have hmx : Tryd.prog.follows .mixedOrders = true := by kernel_rfl
  have hcl := bclone_any (some ⟨g, 5, none⟩) (by simp) P c w.drew (by omega) (H.out.2.1.grew ((Chg.refl _ _).drew))
  have HCl := Lib.hid hcl
  clear hb hs hy hcl
  (refine (callsIn_wide (n := 1)).1 (callsIn_of_wp Tryd.func60 rfl trivial ?_ rfl); simp only [Tryd.ntmps60, List.size_toArray, List.length_cons, List.length_nil, Nat.reduceAdd, Nat.reduceSub, Array.replicate_succ, Array.replicate_zero, List.push_toArray, List.append_toArray, List.nil_append, List.cons_append])
  gi_wp2
  rename_i K0 hK0
  have HK0 := Lib.hid hK0
  clear hK0
  refine wpIn_region_any hmx ?_
  change wpAnyIn _ _ _ _ _ _ _ _ _ (World.drew _)
  refine wpAnyIn_take (i := 1) (v := ?_) rfl rfl (by kernel_rfl) (by kernel_rfl) (by kernel_rfl) (fun _ _ _ h => h) ⟨Or.inl ⟨by rfl, ?_⟩, fun _ => rfl⟩ ?_
  rotate_left
  · intro w; go_simp <;> with_reducible rfl
  refine wpAnyIn_ready (rs := [0, 2]) (by kernel_rfl) (by simp) ?_
  refine AllReadyIn.cons rfl (fun K hK => ?_) (AllReadyIn.cons rfl (fun K hK => ?_) AllReadyIn.nil)
  · go_simp
    refine hK _ _ ?_
    clear hK K
    refine wpAnyIn_ready (rs := [2]) (by kernel_rfl) (by simp) ?_
    refine AllReadyIn.cons rfl (fun K hK => ?_) AllReadyIn.nil
    go_simp
    refine ⟨trivial, (callsIn_wide.2 HCl.out).mono ?_⟩
    rintro e w1 ⟨A, c1, rfl, ho, hg⟩
    obtain ⟨fn, tmps, assign, body, hy, hRd⟩ := H.out.2.2 A c1 w1 (Grew.trans ((Chg.refl NoF w).drew) hg) (own_base ho (Nat.le_refl _))
    refine hK _ _ ?_
    clear hK K
    refine wpAnyIn_ready (rs := [3]) (by kernel_rfl) (by simp) ?_
    refine AllReadyIn.cons rfl (fun K hK => ?_) AllReadyIn.nil
    have HRd := Lib.hid hRd
    have HK := Lib.hid hK
    clear hRd hK
    go_simp
    refine HRd.out.mono ?_
    rintro e w2 ⟨⟨b, rfl⟩, hR⟩
    have HR := Lib.hid hR
    clear hR
    refine HK.out _ _ ?_
    clear HK K
    refine wpAnyIn_ready (rs := [4]) (by kernel_rfl) (by simp) ?_
    refine AllReadyIn.cons rfl (fun K hK => ?_) AllReadyIn.nil
    have HK := Lib.hid hK
    clear hK
    go_simp
    refine HK.out _ _ ?_
    clear HK K
    refine wpAnyIn_done (by kernel_rfl) ?_ _
    refine HK0.out _ _ ?_
    gi_wp2
    exact HR.out
  · go_simp
    refine ⟨trivial, (callsIn_wide.2 HCl.out).mono ?_⟩
    rintro e w1 ⟨A, c1, rfl, ho, hg⟩
    have hb1 := H.out.1.drew
    obtain ⟨fn, tmps, assign, body, hy, hRd⟩ := H.out.2.2 A c1 w1 (Grew.trans ((Chg.refl NoF w).drew) hg) (own_base ho (Nat.le_refl _))
    refine hK _ _ ?_
    clear hK K
    refine wpAnyIn_ready (rs := [0]) (by kernel_rfl) (by simp) ?_
    refine AllReadyIn.cons rfl (fun K hK => ?_) AllReadyIn.nil
    have c1' := (hb1.grew hg).cell 0
    go_simp
    refine hK _ _ ?_
    clear hK K
    refine wpAnyIn_ready (rs := [3]) (by kernel_rfl) (by simp) ?_
    refine AllReadyIn.cons rfl (fun K hK => ?_) AllReadyIn.nil
    have HRd := Lib.hid hRd
    have HK := Lib.hid hK
    clear hRd hK
    go_simp
    refine HRd.out.mono ?_
    rintro e w2 ⟨⟨b, rfl⟩, hR⟩
    have HR := Lib.hid hR
    clear hR
    refine HK.out _ _ ?_
    clear HK K
    refine wpAnyIn_ready (rs := [4]) (by kernel_rfl) (by simp) ?_
    refine AllReadyIn.cons rfl (fun K hK => ?_) AllReadyIn.nil
    have HK := Lib.hid hK
    clear hK
    go_simp
    refine HK.out _ _ ?_
    clear HK K
    refine wpAnyIn_done (by kernel_rfl) ?_ _
    refine HK0.out _ _ ?_
    gi_wp2
    exact HR.out

set_option maxHeartbeats 1600000 in
theorem ceach_iter (bp bf p i0 y : Nat) (F : Nat → Prop) (x : Rp) (l : List Nat) (bs : List Int) (J : Nat → World → Prop) (w : World) (hs : Stands x l bs) (hb : 1 ≤ bs.length) (hb2 : bs.length ≤ 16384) (h0 : l[0]? = some i0)
    (hin : ∀ k W, J k W → GP W p F x ∧ Blk W bp 26 #[.pointer (some ⟨p, 0, none⟩)] ∧ Blk W bf 3 #[.int .i64 i0])
    (hst : ∀ k W W', J k W → Chg (fun j => F j ∨ w.heap.size ≤ j) W W' → GP W' p F x → J k W')
    (hyld : ∀ k P A c W, J k W → k < l.length → P = part (x.sz - 5) bs k → W.ownsRow w.heap.size 5 1 (.slice A P.length c) P.length (bv P) → YieldAt Fence.wide 0 Tryd.prog y #[.slice A P.length c] W fun e W' => e = .returned (.bool true) ∧ J (k + 1) W' ∧ Chg (fun j => j < w.heap.size) W W')
    (hj : J 0 w) :
    Calls Tryd.prog 59 #[.func (.yield y) #[] #[], .pointer (some ⟨bp, 0, none⟩), .pointer (some ⟨bf, 0, none⟩)] w fun e w' => (∃ v, e = .returned v) ∧ J l.length w' := by
  have hF := (hin 0 w hj).1.lt
  have hz := (hin 0 w hj).1.szs
  have hz' : 64 ≤ x.sz ∧ x.sz ≤ 4096 ∧ x.now.length ≤ 4096 := ⟨hz.2.2.1, hz.2.2.2.1, hz.2.2.2.2.2⟩
  have hi4 : i0 < 4096 := by
    obtain ⟨c, h1, -⟩ := hs.at_ 0 i0 h0
    have := (List.getElem?_eq_some_iff.1 h1).1
    omega
  obtain ⟨s, hsz⟩ : ∃ s, w.heap.size = s := ⟨_, rfl⟩
  obtain ⟨W1, hW1⟩ : ∃ W1, w.alloc (.cells #[.func (.yield y) #[] #[]] 98) = W1 := ⟨_, rfl⟩
  have hg1 : Grew w W1 := hW1 ▸ (Chg.refl _ _).alloc _
  have hb1 : Blk W1 s 98 #[.func (.yield y) #[] #[]] := by subst hW1 hsz; exact Blk.new _ _ _
  have hs1 : W1.heap.size = s + 1 := by subst hW1 hsz; simp
  have hj1 : J 0 W1 := hst 0 _ _ hj hg1.chg ((hin 0 w hj).1.grew hg1)
  have hwalk := walk_any p 60 i0 F x #[.pointer (some ⟨s, 0, none⟩)] (fun l' ps W => J l'.length W ∧ Blk W s 98 #[.func (.yield y) #[] #[]]) (fun _ _ _ => False) W1
    (enters_of Tryd.func60 (by kernel_rfl) rfl)
    (fun l' ps W ⟨hJ, _⟩ => (hin _ W hJ).1)
    (fun l' ps W W' ⟨hJ, hB⟩ hc hg => ⟨hst _ _ _ hJ (hc.mono fun j _ e => e.imp id fun e => by omega) hg, hB.chg hc (by rintro (e | e); have := hF _ e; omega; omega)⟩)
    (fun l' ps i P g c W0 W nx ⟨hJ, hB⟩ hW0 hc hg hwk hsl hbg hFg hPc => by
      have hJ2 : J l'.length W := hst _ _ _ hJ (hc.mono fun j _ e => e.imp id fun e => by omega) hg
      have hB2 : Blk W s 98 #[.func (.yield y) #[] #[]] := hB.chg hc (by rintro (e | e); have := hF _ e; omega; omega)
      obtain ⟨k, k1, k2, k3, k4⟩ := hs.wk hz' hb h0 hwk
      have hk : k = l'.length + 1 := by
        have := congrArg List.length k2
        rw [List.length_take] at this
        simp only [List.length_append, List.length_singleton] at this
        omega
      have hpl : ps.length = l'.length := by
        have := congrArg List.length k3
        simp only [List.length_append, List.length_singleton, List.length_map, List.length_range] at this
        omega
      have hP : P = part (x.sz - 5) bs l'.length := by
        have h1 : (ps ++ [P])[l'.length]? = some P := by rw [List.getElem?_append_right (by omega), hpl, Nat.sub_self]; rfl
        rw [k3, hk, List.getElem?_map, List.getElem?_range (by omega)] at h1
        simpa using h1.symm
      have hlt : l'.length < l.length := by omega
      have hPl : 1 ≤ P.length ∧ P.length ≤ 20000 := by
        have h1 := (parts_lt hb (show 1 ≤ x.sz - 5 by omega) l'.length).2 (by rw [← hs.len]; exact hlt)
        have h2 := part_len (x.sz - 5) bs l'.length
        rw [hP, h2]
        omega
      refine (ceach1_any y s i g c P W (fun e W' => Chg (fun j => j ≠ W1.heap.size) W W' ∧ Rounded (fun W' => J (l' ++ [i]).length W' ∧ Blk W' s 98 #[.func (.yield y) #[] #[]]) (fun _ => False) e W') hB2 hsl hPl fun A c' w' hg' ho' => ?_)
      have hGP' := hg.grew hg'
      have hJ3 : J l'.length w' := hst _ _ _ hJ2 hg'.chg hGP'
      refine YieldAt.mono (hyld l'.length P A c' w' hJ3 hlt hP (own_base ho' (by have := hc.size; have := hB2.lt; omega))) ?_
      rintro e W' ⟨rfl, h5, h6⟩
      refine ⟨⟨true, rfl⟩, Grew.then hg' (h6.mono fun j _ e => by omega), .inl ⟨rfl, by simpa using h5, (hB2.grew hg').chg h6 (by omega)⟩⟩)
    ⟨hj1, hb1⟩ (fun j hj => by have := hF j hj; omega) (by omega)
  have HWk := Lib.hid hwalk
  have HE := Lib.hid (fun (l' : List Nat) (ps : List (List Int)) (i : Int) (h : Wk x i0 l' ps i) => hs.end_ hz' hb hb2 h0 h)
  have c1 := ((hin 0 w hj).2.1.grew hg1).cell 0
  have c2 := ((hin 0 w hj).2.2.grew hg1).cell 0
  have HW1 := Lib.hid (And.intro hW1 hsz)
  rw [← hW1] at c1 c2
  clear hin hst hyld hj hj1 hb1 hs1 hg1 hW1 hwalk hF hz hz' hs h0 hsz
  (refine (callsIn_wide (n := 1)).1 (callsIn_of_wp Tryd.func59 rfl trivial ?_ rfl); simp only [Tryd.ntmps59, List.size_toArray, List.length_cons, List.length_nil, Nat.reduceAdd, Nat.reduceSub, Array.replicate_succ, Array.replicate_zero, List.push_toArray, List.append_toArray, List.nil_append, List.cons_append])
  gi_wp2_with fail
  rw [HW1.out.1, HW1.out.2]
  refine ⟨trivial, ?_⟩
  refine (callsIn_wide.2 HWk.out).mono ?_
  rintro e w3 ⟨l', ps, (⟨i, hwk, ⟨hJ, -⟩, (⟨hi, rfl⟩ | ⟨hi, hwr, rfl⟩)⟩ | ⟨hf, -⟩)⟩
  · have HJ := Lib.hid hJ
    have e1 := ((HE.out _ _ _ hwk).1 hi).1
    have Hl := Lib.hid e1
    clear hJ hwk hi e1
    gi_wp2
    refine bodyPost_end (results_none rfl _ _ _) rfl ⟨⟨_, rfl⟩, ?_⟩
    rw [← Hl.out]
    exact HJ.out
  · exact absurd hwr ((HE.out _ _ _ hwk).2 hi)
  · exact hf.elim

end Go.Proofs.YtjlfnebkibgfmaaDoor

/- Strings as rows of numbers; append of one string to a row of the call's own. -/
namespace Go.Proofs.YtjlfnebkibgfmaaDoor
open Go.RowKit

theorem son_append (a b : List Int) : strOfNums a ++ strOfNums b = strOfNums (a ++ b) := by
  apply ByteArray.ext
  rw [ByteArray.data_append]
  simp [strOfNums]
theorem son_extract (l : List Int) (i j : Nat) : (strOfNums l).extract i j = strOfNums ((l.take j).drop i) := by
  apply ByteArray.ext
  rw [ByteArray.data_extract]
  simp [strOfNums, List.map_take, List.map_drop, List.drop_take]
theorem son_inj {a b : List Int} (ha : ∀ q ∈ a, 0 ≤ q ∧ q ≤ 255) (hb : ∀ q ∈ b, 0 ≤ q ∧ q ≤ 255) (h : strOfNums a = strOfNums b) : a = b := by
  have h1 := congrArg (fun s => s.data.toList) h
  simp only [strOfNums_data] at h1
  have h2 : ∀ l : List Int, (∀ q ∈ l, 0 ≤ q ∧ q ≤ 255) → (l.map fun n => UInt8.ofNat n.toNat).map (fun b => ((b.toNat : Nat) : Int)) = l := by
    intro l hl
    rw [List.map_map]
    conv => rhs; rw [← List.map_id l]
    refine List.map_congr_left fun q hq => ?_
    have := hl q hq
    simp only [Function.comp_apply, UInt8.toNat_ofNat', id_eq]
    rw [Nat.mod_eq_of_lt (by omega)]
    omega
  rw [← h2 a ha, ← h2 b hb, h1]
theorem son_beq {a b : List Int} (ha : ∀ q ∈ a, 0 ≤ q ∧ q ≤ 255) (hb : ∀ q ∈ b, 0 ≤ q ∧ q ≤ 255) : ((strOfNums a).toList == (strOfNums b).toList) = decide (a = b) := by
  by_cases h : a = b
  · subst h; simp
  · rw [decide_eq_false h]
    refine beq_eq_false_iff_ne.2 fun e => h (son_inj ha hb ?_)
    rw [ByteArray.toList_eq, ByteArray.toList_eq] at e
    exact ByteArray.ext (Array.toList_inj.1 e)
/-- A row of strings. -/
def sv (ps : List (List Int)) : List Value := ps.map fun P => .string (strOfNums P)
theorem sv_len (ps : List (List Int)) : (sv ps).length = ps.length := by simp [sv]
theorem sv_snoc (ps : List (List Int)) (P : List Int) : sv ps ++ [.string (strOfNums P)] = sv (ps ++ [P]) := by simp [sv]
theorem sv_at {ps : List (List Int)} {k : Nat} {P : List Int} (h : ps[k]? = some P) : (sv ps)[k]? = some (.string (strOfNums P)) := by simp [sv, h]
theorem strInfo_ : (Tryd.prog.info? 9).map (fun i => (i.zero, i.size, i.bytes)) = some (some (.string ⟨#[]⟩), 1, 16) := by kernel_rfl
theorem app_str {w : World} {ops : Array Oper} {rest : List Oper} {o : Oper} {a : Act} {Q : Exit → Act → World → Prop} (hgd : o.guard = none) (s x : Operand)
    (ho : o.op = .call { callee := .builtin .append, args := #[s, x], argTypes := #[28, 28] }) (base : Nat) (v : Value) (n : Nat) (xs : List Value) (hs : a.eval s = v) (hown : w.ownsRow base 9 1 v n xs)
    (e : ByteArray) (hx : a.eval x = .slice (some ⟨w.heap.size, 0, none⟩) 1 1) (hn : n ≤ 1000000) (hb : base ≤ w.heap.size)
    (h : ∀ v' w', w'.ownsRow base 9 1 v' (n + 1) (xs ++ [.string e]) → Ap w w' v v' → wpList Tryd.prog ops Q rest (a.put o.dst v') w') :
    wpList Tryd.prog ops Q (o :: rest) a (w.alloc (.cells #[.string e] 9)) := by
  obtain ⟨i0, hi0, hz0, hz1, hz2⟩ := info_parts strInfo_
  refine wpList_append_own_at _ hgd s x 28 ho base 9 i0 _ 1 16 Tryd.underlying28 hi0 hz0 hz1 hz2 rfl (by omega) v n xs hs (own_grew hown ((Chg.refl _ _).alloc _)) ⟨w.heap.size, 0, none⟩ 1 1 [.string e] hx rfl (news_one _ _ _) (by simp [Value.oneCell']) (by simp only [maxLen]; omega) (by omega) (by simp; omega) ?_
  intro v1 w1 h1 h2 _ h4
  exact h v1 w1 h1 ((Ap.refl _ _).push ((Chg.refl _ _).alloc _) h2 h4)

end Go.Proofs.YtjlfnebkibgfmaaDoor

/- The chain's document: Parts. -/
namespace Go.Proofs.YtjlfnebkibgfmaaDoor
open Go.RowKit

def parts (n : Nat) (bs : List Int) (k : Nat) : List (List Int) := (List.range k).map (part n bs)
theorem parts_len (n : Nat) (bs : List Int) (k : Nat) : (parts n bs k).length = k := by simp [parts]
theorem parts_succ (n : Nat) (bs : List Int) (k : Nat) : parts n bs (k + 1) = parts n bs k ++ [part n bs k] := by simp [parts, List.range_succ]

attribute [local go_sem] strOfNums_size
set_option maxRecDepth 100000 in
set_option maxHeartbeats 1600000 in
theorem xparts_any (bs : List Int) (n : Nat) (w : World) (hb : 1 ≤ bs.length) (hb2 : bs.length ≤ 100000) (hn : 1 ≤ n) (hn2 : n ≤ 100000) :
    Calls Tryd.prog 17 #[.string (strOfNums bs), .int .i64 n] w fun e w' => OwnOut w w' 9 1 (partsN bs.length n) (sv (parts n bs (partsN bs.length n))) (fun A c => .slice A (partsN bs.length n) c) e := by
  have HB := Lib.hid hb
  clear hb
  go_enter Tryd.func17, Tryd.ntmps17
  go_wp2
  go_loopg [0, 5] bs.length (fun q s v wr => ∃ (k : Nat) (R : List Int), q = R.length ∧ bs.drop (k * n) = R ∧ 1 ≤ R.length ∧ s = .string (strOfNums R) ∧ wr.ownsRow w.heap.size 9 1 v k (sv (parts n bs k)) ∧ Grew w wr)
  case atStart => exact ⟨0, bs, rfl, by simp, HB.out, rfl, World.ownsRow_nil _ _ _ _, Chg.refl _ _⟩
  case round =>
    obtain ⟨k, R, rfl, hR, hR1, rfl, hown, hg⟩ := hrel
    have HK := Lib.hid (And.intro hR (And.intro hown hg))
    have hRl : R.length = bs.length - k * n := by rw [← hR]; simp
    have HL := Lib.hid hRl
    have hsz := hg.size
    have hkn : k < partsN bs.length n := (parts_lt HB.out hn k).1 (by omega)
    have hkb : k ≤ 100000 := by
      have : k * 1 ≤ k * n := Nat.mul_le_mul_left _ hn
      omega
    have HKn := Lib.hid hkn
    clear hR hown hg hRl hkn
    have hbs : w.heap.size ≤ wr.heap.size := hsz
    have hxl := son_extract R 0 n
    have hxr := son_extract R n R.length
    by_cases hlt : n < R.length
    · rw [List.drop_zero] at hxl
      rw [List.take_of_length_le (Nat.le_refl _)] at hxr
      go_wp2_with (at_builtin; (refine app_str rfl (.tmp 10) (.tmp 14) rfl w.heap.size u5 k (sv (parts n bs k)) rfl HK.out.2.1 _ rfl (by omega) hbs ?_); intro v1 w1 hown1 hap1; have HO1 := Lib.hid (And.intro hown1 hap1); clear hown1 hap1)
      have hp : part n bs k = R.take n := by unfold part; rw [HK.out.1]
      go_roundg (R.drop n).length
      case measure => simp; omega
      case rel =>
        refine ⟨k + 1, R.drop n, rfl, ?_, by simp; omega, rfl, ?_, HO1.out.2.grow HK.out.2.2 fun j hj => (HK.out.2.1.lt j hj).1⟩
        · rw [← HK.out.1, List.drop_drop, Nat.add_mul, Nat.one_mul]
        · have ho := HO1.out.1
          rw [sv_snoc, ← hp, ← parts_succ] at ho
          exact ho
    · go_wp2_with (at_builtin; (refine app_str rfl (.tmp 19) (.tmp 21) rfl w.heap.size u5 k (sv (parts n bs k)) rfl HK.out.2.1 _ rfl (by omega) hbs ?_); intro v1 w1 hown1 hap1; have HO1 := Lib.hid (And.intro hown1 hap1); clear hown1 hap1)
      go_ret
      obtain ⟨A, c, rfl, -⟩ := own_shape HO1.out.1
      have hk1 : k + 1 = partsN bs.length n := by
        have h1 := parts_lt HB.out hn (k + 1)
        rw [Nat.add_mul, Nat.one_mul] at h1
        have := HKn.out
        have := HL.out
        omega
      have ho := HO1.out.1
      rw [sv_snoc] at ho
      have hp : part n bs k = R := by unfold part; rw [HK.out.1]; exact List.take_of_length_le (by omega)
      rw [← hp, ← parts_succ, hk1] at ho
      exact OwnOut.mk A c (by rw [hk1]; rfl) ho (HO1.out.2.grow HK.out.2.2 fun j hj => (HK.out.2.1.lt j hj).1)

end Go.Proofs.YtjlfnebkibgfmaaDoor

/- The chain's document: Page. -/
namespace Go.Proofs.YtjlfnebkibgfmaaDoor
open Go.RowKit
attribute [local go_sem] strOfNums_size

theorem conv5 (w : World) (a b c d e : Int) : (convert 29 9 (.slice (some ⟨w.heap.size, 0, none⟩) 5 5)).run Tryd.prog (w.alloc (.cells #[.int .u8 a, .int .u8 b, .int .u8 c, .int .u8 d, .int .u8 e] 5)) = .ok (.string (strOfNums [a, b, c, d, e])) (w.alloc (.cells #[.int .u8 a, .int .u8 b, .int .u8 c, .int .u8 d, .int .u8 e] 5)) := by
  refine run_convert_bytes_arg _ 29 5 Tryd.underlying29 (by kernel_rfl) w.heap.size 0 5 5 [a, b, c, d, e] rfl (fun i hi => ?_) 9 (by kernel_rfl)
  rw [Nat.zero_add, (Blk.new w 5 #[.int .u8 a, .int .u8 b, .int .u8 c, .int .u8 d, .int .u8 e]).cell i]
  match i, hi with
  | 0, _ => rfl
  | 1, _ => rfl
  | 2, _ => rfl
  | 3, _ => rfl
  | 4, _ => rfl
theorem son_zero (l : List Int) : strOfNums l ++ ⟨#[0]⟩ = strOfNums (l ++ [0]) := by rw [← son_append]; rfl
attribute [local go_sem] conv5 son_append son_zero
set_option maxRecDepth 100000 in
set_option maxHeartbeats 1600000 in
theorem xpage_any (P : List Int) (z : Int) (nx sz : Nat) (w : World) (hz1 : z + 1 = (nx : Int)) (hn : nx ≤ 65536) (hl : P.length + 5 ≤ sz) (hz : sz ≤ 4096) :
    Calls Tryd.prog 32 #[.string (strOfNums P), .int .i64 z, .int .i64 sz] w fun e w' => e = .returned (.string (strOfNums (pgL P nx sz))) ∧ Grew w w' := by
  go_enter Tryd.func32, Tryd.ntmps32
  go_wp2
  obtain ⟨B, hB⟩ : ∃ B : List Int, (3 :: (nx : Int) % 256 :: (nx : Int) / 256 % 256 :: (P.length : Int) % 256 :: (P.length : Int) / 256 :: P) = B := ⟨_, rfl⟩
  rw [hB]
  have hBl : B.length = 5 + P.length := by rw [← hB]; simp; omega
  have HB := Lib.hid hB
  have HBl := Lib.hid hBl
  clear hB hBl
  go_loopg [8] (sz - B.length) (fun q v wr => ∃ X : List Int, q = sz - X.length ∧ X = B ++ List.replicate (X.length - B.length) 0 ∧ B.length ≤ X.length ∧ X.length ≤ sz ∧ v = .string (strOfNums X) ∧ Grew w wr)
  case atStart => exact ⟨B, rfl, by simp, Nat.le_refl _, by rw [HBl.out]; omega, rfl, (Chg.refl _ _).alloc _⟩
  case round =>
    obtain ⟨X, rfl, hX, hX1, hX2, rfl, hg⟩ := hrel
    have HX := Lib.hid hX
    have HG := Lib.hid hg
    clear hX hg
    by_cases hlt : X.length < sz
    · go_wp2
      go_roundg (sz - (X ++ [0]).length)
      case measure => simp; omega
      case rel =>
        refine ⟨X ++ [0], rfl, ?_, by simp; omega, by simp; omega, rfl, HG.out⟩
        have e : (X ++ [(0 : Int)]).length - B.length = (X.length - B.length) + 1 := by simp; omega
        rw [e, List.replicate_succ', ← List.append_assoc, ← HX.out]
    · go_wp2
      go_ret
      refine ⟨?_, HG.out⟩
      have e : X = pgL P nx sz := by
        have h1 := HX.out
        have h2 := HBl.out
        rw [h1, show (X.length - B.length) = sz - 5 - P.length by omega, ← HB.out]
        unfold pgL
        simp
        omega
      rw [← e]
      rfl

end Go.Proofs.YtjlfnebkibgfmaaDoor

/- string(b) of bytes that are read. -/
namespace Go.Proofs.YtjlfnebkibgfmaaDoor
open Go.RowKit Go.Maps

/-- string(b) of bytes that are read. -/
theorem conv_sl {w : World} {c : Nat} {bs : List Int} {A : Option Addr} (h : Sl w 1 A bs.length (bv bs)) (h0 : 0 < bs.length) : (convert 29 9 (.slice A bs.length c)).run Tryd.prog w = .ok (.string (strOfNums bs)) w := by
  obtain ⟨b, off, rfl, hb, hx⟩ := h.2 h0
  refine run_convert_bytes_arg w 29 5 Tryd.underlying29 (by kernel_rfl) b off bs.length c bs rfl (fun i hi => ?_) 9 (by kernel_rfl)
  exact hx i (.int .u8 (bs.getD i 0)) (by simp [bv, hi])
theorem conv_own {w : World} {base n c : Nat} {bs : List Int} {A : Option Addr} (h : w.ownsRow base 5 1 (.slice A n c) n (bv bs)) (h0 : 0 < n) : (convert 29 9 (.slice A n c)).run Tryd.prog w = .ok (.string (strOfNums bs)) w := by
  have hl : bs.length = n := by have := h.1; rwa [bv_len, Nat.mul_one] at this
  subst hl
  exact conv_sl (Sl.of_own h) h0
end Go.Proofs.YtjlfnebkibgfmaaDoor

/- The chain's laws: stands, of a record that stands. -/
namespace Go.Proofs.YtjlfnebkibgfmaaDoor
open Go.RowKit Go.Maps

theorem cpages_stands (p : Nat) (F : Nat → Prop) (x : Rp) (w : World) (l : List Nat) (bs : List Int) (i0 : Nat) (h : GP w p F x) (hs : Stands x l bs) (hb : 1 ≤ bs.length) (hb2 : bs.length ≤ 16384) (h0 : l[0]? = some i0) :
    Calls Tryd.prog 12 #[.pointer (some ⟨p, 0, none⟩), .int .i64 i0] w fun e w' => GP w' p F x ∧ Chg F w w' ∧ ∃ A1 c1, e = .returned (.tuple #[.slice A1 l.length c1, .int .i64 0]) ∧ w'.ownsRow w.heap.size 3 1 (.slice A1 l.length c1) l.length (nv l) := by
  have H := Lib.hid (all_stands p F x w l bs i0 h hs hb hb2 h0)
  clear h hs hb hb2 h0
  go_enter Tryd.func12, Tryd.ntmps12
  go_wp2_with fail
  refine H.out.mono ?_
  rintro e w1 ⟨h1, h2, A1, c1, A2, c2, rfl, h3, h4⟩
  have HO := Lib.hid (And.intro h1 (And.intro h2 h3))
  clear h1 h2 h3 h4
  go_wp2_with fail
  go_ret2
  exact ⟨HO.out.1, HO.out.2.1, A1, c1, rfl, HO.out.2.2⟩

theorem round_in {l id : Nat} {r : Loop} {R : Ending → World → Prop} {a : Act} {w : World} (h1 : Rec w l (Loop.at_ r .busy none)) (h2 : ∀ w', Kept l w w' → Rec w' l (Loop.at_ r .ready none) → R (.returned (.bool true)) w') :
    Exit.inBlock id (roundEnd l r R) .normal a w := ⟨h1, h2⟩
theorem neq_func_nil0 {P : Program} (w : World) (d : Nat) (t : TypeId) {a b : Array TypeId} {c : Bool} (h : P.underlying t = some (.func a b c)) (f : Fn) (xs lb : Array Value) : (Op.equalIn (d + 1) t (.func f xs lb) .nilFunc).run P w = .ok false w := by
  simp [Op.equalIn, run_underlying h]
theorem neq_func_nil' {P : Program} (w : World) (t : TypeId) {a b : Array TypeId} {c : Bool} (h : P.underlying t = some (.func a b c)) (f : Fn) (xs lb : Array Value) : (binOp .neq t (.func f xs lb) .nilFunc).run P w = .ok (.bool true) w := by
  simp only [binOp]
  simp [Op.equal, Op.maxDepth, neq_func_nil0 w 9999 t h]
theorem neq_func_nil (w : World) (f : Fn) (xs lb : Array Value) : (binOp .neq 77 (.func f xs lb) .nilFunc).run Tryd.prog w = .ok (.bool true) w := neq_func_nil' w _ Tryd.underlying77 f xs lb
/-- What stands reads. -/
structure StW (w W : World) (a p : Nat) (F : Nat → Prop) (x : Rp) (l : List Nat) (bs : List Int) (A1 : Option Addr) (c1 : Nat) (A2 : Option Addr) (c2 : Nat) (A3 : Option Addr) (c3 : Nat) (b11 : Nat) : Prop where
  gp : GP W p F x
  chg : Chg F w W
  b6 : Blk W a 4 #[.bool false]
  bq : Blk W b11 28 #[.slice A3 l.length c3]
  r1 : W.ownsRow a 3 1 (.slice A1 l.length c1) l.length (nv l)
  r2 : W.ownsRow a 5 1 (.slice A2 bs.length c2) bs.length (bv bs)
  r3 : W.ownsRow a 9 1 (.slice A3 l.length c3) l.length (sv (parts 59 bs l.length))
  lt : ∀ j, F j → j < a
  le : w.heap.size = a ∧ a < b11 ∧ 0 < a
  r3l : ∀ g, (Value.slice A3 l.length c3).ownBlock = some g → g < b11
theorem StW.chg' {w W W' : World} {a p : Nat} {F G : Nat → Prop} {x : Rp} {l : List Nat} {bs : List Int} {A1 : Option Addr} {c1 : Nat} {A2 : Option Addr} {c2 : Nat} {A3 : Option Addr} {c3 b11 : Nat} (h : StW w W a p F x l bs A1 c1 A2 c2 A3 c3 b11) (hc : Chg G W W') (hG : ∀ j, G j → F j ∨ W.heap.size ≤ j) (hg : GP W' p F x) : StW w W' a p F x l bs A1 c1 A2 c2 A3 c3 b11 := by
  obtain ⟨e1, e2, e3⟩ := h.le
  have hw := h.chg.size
  have hn : ∀ j, a ≤ j → j < W.heap.size → ¬ G j := fun j hj hj2 e => by
    rcases hG j e with e | e
    · have := h.lt j e; omega
    · omega
  have hb := h.b6.lt
  have hb1 := h.bq.lt
  exact ⟨hg, Chg.trans h.chg hc fun i hi e => (hG i e).elim id fun e => by omega, h.b6.chg hc (hn _ (by omega) hb), h.bq.chg hc (hn _ (by omega) hb1), own_chg h.r1 hc fun g hg => hn g (h.r1.lt g hg).1 (h.r1.lt g hg).2, own_chg h.r2 hc fun g hg => hn g (h.r2.lt g hg).1 (h.r2.lt g hg).2, own_chg h.r3 hc fun g hg => hn g (h.r3.lt g hg).1 (h.r3.lt g hg).2, h.lt, h.le, h.r3l⟩

/-- What stands reads in its range. -/
structure StR (w W : World) (a p : Nat) (F : Nat → Prop) (x : Rp) (l : List Nat) (bs : List Int) (g3 c3 b11 b17 bp i0 L D T k : Nat) (r : Loop) (st : LoopState) (pe : Option Code) : Prop where
  gp : GP W p F x
  chg : Chg F w W
  b6 : Blk W a 4 #[.bool false]
  bq : Blk W b11 28 #[.slice (some ⟨g3, 0, none⟩) l.length c3]
  r3 : Sl W 1 (some ⟨g3, 0, none⟩) l.length (sv (parts 59 bs l.length))
  bk : Blk W b17 3 #[.int .i64 k]
  bp1 : Blk W bp 26 #[.pointer (some ⟨p, 0, none⟩)]
  bf : Blk W (bp + 1) 3 #[.int .i64 i0]
  rc : Rec W L (Loop.at_ r st pe)
  df : Dfr W D
  lt : ∀ j, F j → j < a
  le : w.heap.size = a ∧ 0 < a ∧ a < b11 ∧ a ≤ g3 ∧ g3 < b11 ∧ b11 < b17 ∧ b17 < bp ∧ bp + 1 < L ∧ bp + 1 < D ∧ L ≠ D ∧ L < T ∧ D < T ∧ T ≤ W.heap.size
section
variable {w W W' : World} {a p : Nat} {F G : Nat → Prop} {x : Rp} {l : List Nat} {bs : List Int} {g3 c3 b11 b17 bp i0 L D T k : Nat} {r : Loop} {st st' : LoopState} {pe pe' : Option Code}
theorem StR.far (h : StR w W a p F x l bs g3 c3 b11 b17 bp i0 L D T k r st pe) (hc : Chg G W W') (hG : ∀ j, G j → F j ∨ T ≤ j) (hg : GP W' p F x) : StR w W' a p F x l bs g3 c3 b11 b17 bp i0 L D T k r st pe := by
  obtain ⟨e1, e2, e3, e4, e5, e6, e7, e8, e9, e10, e11, e12, e13⟩ := h.le
  have hn : ∀ j, a ≤ j → j < T → ¬ G j := fun j hj hj2 e => by
    rcases hG j e with e | e
    · have := h.lt j e; omega
    · omega
  have hz := hc.size
  exact ⟨hg, Chg.trans h.chg hc fun i hi e => (hG i e).elim id fun e => by omega, h.b6.chg hc (hn _ (by omega) (by omega)), h.bq.chg hc (hn _ (by omega) (by omega)), h.r3.chg hc (fun q hq => by injection hq with hq; subst hq; exact hn _ e4 (by simp only; omega)), h.bk.chg hc (hn _ (by omega) (by omega)), h.bp1.chg hc (hn _ (by omega) (by omega)), h.bf.chg hc (hn _ (by omega) (by omega)), h.rc.chg hc (hn _ (by omega) (by omega)), h.df.chg hc (hn _ (by omega) (by omega)), h.lt, by omega⟩
theorem StR.kept (h : StR w W a p F x l bs g3 c3 b11 b17 bp i0 L D T k r st pe) (hk : Kept L W W') (hR : Rec W' L (Loop.at_ r st' pe')) : StR w W' a p F x l bs g3 c3 b11 b17 bp i0 L D T k r st' pe' := by
  obtain ⟨e1, e2, e3, e4, e5, e6, e7, e8, e9, e10, e11, e12, e13⟩ := h.le
  have hz := hk.chg.size
  refine ⟨h.gp.chg hk.chg (fun j hj e => by have := h.lt j hj; omega) (by omega), h.chg.kept hk (by omega), h.b6.kept hk, h.bq.kept hk, h.r3.kept hk, h.bk.kept hk, h.bp1.kept hk, h.bf.kept hk, hR, h.df.kept hk (by omega), h.lt, by omega⟩
theorem StR.next (h : StR w W a p F x l bs g3 c3 b11 b17 bp i0 L D T k r st pe) (hW : W.setCell ⟨b17, 0, none⟩ (.int .i64 ((k : Int) + 1)) = W') : StR w W' a p F x l bs g3 c3 b11 b17 bp i0 L D T (k + 1) r st pe := by
  obtain ⟨e1, e2, e3, e4, e5, e6, e7, e8, e9, e10, e11, e12, e13⟩ := h.le
  have hc : Chg (fun j => j = b17) W W' := hW ▸ (Chg.refl (fun j => j = b17) W).setCell (p := ⟨b17, 0, none⟩) (fun _ => rfl) _
  have hz := hc.size
  refine ⟨h.gp.chg hc (fun j hj e => by have := h.lt j hj; omega) (by omega), Chg.trans h.chg hc fun i hi e => by omega, h.b6.chg hc (by omega), h.bq.chg hc (by omega), h.r3.chg hc (fun q hq => by injection hq with hq; subst hq; simp only; omega), ?_, h.bp1.chg hc (by omega), h.bf.chg hc (by omega), h.rc.chg hc (by omega), h.df.chg hc (by omega), h.lt, by omega⟩
  subst hW
  have := h.bk.put 0 (.int .i64 ((k : Int) + 1))
  simpa using this
end

attribute [local go_sem] strOfNums_size Oper.semAt_some
set_option maxRecDepth 100000 in
set_option maxHeartbeats 3200000 in
theorem stands_any (p i0 : Nat) (F : Nat → Prop) (x : Rp) (w : World) (l : List Nat) (bs : List Int) (h : GP w p F x) (hs : Stands x l bs) (hb : 1 ≤ bs.length) (hb2 : bs.length ≤ 16384) (hby : ∀ q ∈ bs, 0 ≤ q ∧ q ≤ 255) (h0 : l[0]? = some i0) (hz : x.sz = 64) :
    Calls Tryd.prog 18 #[.pointer (some ⟨p, 0, none⟩), .int .i64 i0, .string (strOfNums bs)] w fun e w' => e = .returned (.bool true) ∧ GP w' p F x ∧ Chg F w w' := by
  have hK : partsN bs.length 59 = l.length := by rw [hs.len, hz]
  have hl1 : 1 ≤ l.length := by rw [← hK]; exact Nat.succ_le_succ (Nat.zero_le _)
  have hl2 : l.length ≤ 16384 := by rw [← hK]; unfold partsN; have := Nat.div_le_self (bs.length - 1) 59; omega
  obtain ⟨a, ha⟩ : ∃ a, w.heap.size = a := ⟨_, rfl⟩
  obtain ⟨W0, hW0⟩ : ∃ W, w.alloc (.cells #[.bool false] 4) = W := ⟨_, rfl⟩
  have hb6 : Blk W0 a 4 #[.bool false] := by subst hW0 ha; exact Blk.new _ _ _
  have hg0 : Grew w W0 := hW0 ▸ (Chg.refl _ _).alloc _
  have hs0 : W0.heap.size = a + 1 := by subst hW0 ha; simp
  have hneed : ∀ u, Calls Tryd.prog 6 #[.int .i64 bs.length, .int .i64 64] u fun e w' => e = .returned (.int .i64 l.length) ∧ u = w' := fun u => by
    have h1 := need_any bs.length ((64 : Nat) : Int) u (by omega) (by omega)
    rw [need_parts hb hb2 (by omega), show 64 - 5 = 59 from rfl, hK] at h1
    exact h1
  have H := Lib.hid (And.intro h (And.intro hs (And.intro hby (And.intro h0 (And.intro hz (And.intro hneed (And.intro hK (And.intro hb hb2))))))))
  have HA := Lib.hid (And.intro hW0 (And.intro ha (And.intro hb6 (And.intro hg0 hs0))))
  have hap : 0 < a := ha ▸ tab_pos h.tab
  have HF := Lib.hid (show ∀ j, F j → j < a from fun j hj => ha ▸ h.lt j hj)
  clear h hs hby h0 hz hneed hK hW0 ha hb6 hg0 hs0
  (refine calls_of_marks Tryd.func18 rfl ?_; simp only [Tryd.ntmps18, List.size_toArray, List.length_cons, List.length_nil, Nat.reduceAdd, Nat.reduceSub, Array.replicate_succ, Array.replicate_zero, List.push_toArray, List.append_toArray, List.nil_append, List.cons_append])
  go_wp2_with (rw [HA.out.1])
  rw [HA.out.2.1]
  have hget := cget_stands p F x W0 l bs i0 (H.out.1.grew HA.out.2.2.2.1) H.out.2.1 hb hb2 H.out.2.2.2.1
  refine hget.mono ?_
  clear hget
  rintro e w1 ⟨hp1, hc1, A2, c2, rfl, ho2⟩
  have hb61 := HA.out.2.2.1.chg hc1 (fun e => by have := HF.out a e; omega)
  have H1 := Lib.hid (And.intro hp1 (And.intro (Grew.then HA.out.2.2.2.1 hc1) (And.intro ho2 hb61)))
  clear hp1 hc1 ho2 hb61
  go_wp2_with fail
  refine (cpages_stands p F x w1 l bs i0 H1.out.1 H.out.2.1 hb hb2 H.out.2.2.2.1).mono ?_
  rintro e w2 ⟨hp2, hc2, A1, c1, rfl, ho1⟩
  have hlt1 : ∀ j, a ≤ j → ¬ F j := fun j hj e => by have := HF.out j e; omega
  have H2 := Lib.hid (And.intro hp2 (And.intro (Chg.trans H1.out.2.1 hc2 fun _ _ e => e) (And.intro (own_base ho1 (show a ≤ w1.heap.size by have := H1.out.2.2.2.lt; omega)) (And.intro (own_base (own_chg H1.out.2.2.1 hc2 fun g hg => hlt1 g (by have := (H1.out.2.2.1.lt g hg).1; have := HA.out.2.2.2.2; omega)) (show a ≤ W0.heap.size by have := HA.out.2.2.2.2; omega)) (H1.out.2.2.2.chg hc2 (hlt1 a (by omega)))))))
  clear hp2 hc2 ho1
  go_wp2_with fail
  have hpa := xparts_any bs 59 w2 hb (by omega) (by omega) (by omega)
  rw [H.out.2.2.2.2.2.2.1] at hpa
  refine hpa.mono ?_
  clear hpa
  rintro e w3 ⟨A3, c3, rfl, ho3, hg3⟩
  obtain ⟨W4, hW4⟩ : ∃ W, w3.alloc (.cells #[.slice A3 l.length c3] 28) = W := ⟨_, rfl⟩
  have hS4 : StW w W4 a p F x l bs A1 c1 A2 c2 A3 c3 w3.heap.size := by
    have hg4 : Grew w3 W4 := hW4 ▸ (Chg.refl _ _).alloc _
    have hgg := Grew.trans hg3 hg4
    have hz2 := H2.out.2.2.2.2.lt
    have hz3 := hg3.size
    exact ⟨H2.out.1.grew hgg, H2.out.2.1.grew hgg, H2.out.2.2.2.2.grew hgg, hW4 ▸ Blk.new _ _ _, own_grew H2.out.2.2.1 hgg, own_grew H2.out.2.2.2.1 hgg, own_base (own_grew ho3 hg4) (show a ≤ w2.heap.size by omega), HF.out, ⟨HA.out.2.1, by omega, hap⟩, fun g hg => (ho3.lt g hg).2⟩
  obtain ⟨b11, hb11⟩ : ∃ b, w3.heap.size = b := ⟨_, rfl⟩
  rw [hb11] at hS4
  have HS4 := Lib.hid (And.intro hS4 hW4)
  clear ho3 hg3
  go_wp2_with fail
  clear hW4
  clear hb11
  obtain ⟨g1, rfl, hg1⟩ := own_block HS4.out.1.r1 (by omega)
  obtain ⟨g3, rfl, hg3⟩ := own_block HS4.out.1.r3 (by omega)
  obtain ⟨c11, f11, s11⟩ := HS4.out.1.bq.facts
  have cv4 : ∀ n, (convert 29 9 (.slice A2 bs.length c2)).run Tryd.prog (W4.drewN n) = .ok (.string (strOfNums bs)) (W4.drewN n) := fun n => conv_own (own_grew HS4.out.1.r2 ((Chg.refl _ _).drewN n)) (by omega)
  have ci0 : W4.cell? ⟨g1, 0, none⟩ = some (.int .i64 i0) := by
    have := HS4.out.1.r1.cells (g := g1) rfl 0 (.int .i64 i0) (by simp [nv, H.out.2.2.2.1])
    rwa [Addr.add_lit, Nat.zero_add] at this
  go_quiet ((go_at_call 6; exact Calls.quiet_of_same ((H.out.2.2.2.2.2.1 _).mono fun _ _ h => ⟨h.1, h.2.symm⟩)))
  have HS5 := Lib.hid (HS4.out.1.chg' ((Chg.refl NoF W4).drewN nq) (fun _ e => e.elim) (HS4.out.1.gp.grew ((Chg.refl NoF W4).drewN nq)))
  obtain ⟨W5, hW5⟩ : ∃ W, W4.drewN nq = W := ⟨_, rfl⟩
  rw [hW5] at HS5 ⊢
  clear hW5 c11 f11 s11 cv4 ci0 HS4
  go_wp2_with fail
  go_loopg [70] l.length (fun q v wr => ∃ k : Nat, q = l.length - k ∧ k ≤ l.length ∧ v = .int .i64 k ∧ StW w wr a p F x l bs (some ⟨g1, 0, none⟩) c1 A2 c2 (some ⟨g3, 0, none⟩) c3 b11)
  case atStart => exact ⟨0, rfl, Nat.zero_le _, rfl, HS5.out⟩
  case round =>
    obtain ⟨k, rfl, hk, rfl, hJ⟩ := hrel
    have HJ := Lib.hid hJ
    clear hJ
    by_cases hlt : k < l.length
    · obtain ⟨i, hi⟩ : ∃ i, l[k]? = some i := ⟨_, List.getElem?_eq_getElem hlt⟩
      obtain ⟨c, hc1, hc2, hc3⟩ := H.out.2.1.at_ k i hi
      rw [H.out.2.2.2.2.1] at hc3
      have hil : i < 4096 := by have := (List.getElem?_eq_some_iff.1 hc1).1; have := HJ.out.gp.szs; omega
      have hrd := gp_read p i F x wr c HJ.out.gp hc1 hc2
      rw [H.out.2.2.2.2.1, hc3] at hrd
      have hPl := part_len 59 bs k
      have hnx : ∃ z : Int, z + 1 = (nextOf l k : Nat) ∧ -1 ≤ z ∧ z ≤ 4096 ∧ nextOf l k ≤ 65535 ∧ (decide ((k : Int) < (l.length : Int) - 1) = true ∧ wr.cell? ⟨g1, k + 1, none⟩ = some (.int .i64 z) ∧ k + 1 < l.length ∨ decide ((k : Int) < (l.length : Int) - 1) = false ∧ z = -1) := by
        by_cases hk1 : k + 1 < l.length
        · have hj1 : l[k + 1]? = some l[k + 1] := List.getElem?_eq_getElem hk1
          obtain ⟨c', hd1, -⟩ := H.out.2.1.at_ (k + 1) _ hj1
          have hjl : l[k + 1] < 4096 := by have := (List.getElem?_eq_some_iff.1 hd1).1; have := HJ.out.gp.szs; omega
          refine ⟨(l[k + 1] : Nat), by unfold nextOf; rw [hj1]; simp, by omega, by omega, by unfold nextOf; rw [hj1]; show l[k + 1] + 1 ≤ _; omega, .inl ⟨decide_eq_true (by omega), ?_, hk1⟩⟩
          have := HJ.out.r1.cells (g := g1) rfl (k + 1) (.int .i64 (l[k + 1] : Nat)) (by simp [nv, hj1])
          rwa [Addr.add_lit, Nat.zero_add] at this
        · refine ⟨-1, ?_, by omega, by omega, ?_, .inr ⟨decide_eq_false (by omega), rfl⟩⟩
          · unfold nextOf; rw [List.getElem?_eq_none (by omega)]; simp
          · unfold nextOf; rw [List.getElem?_eq_none (by omega)]; simp
      have hck : wr.cell? ⟨g1, k, none⟩ = some (.int .i64 i) := by
        have := HJ.out.r1.cells (g := g1) rfl k (.int .i64 i) (by simp [nv, hi])
        rwa [Addr.add_lit, Nat.zero_add] at this
      obtain ⟨z, hz1, hz2, hz3, hz4, hz5⟩ := hnx
      obtain ⟨nx, hnxe⟩ : ∃ nx, nextOf l k = nx := ⟨_, rfl⟩
      rw [hnxe] at hz1 hz4 hrd
      obtain ⟨P, hP⟩ : ∃ P, part 59 bs k = P := ⟨_, rfl⟩
      rw [hP] at hrd hPl
      have hPl2 : P.length + 5 ≤ 64 := by omega
      have HRd := Lib.hid (And.intro hrd (And.intro hP hz1))
      clear hi hc1 hc2 hc3 hrd hP hnxe hPl hz1
      rcases hz5 with ⟨t1, t2, t3⟩ | ⟨t1, rfl⟩
      all_goals
        go_wp2_with fail
        refine HRd.out.1.mono ?_
        rintro e w6 ⟨A6, c6, rfl, ho6, hb6l, hb6b, hg6, hcg6, hF6⟩
        rw [H.out.2.2.2.2.1] at ho6 hb6l
        rw [H.out.2.2.2.2.1]
        have hJ6 := HJ.out.chg' hcg6 (fun j e => .inl e) hg6
        have HJ6 := Lib.hid (And.intro hJ6 ho6)
        have cc1 : w6.drew.cell? ⟨b11, 0, none⟩ = some (.slice (some ⟨g3, 0, none⟩) l.length c3) := (hJ6.bq.drew).cell 0
        have cc2 : w6.drew.cell? ⟨g3, k, none⟩ = some (.string (strOfNums P)) := by
          have := (own_grew hJ6.r3 ((Chg.refl _ _).drew)).cells (g := g3) rfl k (.string (strOfNums P)) (by rw [← HRd.out.2.1]; simp [sv, parts, hlt])
          rwa [Addr.add_lit, Nat.zero_add] at this
        have cc3 : (convert 29 9 (.slice A6 64 c6)).run Tryd.prog w6.drew = .ok (.string (strOfNums (pgL P nx 64))) w6.drew := conv_own (own_grew ho6 ((Chg.refl _ _).drew)) (by omega)
        have hcv : ∀ w', Grew w6.drew w' → (convert 29 9 (.slice A6 64 c6)).run Tryd.prog w' = .ok (.string (strOfNums (pgL P nx 64))) w' := fun w' hg => conv_own (own_grew (own_grew ho6 ((Chg.refl _ _).drew)) hg) (by omega)
        have HCv := Lib.hid hcv
        clear hJ6 ho6 hb6l hb6b hg6 hcg6 hF6 hcv hck
        go_wp2_with fail
        refine wp_region_held_drew (S := fun w' => w'.cell? ⟨b11, 0, none⟩ = some (.slice (some ⟨g3, 0, none⟩) l.length c3) ∧ w'.cell? ⟨g3, k, none⟩ = some (.string (strOfNums P)) ∧ (convert 29 9 (.slice A6 64 c6)).run Tryd.prog w' = .ok (.string (strOfNums (pgL P nx 64))) w') (by kernel_rfl) ⟨cc1, cc2, cc3⟩ (fun hHeld => ?_)
        refine wpAnyH_take (i := 0) (v := ?_) rfl (by kernel_rfl) (by kernel_rfl) (by kernel_rfl) (fun _ _ _ h => h) (Or.inl ⟨by rfl, ?_⟩) hHeld ?_
        rotate_left
        · (intro w hSw; (try dsimp only at hSw); go_simp) <;> with_reducible rfl
        (try simp only [Act.put, List.setIfInBounds_toArray, List.set_cons_zero, List.set_cons_succ, List.getElem_toArray, List.getElem_cons_zero, List.getElem_cons_succ])
        refine wpAnyH_take (i := 1) (v := ?_) rfl (by kernel_rfl) (by kernel_rfl) (by kernel_rfl) (fun _ _ _ h => h) (Or.inl ⟨by rfl, ?_⟩) hHeld ?_
        rotate_left
        · (intro w hSw; (try dsimp only at hSw); go_simp) <;> with_reducible rfl
        (try simp only [Act.put, List.setIfInBounds_toArray, List.set_cons_zero, List.set_cons_succ, List.getElem_toArray, List.getElem_cons_zero, List.getElem_cons_succ])
        refine wpAnyH_take (i := 2) (v := ?_) rfl (by kernel_rfl) (by kernel_rfl) (by kernel_rfl) (fun _ _ _ h => h) (Or.inl ⟨by rfl, ?_⟩) hHeld ?_
        rotate_left
        · (intro w hSw; (try dsimp only at hSw); go_simp) <;> with_reducible rfl
        (try simp only [Act.put, List.setIfInBounds_toArray, List.set_cons_zero, List.set_cons_succ, List.getElem_toArray, List.getElem_cons_zero, List.getElem_cons_succ])
        refine wpAnyH_take (i := 3) (v := ?_) rfl (by kernel_rfl) (by kernel_rfl) (by kernel_rfl) (fun _ _ _ h => h) (Or.inl ⟨by rfl, ?_⟩) hHeld ?_
        rotate_left
        · (intro w hSw; (try dsimp only at hSw); go_simp) <;> with_reducible rfl
        (try simp only [Act.put, List.setIfInBounds_toArray, List.set_cons_zero, List.set_cons_succ, List.getElem_toArray, List.getElem_cons_zero, List.getElem_cons_succ])
        refine wpAnyH_take (i := 4) (v := ?_) rfl (by kernel_rfl) (by kernel_rfl) (by kernel_rfl) (fun _ _ _ h => h) (Or.inl ⟨by rfl, ?_⟩) hHeld ?_
        rotate_left
        · (intro w hSw; (try dsimp only at hSw); go_simp) <;> with_reducible rfl
        (try simp only [Act.put, List.setIfInBounds_toArray, List.set_cons_zero, List.set_cons_succ, List.getElem_toArray, List.getElem_cons_zero, List.getElem_cons_succ])
        refine wpAnyH_take (i := 5) (v := ?_) rfl (by kernel_rfl) (by kernel_rfl) (by kernel_rfl) (fun _ _ _ h => h) (Or.inl ⟨by rfl, ?_⟩) hHeld ?_
        rotate_left
        · (intro w hSw; (try dsimp only at hSw); go_simp) <;> with_reducible rfl
        (try simp only [Act.put, List.setIfInBounds_toArray, List.set_cons_zero, List.set_cons_succ, List.getElem_toArray, List.getElem_cons_zero, List.getElem_cons_succ])
        refine wpAnyH_take (i := 6) (v := ?_) rfl (by kernel_rfl) (by kernel_rfl) (by kernel_rfl) (fun _ _ _ h => h) (Or.inl ⟨by rfl, ?_⟩) hHeld ?_
        rotate_left
        · (intro w hSw; (try dsimp only at hSw); go_simp) <;> with_reducible rfl
        (try simp only [Act.put, List.setIfInBounds_toArray, List.set_cons_zero, List.set_cons_succ, List.getElem_toArray, List.getElem_cons_zero, List.getElem_cons_succ])
        refine wpAnyH_take (i := 7) (v := ?_) rfl (by kernel_rfl) (by kernel_rfl) (by kernel_rfl) (fun _ _ _ h => h) (Or.inl ⟨by rfl, ?_⟩) hHeld ?_
        rotate_left
        · (intro w hSw; (try dsimp only at hSw); go_simp) <;> with_reducible rfl
        (try simp only [Act.put, List.setIfInBounds_toArray, List.set_cons_zero, List.set_cons_succ, List.getElem_toArray, List.getElem_cons_zero, List.getElem_cons_succ])
        refine wpAnyH_take (i := 8) (v := ?_) rfl (by kernel_rfl) (by kernel_rfl) (by kernel_rfl) (fun _ _ _ h => h) (Or.inl ⟨by rfl, ?_⟩) hHeld ?_
        rotate_left
        · (intro w hSw; (try dsimp only at hSw); go_simp) <;> with_reducible rfl
        (try simp only [Act.put, List.setIfInBounds_toArray, List.set_cons_zero, List.set_cons_succ, List.getElem_toArray, List.getElem_cons_zero, List.getElem_cons_succ])
        refine wpAnyH_take (i := 9) (v := ?_) rfl (by kernel_rfl) (by kernel_rfl) (by kernel_rfl) (fun _ _ _ h => h) (Or.inl ⟨by rfl, ?_⟩) hHeld ?_
        rotate_left
        · (intro w hSw; (try dsimp only at hSw); go_simp) <;> with_reducible rfl
        (try simp only [Act.put, List.setIfInBounds_toArray, List.set_cons_zero, List.set_cons_succ, List.getElem_toArray, List.getElem_cons_zero, List.getElem_cons_succ])
        refine wpAnyH_ready (rs := [10]) (by kernel_rfl) (by simp) ?_
        refine AllReadyH.cons rfl (fun K hK => ?_) AllReadyH.nil
        go_simp
        refine (xpage_any P _ nx 64 w6.drew HRd.out.2.2 (by omega) hPl2 (by omega)).mono ?_
        rintro e w7 ⟨rfl, hg7⟩
        have hHeld7 : w7.cell? ⟨b11, 0, none⟩ = some (.slice (some ⟨g3, 0, none⟩) l.length c3) ∧ w7.cell? ⟨g3, k, none⟩ = some (.string (strOfNums P)) ∧ (convert 29 9 (.slice A6 64 c6)).run Tryd.prog w7 = .ok (.string (strOfNums (pgL P nx 64))) w7 :=
          ⟨(hg7.cell (p := ⟨b11, 0, none⟩) HJ6.out.1.bq.lt id).trans cc1, (hg7.cell (p := ⟨g3, k, none⟩) (HJ6.out.1.r3.lt g3 rfl).2 id).trans cc2, HCv.out _ hg7⟩
        have HJ7 := Lib.hid (HJ6.out.1.chg' (Grew.trans ((Chg.refl NoF w6).drew) hg7) (fun _ e => e.elim) (HJ6.out.1.gp.grew (Grew.trans ((Chg.refl NoF w6).drew) hg7)))
        clear hg7
        refine hK.out _ _ hHeld7 (fun _ => ?_)
        clear hK K
        (try simp only [Act.put, List.setIfInBounds_toArray, List.set_cons_zero, List.set_cons_succ, List.getElem_toArray, List.getElem_cons_zero, List.getElem_cons_succ])
        refine wpAnyH_take (i := 11) (v := ?_) rfl (by kernel_rfl) (by kernel_rfl) (by kernel_rfl) (fun _ _ _ h => h) (Or.inl ⟨by rfl, ?_⟩) hHeld7 ?_
        rotate_left
        · (intro w hSw; (try dsimp only at hSw); go_simp) <;> with_reducible rfl
        (try simp only [Act.put, List.setIfInBounds_toArray, List.set_cons_zero, List.set_cons_succ, List.getElem_toArray, List.getElem_cons_zero, List.getElem_cons_succ])
        refine wpAnyH_ready (rs := [12]) (by kernel_rfl) (by simp) ?_
        refine AllReadyH.cons rfl (fun K hK => ?_) AllReadyH.nil
        go_simp
        refine hK.out _ _ hHeld7 (fun _ => ?_)
        clear hK K
        (try simp only [Act.put, List.setIfInBounds_toArray, List.set_cons_zero, List.set_cons_succ, List.getElem_toArray, List.getElem_cons_zero, List.getElem_cons_succ])
        refine wpAnyH_done (by kernel_rfl) ?_ _
        clear hHeld hHeld7 cc1 cc2 cc3
        go_wp2_with fail
        go_roundg (l.length - (k + 1))
        case measure => omega
        case rel => exact ⟨k + 1, rfl, by omega, by simp, HJ7.out⟩
    · obtain rfl : k = l.length := by omega
      obtain ⟨b17, hb17⟩ : ∃ b, wr.heap.size = b := ⟨_, rfl⟩
      obtain ⟨W6, hW6⟩ : ∃ W, wr.alloc (.cells #[.int .i64 0] 3) = W := ⟨_, rfl⟩
      obtain ⟨bp, hbp⟩ : ∃ b, W6.heap.size = b := ⟨_, rfl⟩
      obtain ⟨W8, hW8⟩ : ∃ W, (W6.alloc (.cells #[.pointer (some ⟨p, 0, none⟩)] 26)).alloc (.cells #[.int .i64 i0] 3) = W := ⟨_, rfl⟩
      have hg6 : Grew wr W6 := hW6 ▸ (Chg.refl _ _).alloc _
      have hg8 : Grew W6 W8 := hW8 ▸ ((Chg.refl _ _).alloc _).alloc _
      have k1 : Blk W8 b17 3 #[.int .i64 0] := Blk.grew (by subst hW6 hb17; exact Blk.new _ _ _) hg8
      have k2 : Blk W8 bp 26 #[.pointer (some ⟨p, 0, none⟩)] := by subst hW8 hbp; exact (Blk.new _ _ _).alloc _
      have k3 : Blk W8 (bp + 1) 3 #[.int .i64 i0] := by
        subst hW8 hbp
        have := Blk.new (W6.alloc (.cells #[.pointer (some ⟨p, 0, none⟩)] 26)) 3 #[.int .i64 i0]
        simpa using this
      have k4 : b17 < bp := by subst hW6 hb17 hbp; simp
      have hea := ceach_any p i0 W6 W8 hW8
      rw [hbp] at hea
      have HE := Lib.hid (And.intro hea (And.intro (Grew.trans hg6 hg8) (And.intro k1 (And.intro k2 (And.intro k3 (And.intro k4 hb17))))))
      have HW6 := Lib.hid hW6
      clear hg6 hg8 k1 k2 k3 k4 hea hW8 hbp hk hlt hW6
      go_wp2_with fail
      rw [HW6.out]
      refine HE.out.1.mono ?_
      clear hb17
      have hnf := neq_func_nil W8 (.func 59) #[] #[.pointer (some ⟨bp, 0, none⟩), .pointer (some ⟨bp + 1, 0, none⟩)]
      rintro e w8 ⟨rfl, rfl⟩
      go_wp2_with fail
      clear hnf
      refine wp_range (gf := 59) (lb := #[.pointer (some ⟨bp, 0, none⟩), .pointer (some ⟨bp + 1, 0, none⟩)]) rfl (enters_of Tryd.func59 (by kernel_rfl) rfl) ?_
      intro r Wr D L hr hg1 hDl hLl hD hR
      have hDL := hR.ne_dfr hD
      have hL2 := hR.lt
      have hD2 := hD.lt
      have hJ0 : StR w Wr a p F x l bs g3 c3 b11 b17 bp i0 L D Wr.heap.size 0 r .ready none := by
        have hgr := Grew.trans HE.out.2.1 hg1
        have hs8 := HJ.out.chg' hgr (fun _ e => e.elim) (HJ.out.gp.grew hgr)
        obtain ⟨q1, q2, q3⟩ := hs8.le
        have hz1 := HE.out.2.2.2.2.1.lt
        have hz2 := hs8.r3l g3 rfl
        have hz3 := (hs8.r3.lt g3 rfl).1
        have hz4 := HE.out.2.2.2.2.2
        have hz5 : b11 < b17 := by have := HJ.out.bq.lt; omega
        exact ⟨hs8.gp, hs8.chg, hs8.b6, hs8.bq, Sl.of_own hs8.r3, HE.out.2.2.1.grew hg1, HE.out.2.2.2.1.grew hg1, HE.out.2.2.2.2.1.grew hg1, hR, hD, hs8.lt, by omega⟩
      have HJ0 := Lib.hid hJ0
      have HR1 := Lib.hid hr
      clear hr hg1 hJ0 hD hR hDl hLl
      refine (ceach_iter bp (bp + 1) p i0 L F x l bs (fun k W => StR w W a p F x l bs g3 c3 b11 b17 bp i0 L D Wr.heap.size k r .ready none) Wr H.out.2.1 hb hb2 H.out.2.2.2.1
        (fun k W hJ => ⟨hJ.gp, hJ.bp1, hJ.bf⟩) (fun k W W' hJ hc hg => hJ.far hc (fun _ e => e) hg) (fun k P A c W hJ hk hP ho => ?yld) HJ0.out).mono ?post
      case yld =>
        have HJy := Lib.hid hJ
        rw [H.out.2.2.2.2.1] at hP
        have HO := Lib.hid (And.intro ho hP)
        have hPl := part_len 59 bs k
        have hP1 : 1 ≤ P.length := by
          have h1 := (parts_lt hb (show 1 ≤ 59 by omega) k).2 (by rw [H.out.2.2.2.2.2.2.1]; exact hk)
          rw [hP, hPl]
          omega
        clear hJ ho hP hPl
        obtain ⟨hr1, hr2, hr3, hr4⟩ := HR1.out
        refine yield_wide HJy.out.rc (by rw [hr2]; rfl) ?_
        rw [hr1, hr2, hr3, hr4]
        clear hr1 hr2 hr3 hr4
        intro K hK
        have HKK := Lib.hid hK
        clear hK
        gi_wp2
        refine HKK.out _ _ HJy.out.rc fun W5 Q hk3 hR2 hQ => ?_
        refine Code.wpIn_mono hQ ?_
        have HJ5 := Lib.hid (And.intro (HJy.out.kept hk3 hR2) (And.intro hk3.chg (own_kept HO.out.1 hk3)))
        clear hk3 hR2 hQ Q
        obtain ⟨d1, f1, s1⟩ := HJ5.out.1.bk.facts
        obtain ⟨d2, f2, s2⟩ := HJ5.out.1.bq.facts
        have d3 : W5.cell? ⟨g3, k, none⟩ = some (.string (strOfNums P)) := by
          obtain ⟨b, off, e, -, hx⟩ := HJ5.out.1.r3.2 (by omega)
          cases e
          have := hx k (.string (strOfNums P)) (by rw [HO.out.2]; simp [sv, parts, hk])
          rwa [Nat.zero_add] at this
        have cv5 : ∀ n, (convert 29 9 (.slice A P.length c)).run Tryd.prog (W5.drewN n) = .ok (.string (strOfNums P)) (W5.drewN n) := fun n => conv_own (own_grew HJ5.out.2.2 ((Chg.refl _ _).drewN n)) (by omega)
        have t1 : decide ((l.length : Int) ≤ (k : Int)) = false := decide_eq_false (by omega)
        have t1' : decide (l.length ≤ k) = false := decide_eq_false (by omega)
        gi_wp2_with fail
        (refine wpIn_region_quiet_round (by kernel_rfl) (by kernel_rfl) (by kernel_rfl) ?_; (repeat (gi_big_quiet_step ((fail)))); refine wpQuietIn_nil ?_; intro _ hw_; obtain ⟨nq, hw2_⟩ := hw_; subst hw2_)
        gi_wp2_with fail
        obtain ⟨W8, hW8⟩ : ∃ W8, (W5.drewN nq).setCell ⟨b17, 0, none⟩ (.int .i64 ((k : Int) + 1)) = W8 := ⟨_, rfl⟩
        have hd5 : Grew W5 (W5.drewN nq) := (Chg.refl _ _).drewN nq
        have HJ8 := (HJ5.out.1.far hd5 (fun _ e => e.elim) (HJ5.out.1.gp.grew hd5)).next hW8
        have hc8 : Chg (fun j => j = b17) W5 W8 := hW8 ▸ ((Chg.refl (fun j => j = b17) W5).drewN nq).setCell (p := ⟨b17, 0, none⟩) (fun _ => rfl) _
        rw [hW8]
        have hle := HJ5.out.1.le
        exact ⟨HJ8.rc, fun w' hk' hR' => ⟨rfl, HJ8.kept hk' hR', Chg.trans (Chg.trans (HJ5.out.2.1.mono fun j _ e => by omega) hc8 fun j _ e => by omega) hk'.chg fun j _ e => by omega⟩⟩
      case post =>
        rintro e w9 ⟨hv, hJ⟩
        refine ⟨hv, .inl ⟨hJ.rc, fun w10 hk10 => ?_⟩⟩
        have hle := hJ.le
        have HJ10 := Lib.hid (And.intro (hJ.gp.chg hk10.chg (fun j hj e => by have := hJ.lt j hj; omega) (by omega)) (And.intro (hJ.chg.kept hk10 (by omega)) (And.intro (hJ.df.kept hk10 (by omega)) (hJ.b6.kept hk10))))
        obtain ⟨d1, f1, s1⟩ := (hJ.bk.kept hk10).facts
        obtain ⟨d2, f2, s2⟩ := (hJ.bq.kept hk10).facts
        obtain ⟨d3, f3, s3⟩ := (hJ.b6.kept hk10).facts
        have HLt := Lib.hid hJ.lt
        clear hJ hk10
        go_wp2_with fail
        have hc10 : Chg (fun j => j = a) w10 (w10.setCell ⟨a, 0, none⟩ (.bool true)) := (Chg.refl (fun j => j = a) w10).setCell (p := ⟨a, 0, none⟩) (fun _ => rfl) _
        refine postM_ret1 (v := .bool true) (D := D) (HJ10.out.2.2.1.chg hc10 (by omega)) rfl fun w11 hk11 => ⟨?_, rfl, ?_, ?_⟩
        · have hb := ((HJ10.out.2.2.2.put 0 (.bool true)).kept hk11).cell 0
          have hf := ((HJ10.out.2.2.2.put 0 (.bool true)).kept hk11).frozen 0
          have hb' : w11.cell? ⟨a, 0, none⟩ = some (.bool true) := by simpa using hb
          simp [results, Tryd.results18, go_sem, hb', hf]
        · exact (HJ10.out.1.chg hc10 (fun j hj e => by have := HLt.out j hj; omega) (by omega)).chg hk11.chg (fun j hj e => by have := HLt.out j hj; omega) (by omega)
        · exact (Chg.trans HJ10.out.2.1 hc10 fun j _ e => by omega).kept hk11 (by omega)
end Go.Proofs.YtjlfnebkibgfmaaDoor

/- The chain's law ChainPuts: records beside each other (plain), and what lies there. -/
namespace Go.Proofs.YtjlfnebkibgfmaaDoor
open Go.RowKit Go.Maps

def totN (R : List (Option (List Nat))) : Nat := (R.map fun o => (o.getD []).length).sum
/-- The first pages. -/
def fi1 : Option (List Nat) → Int
  | none => -1
  | some l => ((l.headD 0 : Nat) : Int)
def fiR (R : List (Option (List Nat))) : List Int := R.map fi1
/-- These records stand, beside each other. -/
structure Recs (x0 y : Rp) (R : List (Option (List Nat))) (bss : List (List Int)) (m : Nat) : Prop where
  like : x0.like y
  st : ∀ (j : Nat) l, R[j]? = some (some l) → ∃ bs, bss[j]? = some bs ∧ 1 ≤ bs.length ∧ bs.length ≤ 500 ∧ (∀ q ∈ bs, 0 ≤ q ∧ q ≤ 255) ∧ Stands y l bs
  dis : ∀ (j1 j2 : Nat) l1 l2, R[j1]? = some (some l1) → R[j2]? = some (some l2) → j1 ≠ j2 → ∀ i ∈ l1, i ∉ l2
  used : y.now.countP Pk.used = totN R
  slack : x0.slack ≤ y.slack + m
theorem totN_snoc (R : List (Option (List Nat))) (o : Option (List Nat)) : totN (R ++ [o]) = totN R + (o.getD []).length := by simp [totN, List.sum_append]
theorem totN_set : ∀ (R : List (Option (List Nat))) (k : Nat) (l : List Nat), R[k]? = some (some l) → totN (R.set k none) + l.length = totN R
  | [], k, l, h => by simp at h
  | o :: R, 0, l, h => by
    simp only [List.getElem?_cons_zero, Option.some.injEq] at h
    subst h
    simp [totN]; omega
  | o :: R, k + 1, l, h => by
    simp only [List.getElem?_cons_succ] at h
    have := totN_set R k l h
    simp only [totN, List.set_cons_succ, List.map_cons, List.sum_cons] at this ⊢
    omega
theorem fiR_snoc (R : List (Option (List Nat))) (o : Option (List Nat)) : fiR (R ++ [o]) = fiR R ++ fiR [o] := by simp [fiR]
theorem fiR_len (R : List (Option (List Nat))) : (fiR R).length = R.length := by simp [fiR]
theorem fiR_set (R : List (Option (List Nat))) (k : Nat) : (fiR R).set k (-1) = fiR (R.set k none) := by simp [fiR, List.map_set, fi1]
theorem Stands.keep {y z : Rp} {l : List Nat} {bs : List Int} (h : Stands y l bs) (hz : z.sz = y.sz) (hk : ∀ i ∈ l, z.now[i]? = y.now[i]?) : Stands z l bs :=
  ⟨by rw [hz]; exact h.len, h.nd, fun k i hi => by
    obtain ⟨c, h1, h2, h3⟩ := h.at_ k i hi
    exact ⟨c, by rw [hk i (List.mem_of_getElem? hi)]; exact h1, h2, by rw [hz]; exact h3⟩⟩
theorem Stands.use {y : Rp} {l : List Nat} {bs : List Int} (h : Stands y l bs) {i : Nat} (hi : i ∈ l) : ∃ c, y.now[i]? = some c ∧ c.used = true := by
  obtain ⟨k, hk⟩ := List.mem_iff_getElem?.1 hi
  obtain ⟨c, h1, h2, -⟩ := h.at_ k i hk
  exact ⟨c, h1, h2⟩
theorem snoc_at {α : Type} {R : List α} {a b : α} {j : Nat} (h : (R ++ [a])[j]? = some b) : R[j]? = some b ∨ j = R.length ∧ a = b := by
  by_cases hj : j < R.length
  · rw [List.getElem?_append_left hj] at h; exact .inl h
  · rw [List.getElem?_append_right (by omega)] at h
    by_cases h0 : j - R.length = 0
    · rw [h0] at h; simp at h; exact .inr ⟨by omega, h⟩
    · rw [List.getElem?_eq_none (by simp; omega)] at h; cases h
section
variable {x0 y z : Rp} {R : List (Option (List Nat))} {bss : List (List Int)} {m : Nat}
theorem Recs.skip (h : Recs x0 y R bss m) : Recs x0 y (R ++ [none]) bss m := by
  refine ⟨h.like, fun j l hj => ?_, fun j1 j2 l1 l2 h1 h2 hne => ?_, by rw [totN_snoc]; exact h.used, h.slack⟩
  · rcases snoc_at hj with e | ⟨-, e⟩
    · exact h.st j l e
    · cases e
  · rcases snoc_at h1 with e1 | ⟨-, e1⟩
    · rcases snoc_at h2 with e2 | ⟨-, e2⟩
      · exact h.dis j1 j2 l1 l2 e1 e2 hne
      · cases e2
    · cases e1
theorem Recs.put (h : Recs x0 y R bss m) {l : List Nat} {bs : List Int} (hp : PutRel y z l bs) (hb : bss[R.length]? = some bs) (hl : 1 ≤ bs.length ∧ bs.length ≤ 500) (hby : ∀ q ∈ bs, 0 ≤ q ∧ q ≤ 255) : Recs x0 z (R ++ [some l]) bss (m + l.length) := by
  have hno : ∀ (j : Nat) l', R[j]? = some (some l') → ∀ i ∈ l', i ∉ l := fun j l' hj i hi hi2 => by
    obtain ⟨bs', -, -, -, -, hs⟩ := h.st j l' hj
    obtain ⟨c, h1, h2⟩ := hs.use hi
    rw [hp.was i hi2] at h1
    cases h1
    cases h2
  refine ⟨h.like.trans hp.like, fun j l' hj => ?_, fun j1 j2 l1 l2 h1 h2 hne i hi => ?_, by rw [totN_snoc, hp.used, h.used]; rfl, ?_⟩
  · rcases snoc_at hj with e | ⟨rfl, e⟩
    · obtain ⟨bs', h1, h2, h3, h4, h5⟩ := h.st j l' e
      exact ⟨bs', h1, h2, h3, h4, h5.keep hp.like.sz fun i hi => hp.else_ i (hno j l' e i hi)⟩
    · cases e
      exact ⟨bs, hb, hl.1, hl.2, hby, hp.stands⟩
  · rcases snoc_at h1 with e1 | ⟨rfl, e1⟩
    · rcases snoc_at h2 with e2 | ⟨rfl, e2⟩
      · exact h.dis j1 j2 l1 l2 e1 e2 hne i hi
      · cases e2
        exact hno j1 l1 e1 i hi
    · cases e1
      rcases snoc_at h2 with e2 | ⟨rfl, e2⟩
      · exact fun hi2 => hno j2 l2 e2 i hi2 hi
      · exact absurd rfl hne
  · have h1 := h.slack
    have h2 := hp.slack
    omega
theorem Recs.del (h : Recs x0 y R bss m) {l : List Nat} {k : Nat} (hk : R[k]? = some (some l)) (hf : Freed y z l) : Recs x0 z (R.set k none) bss m := by
  have hkl : k < R.length := (List.getElem?_eq_some_iff.1 hk).1
  have hset : ∀ (j : Nat) l', (R.set k none)[j]? = some (some l') → R[j]? = some (some l') ∧ j ≠ k := fun j l' hj => by
    by_cases e : k = j
    · subst e
      rw [List.getElem?_set_self hkl] at hj
      cases hj
    · rw [List.getElem?_set_ne e] at hj
      exact ⟨hj, Ne.symm e⟩
  have ht := totN_set R k l hk
  refine ⟨h.like.trans hf.like, fun j l' hj => ?_, fun j1 j2 l1 l2 h1 h2 hne => ?_, ?_, ?_⟩
  · obtain ⟨e1, e2⟩ := hset j l' hj
    obtain ⟨bs', h1, h2, h3, h4, h5⟩ := h.st j l' e1
    exact ⟨bs', h1, h2, h3, h4, h5.keep hf.like.sz fun i hi => hf.else_ i (h.dis j k l' l e1 hk e2 i hi)⟩
  · exact h.dis j1 j2 l1 l2 (hset _ _ h1).1 (hset _ _ h2).1 hne
  · have h1 := hf.used
    rw [h.used] at h1
    omega
  · have h1 := hf.slack
    have h2 := h.slack
    omega
theorem Recs.tot (h : Recs x0 y R bss m) (hz : x0.sz = 64) : totN R ≤ 9 * R.length := by
  have : ∀ (S : List (Option (List Nat))), (∀ l, some l ∈ S → l.length ≤ 9) → totN S ≤ 9 * S.length := by
    intro S
    induction S with
    | nil => intro _; simp [totN]
    | cons o S ih =>
      intro hS
      have h1 := ih fun l hl => hS l (List.mem_cons_of_mem _ hl)
      have h2 : (o.getD []).length ≤ 9 := by
        cases o with
        | none => simp
        | some l => exact hS l List.mem_cons_self
      simp only [totN, List.map_cons, List.sum_cons, List.length_cons] at h1 ⊢
      omega
  refine this R fun l hl => ?_
  obtain ⟨j, hj⟩ := List.mem_iff_getElem?.1 hl
  obtain ⟨bs, -, h1, h2, -, h3⟩ := h.st j l hj
  rw [h3.len, h.like.sz, hz]
  unfold partsN
  omega
end
end Go.Proofs.YtjlfnebkibgfmaaDoor

/- What a law's arguments are, opened: a slice of whatever element, record by record. No program stands in this text. -/
namespace Go.Proofs.YtjlfnebkibgfmaaDoor
open Go.ChangeShapes Go.WideShapes Go.ChangeAt Go.RowKit Go.Deep

theorem choose_list {α : Type} (P : Nat → α → Prop) : ∀ (n : Nat), (∀ i, i < n → ∃ x, P i x) → ∃ l : List α, l.length = n ∧ ∀ i x, l[i]? = some x → P i x
  | 0, _ => ⟨[], rfl, fun i x h => by simp at h⟩
  | n + 1, h => by
    obtain ⟨l, hl, hp⟩ := choose_list P n (fun i hi => h i (by omega))
    obtain ⟨x, hx⟩ := h n (by omega)
    refine ⟨l ++ [x], by simp [hl], fun i y hy => ?_⟩
    by_cases hi : i < l.length
    · rw [List.getElem?_append_left hi] at hy
      exact hp i y hy
    · rw [List.getElem?_append_right (by omega)] at hy
      have h0 : i - l.length = 0 := by
        rcases Nat.eq_zero_or_pos (i - l.length) with h0 | h0
        · exact h0
        · rw [List.getElem?_eq_none (by simp; omega)] at hy; cases hy
      rw [h0] at hy
      simp at hy
      subst hy
      obtain rfl : i = n := by omega
      exact hx

theorem wf_bounds {n : Int} (h : (Lit.int .i64 n).wf = true) : -9223372036854775808 ≤ n ∧ n ≤ 9223372036854775807 := by
  simpa [Lit.wf, IntKind.min, IntKind.max, IntKind.signed, IntKind.bits] using h

section
variable {H : Type} {enc : TypeId × Value → H} {P : Program} {w : World} {base : Nat} {spare : Nat → Bool} {held : Bool}

/-- A slice whose elements have s cells each: for each element its cells, and that they read. -/
theorem open_elems {t e : TypeId} {fuel s len cap : Nat} {A : Option Addr} {x : DataW H × List MemPlace} (ht : P.underlying t = some (.slice e)) (hC : P.cellsOf e = s) (hs : 0 < s)
    (h : DataW.trod enc P w base spare held fuel t [.slice A len cap] = some x) :
    len ≤ maxLen ∧ (len = 0 ∨ ∃ b off, A = some ⟨b, off, none⟩ ∧ b < w.heap.size ∧ ∀ i, i < len → ∃ (cs : List Value) (n : Nat) (y : DataW H × List MemPlace), cs.length = s ∧ (∀ j, j < s → w.cell? ⟨b, off + (i * s + j), none⟩ = cs[j]?) ∧ DataW.trod enc P w base spare held n e cs = some y) := by
  rcases open_slice ht h with ⟨hcs, _⟩ | ⟨a, len', cap', m, n, D, Pl, hcs, hb, hl, hm, hmm, hx, hi⟩
  · simp at hcs
    obtain ⟨rfl, rfl, rfl⟩ := hcs
    exact ⟨Nat.zero_le _, .inl rfl⟩
  · simp at hcs
    obtain ⟨rfl, rfl, rfl⟩ := hcs
    refine ⟨Nat.le_trans hl hm, ?_⟩
    rcases Nat.eq_zero_or_pos len with h0 | h0
    · exact .inl h0
    right
    have hlm : len ≤ m := by rw [hmm]; split <;> omega
    obtain ⟨b, off, spot⟩ := a
    have cellAt : ∀ i, i < len → ∃ cs' y, cs'.length = s ∧ (∀ j, j < s → w.cell? (Addr.add ⟨b, off, spot⟩ (i * s + j)) = cs'[j]?) ∧ DataW.trod enc P w base spare held n e cs' = some y := by
      intro i hil
      obtain ⟨cs', hc, ht'⟩ := hi i (by omega)
      rw [hC] at hc
      obtain ⟨_, hcl, hat⟩ := World.cells?_some hc
      refine ⟨cs', _, hcl, fun j hj => ?_, ht'⟩
      rw [← hat j hj]
      congr 1
      unfold Addr.add
      by_cases h1 : i * s = 0 <;> by_cases h2 : j = 0 <;> simp [h1, h2, Nat.add_assoc]
    have hspot : spot = none := by
      obtain ⟨cs', y, hcl, hat, _⟩ := cellAt 0 h0
      have := hat 0 hs
      have h0' : cs'[0]? = some (cs'[0]'(by omega)) := List.getElem?_eq_getElem (by omega)
      rw [h0'] at this
      simpa [Addr.add] using World.cell?_spot this
    subst hspot
    refine ⟨b, off, rfl, ?_, fun i hil => ?_⟩
    · obtain ⟨cs', y, hcl, hat, _⟩ := cellAt 0 h0
      have := hat 0 hs
      have h0' : cs'[0]? = some (cs'[0]'(by omega)) := List.getElem?_eq_getElem (by omega)
      rw [h0'] at this
      simpa [Addr.add] using World.block_lt_of_cell? w _ this
    · obtain ⟨cs', y, hcl, hat, ht'⟩ := cellAt i hil
      refine ⟨cs', n, y, hcl, fun j hj => ?_, ht'⟩
      have := hat j hj
      rw [Addr.add_lit] at this
      exact this
end

end Go.Proofs.YtjlfnebkibgfmaaDoor

/- A law's argument that is a slice of bytes. No program stands in this text. -/
namespace Go.Proofs.YtjlfnebkibgfmaaDoor
open Go.ChangeShapes Go.WideShapes Go.ChangeAt Go.RowKit Go.Deep

theorem wf_byte {n : Int} (h : (Lit.int .u8 n).wf = true) : 0 ≤ n ∧ n ≤ 255 := by
  simpa [Lit.wf, IntKind.min, IntKind.max, IntKind.signed, IntKind.bits] using h

theorem bytes_opened {H : Type} {enc : TypeId × Value → H} {P : Program} {w : World} {base : Nat} {spare : Nat → Bool} {held : Bool} {t e : TypeId} {fuel len cap : Nat} {A : Option Addr} {x : DataW H × List MemPlace}
    (ht : P.underlying t = some (.slice e)) (he : P.underlying e = some (.int .u8)) (hC : P.cellsOf e = 1) (h : DataW.trod enc P w base spare held fuel t [.slice A len cap] = some x) :
    ∃ l : List Int, len = l.length ∧ len ≤ maxLen ∧ Sl w 1 A l.length (l.map (Value.int .u8)) ∧ ∀ n ∈ l, 0 ≤ n ∧ n ≤ 255 := by
  obtain ⟨hm, hc⟩ := open_elems ht (s := 1) hC (by omega) h
  rcases hc with rfl | ⟨b, off, rfl, hb, hi⟩
  · exact ⟨[], rfl, hm, Sl.nil _ _ _, fun r hr => by cases hr⟩
  · obtain ⟨l, hl, hp⟩ := choose_list (fun i (r : Int) => (0 ≤ r ∧ r ≤ 255) ∧ w.cell? ⟨b, off + i, none⟩ = some (.int .u8 r)) len (fun i hil => by
      obtain ⟨cs, n, y, hcl, hat, hT⟩ := hi i hil
      match cs, hcl with
      | [c], _ =>
        obtain ⟨r, e1, -, w1⟩ := DataW.trod_int he hT
        simp at e1
        subst e1
        have := hat 0 (by omega)
        exact ⟨r, wf_byte w1, by simpa using this⟩)
    refine ⟨l, hl.symm, hm, ⟨by simp, fun _ => ⟨b, off, rfl, hb, fun j u hu => ?_⟩⟩, fun r hr => ?_⟩
    · rw [List.getElem?_map] at hu
      cases hj : l[j]? with
      | none => rw [hj] at hu; cases hu
      | some r => rw [hj] at hu; simp at hu; subst hu; exact (hp j r hj).2
    · obtain ⟨i, hi, rfl⟩ := List.getElem_of_mem hr
      exact (hp i _ (List.getElem?_eq_getElem hi)).1

end Go.Proofs.YtjlfnebkibgfmaaDoor

/- A law's argument that is a slice of slices of bytes. -/
namespace Go.Proofs.YtjlfnebkibgfmaaDoor
open Go.ChangeShapes Go.WideShapes Go.ChangeAt Go.RowKit Go.Deep

/-- A slice of bytes, as it is handed. -/
structure SB where
  a : Option Addr
  c : Nat
  l : List Int
def SB.val (x : SB) : Value := .slice x.a x.l.length x.c
def SB.ok (w : World) (x : SB) : Prop := Sl w 1 x.a x.l.length (bv x.l) ∧ x.l.length ≤ x.c ∧ x.c ≤ maxLen ∧ ∀ q ∈ x.l, 0 ≤ q ∧ q ≤ 255
theorem SB.ok.grew {w w' : World} {x : SB} (h : x.ok w) (hg : Grew w w') : x.ok w' := ⟨h.1.grew hg, h.2⟩
section
variable {H : Type} {enc : TypeId × Value → H} {P : Program} {w : World} {base : Nat} {spare : Nat → Bool} {held : Bool}
theorem SB.of_trod {t e : TypeId} {fuel : Nat} {v : Value} {x : DataW H × List MemPlace} (ht : P.underlying t = some (.slice e)) (he : P.underlying e = some (.int .u8)) (hC : P.cellsOf e = 1) (h : DataW.trod enc P w base spare held fuel t [v] = some x) :
    ∃ s : SB, v = s.val ∧ s.ok w := by
  have h1 := h
  rcases open_slice ht h with ⟨hcs, _⟩ | ⟨a, len, cap, m, n, D, Pl, hcs, hb, hl, hm, _⟩
  · simp at hcs
    subst hcs
    exact ⟨⟨none, 0, []⟩, rfl, Sl.nil _ _ _, Nat.le_refl _, Nat.zero_le _, fun q hq => by simp at hq⟩
  · simp at hcs
    subst hcs
    obtain ⟨l, rfl, -, h2, h3⟩ := bytes_opened ht he hC h1
    exact ⟨⟨some a, cap, l⟩, rfl, h2, hl, hm, h3⟩
end
theorem SB.opened {H : Type} {enc : TypeId × Value → H} {w : World} {base fuel len cap : Nat} {spare : Nat → Bool} {held : Bool} {A : Option Addr} {x : DataW H × List MemPlace} (h : DataW.trod enc Tryd.prog w base spare held fuel 47 [.slice A len cap] = some x) :
    ∃ l : List SB, len = l.length ∧ len ≤ maxLen ∧ Sl w 1 A l.length (l.map SB.val) ∧ ∀ r ∈ l, r.ok w := by
  obtain ⟨hm, hc⟩ := open_elems Tryd.underlying47 (s := 1) (by kernel_rfl) (by omega) h
  rcases hc with rfl | ⟨b, off, rfl, hb, hi⟩
  · exact ⟨[], rfl, hm, Sl.nil _ _ _, fun r hr => by cases hr⟩
  · obtain ⟨l, hl, hp⟩ := choose_list (fun i (r : SB) => r.ok w ∧ w.cell? ⟨b, off + i, none⟩ = some r.val) len (fun i hil => by
      obtain ⟨cs, n, y, hcl, hat, hT⟩ := hi i hil
      match cs, hcl with
      | [c], _ =>
        obtain ⟨r, rfl, hok⟩ := SB.of_trod Tryd.underlying29 Tryd.underlying5 (by kernel_rfl) hT
        have := hat 0 (by omega)
        exact ⟨r, hok, by simpa using this⟩)
    refine ⟨l, hl.symm, hm, ⟨by simp, fun _ => ⟨b, off, rfl, hb, fun j u hu => ?_⟩⟩, fun r hr => ?_⟩
    · rw [List.getElem?_map] at hu
      cases hj : l[j]? with
      | none => rw [hj] at hu; cases hu
      | some r => rw [hj] at hu; simp at hu; subst hu; exact (hp j r hj).2
    · obtain ⟨i, hi, rfl⟩ := List.getElem_of_mem hr
      exact (hp i _ (List.getElem?_eq_getElem hi)).1

/-- What ChainReads is handed for a page. -/
structure Wrt where
  kind : Int
  next : Int
  many : Int
  data : SB
def Wrt.vals (x : Wrt) : List Value := [.int .i64 x.kind, .int .i64 x.next, .int .i64 x.many, x.data.val]
def Wrt.ok (w : World) (x : Wrt) : Prop := (-9223372036854775808 ≤ x.kind ∧ x.kind ≤ 9223372036854775807) ∧ (-9223372036854775808 ≤ x.next ∧ x.next ≤ 9223372036854775807) ∧ (-9223372036854775808 ≤ x.many ∧ x.many ≤ 9223372036854775807) ∧ x.data.ok w
theorem Wrt.vals_len (l : List Wrt) : (l.flatMap Wrt.vals).length = l.length * 4 := by
  induction l with
  | nil => rfl
  | cons x l ih => rw [List.flatMap_cons, List.length_append, ih, List.length_cons]; simp only [Wrt.vals, List.length_cons, List.length_nil]; omega
theorem Wrt.vals_at (l : List Wrt) : ∀ (k : Nat) (x : Wrt), l[k]? = some x → ∀ j, j < 4 → (l.flatMap Wrt.vals)[k * 4 + j]? = x.vals[j]? := by
  induction l with
  | nil => intro k x h; simp at h
  | cons y l ih =>
    intro k x h j hj
    cases k with
    | zero =>
      simp only [List.getElem?_cons_zero, Option.some.injEq] at h
      subst h
      rw [List.flatMap_cons, Nat.zero_mul, Nat.zero_add, List.getElem?_append_left (by simp [Wrt.vals]; omega)]
    | succ k =>
      simp only [List.getElem?_cons_succ] at h
      rw [List.flatMap_cons, List.getElem?_append_right (by simp [Wrt.vals]; omega)]
      rw [← ih k x h j hj]
      congr 1
      simp [Wrt.vals]
      omega
theorem Sl.atWrt {w : World} {A : Option Addr} {l : List Wrt} (h : Sl w 4 A l.length (l.flatMap Wrt.vals)) {k : Nat} {x : Wrt} (hx : l[k]? = some x) :
    ∃ b off, A = some ⟨b, off, none⟩ ∧ b < w.heap.size ∧ w.cell? ⟨b, off + k * 4, none⟩ = some (.int .i64 x.kind) ∧ w.cell? ⟨b, off + k * 4 + 1, none⟩ = some (.int .i64 x.next) ∧ w.cell? ⟨b, off + k * 4 + 2, none⟩ = some (.int .i64 x.many) ∧ w.cell? ⟨b, off + k * 4 + 3, none⟩ = some x.data.val := by
  have hk : k < l.length := (List.getElem?_eq_some_iff.1 hx).1
  obtain ⟨b, off, hA, hb, hc⟩ := h.2 (by omega)
  have hv := Wrt.vals_at l k x hx
  refine ⟨b, off, hA, hb, ?_, ?_, ?_, ?_⟩
  · have := hc (k * 4 + 0) _ ((hv 0 (by omega)).trans rfl); simpa [Nat.add_assoc] using this
  · have := hc (k * 4 + 1) _ ((hv 1 (by omega)).trans rfl); simpa [Nat.add_assoc] using this
  · have := hc (k * 4 + 2) _ ((hv 2 (by omega)).trans rfl); simpa [Nat.add_assoc] using this
  · have := hc (k * 4 + 3) _ ((hv 3 (by omega)).trans rfl); simpa [Nat.add_assoc] using this
set_option maxRecDepth 100000 in
theorem Wrt.of_trod {H : Type} {enc : TypeId × Value → H} {w : World} {base n : Nat} {spare : Nat → Bool} {held : Bool} {cs : List Value} {y : DataW H × List MemPlace} (hl : cs.length = 4) (h : DataW.trod enc Tryd.prog w base spare held n 31 cs = some y) : ∃ r : Wrt, cs = r.vals ∧ r.ok w := by
  obtain ⟨xs, n, _, _, _, hlen, hf⟩ := DataW.trod_struct Tryd.underlying31 h
  match cs, hl with
  | [c0, c1, c2, c3], _ =>
    match xs, hlen with
    | [y0, y1, y2, y3], _ =>
      have f0 : DataW.trod enc Tryd.prog w base spare held n 3 (([c0, c1, c2, c3].drop 0).take (Tryd.prog.cellsOf 3)) = some y0 := hf 0 _ rfl
      rw [show Tryd.prog.cellsOf 3 = 1 from by kernel_rfl] at f0
      have f1 : DataW.trod enc Tryd.prog w base spare held n 3 (([c0, c1, c2, c3].drop 1).take (Tryd.prog.cellsOf 3)) = some y1 := hf 1 _ rfl
      rw [show Tryd.prog.cellsOf 3 = 1 from by kernel_rfl] at f1
      have f2 : DataW.trod enc Tryd.prog w base spare held n 3 (([c0, c1, c2, c3].drop 2).take (Tryd.prog.cellsOf 3)) = some y2 := hf 2 _ rfl
      rw [show Tryd.prog.cellsOf 3 = 1 from by kernel_rfl] at f2
      have f3 : DataW.trod enc Tryd.prog w base spare held n 29 (([c0, c1, c2, c3].drop 3).take (Tryd.prog.cellsOf 29)) = some y3 := hf 3 _ rfl
      rw [show Tryd.prog.cellsOf 29 = 1 from by kernel_rfl] at f3
      obtain ⟨n0, e0, -, w0⟩ := DataW.trod_int Tryd.underlying3 f0
      simp at e0
      subst e0
      obtain ⟨n1, e1, -, w1⟩ := DataW.trod_int Tryd.underlying3 f1
      simp at e1
      subst e1
      obtain ⟨n2, e2, -, w2⟩ := DataW.trod_int Tryd.underlying3 f2
      simp at e2
      subst e2
      obtain ⟨s, rfl, hok⟩ := SB.of_trod Tryd.underlying29 Tryd.underlying5 (by kernel_rfl) (show DataW.trod enc Tryd.prog w base spare held n 29 [c3] = some y3 from f3)
      exact ⟨⟨n0, n1, n2, s⟩, rfl, wf_bounds w0, wf_bounds w1, wf_bounds w2, hok⟩
theorem Wrt.opened {H : Type} {enc : TypeId × Value → H} {w : World} {base fuel len cap : Nat} {spare : Nat → Bool} {held : Bool} {A : Option Addr} {x : DataW H × List MemPlace} (h : DataW.trod enc Tryd.prog w base spare held fuel 25 [.slice A len cap] = some x) :
    ∃ l : List Wrt, len = l.length ∧ len ≤ maxLen ∧ Sl w 4 A l.length (l.flatMap Wrt.vals) ∧ ∀ r ∈ l, r.ok w := by
  obtain ⟨hm, hc⟩ := open_elems Tryd.underlying25 (s := 4) (by kernel_rfl) (by omega) h
  rcases hc with rfl | ⟨b, off, rfl, hb, hi⟩
  · exact ⟨[], rfl, hm, Sl.nil _ _ _, fun r hr => by cases hr⟩
  · obtain ⟨l, hl, hp⟩ := choose_list (fun i (r : Wrt) => r.ok w ∧ ∀ j u, r.vals[j]? = some u → w.cell? ⟨b, off + (i * 4 + j), none⟩ = some u) len (fun i hil => by
      obtain ⟨cs, n, y, hcl, hat, hT⟩ := hi i hil
      obtain ⟨r, rfl, hok⟩ := Wrt.of_trod hcl hT
      refine ⟨r, hok, fun j u hu => ?_⟩
      have hj : j < 4 := by rw [← hcl]; exact (List.getElem?_eq_some_iff.1 hu).1
      rw [hat j hj, hu])
    refine ⟨l, hl.symm, hm, ⟨Wrt.vals_len l, fun _ => ⟨b, off, rfl, hb, fun j u hu => ?_⟩⟩, fun r hr => ?_⟩
    · have hj : j < l.length * 4 := by rw [← Wrt.vals_len l]; exact (List.getElem?_eq_some_iff.1 hu).1
      have hi' : j / 4 < l.length := by omega
      have hr : l[j / 4]? = some l[j / 4] := List.getElem?_eq_getElem hi'
      have he : j = j / 4 * 4 + j % 4 := by omega
      have hv := Wrt.vals_at l (j / 4) _ hr (j % 4) (by omega)
      rw [← he, hu] at hv
      have := (hp (j / 4) _ hr).2 (j % 4) u hv.symm
      rwa [← he] at this
    · obtain ⟨i, hi, rfl⟩ := List.getElem_of_mem hr
      exact (hp i _ (List.getElem?_eq_getElem hi)).1

end Go.Proofs.YtjlfnebkibgfmaaDoor

/- The chain's law ChainPuts, walked. -/
namespace Go.Proofs.YtjlfnebkibgfmaaDoor
open Go.RowKit Go.Maps

set_option maxHeartbeats 800000 in
theorem cput_empty (p : Nat) (A : Option Addr) (c : Nat) (w : World) :
    Calls Tryd.prog 16 #[.pointer (some ⟨p, 0, none⟩), .slice A 0 c] w fun e w' => e = .returned (.tuple #[.int .i64 0, .int .i64 11]) ∧ Grew w w' := by
  obtain ⟨a0, ha0⟩ : ∃ a0, w.heap.size = a0 := ⟨_, rfl⟩
  obtain ⟨W3, hW3⟩ : ∃ W, ((w.alloc (.cells #[.pointer (some ⟨p, 0, none⟩)] 26)).alloc (.cells #[.int .i64 0] 3)).alloc (.cells #[.int .i64 0] 33) = W := ⟨_, rfl⟩
  have hg : Grew w W3 := hW3 ▸ (((Chg.refl _ _).alloc _).alloc _).alloc _
  have hb1 : Blk W3 (a0 + 1) 3 #[.int .i64 0] := by
    subst hW3 ha0
    have := (Blk.new (w.alloc (.cells #[.pointer (some ⟨p, 0, none⟩)] 26)) 3 #[.int .i64 0]).alloc (.cells #[.int .i64 0] 33)
    simpa using this
  have hb2 : Blk W3 (a0 + 2) 33 #[.int .i64 0] := by
    subst hW3 ha0
    have := Blk.new ((w.alloc (.cells #[.pointer (some ⟨p, 0, none⟩)] 26)).alloc (.cells #[.int .i64 0] 3)) 33 #[.int .i64 0]
    simpa using this
  obtain ⟨c1, f1, s1⟩ := hb1.facts
  obtain ⟨c2, f2, s2⟩ := hb2.facts
  have H := Lib.hid (And.intro hg (And.intro hb1 (And.intro hb2 ha0)))
  clear hg hb1 hb2
  (refine calls_of_marks Tryd.func16 rfl ?_; simp only [Tryd.ntmps16, List.size_toArray, List.length_cons, List.length_nil, Nat.reduceAdd, Nat.reduceSub, Array.replicate_succ, Array.replicate_zero, List.push_toArray, List.append_toArray, List.nil_append, List.cons_append])
  go_wp2_with (first | (rw [hW3]) | (rw [ha0]))
  have hc : Chg (fun j => j = a0 + 1 ∨ j = a0 + 2) W3 ((W3.setCell ⟨a0 + 1, 0, none⟩ (.int .i64 0)).setCell ⟨a0 + 2, 0, none⟩ (.int .i64 11)) := ((Chg.refl (fun j => j = a0 + 1 ∨ j = a0 + 2) _).setCell (p := ⟨a0 + 1, 0, none⟩) (fun _ => .inl rfl) _).setCell (p := ⟨a0 + 2, 0, none⟩) (fun _ => .inr rfl) _
  have k1 : ((W3.setCell ⟨a0 + 1, 0, none⟩ (.int .i64 0)).setCell ⟨a0 + 2, 0, none⟩ (.int .i64 11)).cell? ⟨a0 + 1, 0, none⟩ = some (.int .i64 0) := by
    have := ((H.out.2.1.put 0 (.int .i64 0)).far (p := ⟨a0 + 2, 0, none⟩) (by simp) (.int .i64 11)).cell 0
    simpa using this
  have k2 : ((W3.setCell ⟨a0 + 1, 0, none⟩ (.int .i64 0)).setCell ⟨a0 + 2, 0, none⟩ (.int .i64 11)).cell? ⟨a0 + 2, 0, none⟩ = some (.int .i64 11) := by
    have := ((H.out.2.2.1.far (p := ⟨a0 + 1, 0, none⟩) (by simp) (.int .i64 0)).put 0 (.int .i64 11)).cell 0
    simpa using this
  have k3 := ((H.out.2.1.put 0 (.int .i64 0)).far (p := ⟨a0 + 2, 0, none⟩) (by simp) (.int .i64 11)).frozen 0
  have k4 := ((H.out.2.2.1.far (p := ⟨a0 + 1, 0, none⟩) (by simp) (.int .i64 0)).put 0 (.int .i64 11)).frozen 0
  refine postM_ret0 (v := .tuple #[.int .i64 0, .int .i64 11]) (by simp [results, Tryd.results16, go_sem, k1, k2, k3, k4]) rfl ⟨rfl, Chg.trans H.out.1 hc fun i hi e => by have := H.out.2.2.2; omega⟩

/-- What lies there between two steps of the law. -/
structure PutsJ (w W : World) (p n : Nat) (y : Rp) (R S : List (Option (List Nat))) (bss : List (List Int)) (m : Nat) (v : Value) (F : Nat → Prop) : Prop where
  gp : GP W p F y
  gr : Grew w W
  nf : ∀ j, F j → w.heap.size ≤ j
  rcs : Recs (Rp.open0 n) y S bss m
  row : W.ownsRow w.heap.size 3 1 v R.length (iv (fiR R))
  rn : ∀ g, v.ownBlock = some g → ¬ F g
  w0 : 0 < w.heap.size
section
variable {w W W' : World} {p n m m' : Nat} {y z : Rp} {R S S' : List (Option (List Nat))} {bss : List (List Int)} {v v' : Value} {F F' : Nat → Prop}
theorem PutsJ.grew (h : PutsJ w W p n y R S bss m v F) (hg : Grew W W') : PutsJ w W' p n y R S bss m v F := ⟨h.gp.grew hg, Grew.trans h.gr hg, h.nf, h.rcs, own_grew h.row hg, h.rn, h.w0⟩
theorem PutsJ.to (h : PutsJ w W p n y R S bss m v F) (ht : GPTo W W' p F z) (hr : Recs (Rp.open0 n) z S' bss m') : ∃ F', PutsJ w W' p n z R S' bss m' v F' := by
  obtain ⟨F', h1, h2, h3⟩ := ht
  have hz := h.gr.size
  exact ⟨F', h1, chg_new h.gr h2 h.nf, fun j hj => (h3 j hj).elim (h.nf j) fun e => by omega, hr, own_chg h.row h2 h.rn, fun g hg e => (h3 g e).elim (h.rn g hg) fun e => by have := (h.row.lt g hg).2; omega, h.w0⟩
theorem PutsJ.far (h : PutsJ w W p n y R S bss m v F) (hc : Chg F W W') (hg : GP W' p F y) : PutsJ w W' p n y R S bss m v F := ⟨hg, chg_new h.gr hc h.nf, h.nf, h.rcs, own_chg h.row hc h.rn, h.rn, h.w0⟩
end
theorem PutsJ.with {w W : World} {p n m m' : Nat} {y : Rp} {R S S' : List (Option (List Nat))} {bss : List (List Int)} {v : Value} {F : Nat → Prop} (h : PutsJ w W p n y R S bss m v F) (hr : Recs (Rp.open0 n) y S' bss m') : PutsJ w W p n y R S' bss m' v F := ⟨h.gp, h.gr, h.nf, hr, h.row, h.rn, h.w0⟩
theorem PutsJ.push {w W W' : World} {p n m : Nat} {y : Rp} {R : List (Option (List Nat))} {bss : List (List Int)} {v v' : Value} {F : Nat → Prop} {o : Option (List Nat)} (h : PutsJ w W p n y R (R ++ [o]) bss m v F) (ho : W'.ownsRow w.heap.size 3 1 v' (R.length + 1) (iv (fiR R) ++ [.int .i64 (fi1 o)])) (ha : Ap W W' v v') : PutsJ w W' p n y (R ++ [o]) (R ++ [o]) bss m v' F := by
  have hlt := h.gp.lt
  refine ⟨h.gp.chg ha.chg (fun j hj e => h.rn j e hj) (fun e => by have h1 := (h.row.lt 0 e).1; have h2 := h.w0; omega), ha.grow h.gr fun j hj => (h.row.lt j hj).1, h.nf, h.rcs, ?_, fun g hg e => ?_, h.w0⟩
  · have e : (R ++ [o]).length = R.length + 1 := by simp
    rw [e, fiR_snoc]
    simpa [iv, fiR] using ho
  · rcases ha.at_ g hg with e1 | e1
    · exact h.rn g e1 e
    · have := hlt g e; omega
theorem PutsJ.unset {w W W' : World} {p n m g1 c1 N : Nat} {y : Rp} {R S : List (Option (List Nat))} {bss : List (List Int)} {F : Nat → Prop} {l : List Nat} (h : PutsJ w W p n y R S bss m (.slice (some ⟨g1, 0, none⟩) N c1) F) (j : Nat) (hN : R.length = N) (hj : R[j]? = some (some l)) (hW : W.setCell ⟨g1, j, none⟩ (.int .i64 (-1)) = W') : PutsJ w W' p n y (R.set j none) S bss m (.slice (some ⟨g1, 0, none⟩) N c1) F := by
  have hc : Chg (fun q => q = g1) W W' := hW ▸ (Chg.refl (fun q => q = g1) W).setCell (p := ⟨g1, j, none⟩) (fun _ => rfl) _
  have hg1 := (h.row.lt g1 rfl).1
  have hw0 := h.w0
  refine ⟨h.gp.chg hc (fun q hq e => h.rn g1 rfl (e ▸ hq)) (by omega), Chg.trans h.gr hc fun i hi e => by omega, h.nf, h.rcs, ?_, h.rn, h.w0⟩
  subst hN
  have := own_word (j := j) h.row (.int .i64 (-1))
  rw [hW] at this
  rw [List.length_set]
  rw [show iv (fiR (R.set j none)) = (iv (fiR R)).set j (.int .i64 (-1)) from by rw [← fiR_set]; simp [iv, List.map_set]]
  exact this
theorem fiR_at {R : List (Option (List Nat))} {k : Nat} {o : Option (List Nat)} (h : R[k]? = some o) : (iv (fiR R))[k]? = some (.int .i64 (fi1 o)) := by
  simp [iv, fiR, h]
theorem open0_120 : (Rp.open0 120).slack = 114 ∧ (Rp.open0 120).now.countP Pk.used = 0 ∧ (Rp.open0 120).now.length = 118 ∧ (Rp.open0 120).sz = 64 := ⟨by kernel_rfl, by kernel_rfl, by kernel_rfl, rfl⟩

set_option maxRecDepth 100000 in
set_option maxHeartbeats 6400000 in
theorem puts_walk (w : World) (hT : TabAt 0 tab w) (A : Option Addr) (c : Nat) (L : List SB) (hL : L.length ≤ maxLen) (hs : Sl w 1 A L.length (L.map SB.val)) (hok : ∀ r ∈ L, r.ok w)
    (B : Option Addr) (cb : Nat) (G : List Int) (hGl : G.length ≤ maxLen) (hG : Sl w 1 B G.length (iv G)) (hGb : ∀ g ∈ G, -9223372036854775808 ≤ g ∧ g ≤ 9223372036854775807) :
    Calls Tryd.prog 5 #[.slice A L.length c, .slice B G.length cb] w fun e w' => e = .returned (.bool true) ∧ Grew w w' := by
  have HA := Lib.hid (fun u (hg : Grew w u) => cawake_any u (tab_chg hT hg id))
  have hT0 := Lib.hid hT
  simp only [maxLen] at hL hGl
  have hL1 : L.length ≤ 9223372036854775807 := by omega
  have hG1 : G.length ≤ 9223372036854775807 := by omega
  have H := Lib.hid (And.intro hs (And.intro hok (And.intro hG hGb)))
  clear hT hs hok hG hGb hL hGl
  by_cases hg : 8 < L.length ∨ 12 < G.length
  · have t0 : decide ((8 : Int) < (L.length : Int)) = true ∨ decide ((8 : Int) < (L.length : Int)) = false ∧ decide ((12 : Int) < (G.length : Int)) = true := by
      by_cases a : 8 < L.length
      · exact .inl (decide_eq_true (by omega))
      · exact .inr ⟨decide_eq_false (by omega), decide_eq_true (by omega)⟩
    clear hg
    rcases t0 with t1 | ⟨t1, t2⟩
    all_goals
      go_enter Tryd.func5, Tryd.ntmps5
      go_wp2_with (go_at_call 7; (refine (HA.out _ (Chg.refl _ _)).mono ?_); rintro e w2 ⟨rfl, hg2⟩; have H2 := Lib.hid hg2; clear hg2)
      go_ret
      exact ⟨rfl, H2.out⟩
  · have t1 : decide ((8 : Int) < (L.length : Int)) = false := decide_eq_false (by omega)
    have t2 : decide ((12 : Int) < (G.length : Int)) = false := decide_eq_false (by omega)
    have hL8 : L.length ≤ 8 := by omega
    have hG12 : G.length ≤ 12 := by omega
    clear hg hL1 hG1
    have o120 := Lib.hid open0_120
    obtain ⟨bss, hbss⟩ : ∃ b, L.map SB.l = b := ⟨_, rfl⟩
    have Hb := Lib.hid hbss
    clear hbss
    go_enter Tryd.func5, Tryd.ntmps5
    go_wp2_with fail
    refine (fresh_any 120 _ hT0.out (by omega) (by omega)).mono ?_
    rintro e w1 ⟨p, F, rfl, hp, hg1, hn1⟩
    have hJ0 : PutsJ w w1 p 120 (Rp.open0 120) [] [] bss 0 (.slice none 0 0) F := ⟨hp, hg1, hn1, ⟨.refl _, fun j l h => by simp at h, fun j1 j2 l1 l2 h => by simp at h, o120.out.2.1, by simp⟩, World.ownsRow_nil _ _ _ _, fun g hg => by simp [Value.ownBlock] at hg, tab_pos hT0.out⟩
    have HJ0 := Lib.hid hJ0
    clear hp hg1 hn1 hJ0
    go_wp2_with fail
    go_loopg [6, 7, 30] L.length (fun q f u v wr => ∃ (k : Nat) (R : List (Option (List Nat))) (y : Rp) (F : Nat → Prop), q = L.length - k ∧ k ≤ L.length ∧ R.length = k ∧ u = .int .i64 (totN R) ∧ v = .int .i64 k ∧ PutsJ w wr p 120 y R R bss (totN R) f F)
    case atStart => exact ⟨0, [], _, F, rfl, Nat.zero_le _, rfl, rfl, rfl, HJ0.out⟩
    case round =>
      obtain ⟨k, R, y, F1, rfl, hk, hRk, rfl, rfl, hJ⟩ := hrel
      have HRk := Lib.hid hRk
      have HJ := Lib.hid hJ
      have htt := hJ.rcs.tot o120.out.2.2.2
      rw [hRk] at htt
      obtain ⟨tt, htot⟩ : ∃ t, totN R = t := ⟨_, rfl⟩
      rw [htot] at htt ⊢
      have Ht := Lib.hid htot
      clear hJ hRk htot
      by_cases hlt : k < L.length
      · obtain ⟨x, hx⟩ : ∃ x, L[k]? = some x := ⟨_, List.getElem?_eq_getElem hlt⟩
        obtain ⟨xa, xc, xl⟩ := x
        obtain ⟨gA, oA, rfl, hgA, hcA⟩ := H.out.1.2 (by omega)
        have hce : wr.cell? ⟨gA, oA + k, none⟩ = some (.slice xa xl.length xc) := (HJ.out.gr.cell (p := ⟨gA, oA + k, none⟩) hgA id).trans (hcA k _ (by rw [List.getElem?_map, hx]; rfl))
        have hok := (H.out.2.1 _ (List.mem_of_getElem? hx))
        obtain ⟨k1, k2, k3, k4⟩ := hok
        simp only at k1 k2 k3 k4
        have HX := Lib.hid (And.intro hx (And.intro k1 (And.intro k2 k4)))
        simp only [maxLen] at k3
        have hxl : xl.length ≤ 9223372036854775807 := by omega
        clear hx k1 k2 k3 k4 hcA
        by_cases h5 : 500 < xl.length
        · have t3 : decide ((500 : Int) < (xl.length : Int)) = true := decide_eq_true (by omega)
          clear h5
          go_wp2_with (go_at_call 7; (refine (HA.out _ HJ.out.gr).mono ?_); rintro e w2 ⟨rfl, hg2⟩; have H2 := Lib.hid hg2; clear hg2)
          go_ret
          exact ⟨rfl, Grew.trans HJ.out.gr H2.out⟩
        · have t3 : decide ((500 : Int) < (xl.length : Int)) = false := decide_eq_false (by omega)
          clear hxl
          by_cases h0 : xl.length = 0
          · obtain rfl : xl = [] := List.eq_nil_of_length_eq_zero h0
            simp only [List.length_nil] at hce t3 h5
            have hpe := cput_empty p xa xc wr
            have HPe := Lib.hid hpe
            clear h0 hpe h5
            go_wp2_with fail
            refine HPe.out.mono ?_
            rintro e w2 ⟨rfl, hg2⟩
            have HJ2 := Lib.hid (HJ.out.grew hg2)
            have hbw := HJ2.out.gr.size
            have hbw2 : w.heap.size ≤ w2.heap.size := hbw
            clear hg2 hce hbw
            go_wp2_with (at_builtin; refine app_int rfl _ _ rfl w.heap.size _ R.length (iv (fiR R)) rfl HJ2.out.row (-1) rfl (by have := HRk.out; omega) hbw2 ?_; intro v1 w3 hown1 hap1; have HO1 := Lib.hid (And.intro hown1 hap1); clear hown1 hap1)
            go_roundg (L.length - (k + 1))
            case measure => omega
            case rel => exact ⟨k + 1, R ++ [none], y, F1, rfl, by omega, by simp [HRk.out], by rw [totN_snoc, Ht.out]; simp, by simp, by rw [totN_snoc]; exact (HJ2.out.with HJ2.out.rcs.skip).push HO1.out.1 HO1.out.2⟩
          · have t4 : ((xl.length : Int) == 0) = false := by rw [beq_eq_false_iff_ne]; omega
            obtain ⟨g, off, rfl, hgw, -⟩ := HX.out.2.1.2 (by omega)
            have hput := cput_any p F1 y xl g off xc wr HJ.out.gp (by rw [HJ.out.rcs.like.was]; simp [Rp.open0, Rp.begun]) (by omega) (by omega) HX.out.2.2.2 HX.out.2.2.1 (HX.out.2.1.grew HJ.out.gr) (fun e => by have := HJ.out.nf g e; omega)
            have hpn : partsN xl.length 59 ≤ 9 := by unfold partsN; omega
            have hysz : y.sz - 5 = 59 := by rw [HJ.out.rcs.like.sz]; rfl
            have hen : y.enough (partsN xl.length (y.sz - 5)) := by
              have h1 := HJ.out.rcs.slack
              have h2 := HJ.out.rcs.used
              have h3 := HJ.out.rcs.like.len
              rw [o120.out.1, Ht.out] at h1
              rw [Ht.out] at h2
              rw [o120.out.2.2.1] at h3
              rw [hysz]
              exact ⟨by omega, by omega⟩
            have HPt := Lib.hid (And.intro hput (And.intro hen (And.intro hpn hysz)))
            clear hput hen hpn hysz
            go_wp2_with fail
            refine HPt.out.1.mono ?_
            rintro e w3 (⟨i0, l, z, rfl, hi0, hto, hrel⟩ | ⟨z, rfl, -, -, hne⟩)
            rotate_left
            · exact absurd HPt.out.2.1 hne
            have hll : l.length = partsN xl.length 59 := by rw [hrel.stands.len, hrel.like.sz, HPt.out.2.2.2]
            obtain ⟨F2, hJ3⟩ := HJ.out.to hto (HJ.out.rcs.put hrel (by rw [HRk.out, ← Hb.out, List.getElem?_map, HX.out.1]; rfl) ⟨by omega, by omega⟩ HX.out.2.2.2)
            have hbw3 : w.heap.size ≤ w3.heap.size := hJ3.gr.size
            have hf1 : fi1 (some l) = (i0 : Int) := by
              cases l with
              | nil => simp at hi0
              | cons a t => simp at hi0; subst hi0; rfl
            have HJ3 := Lib.hid (And.intro hJ3 (And.intro hll hf1))
            have h90 := HPt.out.2.2.1
            obtain ⟨pn, hpn⟩ : ∃ q, partsN xl.length 59 = q := ⟨_, rfl⟩
            rw [hpn] at h90
            have HPn := Lib.hid hpn
            clear hto hrel hJ3 hll hf1 hpn hce hi0
            go_wp2_with (at_builtin; refine app_int rfl _ _ rfl w.heap.size _ R.length (iv (fiR R)) rfl HJ3.out.1.row i0 rfl (by have := HRk.out; omega) hbw3 ?_; intro v1 w4 hown1 hap1; have hcv := conv_sl (c := xc) (HX.out.2.1.grew (show Grew w w4 from hap1.grow HJ3.out.1.gr fun j hj => (HJ3.out.1.row.lt j hj).1)) (by omega); have HO1 := Lib.hid (And.intro hown1 hap1); clear hown1 hap1)
            have hpa := xparts_any xl 59 w4 (by omega) (by omega) (by omega) (by omega)
            rw [HPn.out] at hpa
            have HPa := Lib.hid hpa
            clear hpa
            refine HPa.out.mono ?_
            clear hcv
            rintro e w5 ⟨A5, c5, rfl, -, hg5⟩
            have HG5 := Lib.hid hg5
            clear hg5
            go_wp2_with fail
            go_roundg (L.length - (k + 1))
            case measure => omega
            case rel =>
              have hll : l.length = pn := by rw [HJ3.out.2.1, HPn.out]
              refine ⟨k + 1, R ++ [some l], z, F2, rfl, by omega, by simp [HRk.out], by rw [totN_snoc, Ht.out]; simp [hll], by simp, ?_⟩
              have h1 := (HJ3.out.1.push (by rw [HJ3.out.2.2]; exact HO1.out.1) HO1.out.2).grew HG5.out
              rw [totN_snoc]
              exact h1
      · obtain rfl : k = L.length := by omega
        obtain ⟨A1, c1, rfl, -⟩ := own_shape HJ.out.row
        have e1 := HRk.out
        rw [e1] at HJ ⊢
        obtain ⟨m0, hm0⟩ : ∃ m, totN R = m := ⟨_, rfl⟩
        have Hm0 : m0 ≤ 72 := by rw [← hm0, Ht.out]; omega
        have HJb := Lib.hid (show PutsJ w wr p 120 y R R bss m0 (.slice A1 L.length c1) F1 from by have := HJ.out; rwa [hm0] at this)
        have HR0 := Lib.hid (And.intro e1 (Ht.out))
        clear HJ HRk Ht hm0 e1 hlt hk
        go_wp2_with fail
        go_loopg [7, 71] G.length (fun q u v wr => ∃ (k : Nat) (R : List (Option (List Nat))) (y : Rp) (F : Nat → Prop), q = G.length - k ∧ k ≤ G.length ∧ R.length = L.length ∧ u = .int .i64 (totN R) ∧ v = .int .i64 k ∧ PutsJ w wr p 120 y R R bss m0 (.slice A1 L.length c1) F)
        case atStart => exact ⟨0, R, y, F1, rfl, Nat.zero_le _, HR0.out.1, by rw [HR0.out.2], rfl, HJb.out⟩
        case round =>
          clear HJb HR0
          obtain ⟨k, R, y, F1, rfl, hk, hRk, rfl, rfl, hJ⟩ := hrel
          have HRk := Lib.hid hRk
          have HJ := Lib.hid hJ
          have htt := hJ.rcs.tot o120.out.2.2.2
          rw [hRk] at htt
          obtain ⟨tt, htot⟩ : ∃ t, totN R = t := ⟨_, rfl⟩
          rw [htot] at htt ⊢
          have Ht := Lib.hid htot
          clear hJ hRk htot
          by_cases hlt : k < G.length
          · obtain ⟨x, hx⟩ : ∃ x, G[k]? = some x := ⟨_, List.getElem?_eq_getElem hlt⟩
            obtain ⟨gB, oB, rfl, hgB, hcB⟩ := H.out.2.2.1.2 (by omega)
            have hce : wr.cell? ⟨gB, oB + k, none⟩ = some (.int .i64 x) := (HJ.out.gr.cell (p := ⟨gB, oB + k, none⟩) hgB id).trans (hcB k _ (by simp [iv, hx]))
            have hxb := H.out.2.2.2 x (List.mem_of_getElem? hx)
            obtain ⟨hx1, hx2⟩ := hxb
            clear hcB
            have Hx := Lib.hid hx
            clear hx
            by_cases c1 : x < 0 ∨ (L.length : Int) ≤ x
            · have t0 : decide (x < 0) = true ∨ decide (x < 0) = false ∧ decide ((L.length : Int) ≤ x) = true := by
                by_cases a : x < 0
                · exact .inl (decide_eq_true a)
                · exact .inr ⟨decide_eq_false a, decide_eq_true (by omega)⟩
              clear c1
              rcases t0 with t3 | ⟨t3, t4⟩
              all_goals
                go_wp2_with fail
                go_roundg (G.length - (k + 1))
                case measure => omega
                case rel => exact ⟨k + 1, R, y, F1, rfl, by omega, HRk.out, by rw [Ht.out], by simp, HJ.out⟩
            · obtain ⟨j, rfl⟩ := Int.eq_ofNat_of_zero_le (show 0 ≤ x by omega)
              have t3 : decide (((j : Nat) : Int) < 0) = false := decide_eq_false (by omega)
              have t4 : decide ((L.length : Int) ≤ ((j : Nat) : Int)) = false := decide_eq_false (by omega)
              have hjl : j < L.length := by omega
              clear c1 hx1 hx2
              obtain ⟨o, ho⟩ : ∃ o, R[j]? = some o := ⟨_, List.getElem?_eq_getElem (by rw [HRk.out]; exact hjl)⟩
              have hown := HJ.out.row
              rw [HRk.out] at hown
              obtain ⟨g1, rfl, hg1⟩ := own_block hown (by omega)
              have hcf : wr.cell? ⟨g1, j, none⟩ = some (.int .i64 (fi1 o)) := by
                have := hown.cells (g := g1) rfl j _ (fiR_at ho)
                rwa [Addr.add_lit, Nat.zero_add] at this
              clear hown
              cases o with
              | none =>
                have hcf' : wr.cell? ⟨g1, j, none⟩ = some (.int .i64 (-1)) := hcf
                clear hcf ho
                go_wp2_with fail
                go_roundg (G.length - (k + 1))
                case measure => omega
                case rel => exact ⟨k + 1, R, y, F1, rfl, by omega, HRk.out, by rw [Ht.out], by simp, HJ.out⟩
              | some l =>
                obtain ⟨bs, hb1, hb2, hb3, hb4, hst⟩ := HJ.out.rcs.st j l ho
                have hl0 : l[0]? = some (l.headD 0) := by
                  have h1 := hst.len
                  cases l with
                  | nil => simp [partsN] at h1
                  | cons a t => rfl
                obtain ⟨i0, hi0⟩ : ∃ i, l.headD 0 = i := ⟨_, rfl⟩
                have hcf' : wr.cell? ⟨g1, j, none⟩ = some (.int .i64 i0) := by rw [hcf]; simp only [fi1, hi0]
                rw [hi0] at hl0
                have hll : l.length = partsN bs.length 59 := by rw [hst.len, HJ.out.rcs.like.sz]; rfl
                have hdl := cdel_any p F1 y wr l bs i0 HJ.out.gp (by rw [HJ.out.rcs.like.was]; simp [Rp.open0, Rp.begun]) hst hb2 (by omega) hl0 (by have := HJ.out.rcs.slack; rw [o120.out.1] at this; have := Hm0; omega)
                obtain ⟨SBx, hxj, hxl⟩ : ∃ x : SB, L[j]? = some x ∧ x.l = bs := by
                  rw [← Hb.out, List.getElem?_map] at hb1
                  cases hq : L[j]? with
                  | none => rw [hq] at hb1; cases hb1
                  | some q => rw [hq] at hb1; exact ⟨q, rfl, by simpa using hb1⟩
                obtain ⟨xa, xc, xl⟩ := SBx
                simp only at hxl
                subst hxl
                obtain ⟨gA, oA, rfl, hgA, hcA⟩ := H.out.1.2 (by omega)
                have hcx0 := hcA j _ (by rw [List.getElem?_map, hxj]; rfl)
                obtain ⟨q1, q2, q3, q4⟩ := H.out.2.1 _ (List.mem_of_getElem? hxj)
                simp only at q1
                have HX := Lib.hid (And.intro hdl (And.intro ho (And.intro hll (And.intro q1 (And.intro hcx0 hgA)))))
                obtain ⟨pn, hpn⟩ : ∃ q, partsN xl.length 59 = q := ⟨_, rfl⟩
                have hpnt : pn ≤ tt := by
                  have := totN_set R j l ho
                  rw [Ht.out] at this
                  omega
                have hpn9 : pn ≤ 72 := by omega
                have HPn := Lib.hid hpn
                clear hdl hst hl0 hi0 hll hb1 hb4 q1 q2 q3 q4 hcx0 hcA hxj hcf ho hpn hg1
                go_wp2_with fail
                refine HX.out.1.mono ?_
                rintro e w3 ⟨rfl, z, hto, hfr⟩
                obtain ⟨F2, hJ3⟩ := HJ.out.to hto (HJ.out.rcs.del HX.out.2.1 hfr)
                have hce3 : w3.cell? ⟨gA, oA + j, none⟩ = some (.slice xa xl.length xc) := (hJ3.gr.cell (p := ⟨gA, oA + j, none⟩) HX.out.2.2.2.2.2 id).trans HX.out.2.2.2.2.1
                have hs3 := HX.out.2.2.2.1.grew hJ3.gr
                have hcv := conv_sl (c := xc) hs3 (by omega)
                have hpa := xparts_any xl 59 w3 (by omega) (by omega) (by omega) (by omega)
                rw [HPn.out] at hpa
                have HPa := Lib.hid (And.intro hpa hJ3)
                clear hpa hce hcf' hto hfr hs3 hJ3
                go_wp2_with fail
                refine HPa.out.1.mono ?_
                clear hcv hce3
                rintro e w5 ⟨A5, c5, rfl, -, hg5⟩
                have hJ5 := HPa.out.2.grew hg5
                have hrow := hJ5.row
                rw [HRk.out] at hrow
                have hcu := hrow.cells (g := g1) rfl j _ (fiR_at HX.out.2.1)
                rw [Addr.add_lit, Nat.zero_add] at hcu
                have hfu : w5.frozen? ⟨g1, j, none⟩ = false := by
                  obtain ⟨cur, -, hgc, -⟩ := own_row hrow
                  exact Blk.frozen hgc j
                have hgu := (hrow.lt g1 rfl).2
                have HJ5 := Lib.hid (And.intro hJ5 hrow)
                clear hg5 hJ5 hrow
                go_wp2_with fail
                obtain ⟨w6, hw6⟩ : ∃ w6, w5.setCell ⟨g1, j, none⟩ (.int .i64 (-1)) = w6 := ⟨_, rfl⟩
                have HJ6 := HJ5.out.1.unset j HRk.out HX.out.2.1 hw6
                go_roundg (G.length - (k + 1))
                case measure => omega
                case rel =>
                  refine ⟨k + 1, R.set j none, z, F2, rfl, by omega, by simp [HRk.out], ?_, by simp, by rw [hw6]; exact HJ6⟩
                  have h1 := totN_set R j l HX.out.2.1
                  have h2 := HX.out.2.2.1
                  rw [HPn.out] at h2
                  rw [Ht.out] at h1
                  congr 1
                  omega
          · obtain rfl : k = G.length := by omega
            clear hlt hk htt
            go_wp2_with fail
            go_loopg [112] L.length (fun q v wr => ∃ (k : Nat), q = L.length - k ∧ k ≤ L.length ∧ v = .int .i64 k ∧ PutsJ w wr p 120 y R R bss m0 (.slice A1 L.length c1) F1)
            case atStart => exact ⟨0, rfl, Nat.zero_le _, rfl, HJ.out⟩
            case round =>
              clear HJ
              obtain ⟨k, rfl, hk, rfl, hJ⟩ := hrel
              have HJ := Lib.hid hJ
              clear hJ
              by_cases hlt : k < L.length
              · obtain ⟨x, hx⟩ : ∃ x, L[k]? = some x := ⟨_, List.getElem?_eq_getElem hlt⟩
                obtain ⟨xa, xc, xl⟩ := x
                obtain ⟨gA, oA, rfl, hgA, hcA⟩ := H.out.1.2 (by omega)
                have hce : wr.cell? ⟨gA, oA + k, none⟩ = some (.slice xa xl.length xc) := (HJ.out.gr.cell (p := ⟨gA, oA + k, none⟩) hgA id).trans (hcA k _ (by rw [List.getElem?_map, hx]; rfl))
                obtain ⟨o, ho⟩ : ∃ o, R[k]? = some o := ⟨_, List.getElem?_eq_getElem (by rw [HRk.out]; exact hlt)⟩
                have hown := HJ.out.row
                rw [HRk.out] at hown
                obtain ⟨g1, rfl, hg1⟩ := own_block hown (by omega)
                have hcf : wr.cell? ⟨g1, k, none⟩ = some (.int .i64 (fi1 o)) := by
                  have := hown.cells (g := g1) rfl k _ (fiR_at ho)
                  rwa [Addr.add_lit, Nat.zero_add] at this
                clear hown hcA
                cases o with
                | none =>
                  have hcf' : wr.cell? ⟨g1, k, none⟩ = some (.int .i64 (-1)) := hcf
                  clear hcf ho hx
                  go_wp2_with fail
                  go_quiet (fail)
                  go_wp2_with fail
                  go_roundg (L.length - (k + 1))
                  case measure => omega
                  case rel => exact ⟨k + 1, rfl, by omega, by simp, HJ.out.grew ((Chg.refl _ _).drewN nq)⟩
                | some l =>
                  obtain ⟨bs, hb1, hb2, hb3, hb4, hst⟩ := HJ.out.rcs.st k l ho
                  have hl0 : l[0]? = some (l.headD 0) := by
                    have h1 := hst.len
                    cases l with
                    | nil => simp [partsN] at h1
                    | cons a t => rfl
                  obtain ⟨i0, hi0⟩ : ∃ i, l.headD 0 = i := ⟨_, rfl⟩
                  have hcf' : wr.cell? ⟨g1, k, none⟩ = some (.int .i64 i0) := by rw [hcf]; simp only [fi1, hi0]
                  rw [hi0] at hl0
                  rw [← Hb.out, List.getElem?_map, hx] at hb1
                  simp only [Option.map_some, Option.some.injEq] at hb1
                  subst hb1
                  obtain ⟨q1, q2, q3, q4⟩ := H.out.2.1 _ (List.mem_of_getElem? hx)
                  simp only at q1
                  have hcv : (convert 29 9 (.slice xa xl.length xc)).run Tryd.prog wr.drew = .ok (.string (strOfNums xl)) wr.drew := conv_sl (((q1.grew HJ.out.gr)).grew ((Chg.refl _ _).drew)) (by omega)
                  have hcf2 : wr.drew.cell? ⟨g1, k, none⟩ = some (.int .i64 i0) := hcf'
                  have hsd := stands_any p i0 F1 y wr.drew l xl (HJ.out.gp.grew ((Chg.refl _ _).drew)) hst hb2 (by omega) hb4 hl0 (by rw [HJ.out.rcs.like.sz]; rfl)
                  have HX := Lib.hid (And.intro hsd (And.intro ho (And.intro hi0 q1)))
                  have t3 : decide ((0 : Int) ≤ (i0 : Int)) = true := decide_eq_true (by omega)
                  clear hsd hst hl0 hi0 hb4 q1 q2 q3 q4 hx hcf ho hg1 hcf'
                  go_wp2_with fail
                  refine wp_region_held_drew (S := fun w' => w'.cell? ⟨g1, k, none⟩ = some (.int .i64 i0) ∧ (convert 29 9 (.slice xa xl.length xc)).run Tryd.prog w' = .ok (.string (strOfNums xl)) w') (by kernel_rfl) ⟨hcf2, hcv⟩ (fun hHeld => ?_)
                  refine wpAnyH_take (i := 0) (v := ?_) rfl (by kernel_rfl) (by kernel_rfl) (by kernel_rfl) (fun _ _ _ h => h) (Or.inl ⟨by rfl, ?_⟩) hHeld ?_
                  rotate_left
                  · (intro w hSw; (try dsimp only at hSw); go_simp) <;> with_reducible rfl
                  (try simp only [Act.put, List.setIfInBounds_toArray, List.set_cons_zero, List.set_cons_succ, List.getElem_toArray, List.getElem_cons_zero, List.getElem_cons_succ])
                  refine wpAnyH_take (i := 1) (v := ?_) rfl (by kernel_rfl) (by kernel_rfl) (by kernel_rfl) (fun _ _ _ h => h) (Or.inl ⟨by rfl, ?_⟩) hHeld ?_
                  rotate_left
                  · (intro w hSw; (try dsimp only at hSw); go_simp) <;> with_reducible rfl
                  (try simp only [Act.put, List.setIfInBounds_toArray, List.set_cons_zero, List.set_cons_succ, List.getElem_toArray, List.getElem_cons_zero, List.getElem_cons_succ])
                  refine wpAnyH_take (i := 2) (v := ?_) rfl (by kernel_rfl) (by kernel_rfl) (by kernel_rfl) (fun _ _ _ h => h) (Or.inl ⟨by rfl, ?_⟩) hHeld ?_
                  rotate_left
                  · (intro w hSw; (try dsimp only at hSw); go_simp) <;> with_reducible rfl
                  (try simp only [Act.put, List.setIfInBounds_toArray, List.set_cons_zero, List.set_cons_succ, List.getElem_toArray, List.getElem_cons_zero, List.getElem_cons_succ])
                  refine wpAnyH_take (i := 3) (v := ?_) rfl (by kernel_rfl) (by kernel_rfl) (by kernel_rfl) (fun _ _ _ h => h) (Or.inl ⟨by rfl, ?_⟩) hHeld ?_
                  rotate_left
                  · (intro w hSw; (try dsimp only at hSw); go_simp) <;> with_reducible rfl
                  (try simp only [Act.put, List.setIfInBounds_toArray, List.set_cons_zero, List.set_cons_succ, List.getElem_toArray, List.getElem_cons_zero, List.getElem_cons_succ])
                  refine wpAnyH_take (i := 4) (v := ?_) rfl (by kernel_rfl) (by kernel_rfl) (by kernel_rfl) (fun _ _ _ h => h) (Or.inl ⟨by rfl, ?_⟩) hHeld ?_
                  rotate_left
                  · (intro w hSw; (try dsimp only at hSw); go_simp) <;> with_reducible rfl
                  (try simp only [Act.put, List.setIfInBounds_toArray, List.set_cons_zero, List.set_cons_succ, List.getElem_toArray, List.getElem_cons_zero, List.getElem_cons_succ])
                  refine wpAnyH_take (i := 5) (v := ?_) rfl (by kernel_rfl) (by kernel_rfl) (by kernel_rfl) (fun _ _ _ h => h) (Or.inl ⟨by rfl, ?_⟩) hHeld ?_
                  rotate_left
                  · (intro w hSw; (try dsimp only at hSw); go_simp) <;> with_reducible rfl
                  (try simp only [Act.put, List.setIfInBounds_toArray, List.set_cons_zero, List.set_cons_succ, List.getElem_toArray, List.getElem_cons_zero, List.getElem_cons_succ])
                  refine wpAnyH_take (i := 6) (v := ?_) rfl (by kernel_rfl) (by kernel_rfl) (by kernel_rfl) (fun _ _ _ h => h) (Or.inl ⟨by rfl, ?_⟩) hHeld ?_
                  rotate_left
                  · (intro w hSw; (try dsimp only at hSw); go_simp) <;> with_reducible rfl
                  (try simp only [Act.put, List.setIfInBounds_toArray, List.set_cons_zero, List.set_cons_succ, List.getElem_toArray, List.getElem_cons_zero, List.getElem_cons_succ])
                  refine wpAnyH_take (i := 7) (v := ?_) rfl (by kernel_rfl) (by kernel_rfl) (by kernel_rfl) (fun _ _ _ h => h) (Or.inl ⟨by rfl, ?_⟩) hHeld ?_
                  rotate_left
                  · (intro w hSw; (try dsimp only at hSw); go_simp) <;> with_reducible rfl
                  (try simp only [Act.put, List.setIfInBounds_toArray, List.set_cons_zero, List.set_cons_succ, List.getElem_toArray, List.getElem_cons_zero, List.getElem_cons_succ])
                  refine wpAnyH_take (i := 8) (v := ?_) rfl (by kernel_rfl) (by kernel_rfl) (by kernel_rfl) (fun _ _ _ h => h) (Or.inl ⟨by rfl, ?_⟩) hHeld ?_
                  rotate_left
                  · (intro w hSw; (try dsimp only at hSw); go_simp) <;> with_reducible rfl
                  (try simp only [Act.put, List.setIfInBounds_toArray, List.set_cons_zero, List.set_cons_succ, List.getElem_toArray, List.getElem_cons_zero, List.getElem_cons_succ])
                  refine wpAnyH_take (i := 9) (v := ?_) rfl (by kernel_rfl) (by kernel_rfl) (by kernel_rfl) (fun _ _ _ h => h) (Or.inl ⟨by rfl, ?_⟩) hHeld ?_
                  rotate_left
                  · (intro w hSw; (try dsimp only at hSw); go_simp) <;> with_reducible rfl
                  (try simp only [Act.put, List.setIfInBounds_toArray, List.set_cons_zero, List.set_cons_succ, List.getElem_toArray, List.getElem_cons_zero, List.getElem_cons_succ])
                  refine wpAnyH_take (i := 10) (v := ?_) rfl (by kernel_rfl) (by kernel_rfl) (by kernel_rfl) (fun _ _ _ h => h) (Or.inl ⟨by rfl, ?_⟩) hHeld ?_
                  rotate_left
                  · (intro w hSw; (try dsimp only at hSw); go_simp) <;> with_reducible rfl
                  (try simp only [Act.put, List.setIfInBounds_toArray, List.set_cons_zero, List.set_cons_succ, List.getElem_toArray, List.getElem_cons_zero, List.getElem_cons_succ])
                  refine wpAnyH_take (i := 11) (v := ?_) rfl (by kernel_rfl) (by kernel_rfl) (by kernel_rfl) (fun _ _ _ h => h) (Or.inl ⟨by rfl, ?_⟩) hHeld ?_
                  rotate_left
                  · (intro w hSw; (try dsimp only at hSw); go_simp) <;> with_reducible rfl
                  (try simp only [Act.put, List.setIfInBounds_toArray, List.set_cons_zero, List.set_cons_succ, List.getElem_toArray, List.getElem_cons_zero, List.getElem_cons_succ])
                  refine wpAnyH_take (i := 12) (v := ?_) rfl (by kernel_rfl) (by kernel_rfl) (by kernel_rfl) (fun _ _ _ h => h) (Or.inl ⟨by rfl, ?_⟩) hHeld ?_
                  rotate_left
                  · (intro w hSw; (try dsimp only at hSw); go_simp) <;> with_reducible rfl
                  (try simp only [Act.put, List.setIfInBounds_toArray, List.set_cons_zero, List.set_cons_succ, List.getElem_toArray, List.getElem_cons_zero, List.getElem_cons_succ])
                  refine wpAnyH_ready (rs := [13]) (by kernel_rfl) (by simp) ?_
                  refine AllReadyH.cons rfl (fun K hK => ?_) AllReadyH.nil
                  go_simp
                  refine HX.out.1.mono ?_
                  rintro e w7 ⟨rfl, hg7, hc7⟩
                  have hJ7 := (HJ.out.grew ((Chg.refl _ _).drew)).far hc7 hg7
                  have hrow := hJ7.row
                  rw [HRk.out] at hrow
                  have hcu := hrow.cells (g := g1) rfl k _ (fiR_at HX.out.2.1)
                  rw [Addr.add_lit, Nat.zero_add] at hcu
                  have hcv7 : (convert 29 9 (.slice xa xl.length xc)).run Tryd.prog w7 = .ok (.string (strOfNums xl)) w7 := conv_sl (HX.out.2.2.2.grew hJ7.gr) (by omega)
                  have hi7 : w7.cell? ⟨g1, k, none⟩ = some (.int .i64 i0) := by rw [hcu]; simp only [fi1, HX.out.2.2.1]
                  have HJ7 := Lib.hid hJ7
                  clear hJ7 hg7 hc7 hrow hcu
                  refine hK.out _ _ ⟨hi7, hcv7⟩ (fun _ => ?_)
                  clear hK K
                  (try simp only [Act.put, List.setIfInBounds_toArray, List.set_cons_zero, List.set_cons_succ, List.getElem_toArray, List.getElem_cons_zero, List.getElem_cons_succ])
                  refine wpAnyH_ready (rs := [14]) (by kernel_rfl) (by simp) ?_
                  refine AllReadyH.cons rfl (fun K hK => ?_) AllReadyH.nil
                  go_simp
                  refine hK.out _ _ ⟨hi7, hcv7⟩ (fun _ => ?_)
                  clear hK K
                  (try simp only [Act.put, List.setIfInBounds_toArray, List.set_cons_zero, List.set_cons_succ, List.getElem_toArray, List.getElem_cons_zero, List.getElem_cons_succ])
                  refine wpAnyH_ready (rs := [15]) (by kernel_rfl) (by simp) ?_
                  refine AllReadyH.cons rfl (fun K hK => ?_) AllReadyH.nil
                  go_simp
                  refine hK.out _ _ ⟨hi7, hcv7⟩ (fun _ => ?_)
                  clear hK K
                  (try simp only [Act.put, List.setIfInBounds_toArray, List.set_cons_zero, List.set_cons_succ, List.getElem_toArray, List.getElem_cons_zero, List.getElem_cons_succ])
                  refine wpAnyH_done (by kernel_rfl) ?_ _
                  clear hHeld hcf2 hcv hcv7 hi7 hce
                  go_wp2_with fail
                  go_roundg (L.length - (k + 1))
                  case measure => omega
                  case rel => exact ⟨k + 1, rfl, by omega, by simp, HJ7.out⟩
              · obtain rfl : k = L.length := by omega
                have hus := gp_used p F1 y wr HJ.out.gp
                rw [HJ.out.rcs.used, Ht.out] at hus
                have HU := Lib.hid hus
                clear hlt hk hus
                go_wp2_with (first
                  | (go_at_call 15; (refine HU.out.mono ?_); rintro e w5 ⟨rfl, hg5⟩; have H5 := Lib.hid (Grew.trans HJ.out.gr hg5); clear hg5)
                  | (go_at_call 7; (refine (HA.out _ H5.out).mono ?_); rintro e w6 ⟨rfl, hg6⟩; have H6 := Lib.hid hg6; clear hg6))
                go_ret
                exact ⟨rfl, Grew.trans H5.out H6.out⟩
end Go.Proofs.YtjlfnebkibgfmaaDoor

/- The laws: the table that the rows list, in a walk's words; a world that meets it. -/
namespace Go.Proofs.YtjlfnebkibgfmaaDoor
open Go.RowKit

def tabI : List Int := tab.map Int.ofNat
/-- The listed variable's name. -/
def laidName : String := Rows.chainNeedsRow.named.headD (toString 0)
theorem laid_is {H : Type} : (Rows.laid_math_bits_deBruijn64tab : DataW H) = Lib.tabData .u8 tabI := rfl
theorem tab_of_laid {W : World} (h : laidMetH Tryd.prog Rows.chainNeedsRow.laid W) : TabAt 0 tab W := by
  have h' : laidMet Tryd.prog [(laidName, Lib.tabData .u8 tabI)] W := h
  have hg : Tryd.prog.globalNamed laidName = some 0 := by kernel_rfl
  have ht := Lib.tabIs_of_head (t := 117) (e := 5) (n := 64) hg (by kernel_rfl) Tryd.underlying117 Tryd.underlying5 (by kernel_rfl) (by kernel_rfl) h'
  intro j hj
  have := ht.cell hg j (by simpa [tabI] using hj)
  rw [this]
  congr 2
  unfold tabI
  rw [List.getD_eq_getElem?_getD, List.getElem?_map, List.getD_eq_getElem?_getD]
  cases tab[j]? <;> rfl

noncomputable def laidWorld (os : Os) : World :=
  { World.holding Tryd.prog os ⟨#[], #[], []⟩ with heap := (World.holding Tryd.prog os ⟨#[], #[], []⟩).heap.modify 0 fun
      | .cells _ t frozen => .cells (tabI.map fun z => Value.int .u8 z).toArray t frozen
      | o => o }
theorem laidWorld_met (os : Os) (args : Array Value) : laidMetH Tryd.prog Rows.chainNeedsRow.laid ((laidWorld os).forCall (fun _ _ => 0) ⟨#[], args, []⟩).memory :=
  laidMetH_of_parts (laidMet_of_run' 8 (by kernel_rfl) (by kernel_rfl)) (by kernel_rfl)

end Go.Proofs.YtjlfnebkibgfmaaDoor

/- A law's argument that is a slice of int. No program stands in this text. -/
namespace Go.Proofs.YtjlfnebkibgfmaaDoor
open Go.ChangeShapes Go.WideShapes Go.ChangeAt Go.RowKit Go.Deep

theorem ints_opened {H : Type} {enc : TypeId × Value → H} {P : Program} {w : World} {base : Nat} {spare : Nat → Bool} {held : Bool} {t e : TypeId} {fuel len cap : Nat} {A : Option Addr} {x : DataW H × List MemPlace}
    (ht : P.underlying t = some (.slice e)) (he : P.underlying e = some (.int .i64)) (hC : P.cellsOf e = 1) (h : DataW.trod enc P w base spare held fuel t [.slice A len cap] = some x) :
    ∃ l : List Int, len = l.length ∧ len ≤ maxLen ∧ Sl w 1 A l.length (l.map (Value.int .i64)) ∧ ∀ n ∈ l, -9223372036854775808 ≤ n ∧ n ≤ 9223372036854775807 := by
  obtain ⟨hm, hc⟩ := open_elems ht (s := 1) hC (by omega) h
  rcases hc with rfl | ⟨b, off, rfl, hb, hi⟩
  · exact ⟨[], rfl, hm, Sl.nil _ _ _, fun r hr => by cases hr⟩
  · obtain ⟨l, hl, hp⟩ := choose_list (fun i (r : Int) => (-9223372036854775808 ≤ r ∧ r ≤ 9223372036854775807) ∧ w.cell? ⟨b, off + i, none⟩ = some (.int .i64 r)) len (fun i hil => by
      obtain ⟨cs, n, y, hcl, hat, hT⟩ := hi i hil
      match cs, hcl with
      | [c], _ =>
        obtain ⟨r, e1, -, w1⟩ := DataW.trod_int he hT
        simp at e1
        subst e1
        have := hat 0 (by omega)
        exact ⟨r, wf_bounds w1, by simpa using this⟩)
    refine ⟨l, hl.symm, hm, ⟨by simp, fun _ => ⟨b, off, rfl, hb, fun j u hu => ?_⟩⟩, fun r hr => ?_⟩
    · rw [List.getElem?_map] at hu
      cases hj : l[j]? with
      | none => rw [hj] at hu; cases hu
      | some r => rw [hj] at hu; simp at hu; subst hu; exact (hp j r hj).2
    · obtain ⟨i, hi, rfl⟩ := List.getElem_of_mem hr
      exact (hp i _ (List.getElem?_eq_getElem hi)).1

end Go.Proofs.YtjlfnebkibgfmaaDoor

namespace Go.Proofs.YtjlfnebkibgfmaaDoor
open Go.ChangeShapes Go.WideShapes Go.ChangeAt Go.RowKit
set_option linter.unusedVariables false

namespace lawChainPuts
theorem own : ownKnob Tryd.prog.godebug = none := by kernel_rfl
theorem laidOut : laidOutB Tryd.prog = true := by kernel_rfl
set_option maxRecDepth 100000 in
theorem lifted (os : Os) (started : os.Started) (H : Type) (enc : TypeId × Value → H) :
    ReturnsInHanded {} Tryd.checked os 5 .any (fun w args => (Rows.chainPutsSpec.pre enc Tryd.prog Tryd.f5 [] false w args ∧ laidMetH Tryd.prog Rows.chainPutsRow.laid w) ∧ sizedMet enc Tryd.prog Tryd.f5 (OpenSpec.ofChange Rows.chainPutsSpec) false w args) (Rows.chainPutsSpec.post enc Tryd.prog Tryd.f5 false true false false) := by
  refine returnsInHanded_of_change_and (C := Tryd.checked) (X := fun w _ => laidMetH Tryd.prog Rows.chainPutsRow.laid w) (fun _ _ _ hh h => h.of_heap hh) own started (by kernel_rfl) Tryd.func5
    (ChangeSpec.witness_at (enc := enc) (C := Tryd.checked) (os := os) (X := fun w _ => laidMetH Tryd.prog Rows.chainPutsRow.laid w) false (laidWorld os) #[.slice none 0 0, .slice none 0 0] 8 rfl (by kernel_rfl) (by kernel_rfl) (by kernel_rfl) (by kernel_rfl) (by kernel_rfl) (laidWorld_met os _)) ?_
  intro W base args ds gs before hval0 hW _ _ hL0 _
  have hL : laidMetH Tryd.prog Rows.chainPutsRow.laid W := hL0
  have hT0 := tab_of_laid hL
  have hval : ∀ (j : Nat) t v, Tryd.f5.params[j]? = some t → args[j]? = some v → Value.okWide Tryd.prog W .any base t v := hval0
  have hW1 := hW
  obtain ⟨p, q, hA0, hV, rfl, hfz, hnd⟩ := hW
  have hA : DataW.TrodAll enc Tryd.prog W 0 (fun _ => true) true Tryd.f5.params.toList args.toList ds p := hA0
  rw [Tryd.params5] at hA hval
  obtain ⟨v0, vs0, d0, ds0, p0, q0, hargs, rfl, rfl, h0, r0⟩ := trodAll_cons hA
  obtain ⟨v1, vs1, d1, ds1, p1, q1, rfl, rfl, rfl, h1, r1⟩ := trodAll_cons r0
  obtain ⟨rfl, rfl, rfl⟩ := trodAll_nil r1
  obtain rfl : args = #[v0, v1] := by cases args; simp_all
  obtain ⟨rfl, rfl⟩ := trodVars_none hV
  obtain ⟨A0, n0, c0, rfl⟩ := okWide_slice Tryd.underlying47 (hval 0 47 v0 rfl rfl)
  have k0 := h0
  have lt0 : ∀ x ∈ p0, x.block < W.heap.size := by obtain ⟨m, hm⟩ := k0; exact DataW.trod_lt m _ _ _ hm
  obtain ⟨fu0, hf0⟩ := h0
  obtain ⟨l0, rfl, hm0, hs0, ok0⟩ := SB.opened (by simpa [Value.cells] using hf0)
  obtain ⟨A1, n1, c1, rfl⟩ := okWide_slice Tryd.underlying39 (hval 1 39 v1 rfl rfl)
  have k1 := h1
  have lt1 : ∀ x ∈ p1, x.block < W.heap.size := by obtain ⟨m, hm⟩ := k1; exact DataW.trod_lt m _ _ _ hm
  obtain ⟨fu1, hf1⟩ := h1
  obtain ⟨l1, rfl, hm1, hs1, ok1⟩ := ints_opened Tryd.underlying39 Tryd.underlying3 (by kernel_rfl) (by simpa [Value.cells] using hf1)
  clear hA0 hval0
  refine (puts_walk W hT0 A0 c0 l0 hm0 hs0 ok0 A1 c1 l1 hm1 hs1 ok1).mono fun e W1 ⟨he, hg⟩ => ?_
  subst he
  have bel := hg.below
  exact ⟨_, rfl, _, _, _, [], _, [], hW1, trodAll_mk1 (shut_bool Tryd.underlying4 _), (trodAll_cons_mk (Below.trod laidOut (by kernel_rfl) (of_decide_eq_true (by kernel_rfl)) k0 bel lt0) (trodAll_cons_mk (Below.trod laidOut (by kernel_rfl) (of_decide_eq_true (by kernel_rfl)) k1 bel lt1) trodAll_mk0)), rfl, bel.frame _, fun h => by cases h⟩
theorem over : Rows.chainPutsRow.holds Tryd.pinned (OpenSpec.ofChange Rows.chainPutsSpec) :=
  OpenClaim.holds_of_wide 5 Tryd.f5 rfl rfl rfl rfl rfl rfl rfl ⟨rfl, rfl, rfl, rfl, rfl⟩ rfl rfl rfl rfl rfl (by kernel_rfl) Tryd.func5 (by kernel_rfl)
    (of_decide_eq_true (by kernel_rfl)) (by unfold Func.isWrapper; first | (rw [if_pos (by decide +kernel)]; kernel_rfl) | (rw [if_neg (by decide +kernel)]; exact ⟨rfl, rfl⟩))
    (fun os started H enc _ => lifted os started H enc)
/-- The statement, a card whose listed variable is tied to the program. -/
theorem proved : Rows.ChainPutsCardSaid :=
  Claim7.holds_tied_plain_at .later [] [.data] true Rows.chainPutsCard.stood.harness false over (fun _ h => by cases h) (by kernel_rfl) (fun _ h => by cases h) chainPuts_row_tie rfl ⟨rfl, rfl⟩ (by kernel_rfl) rfl
    (fun f fn hf hfn => by
      obtain rfl : f = 5 := Option.some.inj ((show Tryd.prog.funcNamed Rows.chainPutsRow.func = some 5 by kernel_rfl).symm.trans hf) |>.symm
      obtain rfl : fn = Tryd.f5 := (Option.some.inj (Tryd.func5.symm.trans hfn)).symm
      refine ⟨by kernel_rfl, fun j t ht => ?_⟩
      have hall : ∀ t ∈ Tryd.f5.params.toList, Tryd.prog.wantsStandIn t = false := by
        rw [Tryd.params5]
        intro t ht
        simp only [List.mem_cons, List.not_mem_nil, or_false] at ht
        rcases ht with rfl | rfl <;> kernel_rfl
      exact hall t (by rw [Array.mem_toList_iff]; exact Array.mem_of_getElem? ht))
    (by kernel_rfl)
#print axioms proved
end lawChainPuts

end Go.Proofs.YtjlfnebkibgfmaaDoor
