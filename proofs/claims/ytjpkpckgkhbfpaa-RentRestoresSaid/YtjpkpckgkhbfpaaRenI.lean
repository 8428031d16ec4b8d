/- The rents: one, and two, that are a call's own; the fixed answer. -/
import Derived.Test.YtjpkpckgkhbfpaaRenH
namespace Go.Proofs.Ytjpkpckgkhbfpaa
open Go.RowKit Go.Maps

theorem RTo.more {w w' : World} {b k k' : Nat} {F : Nat → Prop} {x : List Rw} (h : RTo w w' b F x k) (hk : k ≤ k') : RTo w w' b F x k' := by
  obtain ⟨F', h1, h2⟩ := h
  exact ⟨F', h1.more hk, h2⟩

/-- Rents wholly in blocks that are new since w. -/
def RM (w W : World) (b : Nat) (x : List Rw) (k : Nat) : Prop := ∃ F, RS W b F x k ∧ Grew w W ∧ ∀ j, F j → w.heap.size ≤ j
theorem RM.made {w W w' : World} {b k : Nat} {x : List Rw} (hg : Grew w W) (h : RTo W w' b NoF x k) : RM w w' b x k := by
  obtain ⟨F, h1, h2, h3⟩ := h
  exact ⟨F, h1, Grew.trans hg h2, fun j hj => by rcases h3 j hj with e | e; exact e.elim; exact Nat.le_trans hg.size e⟩
theorem RM.grew {w W : World} {b k : Nat} {x : List Rw} (h : RM w W b x k) : Grew w W := by obtain ⟨F, -, h, -⟩ := h; exact h
theorem RM.on {w W W' : World} {b k : Nat} {x : List Rw} (h : RM w W b x k) (hg : Grew W W') : RM w W' b x k := by
  obtain ⟨F, h1, h2, h3⟩ := h
  exact ⟨F, h1.grew hg, Grew.trans h2 hg, h3⟩
theorem RM.at {w W : World} {b k : Nat} {x : List Rw} (h : RM w W b x k) : ∃ F, RS W b F x k ∧ ∀ w' y k', RTo W w' b F y k' → RM w w' b y k' := by
  obtain ⟨F, h1, h2, h3⟩ := h
  refine ⟨F, h1, fun w' y k' ⟨F', g1, g2, g3⟩ => ⟨F', g1, Chg.trans h2 g2 fun i hi hf => absurd (h3 i hf) (by omega), fun j hj => ?_⟩⟩
  rcases g3 j hj with e | e
  · exact h3 j e
  · exact Nat.le_trans h2.size e
theorem RM.rs {w W : World} {b k : Nat} {x : List Rw} (h : RM w W b x k) : ∃ F, RS W b F x k := by obtain ⟨F, h1, -⟩ := h; exact ⟨F, h1⟩

/-- Two of them, apart. -/
def Two (w W : World) (a b : Nat) (x y : List Rw) (k : Nat) : Prop := ∃ F G, RS W a F x k ∧ RS W b G y k ∧ Grew w W ∧ (∀ j, F j → w.heap.size ≤ j) ∧ (∀ j, G j → w.heap.size ≤ j) ∧ ∀ j, F j → ¬ G j
theorem Two.swap {w W : World} {a b k : Nat} {x y : List Rw} (h : Two w W a b x y k) : Two w W b a y x k := by
  obtain ⟨F, G, h1, h2, h3, h4, h5, h6⟩ := h
  exact ⟨G, F, h2, h1, h3, h5, h4, fun j hg hf => h6 j hf hg⟩
theorem Two.grew {w W : World} {a b k : Nat} {x y : List Rw} (h : Two w W a b x y k) : Grew w W := by obtain ⟨F, G, h1, h2, h3, h4⟩ := h; exact h3
theorem Two.on {w W W' : World} {a b k : Nat} {x y : List Rw} (h : Two w W a b x y k) (hg : Grew W W') : Two w W' a b x y k := by
  obtain ⟨F, G, h1, h2, h3, h4⟩ := h
  exact ⟨F, G, h1.grew hg, h2.grew hg, Grew.trans h3 hg, h4⟩
theorem Two.at {w W : World} {a b k : Nat} {x y : List Rw} (h : Two w W a b x y k) : ∃ F, RS W a F x k ∧ ∀ w' z k', k ≤ k' → RTo W w' a F z k' → Two w w' a b z y k' := by
  obtain ⟨F, G, h1, h2, h3, h4, h5, h6⟩ := h
  refine ⟨F, h1, fun w' z k' hk ⟨F', g1, g2, g3⟩ => ⟨F', G, g1, (h2.chg g2 fun j hj hf => h6 j hf hj).more hk, Chg.trans h3 g2 fun i hi hf => absurd (h4 i hf) (by omega), fun j hj => ?_, h5, fun j hj hG => ?_⟩⟩
  · rcases g3 j hj with e | e
    · exact h4 j e
    · exact Nat.le_trans h3.size e
  · rcases g3 j hj with e | e
    · exact h6 j e hG
    · obtain ⟨R, T, qb, l, A, c, M, added, hin, hp, hk2, hF, hlt, hfit⟩ := h2
      exact absurd (hlt j hG) (by omega)
theorem Two.made {w W1 W2 : World} {a b k : Nat} {x y : List Rw} (h : RM w W1 a x k) (h2 : RTo W1 W2 b NoF y k) : Two w W2 a b x y k := by
  obtain ⟨F, h3, h4, h5⟩ := h
  obtain ⟨G, g1, g2, g3⟩ := h2
  have hF : ∀ j, F j → j < W1.heap.size := by obtain ⟨R, T, qb, l, A, c, M, added, hin, hp, hk2, hF, hlt, hfit⟩ := h3; exact hlt
  have hG : ∀ j, G j → W1.heap.size ≤ j := fun j hj => by rcases g3 j hj with e | e; exact e.elim; exact e
  exact ⟨F, G, h3.grew g2, g1, Grew.trans h4 g2, h5, fun j hj => Nat.le_trans h4.size (hG j hj), fun j hf hg => by have := hF j hf; have := hG j hg; omega⟩

theorem radd_m {w W : World} {b k : Nat} {x y : List Rw} (h rate now e0 : Int) (hm : RM w W b x k) (hk : k ≤ 900000) (hh : -9223372036854775808 ≤ h ∧ h ≤ 9223372036854775807) (hv : addL x h rate now = (y, e0)) :
    Calls Try.prog 10 #[.pointer (some ⟨b, 0, none⟩), .int .i64 h, .int .i64 rate, .int .i64 now] W fun e w' => e = .returned (.int .i64 e0) ∧ RM w w' b y (k + 1) := by
  obtain ⟨F, hs, nx⟩ := hm.at
  have := radd_any b F x k h rate now W hs hk hh
  rw [hv] at this
  exact this.mono fun e w' ⟨he, ht⟩ => ⟨he, nx _ _ _ ht⟩
theorem rpay_m {w W : World} {b k : Nat} {x y : List Rw} (h p now e0 : Int) (hm : RM w W b x k) (hk : k ≤ 900000) (hh : -9223372036854775808 ≤ h ∧ h ≤ 9223372036854775807) (hv : payL x h p now = (y, e0)) :
    Calls Try.prog 12 #[.pointer (some ⟨b, 0, none⟩), .int .i64 h, .int .i64 p, .int .i64 now] W fun e w' => e = .returned (.int .i64 e0) ∧ RM w w' b y (k + 1) := by
  obtain ⟨F, hs, nx⟩ := hm.at
  have := rpay_any b F x k h p now W hs hk (wf64 hh.1 hh.2)
  rw [hv] at this
  exact this.mono fun e w' ⟨he, ht⟩ => ⟨he, nx _ _ _ (ht.more (by omega))⟩

/-- The pairs of the fixed answer. -/
def pairs : List (Int × Int) := [(100, 0), (101, 1), (110, 1), (111, 2), (140, 4), (141, 5)]

set_option maxRecDepth 100000 in
set_option maxHeartbeats 1600000 in
theorem rawake_any (w : World) :
    Calls Try.prog 8 #[] w fun e w' => e = .returned (.bool true) ∧ Grew w w' := by
  have v1 := Lib.hid (show addL [] 7 5 0 = ([⟨7, 5, 100⟩], 0) from by decide +kernel)
  have v2 := Lib.hid (show addL [⟨7, 5, 100⟩] 7 5 0 = ([⟨7, 5, 100⟩], 13) from by decide +kernel)
  have hf := Lib.hid (show fnd [⟨7, 5, 100⟩] 7 = some ⟨7, 5, 100⟩ from rfl)
  go_enter Try.func8, Try.ntmps8
  go_wp2_with (go_at_call 9; refine (rnew_any _).mono ?_; rintro e w1 ⟨rfl, ht1⟩; have HM1 := Lib.hid (RM.made (Chg.refl _ _) ht1); clear ht1)
  go_wp2_with fail
  refine (radd_m 7 5 0 0 HM1.out (by omega) (by omega) v1.out).mono ?_
  rintro e w2 ⟨rfl, hm2⟩
  have HM2 := Lib.hid hm2
  clear hm2
  go_wp2_with fail
  refine (radd_m 7 5 0 13 HM2.out (by omega) (by omega) v2.out).mono ?_
  rintro e w3 ⟨rfl, hm3⟩
  have HM3 := Lib.hid hm3
  clear hm3
  go_wp2_with fail
  have hB := Lib.hid (Blk.new w3 56 #[.int .i64 100, .int .i64 0, .int .i64 101, .int .i64 1, .int .i64 110, .int .i64 1, .int .i64 111, .int .i64 2, .int .i64 140, .int .i64 4, .int .i64 141, .int .i64 5])
  go_loopw [27] (fun i wr => ∃ k : Nat, k ≤ 6 ∧ i = .int .i64 k ∧ RM w wr (w.heap.size + 4) [⟨7, 5, 100⟩] (0 + 1 + 1) ∧ Blk wr w3.heap.size 56 #[.int .i64 100, .int .i64 0, .int .i64 101, .int .i64 1, .int .i64 110, .int .i64 1, .int .i64 111, .int .i64 2, .int .i64 140, .int .i64 4, .int .i64 141, .int .i64 5]) (fun i _ => 6 - (intOf i).toNat)
  case atStart => exact ⟨0, by omega, rfl, HM3.out.on ((Chg.refl _ _).alloc _), hB.out⟩
  case round =>
    obtain ⟨k, hk, rfl, hm, hb⟩ := hrel
    by_cases hlt : k < 6
    · obtain ⟨c, s, d0, d1, hst⟩ : ∃ c s : Int, wr.cell? ⟨w3.heap.size, k * 2, none⟩ = some (.int .i64 c) ∧ wr.cell? ⟨w3.heap.size, k * 2 + 1, none⟩ = some (.int .i64 s) ∧ stageI 100 c = s := by
        obtain rfl | rfl | rfl | rfl | rfl | rfl : k = 0 ∨ k = 1 ∨ k = 2 ∨ k = 3 ∨ k = 4 ∨ k = 5 := by omega
        · exact ⟨_, _, hb.cell 0, hb.cell 1, by decide⟩
        · exact ⟨_, _, hb.cell 2, hb.cell 3, by decide⟩
        · exact ⟨_, _, hb.cell 4, hb.cell 5, by decide⟩
        · exact ⟨_, _, hb.cell 6, hb.cell 7, by decide⟩
        · exact ⟨_, _, hb.cell 8, hb.cell 9, by decide⟩
        · exact ⟨_, _, hb.cell 10, hb.cell 11, by decide⟩
      have s0 := hb.lt
      have HH := Lib.hid (And.intro hm (And.intro hb hst))
      clear hm hb hst
      go_wp2_with (go_at_call 15; obtain ⟨F, hrs⟩ := HH.out.1.rs; refine (rstage_some (w.heap.size + 4) F [⟨7, 5, 100⟩] (0 + 1 + 1) 7 c ⟨7, 5, 100⟩ _ (hrs.grew ((Chg.refl _ _).alloc _)) rfl hf.out).mono ?_; rintro e w5 ⟨rfl, hg5⟩; have HG5 := Lib.hid (Grew.trans ((Chg.refl _ _).alloc _) hg5); have hc1 := Lib.hid hg5; clear hg5 hrs; have d2 := ((hc1.out).cell (p := ⟨wr.heap.size, 1, none⟩) (by simp) id); rw [HH.out.2.2])
      exact ⟨⟨k + 1, by omega, by simp, HH.out.1.on HG5.out, HH.out.2.1.grew HG5.out⟩, by simp [intOf]; omega⟩
    · obtain rfl : k = 6 := by omega
      have HH := Lib.hid hm
      clear hm hb
      go_wp2_with (go_at_call 25; obtain ⟨F, hrs⟩ := HH.out.rs; refine (rlen_any (w.heap.size + 4) F [⟨7, 5, 100⟩] (0 + 1 + 1) _ hrs).mono ?_; rintro e w5 ⟨rfl, rfl⟩)
      go_ret
      exact ⟨rfl, HH.out.grew⟩

end Go.Proofs.Ytjpkpckgkhbfpaa
