/- The pool: Free, Take, Mark, Give. -/
import Derived.Test.YtenmilemdkhijaaDoorPoolE
namespace Go.Proofs.YtenmilemdkhijaaDoor
open Go.RowKit

theorem ones_wd (x : List Bool) (k : Nat) (w : World) :
    Calls Tryd.prog 29 #[.int .u64 (wd x k)] w fun e w' => e = .returned (.int .i64 (cntN (fun j => x.getD (64 * k + j) false) 64 : Nat)) ∧ w = w' := ones_any (fun j => x.getD (64 * k + j) false) w

set_option maxHeartbeats 800000 in
theorem pfree_any (b : Nat) (x : List Bool) (A : Option Addr) (c : Nat) (w : World) (h : PIn w b x A c) (hl : x.length ≤ 65536) :
    Calls Tryd.prog 12 #[.pointer (some ⟨b, 0, none⟩)] w fun e w' => e = .returned (.int .i64 (cnt x)) ∧ w = w' := by
  obtain ⟨c0, f0, s0⟩ := h.blk.facts
  have hnl := nw_le x
  have H := Lib.hid h
  clear h
  go_enter Tryd.func12, Tryd.ntmps12
  go_wp2
  go_loop [3, 11] (fun n i => ∃ k : Nat, k ≤ nw x ∧ i = .int .i64 k ∧ n = .int .i64 (cntN (fun j => x.getD j false) (64 * k) : Nat)) (fun _ i => nw x - (intOf i).toNat)
  case atStart => exact ⟨0, by omega, rfl, rfl⟩
  case round =>
    obtain ⟨k, hk, rfl, rfl⟩ := hrel
    by_cases hlt : k < nw x
    · obtain ⟨g, rfl, hg, hgb, d0, fr⟩ := H.out.word hlt
      have b1 := cntN_le (fun j => x.getD j false) (64 * k)
      have b2 := cntN_le (fun j => x.getD (64 * k + j) false) 64
      have hst := Lib.hid (cnt_word x k)
      obtain ⟨n1, hn1⟩ : ∃ n1, cntN (fun j => x.getD j false) (64 * k) = n1 := ⟨_, rfl⟩
      have Hn1 := Lib.hid hn1
      rw [hn1] at b1 ⊢
      obtain ⟨n2, hn2⟩ : ∃ n2, cntN (fun j => x.getD (64 * k + j) false) 64 = n2 := ⟨_, rfl⟩
      have ho := ones_wd x k
      rw [hn2] at b2 ho
      have Ho := Lib.hid ho
      have Hn2 := Lib.hid hn2
      clear hn1 hn2 ho
      go_wp2_with (go_at_call 29; refine (Ho.out _).mono ?_; rintro e w1 ⟨rfl, rfl⟩)
      exact ⟨⟨k + 1, by omega, by simp, by rw [hst.out, Hn1.out, Hn2.out]; simp⟩, by simp [intOf]; omega⟩
    · obtain rfl : k = nw x := by omega
      have hst := Lib.hid (cnt_words x)
      rw [hst.out]
      go_wp2
      go_ret
      exact ⟨rfl, rfl⟩

set_option maxHeartbeats 800000 in
theorem ptake_none (b : Nat) (x : List Bool) (A : Option Addr) (c : Nat) (w : World) (h : PIn w b x A c) (hl : x.length ≤ 65536) (hT : TabAt 0 tab w) (hx : nxt x 0 = none) :
    Calls Tryd.prog 10 #[.pointer (some ⟨b, 0, none⟩)] w fun e w' => e = .returned (.tuple #[.int .i64 0, .int .i64 21]) ∧ w = w' := by
  have hn := pnext_nat b 0 x A c w h hl (by omega) hT
  rw [hx] at hn
  have Hn := Lib.hid hn
  clear hn h hT hx
  go_enter Tryd.func10, Tryd.ntmps10
  go_wp2_with (go_at_call 14; refine Hn.out.mono ?_; rintro e w1 ⟨rfl, rfl⟩; simp only [oI, oB])
  go_ret2
  exact ⟨rfl, rfl⟩
set_option maxHeartbeats 800000 in
theorem ptake_some (b j : Nat) (x : List Bool) (A : Option Addr) (c : Nat) (w : World) (h : PIn w b x A c) (hl : x.length ≤ 65536) (hT : TabAt 0 tab w) (hx : nxt x 0 = some j) :
    Calls Tryd.prog 10 #[.pointer (some ⟨b, 0, none⟩)] w fun e w' => e = .returned (.tuple #[.int .i64 j, .int .i64 0]) ∧ PIn w' b (trn x j) A c ∧ Chg (PF b A) w w' := by
  have hn := pnext_nat b 0 x A c w h hl (by omega) hT
  rw [hx] at hn
  have hj := (nxt_some.1 hx).2.1
  have H := Lib.hid (And.intro h (And.intro hn hj))
  clear hn h hT hx
  go_enter Tryd.func10, Tryd.ntmps10
  go_wp2_with (first
    | (go_at_call 14; refine H.out.2.1.mono ?_; rintro e w1 ⟨rfl, rfl⟩; simp only [oI, oB])
    | (go_at_call 27; refine (pturn_any b j x A c _ H.out.1 H.out.2.2 hl).mono ?_; rintro e w2 ⟨rfl, hp2, hc2⟩; have H2 := Lib.hid (And.intro hp2 hc2); clear hp2 hc2))
  go_ret2
  exact ⟨rfl, H2.out.1, H2.out.2⟩

set_option maxHeartbeats 800000 in
theorem pto_out (b : Nat) (i : Int) (v : Bool) (x : List Bool) (A : Option Addr) (c : Nat) (w : World) (h : PIn w b x A c) (hi : i < 0 ∨ x.length ≤ i) :
    Calls Tryd.prog 28 #[.pointer (some ⟨b, 0, none⟩), .int .i64 i, .bool v] w fun e w' => e = .returned (.int .i64 11) ∧ w = w' := by
  have H := Lib.hid (And.intro h hi)
  clear h hi
  go_enter Tryd.func28, Tryd.ntmps28
  go_wp2_with (go_at_call 37; refine (pin_no b i x A c _ H.out.1 H.out.2).mono ?_; rintro e w1 ⟨rfl, rfl⟩)
  go_ret
  exact ⟨rfl, rfl⟩
set_option maxHeartbeats 800000 in
theorem pto_state (b i : Nat) (v : Bool) (x : List Bool) (A : Option Addr) (c : Nat) (w : World) (h : PIn w b x A c) (hl : x.length ≤ 65536) (hi : i < x.length) (hx : x.getD i false = v) :
    Calls Tryd.prog 28 #[.pointer (some ⟨b, 0, none⟩), .int .i64 i, .bool v] w fun e w' => e = .returned (.int .i64 23) ∧ w = w' := by
  have hh := phas_yes b i x A c w h hi hl
  rw [hx] at hh
  have H := Lib.hid (And.intro h (And.intro hi hh))
  have t1 : (v == v) = true := by simp
  clear h hi hx hh
  go_enter Tryd.func28, Tryd.ntmps28
  go_wp2_with (first
    | (go_at_call 37; refine (pin_yes b i x A c _ H.out.1 H.out.2.1).mono ?_; rintro e w1 ⟨rfl, rfl⟩)
    | (go_at_call 26; refine H.out.2.2.mono ?_; rintro e w1 ⟨rfl, rfl⟩))
  go_ret
  exact ⟨rfl, rfl⟩
set_option maxHeartbeats 800000 in
theorem pto_turn (b i : Nat) (v : Bool) (x : List Bool) (A : Option Addr) (c : Nat) (w : World) (h : PIn w b x A c) (hl : x.length ≤ 65536) (hi : i < x.length) (hx : x.getD i false = !v) :
    Calls Tryd.prog 28 #[.pointer (some ⟨b, 0, none⟩), .int .i64 i, .bool v] w fun e w' => e = .returned (.int .i64 0) ∧ PIn w' b (trn x i) A c ∧ Chg (PF b A) w w' := by
  have hh := phas_yes b i x A c w h hi hl
  rw [hx] at hh
  have H := Lib.hid (And.intro h (And.intro hi hh))
  have t1 : ((!v) == v) = false := by cases v <;> rfl
  clear h hi hx hh
  go_enter Tryd.func28, Tryd.ntmps28
  go_wp2_with (first
    | (go_at_call 37; refine (pin_yes b i x A c _ H.out.1 H.out.2.1).mono ?_; rintro e w1 ⟨rfl, rfl⟩)
    | (go_at_call 26; refine H.out.2.2.mono ?_; rintro e w1 ⟨rfl, rfl⟩)
    | (go_at_call 27; refine (pturn_any b i x A c _ H.out.1 H.out.2.1 hl).mono ?_; rintro e w2 ⟨rfl, hp2, hc2⟩; have H2 := Lib.hid (And.intro hp2 hc2); clear hp2 hc2))
  go_ret
  exact ⟨rfl, H2.out.1, H2.out.2⟩

/-- What Mark, Give make of a pool, and their answer. -/
def toL (x : List Bool) (i : Int) (v : Bool) : List Bool × Int :=
  if i < 0 ∨ x.length ≤ i then (x, 11) else if x.getD i.toNat false = v then (x, 23) else (trn x i.toNat, 0)

theorem pto_any (b : Nat) (i : Int) (v : Bool) (x : List Bool) (A : Option Addr) (c : Nat) (w : World) (h : PIn w b x A c) (hl : x.length ≤ 65536) :
    Calls Tryd.prog 28 #[.pointer (some ⟨b, 0, none⟩), .int .i64 i, .bool v] w fun e w' => e = .returned (.int .i64 (toL x i v).2) ∧ PIn w' b (toL x i v).1 A c ∧ Chg (PF b A) w w' := by
  unfold toL
  by_cases h1 : i < 0 ∨ x.length ≤ i
  · rw [if_pos h1]
    exact (pto_out b i v x A c w h h1).mono fun e w' ⟨he, hw⟩ => ⟨he, hw ▸ h, hw ▸ Chg.refl _ _⟩
  · obtain ⟨k, rfl⟩ := Int.eq_ofNat_of_zero_le (show 0 ≤ i by omega)
    rw [if_neg h1, Int.toNat_natCast]
    by_cases h2 : x.getD k false = v
    · rw [if_pos h2]
      exact (pto_state b k v x A c w h hl (by omega) h2).mono fun e w' ⟨he, hw⟩ => ⟨he, hw ▸ h, hw ▸ Chg.refl _ _⟩
    · rw [if_neg h2]
      exact pto_turn b k v x A c w h hl (by omega) (by revert h2; cases x.getD k false <;> cases v <;> simp)
theorem pmark_any (b : Nat) (i : Int) (x : List Bool) (A : Option Addr) (c : Nat) (w : World) (h : PIn w b x A c) (hl : x.length ≤ 65536) :
    Calls Tryd.prog 32 #[.pointer (some ⟨b, 0, none⟩), .int .i64 i] w fun e w' => e = .returned (.int .i64 (toL x i false).2) ∧ PIn w' b (toL x i false).1 A c ∧ Chg (PF b A) w w' := by
  have H := Lib.hid h
  clear h
  go_enter Tryd.func32, Tryd.ntmps32
  go_wp2_with (go_at_call 28; refine (pto_any b i false x A c _ H.out hl).mono ?_; rintro e w1 ⟨rfl, h1, h2⟩; have H2 := Lib.hid (And.intro h1 h2); clear h1 h2)
  go_ret
  exact ⟨rfl, H2.out.1, H2.out.2⟩
theorem pgive_any (b : Nat) (i : Int) (x : List Bool) (A : Option Addr) (c : Nat) (w : World) (h : PIn w b x A c) (hl : x.length ≤ 65536) :
    Calls Tryd.prog 11 #[.pointer (some ⟨b, 0, none⟩), .int .i64 i] w fun e w' => e = .returned (.int .i64 (toL x i true).2) ∧ PIn w' b (toL x i true).1 A c ∧ Chg (PF b A) w w' := by
  have H := Lib.hid h
  clear h
  go_enter Tryd.func11, Tryd.ntmps11
  go_wp2_with (go_at_call 28; refine (pto_any b i true x A c _ H.out hl).mono ?_; rintro e w1 ⟨rfl, h1, h2⟩; have H2 := Lib.hid (And.intro h1 h2); clear h1 h2)
  go_ret
  exact ⟨rfl, H2.out.1, H2.out.2⟩

end Go.Proofs.YtenmilemdkhijaaDoor
