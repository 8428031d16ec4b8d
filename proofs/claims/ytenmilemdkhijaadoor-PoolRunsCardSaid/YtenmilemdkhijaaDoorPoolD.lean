/- The pool: what lies in memory; Len, in, Has, turn. -/
import Derived.Test.YtenmilemdkhijaaDoorPoolC
import Derived.Test.YtenmilemdkhijaaDoorRow
namespace Go.Proofs.YtenmilemdkhijaaDoor
open Go.RowKit

/-- A pool of some numbers, in memory. -/
structure PIn (w : World) (b : Nat) (x : List Bool) (A : Option Addr) (c : Nat) : Prop where
  blk : Blk w b 62 #[.int .i64 x.length, .slice A (nw x) c]
  own : w.ownsRow 0 63 1 (.slice A (nw x) c) (nw x) (wds x)

/-- The blocks of a pool. -/
def PF (b : Nat) (A : Option Addr) : Nat → Prop := fun k => k = b ∨ ∃ a, A = some a ∧ k = a.block

section
variable {w w' : World} {b c : Nat} {x : List Bool} {A : Option Addr}
theorem PIn.chg {G : Nat → Prop} (h : PIn w b x A c) (hc : Chg G w w') (hG : ∀ k, PF b A k → ¬ G k) : PIn w' b x A c :=
  ⟨h.blk.chg hc (hG _ (.inl rfl)), own_chg h.own hc (fun g hg => hG _ (.inr (by cases A with | none => simp [Value.ownBlock] at hg | some a => simp [Value.ownBlock] at hg; exact ⟨a, rfl, hg.symm⟩)))⟩
theorem PIn.grew (h : PIn w b x A c) (hc : Grew w w') : PIn w' b x A c := h.chg hc fun _ _ => id
theorem PIn.lt (h : PIn w b x A c) : ∀ j, PF b A j → j < w.heap.size := by
  rintro j (rfl | ⟨a, rfl, rfl⟩)
  · exact h.blk.lt
  · obtain ⟨g, rfl, hg⟩ := own_some h.own
    exact hg
/-- A word's cell. -/
theorem PIn.word (h : PIn w b x A c) {k : Nat} (hk : k < nw x) : ∃ g, A = some ⟨g, 0, none⟩ ∧ g < w.heap.size ∧ g ≠ b ∧ w.cell? ⟨g, k, none⟩ = some (.int .u64 (wd x k)) ∧ w.frozen? ⟨g, k, none⟩ = false := by
  obtain ⟨g, rfl, hg⟩ := own_block h.own (by omega)
  obtain ⟨cur, -, hgc, hnc, hcm, hcs, htake, -⟩ := own_row h.own
  refine ⟨g, rfl, hg, fun e => own_blk_ne h.own h.blk (by decide) (by simp [Value.ownBlock, e]), ?_, (show Blk w g _ cur from hgc).frozen _⟩
  have := h.own.cells (g := g) rfl k _ (wds_at hk)
  rw [Addr.add_lit] at this
  simpa using this
end

theorem plen_any (b : Nat) (x : List Bool) (A : Option Addr) (c : Nat) (w : World) (h : PIn w b x A c) :
    Calls Tryd.prog 25 #[.pointer (some ⟨b, 0, none⟩)] w fun e w' => e = .returned (.int .i64 x.length) ∧ w = w' := by
  obtain ⟨c0, f0, s0⟩ := h.blk.facts
  clear h
  go_enter Tryd.func25, Tryd.ntmps25
  go_wp2
  go_ret
  exact ⟨rfl, rfl⟩

theorem pin_yes (b i : Nat) (x : List Bool) (A : Option Addr) (c : Nat) (w : World) (h : PIn w b x A c) (hi : i < x.length) :
    Calls Tryd.prog 37 #[.pointer (some ⟨b, 0, none⟩), .int .i64 i] w fun e w' => e = .returned (.bool true) ∧ w = w' := by
  obtain ⟨c0, f0, s0⟩ := h.blk.facts
  have t1 : decide ((0 : Int) ≤ (i : Int)) = true := decide_eq_true (by omega)
  have t2 : decide ((i : Int) < (x.length : Int)) = true := decide_eq_true (by omega)
  have t3 : decide (i < x.length) = true := decide_eq_true hi
  clear h
  go_enter Tryd.func37, Tryd.ntmps37
  go_wp2
  go_ret
  exact ⟨rfl, rfl⟩
theorem pin_no (b : Nat) (i : Int) (x : List Bool) (A : Option Addr) (c : Nat) (w : World) (h : PIn w b x A c) (hi : i < 0 ∨ x.length ≤ i) :
    Calls Tryd.prog 37 #[.pointer (some ⟨b, 0, none⟩), .int .i64 i] w fun e w' => e = .returned (.bool false) ∧ w = w' := by
  obtain ⟨c0, f0, s0⟩ := h.blk.facts
  clear h
  by_cases h1 : i < 0
  · have t1 : decide ((0 : Int) ≤ i) = false := decide_eq_false (by omega)
    clear hi
    go_enter Tryd.func37, Tryd.ntmps37
    go_wp2
    go_ret
    exact ⟨rfl, rfl⟩
  · have t1 : decide ((0 : Int) ≤ i) = true := decide_eq_true (by omega)
    have t2 : decide (i < (x.length : Int)) = false := decide_eq_false (by omega)
    clear hi
    go_enter Tryd.func37, Tryd.ntmps37
    go_wp2
    go_ret
    exact ⟨rfl, rfl⟩

theorem shr_nat (w s : Nat) : (w : Int) / 2 ^ s = ((w / 2 ^ s : Nat) : Int) := by
  rw [Int.natCast_ediv, Int.natCast_pow]; rfl
theorem has_eq {x : List Bool} {i : Nat} : (bits BinOp.and IntKind.u64 ((wd x (i / 64) : Nat) / 2 ^ (i % 64) : Int) 1 == 1) = x.getD i false := by
  have h1 : wd x (i / 64) / 2 ^ (i % 64) < 18446744073709551616 := Nat.lt_of_le_of_lt (Nat.div_le_self _ _) (wd_lt _ _)
  have h2 := bits_and_u64_nat (wd x (i / 64) / 2 ^ (i % 64)) 1 h1 (by decide)
  rw [shr_nat]
  have h3 : bits BinOp.and IntKind.u64 ((wd x (i / 64) / 2 ^ (i % 64) : Nat) : Int) 1 = ((wd x (i / 64) / 2 ^ (i % 64) &&& 1 : Nat) : Int) := h2
  rw [h3, Nat.and_one_is_mod, wd_has]
  cases x.getD i false <;> rfl
theorem bits_xor_u64_nat (a b : Nat) (ha : a < 18446744073709551616) (hb : b < 18446744073709551616) : bits BinOp.xor IntKind.u64 (a : Int) (b : Int) = ((a ^^^ b : Nat) : Int) := by
  have hx : a ^^^ b < 2 ^ 64 := Nat.xor_lt_two_pow (by omega) (by omega)
  have h1 : (BitVec.ofInt 64 (a : Int)).toNat = a := by
    rw [BitVec.ofInt_natCast, BitVec.toNat_ofNat]; exact Nat.mod_eq_of_lt (by omega)
  have h2 : (BitVec.ofInt 64 (b : Int)).toNat = b := by
    rw [BitVec.ofInt_natCast, BitVec.toNat_ofNat]; exact Nat.mod_eq_of_lt (by omega)
  show IntKind.u64.wrap ((BitVec.ofInt 64 (a : Int) ^^^ BitVec.ofInt 64 (b : Int)).toNat : Int) = _
  rw [BitVec.toNat_xor, h1, h2, IntKind.wrap_u64]
  omega
theorem pow_lt64 {s : Nat} (h : s < 64) : 2 ^ s < 18446744073709551616 := by
  have : 2 ^ s < 2 ^ 64 := Nat.pow_lt_pow_right (by decide) h
  simpa using this

theorem phas_no (b : Nat) (i : Int) (x : List Bool) (A : Option Addr) (c : Nat) (w : World) (h : PIn w b x A c) (hi : i < 0 ∨ x.length ≤ i) :
    Calls Tryd.prog 26 #[.pointer (some ⟨b, 0, none⟩), .int .i64 i] w fun e w' => e = .returned (.bool false) ∧ w = w' := by
  have H := Lib.hid (And.intro h hi)
  clear h hi
  go_enter Tryd.func26, Tryd.ntmps26
  go_wp2_with (go_at_call 37; refine (pin_no b i x A c _ H.out.1 H.out.2).mono ?_; rintro e w1 ⟨rfl, rfl⟩)
  go_ret
  exact ⟨rfl, rfl⟩

set_option maxHeartbeats 800000 in
theorem phas_yes (b i : Nat) (x : List Bool) (A : Option Addr) (c : Nat) (w : World) (h : PIn w b x A c) (hi : i < x.length) (hl : x.length ≤ 65536) :
    Calls Tryd.prog 26 #[.pointer (some ⟨b, 0, none⟩), .int .i64 i] w fun e w' => e = .returned (.bool (x.getD i false)) ∧ w = w' := by
  obtain ⟨c0, f0, s0⟩ := h.blk.facts
  have hnw := in_nw hi
  have hnl := nw_le x
  obtain ⟨g, rfl, hg, hgb, d0, fr⟩ := h.word hnw
  have t1 : (0 : Int) ≤ ((i / 64 : Nat) : Int) := by omega
  have H := Lib.hid (And.intro h hi)
  clear h
  go_enter Tryd.func26, Tryd.ntmps26
  go_wp2_with (go_at_call 37; refine (pin_yes b i x _ c _ H.out.1 H.out.2).mono ?_; rintro e w1 ⟨rfl, rfl⟩)
  go_ret
  exact ⟨congrArg (fun v => Ending.returned (.bool v)) has_eq, rfl⟩

theorem own_word {w : World} {base g c n s j : Nat} {e : TypeId} {xs : List Value} (h : w.ownsRow base e s (.slice (some ⟨g, 0, none⟩) n c) n xs) (u : Value) :
    (w.setCell ⟨g, j, none⟩ u).ownsRow base e s (.slice (some ⟨g, 0, none⟩) n c) n (xs.set j u) := by
  obtain ⟨cur, hb, hgc, hnc, hcm, hcs, htake, hxl⟩ := own_row h
  refine ⟨by rw [List.length_set]; exact h.1, .inr ⟨g, c, cur.setIfInBounds j u, rfl, hb, ?_, hnc, hcm, by simpa using hcs, ?_⟩⟩
  · simp [World.setCell, Array.getElem?_modify, hgc]
  · rw [← htake]
    simp [List.take_set]

/-- The pool in which a number has turned. -/
def trn (x : List Bool) (i : Nat) : List Bool := x.set i (!x.getD i false)

set_option maxHeartbeats 800000 in
theorem pturn_any (b i : Nat) (x : List Bool) (A : Option Addr) (c : Nat) (w : World) (h : PIn w b x A c) (hi : i < x.length) (hl : x.length ≤ 65536) :
    Calls Tryd.prog 27 #[.pointer (some ⟨b, 0, none⟩), .int .i64 i] w fun e w' => e = .returned (.tuple #[]) ∧ PIn w' b (trn x i) A c ∧ Chg (PF b A) w w' := by
  obtain ⟨c0, f0, s0⟩ := h.blk.facts
  have hnw := in_nw hi
  have hnl := nw_le x
  obtain ⟨g, rfl, hg, hgb, d0, fr⟩ := h.word hnw
  have t1 : (0 : Int) ≤ ((i / 64 : Nat) : Int) := by omega
  have H := Lib.hid (And.intro h hi)
  clear h
  go_enter Tryd.func27, Tryd.ntmps27
  go_wp2
  go_region
  refine bodyPost_end (results_none rfl _ _ _) rfl ?_
  have e1 : bits BinOp.xor IntKind.u64 ((wd x (i / 64) : Nat) : Int) (IntKind.u64.wrap (2 ^ (i % 64))) = ((wd x (i / 64) ^^^ 2 ^ (i % 64) : Nat) : Int) := by
    have hp := pow_lt64 (s := i % 64) (by omega)
    rw [show (2 : Int) ^ (i % 64) = ((2 ^ (i % 64) : Nat) : Int) from (Int.natCast_pow 2 (i % 64)).symm, wrapU hp, bits_xor_u64_nat _ _ (wd_lt _ _) hp]
  rw [e1]
  obtain ⟨W, hW⟩ : ∃ W, (w.setCell ⟨g, i / 64, none⟩ (.int .u64 ((wd x (i / 64) ^^^ 2 ^ (i % 64) : Nat) : Int))).drew = W := ⟨_, rfl⟩
  rw [hW]
  have hc : Chg (fun j => j = g) w W := hW ▸ ((Chg.refl (fun j => j = g) w).setCell (p := ⟨g, i / 64, none⟩) (fun _ => rfl) _).drew
  have ho := own_word (j := i / 64) H.out.1.own (.int .u64 ((wd x (i / 64) ^^^ 2 ^ (i % 64) : Nat) : Int))
  rw [wds_turn hi] at ho
  have ho2 := own_chg (F := NoF) ho ((Chg.refl NoF _).drew) (fun _ _ => id)
  rw [hW] at ho2
  have hn : nw (trn x i) = nw x := nw_set _ _ _
  refine ⟨rfl, ⟨?_, by rw [hn]; exact ho2⟩, hc.mono fun j _ e => .inr ⟨_, rfl, e⟩⟩
  rw [hn, show (trn x i).length = x.length from List.length_set]
  exact H.out.1.blk.chg hc (Ne.symm hgb)

end Go.Proofs.YtenmilemdkhijaaDoor
