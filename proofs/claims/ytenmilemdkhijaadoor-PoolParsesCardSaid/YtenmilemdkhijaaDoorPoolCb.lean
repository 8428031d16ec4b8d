/- The pool: Parse. -/
import Derived.Test.YtenmilemdkhijaaDoorPoolCa
namespace Go.Proofs.YtenmilemdkhijaaDoor
open Go.RowKit

theorem btf_has {f : Nat → Bool} {i : Nat} : btf f (i / 8) / 2 ^ (i % 8) % 2 = if f i then 1 else 0 := by
  have h : (btf f (i / 8)).testBit (i % 8) = (decide (i % 8 < 8) && f (8 * (i / 8) + i % 8)) := bitsN_bit _ 8 (i % 8)
  rw [Nat.testBit_eq_decide_div_mod_eq] at h
  have e : 8 * (i / 8) + i % 8 = i := by omega
  have hlt : i % 8 < 8 := by omega
  rw [e] at h
  simp only [hlt, decide_true, Bool.true_and] at h
  cases hx : f i with
  | true => rw [hx] at h; simpa using h
  | false => rw [hx] at h; simp only [decide_eq_false_iff_not] at h; rw [if_neg (by simp)]; omega
theorem bits_and_u8_nat (a b : Nat) (ha : a < 256) (hb : b < 256) : bits BinOp.and IntKind.u8 (a : Int) (b : Int) = ((a &&& b : Nat) : Int) := by
  have hx : a &&& b < 2 ^ 8 := Nat.and_lt_two_pow a (by omega)
  have h1 : (BitVec.ofInt 8 (a : Int)).toNat = a := by
    rw [BitVec.ofInt_natCast, BitVec.toNat_ofNat]; exact Nat.mod_eq_of_lt (by omega)
  have h2 : (BitVec.ofInt 8 (b : Int)).toNat = b := by
    rw [BitVec.ofInt_natCast, BitVec.toNat_ofNat]; exact Nat.mod_eq_of_lt (by omega)
  show IntKind.u8.wrap ((BitVec.ofInt 8 (a : Int) &&& BitVec.ofInt 8 (b : Int)).toNat : Int) = _
  rw [BitVec.toNat_and, h1, h2, IntKind.wrap_u8]
  omega
theorem has8_eq {f : Nat → Bool} {i : Nat} : (bits BinOp.and IntKind.u8 ((btf f (i / 8) : Nat) / 2 ^ (i % 8) : Int) 1 == 1) = f i := by
  have h1 : btf f (i / 8) / 2 ^ (i % 8) < 256 := Nat.lt_of_le_of_lt (Nat.div_le_self _ _) (btf_lt _ _)
  have h2 := bits_and_u8_nat (btf f (i / 8) / 2 ^ (i % 8)) 1 h1 (by decide)
  rw [shr_nat]
  have h3 : bits BinOp.and IntKind.u8 ((btf f (i / 8) / 2 ^ (i % 8) : Nat) : Int) 1 = ((btf f (i / 8) / 2 ^ (i % 8) &&& 1 : Nat) : Int) := h2
  rw [h3, Nat.and_one_is_mod, btf_has]
  cases f i <;> rfl

/-- The pool of a size behind k bits. -/
def part (f : Nat → Bool) (n k : Nat) : List Bool := (List.range n).map fun j => if j < k then f j else true
theorem part_len (f : Nat → Bool) (n k : Nat) : (part f n k).length = n := by simp [part]
theorem part_at (f : Nat → Bool) (n k j : Nat) : (part f n k).getD j false = (decide (j < n) && if j < k then f j else true) := by
  unfold part
  rw [List.getD_eq_getElem?_getD, List.getElem?_map]
  by_cases h : j < n
  · rw [List.getElem?_range h]; simp [h]
  · rw [List.getElem?_eq_none (by simp; omega)]; simp [h]
theorem part_zero (f : Nat → Bool) (n : Nat) : part f n 0 = full n := ext_getD (by rw [part_len, full_len]) fun j => by rw [part_at, full_at]; simp
theorem part_keep {f : Nat → Bool} {n k : Nat} (h : n ≤ k ∨ f k = true) : part f n (k + 1) = part f n k := ext_getD (by rw [part_len, part_len]) fun j => by
  rw [part_at, part_at]
  by_cases hj : j = k
  · subst hj
    rcases h with h | h
    · simp [show ¬ j < n by omega]
    · simp [h]
  · rw [show decide (j < n) = decide (j < n) from rfl]
    by_cases h2 : j < k
    · simp [h2, show j < k + 1 by omega]
    · simp [h2, show ¬ j < k + 1 by omega]
theorem part_turn {f : Nat → Bool} {n k : Nat} (h : k < n) (hf : f k = false) : trn (part f n k) k = part f n (k + 1) := ext_getD (by rw [trn_len, part_len, part_len]) fun j => by
  rw [trn_at (by rw [part_len]; exact h), part_at, part_at, part_at]
  by_cases hj : j = k
  · subst hj; simp [h, hf]
  · rw [if_neg hj]
    by_cases h2 : j < k
    · simp [h2, show j < k + 1 by omega]
    · simp [h2, show ¬ j < k + 1 by omega]
/-- All bits. -/
def ofBits (f : Nat → Bool) (n : Nat) : List Bool := (List.range n).map f
theorem ofBits_len (f : Nat → Bool) (n : Nat) : (ofBits f n).length = n := by simp [ofBits]
theorem ofBits_at (f : Nat → Bool) (n j : Nat) : (ofBits f n).getD j false = (decide (j < n) && f j) := by
  unfold ofBits
  rw [List.getD_eq_getElem?_getD, List.getElem?_map]
  by_cases h : j < n
  · rw [List.getElem?_range h]; simp [h]
  · rw [List.getElem?_eq_none (by simp; omega)]; simp [h]
theorem part_end {f : Nat → Bool} {n k : Nat} (h : n ≤ k) : part f n k = ofBits f n := ext_getD (by rw [part_len, ofBits_len]) fun j => by
  rw [part_at, ofBits_at]
  by_cases hj : j < n
  · simp [hj, show j < k by omega]
  · simp [hj]
theorem ofBits_self (x : List Bool) : ofBits (fun j => x.getD j false) x.length = x := ext_getD (ofBits_len _ _) fun j => by
  rw [ofBits_at]
  by_cases hj : j < x.length
  · simp [hj]
  · rw [List.getD_eq_getElem?_getD, List.getElem?_eq_none (by omega)]; simp

/-- A pool handed back with true: new blocks alone. -/
def PParsed (w w' : World) (x : List Bool) (e : Ending) : Prop := ∃ b A c, e = .returned (.tuple #[.pointer (some ⟨b, 0, none⟩), .bool true]) ∧ PIn w' b x A c ∧ Grew w w' ∧ ∀ j, PF b A j → w.heap.size ≤ j

theorem brow_cell {w : World} {B : Option Addr} {m : Nat} {f : Nat → Bool} (h : Sl w 1 B m (brow f m)) {k : Nat} (hk : k < m) : ∃ g off, B = some ⟨g, off, none⟩ ∧ g < w.heap.size ∧ w.cell? ⟨g, off + k, none⟩ = some (.int .u8 (btf f k)) := by
  obtain ⟨g, off, rfl, hg, hc⟩ := h.2 (by omega)
  exact ⟨g, off, rfl, hg, hc k _ (by rw [brow_at, if_pos hk])⟩

set_option maxRecDepth 100000 in
set_option maxHeartbeats 1600000 in
theorem pparse_len (n : Nat) (f : Nat → Bool) (m : Nat) (B : Option Addr) (cb : Nat) (w : World) (hn : n ≤ 300) (hm : m ≤ 100) (hne : m ≠ (n + 7) / 8) :
    Calls Tryd.prog 21 #[.slice B m cb, .int .i64 n] w fun e w' => e = .returned (.tuple #[.pointer none, .bool false]) ∧ Grew w w' := by
  have t1 : ((m : Int) != (((n + 7) / 8 : Nat) : Int)) = true := by simpa using fun h => hne (Int.ofNat.inj h)
  have t2 : ((m : Int) != ((n : Int) + 7) / 8) = true := by
    rw [show ((n : Int) + 7) / 8 = (((n + 7) / 8 : Nat) : Int) by omega]; exact t1
  have t3 : (n : Int) ≤ 300 := by omega
  have t4 : (0 : Int) ≤ (n : Int) := by omega
  clear hne
  go_enter Tryd.func21, Tryd.ntmps21
  go_wp2_with (go_at_call 9; refine (pnew_any n w (by omega)).mono ?_; rintro e w1 ⟨A, c, rfl, hp1, hg1, hn1⟩; have HG1 := Lib.hid hg1; clear hp1 hg1 hn1)
  go_ret2
  exact ⟨rfl, HG1.out⟩

set_option maxRecDepth 100000 in
set_option maxHeartbeats 3200000 in
theorem pparse_any (n : Nat) (f : Nat → Bool) (m : Nat) (B : Option Addr) (cb : Nat) (w : World) (hn : n ≤ 300) (hm : m ≤ 100) (hne : m = (n + 7) / 8) (hs : Sl w 1 B m (brow f m)) (hT : TabAt 0 tab w) (R : Ending → World → Prop)
    (hbad : ∀ i w', n ≤ i → i < 8 * m → f i = true → Grew w w' → R (.returned (.tuple #[.pointer none, .bool false])) w')
    (hok : (∀ i, n ≤ i → i < 8 * m → f i = false) → ∀ e w', PParsed w w' (ofBits f n) e → R e w') :
    Calls Tryd.prog 21 #[.slice B m cb, .int .i64 n] w R := by
  have t1 : ((m : Int) != (((n + 7) / 8 : Nat) : Int)) = false := by rw [hne]; simp
  have t2 : ((m : Int) != ((n : Int) + 7) / 8) = false := by
    rw [show ((n : Int) + 7) / 8 = (((n + 7) / 8 : Nat) : Int) by omega]; exact t1
  have t3 : (n : Int) ≤ 300 := by omega
  have t4 : (0 : Int) ≤ (n : Int) := by omega
  have H := Lib.hid (And.intro hs hT)
  have HB := Lib.hid hbad
  have HO := Lib.hid hok
  have hnm : n ≤ 8 * m := by omega
  clear hs hT hbad hok hne
  go_enter Tryd.func21, Tryd.ntmps21
  go_wp2_with (go_at_call 9; refine (pnew_any n w (by omega)).mono ?_; rintro e w1 ⟨A, c, rfl, hp1, hg1, hn1⟩; have H1 := Lib.hid (And.intro hp1 (And.intro hg1 hn1)); clear hp1 hg1 hn1)
  clear t1 t2
  obtain ⟨b, hb⟩ : ∃ b, w.heap.size = b := ⟨_, rfl⟩
  have hb0 := Lib.hid hb
  rw [hb]
  have H2 := Lib.hid (show PIn w1 b (part f n 0) A c from by rw [part_zero, ← hb]; exact H1.out.1)
  clear hb
  go_loopw [24] (fun i wr => ∃ k : Nat, k ≤ 8 * m ∧ i = .int .i64 k ∧ (∀ j, n ≤ j → j < k → f j = false) ∧ PIn wr b (part f n k) A c ∧ Chg (PF b A) w1 wr) (fun i _ => 8 * m - (intOf i).toNat)
  case atStart => exact ⟨0, by omega, rfl, fun j _ hj => absurd hj (by omega), H2.out, Chg.refl _ _⟩
  case round =>
    obtain ⟨k, hk, rfl, hno, hp, hc⟩ := hrel
    have HP := Lib.hid (And.intro hno (And.intro hp hc))
    have hGw : Grew w wr := Chg.trans H1.out.2.1 hc fun j hj hf => absurd (H1.out.2.2 j (by rw [hb0.out]; exact hf)) (by omega)
    have HG := Lib.hid hGw
    clear hno hp hc hGw
    by_cases hlt : k < 8 * m
    · obtain ⟨g, off, rfl, hg, d0⟩ := brow_cell (H.out.1.grew HG.out) (show k / 8 < m by omega)
      have u1 : (0 : Int) ≤ ((k / 8 : Nat) : Int) := by omega
      have u2 : decide ((k : Int) < (m : Int) * 8) = true := decide_eq_true (by omega)
      have key := has8_eq (f := f) (i := k)
      cases hf : f k with
      | true =>
        rw [hf] at key
        by_cases hkn : k < n
        · go_wp2
          exact ⟨⟨k + 1, by omega, by simp, fun j h1 h2 => HP.out.1 j h1 (by omega), by rw [part_keep (.inr hf)]; exact HP.out.2.1, HP.out.2.2⟩, by simp [intOf]; omega⟩
        · go_wp2
          exact HB.out k _ (by omega) hlt hf HG.out
      | false =>
        rw [hf] at key
        by_cases hkn : k < n
        · go_wp2_with (go_at_call 27; refine (pturn_any b k _ A c _ HP.out.2.1 (by rw [part_len]; exact hkn) (by rw [part_len]; omega)).mono ?_; rintro e w5 ⟨rfl, hp5, hc5⟩; rw [part_turn hkn hf] at hp5; have HP5 := Lib.hid (And.intro hp5 hc5); clear hp5 hc5)
          exact ⟨⟨k + 1, by omega, by simp, fun j h1 h2 => HP.out.1 j h1 (by omega), HP5.out.1, Chg.trans HP.out.2.2 HP5.out.2 fun _ _ h => h⟩, by simp [intOf]; omega⟩
        · go_wp2
          exact ⟨⟨k + 1, by omega, by simp, fun j h1 h2 => by
            by_cases e : j = k
            · rw [e]; exact hf
            · exact HP.out.1 j h1 (by omega), by rw [part_keep (.inl (by omega))]; exact HP.out.2.1, HP.out.2.2⟩, by simp [intOf]; omega⟩
    · obtain rfl : k = 8 * m := by omega
      have u2 : decide (8 * (m : Int) < (m : Int) * 8) = false := decide_eq_false (by omega)
      go_wp2
      have hp := HP.out.2.1
      rw [part_end hnm] at hp
      exact HO.out HP.out.1 _ _ ⟨b, A, c, rfl, hp, HG.out, fun j hj => by have := H1.out.2.2 j (by rw [hb0.out]; exact hj); exact this⟩

end Go.Proofs.YtenmilemdkhijaaDoor
