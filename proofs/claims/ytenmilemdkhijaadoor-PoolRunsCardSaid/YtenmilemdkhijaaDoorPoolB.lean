/- A list of bools in words of 64 bits. No program stands in this text. -/
import Derived.Test.YtenmilemdkhijaaDoorPoolA
import Derived.Lib.TrailingZeros
namespace Go.Proofs.YtenmilemdkhijaaDoor

theorem getD_set (x : List Bool) (i m : Nat) (b : Bool) (hi : i < x.length) : (x.set i b).getD m false = if m = i then b else x.getD m false := by
  rw [List.getD_eq_getElem?_getD, List.getD_eq_getElem?_getD, List.getElem?_set]
  by_cases h : i = m
  · subst h; simp [hi]
  · simp [h, Ne.symm h]

/-- Word k. -/
def wd (x : List Bool) (k : Nat) : Nat := bitsN (fun j => x.getD (64 * k + j) false) 64
/-- How many words. -/
def nw (x : List Bool) : Nat := (x.length + 63) / 64
def wds (x : List Bool) : List Value := (List.range (nw x)).map fun k => .int .u64 (wd x k)

theorem wd_lt (x : List Bool) (k : Nat) : wd x k < 18446744073709551616 := bitsN_lt _ 64
theorem wd_bit (x : List Bool) (k j : Nat) : (wd x k).testBit j = (decide (j < 64) && x.getD (64 * k + j) false) := bitsN_bit _ 64 j
theorem wds_len (x : List Bool) : (wds x).length = nw x := by simp [wds]
theorem wds_at {x : List Bool} {k : Nat} (hk : k < nw x) : (wds x)[k]? = some (.int .u64 (wd x k)) := by simp [wds, hk]
theorem nw_le (x : List Bool) : nw x ≤ x.length := by unfold nw; omega
theorem in_nw {x : List Bool} {i : Nat} (hi : i < x.length) : i / 64 < nw x := by unfold nw; omega
theorem nw_set (x : List Bool) (i : Nat) (b : Bool) : nw (x.set i b) = nw x := by unfold nw; simp

theorem wd_turn {x : List Bool} {i : Nat} (hi : i < x.length) (k : Nat) : wd (x.set i (!x.getD i false)) k = if k = i / 64 then wd x k ^^^ 2 ^ (i % 64) else wd x k := by
  apply Nat.eq_of_testBit_eq
  intro j
  by_cases hk : k = i / 64
  · rw [if_pos hk, wd_bit, Nat.testBit_xor, wd_bit, Nat.testBit_two_pow, getD_set _ _ _ _ hi]
    by_cases hj : j < 64
    · by_cases he : 64 * k + j = i
      · have : i % 64 = j := by omega
        simp [hj, he, this]
      · have : ¬ i % 64 = j := by omega
        simp [hj, he, this]
    · have : ¬ i % 64 = j := by omega
      simp [hj, this]
  · rw [if_neg hk, wd_bit, wd_bit, getD_set _ _ _ _ hi]
    by_cases hj : j < 64
    · rw [if_neg (by omega)]
    · simp [hj]
theorem wds_turn {x : List Bool} {i : Nat} (hi : i < x.length) : (wds x).set (i / 64) (.int .u64 ((wd x (i / 64) ^^^ 2 ^ (i % 64) : Nat) : Int)) = wds (x.set i (!x.getD i false)) := by
  apply List.ext_getElem?
  intro k
  rw [List.getElem?_set]
  by_cases hk : k < nw x
  · rw [wds_at (x := x.set i (!x.getD i false)) (by rw [nw_set]; exact hk), wd_turn hi]
    by_cases h : i / 64 = k
    · subst h
      rw [if_pos rfl, if_pos (by rw [wds_len]; exact hk), if_pos rfl]
    · rw [if_neg h, if_neg (Ne.symm h), wds_at hk]
  · have h1 : (wds (x.set i (!x.getD i false)))[k]? = none := by rw [List.getElem?_eq_none]; rw [wds_len, nw_set]; omega
    have h2 : (wds x)[k]? = none := by rw [List.getElem?_eq_none]; rw [wds_len]; omega
    have := in_nw hi
    rw [if_neg (by omega), h1, h2]
theorem wd_has {x : List Bool} {i : Nat} : wd x (i / 64) / 2 ^ (i % 64) % 2 = if x.getD i false then 1 else 0 := by
  have h := wd_bit x (i / 64) (i % 64)
  rw [Nat.testBit_eq_decide_div_mod_eq] at h
  have e : 64 * (i / 64) + i % 64 = i := by omega
  have hlt : i % 64 < 64 := by omega
  rw [e] at h
  simp only [hlt, decide_true, Bool.true_and] at h
  cases hx : x.getD i false with
  | true => rw [hx] at h; simpa using h
  | false => rw [hx] at h; simp only [decide_eq_false_iff_not] at h; rw [if_neg (by simp)]; omega

/-- The least number from i on that is set. -/
def nxt (x : List Bool) (i : Nat) : Option Nat := (List.range x.length).find? fun j => decide (i ≤ j) && x.getD j false
theorem nxt_some {x : List Bool} {i j : Nat} : nxt x i = some j ↔ i ≤ j ∧ j < x.length ∧ x.getD j false = true ∧ ∀ m, i ≤ m → m < j → x.getD m false = false := by
  unfold nxt
  rw [List.find?_range_eq_some]
  simp only [Bool.and_eq_true, decide_eq_true_eq, List.mem_range, Bool.not_eq_eq_eq_not, Bool.not_true, Bool.and_eq_false_imp]
  constructor
  · rintro ⟨⟨h1, h2⟩, h3, h4⟩
    exact ⟨h1, h3, h2, fun m h5 h6 => h4 m h6 h5⟩
  · rintro ⟨h1, h2, h3, h4⟩
    exact ⟨⟨h1, h3⟩, h2, fun m h5 h6 => h4 m h6 h5⟩
theorem nxt_none {x : List Bool} {i : Nat} : nxt x i = none ↔ ∀ m, i ≤ m → x.getD m false = false := by
  unfold nxt
  rw [List.find?_eq_none]
  simp only [List.mem_range, Bool.and_eq_true, decide_eq_true_eq, not_and, Bool.not_eq_true]
  constructor
  · intro h m hm
    by_cases hx : m < x.length
    · exact h m hx hm
    · rw [List.getD_eq_getElem?_getD, List.getElem?_eq_none (by omega)]; rfl
  · intro h m _ hm
    exact h m hm

theorem ctz_bits {w : Nat} (h0 : w ≠ 0) (h : w < 18446744073709551616) : Lib.ctz 64 w < 64 ∧ w.testBit (Lib.ctz 64 w) = true ∧ ∀ j, j < Lib.ctz 64 w → w.testBit j = false := by
  obtain ⟨m, hm, hlt⟩ := Lib.ctzFrom_spec 64 w (by omega) h
  have e : Lib.ctz 64 w = Lib.ctzFrom 64 w := by unfold Lib.ctz; rw [if_neg h0]
  rw [e]
  generalize Lib.ctzFrom 64 w = c at *
  rw [Nat.mul_comm] at hm
  refine ⟨hlt, ?_, fun j hj => ?_⟩
  · rw [hm, Nat.testBit_mul_two_pow]
    simp [Nat.testBit_zero]
  · rw [hm, Nat.testBit_mul_two_pow]
    have : ¬ c ≤ j := by omega
    simp [this]
theorem zero_bits {w : Nat} (h : w = 0) (j : Nat) : w.testBit j = false := by subst h; simp

/-- A word, from its bit s on. -/
theorem low_off {w s : Nat} (j : Nat) : (w / 2 ^ s * 2 ^ s).testBit j = (decide (s ≤ j) && w.testBit j) := by
  rw [Nat.testBit_mul_two_pow, Nat.testBit_div_two_pow]
  by_cases h : s ≤ j
  · simp only [h, decide_true, Bool.true_and]
    congr 1
    omega
  · simp [h]
theorem low_off_lt {w s : Nat} (h : w < 18446744073709551616) : w / 2 ^ s * 2 ^ s < 18446744073709551616 := Nat.lt_of_le_of_lt (Nat.div_mul_le_self _ _) h

/-- Where the search stands: nothing is set from i up to word k; the word that is looked at, and what it tells. -/
theorem nxt_hit {x : List Bool} {i k w : Nat} (hno : ∀ m, i ≤ m → m < 64 * k → x.getD m false = false) (hik : i / 64 ≤ k) (hk : k < nw x) (hw : w = if k = i / 64 then wd x k / 2 ^ (i % 64) * 2 ^ (i % 64) else wd x k) (h0 : w ≠ 0) :
    w < 18446744073709551616 ∧ nxt x i = some (64 * k + Lib.ctz 64 w) := by
  have hlt : w < 18446744073709551616 := by
    rw [hw]; split
    · exact low_off_lt (wd_lt _ _)
    · exact wd_lt _ _
  obtain ⟨c1, c2, c3⟩ := ctz_bits h0 hlt
  have hb : ∀ j, w.testBit j = (decide (i ≤ 64 * k + j) && (decide (j < 64) && x.getD (64 * k + j) false)) := by
    intro j
    rw [hw]
    split
    · rename_i e
      rw [low_off, wd_bit]
      have : decide (i % 64 ≤ j) = decide (i ≤ 64 * k + j) := decide_eq_decide.2 (by omega)
      rw [this]
    · rename_i e
      rw [wd_bit]
      have : i ≤ 64 * k + j := by omega
      simp [this]
  rw [hb] at c2
  simp only [Bool.and_eq_true, decide_eq_true_eq] at c2
  refine ⟨hlt, nxt_some.2 ⟨c2.1, ?_, c2.2.2, fun m h1 h2 => ?_⟩⟩
  · apply Nat.lt_of_not_le
    intro h
    have := c2.2.2
    rw [List.getD_eq_getElem?_getD, List.getElem?_eq_none h] at this
    cases this
  · by_cases hm : m < 64 * k
    · exact hno m h1 hm
    · have h3 := c3 (m - 64 * k) (by omega)
      rw [hb] at h3
      have e : 64 * k + (m - 64 * k) = m := by omega
      rw [e] at h3
      have e2 : m - 64 * k < 64 := by omega
      simpa [h1, e2] using h3
theorem nxt_miss {x : List Bool} {i k w : Nat} (hno : ∀ m, i ≤ m → m < 64 * k → x.getD m false = false) (hik : i / 64 ≤ k) (hw : w = if k = i / 64 then wd x k / 2 ^ (i % 64) * 2 ^ (i % 64) else wd x k) (h0 : w = 0) :
    ∀ m, i ≤ m → m < 64 * (k + 1) → x.getD m false = false := by
  intro m h1 h2
  by_cases hm : m < 64 * k
  · exact hno m h1 hm
  · have e : 64 * k + (m - 64 * k) = m := by omega
    have e2 : m - 64 * k < 64 := by omega
    have h3 : (wd x k).testBit (m - 64 * k) = x.getD m false := by rw [wd_bit, e]; simp [e2]
    rw [← h3]
    split at hw
    · rename_i ek
      have h4 := zero_bits h0 (m - 64 * k)
      rw [hw, low_off] at h4
      have e3 : i % 64 ≤ m - 64 * k := by omega
      simpa [e3] using h4
    · rw [← hw]; exact zero_bits h0 _
theorem nxt_end {x : List Bool} {i k : Nat} (hno : ∀ m, i ≤ m → m < 64 * k → x.getD m false = false) (hk : nw x ≤ k) : nxt x i = none := by
  rw [nxt_none]
  intro m hm
  by_cases hx : m < 64 * k
  · exact hno m hm hx
  · rw [List.getD_eq_getElem?_getD, List.getElem?_eq_none]
    · rfl
    · unfold nw at hk; omega

/-- How many are set. -/
def cnt (x : List Bool) : Nat := cntN (fun j => x.getD j false) x.length
theorem cntN_false {f : Nat → Bool} : ∀ {n : Nat}, (∀ j, j < n → f j = false) → cntN f n = 0
  | 0, _ => rfl
  | n + 1, h => by rw [cntN_succ, cntN_false fun j hj => h j (by omega), h n (by omega)]; rfl
theorem cnt_words (x : List Bool) : cntN (fun j => x.getD j false) (64 * nw x) = cnt x := by
  have e : 64 * nw x = x.length + (64 * nw x - x.length) := by unfold nw; omega
  rw [e, cntN_add]
  unfold cnt
  rw [cntN_false (n := 64 * nw x - x.length)]
  · rfl
  · intro j _
    rw [List.getD_eq_getElem?_getD, List.getElem?_eq_none (by omega)]
    rfl
theorem cnt_word (x : List Bool) (k : Nat) : cntN (fun j => x.getD j false) (64 * (k + 1)) = cntN (fun j => x.getD j false) (64 * k) + cntN (fun j => x.getD (64 * k + j) false) 64 := by
  rw [show 64 * (k + 1) = 64 * k + 64 by omega, cntN_add]

end Go.Proofs.YtenmilemdkhijaaDoor
