/- Bits of a number, counted and parted into bytes: the plain law behind math/bits.OnesCount64. No program stands in this text. -/
import Derived.Test.YtenmilemdkhijaaDoorBase
namespace Go.Proofs.YtenmilemdkhijaaDoor

/-- The number of the first n bits of f. -/
def bitsN (f : Nat → Bool) : Nat → Nat
  | 0 => 0
  | n + 1 => bitsN f n + if f n then 2 ^ n else 0
theorem bitsN_succ (f : Nat → Bool) (n : Nat) : bitsN f (n + 1) = bitsN f n + if f n then 2 ^ n else 0 := rfl
theorem bitsN_lt (f : Nat → Bool) : ∀ n, bitsN f n < 2 ^ n
  | 0 => by simp [bitsN]
  | n + 1 => by
    have := bitsN_lt f n
    unfold bitsN
    rw [Nat.pow_succ]
    split <;> omega
theorem bitsN_bit (f : Nat → Bool) : ∀ (n j : Nat), (bitsN f n).testBit j = (decide (j < n) && f j)
  | 0, j => by simp [bitsN]
  | n + 1, j => by
    have h := Nat.testBit_two_pow_mul_add (if f n then 1 else 0) (bitsN_lt f n) j
    have e : bitsN f (n + 1) = 2 ^ n * (if f n then 1 else 0) + bitsN f n := by
      rw [bitsN_succ]
      split <;> simp [Nat.add_comm]
    rw [e, h, bitsN_bit f n j]
    by_cases h1 : j < n
    · simp [h1]; omega
    · by_cases h2 : j = n
      · subst h2; cases f j <;> simp
      · have h3 : ¬ j < n + 1 := by omega
        rw [if_neg h1]
        simp only [h3, decide_false, Bool.false_and]
        have : j - n = (j - n - 1) + 1 := by omega
        rw [this]
        split <;> simp [Nat.testBit_succ]
theorem bitsN_ext {f g : Nat → Bool} {n : Nat} (h : ∀ j, j < n → f j = g j) : bitsN f n = bitsN g n := by
  apply Nat.eq_of_testBit_eq
  intro j
  rw [bitsN_bit, bitsN_bit]
  by_cases hj : j < n
  · rw [h j hj]
  · simp [hj]
theorem bitsN_of {x n : Nat} (h : x < 2 ^ n) : bitsN x.testBit n = x := by
  apply Nat.eq_of_testBit_eq
  intro j
  rw [bitsN_bit]
  by_cases hj : j < n
  · simp [hj]
  · have : x.testBit j = false := Nat.testBit_lt_two_pow (Nat.lt_of_lt_of_le h (Nat.pow_le_pow_right (by decide) (by omega)))
    simp [hj, this]
/-- How many of the first n are set. -/
def cntN (f : Nat → Bool) : Nat → Nat
  | 0 => 0
  | n + 1 => cntN f n + if f n then 1 else 0
theorem cntN_succ (f : Nat → Bool) (n : Nat) : cntN f (n + 1) = cntN f n + if f n then 1 else 0 := rfl
theorem cntN_add (f : Nat → Bool) (a : Nat) : ∀ b, cntN f (a + b) = cntN f a + cntN (fun j => f (a + j)) b
  | 0 => rfl
  | b + 1 => by rw [← Nat.add_assoc, cntN_succ, cntN_succ, cntN_add f a b]; omega
theorem bitsN_add (f : Nat → Bool) (a : Nat) : ∀ b, bitsN f (a + b) = bitsN f a + 2 ^ a * bitsN (fun j => f (a + j)) b
  | 0 => by simp [bitsN]
  | b + 1 => by
    rw [← Nat.add_assoc, bitsN_succ, bitsN_succ, bitsN_add f a b]
    split
    · rw [Nat.mul_add, Nat.pow_add]; omega
    · simp
theorem and_split {a b c M : Nat} (ha : a < 256) (hc : c < 256) : (256 * b + a) &&& (256 * M + c) = 256 * (b &&& M) + (a &&& c) := by
  have hac : a &&& c < 2 ^ 8 := Nat.and_lt_two_pow _ (by omega)
  apply Nat.eq_of_testBit_eq
  intro j
  rw [Nat.testBit_and]
  have e := fun (q : Nat) {r : Nat} (h : r < 2 ^ 8) => Nat.testBit_two_pow_mul_add q h j
  have e8 : (256 : Nat) = 2 ^ 8 := by decide
  rw [e8, e b (by omega), e M (by omega), e (b &&& M) hac]
  by_cases hj : j < 8 <;> simp [hj]
/-- The first two steps over n bytes. -/
def s1 (b : Nat) : Nat := (b / 2 &&& 85) + (b &&& 85)
def s2 (b : Nat) : Nat := (s1 b / 4 &&& 51) + (s1 b &&& 51)
def msk (c : Nat) : Nat → Nat
  | 0 => 0
  | n + 1 => 256 * msk c n + c
theorem lo1 : ∀ b : Fin 256, ∀ q : Fin 2, ((b.val / 2 + 128 * q.val) &&& 85) = (b.val / 2 &&& 85) ∧ s1 b.val < 256 := by decide +kernel
theorem lo2 : ∀ b : Fin 256, ∀ q : Fin 4, ((b.val / 4 + 64 * q.val) &&& 51) = (b.val / 4 &&& 51) := by decide +kernel
theorem lo3 : ∀ b : Fin 256, s2 b.val < 256 ∧ s2 b.val % 16 ≤ 4 ∧ s2 b.val / 16 ≤ 4 ∧ s1 b.val < 256 := by decide +kernel
theorem lo4 : ∀ a : Fin 5, ∀ b : Fin 5, ∀ q : Fin 5, ((16 * a.val + b.val) / 16 + (16 * a.val + b.val) + 16 * q.val) &&& 15 = a.val + b.val := by decide +kernel
theorem st1 (b y n : Nat) (hb : b < 256) : ((256 * y + b) / 2 &&& msk 85 (n + 1)) + ((256 * y + b) &&& msk 85 (n + 1)) = 256 * ((y / 2 &&& msk 85 n) + (y &&& msk 85 n)) + s1 b := by
  have e : (256 * y + b) / 2 = 256 * (y / 2) + (b / 2 + 128 * (y % 2)) := by omega
  have h := (lo1 ⟨b, hb⟩ ⟨y % 2, by omega⟩).1
  simp only [] at h
  rw [e, msk, and_split (by omega) (by omega), and_split hb (by omega), h]
  unfold s1
  omega
theorem st2 (b y n : Nat) (hb : b < 256) : ((256 * y + b) / 4 &&& msk 51 (n + 1)) + ((256 * y + b) &&& msk 51 (n + 1)) = 256 * ((y / 4 &&& msk 51 n) + (y &&& msk 51 n)) + ((b / 4 &&& 51) + (b &&& 51)) := by
  have e : (256 * y + b) / 4 = 256 * (y / 4) + (b / 4 + 64 * (y % 4)) := by omega
  have h := lo2 ⟨b, hb⟩ ⟨y % 4, by omega⟩
  simp only [] at h
  rw [e, msk, and_split (by omega) (by omega), and_split hb (by omega), h]
  omega
theorem st3 (p q y n : Nat) (hp : p ≤ 4) (hq : q ≤ 4) (hy : y % 16 ≤ 4) : ((256 * y + (16 * p + q)) / 16 + (256 * y + (16 * p + q)) &&& msk 15 (n + 1)) = 256 * (y / 16 + y &&& msk 15 n) + (p + q) := by
  have e : (256 * y + (16 * p + q)) / 16 + (256 * y + (16 * p + q)) = 256 * (y / 16 + y) + ((16 * p + q) / 16 + (16 * p + q) + 16 * (y % 16)) := by omega
  have h := lo4 ⟨p, by omega⟩ ⟨q, by omega⟩ ⟨y % 16, by omega⟩
  simp only [] at h
  rw [e, msk, and_split (by omega) (by omega), h]
/-- The three steps over bytes. -/
def byt : List Nat → Nat
  | [] => 0
  | b :: l => 256 * byt l + b
theorem step1 : ∀ l : List Nat, (∀ b ∈ l, b < 256) → (byt l / 2 &&& msk 85 l.length) + (byt l &&& msk 85 l.length) = byt (l.map s1)
  | [], _ => rfl
  | b :: l, h => by
    rw [List.length_cons, byt, st1 b _ _ (h b (by simp)), step1 l fun c hc => h c (by simp [hc])]
    rfl
theorem step2 : ∀ l : List Nat, (∀ b ∈ l, b < 256) → (byt l / 4 &&& msk 51 l.length) + (byt l &&& msk 51 l.length) = byt (l.map fun b => (b / 4 &&& 51) + (b &&& 51))
  | [], _ => rfl
  | b :: l, h => by
    rw [List.length_cons, byt, st2 b _ _ (h b (by simp)), step2 l fun c hc => h c (by simp [hc])]
    rfl
theorem step3 : ∀ l : List Nat, (∀ b ∈ l, b % 16 ≤ 4 ∧ b / 16 ≤ 4) → (byt l / 16 + byt l &&& msk 15 l.length) = byt (l.map fun b => b / 16 + b % 16)
  | [], _ => rfl
  | b :: l, h => by
    have hb := h b (by simp)
    have hl : byt l % 16 ≤ 4 := by
      cases l with
      | nil => simp [byt]
      | cons c l => have := (h c (by simp)).1; unfold byt; omega
    have e : b = 16 * (b / 16) + b % 16 := by omega
    rw [List.length_cons, byt]
    rw [show (256 * byt l + b) = 256 * byt l + (16 * (b / 16) + b % 16) by omega, st3 _ _ _ _ hb.2 hb.1 hl, step3 l fun c hc => h c (by simp [hc])]
    simp only [List.map_cons, byt]
theorem steps (l : List Nat) (h : ∀ b ∈ l, b < 256) :
    let a1 := (byt l / 2 &&& msk 85 l.length) + (byt l &&& msk 85 l.length)
    let a2 := (a1 / 4 &&& msk 51 l.length) + (a1 &&& msk 51 l.length)
    (a2 / 16 + a2 &&& msk 15 l.length) = byt (l.map fun b => s2 b / 16 + s2 b % 16) := by
  intro a1 a2
  have h1 : a1 = byt (l.map s1) := step1 l h
  have h2 : a2 = byt (l.map s2) := by
    show (a1 / 4 &&& msk 51 l.length) + (a1 &&& msk 51 l.length) = _
    have := step2 (l.map s1) (by
      intro b hb
      obtain ⟨c, hc, rfl⟩ := List.mem_map.1 hb
      exact (lo3 ⟨c, h c hc⟩).2.2.2)
    rw [List.length_map, ← h1] at this
    rw [this, List.map_map]
    rfl
  have := step3 (l.map s2) (by
    intro b hb
    obtain ⟨c, hc, rfl⟩ := List.mem_map.1 hb
    exact ⟨(lo3 ⟨c, h c hc⟩).2.1, (lo3 ⟨c, h c hc⟩).2.2.1⟩)
  rw [List.length_map, ← h2] at this
  rw [this, List.map_map]
  rfl
theorem pop8 : ∀ b0 b1 b2 b3 b4 b5 b6 b7 : Bool, s2 (bitsN (fun j => [b0, b1, b2, b3, b4, b5, b6, b7].getD j false) 8) / 16 + s2 (bitsN (fun j => [b0, b1, b2, b3, b4, b5, b6, b7].getD j false) 8) % 16 = cntN (fun j => [b0, b1, b2, b3, b4, b5, b6, b7].getD j false) 8 := by decide +kernel
theorem cntN_ext {f g : Nat → Bool} : ∀ {n : Nat}, (∀ j, j < n → f j = g j) → cntN f n = cntN g n
  | 0, _ => rfl
  | n + 1, h => by unfold cntN; rw [cntN_ext fun j hj => h j (by omega), h n (by omega)]
theorem pop_byte (f : Nat → Bool) : s2 (bitsN f 8) / 16 + s2 (bitsN f 8) % 16 = cntN f 8 := by
  have h := pop8 (f 0) (f 1) (f 2) (f 3) (f 4) (f 5) (f 6) (f 7)
  have e : ∀ j, j < 8 → f j = [f 0, f 1, f 2, f 3, f 4, f 5, f 6, f 7].getD j false := by
    intro j hj
    match j, hj with
    | 0, _ => rfl
    | 1, _ => rfl
    | 2, _ => rfl
    | 3, _ => rfl
    | 4, _ => rfl
    | 5, _ => rfl
    | 6, _ => rfl
    | 7, _ => rfl
  rw [bitsN_ext e, cntN_ext e]
  exact h
theorem cntN_le (f : Nat → Bool) : ∀ n, cntN f n ≤ n
  | 0 => Nat.le_refl _
  | n + 1 => by have := cntN_le f n; unfold cntN; split <;> omega
/-- The sum of eight bytes. -/
theorem sum8 {p0 p1 p2 p3 p4 p5 p6 p7 : Nat} (h0 : p0 ≤ 8) (h1 : p1 ≤ 8) (h2 : p2 ≤ 8) (h3 : p3 ≤ 8) (h4 : p4 ≤ 8) (h5 : p5 ≤ 8) (h6 : p6 ≤ 8) (h7 : p7 ≤ 8) (a3 a4 a5 a6 : Nat)
    (e3 : a3 = byt [p0, p1, p2, p3, p4, p5, p6, p7]) (e4 : a4 = a3 + a3 / 256) (e5 : a5 = a4 + a4 / 65536) (e6 : a6 = a5 + a5 / 4294967296) : a3 < 18446744073709551616 ∧ a4 < 18446744073709551616 ∧ a5 < 18446744073709551616 ∧ a6 < 18446744073709551616 ∧ a6 % 128 = p0 + p1 + p2 + p3 + p4 + p5 + p6 + p7 := by
  simp only [byt] at e3
  have d3 : a3 / 256 = 256 * (256 * (256 * (256 * (256 * (256 * p7 + p6) + p5) + p4) + p3) + p2) + p1 := by omega
  rw [d3] at e4
  have d4 : a4 / 65536 = 256 * (256 * (256 * (256 * (256 * p7 + (p6 + p7)) + (p5 + p6)) + (p4 + p5)) + (p3 + p4)) + (p2 + p3) := by omega
  rw [d4] at e5
  have d5 : a5 / 4294967296 = 256 * (256 * (256 * p7 + (p6 + p7)) + (p5 + p6 + p7)) + (p4 + p5 + p6 + p7) := by omega
  rw [d5] at e6
  have b3 : a3 < 18446744073709551616 := by clear d3 d4 d5 e4 e5 e6; omega
  have b4 : a4 < 18446744073709551616 := by clear d3 d4 d5 e5 e6; omega
  have f5 : a5 = 256 * (256 * (256 * (256 * (256 * (256 * (256 * p7 + (p6 + p7)) + (p5 + p6 + p7)) + (p4 + p5 + p6 + p7)) + (p3 + p4 + p5 + p6)) + (p2 + p3 + p4 + p5)) + (p1 + p2 + p3 + p4)) + (p0 + p1 + p2 + p3) := by
    clear d3 d4 d5 e6 b3 b4; omega
  clear d3 d4 d5 e3 e4 e5
  have b5 : a5 < 18446744073709551616 := by clear e6 b3 b4; omega
  have f6 : ∃ X, X < 72057594037927936 - 1 ∧ a6 = 256 * X + (p0 + p1 + p2 + p3 + p4 + p5 + p6 + p7) := by
    refine ⟨256 * (256 * (256 * (256 * (256 * (256 * p7 + (p6 + p7)) + (p5 + p6 + p7)) + (p4 + p5 + p6 + p7)) + (p3 + p4 + p5 + p6 + p7)) + (p2 + p3 + p4 + p5 + p6 + p7)) + (p1 + p2 + p3 + p4 + p5 + p6 + p7), ?_, ?_⟩
    · clear e6 f5 b3 b4 b5; omega
    · clear b3 b4 b5; omega
  clear e6 f5
  obtain ⟨X, hX, rfl⟩ := f6
  exact ⟨b3, b4, b5, by omega, by omega⟩
theorem byt_bd (m : Nat) : ∀ l : List Nat, (∀ b ∈ l, b ≤ m) → 255 * byt l + m ≤ m * 256 ^ l.length
  | [], _ => by simp [byt]
  | b :: l, h => by
    have h1 := byt_bd m l fun c hc => h c (by simp [hc])
    have h2 := h b (by simp)
    rw [List.length_cons, Nat.pow_succ, ← Nat.mul_assoc]
    unfold byt
    omega
theorem byt8 (f : Nat → Bool) : bitsN f 64 = byt [bitsN f 8, bitsN (fun j => f (8 + j)) 8, bitsN (fun j => f (16 + j)) 8, bitsN (fun j => f (24 + j)) 8, bitsN (fun j => f (32 + j)) 8, bitsN (fun j => f (40 + j)) 8, bitsN (fun j => f (48 + j)) 8, bitsN (fun j => f (56 + j)) 8] := by
  rw [show (64 : Nat) = 56 + 8 from rfl, bitsN_add, show (56 : Nat) = 48 + 8 from rfl, bitsN_add, show (48 : Nat) = 40 + 8 from rfl, bitsN_add, show (40 : Nat) = 32 + 8 from rfl, bitsN_add, show (32 : Nat) = 24 + 8 from rfl, bitsN_add, show (24 : Nat) = 16 + 8 from rfl, bitsN_add, show (16 : Nat) = 8 + 8 from rfl, bitsN_add]
  simp only [byt, Nat.reduceAdd, Nat.reducePow]
  omega
theorem cnt8 (f : Nat → Bool) : cntN f 64 = cntN f 8 + cntN (fun j => f (8 + j)) 8 + cntN (fun j => f (16 + j)) 8 + cntN (fun j => f (24 + j)) 8 + cntN (fun j => f (32 + j)) 8 + cntN (fun j => f (40 + j)) 8 + cntN (fun j => f (48 + j)) 8 + cntN (fun j => f (56 + j)) 8 := by
  rw [show (64 : Nat) = 56 + 8 from rfl, cntN_add, show (56 : Nat) = 48 + 8 from rfl, cntN_add, show (48 : Nat) = 40 + 8 from rfl, cntN_add, show (40 : Nat) = 32 + 8 from rfl, cntN_add, show (32 : Nat) = 24 + 8 from rfl, cntN_add, show (24 : Nat) = 16 + 8 from rfl, cntN_add, show (16 : Nat) = 8 + 8 from rfl, cntN_add]
theorem ones_law (f : Nat → Bool) (x a1 a2 a3 a4 a5 a6 : Nat) (hx : x = bitsN f 64) (e1 : a1 = (x / 2 &&& 6148914691236517205) + (x &&& 6148914691236517205)) (e2 : a2 = (a1 / 4 &&& 3689348814741910323) + (a1 &&& 3689348814741910323))
    (e3 : a3 = (a2 / 16 + a2 &&& 1085102592571150095)) (e4 : a4 = a3 + a3 / 256) (e5 : a5 = a4 + a4 / 65536) (e6 : a6 = a5 + a5 / 4294967296) :
    a1 < 18446744073709551616 ∧ a2 < 18446744073709551616 ∧ a2 / 16 + a2 < 18446744073709551616 ∧ a3 < 18446744073709551616 ∧ a4 < 18446744073709551616 ∧ a5 < 18446744073709551616 ∧ a6 < 18446744073709551616 ∧ a6 % 128 = cntN f 64 := by
  obtain ⟨l, hl⟩ : ∃ l, [bitsN f 8, bitsN (fun j => f (8 + j)) 8, bitsN (fun j => f (16 + j)) 8, bitsN (fun j => f (24 + j)) 8, bitsN (fun j => f (32 + j)) 8, bitsN (fun j => f (40 + j)) 8, bitsN (fun j => f (48 + j)) 8, bitsN (fun j => f (56 + j)) 8] = l := ⟨_, rfl⟩
  have hlen : l.length = 8 := by rw [← hl]; rfl
  have hb : ∀ b ∈ l, b < 256 := by
    intro b hb
    rw [← hl] at hb
    simp only [List.mem_cons, List.not_mem_nil, or_false] at hb
    rcases hb with rfl | rfl | rfl | rfl | rfl | rfl | rfl | rfl <;> exact bitsN_lt _ 8
  rw [byt8 f, hl] at hx
  have hm1 : msk 85 l.length = 6148914691236517205 := by rw [hlen]; decide +kernel
  have hm2 : msk 51 l.length = 3689348814741910323 := by rw [hlen]; decide +kernel
  have hm3 : msk 15 l.length = 1085102592571150095 := by rw [hlen]; decide +kernel
  have h1 := step1 l hb
  rw [hm1, ← hx, ← e1] at h1
  have h2 := step2 (l.map s1) (by
      intro b hb'
      obtain ⟨c, hc, rfl⟩ := List.mem_map.1 hb'
      exact (lo3 ⟨c, hb c hc⟩).2.2.2)
  rw [List.length_map, hm2, ← h1, ← e2, List.map_map] at h2
  have h2' : a2 = byt (l.map s2) := h2
  have h3 := step3 (l.map s2) (by
    intro b hb'
    obtain ⟨c, hc, rfl⟩ := List.mem_map.1 hb'
    exact ⟨(lo3 ⟨c, hb c hc⟩).2.1, (lo3 ⟨c, hb c hc⟩).2.2.1⟩)
  rw [List.length_map, hm3, ← h2', ← e3, List.map_map] at h3
  have b1 := byt_bd 255 (l.map s1) (by
      intro b hb'
      obtain ⟨c, hc, rfl⟩ := List.mem_map.1 hb'
      have := (lo3 ⟨c, hb c hc⟩).2.2.2
      simp only [] at this
      omega)
  rw [← h1, List.length_map, hlen] at b1
  have b2 := byt_bd 68 (l.map s2) (by
      intro b hb'
      obtain ⟨c, hc, rfl⟩ := List.mem_map.1 hb'
      have := lo3 ⟨c, hb c hc⟩
      simp only [] at this
      omega)
  rw [← h2', List.length_map, hlen] at b2
  have h3' : a3 = byt [cntN f 8, cntN (fun j => f (8 + j)) 8, cntN (fun j => f (16 + j)) 8, cntN (fun j => f (24 + j)) 8, cntN (fun j => f (32 + j)) 8, cntN (fun j => f (40 + j)) 8, cntN (fun j => f (48 + j)) 8, cntN (fun j => f (56 + j)) 8] := by
    rw [h3, ← hl]
    simp only [List.map_cons, List.map_nil, Function.comp, pop_byte]
  obtain ⟨r3, r4, r5, r6, r7⟩ := sum8 (cntN_le _ 8) (cntN_le _ 8) (cntN_le _ 8) (cntN_le _ 8) (cntN_le _ 8) (cntN_le _ 8) (cntN_le _ 8) (cntN_le _ 8) a3 a4 a5 a6 h3' e4 e5 e6
  rw [cnt8 f]
  exact ⟨by omega, by omega, by omega, r3, r4, r5, r6, r7⟩

end Go.Proofs.YtenmilemdkhijaaDoor
