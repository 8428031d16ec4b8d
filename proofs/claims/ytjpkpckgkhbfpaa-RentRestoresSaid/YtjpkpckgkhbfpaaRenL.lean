/- The document's answer for amounts: Times. -/
import Derived.Test.YtjpkpckgkhbfpaaRenK
namespace Go.Proofs.Ytjpkpckgkhbfpaa
open Go.RowKit Go.Maps

theorem dbl_even {a m s T : Int} (h : s + a * (2 * m) = T) : s + (a + a) * m = T := by
  rw [show 2 * m = m + m by omega, Int.mul_add] at h
  rw [Int.add_mul]
  exact h
theorem dbl_odd {a m s T : Int} (h : s + a * (2 * m + 1) = T) : s + a + (a + a) * m = T := by
  rw [show 2 * m + 1 = m + m + 1 by omega, Int.mul_add, Int.mul_add] at h
  rw [Int.add_mul]
  omega

/-- The answer: -1 where it is too much. -/
def timesL (a n : Int) : Int := if a * n ≤ 1099511627776 then a * n else -1

set_option maxHeartbeats 1600000 in
theorem xtimes_any (a n : Int) (w : World) (h0 : 1 ≤ a) (h1 : a ≤ 1099511627776) (n0 : 1 ≤ n) (n1 : n ≤ 12) :
    Calls Try.prog 18 #[.int .i64 a, .int .i64 n] w fun e w' => e = .returned (.int .i64 (timesL a n)) ∧ w = w' := by
  obtain ⟨T, hT⟩ : ∃ T, a * n = T := ⟨_, rfl⟩
  obtain ⟨V, hV⟩ : ∃ V, timesL a n = V := ⟨_, rfl⟩
  have hV1 := Lib.hid (show T ≤ 1099511627776 → T = V from fun h => by rw [← hV, timesL, hT, if_pos h])
  have hV2 := Lib.hid (show 1099511627776 < T → -1 = V from fun h => by rw [← hV, timesL, hT, if_neg (by omega)])
  rw [hV]
  have HT := Lib.hid hT
  clear hT hV
  go_enter Try.func18, Try.ntmps18
  go_wp2
  go_loop [0, 1, 5] (fun x y z => ∃ a n s : Int, x = .int .i64 a ∧ y = .int .i64 n ∧ z = .int .i64 s ∧ (0 ≤ n ∧ n ≤ 12) ∧ (1 ≤ a ∧ a ≤ 2199023255552) ∧ (0 < n → a ≤ 1099511627776) ∧ (0 ≤ s ∧ s ≤ 1099511627776) ∧ s + a * n = T) (fun _ y _ => (intOf y).toNat)
  case atStart => exact ⟨a, n, 0, rfl, rfl, rfl, by omega, by omega, fun _ => h1, by omega, by rw [HT.out]; omega⟩
  case round =>
    obtain ⟨a, n, s, rfl, rfl, rfl, hn, ha, han, hs, hT⟩ := hrel
    have b1 := hn.1
    have b2 := hn.2
    have b3 := ha.1
    have b4 := ha.2
    have b5 := hs.1
    have b6 := hs.2
    have HT := Lib.hid hT
    have HN := Lib.hid han
    clear hT hn ha hs han
    by_cases hz : 0 < n
    · have b7 := HN.out hz
      obtain ⟨m, hm⟩ : ∃ m, n / 2 = m := ⟨_, rfl⟩
      have q2 : n.tdiv 2 = m := by rw [Int.tdiv_eq_ediv_of_nonneg b1, hm]
      have m0 : 0 ≤ m := by omega
      have am : 0 ≤ a * m := Int.mul_nonneg (by omega) m0
      have m1 : m < n := by omega
      by_cases ho : n % 2 = 1
      · have hnm : n = 2 * m + 1 := by omega
        have hT2 := HT.out
        rw [hnm] at hT2
        have hT3 := dbl_odd hT2
        have t1 : (n % 2 == 1) = true := by simpa using ho
        have t2 : (n.tmod 2 == 1) = true := by rw [Int.tmod_eq_emod_of_nonneg b1]; simpa using ho
        rw [Int.add_mul] at hT3
        by_cases hx : 1099511627776 - s < a
        · have hv : 1099511627776 < T := by omega
          clear hT2 hT3 hnm ho
          have HV := Lib.hid (hV2.out hv)
          clear hv
          go_wp2
          go_ret
          exact ⟨congrArg (fun n : Int => Ending.returned (.int .i64 n)) HV.out, rfl⟩
        · have t3 : decide (1099511627776 - s < a) = false := decide_eq_false hx
          by_cases hm0 : 0 < m
          · have am2 : a ≤ a * m := by have := Int.mul_le_mul_of_nonneg_left (show 1 ≤ m by omega) (show 0 ≤ a by omega); omega
            by_cases hy : 1099511627776 - a < a
            · have hv : 1099511627776 < T := by omega
              have t4 : decide (1099511627776 - a < a) = true := decide_eq_true hy
              clear hT2 hT3 hnm ho hx hy
              have HV := Lib.hid (hV2.out hv)
              clear hv
              go_wp2
              go_ret
              exact ⟨congrArg (fun n : Int => Ending.returned (.int .i64 n)) HV.out, rfl⟩
            · have t4 : decide (1099511627776 - a < a) = false := decide_eq_false hy
              have HR := Lib.hid (And.intro hT3 hnm)
              have y1 : a + a ≤ 1099511627776 := by omega
              have y2 : s + a ≤ 1099511627776 := by omega
              clear hT2 hT3 hnm ho hx hy
              go_wp2
              exact ⟨⟨a + a, m, s + a, rfl, rfl, rfl, by omega, by omega, fun _ => y1, by omega, by rw [Int.add_mul]; exact HR.out.1⟩, by simp [intOf]; omega⟩
          · have HR := Lib.hid (And.intro hT3 hnm)
            have y2 : s + a ≤ 1099511627776 := by omega
            clear hT2 hT3 hnm ho hx
            go_wp2
            exact ⟨⟨a + a, m, s + a, rfl, rfl, rfl, by omega, by omega, fun h => absurd h hm0, by omega, by rw [Int.add_mul]; exact HR.out.1⟩, by simp [intOf]; omega⟩
      · have hnm : n = 2 * m := by omega
        have hT2 := HT.out
        rw [hnm] at hT2
        have hT3 := dbl_even hT2
        have t1 : (n % 2 == 1) = false := by simpa using ho
        have t2 : (n.tmod 2 == 1) = false := by rw [Int.tmod_eq_emod_of_nonneg b1]; simpa using ho
        rw [Int.add_mul] at hT3
        have hm0 : 0 < m := by omega
        have am2 : a ≤ a * m := by have := Int.mul_le_mul_of_nonneg_left (show 1 ≤ m by omega) (show 0 ≤ a by omega); omega
        by_cases hy : 1099511627776 - a < a
        · have hv : 1099511627776 < T := by omega
          have t4 : decide (1099511627776 - a < a) = true := decide_eq_true hy
          clear hT2 hT3 hnm ho hy
          have HV := Lib.hid (hV2.out hv)
          clear hv
          go_wp2
          go_ret
          exact ⟨congrArg (fun n : Int => Ending.returned (.int .i64 n)) HV.out, rfl⟩
        · have t4 : decide (1099511627776 - a < a) = false := decide_eq_false hy
          have HR := Lib.hid (And.intro hT3 hnm)
          have y1 : a + a ≤ 1099511627776 := by omega
          clear hT2 hT3 hnm ho hy
          go_wp2
          exact ⟨⟨a + a, m, s, rfl, rfl, rfl, by omega, by omega, fun _ => y1, by omega, by rw [Int.add_mul]; exact HR.out.1⟩, by simp [intOf]; omega⟩
    · obtain rfl : n = 0 := by omega
      have hT := HT.out
      rw [Int.mul_zero, Int.add_zero] at hT
      subst hT
      have HV := Lib.hid (hV1.out b6)
      go_wp2
      go_ret
      exact ⟨congrArg (fun n : Int => Ending.returned (.int .i64 n)) HV.out, rfl⟩

end Go.Proofs.Ytjpkpckgkhbfpaa
