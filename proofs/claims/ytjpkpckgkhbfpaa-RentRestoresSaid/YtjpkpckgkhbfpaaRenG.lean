/- The rents: Pay, Cost, Stage. -/
import Derived.Test.YtjpkpckgkhbfpaaRenF
namespace Go.Proofs.Ytjpkpckgkhbfpaa
open Go.RowKit Go.Maps

set_option maxHeartbeats 400000 in
theorem times_over (a n : Int) (w : World) (h0 : 1 ≤ a) (h1 : a ≤ 1099511627776) (n0 : 1 ≤ n) (n1 : n ≤ 12) (h : 1099511627776 / a < n) :
    Calls Try.prog 30 #[.int .i64 a, .int .i64 n] w fun e w' => e = .returned (.tuple #[.int .i64 0, .int .i64 15]) ∧ w = w' := by
  have hr : amt a = true := by simp [amt]; omega
  have t1 : decide (0 < a) = true := decide_eq_true (by omega)
  have t2 : decide (1099511627776 / a < n) = true := decide_eq_true h
  have t3 : (1099511627776 : Int).tdiv a = 1099511627776 / a := Int.tdiv_eq_ediv_of_nonneg (by decide)
  have t4 : decide (n < 0) = false := decide_eq_false (by omega)
  have q0 : 0 ≤ 1099511627776 / a := Int.ediv_nonneg (by decide) (by omega)
  have q1 : 1099511627776 / a ≤ 1099511627776 := Int.ediv_le_self _ (by decide)
  have t5 : wrap64 (1099511627776 / a) = 1099511627776 / a := IntWalk.wrap64_in _ (by omega)
  have HR := Lib.hid hr
  clear hr h q0 q1
  go_enter Try.func30, Try.ntmps30
  go_wp2_with (go_at_call 27; refine (right_any a true HR.out _).mono ?_; rintro e w2 ⟨rfl, rfl⟩)
  go_ret2
  exact ⟨rfl, rfl⟩
set_option maxHeartbeats 400000 in
theorem times_ok (a n : Int) (w : World) (h0 : 1 ≤ a) (h1 : a ≤ 1099511627776) (n0 : 1 ≤ n) (n1 : n ≤ 12) (h : n ≤ 1099511627776 / a) :
    Calls Try.prog 30 #[.int .i64 a, .int .i64 n] w fun e w' => e = .returned (.tuple #[.int .i64 (a * n), .int .i64 0]) ∧ w = w' := by
  have hr : amt a = true := by simp [amt]; omega
  have t1 : decide (0 < a) = true := decide_eq_true (by omega)
  have t2 : decide (1099511627776 / a < n) = false := decide_eq_false (Int.not_lt.2 h)
  have t3 : (1099511627776 : Int).tdiv a = 1099511627776 / a := Int.tdiv_eq_ediv_of_nonneg (by decide)
  have t4 : decide (n < 0) = false := decide_eq_false (by omega)
  have q0 : 0 ≤ 1099511627776 / a := Int.ediv_nonneg (by decide) (by omega)
  have q1 : 1099511627776 / a ≤ 1099511627776 := Int.ediv_le_self _ (by decide)
  have t5 : wrap64 (1099511627776 / a) = 1099511627776 / a := IntWalk.wrap64_in _ (by omega)
  have m0 : 0 ≤ a * n := Int.mul_nonneg (by omega) (by omega)
  have m1 : a * n ≤ 1099511627776 * 12 := Int.mul_le_mul h1 n1 (by omega) (by decide)
  have m2 : wrap64 (a * n) = a * n := IntWalk.wrap64_in _ (by omega)
  have HR := Lib.hid hr
  clear hr h q0 q1
  go_enter Try.func30, Try.ntmps30
  go_wp2_with (go_at_call 27; refine (right_any a true HR.out _).mono ?_; rintro e w2 ⟨rfl, rfl⟩)
  go_ret2
  exact ⟨rfl, rfl⟩

/-- What some periods cost. -/
def costL (x : List Rw) (h p : Int) : Int × Int := match fnd x h with
  | none => (0, 14)
  | some r => if p < 1 ∨ 12 < p then (0, 11) else if 1099511627776 / r.rate < p then (0, 15) else (r.rate * p, 0)

set_option maxRecDepth 100000 in
set_option maxHeartbeats 3200000 in
theorem rcost_any (b : Nat) (F : Nat → Prop) (x : List Rw) (k : Nat) (h p : Int) (w : World) (hs : RS w b F x k) (hh : (Lit.int .i64 h).wf = true) :
    Calls Try.prog 11 #[.pointer (some ⟨b, 0, none⟩), .int .i64 h, .int .i64 p] w fun e w' => e = .returned (.tuple #[.int .i64 (costL x h p).1, .int .i64 (costL x h p).2]) ∧ Grew w w' := by
  cases hf : fnd x h with
  | none =>
    have hv : costL x h p = (0, 14) := by unfold costL; rw [hf]
    rw [hv]
    have HS := Lib.hid (And.intro hs (And.intro hh hf))
    clear hs hh hf hv
    go_enter Try.func11, Try.ntmps11
    go_wp2_with (go_at_call 13; refine (rget_none b F x k h w HS.out.1 HS.out.2.1 HS.out.2.2).mono ?_; rintro e w1 ⟨rfl, hg1⟩; have HG1 := Lib.hid hg1; clear hg1)
    go_ret2
    exact ⟨rfl, HG1.out.alloc _⟩
  | some r =>
    have hfit := hs.fits r (fnd_some hf).1
    have r1 := hfit.2.2.1
    have r2 := hfit.2.2.2.1
    have HS := Lib.hid (And.intro hs (And.intro hh hf))
    by_cases h1 : p < 1 ∨ 12 < p
    · have hv : costL x h p = (0, 11) := by unfold costL; rw [hf]; exact if_pos h1
      rw [hv]
      clear hs hh hf hv hfit
      by_cases h2 : p < 1
      · clear h1
        go_enter Try.func11, Try.ntmps11
        go_wp2_with (go_at_call 13; refine (rget_some b F x k h r w HS.out.1 HS.out.2.1 HS.out.2.2).mono ?_; rintro e w1 ⟨rfl, hg1⟩; have HG1 := Lib.hid hg1; clear hg1)
        go_ret2
        exact ⟨rfl, HG1.out.alloc _⟩
      · have h3 : 12 < p := h1.resolve_left h2
        clear h1
        go_enter Try.func11, Try.ntmps11
        go_wp2_with (go_at_call 13; refine (rget_some b F x k h r w HS.out.1 HS.out.2.1 HS.out.2.2).mono ?_; rintro e w1 ⟨rfl, hg1⟩; have HG1 := Lib.hid hg1; clear hg1)
        go_ret2
        exact ⟨rfl, HG1.out.alloc _⟩
    · have h2 : 1 ≤ p := by omega
      have h3 : p ≤ 12 := by omega
      by_cases h4 : 1099511627776 / r.rate < p
      · have hv : costL x h p = (0, 15) := by unfold costL; rw [hf]; simp only [if_neg h1, if_pos h4]
        rw [hv]
        have H4 := Lib.hid h4
        clear hs hh hf hv hfit h1 h4
        go_enter Try.func11, Try.ntmps11
        go_wp2_with (first
          | (go_at_call 13; refine (rget_some b F x k h r w HS.out.1 HS.out.2.1 HS.out.2.2).mono ?_; rintro e w1 ⟨rfl, hg1⟩; have HG1 := Lib.hid hg1; clear hg1)
          | (go_at_call 30; refine (times_over r.rate p _ r1 r2 h2 h3 H4.out).mono ?_; rintro e w2 ⟨rfl, rfl⟩))
        go_ret2
        exact ⟨rfl, HG1.out.alloc _⟩
      · have hv : costL x h p = (r.rate * p, 0) := by unfold costL; rw [hf]; simp only [if_neg h1, if_neg h4]
        rw [hv]
        have H4 := Lib.hid (Int.not_lt.1 h4)
        clear hs hh hf hv hfit h1 h4
        go_enter Try.func11, Try.ntmps11
        go_wp2_with (first
          | (go_at_call 13; refine (rget_some b F x k h r w HS.out.1 HS.out.2.1 HS.out.2.2).mono ?_; rintro e w1 ⟨rfl, hg1⟩; have HG1 := Lib.hid hg1; clear hg1)
          | (go_at_call 30; refine (times_ok r.rate p _ r1 r2 h2 h3 H4.out).mono ?_; rintro e w2 ⟨rfl, rfl⟩))
        go_ret2
        exact ⟨rfl, HG1.out.alloc _⟩

set_option maxRecDepth 100000 in
set_option maxHeartbeats 3200000 in
theorem rpay_any (b : Nat) (F : Nat → Prop) (x : List Rw) (k : Nat) (h p now : Int) (w : World) (hs : RS w b F x k) (hk : k ≤ 900000) (hh : (Lit.int .i64 h).wf = true) :
    Calls Try.prog 12 #[.pointer (some ⟨b, 0, none⟩), .int .i64 h, .int .i64 p, .int .i64 now] w fun e w' => e = .returned (.int .i64 (payL x h p now).2) ∧ RTo w w' b F (payL x h p now).1 k := by
  have Same := Lib.hid (fun w2 hg => hs.to (w' := w2) hg)
  cases hf : fnd x h with
  | none =>
    have hv : payL x h p now = (x, 14) := by unfold payL; rw [hf]
    rw [hv]
    have HS := Lib.hid (And.intro hs (And.intro hh hf))
    clear hs hh hf hv
    go_enter Try.func12, Try.ntmps12
    go_wp2_with (go_at_call 13; refine (rget_none b F x k h w HS.out.1 HS.out.2.1 HS.out.2.2).mono ?_; rintro e w1 ⟨rfl, hg1⟩; have HG1 := Lib.hid hg1; clear hg1)
    go_ret
    exact ⟨rfl, Same.out _ (HG1.out.alloc _)⟩
  | some r =>
    have hfit := hs.fits r (fnd_some hf).1
    have r1 := hfit.2.2.2.2.1
    have r2 := hfit.2.2.2.2.2
    have HS := Lib.hid (And.intro hs (And.intro hh (And.intro hf hfit)))
    by_cases h1 : p < 1 ∨ 12 < p ∨ amt now = false
    · have hv : payL x h p now = (x, 11) := by unfold payL; rw [hf]; exact if_pos h1
      rw [hv]
      clear hs hh hf hv hfit
      by_cases h2 : p < 1
      · clear h1
        go_enter Try.func12, Try.ntmps12
        go_wp2_with (go_at_call 13; refine (rget_some b F x k h r w HS.out.1 HS.out.2.1 HS.out.2.2.1).mono ?_; rintro e w1 ⟨rfl, hg1⟩; have HG1 := Lib.hid hg1; clear hg1)
        go_ret
        exact ⟨rfl, Same.out _ (HG1.out.alloc _)⟩
      by_cases h3 : 12 < p
      · clear h1
        go_enter Try.func12, Try.ntmps12
        go_wp2_with (go_at_call 13; refine (rget_some b F x k h r w HS.out.1 HS.out.2.1 HS.out.2.2.1).mono ?_; rintro e w1 ⟨rfl, hg1⟩; have HG1 := Lib.hid hg1; clear hg1)
        go_ret
        exact ⟨rfl, Same.out _ (HG1.out.alloc _)⟩
      · have h5 : amt now = false := by rcases h1 with h | h | h; exact absurd h h2; exact absurd h h3; exact h
        have H5 := Lib.hid h5
        clear h1 h5
        go_enter Try.func12, Try.ntmps12
        go_wp2_with (first
          | (go_at_call 13; refine (rget_some b F x k h r w HS.out.1 HS.out.2.1 HS.out.2.2.1).mono ?_; rintro e w1 ⟨rfl, hg1⟩; have HG1 := Lib.hid hg1; clear hg1)
          | (go_at_call 28; refine (tick_any now false H5.out _).mono ?_; rintro e w2 ⟨rfl, rfl⟩))
        go_ret
        exact ⟨rfl, Same.out _ (HG1.out.alloc _)⟩
    · have h2 : 1 ≤ p := by omega
      have h3 : p ≤ 12 := by omega
      have h5 : amt now = true := by cases e : amt now with | true => rfl | false => exact absurd (.inr (.inr e)) h1
      have b5 := amt_yes h5
      have b6 := b5.1
      have b7 := b5.2
      have H5 := Lib.hid h5
      clear h5 b5
      by_cases h4 : now + 1200 < r.due + p * 100
      · have hv : payL x h p now = (x, 34) := by unfold payL; rw [hf]; simp only [if_neg h1, if_pos h4]
        rw [hv]
        have t4 : decide (now + 1200 < r.due + p * 100) = true := decide_eq_true h4
        clear hs hh hf hv hfit h1 h4
        go_enter Try.func12, Try.ntmps12
        go_wp2_with (first
          | (go_at_call 13; refine (rget_some b F x k h r w HS.out.1 HS.out.2.1 HS.out.2.2.1).mono ?_; rintro e w1 ⟨rfl, hg1⟩; have HG1 := Lib.hid hg1; clear hg1)
          | (go_at_call 28; refine (tick_any now true H5.out _).mono ?_; rintro e w2 ⟨rfl, rfl⟩))
        go_ret
        exact ⟨rfl, Same.out _ (HG1.out.alloc _)⟩
      · have hv : payL x h p now = (putL x { r with due := r.due + p * 100 }, 0) := by unfold payL; rw [hf]; simp only [if_neg h1, if_neg h4]
        rw [hv]
        have t4 : decide (now + 1200 < r.due + p * 100) = false := decide_eq_false h4
        have hfit2 : ({ r with due := r.due + p * 100 } : Rw).fit := ⟨hfit.1, hfit.2.1, hfit.2.2.1, hfit.2.2.2.1, by show 0 ≤ r.due + p * 100; omega, by show r.due + p * 100 ≤ _; omega⟩
        have hf2 : fnd x ({ r with due := r.due + p * 100 } : Rw).house = some r := by show fnd x r.house = some r; rw [(fnd_some hf).2]; exact hf
        have HFit := Lib.hid (And.intro hfit2 hf2)
        clear hs hh hf hv hfit h1 h4 hfit2 hf2
        go_enter Try.func12, Try.ntmps12
        go_wp2_with (first
          | (go_at_call 13; refine (rget_some b F x k h r w HS.out.1 HS.out.2.1 HS.out.2.2.1).mono ?_; rintro e w1 ⟨rfl, hg1⟩; have HG1 := Lib.hid hg1; clear hg1)
          | (go_at_call 28; refine (tick_any now true H5.out _).mono ?_; rintro e w2 ⟨rfl, rfl⟩)
          | (go_at_call 29; refine (rput_old b F x k { r with due := r.due + p * 100 } r _ (HS.out.1.grew (HG1.out.alloc _)) HFit.out.1 HFit.out.2 hk).mono ?_; rintro e w3 ⟨rfl, ht3⟩; have HT3 := Lib.hid ht3; clear ht3))
        go_ret
        exact ⟨rfl, HT3.out.ahead (HG1.out.alloc _)⟩

end Go.Proofs.Ytjpkpckgkhbfpaa
