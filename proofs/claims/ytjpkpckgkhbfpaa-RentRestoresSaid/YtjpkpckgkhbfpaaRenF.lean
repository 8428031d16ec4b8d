/- The rents: Add, Pay, Cost, Stage. -/
import Derived.Test.YtjpkpckgkhbfpaaRenC
namespace Go.Proofs.Ytjpkpckgkhbfpaa
open Go.RowKit Go.Maps

/-- Is it an amount; may it be a tick? -/
def amt (n : Int) : Bool := decide (0 ≤ n) && decide (n ≤ 1099511627776)

set_option maxHeartbeats 400000 in
theorem right_any (n : Int) (v : Bool) (hv : amt n = v) (w : World) : Calls Try.prog 27 #[.int .i64 n] w fun e w' => e = .returned (.bool v) ∧ w = w' := by
  subst hv
  unfold amt
  by_cases h : 0 ≤ n
  all_goals
    go_enter Try.func27, Try.ntmps27
    go_wp2
    go_ret
    exact ⟨by simp; try omega, rfl⟩
set_option maxHeartbeats 400000 in
theorem tick_any (n : Int) (v : Bool) (hv : amt n = v) (w : World) : Calls Try.prog 28 #[.int .i64 n] w fun e w' => e = .returned (.bool v) ∧ w = w' := by
  subst hv
  unfold amt
  by_cases h : 0 ≤ n
  all_goals
    go_enter Try.func28, Try.ntmps28
    go_wp2
    go_ret
    exact ⟨by simp; try omega, rfl⟩
theorem amt_yes {n : Int} (h : amt n = true) : 0 ≤ n ∧ n ≤ 1099511627776 := by simpa [amt] using h
theorem amt_no {n : Int} (h : amt n = false) : n < 0 ∨ 1099511627776 < n := by
  unfold amt at h
  simp at h
  by_cases h0 : 0 ≤ n
  · exact .inr (h h0)
  · exact .inl (by omega)

/-- What Add makes of rows, and its answer. -/
def addL (x : List Rw) (h rate now : Int) : List Rw × Int :=
  if h < 1 then (x, 10) else if rate < 1 ∨ amt rate = false ∨ amt now = false then (x, 11) else match fnd x h with
  | some _ => (x, 13)
  | none => (putL x ⟨h, rate, now + 100⟩, 0)
/-- What Pay makes of rows, and its answer. -/
def payL (x : List Rw) (h p now : Int) : List Rw × Int := match fnd x h with
  | none => (x, 14)
  | some r => if p < 1 ∨ 12 < p ∨ amt now = false then (x, 11) else if now + 1200 < r.due + p * 100 then (x, 34) else (putL x { r with due := r.due + p * 100 }, 0)

theorem rget_both (b : Nat) (F : Nat → Prop) (x : List Rw) (k : Nat) (h : Int) (w : World) (hs : RS w b F x k) (hh : (Lit.int .i64 h).wf = true) :
    ∃ (r : Rw) (e0 : Int), Calls Try.prog 13 #[.pointer (some ⟨b, 0, none⟩), .int .i64 h] w fun e w' => e = .returned (.tuple #[(.agg #[.int .i64 r.house, .int .i64 r.rate, .int .i64 r.due]), .int .i64 e0]) ∧ Grew w w' := by
  cases hx : fnd x h with
  | none => exact ⟨Rw.zero, 14, rget_none b F x k h w hs hh hx⟩
  | some r => exact ⟨r, 0, rget_some b F x k h r w hs hh hx⟩

set_option maxRecDepth 100000 in
set_option maxHeartbeats 3200000 in
theorem radd_any (b : Nat) (F : Nat → Prop) (x : List Rw) (k : Nat) (h rate now : Int) (w : World) (hs : RS w b F x k) (hk : k ≤ 900000) (hh : -9223372036854775808 ≤ h ∧ h ≤ 9223372036854775807) :
    Calls Try.prog 10 #[.pointer (some ⟨b, 0, none⟩), .int .i64 h, .int .i64 rate, .int .i64 now] w fun e w' => e = .returned (.int .i64 (addL x h rate now).2) ∧ RTo w w' b F (addL x h rate now).1 (k + 1) := by
  have HS := Lib.hid (And.intro hs (wf64 hh.1 hh.2))
  have same : ∀ w2, Grew w w2 → RTo w w2 b F x (k + 1) := fun w2 hg => (hs.more (by omega)).to hg
  clear hs
  obtain ⟨r0, e0, hget⟩ := rget_both b F x k h w HS.out.1 HS.out.2
  have Hget := Lib.hid hget
  have Same := Lib.hid same
  clear hget same
  by_cases h1 : h < 1
  · have hv : addL x h rate now = (x, 10) := by unfold addL; rw [if_pos h1]
    rw [hv]
    clear hv
    go_enter Try.func10, Try.ntmps10
    go_wp2_with (go_at_call 13; refine Hget.out.mono ?_; rintro e w1 ⟨rfl, hg1⟩; have HG1 := Lib.hid hg1; clear hg1)
    go_ret
    exact ⟨rfl, Same.out _ (HG1.out.alloc _)⟩
  by_cases h2 : rate < 1 ∨ amt rate = false ∨ amt now = false
  · have hv : addL x h rate now = (x, 11) := by unfold addL; rw [if_neg h1, if_pos h2]
    rw [hv]
    clear hv
    by_cases h3 : rate < 1
    · clear h2
      go_enter Try.func10, Try.ntmps10
      go_wp2_with (go_at_call 13; refine Hget.out.mono ?_; rintro e w1 ⟨rfl, hg1⟩; have HG1 := Lib.hid hg1; clear hg1)
      go_ret
      exact ⟨rfl, Same.out _ (HG1.out.alloc _)⟩
    cases h4 : amt rate with
    | false =>
      have H4 := Lib.hid h4
      clear h2 h4
      go_enter Try.func10, Try.ntmps10
      go_wp2_with (first
        | (go_at_call 13; refine Hget.out.mono ?_; rintro e w1 ⟨rfl, hg1⟩; have HG1 := Lib.hid hg1; clear hg1)
        | (go_at_call 27; refine (right_any rate false H4.out _).mono ?_; rintro e w2 ⟨rfl, rfl⟩))
      go_ret
      exact ⟨rfl, Same.out _ (HG1.out.alloc _)⟩
    | true =>
      have h5 : amt now = false := by rcases h2 with h | h | h; exact absurd h h3; (rw [h4] at h; cases h); exact h
      have H4 := Lib.hid h4
      have H5 := Lib.hid h5
      clear h2 h4 h5
      go_enter Try.func10, Try.ntmps10
      go_wp2_with (first
        | (go_at_call 13; refine Hget.out.mono ?_; rintro e w1 ⟨rfl, hg1⟩; have HG1 := Lib.hid hg1; clear hg1)
        | (go_at_call 27; refine (right_any rate true H4.out _).mono ?_; rintro e w2 ⟨rfl, rfl⟩)
        | (go_at_call 28; refine (tick_any now false H5.out _).mono ?_; rintro e w2 ⟨rfl, rfl⟩))
      go_ret
      exact ⟨rfl, Same.out _ (HG1.out.alloc _)⟩
  · have h3 : ¬ rate < 1 := fun e => h2 (.inl e)
    have h4 : amt rate = true := by cases e : amt rate with | true => rfl | false => exact absurd (.inr (.inl e)) h2
    have h5 : amt now = true := by cases e : amt now with | true => rfl | false => exact absurd (.inr (.inr e)) h2
    have b4 := amt_yes h4
    have b5 := amt_yes h5
    have H4 := Lib.hid h4
    have H5 := Lib.hid h5
    clear h4 h5 Hget
    cases hf : fnd x h with
    | some r =>
      have hv : addL x h rate now = (x, 13) := by unfold addL; rw [if_neg h1, if_neg h2, hf]
      rw [hv]
      have HF := Lib.hid hf
      clear hv hf h2
      go_enter Try.func10, Try.ntmps10
      go_wp2_with (first
        | (go_at_call 13; refine (rget_some b F x k h r w HS.out.1 HS.out.2 HF.out).mono ?_; rintro e w1 ⟨rfl, hg1⟩; have HG1 := Lib.hid hg1; clear hg1)
        | (go_at_call 27; refine (right_any rate true H4.out _).mono ?_; rintro e w2 ⟨rfl, rfl⟩)
        | (go_at_call 28; refine (tick_any now true H5.out _).mono ?_; rintro e w2 ⟨rfl, rfl⟩))
      go_ret
      exact ⟨rfl, Same.out _ (HG1.out.alloc _)⟩
    | none =>
      have hv : addL x h rate now = (putL x ⟨h, rate, now + 100⟩, 0) := by unfold addL; rw [if_neg h1, if_neg h2, hf]
      rw [hv]
      have HF := Lib.hid hf
      clear hv hf h2
      have hfit : (⟨h, rate, now + 100⟩ : Rw).fit := ⟨by show 1 ≤ h; omega, hh.2, by show 1 ≤ rate; omega, b4.2, by show 0 ≤ now + 100; omega, by show now + 100 ≤ _; omega⟩
      have HFit := Lib.hid hfit
      clear hfit
      go_enter Try.func10, Try.ntmps10
      go_wp2_with (first
        | (go_at_call 13; refine (rget_none b F x k h w HS.out.1 HS.out.2 HF.out).mono ?_; rintro e w1 ⟨rfl, hg1⟩; have HG1 := Lib.hid hg1; clear hg1)
        | (go_at_call 27; refine (right_any rate true H4.out _).mono ?_; rintro e w2 ⟨rfl, rfl⟩)
        | (go_at_call 28; refine (tick_any now true H5.out _).mono ?_; rintro e w2 ⟨rfl, rfl⟩)
        | (go_at_call 29; refine (rput_new b F x k ⟨h, rate, now + 100⟩ _ (HS.out.1.grew (HG1.out.alloc _)) HFit.out HF.out hk).mono ?_; rintro e w3 ⟨rfl, ht3⟩; have HT3 := Lib.hid ht3; clear ht3))
      go_ret
      exact ⟨rfl, HT3.out.ahead (HG1.out.alloc _)⟩

end Go.Proofs.Ytjpkpckgkhbfpaa
