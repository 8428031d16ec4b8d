/- The deeds: New, Len, Next, May, and Issue. -/
import Derived.Test.YtkcakkblammpiaaDeeE
namespace Go.Proofs.Ytkcakkblammpiaa
open Go.RowKit

theorem new_any (w : World) :
    Calls Try.prog 7 #[] w fun e w' => e = .returned (.pointer (some ⟨w.heap.size, 0, none⟩)) ∧ w.alloc (.cells #[.slice none 0 0, .int .i64 1] 58) = w' := by
  go_enter Try.func7, Try.ntmps7
  go_wp2
  go_ret
  exact ⟨rfl, rfl⟩

theorem len_any (b : Nat) (nx : Int) (l : List Dee) (A : Option Addr) (c : Nat) (w : World) (h : DeedsIn w b nx l A c) :
    Calls Try.prog 25 #[.pointer (some ⟨b, 0, none⟩)] w fun e w' => e = .returned (.int .i64 l.length) ∧ w = w' := by
  obtain ⟨c2, f2, s2⟩ := h.blk.facts
  clear h
  go_enter Try.func25, Try.ntmps25
  go_wp2
  go_ret
  exact ⟨rfl, rfl⟩

theorem next_any (b : Nat) (nx : Int) (l : List Dee) (A : Option Addr) (c : Nat) (w : World) (h : DeedsIn w b nx l A c) :
    Calls Try.prog 26 #[.pointer (some ⟨b, 0, none⟩)] w fun e w' => e = .returned (.int .i64 nx) ∧ w = w' := by
  obtain ⟨c2, f2, s2⟩ := h.blk.facts
  clear h
  go_enter Try.func26, Try.ntmps26
  go_wp2
  go_ret
  exact ⟨rfl, rfl⟩

def heldOf (l : List Dee) (h : Int) : List Int := ids (fun x : Dee => x.holder == h) l
theorem heldOf_len (l : List Dee) (h : Int) : (heldOf l h).length ≤ l.length := ids_len _ l
/-- May somebody hold one more: an error's number. -/
def mayE (l : List Dee) (h : Int) : Int := if h < 1 then 10 else if 3 ≤ (heldOf l h).length then 34 else 0

set_option maxHeartbeats 400000 in
theorem may_any (b : Nat) (nx id r : Int) (l : List Dee) (A : Option Addr) (c : Nat) (w : World) (h : DeedsIn w b nx l A c) (hl : l.length ≤ 1000000) (hr : mayE l id = r) :
    Calls Try.prog 16 #[.pointer (some ⟨b, 0, none⟩), .int .i64 id] w fun e w' => e = .returned (.int .i64 r) ∧ Grew w w' := by
  obtain ⟨n, hn⟩ : ∃ n, n = (heldOf l id).length := ⟨_, rfl⟩
  have hnl := heldOf_len l id
  rw [← hn] at hnl
  have H := Lib.hid h
  have Hr : r = if id < 1 then 10 else if 3 ≤ n then 34 else 0 := by rw [← hr, hn]; rfl
  have Hn := Lib.hid hn
  clear h hr hn
  by_cases h1 : id < 1
  · subst Hr
    go_enter Try.func16, Try.ntmps16
    go_wp2
    go_ret
    exact ⟨by simp [h1], Chg.refl _ _⟩
  · by_cases h2 : 3 ≤ n
    all_goals
      subst Hr
      go_enter Try.func16, Try.ntmps16
      go_wp2_with (go_at_call 14; refine (held_any b nx id l A c _ H.out hl (heldOf l id) rfl).mono ?_; rintro e w1 ⟨A1, c1, rfl, ho1, hg1⟩; rw [← Hn.out])
      go_ret
      exact ⟨by simp [h1, h2], hg1⟩

/-- What an issue is refused for. -/
def issueE (l : List Dee) (plot h : Int) : Int := if plot < 1 ∨ h < 1 then 10 else if 0 ≤ fidx (fun x : Dee => x.plot == plot) l then 13 else mayE l h

/-- The blocks of a Deeds. -/
def BF (b : Nat) (A : Option Addr) : Nat → Prop := fun k => k = b ∨ ∃ a, A = some a ∧ k = a.block

/-- What a call that changes a Deeds leaves. -/
def DeedsTo (w w' : World) (b : Nat) (A : Option Addr) (nx : Int) (l : List Dee) : Prop :=
  ∃ A' c', DeedsIn w' b nx l A' c' ∧ Chg (BF b A) w w' ∧ (∀ k, BF b A' k → BF b A k ∨ w.heap.size ≤ k)

theorem BF_own {A : Option Addr} {b n c k : Nat} (h : (Value.slice A n c).ownBlock = some k) : BF b A k := by
  cases A with
  | none => simp [Value.ownBlock] at h
  | some a => simp [Value.ownBlock] at h; exact .inr ⟨a, rfl, h.symm⟩

set_option maxHeartbeats 800000 in
theorem issue_no (b : Nat) (nx plot id r : Int) (l : List Dee) (A : Option Addr) (c : Nat) (w : World) (h : DeedsIn w b nx l A c) (hl : l.length ≤ 1000000) (hr : issueE l plot id = r) (hr0 : r ≠ 0) :
    Calls Try.prog 21 #[.pointer (some ⟨b, 0, none⟩), .int .i64 plot, .int .i64 id] w fun e w' => e = .returned (.tuple #[.int .i64 0, .int .i64 r]) ∧ Grew w w' := by
  obtain ⟨y, hy⟩ : ∃ y, fnd (fun x : Dee => x.plot == plot) l = y := ⟨_, rfl⟩
  obtain ⟨i, hi⟩ : ∃ i, fidx (fun x : Dee => x.plot == plot) l = i := ⟨_, rfl⟩
  obtain ⟨m, hm⟩ : ∃ m, mayE l id = m := ⟨_, rfl⟩
  have H := Lib.hid h
  have Hyi := Lib.hid (And.intro hy hi)
  have Hm := Lib.hid hm
  have Hr : r = if plot < 1 ∨ id < 1 then 10 else if 0 ≤ i then 13 else m := by rw [← hr, ← hi, ← hm]; rfl
  clear h hr hy hi hm
  by_cases h1 : plot < 1 <;> by_cases h2 : id < 1 <;> by_cases h3 : 0 ≤ i
  all_goals try (have h4 : (m == 0) = false := by rw [beq_eq_false_iff_ne]; intro e; subst e; simp [h1, h2, h3] at Hr; exact hr0 Hr)
  all_goals try (have h5 : (m != 0) = true := by simp only [bne, h4, Bool.not_false])
  all_goals clear hr0
  all_goals have HR := Lib.hid Hr
  all_goals clear Hr
  all_goals try (have h6 : decide (0 ≤ i) = true := by simpa using h3)
  all_goals try (have h6 : decide (0 ≤ i) = false := by simpa using h3)
  all_goals
    go_enter Try.func21, Try.ntmps21
    go_wp2_with (first
      | (go_at_call 12; refine (of_any b nx plot l A c _ H.out hl y i Hyi.out.1 Hyi.out.2).mono ?_; rintro e w1 ⟨rfl, hg1⟩; have HG1 := Lib.hid hg1; clear hg1)
      | (go_at_call 16; refine (may_any b nx id m l A c _ (H.out.grew (HG1.out.alloc _)) hl Hm.out).mono ?_; rintro e w2 ⟨rfl, hg2⟩))
    go_ret2
    have e := HR.out
    (first | rw [if_pos (by omega)] at e | (rw [if_neg (by omega)] at e; first | rw [if_pos (by omega)] at e | rw [if_neg (by omega)] at e))
    refine ⟨by rw [e]; rfl, ?_⟩
    first | exact HG1.out.alloc _ | exact Grew.trans (HG1.out.alloc _) hg2

end Go.Proofs.Ytkcakkblammpiaa
