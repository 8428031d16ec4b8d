/- The deeds: a number that is no deed's. -/
import Derived.Test.YtkcakkblammpiaaDeeK
namespace Go.Proofs.Ytkcakkblammpiaa
open Go.RowKit

/-- A deed's plot, or holder. -/
def vof (p : Bool) (x : Dee) : Int := if p then x.plot else x.holder

theorem count_drop (p : Bool) (n : Int) (l : List Dee) (h : ∃ x ∈ l, vof p x = n) : l.countP (fun x => decide (n + 1 ≤ vof p x)) < l.countP (fun x => decide (n ≤ vof p x)) := by
  induction l with
  | nil => obtain ⟨x, hx, _⟩ := h; cases hx
  | cons y t ih =>
    rw [List.countP_cons, List.countP_cons]
    have hle : t.countP (fun x => decide (n + 1 ≤ vof p x)) ≤ t.countP (fun x => decide (n ≤ vof p x)) := by
      apply List.countP_mono_left
      intro x _ hx
      simp at hx ⊢
      omega
    by_cases hy : vof p y = n
    · have e1 : decide (n + 1 ≤ vof p y) = false := decide_eq_false (by omega)
      have e2 : decide (n ≤ vof p y) = true := decide_eq_true (by omega)
      rw [e1, e2]
      simp
      omega
    · have : ∃ x ∈ t, vof p x = n := by
        obtain ⟨x, hx, hv⟩ := h
        rcases List.mem_cons.1 hx with e | e
        · subst e; exact absurd hv hy
        · exact ⟨x, e, hv⟩
      have := ih this
      by_cases e : n + 1 ≤ vof p y
      · have e1 : decide (n + 1 ≤ vof p y) = true := decide_eq_true e
        have e2 : decide (n ≤ vof p y) = true := decide_eq_true (by omega)
        rw [e1, e2]
        simp
        omega
      · have e1 : decide (n + 1 ≤ vof p y) = false := decide_eq_false e
        have e2 : decide (n ≤ vof p y) = false := decide_eq_false (by omega)
        rw [e1, e2]
        simp
        omega

set_option maxRecDepth 100000 in
set_option maxHeartbeats 1600000 in
theorem other_any (p : Bool) (l : List Dee) (A : Option Addr) (c : Nat) (w : World) (hl : l.length ≤ 1000000) (hs : Sl w 3 A l.length (l.flatMap Dee.vals)) :
    Calls Try.prog 22 #[.slice A l.length c, .bool p] w fun e w' => ∃ n : Int, e = .returned (.int .i64 n) ∧ 1 ≤ n ∧ (∀ x ∈ l, vof p x ≠ n) ∧ Grew w w' := by
  have Hs := Lib.hid hs
  clear hs
  go_enter Try.func22, Try.ntmps22
  go_wp2_with fail
  go_loopw [5] (fun i wr => ∃ n : Int, i = .int .i64 n ∧ 1 ≤ n ∧ (n - 1) + l.countP (fun x => decide (n ≤ vof p x)) ≤ l.length ∧ Grew w wr) (fun i _ => l.countP (fun x => decide (intOf i ≤ vof p x)))
  case atStart => exact ⟨1, rfl, by omega, by have := List.countP_le_length (p := fun x => decide ((1 : Int) ≤ vof p x)) (l := l); omega, Chg.refl _ _⟩
  case round =>
    obtain ⟨n, rfl, hn, hc, hg⟩ := hrel
    obtain ⟨wo, rfl⟩ : ∃ wo : World, wo = wr := ⟨_, rfl⟩
    have Hg := Lib.hid hg
    have Hc := Lib.hid hc
    have hnl : n ≤ l.length + 1 := by omega
    clear hg hc
    go_wp2_with fail
    go_loopw [6, 13] (fun f i wr => ∃ (k : Nat) (b : Bool), k ≤ l.length ∧ i = .int .i64 k ∧ f = .bool b ∧ (b = true ↔ ∃ x ∈ l.take k, vof p x = n) ∧ Grew wo wr) (fun _ i _ => l.length - (intOf i).toNat)
    case atStart => exact ⟨0, false, Nat.zero_le _, rfl, rfl, by simp, Chg.refl _ _⟩
    case round =>
      obtain ⟨k, b, hk, rfl, rfl, hb, hg⟩ := hrel
      obtain ⟨w1, rfl⟩ : ∃ w1 : World, w1 = wr := ⟨_, rfl⟩
      have Hg1 := Lib.hid hg
      have Hb := Lib.hid hb
      clear hg hb
      by_cases hlt : k < l.length
      · obtain ⟨x, hx⟩ : ∃ x, l[k]? = some x := ⟨_, List.getElem?_eq_getElem hlt⟩
        obtain ⟨g, off, rfl, hb, d0, d1, d2⟩ := (Hs.out.grew (Grew.trans Hg.out Hg1.out)).atDee hx
        have hstep : (b = true ∨ vof p x = n) ↔ ∃ y ∈ l.take (k + 1), vof p y = n := by
          rw [Hb.out, List.take_add_one, hx]
          constructor
          · rintro (⟨y, hy, e⟩ | e)
            · exact ⟨y, by simp [hy], e⟩
            · exact ⟨x, by simp, e⟩
          · rintro ⟨y, hy, e⟩
            rcases List.mem_append.1 hy with hy | hy
            · exact .inl ⟨y, hy, e⟩
            · simp at hy; subst hy; exact .inr e
        have HS := Lib.hid hstep
        clear hstep hx
        rcases b with _ | _ <;> rcases p with _ | _ <;> rcases hv : (x.plot == n) with _ | _ <;> rcases hw : (x.holder == n) with _ | _
        all_goals
          go_wp2
          refine ⟨⟨k + 1, _, by omega, by simp, rfl, ?_, ?_⟩, by simp [intOf]; omega⟩
          · rw [← HS.out]
            simp only [beq_eq_false_iff_ne, beq_iff_eq, ne_eq] at hv hw
            simp [vof, hv, hw]
          · (repeat (first | (with_reducible exact Hg1.out) | (with_reducible refine Chg.alloc ?_ _) | (with_reducible refine Chg.drew ?_) | (with_reducible refine Chg.drewN ?_ _) | ((with_reducible refine Chg.setCell ?_ ?hp _); (case hp => (intro h; exfalso; simp at h; try omega)))))
      · obtain rfl : k = l.length := by omega
        have hb := Hb.out
        rw [List.take_length] at hb
        rcases b with _ | _
        · go_wp2
          go_ret
          refine ⟨n, rfl, hn, fun x hx e => ?_, Grew.trans Hg.out Hg1.out⟩
          have := hb.2 ⟨x, hx, e⟩
          cases this
        · have hcd := count_drop p n l (hb.1 rfl)
          have hc := Hc.out
          go_wp2
          refine ⟨⟨n + 1, rfl, by omega, by omega, Grew.trans Hg.out Hg1.out⟩, ?_⟩
          simp [intOf]
          exact hcd

end Go.Proofs.Ytkcakkblammpiaa
