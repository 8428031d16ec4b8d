/- The pool: Next, Free, Take. -/
import Derived.Test.YtenmilemdkhijaaDoorPoolD
namespace Go.Proofs.YtenmilemdkhijaaDoor
open Go.RowKit

/-- What Next tells. -/
def oI : Option Nat → Int
  | some j => j
  | none => 0
def oB : Option Nat → Bool
  | some _ => true
  | none => false

def tab : List Nat := Lib.deBruijn64tab

set_option maxRecDepth 100000 in
set_option maxHeartbeats 1600000 in
theorem pnext_nat (b i : Nat) (x : List Bool) (A : Option Addr) (c : Nat) (w : World) (h : PIn w b x A c) (hl : x.length ≤ 65536) (hi : (i : Int) ≤ 9223372036854775807) (hT : TabAt 0 tab w) :
    Calls Tryd.prog 14 #[.pointer (some ⟨b, 0, none⟩), .int .i64 i] w fun e w' => e = .returned (.tuple #[.int .i64 (oI (nxt x i)), .bool (oB (nxt x i))]) ∧ w = w' := by
  obtain ⟨v, hv⟩ : ∃ v, nxt x i = v := ⟨_, rfl⟩
  rw [hv]
  have HV := Lib.hid hv
  obtain ⟨c0, f0, s0⟩ := h.blk.facts
  have hnl := nw_le x
  have H := Lib.hid (And.intro h hT)
  have t0 : (0 : Int) ≤ (i : Int) := by omega
  clear h hT hv
  go_enter Tryd.func14, Tryd.ntmps14
  go_wp2
  go_loop [6] (fun v => ∃ k : Nat, v = .int .i64 k ∧ i / 64 ≤ k ∧ (k ≤ nw x ∨ k = i / 64) ∧ ∀ m, i ≤ m → m < 64 * k → x.getD m false = false) (fun v => nw x - (intOf v).toNat)
  case atStart => exact ⟨i / 64, by simp, Nat.le_refl _, .inr rfl, fun m h1 h2 => absurd h1 (by omega)⟩
  case round =>
    obtain ⟨k, rfl, hik, hk, hno⟩ := hrel
    have HN := Lib.hid hno
    clear hno hk
    by_cases hlt : k < nw x
    · obtain ⟨g, rfl, hg, hgb, d0, fr⟩ := H.out.1.word hlt
      by_cases he : k = i / 64
      · subst he
        obtain ⟨W, hW⟩ : ∃ W, wd x (i / 64) / 2 ^ (i % 64) * 2 ^ (i % 64) = W := ⟨_, rfl⟩
        have hWl : W < 18446744073709551616 := hW ▸ low_off_lt (wd_lt _ _)
        have key : IntKind.u64.wrap ((wd x (i / 64) : Nat) / 2 ^ (i % 64) * 2 ^ (i % 64) : Int) = (W : Int) := by
          rw [shr_nat, show (2 : Int) ^ (i % 64) = ((2 ^ (i % 64) : Nat) : Int) from (Int.natCast_pow 2 (i % 64)).symm, ← Int.natCast_mul, hW, wrapU hWl]
        have hw : W = if i / 64 = i / 64 then wd x (i / 64) / 2 ^ (i % 64) * 2 ^ (i % 64) else wd x (i / 64) := by rw [if_pos rfl, hW]
        by_cases h0 : W = 0
        · have t2 : ((W : Int) != 0) = false := by simp [h0]
          have hn2 := Lib.hid (nxt_miss HN.out (Nat.le_refl _) hw h0)
          clear h0 hw hW HN
          go_wp2
          exact ⟨⟨i / 64 + 1, by simp, by omega, .inl (by omega), hn2.out⟩, by simp [intOf]; omega⟩
        · have t2 : ((W : Int) != 0) = true := by rw [bne_iff_ne]; omega
          obtain ⟨-, hn2⟩ := nxt_hit HN.out (Nat.le_refl _) hlt hw h0
          have hc := ctz_bits h0 hWl
          have c1 : Lib.ctz 64 W < 64 := hc.1
          have H0 := Lib.hid h0
          have H2 := Lib.hid hn2
          clear h0 hw hW HN hn2 hc
          go_wp2_with (go_at_call 30; refine (tz_any W hWl H0.out _ H.out.2).mono ?_; rintro e w1 ⟨rfl, rfl⟩)
          go_ret2
          refine ⟨?_, rfl⟩
          rw [← HV.out, H2.out]
          simp [oI, oB]
          omega
      · have t1 : ((k : Int) == (i : Int) / 64) = false := by rw [beq_eq_false_iff_ne]; omega
        obtain ⟨W, hW⟩ : ∃ W, wd x k = W := ⟨_, rfl⟩
        have hWl : W < 18446744073709551616 := hW ▸ wd_lt _ _
        have hw : W = if k = i / 64 then wd x k / 2 ^ (i % 64) * 2 ^ (i % 64) else wd x k := by rw [if_neg he, hW]
        rw [hW] at d0
        by_cases h0 : W = 0
        · have t2 : ((W : Int) != 0) = false := by simp [h0]
          have hn2 := Lib.hid (nxt_miss HN.out hik hw h0)
          clear h0 hw hW HN he
          go_wp2
          exact ⟨⟨k + 1, by simp, by omega, .inl (by omega), hn2.out⟩, by simp [intOf]; omega⟩
        · have t2 : ((W : Int) != 0) = true := by rw [bne_iff_ne]; omega
          obtain ⟨-, hn2⟩ := nxt_hit HN.out hik hlt hw h0
          have hc := ctz_bits h0 hWl
          have c1 : Lib.ctz 64 W < 64 := hc.1
          have H0 := Lib.hid h0
          have H2 := Lib.hid hn2
          clear h0 hw hW HN hn2 hc he
          go_wp2_with (go_at_call 30; refine (tz_any W hWl H0.out _ H.out.2).mono ?_; rintro e w1 ⟨rfl, rfl⟩)
          go_ret2
          refine ⟨?_, rfl⟩
          rw [← HV.out, H2.out]
          simp [oI, oB]
          omega
    · have hn2 := Lib.hid (nxt_end HN.out (by omega : nw x ≤ k))
      have t1 : decide ((k : Int) < (nw x : Int)) = false := decide_eq_false (by omega)
      clear HN
      go_wp2
      go_ret2
      refine ⟨?_, rfl⟩
      rw [← HV.out, hn2.out]
      rfl

end Go.Proofs.YtenmilemdkhijaaDoor
