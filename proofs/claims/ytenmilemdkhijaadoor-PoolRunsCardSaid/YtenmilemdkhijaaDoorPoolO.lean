/- The pool: Next at a negative number (printed by genPoolO.py from PoolE). -/
import Derived.Test.YtenmilemdkhijaaDoorPoolE
namespace Go.Proofs.YtenmilemdkhijaaDoor
open Go.RowKit

set_option maxRecDepth 100000 in
set_option maxHeartbeats 1600000 in
theorem pnext_neg (b : Nat) (z : Int) (x : List Bool) (A : Option Addr) (c : Nat) (w : World) (h : PIn w b x A c) (hl : x.length ≤ 65536) (hz : z < 0) (hT : TabAt 0 tab w) :
    Calls Tryd.prog 14 #[.pointer (some ⟨b, 0, none⟩), .int .i64 z] w fun e w' => e = .returned (.tuple #[.int .i64 (oI (nxt x 0)), .bool (oB (nxt x 0))]) ∧ w = w' := by
  obtain ⟨v, hv⟩ : ∃ v, nxt x 0 = v := ⟨_, rfl⟩
  rw [hv]
  have HV := Lib.hid hv
  obtain ⟨c0, f0, s0⟩ := h.blk.facts
  have hnl := nw_le x
  have H := Lib.hid (And.intro h hT)
  have t0 : z ≤ 0 := by omega
  clear h hT hv
  go_enter Tryd.func14, Tryd.ntmps14
  go_wp2
  go_loop [6] (fun v => ∃ k : Nat, v = .int .i64 k ∧ 0 ≤ k ∧ (k ≤ nw x ∨ k = 0) ∧ ∀ m, 0 ≤ m → m < 64 * k → x.getD m false = false) (fun v => nw x - (intOf v).toNat)
  case atStart => exact ⟨0, rfl, Nat.le_refl _, .inr rfl, fun m h1 h2 => absurd h1 (by omega)⟩
  case round =>
    obtain ⟨k, rfl, hik, hk, hno⟩ := hrel
    have HN := Lib.hid hno
    clear hno hk
    by_cases hlt : k < nw x
    · obtain ⟨g, rfl, hg, hgb, d0, fr⟩ := H.out.1.word hlt
      by_cases he : k = 0
      · subst he
        obtain ⟨W, hW⟩ : ∃ W, wd x 0 = W := ⟨_, rfl⟩
        have hWl : W < 18446744073709551616 := hW ▸ wd_lt _ _
        have key : IntKind.u64.wrap (W : Int) = (W : Int) := wrapU hWl
        rw [hW] at d0
        have hw : W = if 0 = 0 / 64 then wd x 0 / 2 ^ (0 % 64) * 2 ^ (0 % 64) else wd x 0 := by simp [hW]
        by_cases h0 : W = 0
        · have t2 : ((W : Int) != 0) = false := by simp [h0]
          have hn2 := Lib.hid (nxt_miss HN.out (by omega) hw h0)
          clear h0 hw hW HN
          go_wp2
          exact ⟨⟨0 + 1, by simp, by omega, .inl (by omega), hn2.out⟩, by simp [intOf]; omega⟩
        · have t2 : ((W : Int) != 0) = true := by rw [bne_iff_ne]; omega
          obtain ⟨-, hn2⟩ := nxt_hit HN.out (by omega) hlt hw h0
          have hc := ctz_bits h0 hWl
          have c1 : Lib.ctz 64 W < 64 := hc.1
          have H0 := Lib.hid h0
          have H2 := Lib.hid hn2
          clear h0 hw hW HN hn2 hc
          go_wp2_with (go_at_call 30; refine (tz_any W hWl H0.out _ H.out.2).mono ?_; rintro e w1 ⟨rfl, rfl⟩)
          go_ret2
          refine ⟨?_, rfl⟩
          rw [← HV.out, H2.out]
          simp [oI, oB]
          try omega
      · have t1 : ((k : Int) == 0) = false := by rw [beq_eq_false_iff_ne]; omega
        obtain ⟨W, hW⟩ : ∃ W, wd x k = W := ⟨_, rfl⟩
        have hWl : W < 18446744073709551616 := hW ▸ wd_lt _ _
        have hw : W = if k = 0 / 64 then wd x k / 2 ^ (0 % 64) * 2 ^ (0 % 64) else wd x k := by rw [if_neg (by omega), hW]
        rw [hW] at d0
        by_cases h0 : W = 0
        · have t2 : ((W : Int) != 0) = false := by simp [h0]
          have hn2 := Lib.hid (nxt_miss HN.out (by omega) hw h0)
          clear h0 hw hW HN he
          go_wp2
          exact ⟨⟨k + 1, by simp, by omega, .inl (by omega), hn2.out⟩, by simp [intOf]; omega⟩
        · have t2 : ((W : Int) != 0) = true := by rw [bne_iff_ne]; omega
          obtain ⟨-, hn2⟩ := nxt_hit HN.out (by omega) hlt hw h0
          have hc := ctz_bits h0 hWl
          have c1 : Lib.ctz 64 W < 64 := hc.1
          have H0 := Lib.hid h0
          have H2 := Lib.hid hn2
          clear h0 hw hW HN hn2 hc he
          go_wp2_with (go_at_call 30; refine (tz_any W hWl H0.out _ H.out.2).mono ?_; rintro e w1 ⟨rfl, rfl⟩)
          go_ret2
          refine ⟨?_, rfl⟩
          rw [← HV.out, H2.out]
          simp [oI, oB]
          try omega
    · have hn2 := Lib.hid (nxt_end HN.out (by omega : nw x ≤ k))
      have t1 : decide ((k : Int) < (nw x : Int)) = false := decide_eq_false (by omega)
      clear HN
      go_wp2
      go_ret2
      refine ⟨?_, rfl⟩
      rw [← HV.out, hn2.out]
      rfl


end Go.Proofs.YtenmilemdkhijaaDoor
