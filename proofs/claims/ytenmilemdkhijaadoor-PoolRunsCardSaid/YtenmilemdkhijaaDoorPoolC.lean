/- math/bits: OnesCount64, TrailingZeros64. -/
import Derived.Test.YtenmilemdkhijaaDoorPoolB
import Derived.Test.YtenmilemdkhijaaDoorRows
import Derived.Shelf.Spec.TrailingZeros
import Derived.Laws.Bits64b
namespace Go.Proofs.YtenmilemdkhijaaDoor
open Go.RowKit

set_option maxHeartbeats 800000 in
theorem tz_core (x k idx : Nat) (w : World) (hx0 : ((x : Int) == 0) = false)
    (key : IntKind.u64.wrap (bits BinOp.and IntKind.u64 (x : Int) (IntKind.u64.wrap (-(x : Int))) * 285870213051353865) / 288230376151711744 = (idx : Int))
    (hi : idx < 64) (hk : k < 64) (hcell : w.cell? ⟨0, idx, none⟩ = some (.int .u8 k)) :
    Calls Tryd.prog 30 #[.int .u64 x] w fun e w' => e = .returned (.int .i64 k) ∧ w = w' := by
  go_enter Tryd.func30, Tryd.ntmps30
  go_wp2_with (simp only [key])
  go_ret
  exact ⟨rfl, rfl⟩

theorem tz_any (x : Nat) (hx : x < 18446744073709551616) (hx0 : x ≠ 0) (w : World) (hT : TabAt 0 Lib.deBruijn64tab w) :
    Calls Tryd.prog 30 #[.int .u64 x] w fun e w' => e = .returned (.int .i64 (Lib.ctz 64 x)) ∧ w = w' := by
  obtain ⟨hlow, hk⟩ := Lib.lowest_bit 64 x hx0 hx
  obtain ⟨hi, htab⟩ := Lib.deBruijn64_at _ hk
  have hcell := hT _ hi
  rw [htab] at hcell
  exact tz_core x _ _ w (by simp; omega) (tz64_key x _ hx hx0 hlow) hi hk hcell

def on1 (x : Int) : Int := IntKind.u64.wrap (bits BinOp.and IntKind.u64 (x / 2) 6148914691236517205 + bits BinOp.and IntKind.u64 x 6148914691236517205)
def on2 (x : Int) : Int := IntKind.u64.wrap (bits BinOp.and IntKind.u64 (x / 4) 3689348814741910323 + bits BinOp.and IntKind.u64 x 3689348814741910323)
def on3 (x : Int) : Int := bits BinOp.and IntKind.u64 (IntKind.u64.wrap (x / 16 + x)) 1085102592571150095
def on4 (x : Int) : Int := IntKind.u64.wrap (x + x / 256)
def on5 (x : Int) : Int := IntKind.u64.wrap (x + x / 65536)
def on6 (x : Int) : Int := IntKind.u64.wrap (x + x / 4294967296)
def on7 (x : Int) : Int := bits BinOp.and IntKind.i64 (wrap64 x) 127

theorem wrapU {n : Nat} (h : n < 18446744073709551616) : IntKind.u64.wrap (n : Int) = n := by rw [IntKind.wrap_u64]; omega
theorem on1_eq {x a : Nat} (hx : x < 18446744073709551616) (ha : a = (x / 2 &&& 6148914691236517205) + (x &&& 6148914691236517205)) (hl : a < 18446744073709551616) : on1 (x : Int) = a := by
  have h1 := bits_and_u64_nat (x / 2) 6148914691236517205 (by omega) (by decide)
  have h2 := bits_and_u64_nat x 6148914691236517205 hx (by decide)
  unfold on1
  rw [show (x : Int) / 2 = ((x / 2 : Nat) : Int) by omega]
  rw [show (6148914691236517205 : Int) = ((6148914691236517205 : Nat) : Int) from rfl, h1, h2, ← Int.natCast_add, ← ha, wrapU hl]
theorem on2_eq {x a : Nat} (hx : x < 18446744073709551616) (ha : a = (x / 4 &&& 3689348814741910323) + (x &&& 3689348814741910323)) (hl : a < 18446744073709551616) : on2 (x : Int) = a := by
  have h1 := bits_and_u64_nat (x / 4) 3689348814741910323 (by omega) (by decide)
  have h2 := bits_and_u64_nat x 3689348814741910323 hx (by decide)
  unfold on2
  rw [show (x : Int) / 4 = ((x / 4 : Nat) : Int) by omega]
  rw [show (3689348814741910323 : Int) = ((3689348814741910323 : Nat) : Int) from rfl, h1, h2, ← Int.natCast_add, ← ha, wrapU hl]
theorem on3_eq {x a : Nat} (hx : x / 16 + x < 18446744073709551616) (ha : a = (x / 16 + x &&& 1085102592571150095)) : on3 (x : Int) = a := by
  have h1 := bits_and_u64_nat (x / 16 + x) 1085102592571150095 hx (by decide)
  unfold on3
  rw [show (x : Int) / 16 + x = ((x / 16 + x : Nat) : Int) by omega, wrapU hx]
  rw [show (1085102592571150095 : Int) = ((1085102592571150095 : Nat) : Int) from rfl, h1, ← ha]
theorem on4_eq {x a : Nat} (ha : a = x + x / 256) (hl : a < 18446744073709551616) : on4 (x : Int) = a := by
  unfold on4
  rw [show (x : Int) + x / 256 = ((a : Nat) : Int) by omega, wrapU hl]
theorem on5_eq {x a : Nat} (ha : a = x + x / 65536) (hl : a < 18446744073709551616) : on5 (x : Int) = a := by
  unfold on5
  rw [show (x : Int) + x / 65536 = ((a : Nat) : Int) by omega, wrapU hl]
theorem on6_eq {x a : Nat} (ha : a = x + x / 4294967296) (hl : a < 18446744073709551616) : on6 (x : Int) = a := by
  unfold on6
  rw [show (x : Int) + x / 4294967296 = ((a : Nat) : Int) by omega, wrapU hl]
theorem on7_eq {x : Nat} : on7 (x : Int) = ((x % 128 : Nat) : Int) := by
  unfold on7
  rw [← IntWalk.i64_left]
  have h1 : (BitVec.ofInt 64 (IntKind.i64.wrap (x : Int))).toNat % 128 = x % 128 := by
    rw [IntKind.wrap_i64, BitVec.toNat_ofInt]
    omega
  have h3 : (BitVec.ofInt 64 127).toNat = 127 := by decide
  show IntKind.i64.wrap ((BitVec.ofInt 64 (IntKind.i64.wrap (x : Int)) &&& BitVec.ofInt 64 127).toNat : Int) = _
  rw [BitVec.toNat_and, h3]
  have h4 := Nat.and_two_pow_sub_one_eq_mod (BitVec.ofInt 64 (IntKind.i64.wrap (x : Int))).toNat 7
  rw [show (2 ^ 7 - 1 : Nat) = 127 from rfl, show (2 ^ 7 : Nat) = 128 from rfl] at h4
  rw [h4, h1, IntKind.wrap_i64]
  omega

theorem on_all (f : Nat → Bool) : on7 (on6 (on5 (on4 (on3 (on2 (on1 (bitsN f 64 : Nat))))))) = (cntN f 64 : Nat) := by
  obtain ⟨b1, b2, b2', b3, b4, b5, b6, h⟩ := ones_law f (bitsN f 64) _ _ _ _ _ _ rfl rfl rfl rfl rfl rfl rfl
  rw [on1_eq (bitsN_lt f 64) rfl b1, on2_eq b1 rfl b2, on3_eq b2' rfl, on4_eq rfl b4, on5_eq rfl b5, on6_eq rfl b6, on7_eq, h]

set_option maxHeartbeats 800000 in
theorem ones_core (x : Nat) (w : World) (h0 : (x : Int) < 18446744073709551616) :
    Calls Tryd.prog 29 #[.int .u64 x] w fun e w' => e = .returned (.int .i64 (on7 (on6 (on5 (on4 (on3 (on2 (on1 x)))))))) ∧ w = w' := by
  go_enter Tryd.func29, Tryd.ntmps29
  go_wp2
  go_ret
  exact ⟨rfl, rfl⟩
theorem ones_any (f : Nat → Bool) (w : World) :
    Calls Tryd.prog 29 #[.int .u64 (bitsN f 64 : Nat)] w fun e w' => e = .returned (.int .i64 (cntN f 64 : Nat)) ∧ w = w' := by
  have h := ones_core (bitsN f 64) w (by have := bitsN_lt f 64; omega)
  rw [on_all] at h
  exact h

end Go.Proofs.YtenmilemdkhijaaDoor
