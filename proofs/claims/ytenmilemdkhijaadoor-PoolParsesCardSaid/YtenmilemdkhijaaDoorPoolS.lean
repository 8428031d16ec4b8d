/- The pool's list of bools: its bytes. -/
import Derived.Test.YtenmilemdkhijaaDoorPoolK
namespace Go.Proofs.YtenmilemdkhijaaDoor
open Go.RowKit

/-- The byte k of a list. -/
def bt (x : List Bool) (k : Nat) : Nat := bitsN (fun j => x.getD (8 * k + j) false) 8
def nb (x : List Bool) : Nat := (x.length + 7) / 8
def bts (x : List Bool) (m : Nat) : List Value := (List.range m).map fun k => .int .u8 (bt x k)
theorem bt_lt (x : List Bool) (k : Nat) : bt x k < 256 := bitsN_lt _ 8
theorem bts_len (x : List Bool) (m : Nat) : (bts x m).length = m := by simp [bts]
theorem bts_succ (x : List Bool) (m : Nat) : bts x m ++ [.int .u8 (bt x m)] = bts x (m + 1) := by simp [bts, List.range_succ]
/-- What lies above a bit. -/
def hib (x : List Bool) (m t : Nat) : Nat := bitsN (fun j => x.getD (8 * m + t + j) false) (8 - t)
theorem hib_zero (x : List Bool) (m : Nat) : hib x m 0 = bt x m := rfl
theorem hib_top (x : List Bool) (m : Nat) : hib x m 8 = 0 := rfl
theorem hib_step (x : List Bool) (m s : Nat) (hs : s < 8) : hib x m s = 2 * hib x m (s + 1) + if x.getD (8 * m + s) false then 1 else 0 := by
  unfold hib
  have e1 : bitsN (fun j => x.getD (8 * m + s + j) false) 1 = if x.getD (8 * m + s) false then 1 else 0 := by
    show bitsN _ 0 + _ = _
    simp [bitsN]
  have e2 : bitsN (fun j => x.getD (8 * m + s + (1 + j)) false) (8 - (s + 1)) = bitsN (fun j => x.getD (8 * m + (s + 1) + j) false) (8 - (s + 1)) :=
    bitsN_ext fun j _ => by rw [show 8 * m + s + (1 + j) = 8 * m + (s + 1) + j by omega]
  rw [show 8 - s = 1 + (8 - (s + 1)) by omega, bitsN_add, e2, e1]
  omega
theorem hib_lt (x : List Bool) (m t : Nat) : hib x m t < 256 := Nat.lt_of_lt_of_le (bitsN_lt _ _) (Nat.pow_le_pow_right (n := 2) (by decide) (by omega : 8 - t ≤ 8))

theorem byteInfo : (Tryd.prog.info? 5).map (fun i => (i.zero, i.size, i.bytes)) = some (some (.int .u8 0), 1, 1) := by kernel_rfl

set_option maxRecDepth 100000 in
set_option maxHeartbeats 1600000 in
theorem xbytes_any (x : List Bool) (A : Option Addr) (c : Nat) (w : World) (hs : Sl w 1 A x.length (x.map Value.bool)) (hl : x.length ≤ 65536) :
    Calls Tryd.prog 33 #[.slice A x.length c] w fun e w' => OwnOut w w' 5 1 (nb x) (bts x (nb x)) (fun A c => .slice A (nb x) c) e := by
  obtain ⟨i0, hi0, hz0, hz1, hz2⟩ := info_parts byteInfo
  have Hs := Lib.hid hs
  clear hs
  go_enter Tryd.func33, Tryd.ntmps33
  go_wp2
  go_loopw [3, 4] (fun v i wr => ∃ (m : Nat) (B : Option Addr) (cb : Nat), m ≤ nb x ∧ i = .int .i64 (8 * m) ∧ v = .slice B m cb ∧ wr.ownsRow w.heap.size 5 1 (.slice B m cb) m (bts x m) ∧ Grew w wr) (fun _ i _ => x.length + 8 - (intOf i).toNat)
  case atStart => exact ⟨0, none, 0, by omega, rfl, rfl, World.ownsRow_nil _ _ _ _, Chg.refl _ _⟩
  case round =>
    obtain ⟨m, B, cb, hm, rfl, rfl, hown, hg⟩ := hrel
    have hsz := hg.size
    have HB := Lib.hid (And.intro hown hg)
    clear hown hg
    have hnb : nb x = (x.length + 7) / 8 := rfl
    by_cases hlt : 8 * m < x.length
    · go_wp2
      go_loop [5, 6] (fun v kk => ∃ (t : Nat) (z : Int), t ≤ 8 ∧ kk = .int .i64 z ∧ z = (t : Int) - 1 ∧ v = .int .i64 (hib x m t)) (fun _ kk => (intOf kk + 1).toNat)
      case atStart => exact ⟨8, 7, by omega, rfl, rfl, by rw [hib_top]; rfl⟩
      case round =>
        obtain ⟨t, z, ht, rfl, hz, rfl⟩ := hrel
        cases t with
        | succ s =>
          obtain rfl : z = (s : Int) := by omega
          have h256 := hib_lt x m (s + 1)
          have hst := hib_step x m s (by omega)
          have hlt2 := hib_lt x m s
          clear hz
          by_cases hin : 8 * m + s < x.length
          · obtain ⟨g, off, rfl, hb, d0⟩ := (Hs.out.grew HB.out.2).atBool hin
            have q0 : decide (8 * (m : Int) + (s : Int) < (x.length : Int)) = true := decide_eq_true (by omega)
            cases hx : x.getD (8 * m + s) false with
            | false =>
              rw [hx] at d0 hst
              have Hst := Lib.hid hst
              clear hx hst
              go_wp2
              exact ⟨⟨s, _, by omega, rfl, rfl, congrArg (Value.int .i64) (by have h := Hst.out; simp at h; omega)⟩, by show ((s : Int) - 1 + 1).toNat < ((s : Int) + 1).toNat; omega⟩
            | true =>
              rw [hx] at d0 hst
              have Hst := Lib.hid hst
              clear hx hst
              go_wp2
              exact ⟨⟨s, _, by omega, rfl, rfl, congrArg (Value.int .i64) (by have h := Hst.out; simp at h; omega)⟩, by show ((s : Int) - 1 + 1).toNat < ((s : Int) + 1).toNat; omega⟩
          · have q0 : decide (8 * (m : Int) + (s : Int) < (x.length : Int)) = false := decide_eq_false (by omega)
            rw [show x.getD (8 * m + s) false = false by rw [List.getD_eq_getElem?_getD, List.getElem?_eq_none (by omega)]; rfl] at hst
            have Hst := Lib.hid hst
            clear hst
            go_wp2
            exact ⟨⟨s, _, by omega, rfl, rfl, congrArg (Value.int .i64) (by have h := Hst.out; simp at h; omega)⟩, by show ((s : Int) - 1 + 1).toNat < ((s : Int) + 1).toNat; omega⟩
        | zero =>
          obtain rfl : z = -1 := by omega
          clear hz
          go_wp2_with (at_builtin; refine wpList_append_lies _ rfl _ _ _ rfl w.heap.size 5 i0 _ 1 1 Tryd.underlying52 hi0 hz0 hz1 hz2 rfl (by omega) (.slice B m cb) m (bts x m) rfl (HB.out.1.alloc _) ⟨wr.heap.size, 0, none⟩ 1 1 [.int .u8 ((hib x m 0 : Int) % 256)] rfl rfl (World.news_of_block (cs := #[.int .u8 ((hib x m 0 : Int) % 256)]) (t := 5) (fr := (0, 0)) (heap_alloc_new wr _)) (by simp [Value.oneCell']) (by omega) (by simp only [maxLen]; omega) (by omega) (by simp; omega) (wr.heap.size + 1) (by simp) ?_; intro g cap w1 hown1 hgrow hat hlt1; have HO1 := Lib.hid hown1; have HG1 := Lib.hid (And.intro hgrow hat); clear hown1 hgrow hat)
          have hg1 : Grew w w1 := (HB.out.2.alloc _).grown HG1.out.1 (fun j hj hlt => by have := (HB.out.1.lt j hj).1; omega)
          have hO := HO1.out
          rw [Int.emod_eq_of_lt (by omega) (by have := hib_lt x m 0; omega), hib_zero, bts_succ] at hO
          exact ⟨⟨m + 1, some ⟨g, 0, none⟩, cap, by omega, by simp; omega, by simp, hO, hg1⟩, by simp [intOf]; omega⟩
    · obtain rfl : m = nb x := by omega
      go_wp2
      go_ret
      exact OwnOut.mk B cb rfl HB.out.1 HB.out.2

end Go.Proofs.YtenmilemdkhijaaDoor
