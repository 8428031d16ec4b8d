/- The pool: New. -/
import Derived.Test.YtenmilemdkhijaaDoorPoolF
namespace Go.Proofs.YtenmilemdkhijaaDoor
open Go.RowKit

/-- All free. -/
def full (n : Nat) : List Bool := List.replicate n true
theorem full_len (n : Nat) : (full n).length = n := List.length_replicate
theorem full_at (n i : Nat) : (full n).getD i false = decide (i < n) := by
  unfold full
  rw [List.getD_eq_getElem?_getD, List.getElem?_replicate]
  by_cases h : i < n <;> simp [h]
theorem wd_full {n k m : Nat} (h : m = if n - 64 * k < 64 then n - 64 * k else 64) : wd (full n) k = 2 ^ m - 1 := by
  apply Nat.eq_of_testBit_eq
  intro j
  rw [wd_bit, full_at, Nat.testBit_two_pow_sub_one]
  by_cases hj : j < 64
  · simp only [hj, decide_true, Bool.true_and]
    refine decide_eq_decide.2 ?_
    split at h <;> omega
  · have : ¬ j < m := by split at h <;> omega
    simp [hj, this]
theorem wds_take {x : List Bool} {k : Nat} (hk : k < nw x) : (wds x).take (k + 1) = (wds x).take k ++ [.int .u64 (wd x k)] := by
  rw [List.take_add_one, wds_at hk]; rfl

theorem u64Info : (Tryd.prog.info? 63).map (fun i => (i.zero, i.size, i.bytes)) = some (some (.int .u64 0), 1, 8) := by kernel_rfl

theorem pnew_nil (n : Int) (w : World) (h : n < 0 ∨ 65536 < n) :
    Calls Tryd.prog 9 #[.int .i64 n] w fun e w' => e = .returned (.pointer none) ∧ w = w' := by
  by_cases h1 : n < 0
  · clear h
    go_enter Tryd.func9, Tryd.ntmps9
    go_wp2
    go_ret
    exact ⟨rfl, rfl⟩
  · have h2 : 65536 < n := by omega
    clear h
    go_enter Tryd.func9, Tryd.ntmps9
    go_wp2
    go_ret
    exact ⟨rfl, rfl⟩

/-- What New leaves. -/
def PMade (w w' : World) (n : Nat) (e : Ending) : Prop := ∃ A c, e = .returned (.pointer (some ⟨w.heap.size, 0, none⟩)) ∧ PIn w' w.heap.size (full n) A c ∧ Grew w w' ∧ ∀ j, PF w.heap.size A j → w.heap.size ≤ j

set_option maxRecDepth 100000 in
set_option maxHeartbeats 1600000 in
theorem pnew_any (n : Nat) (w : World) (h : n ≤ 65536) :
    Calls Tryd.prog 9 #[.int .i64 n] w fun e w' => PMade w w' n e := by
  obtain ⟨i0, hi0, hz0, hz1, hz2⟩ := info_parts u64Info
  obtain ⟨x, hx⟩ : ∃ x, full n = x := ⟨_, rfl⟩
  have hxl : x.length = n := hx ▸ full_len n
  have hnw : nw x = (n + 63) / 64 := by unfold nw; rw [hxl]
  have HX := Lib.hid (And.intro hx (And.intro hxl hnw))
  have hB := Lib.hid (Blk.new w 62 #[.int .i64 n, .slice none 0 0])
  clear hx hxl hnw
  go_enter Tryd.func9, Tryd.ntmps9
  go_wp2
  go_loopw [4] (fun at_ wr => ∃ (k : Nat) (A : Option Addr) (c : Nat), at_ = .int .i64 (64 * (k : Int)) ∧ k ≤ (n + 63) / 64 ∧ Blk wr w.heap.size 62 #[.int .i64 n, .slice A k c] ∧ wr.ownsRow (w.heap.size + 1) 63 1 (.slice A k c) k ((wds x).take k) ∧ Grew w wr) (fun at_ _ => n - (intOf at_).toNat)
  case atStart => exact ⟨0, none, 0, rfl, by omega, hB.out, World.ownsRow_nil _ _ _ _, (Chg.refl _ _).alloc _⟩
  case round =>
    obtain ⟨k, A1, c1, rfl, hk, hb, hown, hg⟩ := hrel
    obtain ⟨c0, f0, s0⟩ := hb.facts
    have hsz := hg.size
    have HB := Lib.hid (And.intro hb (And.intro hown hg))
    clear hb hown hg
    by_cases hlt : 64 * k < n
    · have t1 : decide (64 * (k : Int) < (n : Int)) = true := decide_eq_true (by omega)
      obtain ⟨m, hm⟩ : ∃ m, n - 64 * k = m := ⟨_, rfl⟩
      have hmi : (n : Int) - 64 * (k : Int) = (m : Int) := by omega
      have hkn : k < nw x := by rw [HX.out.2.2]; omega
      by_cases hm64 : m < 64
      · have t2 : decide ((m : Int) < 64) = true := decide_eq_true (by omega)
        have hw := wd_full (n := n) (k := k) (m := m) (by rw [hm, if_pos hm64])
        rw [HX.out.1] at hw
        have hp := pow_lt64 hm64
        have hp1 : 1 ≤ 2 ^ m := Nat.one_le_two_pow
        have key : IntKind.u64.wrap (IntKind.u64.wrap ((2 : Int) ^ m) - 1) = (wd x k : Int) := by
          rw [show (2 : Int) ^ m = ((2 ^ m : Nat) : Int) from (Int.natCast_pow 2 m).symm, wrapU hp, show ((2 ^ m : Nat) : Int) - 1 = ((2 ^ m - 1 : Nat) : Int) by omega, wrapU (by omega), hw]
        have Hw := Lib.hid (And.intro hw (And.intro hp (And.intro hp1 hm)))
        clear hw hp hp1 hm
        have hb1 := HB.out.1.lt
        go_wp2_with (at_builtin; refine wpList_append_lies _ rfl _ _ _ rfl (w.heap.size + 1) 63 i0 _ 1 8 Tryd.underlying60 hi0 hz0 hz1 hz2 rfl (by omega) (.slice A1 k c1) k ((wds x).take k) rfl (HB.out.2.1.alloc _) ⟨wr.heap.size, 0, none⟩ 1 1 [.int .u64 (wd x k)] rfl rfl (World.news_of_block (cs := #[.int .u64 (wd x k)]) (t := 63) (fr := (0, 0)) (heap_alloc_new wr _)) (by simp [Value.oneCell']) (by omega) (by simp only [maxLen]; omega) (by omega) (by simp; omega) (wr.heap.size + 1) (by simp) ?_; intro g cap w1 hown1 hgrow hat hlt1; have HO1 := Lib.hid hown1; have HG1 := Lib.hid (And.intro hgrow hat); have hbw := (HB.out.1.alloc _).grown hgrow (fun e => by have := (HB.out.2.1.lt _ e.symm).1; omega); clear hown1 hgrow hat c0 f0 s0; obtain ⟨c0, f0, s0⟩ := hbw.facts; have HBW := Lib.hid hbw; clear hbw)
        have hg1 : Grew w w1 := (HB.out.2.2.alloc _).grown HG1.out.1 (fun j hj hlt => by have := (HB.out.2.1.lt j hj).1; omega)
        have hO := HO1.out
        rw [← wds_take hkn] at hO
        have hgb : g ≠ w.heap.size := fun e => by have := (hO.lt g rfl).1; omega
        have hcw : Chg (fun j => j = w.heap.size) w1 (w1.setCell ⟨w.heap.size, 1, none⟩ (.slice (some ⟨g, 0, none⟩) (k + 1) cap)) := (Chg.refl (fun j => j = w.heap.size) w1).setCell (p := ⟨w.heap.size, 1, none⟩) (fun _ => rfl) _
        refine ⟨⟨k + 1, some ⟨g, 0, none⟩, cap, by simp; omega, by omega, ?_, own_chg hO hcw (fun j hj e => hgb (by simp [Value.ownBlock] at hj; omega)), Chg.trans hg1 hcw fun i hi e => by omega⟩, by simp [intOf]; omega⟩
        have := HBW.out.put 1 (.slice (some ⟨g, 0, none⟩) (k + 1) cap)
        simpa using this
      · have t2 : decide ((m : Int) < 64) = false := decide_eq_false (by omega)
        have hw := Lib.hid (show wd x k = 18446744073709551615 by rw [← HX.out.1]; exact wd_full (n := n) (k := k) (m := 64) (by rw [hm, if_neg hm64]))
        clear hm64
        have hb1 := HB.out.1.lt
        go_wp2_with (at_builtin; refine wpList_append_lies _ rfl _ _ _ rfl (w.heap.size + 1) 63 i0 _ 1 8 Tryd.underlying60 hi0 hz0 hz1 hz2 rfl (by omega) (.slice A1 k c1) k ((wds x).take k) rfl (HB.out.2.1.alloc _) ⟨wr.heap.size, 0, none⟩ 1 1 [.int .u64 18446744073709551615] rfl rfl (World.news_of_block (cs := #[.int .u64 18446744073709551615]) (t := 63) (fr := (0, 0)) (heap_alloc_new wr _)) (by simp [Value.oneCell']) (by omega) (by simp only [maxLen]; omega) (by omega) (by simp; omega) (wr.heap.size + 1) (by simp) ?_; intro g cap w1 hown1 hgrow hat hlt1; have HO1 := Lib.hid hown1; have HG1 := Lib.hid (And.intro hgrow hat); have hbw := (HB.out.1.alloc _).grown hgrow (fun e => by have := (HB.out.2.1.lt _ e.symm).1; omega); clear hown1 hgrow hat c0 f0 s0; obtain ⟨c0, f0, s0⟩ := hbw.facts; have HBW := Lib.hid hbw; clear hbw)
        have hg1 : Grew w w1 := (HB.out.2.2.alloc _).grown HG1.out.1 (fun j hj hlt => by have := (HB.out.2.1.lt j hj).1; omega)
        have hO := HO1.out
        rw [show ([Value.int IntKind.u64 18446744073709551615] : List Value) = [.int .u64 (wd x k : Int)] by rw [hw.out]; rfl, ← wds_take hkn] at hO
        have hgb : g ≠ w.heap.size := fun e => by have := (hO.lt g rfl).1; omega
        have hcw : Chg (fun j => j = w.heap.size) w1 (w1.setCell ⟨w.heap.size, 1, none⟩ (.slice (some ⟨g, 0, none⟩) (k + 1) cap)) := (Chg.refl (fun j => j = w.heap.size) w1).setCell (p := ⟨w.heap.size, 1, none⟩) (fun _ => rfl) _
        refine ⟨⟨k + 1, some ⟨g, 0, none⟩, cap, by simp; omega, by omega, ?_, own_chg hO hcw (fun j hj e => hgb (by simp [Value.ownBlock] at hj; omega)), Chg.trans hg1 hcw fun i hi e => by omega⟩, by simp [intOf]; omega⟩
        have := HBW.out.put 1 (.slice (some ⟨g, 0, none⟩) (k + 1) cap)
        simpa using this
    · have t1 : decide (64 * (k : Int) < (n : Int)) = false := decide_eq_false (by omega)
      go_wp2
      go_ret
      have hke : k = nw x := by rw [HX.out.2.2]; omega
      have hB2 := HB.out.1
      have hO := HB.out.2.1
      have hxl := HX.out.2.1
      rw [List.take_of_length_le (by rw [wds_len]; omega)] at hO
      rw [hke] at hB2 hO
      refine ⟨A1, c1, rfl, ?_, HB.out.2.2, ?_⟩
      · rw [HX.out.1]
        exact ⟨by rw [hxl]; exact hB2, own_base hO (Nat.zero_le _)⟩
      · rintro j (rfl | ⟨a, rfl, rfl⟩)
        · omega
        · obtain ⟨g, rfl, -⟩ := own_some hO
          have := (hO.lt g rfl).1
          simp only []
          omega

end Go.Proofs.YtenmilemdkhijaaDoor
