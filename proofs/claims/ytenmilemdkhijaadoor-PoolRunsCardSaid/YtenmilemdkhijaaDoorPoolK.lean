/- The pool's list of bools: New, Next. -/
import Derived.Test.YtenmilemdkhijaaDoorPoolI
namespace Go.Proofs.YtenmilemdkhijaaDoor
open Go.RowKit

/-- What the list's Next tells. -/
def oJ : Option Nat → Int
  | some j => j
  | none => -1

theorem Sl.atBool {w : World} {A : Option Addr} {n : Nat} {xs : List Bool} (h : Sl w 1 A n (xs.map Value.bool)) {k : Nat} (hk : k < xs.length) :
    ∃ g off, A = some ⟨g, off, none⟩ ∧ g < w.heap.size ∧ w.cell? ⟨g, off + k, none⟩ = some (.bool (xs.getD k false)) := by
  have hl := h.1
  rw [List.length_map] at hl
  obtain ⟨g, off, hA, hb, hc⟩ := h.2 (by omega)
  refine ⟨g, off, hA, hb, hc k _ ?_⟩
  rw [List.getElem?_map, List.getElem?_eq_getElem hk, List.getD_eq_getElem?_getD, List.getElem?_eq_getElem hk]
  rfl

set_option maxHeartbeats 800000 in
theorem xnext_any (f : Int) (x : List Bool) (A : Option Addr) (c : Nat) (w : World) (hs : Sl w 1 A x.length (x.map Value.bool)) (hl : x.length ≤ 65536) :
    Calls Tryd.prog 15 #[.slice A x.length c, .int .i64 f] w fun e w' => e = .returned (.int .i64 (oJ (nxt x f.toNat))) ∧ w = w' := by
  obtain ⟨v, hv⟩ : ∃ v, nxt x f.toNat = v := ⟨_, rfl⟩
  rw [hv]
  have HV := Lib.hid hv
  have Hs := Lib.hid hs
  clear hs hv
  go_enter Tryd.func15, Tryd.ntmps15
  go_wp2
  go_loop [5] (fun i => ∃ k : Nat, k ≤ x.length ∧ i = .int .i64 k ∧ ∀ m, f.toNat ≤ m → m < k → x.getD m false = false) (fun i => x.length - (intOf i).toNat)
  case atStart => exact ⟨0, by omega, rfl, fun m _ h => absurd h (by omega)⟩
  case round =>
    obtain ⟨k, hk, rfl, hno⟩ := hrel
    have HN := Lib.hid hno
    clear hno
    by_cases hlt : k < x.length
    · obtain ⟨g, off, rfl, hb, d0⟩ := Hs.out.atBool hlt
      cases hx : x.getD k false with
      | false =>
        have HX := Lib.hid hx
        rw [hx] at d0
        clear hx
        go_wp2
        refine ⟨⟨k + 1, by omega, by simp, fun m h1 h2 => ?_⟩, by simp [intOf]; omega⟩
        by_cases hm : m = k
        · subst hm; exact HX.out
        · exact HN.out m h1 (by omega)
      | true =>
        have HX := Lib.hid hx
        rw [hx] at d0
        clear hx
        by_cases hf : f ≤ (k : Int)
        · have hn := Lib.hid (nxt_some.2 ⟨(by omega : f.toNat ≤ k), hlt, HX.out, HN.out⟩)
          go_wp2
          go_ret
          refine ⟨?_, rfl⟩
          rw [← HV.out, hn.out]
          rfl
        · have t1 : decide (f ≤ (k : Int)) = false := decide_eq_false hf
          clear hf
          go_wp2
          refine ⟨⟨k + 1, by omega, by simp, fun m h1 h2 => ?_⟩, by simp [intOf]; omega⟩
          by_cases hm : m = k
          · subst hm; simp at t1; omega
          · exact HN.out m h1 (by omega)
    · have hn := Lib.hid (nxt_none.2 fun m h1 => by
        by_cases hm : m < k
        · exact HN.out m h1 hm
        · rw [List.getD_eq_getElem?_getD, List.getElem?_eq_none (by omega)]; rfl)
      obtain rfl : k = x.length := by omega
      go_wp2
      go_ret
      refine ⟨?_, rfl⟩
      rw [← HV.out, hn.out]
      rfl

set_option maxHeartbeats 1600000 in
theorem xnew_any (n : Nat) (w : World) (h : n ≤ 65536) :
    Calls Tryd.prog 17 #[.int .i64 n] w fun e w' => OwnOut w w' 4 1 n ((full n).map Value.bool) (fun A c => .slice A n c) e := by
  obtain ⟨i0, hi0, hz0, hz1, hz2⟩ := info_parts boolInfo
  go_enter Tryd.func17, Tryd.ntmps17
  go_wp2
  go_loopw [3, 4] (fun v i wr => ∃ (k : Nat) (A : Option Addr) (c : Nat), k ≤ n ∧ i = .int .i64 k ∧ v = .slice A k c ∧ wr.ownsRow w.heap.size 4 1 (.slice A k c) k ((full k).map Value.bool) ∧ Grew w wr) (fun _ i _ => n - (intOf i).toNat)
  case atStart => exact ⟨0, none, 0, by omega, rfl, rfl, World.ownsRow_nil _ _ _ _, Chg.refl _ _⟩
  case round =>
    obtain ⟨k, A1, c1, hk, rfl, rfl, hown, hg⟩ := hrel
    have hsz := hg.size
    have HB := Lib.hid (And.intro hown hg)
    clear hown hg
    by_cases hlt : k < n
    · go_wp2_with (at_builtin; refine wpList_append_lies _ rfl _ _ _ rfl w.heap.size 4 i0 _ 1 1 Tryd.underlying29 hi0 hz0 hz1 hz2 rfl (by omega) (.slice A1 k c1) k ((full k).map Value.bool) rfl (HB.out.1.alloc _) ⟨wr.heap.size, 0, none⟩ 1 1 [.bool true] rfl rfl (World.news_of_block (cs := #[.bool true]) (t := 4) (fr := (0, 0)) (heap_alloc_new wr _)) (by simp [Value.oneCell']) (by omega) (by simp only [maxLen]; omega) (by omega) (by simp; omega) (wr.heap.size + 1) (by simp) ?_; intro g cap w1 hown1 hgrow hat hlt1; have HO1 := Lib.hid hown1; have HG1 := Lib.hid (And.intro hgrow hat); clear hown1 hgrow hat)
      have hg1 : Grew w w1 := (HB.out.2.alloc _).grown HG1.out.1 (fun j hj hlt => by have := (HB.out.1.lt j hj).1; omega)
      have hO := HO1.out
      rw [show (full k).map Value.bool ++ [.bool true] = (full (k + 1)).map Value.bool by unfold full; rw [List.replicate_succ', List.map_append]; rfl] at hO
      exact ⟨⟨k + 1, some ⟨g, 0, none⟩, cap, by omega, by simp, by simp, hO, hg1⟩, by simp [intOf]; omega⟩
    · obtain rfl : k = n := by omega
      go_wp2
      go_ret
      exact OwnOut.mk A1 c1 rfl HB.out.1 HB.out.2

end Go.Proofs.YtenmilemdkhijaaDoor
