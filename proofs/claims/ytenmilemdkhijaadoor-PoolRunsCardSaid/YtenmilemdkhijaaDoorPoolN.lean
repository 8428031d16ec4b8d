/- The pool: the iterator over the free numbers. -/
import Derived.Test.YtenmilemdkhijaaDoorPoolM
import Derived.Test.YtenmilemdkhijaaDoorRange
import Derived.Sort.LoopGhostIn
import Derived.BigGuardIn
namespace Go.Proofs.YtenmilemdkhijaaDoor
open Go.RowKit
attribute [local go_sem] Oper.semAt_some

/-- How an iterator ends. -/
def IterEnd (J Jx : World → Prop) (e : Ending) (w : World) : Prop := (∃ v, e = .returned v) ∧ (J w ∨ Jx w)
/-- How a round ends. -/
def Rounded (J Jx : World → Prop) (e : Ending) (w : World) : Prop := (e = .returned (.bool true) ∧ J w) ∨ (e = .returned (.bool false) ∧ Jx w)

theorem rangeEnd_block {P : Program} {l id : Nat} {r : Loop} {Q : Exit → Act → World → Prop} {a : Act} {w3 : World}
    (h : Rec w3 l (Loop.at_ r .ready none) ∨ Rec w3 l (Loop.at_ r .done (some (.exit id)))) (hk : ∀ w4, Kept l w3 w4 → Q .normal a w4) : rangeEnd P l r (Exit.inBlock id Q) a w3 := by
  rcases h with h | h
  · exact .inl ⟨h, fun w4 k => hk w4 k⟩
  · exact .inr ⟨_, h, fun w4 k => wp_exit (by simpa [Exit.inBlock] using hk w4 k)⟩

theorem all_any (b : Nat) (w W : World) (hW : w.alloc (.cells #[.pointer (some ⟨b, 0, none⟩)] 24) = W) :
    Calls Tryd.prog 16 #[.pointer (some ⟨b, 0, none⟩)] w fun e w' => e = .returned (.func (.func 31) #[] #[.pointer (some ⟨w.heap.size, 0, none⟩)]) ∧ W = w' := by
  subst hW
  go_enter Tryd.func16, Tryd.ntmps16
  go_wp2
  go_ret
  exact ⟨rfl, rfl⟩

/-- What the closure that All makes reads. -/
structure AllIn (W : World) (bb b : Nat) (x : List Bool) (A : Option Addr) (c : Nat) : Prop where
  bb : Blk W bb 24 #[.pointer (some ⟨b, 0, none⟩)]
  p : PIn W b x A c
  t : TabAt 0 tab W

set_option maxRecDepth 100000 in
set_option maxHeartbeats 1600000 in
theorem all_iter (bb b y : Nat) (x : List Bool) (A : Option Addr) (c : Nat) (J Jx : Nat → World → Prop) (w : World) (hl : x.length ≤ 65536)
    (hin : ∀ i W, J i W → AllIn W bb b x A c)
    (hyld : ∀ i j W, J i W → nxt x i = some j → YieldAt Fence.wide 0 Tryd.prog y #[.int .i64 j] W (Rounded (J (j + 1)) (Jx (j + 1))))
    (h0 : J 0 w) :
    Calls Tryd.prog 31 #[.func (.yield y) #[] #[], .pointer (some ⟨bb, 0, none⟩)] w fun e w' => IterEnd (fun W => ∃ i, J i W ∧ nxt x i = none) (fun W => ∃ i, Jx i W) e w' := by
  have Hin := Lib.hid hin
  have Hyld := Lib.hid hyld
  have H0 := Lib.hid h0
  obtain ⟨c0, f0, s0⟩ := (hin 0 w h0).bb.facts
  clear hin hyld h0
  (refine (callsIn_wide (n := 1)).1 (callsIn_of_wp Tryd.func31 rfl trivial ?_ rfl); simp only [Tryd.ntmps31, List.size_toArray, List.length_cons, List.length_nil, Nat.reduceAdd, Nat.reduceSub, Array.replicate_succ, Array.replicate_zero, List.push_toArray, List.append_toArray, List.nil_append, List.cons_append])
  gi_wp2_with (refine ⟨trivial, ?_⟩; gi_at_call 14; refine (callsIn_wide.2 (pnext_nat b 0 x A c _ (Hin.out 0 w H0.out).p hl (by omega) (Hin.out 0 w H0.out).t)).mono ?_; rintro e w1 ⟨rfl, rfl⟩)
  clear c0 f0 s0
  obtain ⟨v0, hv0⟩ : ∃ v, oI (nxt x 0) = v := ⟨_, rfl⟩
  obtain ⟨k0, hk0⟩ : ∃ v, oB (nxt x 0) = v := ⟨_, rfl⟩
  rw [hv0, hk0]
  have HV := Lib.hid (And.intro hv0 hk0)
  clear hv0 hk0
  gi_loopg [3, 4] (x.length) (fun n v ok wr => ∃ i : Nat, n = x.length - i ∧ i ≤ x.length ∧ v = .int .i64 (oI (nxt x i)) ∧ ok = .bool (oB (nxt x i)) ∧ J i wr)
  case atStart => exact ⟨0, by simp, by omega, by rw [HV.out.1], by rw [HV.out.2], H0.out⟩
  case round =>
    obtain ⟨i, rfl, hi, rfl, rfl, hJ⟩ := hrel
    have HJ := Lib.hid hJ
    obtain ⟨c0, f0, s0⟩ := (Hin.out i wr hJ).bb.facts
    clear hJ
    cases hx : nxt x i with
    | none =>
      have HX := Lib.hid hx
      clear hx
      simp only [oI, oB]
      gi_wp2
      refine ⟨fun _ h => (by cases h), ?_⟩
      gi_wp2
      refine bodyPost_end (results_none rfl _ _ _) rfl ?_
      exact ⟨⟨_, rfl⟩, .inl ⟨i, HJ.out, HX.out⟩⟩
    | some j =>
      have hj := nxt_some.1 hx
      have hjl := hj.2.1
      have hij := hj.1
      obtain ⟨fn, tmps, assign, body, hy, hR⟩ := Hyld.out i j wr HJ.out hx
      have HR := Lib.hid hR
      clear hx hj hR
      simp only [oI, oB]
      gi_wp2_with (first
        | (refine HR.out.mono ?_; rintro e w4 (⟨rfl, hJ2⟩ | ⟨rfl, hJ2⟩) <;> have HJ2 := Lib.hid hJ2 <;> clear hJ2 c0 f0 s0; (first | (obtain ⟨c0, f0, s0⟩ := (Hin.out (j + 1) w4 HJ2.out).bb.facts) | skip))
        | (refine ⟨trivial, ?_⟩; gi_at_call 14; refine (callsIn_wide.2 (pnext_nat b (j + 1) x A c _ (Hin.out (j + 1) w4 HJ2.out).p hl (by omega) (Hin.out (j + 1) w4 HJ2.out).t)).mono ?_; rintro e w1 ⟨rfl, rfl⟩))
      · gi_roundg (x.length - (j + 1))
        case measure => omega
        case rel => exact ⟨j + 1, rfl, by omega, rfl, rfl, HJ2.out⟩
      · refine bodyPost_end (results_none rfl _ _ _) rfl ?_
        exact ⟨⟨_, rfl⟩, .inr ⟨_, HJ2.out⟩⟩

end Go.Proofs.YtenmilemdkhijaaDoor
