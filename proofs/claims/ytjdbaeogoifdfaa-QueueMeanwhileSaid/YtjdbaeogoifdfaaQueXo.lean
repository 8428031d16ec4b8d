/- The queue: Due. -/
import Derived.Test.YtjdbaeogoifdfaaQueI
import Derived.Test.YtjdbaeogoifdfaaRange
import Derived.Sort.LoopGhostIn
import Derived.BigGuardIn
namespace Go.Proofs.Ytjdbaeogoifdfaa
open Go.RowKit Go.Maps
attribute [local go_sem] Oper.semAt_some

/-- How an iterator ends. -/
def IterEnd (J Jx : World → Prop) (e : Ending) (w : World) : Prop := (∃ v, e = .returned v) ∧ (J w ∨ Jx w)
/-- How a round ends. -/
def Rounded (J Jx : World → Prop) (e : Ending) (w : World) : Prop := (e = .returned (.bool true) ∧ J w) ∨ (e = .returned (.bool false) ∧ Jx w)

theorem pop_no (b : Nat) (now : Int) (l : List Itm) (A : Option Addr) (c M : Nat) (added : Int) (w : World) (h : Q w b l A c M added) (hno : ∀ x, l[0]? = some x → now < x.due) :
    Calls Try.prog 13 #[.pointer (some ⟨b, 0, none⟩), .int .i64 now] w fun e w' => e = .returned (.tuple #[.int .i64 0, .int .i64 0, .string ⟨#[]⟩, .int .i64 14]) ∧ Grew w w' := by
  cases l with
  | nil => exact pop_empty b now A c M added w h
  | cons x l => exact pop_late b now x (x :: l) A c M added w h rfl (hno x rfl)

theorem due_any (b : Nat) (now : Int) (w W : World) (hW : (w.alloc (.cells #[.pointer (some ⟨b, 0, none⟩)] 23)).alloc (.cells #[.int .i64 now] 3) = W) :
    Calls Try.prog 16 #[.pointer (some ⟨b, 0, none⟩), .int .i64 now] w fun e w' => e = .returned (.func (.func 29) #[] #[.pointer (some ⟨w.heap.size, 0, none⟩), .pointer (some ⟨w.heap.size + 1, 0, none⟩)]) ∧ W = w' := by
  subst hW
  go_enter Try.func16, Try.ntmps16
  go_wp2
  go_ret
  exact ⟨rfl, rfl⟩

set_option maxRecDepth 100000 in
set_option maxHeartbeats 1600000 in
theorem due_iter (bq bn b y n0 : Nat) (now : Int) (J : Nat → World → Prop) (Je Jx : World → Prop) (w : World)
    (hin : ∀ n W, J n W → ∃ l A c M added, Blk W bq 23 #[.pointer (some ⟨b, 0, none⟩)] ∧ Blk W bn 3 #[.int .i64 now] ∧ Q W b l A c M added ∧ l.length ≤ 1000000 ∧
      ((∀ x, l[0]? = some x → now < x.due) → ∀ W', Grew W W' → Je W') ∧
      (∀ x W', l[0]? = some x → x.due ≤ now → Q W' b (remL l 0) A c M added → Chg (QF b A M) W W' → ∃ m, m < n ∧ YieldAt Fence.wide 0 Try.prog y #[.int .i64 x.n, .string x.v] W' (Rounded (J m) Jx)))
    (h0 : J n0 w) :
    Calls Try.prog 29 #[.func (.yield y) #[] #[], .pointer (some ⟨bq, 0, none⟩), .pointer (some ⟨bn, 0, none⟩)] w fun e w' => IterEnd Je Jx e w' := by
  have Hin := Lib.hid hin
  have H0 := Lib.hid h0
  clear hin h0
  (refine (callsIn_wide (n := 1)).1 (callsIn_of_wp Try.func29 rfl trivial ?_ rfl); simp only [Try.ntmps29, List.size_toArray, List.length_cons, List.length_nil, Nat.reduceAdd, Nat.reduceSub, Array.replicate_succ, Array.replicate_zero, List.push_toArray, List.append_toArray, List.nil_append, List.cons_append])
  gi_wp2
  gi_loopg [9] n0 (fun n v wr => ∃ q : Nat, q ≤ n ∧ J q wr)
  case atStart => exact ⟨n0, Nat.le_refl _, H0.out⟩
  case round =>
    obtain ⟨n, hnle, hrel⟩ := hrel
    obtain ⟨l, A, c, M, added, hb1, hb2, hq, hl, he, hd⟩ := Hin.out n wr hrel
    obtain ⟨c0, f0, s0⟩ := hb1.facts
    obtain ⟨c1, f1, s1⟩ := hb2.facts
    have HQ := Lib.hid hq
    have HE := Lib.hid (And.intro he hd)
    clear hb1 hb2 hq he hd hrel
    by_cases hx : ∃ x, l[0]? = some x ∧ ¬ now < x.due
    · obtain ⟨x, hx, hxd⟩ := hx
      have HX := Lib.hid (And.intro hx (Int.not_lt.1 hxd))
      clear hx hxd
      gi_wp2_with (first
        | (refine ⟨trivial, ?_⟩; gi_at_call 13; refine (callsIn_wide.2 (pop_due b now x l A c M added _ HQ.out HX.out.1 hl (Int.not_lt.2 HX.out.2))).mono ?_; rintro e w2 ⟨rfl, hq2, hc2⟩; obtain ⟨m, hm, fn, tmps, assign, body, hy, hR⟩ := HE.out.2 x w2 HX.out.1 HX.out.2 hq2 hc2; have HR := Lib.hid hR; clear hR hq2 hc2 c0 f0 s0 c1 f1 s1)
        | (refine HR.out.mono ?_; rintro e w4 (⟨rfl, hJ2⟩ | ⟨rfl, hJ2⟩) <;> have HJ2 := Lib.hid hJ2 <;> clear hJ2))
      · gi_roundg m
        case measure => omega
        case rel => exact ⟨m, Nat.le_refl _, HJ2.out⟩
      · refine bodyPost_ret (results_none rfl _ _ _) rfl ?_
        exact ⟨⟨_, rfl⟩, .inr HJ2.out⟩
    · have HN := Lib.hid (show ∀ x, l[0]? = some x → now < x.due from fun x h => Decidable.byContradiction fun hn => hx ⟨x, h, hn⟩)
      clear hx
      gi_wp2_with (refine ⟨trivial, ?_⟩; gi_at_call 13; refine (callsIn_wide.2 (pop_no b now l A c M added _ HQ.out HN.out)).mono ?_; rintro e w2 ⟨rfl, hg2⟩; have HG2 := Lib.hid hg2; clear hg2 c0 f0 s0 c1 f1 s1)
      refine ⟨fun _ h => (by cases h), ?_⟩
      gi_wp2
      refine bodyPost_ret (results_none rfl _ _ _) rfl ?_
      exact ⟨⟨_, rfl⟩, .inl (HE.out.1 HN.out _ HG2.out)⟩

end Go.Proofs.Ytjdbaeogoifdfaa
