/- The queue: Pop. -/
import Derived.Test.YtjdbaeogoifdfaaQueG
import Derived.Test.YtjdbaeogoifdfaaQueH
namespace Go.Proofs.Ytjdbaeogoifdfaa
open Go.RowKit Go.Maps

set_option maxHeartbeats 800000 in
theorem pop_empty (b : Nat) (now : Int) (A : Option Addr) (c M : Nat) (added : Int) (w : World) (h : Q w b [] A c M added) :
    Calls Try.prog 13 #[.pointer (some ⟨b, 0, none⟩), .int .i64 now] w fun e w' => e = .returned (.tuple #[.int .i64 0, .int .i64 0, .string ⟨#[]⟩, .int .i64 14]) ∧ Grew w w' := by
  have H := Lib.hid h
  clear h
  go_enter Try.func13, Try.ntmps13
  go_wp2_with (go_at_call 12; refine (first_none b A c M added _ H.out).mono ?_; rintro e w1 ⟨rfl, hg1⟩)
  refine bodyPost_ret (v := .tuple #[.int .i64 0, .int .i64 0, .string ⟨#[]⟩, .int .i64 14]) (by simp [results, Try.results13, go_sem]) rfl ?_
  exact ⟨rfl, hg1⟩

set_option maxHeartbeats 800000 in
theorem pop_late (b : Nat) (now : Int) (x : Itm) (l : List Itm) (A : Option Addr) (c M : Nat) (added : Int) (w : World) (h : Q w b l A c M added) (hx : l[0]? = some x) (hd : now < x.due) :
    Calls Try.prog 13 #[.pointer (some ⟨b, 0, none⟩), .int .i64 now] w fun e w' => e = .returned (.tuple #[.int .i64 0, .int .i64 0, .string ⟨#[]⟩, .int .i64 14]) ∧ Grew w w' := by
  have H := Lib.hid (And.intro h hx)
  clear h hx
  have t1 : decide (now < x.due) = true := decide_eq_true hd
  go_enter Try.func13, Try.ntmps13
  go_wp2_with (go_at_call 12; refine (first_some b x l A c M added _ H.out.1 H.out.2).mono ?_; rintro e w1 ⟨rfl, hg1⟩)
  refine bodyPost_ret (v := .tuple #[.int .i64 0, .int .i64 0, .string ⟨#[]⟩, .int .i64 14]) (by simp [results, Try.results13, go_sem]) rfl ?_
  exact ⟨rfl, hg1⟩

set_option maxHeartbeats 800000 in
theorem pop_due (b : Nat) (now : Int) (x : Itm) (l : List Itm) (A : Option Addr) (c M : Nat) (added : Int) (w : World) (h : Q w b l A c M added) (hx : l[0]? = some x) (hl : l.length ≤ 1000000) (hd : ¬ now < x.due) :
    Calls Try.prog 13 #[.pointer (some ⟨b, 0, none⟩), .int .i64 now] w fun e w' => e = .returned (.tuple #[.int .i64 x.n, .int .i64 x.due, .string x.v, .int .i64 0]) ∧ Q w' b (remL l 0) A c M added ∧ Chg (QF b A M) w w' := by
  have H := Lib.hid (And.intro h hx)
  have hl0 : 0 < l.length := (List.getElem?_eq_some_iff.1 hx).1
  clear h hx
  have t1 : decide (now < x.due) = false := decide_eq_false hd
  go_enter Try.func13, Try.ntmps13
  go_wp2_with (first
    | (go_at_call 12; refine (first_some b x l A c M added _ H.out.1 H.out.2).mono ?_; rintro e w1 ⟨rfl, hg1⟩; have HG := Lib.hid hg1; clear hg1)
    | (go_at_call 21; refine (remove_any b 0 l A c M added _ (H.out.1.grew HG.out) hl0 hl).mono ?_; rintro e w2 ⟨rfl, hq2, hc2⟩))
  refine bodyPost_ret (v := .tuple #[.int .i64 x.n, .int .i64 x.due, .string x.v, .int .i64 0]) (by simp [results, Try.results13, go_sem]) rfl ?_
  exact ⟨rfl, hq2, Chg.trans HG.out.chg hc2 fun _ _ e => e⟩

end Go.Proofs.Ytjdbaeogoifdfaa
