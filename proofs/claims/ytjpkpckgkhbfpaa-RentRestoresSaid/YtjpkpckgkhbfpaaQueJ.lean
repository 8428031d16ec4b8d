/- The queue: Cancel, Get, Added. -/
import Derived.Test.YtjpkpckgkhbfpaaQueH
namespace Go.Proofs.Ytjpkpckgkhbfpaa
open Go.RowKit Go.Maps

theorem ixm_none_of {l : List Itm} {n : Int} (h : ∀ x ∈ l, x.n ≠ n) (M : Nat) {s : Nat} {W : World} (hm : IMap Try.prog 3 W M (ixm l) s) (hn : (Lit.int .i64 n).wf = true) :
    (Instr.lookup 62 (.map (some M)) (.int .i64 n) true).run Try.prog W = .ok (.tuple #[.int .i64 0, .bool false]) W := by
  have := hm.look_ok (t := 62) kInt Try.underlying3 Try.underlying62 (zInt W) hn
  rw [ixm_none h] at this
  exact this
theorem ixm_some_of {l : List Itm} {x : Itm} {i : Nat} (hd : (l.map Itm.n).Nodup) (hx : l[i]? = some x) (M : Nat) {s : Nat} {W : World} (hm : IMap Try.prog 3 W M (ixm l) s) (hn : (Lit.int .i64 x.n).wf = true) :
    (Instr.lookup 62 (.map (some M)) (.int .i64 x.n) true).run Try.prog W = .ok (.tuple #[.int .i64 i, .bool true]) W := by
  have := hm.look_ok (t := 62) kInt Try.underlying3 Try.underlying62 (zInt W) hn
  rw [ixm_at hd hx] at this
  exact this
theorem ixm_look_of {l : List Itm} {x : Itm} {i : Nat} (hd : (l.map Itm.n).Nodup) (hx : l[i]? = some x) (M : Nat) {s : Nat} {W : World} (hm : IMap Try.prog 3 W M (ixm l) s) (hn : (Lit.int .i64 x.n).wf = true) :
    (Instr.lookup 62 (.map (some M)) (.int .i64 x.n) false).run Try.prog W = .ok (.int .i64 i) W := by
  have := hm.look (t := 62) kInt Try.underlying3 Try.underlying62 (zInt W) hn
  rw [ixm_at hd hx] at this
  exact this

set_option maxHeartbeats 800000 in
theorem cancel_none (b : Nat) (n : Int) (l : List Itm) (A : Option Addr) (c M : Nat) (added : Int) (w : World) (h : Q w b l A c M added) (hn : (Lit.int .i64 n).wf = true) (hno : ∀ x ∈ l, x.n ≠ n) :
    Calls Try.prog 46 #[.pointer (some ⟨b, 0, none⟩), .int .i64 n] w fun e w' => e = .returned (.int .i64 14) ∧ w = w' := by
  obtain ⟨c0, f0, s0⟩ := h.isIn.blk.facts
  have hr := ixm_none_of hno M h.isIn.mp hn
  clear h hno
  go_enter Try.func46, Try.ntmps46
  go_wp2
  go_ret
  exact ⟨rfl, rfl⟩

set_option maxHeartbeats 800000 in
theorem cancel_some (b i : Nat) (x : Itm) (l : List Itm) (A : Option Addr) (c M : Nat) (added : Int) (w : World) (h : Q w b l A c M added) (hx : l[i]? = some x) (hl : l.length ≤ 1000000) :
    Calls Try.prog 46 #[.pointer (some ⟨b, 0, none⟩), .int .i64 x.n] w fun e w' => e = .returned (.int .i64 0) ∧ Q w' b (remL l i) A c M added ∧ Chg (QF b A M) w w' := by
  obtain ⟨c0, f0, s0⟩ := h.isIn.blk.facts
  have hr := ixm_some_of h.nd hx M h.isIn.mp (h.ok x (List.mem_of_getElem? hx))
  have hi : i < l.length := (List.getElem?_eq_some_iff.1 hx).1
  have H := Lib.hid h
  clear h hx
  go_enter Try.func46, Try.ntmps46
  go_wp2_with (go_at_call 58; refine (remove_any b i l A c M added _ H.out hi hl).mono ?_; rintro e w2 ⟨rfl, hq2, hc2⟩; have HQ2 := Lib.hid (And.intro hq2 hc2); clear hq2 hc2)
  go_ret
  exact ⟨rfl, HQ2.out.1, HQ2.out.2⟩

set_option maxHeartbeats 800000 in
theorem qget_none (b : Nat) (n : Int) (l : List Itm) (A : Option Addr) (c M : Nat) (added : Int) (w : World) (h : Q w b l A c M added) (hn : (Lit.int .i64 n).wf = true) (hno : ∀ x ∈ l, x.n ≠ n) :
    Calls Try.prog 52 #[.pointer (some ⟨b, 0, none⟩), .int .i64 n] w fun e w' => e = .returned (.tuple #[.int .i64 0, .int .i64 0, .int .i64 14]) ∧ Grew w w' := by
  obtain ⟨c0, f0, s0⟩ := h.isIn.blk.facts
  have hr := ixm_none_of hno M h.isIn.mp hn
  clear h hno
  go_enter Try.func52, Try.ntmps52
  go_wp2
  refine bodyPost_ret (v := .tuple #[.int .i64 0, .int .i64 0, .int .i64 14]) (by simp [results, Try.results52, go_sem]) rfl ?_
  exact ⟨rfl, Chg.refl _ _⟩

set_option maxHeartbeats 800000 in
theorem qget_some (b i : Nat) (x : Itm) (l : List Itm) (A : Option Addr) (c M : Nat) (added : Int) (w : World) (h : Q w b l A c M added) (hx : l[i]? = some x) :
    Calls Try.prog 52 #[.pointer (some ⟨b, 0, none⟩), .int .i64 x.n] w fun e w' => e = .returned (.tuple #[.int .i64 x.due, .int .i64 x.v, .int .i64 0]) ∧ Grew w w' := by
  have hi : i < l.length := (List.getElem?_eq_some_iff.1 hx).1
  obtain ⟨g, rfl, hg⟩ := own_block h.isIn.own (by omega)
  obtain ⟨g', off, hA, hgb, x0, x1, x2⟩ := (Sl.of_own h.isIn.own).atItm hx
  cases hA
  simp only [Nat.zero_add] at x0 x1 x2
  obtain ⟨c0, f0, s0⟩ := h.isIn.blk.facts
  have hr := ixm_some_of h.nd hx M h.isIn.mp (h.ok x (List.mem_of_getElem? hx))
  have t1 : (0 : Int) ≤ (i : Int) := Int.natCast_nonneg _
  have t2 : (i : Int) < (l.length : Int) := by omega
  clear h hx
  go_enter Try.func52, Try.ntmps52
  go_wp2
  go_quiet (fail)
  go_wp2
  refine bodyPost_ret (v := .tuple #[.int .i64 x.due, .int .i64 x.v, .int .i64 0]) (by simp [results, Try.results52, go_sem]) rfl ?_
  exact ⟨rfl, by (repeat (first | (with_reducible exact (Chg.refl _ _)) | (with_reducible refine Chg.alloc ?_ _) | (with_reducible refine Chg.drew ?_) | (with_reducible refine Chg.drewN ?_ _) | ((with_reducible refine Chg.setCell ?_ ?hp _); (case hp => (intro h; exfalso; simp at h; try omega)))))⟩

end Go.Proofs.Ytjpkpckgkhbfpaa
