/- The queue: Len, Added, First. -/
import Derived.Test.YtjdbaeogoifdfaaQueF
namespace Go.Proofs.Ytjdbaeogoifdfaa
open Go.RowKit Go.Maps

theorem len_any (b : Nat) (l : List Itm) (A : Option Addr) (c M : Nat) (added : Int) (w : World) (h : Q w b l A c M added) :
    Calls Try.prog 11 #[.pointer (some ⟨b, 0, none⟩)] w fun e w' => e = .returned (.int .i64 l.length) ∧ w = w' := by
  obtain ⟨c0, f0, s0⟩ := h.isIn.blk.facts
  clear h
  go_enter Try.func11, Try.ntmps11
  go_wp2
  go_ret
  exact ⟨rfl, rfl⟩

theorem added_any (b : Nat) (l : List Itm) (A : Option Addr) (c M : Nat) (added : Int) (w : World) (h : Q w b l A c M added) :
    Calls Try.prog 28 #[.pointer (some ⟨b, 0, none⟩)] w fun e w' => e = .returned (.int .i64 added) ∧ w = w' := by
  obtain ⟨c0, f0, s0⟩ := h.isIn.blk.facts
  clear h
  go_enter Try.func28, Try.ntmps28
  go_wp2
  go_ret
  exact ⟨rfl, rfl⟩

/-- What First tells. -/
def firstV (l : List Itm) : Value := match l[0]? with
  | some x => .tuple #[.int .i64 x.n, .int .i64 x.due, .string x.v, .int .i64 0]
  | none => .tuple #[.int .i64 0, .int .i64 0, .string ⟨#[]⟩, .int .i64 14]

set_option maxHeartbeats 800000 in
theorem first_none (b : Nat) (A : Option Addr) (c M : Nat) (added : Int) (w : World) (h : Q w b [] A c M added) :
    Calls Try.prog 12 #[.pointer (some ⟨b, 0, none⟩)] w fun e w' => e = .returned (.tuple #[.int .i64 0, .int .i64 0, .string ⟨#[]⟩, .int .i64 14]) ∧ Grew w w' := by
  obtain ⟨c0, f0, s0⟩ := h.isIn.blk.facts
  clear h
  go_enter Try.func12, Try.ntmps12
  go_wp2
  refine bodyPost_ret (v := .tuple #[.int .i64 0, .int .i64 0, .string ⟨#[]⟩, .int .i64 14]) (by simp [results, Try.results12, go_sem]) rfl ?_
  exact ⟨rfl, Chg.refl _ _⟩

set_option maxHeartbeats 800000 in
theorem first_some (b : Nat) (x : Itm) (l : List Itm) (A : Option Addr) (c M : Nat) (added : Int) (w : World) (h : Q w b l A c M added) (hx : l[0]? = some x) :
    Calls Try.prog 12 #[.pointer (some ⟨b, 0, none⟩)] w fun e w' => e = .returned (.tuple #[.int .i64 x.n, .int .i64 x.due, .string x.v, .int .i64 0]) ∧ Grew w w' := by
  have hl : 0 < l.length := (List.getElem?_eq_some_iff.1 hx).1
  obtain ⟨g, rfl, hg⟩ := own_block h.isIn.own hl
  obtain ⟨g', off, hA, hgb, x0, x1, x2⟩ := (Sl.of_own h.isIn.own).atItm hx
  cases hA
  simp only [Nat.zero_add, Nat.zero_mul] at x0 x1 x2
  obtain ⟨c0, f0, s0⟩ := h.isIn.blk.facts
  have t1 : ((l.length : Int) == 0) = false := beq_eq_false_iff_ne.2 (by omega)
  have t2 : (0 : Int) < (l.length : Int) := by omega
  clear h hx
  go_enter Try.func12, Try.ntmps12
  go_wp2
  go_quiet (fail)
  go_wp2
  refine bodyPost_ret (v := .tuple #[.int .i64 x.n, .int .i64 x.due, .string x.v, .int .i64 0]) (by simp [results, Try.results12, go_sem]) rfl ?_
  exact ⟨rfl, by (repeat (first | (with_reducible exact (Chg.refl _ _)) | (with_reducible refine Chg.alloc ?_ _) | (with_reducible refine Chg.drew ?_) | (with_reducible refine Chg.drewN ?_ _) | ((with_reducible refine Chg.setCell ?_ ?hp _); (case hp => (intro h; exfalso; simp at h; try omega)))))⟩

end Go.Proofs.Ytjdbaeogoifdfaa
