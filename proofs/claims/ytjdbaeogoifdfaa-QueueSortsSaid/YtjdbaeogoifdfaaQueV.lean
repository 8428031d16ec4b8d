/- QueueSorts: things that are popped come by their times, of one time in the order in which they were added. -/
import Derived.Test.YtjdbaeogoifdfaaQueU
import Derived.Deep.DeepCutAuto
namespace Go.Proofs.Ytjdbaeogoifdfaa
open Go.RowKit Go.Maps

theorem Sl.atInt {w : World} {A : Option Addr} {n : Nat} {xs : List Int} (h : Sl w 1 A n (xs.map (Value.int .i64))) {k : Nat} {v : Int} (hx : xs[k]? = some v) :
    ∃ g off, A = some ⟨g, off, none⟩ ∧ g < w.heap.size ∧ w.cell? ⟨g, off + k, none⟩ = some (.int .i64 v) := by
  have hk : k < xs.length := (List.getElem?_eq_some_iff.1 hx).1
  have hl := h.1
  rw [List.length_map] at hl
  obtain ⟨g, off, hA, hb, hc⟩ := h.2 (by omega)
  exact ⟨g, off, hA, hb, hc k _ (by simp [hx])⟩

/-- The things that are added. -/
def its (ts : List Int) : List Itm := ts.mapIdx fun j t => ⟨(j : Int) + 1, t, ⟨#[118]⟩⟩
theorem its_len (ts : List Int) : (its ts).length = ts.length := by simp [its]
theorem its_at {ts : List Int} {k : Nat} {t : Int} (h : ts[k]? = some t) : (its ts)[k]? = some ⟨(k : Int) + 1, t, ⟨#[118]⟩⟩ := by simp [its, h]
theorem its_take {ts : List Int} {k : Nat} {t : Int} (h : ts[k]? = some t) : (its ts).take (k + 1) = (its ts).take k ++ [⟨(k : Int) + 1, t, ⟨#[118]⟩⟩] := by
  rw [List.take_add_one, its_at h]; rfl
theorem its_mem {ts : List Int} {x : Itm} (h : x ∈ its ts) : ∃ k : Nat, x.n = (k : Int) + 1 ∧ ts[k]? = some x.due ∧ x.v = ⟨#[118]⟩ := by
  obtain ⟨k, hk⟩ := List.mem_iff_getElem?.1 h
  have hkl : k < ts.length := by rw [← its_len]; exact (List.getElem?_eq_some_iff.1 hk).1
  obtain ⟨t, ht⟩ : ∃ t, ts[k]? = some t := ⟨_, List.getElem?_eq_getElem hkl⟩
  rw [its_at ht] at hk
  cases hk
  exact ⟨k, rfl, ht, rfl⟩
theorem its_le {ts : List Int} {k : Nat} {x : Itm} (h : x ∈ (its ts).take k) : x.n ≤ k := by
  obtain ⟨j, hj⟩ := List.mem_iff_getElem?.1 h
  rw [List.getElem?_take] at hj
  split at hj
  · rename_i hjk
    have hjl : j < ts.length := by rw [← its_len]; exact (List.getElem?_eq_some_iff.1 hj).1
    rw [its_at (List.getElem?_eq_getElem hjl)] at hj
    cases hj
    show (j : Int) + 1 ≤ k
    omega
  · cases hj

set_option maxRecDepth 100000 in
set_option maxHeartbeats 400000 in
theorem sorts_out (ts : List Int) (A : Option Addr) (c : Nat) (w : World) (hl : ts.length > 150) (hln : (ts.length : Int) ≤ 9223372036854775807) :
    Calls Try.prog 3 #[.slice A ts.length c] w fun e w' => e = .returned (.bool true) ∧ Grew w w' := by
  go_enter Try.func3, Try.ntmps3
  go_wp2_with (first
    | (go_at_call 8; refine (new_any _).mono ?_; rintro e w1 ⟨rfl, rfl⟩)
    | (go_at_call 9; refine (awake_any _).mono ?_; rintro e w2 ⟨rfl, hg2⟩))
  go_ret
  exact ⟨rfl, Grew.trans (((Chg.refl _ _).alloc _).alloc _) hg2⟩

end Go.Proofs.Ytjdbaeogoifdfaa
