/- A law's argument that is a slice of int. No program stands in this text. -/
import Derived.Test.YtjdbaeogoifdfaaOpen
namespace Go.Proofs.Ytjdbaeogoifdfaa
open Go.ChangeShapes Go.WideShapes Go.ChangeAt Go.RowKit Go.Deep

theorem ints_opened {H : Type} {enc : TypeId × Value → H} {P : Program} {w : World} {base : Nat} {spare : Nat → Bool} {held : Bool} {t e : TypeId} {fuel len cap : Nat} {A : Option Addr} {x : DataW H × List MemPlace}
    (ht : P.underlying t = some (.slice e)) (he : P.underlying e = some (.int .i64)) (hC : P.cellsOf e = 1) (h : DataW.trod enc P w base spare held fuel t [.slice A len cap] = some x) :
    ∃ l : List Int, len = l.length ∧ len ≤ maxLen ∧ Sl w 1 A l.length (l.map (Value.int .i64)) ∧ ∀ n ∈ l, -9223372036854775808 ≤ n ∧ n ≤ 9223372036854775807 := by
  obtain ⟨hm, hc⟩ := open_elems ht (s := 1) hC (by omega) h
  rcases hc with rfl | ⟨b, off, rfl, hb, hi⟩
  · exact ⟨[], rfl, hm, Sl.nil _ _ _, fun r hr => by cases hr⟩
  · obtain ⟨l, hl, hp⟩ := choose_list (fun i (r : Int) => (-9223372036854775808 ≤ r ∧ r ≤ 9223372036854775807) ∧ w.cell? ⟨b, off + i, none⟩ = some (.int .i64 r)) len (fun i hil => by
      obtain ⟨cs, n, y, hcl, hat, hT⟩ := hi i hil
      match cs, hcl with
      | [c], _ =>
        obtain ⟨r, e1, -, w1⟩ := DataW.trod_int he hT
        simp at e1
        subst e1
        have := hat 0 (by omega)
        exact ⟨r, wf_bounds w1, by simpa using this⟩)
    refine ⟨l, hl.symm, hm, ⟨by simp, fun _ => ⟨b, off, rfl, hb, fun j u hu => ?_⟩⟩, fun r hr => ?_⟩
    · rw [List.getElem?_map] at hu
      cases hj : l[j]? with
      | none => rw [hj] at hu; cases hu
      | some r => rw [hj] at hu; simp at hu; subst hu; exact (hp j r hj).2
    · obtain ⟨i, hi, rfl⟩ := List.getElem_of_mem hr
      exact (hp i _ (List.getElem?_eq_getElem hi)).1

end Go.Proofs.Ytjdbaeogoifdfaa
