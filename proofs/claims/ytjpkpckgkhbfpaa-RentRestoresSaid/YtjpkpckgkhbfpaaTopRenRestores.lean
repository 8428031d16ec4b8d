/- RentRestores returns true, for every input. It has no condition. -/
import Derived.Test.YtjpkpckgkhbfpaaRenZ
import Derived.Test.YtjpkpckgkhbfpaaOpen
namespace Go.Proofs.Ytjpkpckgkhbfpaa
open Go.ChangeShapes Go.WideShapes Go.ChangeAt Go.RowKit
set_option linter.unusedVariables false

set_option maxRecDepth 100000 in
theorem Rw.of_trod {H : Type} {enc : TypeId × Value → H} {w : World} {base n : Nat} {spare : Nat → Bool} {held : Bool} {cs : List Value} {y : DataW H × List MemPlace} (hl : cs.length = 3) (h : DataW.trod enc Try.prog w base spare held n 30 cs = some y) : ∃ r : Rw, cs = r.vals ∧ r.ok := by
  obtain ⟨xs, n, _, _, _, hlen, hf⟩ := DataW.trod_struct Try.underlying30 h
  match cs, hl with
  | [c0, c1, c2], _ =>
    match xs, hlen with
    | [y0, y1, y2], _ =>
      have f0 : DataW.trod enc Try.prog w base spare held n 3 (([c0, c1, c2].drop 0).take (Try.prog.cellsOf 3)) = some y0 := hf 0 _ rfl
      rw [show Try.prog.cellsOf 3 = 1 from by kernel_rfl] at f0
      have f1 : DataW.trod enc Try.prog w base spare held n 3 (([c0, c1, c2].drop 1).take (Try.prog.cellsOf 3)) = some y1 := hf 1 _ rfl
      rw [show Try.prog.cellsOf 3 = 1 from by kernel_rfl] at f1
      have f2 : DataW.trod enc Try.prog w base spare held n 3 (([c0, c1, c2].drop 2).take (Try.prog.cellsOf 3)) = some y2 := hf 2 _ rfl
      rw [show Try.prog.cellsOf 3 = 1 from by kernel_rfl] at f2
      obtain ⟨n0, e0, -, w0⟩ := DataW.trod_int Try.underlying3 f0
      simp at e0
      subst e0
      obtain ⟨n1, e1, -, w1⟩ := DataW.trod_int Try.underlying3 f1
      simp at e1
      subst e1
      obtain ⟨n2, e2, -, w2⟩ := DataW.trod_int Try.underlying3 f2
      simp at e2
      subst e2
      exact ⟨⟨n0, n1, n2⟩, rfl, (wf_bounds w0).1, (wf_bounds w0).2, (wf_bounds w1).1, (wf_bounds w1).2, (wf_bounds w2).1, (wf_bounds w2).2⟩
theorem Rw.opened {H : Type} {enc : TypeId × Value → H} {w : World} {base fuel len cap : Nat} {spare : Nat → Bool} {held : Bool} {A : Option Addr} {x : DataW H × List MemPlace} (h : DataW.trod enc Try.prog w base spare held fuel 52 [.slice A len cap] = some x) :
    ∃ l : List Rw, len = l.length ∧ len ≤ maxLen ∧ Sl w 3 A l.length (l.flatMap Rw.vals) ∧ ∀ r ∈ l, r.ok := by
  obtain ⟨hm, hc⟩ := open_elems Try.underlying52 (s := 3) (by kernel_rfl) (by omega) h
  rcases hc with rfl | ⟨b, off, rfl, hb, hi⟩
  · exact ⟨[], rfl, hm, Sl.nil _ _ _, fun r hr => by cases hr⟩
  · obtain ⟨l, hl, hp⟩ := choose_list (fun i (r : Rw) => r.ok ∧ ∀ j u, r.vals[j]? = some u → w.cell? ⟨b, off + (i * 3 + j), none⟩ = some u) len (fun i hil => by
      obtain ⟨cs, n, y, hcl, hat, ht⟩ := hi i hil
      obtain ⟨r, rfl, hok⟩ := Rw.of_trod hcl ht
      refine ⟨r, hok, fun j u hu => ?_⟩
      have hj : j < 3 := by rw [← hcl]; exact (List.getElem?_eq_some_iff.1 hu).1
      rw [hat j hj, hu])
    refine ⟨l, hl.symm, hm, Rw.sl_mk hb (fun i r hr => (hp i r hr).2), fun r hr => ?_⟩
    obtain ⟨i, hi, rfl⟩ := List.getElem_of_mem hr
    exact (hp i _ (List.getElem?_eq_getElem hi)).1
set_option maxRecDepth 100000 in
theorem Rop.of_trod {H : Type} {enc : TypeId × Value → H} {w : World} {base n : Nat} {spare : Nat → Bool} {held : Bool} {cs : List Value} {y : DataW H × List MemPlace} (hl : cs.length = 4) (h : DataW.trod enc Try.prog w base spare held n 36 cs = some y) : ∃ r : Rop, cs = r.vals ∧ r.ok := by
  obtain ⟨xs, n, _, _, _, hlen, hf⟩ := DataW.trod_struct Try.underlying36 h
  match cs, hl with
  | [c0, c1, c2, c3], _ =>
    match xs, hlen with
    | [y0, y1, y2, y3], _ =>
      have f0 : DataW.trod enc Try.prog w base spare held n 3 (([c0, c1, c2, c3].drop 0).take (Try.prog.cellsOf 3)) = some y0 := hf 0 _ rfl
      rw [show Try.prog.cellsOf 3 = 1 from by kernel_rfl] at f0
      have f1 : DataW.trod enc Try.prog w base spare held n 3 (([c0, c1, c2, c3].drop 1).take (Try.prog.cellsOf 3)) = some y1 := hf 1 _ rfl
      rw [show Try.prog.cellsOf 3 = 1 from by kernel_rfl] at f1
      have f2 : DataW.trod enc Try.prog w base spare held n 3 (([c0, c1, c2, c3].drop 2).take (Try.prog.cellsOf 3)) = some y2 := hf 2 _ rfl
      rw [show Try.prog.cellsOf 3 = 1 from by kernel_rfl] at f2
      have f3 : DataW.trod enc Try.prog w base spare held n 3 (([c0, c1, c2, c3].drop 3).take (Try.prog.cellsOf 3)) = some y3 := hf 3 _ rfl
      rw [show Try.prog.cellsOf 3 = 1 from by kernel_rfl] at f3
      obtain ⟨n0, e0, -, w0⟩ := DataW.trod_int Try.underlying3 f0
      simp at e0
      subst e0
      obtain ⟨n1, e1, -, w1⟩ := DataW.trod_int Try.underlying3 f1
      simp at e1
      subst e1
      obtain ⟨n2, e2, -, w2⟩ := DataW.trod_int Try.underlying3 f2
      simp at e2
      subst e2
      obtain ⟨n3, e3, -, w3⟩ := DataW.trod_int Try.underlying3 f3
      simp at e3
      subst e3
      exact ⟨⟨n0, n1, n2, n3⟩, rfl, (wf_bounds w0).1, (wf_bounds w0).2, (wf_bounds w1).1, (wf_bounds w1).2, (wf_bounds w2).1, (wf_bounds w2).2, (wf_bounds w3).1, (wf_bounds w3).2⟩
theorem Rop.opened {H : Type} {enc : TypeId × Value → H} {w : World} {base fuel len cap : Nat} {spare : Nat → Bool} {held : Bool} {A : Option Addr} {x : DataW H × List MemPlace} (h : DataW.trod enc Try.prog w base spare held fuel 34 [.slice A len cap] = some x) :
    ∃ l : List Rop, len = l.length ∧ len ≤ maxLen ∧ Sl w 4 A l.length (l.flatMap Rop.vals) ∧ ∀ r ∈ l, r.ok := by
  obtain ⟨hm, hc⟩ := open_elems Try.underlying34 (s := 4) (by kernel_rfl) (by omega) h
  rcases hc with rfl | ⟨b, off, rfl, hb, hi⟩
  · exact ⟨[], rfl, hm, Sl.nil _ _ _, fun r hr => by cases hr⟩
  · obtain ⟨l, hl, hp⟩ := choose_list (fun i (r : Rop) => r.ok ∧ ∀ j u, r.vals[j]? = some u → w.cell? ⟨b, off + (i * 4 + j), none⟩ = some u) len (fun i hil => by
      obtain ⟨cs, n, y, hcl, hat, ht⟩ := hi i hil
      obtain ⟨r, rfl, hok⟩ := Rop.of_trod hcl ht
      refine ⟨r, hok, fun j u hu => ?_⟩
      have hj : j < 4 := by rw [← hcl]; exact (List.getElem?_eq_some_iff.1 hu).1
      rw [hat j hj, hu])
    refine ⟨l, hl.symm, hm, Rop.sl_mk hb (fun i r hr => (hp i r hr).2), fun r hr => ?_⟩
    obtain ⟨i, hi, rfl⟩ := List.getElem_of_mem hr
    exact (hp i _ (List.getElem?_eq_getElem hi)).1

theorem rres_walk (w : World) (A : Option Addr) (c : Nat) (l : List Rw) (hm : l.length ≤ maxLen) (hs : Sl w 3 A l.length (l.flatMap Rw.vals)) (ok : ∀ r ∈ l, r.ok)
    (B : Option Addr) (d : Nat) (m : List Rop) (hm2 : m.length ≤ maxLen) (hs2 : Sl w 4 B m.length (m.flatMap Rop.vals)) (ok2 : ∀ r ∈ m, r.ok) :
    Calls Try.prog 7 #[.slice A l.length c, .slice B m.length d] w fun e w' => e = .returned (.bool true) ∧ Grew w w' := by
  by_cases h : l.length > 60 ∨ m.length > 40
  · exact rres_out l m A B c d w h (by unfold maxLen at hm; omega) (by unfold maxLen at hm2; omega)
  · exact rres_in l m A B c d w (by omega) (by omega) hs ok hs2 ok2

namespace lawRentRestores
theorem own : ownKnob Try.prog.godebug = none := by kernel_rfl
theorem laidOut : laidOutB Try.prog = true := by kernel_rfl
set_option maxRecDepth 100000 in
theorem lifted (os : Os) (started : os.Started) (H : Type) (enc : TypeId × Value → H) :
    ReturnsInHanded {} Try.checked os 7 .any (Rows.rentRestoresSpec.pre6 enc Try.prog Try.f7 Rows.rentRestoresRow.domain false) (Rows.rentRestoresSpec.post enc Try.prog Try.f7 false true false false) := by
  refine returnsInHanded_of_change (C := Try.checked) own started (by kernel_rfl) Try.func7
    (ChangeSpec.witness6 (enc := enc) (C := Try.checked) false ⟨#[], #[.slice none 0 0, .slice none 0 0], []⟩ 8 (by kernel_rfl) (by kernel_rfl) (by kernel_rfl) (by kernel_rfl)) ?_
  intro W base args ds gs before hval0 hW hcnd _
  have hval : ∀ (j : Nat) t v, Try.f7.params[j]? = some t → args[j]? = some v → Value.okWide Try.prog W .any base t v := hval0
  have hW1 := hW
  obtain ⟨p, q, hA0, hV, rfl, hfz, hnd⟩ := hW
  have hA : DataW.TrodAll enc Try.prog W 0 (fun _ => true) true Try.f7.params.toList args.toList ds p := hA0
  rw [Try.params7] at hA hval
  obtain ⟨v0, vs0, d0, ds0, p0, q0, hargs, rfl, rfl, h0, r0⟩ := trodAll_cons hA
  obtain ⟨v1, vs1, d1, ds1, p1, q1, rfl, rfl, rfl, h1, r1⟩ := trodAll_cons r0
  obtain ⟨rfl, rfl, rfl⟩ := trodAll_nil r1
  obtain rfl : args = #[v0, v1] := by cases args; simp_all
  obtain ⟨rfl, rfl⟩ := trodVars_none hV
  obtain ⟨A0, n0, c0, rfl⟩ := okWide_slice Try.underlying52 (hval 0 52 v0 rfl rfl)
  have k0 := h0
  have lt0 : ∀ x ∈ p0, x.block < W.heap.size := by obtain ⟨m, hm⟩ := k0; exact DataW.trod_lt m _ _ _ hm
  obtain ⟨fu0, hf0⟩ := h0
  obtain ⟨l0, rfl, hm0, hs0, ok0⟩ := Rw.opened (by simpa [Value.cells] using hf0)
  obtain ⟨A1, n1, c1, rfl⟩ := okWide_slice Try.underlying34 (hval 1 34 v1 rfl rfl)
  have k1 := h1
  have lt1 : ∀ x ∈ p1, x.block < W.heap.size := by obtain ⟨m, hm⟩ := k1; exact DataW.trod_lt m _ _ _ hm
  obtain ⟨fu1, hf1⟩ := h1
  obtain ⟨l1, rfl, hm1, hs1, ok1⟩ := Rop.opened (by simpa [Value.cells] using hf1)
  clear hA0 hval0
  refine (rres_walk W A0 c0 l0 hm0 hs0 ok0 A1 c1 l1 hm1 hs1 ok1).mono fun e W1 ⟨he, hg⟩ => ?_
  subst he
  have bel := hg.below
  exact ⟨_, rfl, _, _, _, [], _, [], hW1, trodAll_mk1 (shut_bool Try.underlying4 _), (trodAll_cons_mk (Below.trod laidOut (by kernel_rfl) (of_decide_eq_true (by kernel_rfl)) k0 bel lt0) (trodAll_cons_mk (Below.trod laidOut (by kernel_rfl) (of_decide_eq_true (by kernel_rfl)) k1 bel lt1) trodAll_mk0)), rfl, bel.frame _, fun h => by cases h⟩
theorem over : Rows.rentRestoresRow.holds Try.pinned (OpenSpec.ofChange Rows.rentRestoresSpec) :=
  OpenClaim.holds_of_wide 7 Try.f7 rfl rfl rfl rfl rfl rfl rfl ⟨rfl, rfl, rfl, rfl, rfl⟩ rfl rfl rfl rfl rfl (by kernel_rfl) Try.func7 (by kernel_rfl)
    (of_decide_eq_true (by kernel_rfl)) (by unfold Func.isWrapper; first | (rw [if_pos (by decide +kernel)]; kernel_rfl) | (rw [if_neg (by decide +kernel)]; exact ⟨rfl, rfl⟩))
    (fun os started H enc _ => lifted os started H enc)
/-- The statement. -/
theorem proved : Rows.RentRestoresSaid := over
#print axioms proved
end lawRentRestores

end Go.Proofs.Ytjpkpckgkhbfpaa
