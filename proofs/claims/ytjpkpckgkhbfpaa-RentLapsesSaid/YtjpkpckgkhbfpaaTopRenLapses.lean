/- RentLapses returns true, for every input. It has no condition. -/
import Derived.Test.YtjpkpckgkhbfpaaRenX
import Derived.Test.YtjpkpckgkhbfpaaOpen
namespace Go.Proofs.Ytjpkpckgkhbfpaa
open Go.ChangeShapes Go.WideShapes Go.ChangeAt Go.RowKit
set_option linter.unusedVariables false

set_option maxRecDepth 100000 in
theorem Rop.of_trod {H : Type} {enc : TypeId × Value → H} {w : World} {base n : Nat} {spare : Nat → Bool} {held : Bool} {cs : List Value} {y : DataW H × List MemPlace} (hl : cs.length = 4) (h : DataW.trod enc Try.prog w base spare held n 36 cs = some y) : ∃ r : Rop, cs = r.vals ∧ r.ok := by
  obtain ⟨xs, n, _, _, _, hlen, hf⟩ := DataW.trod_struct Try.underlying36 h
  match cs, hl with
  | [c0, c1, c2, c3], _ =>
    match xs, hlen with
    | [y0, y1, y2, y3], _ =>
      have f0 : DataW.trod enc Try.prog w base spare held n 3 (([c0, c1, c2, c3].drop 0).take (Try.prog.cellsOf 3)) = some y0 := hf 0 _ rfl
      rw [show Try.prog.cellsOf 3 = 1 from by kernel_rfl] at f0
      have f1 : DataW.trod enc Try.prog w base spare held n 3 (([c0, c1, c2, c3].drop 1).take (Try.prog.cellsOf 3)) = some y1 := hf 1 _ rfl
      rw [show Try.prog.cellsOf 3 = 1 from by kernel_rfl] at f1
      have f2 : DataW.trod enc Try.prog w base spare held n 3 (([c0, c1, c2, c3].drop 2).take (Try.prog.cellsOf 3)) = some y2 := hf 2 _ rfl
      rw [show Try.prog.cellsOf 3 = 1 from by kernel_rfl] at f2
      have f3 : DataW.trod enc Try.prog w base spare held n 3 (([c0, c1, c2, c3].drop 3).take (Try.prog.cellsOf 3)) = some y3 := hf 3 _ rfl
      rw [show Try.prog.cellsOf 3 = 1 from by kernel_rfl] at f3
      obtain ⟨n0, e0, -, w0⟩ := DataW.trod_int Try.underlying3 f0
      simp at e0
      subst e0
      obtain ⟨n1, e1, -, w1⟩ := DataW.trod_int Try.underlying3 f1
      simp at e1
      subst e1
      obtain ⟨n2, e2, -, w2⟩ := DataW.trod_int Try.underlying3 f2
      simp at e2
      subst e2
      obtain ⟨n3, e3, -, w3⟩ := DataW.trod_int Try.underlying3 f3
      simp at e3
      subst e3
      exact ⟨⟨n0, n1, n2, n3⟩, rfl, (wf_bounds w0).1, (wf_bounds w0).2, (wf_bounds w1).1, (wf_bounds w1).2, (wf_bounds w2).1, (wf_bounds w2).2, (wf_bounds w3).1, (wf_bounds w3).2⟩
theorem Rop.opened {H : Type} {enc : TypeId × Value → H} {w : World} {base fuel len cap : Nat} {spare : Nat → Bool} {held : Bool} {A : Option Addr} {x : DataW H × List MemPlace} (h : DataW.trod enc Try.prog w base spare held fuel 34 [.slice A len cap] = some x) :
    ∃ l : List Rop, len = l.length ∧ len ≤ maxLen ∧ Sl w 4 A l.length (l.flatMap Rop.vals) ∧ ∀ r ∈ l, r.ok := by
  obtain ⟨hm, hc⟩ := open_elems Try.underlying34 (s := 4) (by kernel_rfl) (by omega) h
  rcases hc with rfl | ⟨b, off, rfl, hb, hi⟩
  · exact ⟨[], rfl, hm, Sl.nil _ _ _, fun r hr => by cases hr⟩
  · obtain ⟨l, hl, hp⟩ := choose_list (fun i (r : Rop) => r.ok ∧ ∀ j u, r.vals[j]? = some u → w.cell? ⟨b, off + (i * 4 + j), none⟩ = some u) len (fun i hil => by
      obtain ⟨cs, n, y, hcl, hat, ht⟩ := hi i hil
      obtain ⟨r, rfl, hok⟩ := Rop.of_trod hcl ht
      refine ⟨r, hok, fun j u hu => ?_⟩
      have hj : j < 4 := by rw [← hcl]; exact (List.getElem?_eq_some_iff.1 hu).1
      rw [hat j hj, hu])
    refine ⟨l, hl.symm, hm, Rop.sl_mk hb (fun i r hr => (hp i r hr).2), fun r hr => ?_⟩
    obtain ⟨i, hi, rfl⟩ := List.getElem_of_mem hr
    exact (hp i _ (List.getElem?_eq_getElem hi)).1

theorem rlap_walk (w : World) (A : Option Addr) (c : Nat) (l : List Rop) (hm : l.length ≤ maxLen) (hs : Sl w 4 A l.length (l.flatMap Rop.vals)) (hok : ∀ r ∈ l, r.ok) (now : Int) (hn : -9223372036854775808 ≤ now ∧ now ≤ 9223372036854775807) (stop : Int) (_ : -9223372036854775808 ≤ stop ∧ stop ≤ 9223372036854775807) :
    Calls Try.prog 6 #[.slice A l.length c, .int .i64 now, .int .i64 stop] w fun e w' => e = .returned (.bool true) ∧ Grew w w' := by
  by_cases h : l.length > 80
  · exact rlap_out l now stop A c w h (by unfold maxLen at hm; omega)
  · exact rlap_in l now stop A c w (by omega) hs hok hn

namespace lawRentLapses
theorem own : ownKnob Try.prog.godebug = none := by kernel_rfl
theorem laidOut : laidOutB Try.prog = true := by kernel_rfl
set_option maxRecDepth 100000 in
theorem lifted (os : Os) (started : os.Started) (H : Type) (enc : TypeId × Value → H) :
    ReturnsInHanded {} Try.checked os 6 .any (Rows.rentLapsesSpec.pre6 enc Try.prog Try.f6 Rows.rentLapsesRow.domain false) (Rows.rentLapsesSpec.post enc Try.prog Try.f6 false true false false) := by
  refine returnsInHanded_of_change (C := Try.checked) own started (by kernel_rfl) Try.func6
    (ChangeSpec.witness6 (enc := enc) (C := Try.checked) false ⟨#[], #[.slice none 0 0, .int .i64 0, .int .i64 0], []⟩ 8 (by kernel_rfl) (by kernel_rfl) (by kernel_rfl) (by kernel_rfl)) ?_
  intro W base args ds gs before hval0 hW hcnd _
  have hval : ∀ (j : Nat) t v, Try.f6.params[j]? = some t → args[j]? = some v → Value.okWide Try.prog W .any base t v := hval0
  have hW1 := hW
  obtain ⟨p, q, hA0, hV, rfl, hfz, hnd⟩ := hW
  have hA : DataW.TrodAll enc Try.prog W 0 (fun _ => true) true Try.f6.params.toList args.toList ds p := hA0
  rw [Try.params6] at hA hval
  obtain ⟨v0, vs0, d0, ds0, p0, q0, hargs, rfl, rfl, h0, r0⟩ := trodAll_cons hA
  obtain ⟨v1, vs1, d1, ds1, p1, q1, rfl, rfl, rfl, h1, r1⟩ := trodAll_cons r0
  obtain ⟨v2, vs2, d2, ds2, p2, q2, rfl, rfl, rfl, h2, r2⟩ := trodAll_cons r1
  obtain ⟨rfl, rfl, rfl⟩ := trodAll_nil r2
  obtain rfl : args = #[v0, v1, v2] := by cases args; simp_all
  obtain ⟨rfl, rfl⟩ := trodVars_none hV
  obtain ⟨A0, n0, c0, rfl⟩ := okWide_slice Try.underlying34 (hval 0 34 v0 rfl rfl)
  have k0 := h0
  have lt0 : ∀ x ∈ p0, x.block < W.heap.size := by obtain ⟨m, hm⟩ := k0; exact DataW.trod_lt m _ _ _ hm
  obtain ⟨fu0, hf0⟩ := h0
  obtain ⟨l0, rfl, hm0, hs0, ok0⟩ := Rop.opened (by simpa [Value.cells] using hf0)
  obtain ⟨a1, rfl, rfl, rfl, w1⟩ := open_int Try.underlying3 (hval 1 3 v1 rfl rfl) h1
  obtain ⟨a2, rfl, rfl, rfl, w2⟩ := open_int Try.underlying3 (hval 2 3 v2 rfl rfl) h2
  clear hA0 hval0
  refine (rlap_walk W A0 c0 l0 hm0 hs0 ok0 a1 (wf_bounds w1) a2 (wf_bounds w2)).mono fun e W1 ⟨he, hg⟩ => ?_
  subst he
  have bel := hg.below
  exact ⟨_, rfl, _, _, _, [], _, [], hW1, trodAll_mk1 (shut_bool Try.underlying4 _), (trodAll_cons_mk (Below.trod laidOut (by kernel_rfl) (of_decide_eq_true (by kernel_rfl)) k0 bel lt0) (trodAll_cons_mk (shut_int Try.underlying3 w1) (trodAll_cons_mk (shut_int Try.underlying3 w2) trodAll_mk0))), rfl, bel.frame _, fun h => by cases h⟩
theorem over : Rows.rentLapsesRow.holds Try.pinned (OpenSpec.ofChange Rows.rentLapsesSpec) :=
  OpenClaim.holds_of_wide 6 Try.f6 rfl rfl rfl rfl rfl rfl rfl ⟨rfl, rfl, rfl, rfl, rfl⟩ rfl rfl rfl rfl rfl (by kernel_rfl) Try.func6 (by kernel_rfl)
    (of_decide_eq_true (by kernel_rfl)) (by unfold Func.isWrapper; first | (rw [if_pos (by decide +kernel)]; kernel_rfl) | (rw [if_neg (by decide +kernel)]; exact ⟨rfl, rfl⟩))
    (fun os started H enc _ => lifted os started H enc)
/-- The statement. -/
theorem proved : Rows.RentLapsesSaid := over
#print axioms proved
end lawRentLapses

end Go.Proofs.Ytjpkpckgkhbfpaa
