/- The queue's law: its step: Get; all of it. -/
import Derived.Test.YtjdbaeogoifdfaaQueXi
import Derived.Test.YtjdbaeogoifdfaaQueXg
namespace Go.Proofs.Ytjdbaeogoifdfaa
open Go.RowKit Go.Maps

set_option maxRecDepth 100000 in
set_option maxHeartbeats 1600000 in
theorem sstep_get_none (o : Qop) (w : Bs) (W : World) (b S c M cs : Nat) (l s : List Itm) (A As : Option Addr) (added : Int) (h : SQ w W b S l s A c M As cs added) (hl : l.length ≤ 1000) (h1 : o.kind = 5) (ho : (Lit.int .i64 o.n).wf = true) (hno : ∀ x ∈ s, x.n ≠ o.n) :
    Calls Try.prog 14 #[.pointer (some ⟨S, 0, none⟩), .pointer (some ⟨b, 0, none⟩), (.agg #[.int .i64 o.kind, .int .i64 o.n, .int .i64 o.time, .string o.text])] W fun e w' => e = .returned (.bool true) ∧ STo w w' b S M s added := by
  have k1 : (o.kind == 1) = false := by simp [h1]
  have k2 : (o.kind == 2) = false := by simp [h1]
  have k3 : (o.kind == 3) = false := by simp [h1]
  have k4 : (o.kind == 4) = false := by simp [h1]
  have k5 : (o.kind == 5) = true := by simp [h1]
  have hfi := fnI_none hno
  have Hno := Lib.hid (And.intro ho (show ∀ x ∈ l, x.n ≠ o.n from fun x hx => hno x (h.ql.p.mem_iff.2 hx)))
  clear h1 hno ho
  obtain ⟨W0, hW0⟩ : ∃ W0, W.alloc (.cells #[.int .i64 o.kind, .int .i64 o.n, .int .i64 o.time, .string o.text] 39) = W0 := ⟨_, rfl⟩
  have hf := sstep_facts h o
  rw [hW0] at hf
  have H := Lib.hid hf
  have HW0 := Lib.hid hW0
  have hsl : s.length ≤ 1000000 := by rw [h.len]; omega
  have hlen := h.len
  have Hlen := Lib.hid hlen
  have had := h.ad
  have Hop := Lib.hid (show ¬ QF b A M W.heap.size ∧ W.heap.size ≠ S from ⟨fun hf => Nat.lt_irrefl _ (QF_old h.p.q.q hf), fun e => by have := h.p.blk.lt; omega⟩)
  obtain ⟨c0, f0, s0⟩ := hf.1.p.blk.facts
  obtain ⟨c1, f1, s1⟩ := hf.2.facts
  clear h hf hW0 hlen
  go_enter Try.func14, Try.ntmps14
  go_wp2_with (rw [HW0.out])
  go_quiet ((go_at_call 22; exact quiet_sym (xfind_any o.n s As cs _ (H.out.1.p.sl.grew ((Chg.refl _ _).drewN _)) hsl)))
  obtain ⟨W1, hW1⟩ : ∃ W1, W0.drewN nq = W1 := ⟨_, rfl⟩
  have hg1 : Grew W0 W1 := hW1 ▸ (Chg.refl _ _).drewN _
  have H1 := Lib.hid (And.intro (H.out.1.on hg1) (H.out.2.grew hg1))
  rw [hW1]
  clear hW1 hg1 H HW0 c0 f0 s0 c1 f1 s1
  obtain ⟨c0, f0, s0⟩ := H1.out.1.p.blk.facts
  obtain ⟨c1, f1, s1⟩ := H1.out.2.facts

  go_wp2_with fail
  refine (qget_none b o.n l A c M added W1 H1.out.1.p.q.q Hno.out.1 Hno.out.2).mono ?_
  rintro e w2 ⟨rfl, hg2⟩
  have H2 := Lib.hid (H1.out.1.on hg2)
  clear hg2 c0 f0 s0 c1 f1 s1
  go_wp2_with fail
  go_ret
  exact ⟨rfl, _, _, _, _, _, H2.out⟩

set_option maxRecDepth 100000 in
set_option maxHeartbeats 1600000 in
theorem sstep_get_some (o : Qop) (w : Bs) (W : World) (b S c M cs : Nat) (l s : List Itm) (A As : Option Addr) (added : Int) (h : SQ w W b S l s A c M As cs added) (hl : l.length ≤ 1000) (h1 : o.kind = 5) (k : Nat) (x : Itm) (hfi : fnI s o.n = k) (hk : s[k]? = some x) (hn : x.n = o.n) :
    Calls Try.prog 14 #[.pointer (some ⟨S, 0, none⟩), .pointer (some ⟨b, 0, none⟩), (.agg #[.int .i64 o.kind, .int .i64 o.n, .int .i64 o.time, .string o.text])] W fun e w' => e = .returned (.bool true) ∧ STo w w' b S M s added := by
  have k1 : (o.kind == 1) = false := by simp [h1]
  have k2 : (o.kind == 2) = false := by simp [h1]
  have k3 : (o.kind == 3) = false := by simp [h1]
  have k4 : (o.kind == 4) = false := by simp [h1]
  have k5 : (o.kind == 5) = true := by simp [h1]
  have t1 : decide ((k : Int) < 0) = false := decide_eq_false (by omega)
  obtain ⟨i, hi⟩ := List.mem_iff_getElem?.1 (h.ql.p.mem_iff.1 (List.mem_of_getElem? hk))
  have hks := (List.getElem?_eq_some_iff.1 hk).1
  have HX := Lib.hid (And.intro hi (And.intro hk hn))
  clear h1 hi hk hn
  obtain ⟨W0, hW0⟩ : ∃ W0, W.alloc (.cells #[.int .i64 o.kind, .int .i64 o.n, .int .i64 o.time, .string o.text] 39) = W0 := ⟨_, rfl⟩
  have hf := sstep_facts h o
  rw [hW0] at hf
  have H := Lib.hid hf
  have HW0 := Lib.hid hW0
  have hsl : s.length ≤ 1000000 := by rw [h.len]; omega
  have hlen := h.len
  have Hlen := Lib.hid hlen
  have had := h.ad
  have Hop := Lib.hid (show ¬ QF b A M W.heap.size ∧ W.heap.size ≠ S from ⟨fun hf => Nat.lt_irrefl _ (QF_old h.p.q.q hf), fun e => by have := h.p.blk.lt; omega⟩)
  obtain ⟨c0, f0, s0⟩ := hf.1.p.blk.facts
  obtain ⟨c1, f1, s1⟩ := hf.2.facts
  clear h hf hW0 hlen
  go_enter Try.func14, Try.ntmps14
  go_wp2_with (rw [HW0.out])
  go_quiet ((go_at_call 22; exact quiet_sym (xfind_any o.n s As cs _ (H.out.1.p.sl.grew ((Chg.refl _ _).drewN _)) hsl)))
  obtain ⟨W1, hW1⟩ : ∃ W1, W0.drewN nq = W1 := ⟨_, rfl⟩
  have hg1 : Grew W0 W1 := hW1 ▸ (Chg.refl _ _).drewN _
  have H1 := Lib.hid (And.intro (H.out.1.on hg1) (H.out.2.grew hg1))
  rw [hW1]
  clear hW1 hg1 H HW0 c0 f0 s0 c1 f1 s1
  obtain ⟨c0, f0, s0⟩ := H1.out.1.p.blk.facts
  obtain ⟨c1, f1, s1⟩ := H1.out.2.facts

  have hq := qget_some b i x l A c M added W1 H1.out.1.p.q.q HX.out.1
  rw [HX.out.2.2] at hq
  have HQ := Lib.hid hq
  clear hq
  go_wp2_with fail
  refine HQ.out.mono ?_
  rintro e w2 ⟨rfl, hg2⟩
  have H2 := Lib.hid (H1.out.1.on hg2)
  clear hg2 c0 f0 s0 c1 f1 s1
  obtain ⟨c0, f0, s0⟩ := H2.out.p.blk.facts
  obtain ⟨g, off, eA, hb, d0, d1, d2⟩ := H2.out.p.sl.atItm HX.out.2.1
  subst eA
  have u0 : (0 : Int) ≤ (k : Int) := by omega
  have u1 : (k : Int) < (s.length : Int) := by omega
  go_wp2_with fail
  go_ret
  exact ⟨by simp, _, _, _, _, _, H2.out⟩

/-- What a step leaves, whatever it is. -/
def SAny (w : Bs) (w' : World) (b S M : Nat) (added : Int) : Prop := ∃ s' added', STo w w' b S M s' added' ∧ added ≤ added' ∧ added' ≤ added + 1

theorem sstep_any (o : Qop) (ho : o.ok) (w : Bs) (W : World) (b S c M cs : Nat) (l s : List Itm) (A As : Option Addr) (added : Int) (h : SQ w W b S l s A c M As cs added) (ha : added ≤ 1000) :
    Calls Try.prog 14 #[.pointer (some ⟨S, 0, none⟩), .pointer (some ⟨b, 0, none⟩), (.agg #[.int .i64 o.kind, .int .i64 o.n, .int .i64 o.time, .string o.text])] W fun e w' => e = .returned (.bool true) ∧ SAny w w' b S M added := by
  have hl : l.length ≤ 1000 := by have := h.ad.2; omega
  have hw : (Lit.int .i64 o.n).wf = true := wfInt ho.2.2.1 ho.2.2.2.1
  have hmo : ∀ {R R' : Ending → World → Prop} (_ : ∀ e w', R e w' → R' e w') (_ : Calls Try.prog 14 #[.pointer (some ⟨S, 0, none⟩), .pointer (some ⟨b, 0, none⟩), (.agg #[.int .i64 o.kind, .int .i64 o.n, .int .i64 o.time, .string o.text])] W R), Calls Try.prog 14 #[.pointer (some ⟨S, 0, none⟩), .pointer (some ⟨b, 0, none⟩), (.agg #[.int .i64 o.kind, .int .i64 o.n, .int .i64 o.time, .string o.text])] W R' := fun hr hc => hc.mono hr
  have same : ∀ {s'}, ∀ e w', (e = Ending.returned (.bool true) ∧ STo w w' b S M s' added) → (e = Ending.returned (.bool true) ∧ SAny w w' b S M added) := fun e w' h => ⟨h.1, _, _, h.2, by omega, by omega⟩
  by_cases h1 : o.kind = 1
  · exact hmo (fun e w' h => ⟨h.1, _, _, h.2, by omega, by omega⟩) (sstep_add o w W b S c M cs l s A As added h hl ha h1)
  by_cases h2 : o.kind = 2
  · rcases fnI_cases s o.n with hno | ⟨k, x, hf, hk, hn⟩
    · exact hmo same (sstep_cancel_none o w W b S c M cs l s A As added h hl h2 hw hno)
    · exact hmo same (sstep_cancel_some o w W b S c M cs l s A As added h hl h2 k x hf hk hn)
  by_cases h3 : o.kind = 3
  · rcases fnI_cases s o.n with hno | ⟨k, x, hf, hk, hn⟩
    · exact hmo same (sstep_move_none o w W b S c M cs l s A As added h hl h3 hw hno)
    · exact hmo same (sstep_move_some o w W b S c M cs l s A As added h hl h3 k x hf hk hn)
  by_cases h4 : o.kind = 4
  · by_cases hp : ∃ x, s[0]? = some x ∧ ¬ o.time < x.due
    · obtain ⟨x, hx, hd⟩ := hp
      exact hmo same (sstep_pop_due o w W b S c M cs l s A As added h hl h4 x hx hd)
    · exact hmo same (sstep_pop_no o w W b S c M cs l s A As added h hl h4 fun x hx => Decidable.byContradiction fun hd => hp ⟨x, hx, hd⟩)
  by_cases h5 : o.kind = 5
  · rcases fnI_cases s o.n with hno | ⟨k, x, hf, hk, hn⟩
    · exact hmo same (sstep_get_none o w W b S c M cs l s A As added h hl h5 hw hno)
    · exact hmo same (sstep_get_some o w W b S c M cs l s A As added h hl h5 k x hf hk hn)
  · exact hmo same (sstep_other o w W b S c M cs l s A As added h hl h1 h2 h3 h4 h5)

end Go.Proofs.Ytjdbaeogoifdfaa
