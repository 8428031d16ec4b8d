/- The queue's law: its step: Pop, Get. -/
import Derived.Test.YtjdbaeogoifdfaaQueXh
import Derived.Test.YtjdbaeogoifdfaaQueXo
namespace Go.Proofs.Ytjdbaeogoifdfaa
open Go.RowKit Go.Maps

set_option maxRecDepth 100000 in
set_option maxHeartbeats 1600000 in
theorem sstep_pop_no (o : Qop) (w : Bs) (W : World) (b S c M cs : Nat) (l s : List Itm) (A As : Option Addr) (added : Int) (h : SQ w W b S l s A c M As cs added) (hl : l.length ≤ 1000) (h1 : o.kind = 4) (hno : ∀ x, s[0]? = some x → o.time < x.due) :
    Calls Try.prog 14 #[.pointer (some ⟨S, 0, none⟩), .pointer (some ⟨b, 0, none⟩), (.agg #[.int .i64 o.kind, .int .i64 o.n, .int .i64 o.time, .string o.text])] W fun e w' => e = .returned (.bool true) ∧ STo w w' b S M s added := by
  have k1 : (o.kind == 1) = false := by simp [h1]
  have k2 : (o.kind == 2) = false := by simp [h1]
  have k3 : (o.kind == 3) = false := by simp [h1]
  have k4 : (o.kind == 4) = true := by simp [h1]
  have Hno := Lib.hid (And.intro hno (show ∀ x, l[0]? = some x → o.time < x.due from fun x hx => hno x (by rw [← h.ql.first h.hp]; exact hx)))
  clear h1 hno
  obtain ⟨W0, hW0⟩ : ∃ W0, W.alloc (.cells #[.int .i64 o.kind, .int .i64 o.n, .int .i64 o.time, .string o.text] 39) = W0 := ⟨_, rfl⟩
  have hf := sstep_facts h o
  rw [hW0] at hf
  have H := Lib.hid hf
  have HW0 := Lib.hid hW0
  have hsl : s.length ≤ 1000000 := by rw [h.len]; omega
  have hlen := h.len
  have Hlen := Lib.hid hlen
  have had := h.ad
  have Hop := Lib.hid (show ¬ QF b A M W.heap.size ∧ W.heap.size ≠ S from ⟨fun hf => Nat.lt_irrefl _ (QF_old h.p.q.q hf), fun e => by have := h.p.blk.lt; omega⟩)
  obtain ⟨c0, f0, s0⟩ := hf.1.p.blk.facts
  obtain ⟨c1, f1, s1⟩ := hf.2.facts
  clear h hf hW0 hlen
  go_enter Try.func14, Try.ntmps14
  go_wp2_with (rw [HW0.out])
  go_quiet ((go_at_call 22; exact quiet_sym (xfind_any o.n s As cs _ (H.out.1.p.sl.grew ((Chg.refl _ _).drewN _)) hsl)))
  obtain ⟨W1, hW1⟩ : ∃ W1, W0.drewN nq = W1 := ⟨_, rfl⟩
  have hg1 : Grew W0 W1 := hW1 ▸ (Chg.refl _ _).drewN _
  have H1 := Lib.hid (And.intro (H.out.1.on hg1) (H.out.2.grew hg1))
  rw [hW1]
  clear hW1 hg1 H HW0 c0 f0 s0 c1 f1 s1
  obtain ⟨c0, f0, s0⟩ := H1.out.1.p.blk.facts
  obtain ⟨c1, f1, s1⟩ := H1.out.2.facts

  go_wp2_with fail
  refine (pop_no b o.time l A c M added W1 H1.out.1.p.q.q Hno.out.2).mono ?_
  rintro e w2 ⟨rfl, hg2⟩
  have H2 := Lib.hid (And.intro (H1.out.1.on hg2) (H1.out.2.grew hg2))
  clear hg2 c0 f0 s0 c1 f1 s1
  obtain ⟨c0, f0, s0⟩ := H2.out.1.p.blk.facts
  obtain ⟨c1, f1, s1⟩ := H2.out.2.facts
  by_cases hs0 : s.length = 0
  · have t1 : ((s.length : Int) == 0) = true := by simp [hs0]
    have Hs0 := Lib.hid hs0
    clear hs0
    go_wp2_with fail
    go_quiet (fail)
    go_wp2_with fail
    go_ret
    exact ⟨rfl, _, _, _, _, _, H2.out.1.on ((Chg.refl _ _).drewN _)⟩
  · have t1 : ((s.length : Int) == 0) = false := by simp; intro e; exact hs0 (by rw [e]; rfl)
    obtain ⟨x, hx⟩ : ∃ x, s[0]? = some x := ⟨_, List.getElem?_eq_getElem (by omega)⟩
    have t2 : decide (o.time < x.due) = true := decide_eq_true (Hno.out.1 x hx)
    obtain ⟨g, off, eA, hb, d0, d1, d2⟩ := H2.out.1.p.sl.atItm hx
    subst eA
    simp only [Nat.zero_mul, Nat.add_zero] at d0 d1 d2
    have u1 : (0 : Int) < (s.length : Int) := by omega
    have u2 : 0 < s.length := by omega
    clear hs0 hx
    go_wp2_with fail
    go_quiet (fail)
    go_wp2_with fail
    go_ret
    exact ⟨rfl, _, _, _, _, _, H2.out.1.on ((Chg.refl _ _).drewN _)⟩

set_option maxRecDepth 100000 in
set_option maxHeartbeats 3200000 in
theorem sstep_pop_due (o : Qop) (w : Bs) (W : World) (b S c M cs : Nat) (l s : List Itm) (A As : Option Addr) (added : Int) (h : SQ w W b S l s A c M As cs added) (hl : l.length ≤ 1000) (h1 : o.kind = 4) (x : Itm) (hx : s[0]? = some x) (hd : ¬ o.time < x.due) :
    Calls Try.prog 14 #[.pointer (some ⟨S, 0, none⟩), .pointer (some ⟨b, 0, none⟩), (.agg #[.int .i64 o.kind, .int .i64 o.n, .int .i64 o.time, .string o.text])] W fun e w' => e = .returned (.bool true) ∧ STo w w' b S M (s.eraseIdx 0) added := by
  have k1 : (o.kind == 1) = false := by simp [h1]
  have k2 : (o.kind == 2) = false := by simp [h1]
  have k3 : (o.kind == 3) = false := by simp [h1]
  have k4 : (o.kind == 4) = true := by simp [h1]
  have hs0 : 0 < s.length := (List.getElem?_eq_some_iff.1 hx).1
  have HX := Lib.hid (And.intro hx (And.intro (show l[0]? = some x by rw [h.ql.first h.hp]; exact hx) (Int.not_lt.1 hd)))
  clear h1 hx hd
  obtain ⟨W0, hW0⟩ : ∃ W0, W.alloc (.cells #[.int .i64 o.kind, .int .i64 o.n, .int .i64 o.time, .string o.text] 39) = W0 := ⟨_, rfl⟩
  have hf := sstep_facts h o
  rw [hW0] at hf
  have H := Lib.hid hf
  have HW0 := Lib.hid hW0
  have hsl : s.length ≤ 1000000 := by rw [h.len]; omega
  have hlen := h.len
  have Hlen := Lib.hid hlen
  have had := h.ad
  have Hop := Lib.hid (show ¬ QF b A M W.heap.size ∧ W.heap.size ≠ S from ⟨fun hf => Nat.lt_irrefl _ (QF_old h.p.q.q hf), fun e => by have := h.p.blk.lt; omega⟩)
  obtain ⟨c0, f0, s0⟩ := hf.1.p.blk.facts
  obtain ⟨c1, f1, s1⟩ := hf.2.facts
  clear h hf hW0 hlen
  go_enter Try.func14, Try.ntmps14
  go_wp2_with (rw [HW0.out])
  go_quiet ((go_at_call 22; exact quiet_sym (xfind_any o.n s As cs _ (H.out.1.p.sl.grew ((Chg.refl _ _).drewN _)) hsl)))
  obtain ⟨W1, hW1⟩ : ∃ W1, W0.drewN nq = W1 := ⟨_, rfl⟩
  have hg1 : Grew W0 W1 := hW1 ▸ (Chg.refl _ _).drewN _
  have H1 := Lib.hid (And.intro (H.out.1.on hg1) (H.out.2.grew hg1))
  rw [hW1]
  clear hW1 hg1 H HW0 c0 f0 s0 c1 f1 s1
  obtain ⟨c0, f0, s0⟩ := H1.out.1.p.blk.facts
  obtain ⟨c1, f1, s1⟩ := H1.out.2.facts

  go_wp2_with fail
  refine (pop_due b o.time x l A c M added W1 H1.out.1.p.q.q HX.out.2.1 (by omega) (Int.not_lt.2 HX.out.2.2)).mono ?_
  rintro e w2 ⟨rfl, hq2, hc2⟩
  have H2 := Lib.hid (And.intro (H1.out.1.p.same hq2 hc2) (H1.out.2.chg hc2 Hop.out.1))
  clear hq2 hc2 c0 f0 s0 c1 f1 s1
  obtain ⟨c0, f0, s0⟩ := H2.out.1.blk.facts
  obtain ⟨c1, f1, s1⟩ := H2.out.2.facts
  have t1 : ((s.length : Int) == 0) = false := by simp; intro e; rw [e] at hs0; simp at hs0
  have t2 : decide (o.time < x.due) = false := decide_eq_false (Int.not_lt.2 HX.out.2.2)
  obtain ⟨g, off, eA, hb, d0, d1, d2⟩ := H2.out.1.sl.atItm HX.out.1
  subst eA
  simp only [Nat.zero_mul, Nat.add_zero] at d0 d1 d2
  have u1 : (0 : Int) < (s.length : Int) := by omega
  go_wp2_with fail
  go_quiet (fail)
  obtain ⟨W3, hW3⟩ : ∃ W3, w2.drewN nq = W3 := ⟨_, rfl⟩
  rw [hW3]
  have hg3 : Grew w2 W3 := hW3 ▸ (Chg.refl _ _).drewN _
  have H3 := Lib.hid (And.intro (H2.out.1.on hg3) (H2.out.2.grew hg3))
  clear hW3 hg3 c0 f0 s0 c1 f1 s1 d0 d1 d2
  obtain ⟨c0, f0, s0⟩ := H3.out.1.blk.facts
  obtain ⟨g', off', eA', hb', d0, d1, d2⟩ := H3.out.1.sl.atItm HX.out.1
  cases eA'
  simp only [Nat.zero_mul, Nat.add_zero] at d0 d1 d2
  obtain ⟨W4, hW4⟩ : ∃ W4, W3.alloc (.cells #[.int .i64 x.n, .int .i64 x.due, .string x.v] 47) = W4 := ⟨_, rfl⟩
  have HW4 := Lib.hid hW4
  have hg4 : Grew W3 W4 := hW4 ▸ (Chg.refl _ _).alloc _
  have H4 := Lib.hid (And.intro (H3.out.1.on hg4) (show Blk W4 W3.heap.size 47 #[.int .i64 x.n, .int .i64 x.due, .string x.v] from hW4 ▸ Blk.new _ _ _))
  have hXS : W3.heap.size ≠ S := fun e => by have := H3.out.1.blk.lt; omega
  clear hW4 hg4
  obtain ⟨e0, g0, r0⟩ := H4.out.1.blk.facts
  go_wp2_with (first
    | (rw [HW4.out])
    | (go_at_call 17; refine (xwithout_any 0 s _ cs _ H4.out.1.sl hsl hs0).mono ?_; rintro e w5 ⟨A5, c5, rfl, hs5, hg5⟩; have HN := Lib.hid (And.intro hs5 hg5); clear hs5 hg5 c0 f0 s0 e0 g0 r0 d0 d1 d2; obtain ⟨c0, f0, s0⟩ := (H4.out.1.blk.grew HN.out.2).facts; obtain ⟨c2, f2, s2⟩ := (H4.out.2.grew HN.out.2).facts))
  obtain ⟨W6, hW6⟩ : ∃ W6, w5.setCell ⟨S, 0, none⟩ (.slice A5 (s.eraseIdx 0).length c5) = W6 := ⟨_, rfl⟩
  have h6 := H4.out.1.store HN.out.1 HN.out.2 hW6
  go_ret
  refine ⟨?_, ?_⟩
  · simp
  rw [← hW6] at h6
  exact ⟨_, _, _, _, _, sq_rem H1.out.1.hp H1.out.1.ql H1.out.1.nb H1.out.1.ad HX.out.2.1 HX.out.1 (by simpa using h6.1)⟩

end Go.Proofs.Ytjdbaeogoifdfaa
