/- The queue's law: its step: Cancel, Move. -/
import Derived.Test.YtjdbaeogoifdfaaQueXf
import Derived.Test.YtjdbaeogoifdfaaQueJ
import Derived.Test.YtjdbaeogoifdfaaQueK
import Derived.Outline
namespace Go.Proofs.Ytjdbaeogoifdfaa
open Go.RowKit Go.Maps

theorem fnI_none {s : List Itm} {n : Int} (h : ∀ x ∈ s, x.n ≠ n) : fnI s n = -1 :=
  fidx_none fun j y _ hy => by simpa using h y (List.mem_of_getElem? hy)
theorem fnI_cases (s : List Itm) (n : Int) : (∀ x ∈ s, x.n ≠ n) ∨ ∃ (k : Nat) (x : Itm), fnI s n = k ∧ s[k]? = some x ∧ x.n = n := by
  cases hf : s.findIdx? (fun x : Itm => x.n == n) with
  | none =>
    rw [List.findIdx?_eq_none_iff] at hf
    exact .inl fun x hx => by simpa using hf x hx
  | some k =>
    obtain ⟨hk, he, -⟩ := List.findIdx?_eq_some_iff_getElem.1 hf
    exact .inr ⟨k, s[k], by simp [fnI, fidx, hf], List.getElem?_eq_getElem hk, by simpa using he⟩

theorem sq_rem {w : Bs} {W : World} {b S c M cs : Nat} {l s : List Itm} {A As : Option Addr} {added : Int} {x : Itm} {i k : Nat} (hhp : hp l) (hql : QL l s) (hnb : ∀ x ∈ l, 1 ≤ x.n ∧ x.n ≤ added) (had : 0 ≤ added ∧ (l.length : Int) ≤ added) (hi : l[i]? = some x) (hk : s[k]? = some x)
    (h : SP w W b S (remL l i) (s.eraseIdx k) A c M As cs added added) : SQ w W b S (remL l i) (s.eraseIdx k) A c M As cs added := by
  have hp1 := rem_perm hi
  have hl := hp1.length_eq
  rw [List.length_cons] at hl
  exact ⟨h, rem_heap hhp hi, hql.erase hk hp1, fun y hy => hnb y (hp1.mem_iff.2 (by simp [hy])), had.1, by omega⟩
theorem sq_mov {w : Bs} {W : World} {b S c M cs : Nat} {l s : List Itm} {A As : Option Addr} {added d : Int} {x : Itm} {i k : Nat} (hnd : (l.map Itm.n).Nodup) (hhp : hp l) (hql : QL l s) (hnb : ∀ x ∈ l, 1 ≤ x.n ∧ x.n ≤ added) (had : 0 ≤ added ∧ (l.length : Int) ≤ added) (hi : l[i]? = some x) (hk : s[k]? = some x)
    (h : SP w W b S (movL l i x d) (putS (s.eraseIdx k) { x with due := d }) A c M As cs added added) : SQ w W b S (movL l i x d) (putS (s.eraseIdx k) { x with due := d }) A c M As cs added := by
  have hp1 : (movL l i x d).Perm ({ x with due := d } :: l.eraseIdx i) := (movL_perm hi d).trans (set_perm hi)
  have hp2 := erase_perm hi
  have hl2 := hp2.length_eq
  have hl1 := hp1.length_eq
  rw [List.length_cons] at hl1 hl2
  have hnd2 : ((x :: l.eraseIdx i).map Itm.n).Nodup := (hp2.map Itm.n).nodup_iff.1 hnd
  rw [List.map_cons, List.nodup_cons] at hnd2
  refine ⟨h, mov_heap hnd hhp hi d, (hql.erase hk hp2).put (fun y hy e => hnd2.1 (List.mem_map.2 ⟨y, hy, e⟩)) hp1, fun y hy => ?_, had.1, by omega⟩
  rcases List.mem_cons.1 (hp1.mem_iff.1 hy) with rfl | hy
  · exact hnb x (List.mem_of_getElem? hi)
  · exact hnb y (hp2.mem_iff.2 (by simp [hy]))

set_option maxRecDepth 100000 in
set_option maxHeartbeats 1600000 in
theorem sstep_cancel_none (o : Qop) (w : Bs) (W : World) (b S c M cs : Nat) (l s : List Itm) (A As : Option Addr) (added : Int) (h : SQ w W b S l s A c M As cs added) (hl : l.length ≤ 1000) (h1 : o.kind = 2) (ho : (Lit.int .i64 o.n).wf = true) (hno : ∀ x ∈ s, x.n ≠ o.n) :
    Calls Try.prog 14 #[.pointer (some ⟨S, 0, none⟩), .pointer (some ⟨b, 0, none⟩), (.agg #[.int .i64 o.kind, .int .i64 o.n, .int .i64 o.time, .string o.text])] W fun e w' => e = .returned (.bool true) ∧ STo w w' b S M s added := by
  have k1 : (o.kind == 1) = false := by simp [h1]
  have k2 : (o.kind == 2) = true := by simp [h1]
  have hfi := fnI_none hno
  have Hno := Lib.hid (And.intro ho (show ∀ x ∈ l, x.n ≠ o.n from fun x hx => hno x (h.ql.p.mem_iff.2 hx)))
  clear h1 hno ho
  obtain ⟨W0, hW0⟩ : ∃ W0, W.alloc (.cells #[.int .i64 o.kind, .int .i64 o.n, .int .i64 o.time, .string o.text] 39) = W0 := ⟨_, rfl⟩
  have hf := sstep_facts h o
  rw [hW0] at hf
  have H := Lib.hid hf
  have HW0 := Lib.hid hW0
  have hsl : s.length ≤ 1000000 := by rw [h.len]; omega
  have hlen := h.len
  have Hlen := Lib.hid hlen
  have had := h.ad
  have Hop := Lib.hid (show ¬ QF b A M W.heap.size ∧ W.heap.size ≠ S from ⟨fun hf => Nat.lt_irrefl _ (QF_old h.p.q.q hf), fun e => by have := h.p.blk.lt; omega⟩)
  obtain ⟨c0, f0, s0⟩ := hf.1.p.blk.facts
  obtain ⟨c1, f1, s1⟩ := hf.2.facts
  clear h hf hW0 hlen
  go_enter Try.func14, Try.ntmps14
  go_wp2_with (rw [HW0.out])
  go_quiet ((go_at_call 22; exact quiet_sym (xfind_any o.n s As cs _ (H.out.1.p.sl.grew ((Chg.refl _ _).drewN _)) hsl)))
  obtain ⟨W1, hW1⟩ : ∃ W1, W0.drewN nq = W1 := ⟨_, rfl⟩
  have hg1 : Grew W0 W1 := hW1 ▸ (Chg.refl _ _).drewN _
  have H1 := Lib.hid (And.intro (H.out.1.on hg1) (H.out.2.grew hg1))
  rw [hW1]
  clear hW1 hg1 H HW0 c0 f0 s0 c1 f1 s1
  obtain ⟨c0, f0, s0⟩ := H1.out.1.p.blk.facts
  obtain ⟨c1, f1, s1⟩ := H1.out.2.facts

  have hq := cancel_none b o.n l A c M added W1 H1.out.1.p.q.q Hno.out.1 Hno.out.2
  have HQ := Lib.hid hq
  clear hq
  go_wp2_with (go_at_call 24; refine HQ.out.mono ?_; rintro e w5 ⟨rfl, rfl⟩)
  go_ret
  exact ⟨rfl, _, _, _, _, _, H1.out.1⟩

set_option maxRecDepth 100000 in
set_option maxHeartbeats 1600000 in
theorem sstep_cancel_some (o : Qop) (w : Bs) (W : World) (b S c M cs : Nat) (l s : List Itm) (A As : Option Addr) (added : Int) (h : SQ w W b S l s A c M As cs added) (hl : l.length ≤ 1000) (h1 : o.kind = 2) (k : Nat) (x : Itm) (hfi : fnI s o.n = k) (hk : s[k]? = some x) (hn : x.n = o.n) :
    Calls Try.prog 14 #[.pointer (some ⟨S, 0, none⟩), .pointer (some ⟨b, 0, none⟩), (.agg #[.int .i64 o.kind, .int .i64 o.n, .int .i64 o.time, .string o.text])] W fun e w' => e = .returned (.bool true) ∧ STo w w' b S M (s.eraseIdx k) added := by
  have k1 : (o.kind == 1) = false := by simp [h1]
  have k2 : (o.kind == 2) = true := by simp [h1]
  have t1 : decide ((k : Int) < 0) = false := decide_eq_false (by omega)
  obtain ⟨i, hi⟩ := List.mem_iff_getElem?.1 (h.ql.p.mem_iff.1 (List.mem_of_getElem? hk))
  have hks := (List.getElem?_eq_some_iff.1 hk).1
  have HX := Lib.hid (And.intro hi (And.intro hk hn))
  clear h1 hi hk hn
  obtain ⟨W0, hW0⟩ : ∃ W0, W.alloc (.cells #[.int .i64 o.kind, .int .i64 o.n, .int .i64 o.time, .string o.text] 39) = W0 := ⟨_, rfl⟩
  have hf := sstep_facts h o
  rw [hW0] at hf
  have H := Lib.hid hf
  have HW0 := Lib.hid hW0
  have hsl : s.length ≤ 1000000 := by rw [h.len]; omega
  have hlen := h.len
  have Hlen := Lib.hid hlen
  have had := h.ad
  have Hop := Lib.hid (show ¬ QF b A M W.heap.size ∧ W.heap.size ≠ S from ⟨fun hf => Nat.lt_irrefl _ (QF_old h.p.q.q hf), fun e => by have := h.p.blk.lt; omega⟩)
  obtain ⟨c0, f0, s0⟩ := hf.1.p.blk.facts
  obtain ⟨c1, f1, s1⟩ := hf.2.facts
  clear h hf hW0 hlen
  go_enter Try.func14, Try.ntmps14
  go_wp2_with (rw [HW0.out])
  go_quiet ((go_at_call 22; exact quiet_sym (xfind_any o.n s As cs _ (H.out.1.p.sl.grew ((Chg.refl _ _).drewN _)) hsl)))
  obtain ⟨W1, hW1⟩ : ∃ W1, W0.drewN nq = W1 := ⟨_, rfl⟩
  have hg1 : Grew W0 W1 := hW1 ▸ (Chg.refl _ _).drewN _
  have H1 := Lib.hid (And.intro (H.out.1.on hg1) (H.out.2.grew hg1))
  rw [hW1]
  clear hW1 hg1 H HW0 c0 f0 s0 c1 f1 s1
  obtain ⟨c0, f0, s0⟩ := H1.out.1.p.blk.facts
  obtain ⟨c1, f1, s1⟩ := H1.out.2.facts

  go_wp2_with fail
  refine (xwithout_any k s As cs _ H1.out.1.p.sl hsl hks).mono ?_
  rintro e w3 ⟨A3, c3, rfl, hs3, hg3⟩
  have HN := Lib.hid (And.intro hs3 hg3)
  clear hs3 hg3 c0 f0 s0 c1 f1 s1
  obtain ⟨c0, f0, s0⟩ := (H1.out.1.p.blk.grew HN.out.2).facts
  obtain ⟨c1, f1, s1⟩ := (H1.out.2.grew HN.out.2).facts
  obtain ⟨W4, hW4⟩ : ∃ W4, w3.setCell ⟨S, 0, none⟩ (.slice A3 (s.eraseIdx k).length c3) = W4 := ⟨_, rfl⟩
  have h4 := H1.out.1.p.store HN.out.1 HN.out.2 hW4
  have H4 := Lib.hid (And.intro h4.1 (H1.out.2.chg h4.2 Hop.out.2))
  have HW4 := Lib.hid hW4
  clear h4 hW4
  have hq := cancel_some b i x l A c M added W4 H4.out.1.q.q HX.out.1 (by omega)
  rw [HX.out.2.2] at hq
  have HQ := Lib.hid hq
  clear hq
  obtain ⟨c2, f2, s2⟩ := H4.out.2.facts
  go_wp2_with (first
    | (rw [HW4.out])
    | (go_at_call 24; refine HQ.out.mono ?_; rintro e w5 ⟨rfl, hq5, hc5⟩; have HA := Lib.hid (And.intro hq5 hc5); clear hq5 hc5))
  go_ret
  exact ⟨rfl, _, _, _, _, _, sq_rem H1.out.1.hp H1.out.1.ql H1.out.1.nb H1.out.1.ad HX.out.1 HX.out.2.1 (H4.out.1.same HA.out.1 HA.out.2)⟩

set_option maxRecDepth 100000 in
set_option maxHeartbeats 1600000 in
theorem sstep_move_none (o : Qop) (w : Bs) (W : World) (b S c M cs : Nat) (l s : List Itm) (A As : Option Addr) (added : Int) (h : SQ w W b S l s A c M As cs added) (hl : l.length ≤ 1000) (h1 : o.kind = 3) (ho : (Lit.int .i64 o.n).wf = true) (hno : ∀ x ∈ s, x.n ≠ o.n) :
    Calls Try.prog 14 #[.pointer (some ⟨S, 0, none⟩), .pointer (some ⟨b, 0, none⟩), (.agg #[.int .i64 o.kind, .int .i64 o.n, .int .i64 o.time, .string o.text])] W fun e w' => e = .returned (.bool true) ∧ STo w w' b S M s added := by
  have k1 : (o.kind == 1) = false := by simp [h1]
  have k2 : (o.kind == 2) = false := by simp [h1]
  have k3 : (o.kind == 3) = true := by simp [h1]
  have hfi := fnI_none hno
  have Hno := Lib.hid (And.intro ho (show ∀ x ∈ l, x.n ≠ o.n from fun x hx => hno x (h.ql.p.mem_iff.2 hx)))
  clear h1 hno ho
  obtain ⟨W0, hW0⟩ : ∃ W0, W.alloc (.cells #[.int .i64 o.kind, .int .i64 o.n, .int .i64 o.time, .string o.text] 39) = W0 := ⟨_, rfl⟩
  have hf := sstep_facts h o
  rw [hW0] at hf
  have H := Lib.hid hf
  have HW0 := Lib.hid hW0
  have hsl : s.length ≤ 1000000 := by rw [h.len]; omega
  have hlen := h.len
  have Hlen := Lib.hid hlen
  have had := h.ad
  have Hop := Lib.hid (show ¬ QF b A M W.heap.size ∧ W.heap.size ≠ S from ⟨fun hf => Nat.lt_irrefl _ (QF_old h.p.q.q hf), fun e => by have := h.p.blk.lt; omega⟩)
  obtain ⟨c0, f0, s0⟩ := hf.1.p.blk.facts
  obtain ⟨c1, f1, s1⟩ := hf.2.facts
  clear h hf hW0 hlen
  go_enter Try.func14, Try.ntmps14
  go_wp2_with (rw [HW0.out])
  go_quiet ((go_at_call 22; exact quiet_sym (xfind_any o.n s As cs _ (H.out.1.p.sl.grew ((Chg.refl _ _).drewN _)) hsl)))
  obtain ⟨W1, hW1⟩ : ∃ W1, W0.drewN nq = W1 := ⟨_, rfl⟩
  have hg1 : Grew W0 W1 := hW1 ▸ (Chg.refl _ _).drewN _
  have H1 := Lib.hid (And.intro (H.out.1.on hg1) (H.out.2.grew hg1))
  rw [hW1]
  clear hW1 hg1 H HW0 c0 f0 s0 c1 f1 s1
  obtain ⟨c0, f0, s0⟩ := H1.out.1.p.blk.facts
  obtain ⟨c1, f1, s1⟩ := H1.out.2.facts

  have hq := move_none b o.n o.time l A c M added W1 H1.out.1.p.q.q Hno.out.1 Hno.out.2
  have HQ := Lib.hid hq
  clear hq
  go_wp2_with (go_at_call 25; refine HQ.out.mono ?_; rintro e w5 ⟨rfl, rfl⟩)
  go_ret
  exact ⟨rfl, _, _, _, _, _, H1.out.1⟩

set_option maxRecDepth 100000 in
set_option maxHeartbeats 3200000 in
theorem sstep_move_some (o : Qop) (w : Bs) (W : World) (b S c M cs : Nat) (l s : List Itm) (A As : Option Addr) (added : Int) (h : SQ w W b S l s A c M As cs added) (hl : l.length ≤ 1000) (h1 : o.kind = 3) (k : Nat) (x : Itm) (hfi : fnI s o.n = k) (hk : s[k]? = some x) (hn : x.n = o.n) :
    Calls Try.prog 14 #[.pointer (some ⟨S, 0, none⟩), .pointer (some ⟨b, 0, none⟩), (.agg #[.int .i64 o.kind, .int .i64 o.n, .int .i64 o.time, .string o.text])] W fun e w' => e = .returned (.bool true) ∧ STo w w' b S M (putS (s.eraseIdx k) { x with due := o.time }) added := by
  have k1 : (o.kind == 1) = false := by simp [h1]
  have k2 : (o.kind == 2) = false := by simp [h1]
  have k3 : (o.kind == 3) = true := by simp [h1]
  have t1 : decide ((k : Int) < 0) = false := decide_eq_false (by omega)
  obtain ⟨i, hi⟩ := List.mem_iff_getElem?.1 (h.ql.p.mem_iff.1 (List.mem_of_getElem? hk))
  have hks := (List.getElem?_eq_some_iff.1 hk).1
  have HX := Lib.hid (And.intro hi (And.intro hk hn))
  clear h1 hi hk hn
  obtain ⟨W0, hW0⟩ : ∃ W0, W.alloc (.cells #[.int .i64 o.kind, .int .i64 o.n, .int .i64 o.time, .string o.text] 39) = W0 := ⟨_, rfl⟩
  have hf := sstep_facts h o
  rw [hW0] at hf
  have H := Lib.hid hf
  have HW0 := Lib.hid hW0
  have hsl : s.length ≤ 1000000 := by rw [h.len]; omega
  have hlen := h.len
  have Hlen := Lib.hid hlen
  have had := h.ad
  have Hop := Lib.hid (show ¬ QF b A M W.heap.size ∧ W.heap.size ≠ S from ⟨fun hf => Nat.lt_irrefl _ (QF_old h.p.q.q hf), fun e => by have := h.p.blk.lt; omega⟩)
  obtain ⟨c0, f0, s0⟩ := hf.1.p.blk.facts
  obtain ⟨c1, f1, s1⟩ := hf.2.facts
  clear h hf hW0 hlen
  go_enter Try.func14, Try.ntmps14
  go_wp2_with (rw [HW0.out])
  go_quiet ((go_at_call 22; exact quiet_sym (xfind_any o.n s As cs _ (H.out.1.p.sl.grew ((Chg.refl _ _).drewN _)) hsl)))
  obtain ⟨W1, hW1⟩ : ∃ W1, W0.drewN nq = W1 := ⟨_, rfl⟩
  have hg1 : Grew W0 W1 := hW1 ▸ (Chg.refl _ _).drewN _
  have H1 := Lib.hid (And.intro (H.out.1.on hg1) (H.out.2.grew hg1))
  rw [hW1]
  clear hW1 hg1 H HW0 c0 f0 s0 c1 f1 s1
  obtain ⟨c0, f0, s0⟩ := H1.out.1.p.blk.facts
  obtain ⟨c1, f1, s1⟩ := H1.out.2.facts

  obtain ⟨g, off, eA, hb, d0, d1, d2⟩ := H1.out.1.p.sl.atItm HX.out.2.1
  subst eA
  obtain ⟨W2, hW2⟩ : ∃ W2, W1.alloc (.cells #[.int .i64 x.n, .int .i64 x.due, .string x.v] 47) = W2 := ⟨_, rfl⟩
  have HW2 := Lib.hid hW2
  have hg2 : Grew W1 W2 := hW2 ▸ (Chg.refl _ _).alloc _
  have HB2 := Lib.hid (show Blk W2 W1.heap.size 47 #[.int .i64 x.n, .int .i64 x.due, .string x.v] from hW2 ▸ Blk.new _ _ _)
  have H2 := Lib.hid (And.intro (H1.out.1.p.on hg2) (H1.out.2.grew hg2))
  clear hW2 hg2
  obtain ⟨e0, g0, r0⟩ := H2.out.1.blk.facts
  obtain ⟨e1, g1, r1⟩ := H2.out.2.facts
  obtain ⟨e2, g2, r2⟩ := HB2.out.facts
  go_wp2_with (rw [HW2.out])
  obtain ⟨W3, hW3⟩ : ∃ W3, W2.setCell ⟨W1.heap.size, 1, none⟩ (.int .i64 o.time) = W3 := ⟨_, rfl⟩
  rw [hW3]
  have hXS : W1.heap.size ≠ S := fun e => by have := H1.out.1.p.blk.lt; omega
  have hXo : W.heap.size ≠ W1.heap.size := fun e => by have := H1.out.2.lt; omega
  have hc3 : Chg (fun j => j = W1.heap.size) W2 W3 := hW3 ▸ (Chg.refl (fun j => j = W1.heap.size) W2).setCell (p := ⟨W1.heap.size, 1, none⟩) (fun _ => rfl) _
  have hg3 : Grew W1 W3 := by
    have := Chg.trans (show Grew W1 W2 from HW2.out ▸ (Chg.refl _ _).alloc _) hc3 (fun i hi e => by omega)
    exact this
  have hb3 : Blk W3 W1.heap.size 47 #[.int .i64 x.n, .int .i64 o.time, .string x.v] := by
    rw [← hW3]; simpa using HB2.out.put 1 (.int .i64 o.time)
  have H3 := Lib.hid (And.intro (H1.out.1.p.on hg3) (And.intro (H1.out.2.grew hg3) hb3))
  clear hW3 hc3 hg3 hb3 d0 d1 d2 c0 f0 s0 c1 f1 s1 e0 g0 r0 e1 g1 r1 e2 g2 r2
  obtain ⟨c0, f0, s0⟩ := H3.out.1.blk.facts
  obtain ⟨c1, f1, s1⟩ := H3.out.2.1.facts
  obtain ⟨c2, f2, s2⟩ := H3.out.2.2.facts
  have hlx : (s.eraseIdx k).length ≤ 1000000 := by have := List.length_eraseIdx_le s k; omega
  refine wp_region_held_drew (S := fun w' => ∀ (B i : Nat), B < W3.heap.size → (B = S → i ≠ 0) → w'.cell? ⟨B, i, none⟩ = W3.cell? ⟨B, i, none⟩) (by kernel_rfl) (by intro B i _ _; rfl) (fun hHeld => ?_)
  refine wpAnyH_take (i := 0) (v := ?_) rfl (by kernel_rfl) (by kernel_rfl) (by kernel_rfl) (fun _ _ _ h => h) (Or.inl ⟨by rfl, ?_⟩) hHeld ?_
  rotate_left
  · (intro w hSw; (try dsimp only at hSw); go_simp) <;> with_reducible rfl
  (try simp only [Act.put, List.setIfInBounds_toArray, List.set_cons_zero, List.set_cons_succ])
  refine wpAnyH_take (i := 1) (v := ?_) rfl (by kernel_rfl) (by kernel_rfl) (by kernel_rfl) (fun _ _ _ h => h) (Or.inl ⟨by rfl, ?_⟩) hHeld ?_
  rotate_left
  · (intro w hSw; (try dsimp only at hSw); go_simp) <;> with_reducible rfl
  (try simp only [Act.put, List.setIfInBounds_toArray, List.set_cons_zero, List.set_cons_succ])
  refine wpAnyH_take (i := 2) (v := ?_) rfl (by kernel_rfl) (by kernel_rfl) (by kernel_rfl) (fun _ _ _ h => h) (Or.inl ⟨by rfl, ?_⟩) hHeld ?_
  rotate_left
  · (intro w hSw; (try dsimp only at hSw); go_simp) <;> with_reducible rfl
  (try simp only [Act.put, List.setIfInBounds_toArray, List.set_cons_zero, List.set_cons_succ])
  refine wpAnyH_take (i := 3) (v := ?_) rfl (by kernel_rfl) (by kernel_rfl) (by kernel_rfl) (fun _ _ _ h => h) (Or.inl ⟨by rfl, ?_⟩) hHeld ?_
  rotate_left
  · (intro w hSw; (try dsimp only at hSw); go_simp) <;> with_reducible rfl
  (try simp only [Act.put, List.setIfInBounds_toArray, List.set_cons_zero, List.set_cons_succ])
  refine wpAnyH_take (i := 5) (v := ?_) rfl (by kernel_rfl) (by kernel_rfl) (by kernel_rfl) (fun _ _ _ h => h) (Or.inl ⟨by rfl, ?_⟩) hHeld ?_
  rotate_left
  · (intro w hSw; (try dsimp only at hSw); go_simp) <;> with_reducible rfl
  (try simp only [Act.put, List.setIfInBounds_toArray, List.set_cons_zero, List.set_cons_succ])
  refine wpAnyH_take (i := 7) (v := ?_) rfl (by kernel_rfl) (by kernel_rfl) (by kernel_rfl) (fun _ _ _ h => h) (Or.inl ⟨by rfl, ?_⟩) hHeld ?_
  rotate_left
  · (intro w hSw; (try dsimp only at hSw); go_simp) <;> with_reducible rfl
  (try simp only [Act.put, List.setIfInBounds_toArray, List.set_cons_zero, List.set_cons_succ])
  refine wpAnyH_ready (rs := [4]) (by kernel_rfl) (by simp) ?_
  refine AllReadyH.cons rfl (fun K hK => ?_) AllReadyH.nil
  go_simp
  refine hK.out _ _ hHeld (fun _ => ?_)
  clear hK K
  (try simp only [Act.put, List.setIfInBounds_toArray, List.set_cons_zero, List.set_cons_succ])
  refine wpAnyH_ready (rs := [6]) (by kernel_rfl) (by simp) ?_
  refine AllReadyH.cons rfl (fun K hK => ?_) AllReadyH.nil
  go_simp
  go_at_call 17
  refine (xwithout_any k s _ cs _ (H3.out.1.sl.grew ((Chg.refl _ _).drew)) hsl hks).mono ?_
  rintro e w4 ⟨A4, c4, rfl, hs4, hg4⟩
  have HN := Lib.hid (And.intro hs4 hg4)
  clear hs4 hg4
  refine hK.out _ _ (fun B i hB1 _ => HN.out.2.cell (p := ⟨B, i, none⟩) (by simpa using hB1) id) (fun _ => ?_)
  clear hK K
  (try simp only [Act.put, List.setIfInBounds_toArray, List.set_cons_zero, List.set_cons_succ])
  refine wpAnyH_ready (rs := [8]) (by kernel_rfl) (by simp) ?_
  refine AllReadyH.cons rfl (fun K hK => ?_) AllReadyH.nil
  go_simp
  go_at_call 23
  refine (xput_any ⟨x.n, o.time, x.v⟩ (s.eraseIdx k) A4 c4 _ (Sl.of_own HN.out.1) hlx).mono ?_
  rintro e w5 ⟨A5, c5, rfl, hs5, hg5⟩
  have HM := Lib.hid (And.intro (own_base hs5 HN.out.2.size) (Grew.trans HN.out.2 hg5))
  obtain ⟨e0, g0, r0⟩ := ((H3.out.1.blk.grew ((Chg.refl _ _).drew)).grew HM.out.2).facts
  clear hs5 hg5
  refine hK.out _ _ (fun B i hB1 _ => HM.out.2.cell (p := ⟨B, i, none⟩) (by simpa using hB1) id) (fun hHel2 => ?_)
  clear hK K
  (try simp only [Act.put, List.setIfInBounds_toArray, List.set_cons_zero, List.set_cons_succ])
  refine wpAnyH_take (i := 9) (v := ?_) rfl (by kernel_rfl) (by kernel_rfl) (by kernel_rfl) (fun _ _ _ h => h) (Or.inl ⟨by rfl, ?_⟩) hHel2 ?_
  rotate_left
  · (intro w hSw; (try dsimp only at hSw); go_simp) <;> with_reducible rfl
  (try simp only [Act.put, List.setIfInBounds_toArray, List.set_cons_zero, List.set_cons_succ])
  refine wpAnyH_take (i := 10) (v := ?_) rfl (by kernel_rfl) (by kernel_rfl) (by kernel_rfl) (fun _ _ _ h => h) (Or.inl ⟨by rfl, ?_⟩) hHel2 ?_
  rotate_left
  · (intro w hSw; (try dsimp only at hSw); go_simp) <;> with_reducible rfl
  (try simp only [Act.put, List.setIfInBounds_toArray, List.set_cons_zero, List.set_cons_succ])
  refine wpAnyH_ready (rs := [11]) (by kernel_rfl) (by simp) ?_
  refine AllReadyH.cons rfl (fun K hK => ?_) AllReadyH.nil
  go_simp
  refine hK.out _ _ (fun B i hB1 hB2 => ?_) (fun _ => ?_)
  · rw [World.cell?_setCell_other _ _ _ _ (by intro e; injection e with e1 e2; exact hB2 e1.symm e2.symm)]
    exact HM.out.2.cell (p := ⟨B, i, none⟩) (by simpa using hB1) id
  clear hK K
  (try simp only [Act.put, List.setIfInBounds_toArray, List.set_cons_zero, List.set_cons_succ])
  refine wpAnyH_done (by kernel_rfl) ?_ _
  clear hHeld hHel2
  obtain ⟨W6, hW6⟩ : ∃ W6, w5.setCell ⟨S, 0, none⟩ (.slice A5 (putS (s.eraseIdx k) ⟨x.n, o.time, x.v⟩).length c5) = W6 := ⟨_, rfl⟩
  rw [hW6]
  have h6 := (H3.out.1.on ((Chg.refl NoF W3).drew)).store HM.out.1 HM.out.2 hW6
  have H6 := Lib.hid (And.intro h6.1 ((H3.out.2.1.grew ((Chg.refl NoF W3).drew)).chg h6.2 Hop.out.2))
  clear hW6 h6 c0 f0 s0 c1 f1 s1 c2 f2 s2 e0 g0 r0
  obtain ⟨c1, f1, s1⟩ := H6.out.2.facts
  have hq := move_some b i x o.time l A c M added W6 H6.out.1.q.q HX.out.1 (by omega)
  rw [HX.out.2.2] at hq
  have HQ := Lib.hid hq
  clear hq
  go_wp2_with (go_at_call 25; refine HQ.out.mono ?_; rintro e w7 ⟨rfl, hq7, hc7⟩; have HA := Lib.hid (And.intro hq7 hc7); clear hq7 hc7)
  go_ret
  exact ⟨rfl, _, _, _, _, _, sq_mov H1.out.1.p.q.q.nd H1.out.1.hp H1.out.1.ql H1.out.1.nb H1.out.1.ad HX.out.1 HX.out.2.1 (H6.out.1.same HA.out.1 HA.out.2)⟩

end Go.Proofs.Ytjdbaeogoifdfaa
