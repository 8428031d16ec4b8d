/- The queue's law: its step: Add. -/
import Derived.Test.YtjdbaeogoifdfaaQueXf
namespace Go.Proofs.Ytjdbaeogoifdfaa
open Go.RowKit Go.Maps

theorem sq_add {w : Bs} {W : World} {b S c M cs : Nat} {l s : List Itm} {A As : Option Addr} {added : Int} {x : Itm} (hhp : hp l) (hql : QL l s) (hnb : ∀ x ∈ l, 1 ≤ x.n ∧ x.n ≤ added) (had : 0 ≤ added ∧ (l.length : Int) ≤ added) (hx : x.n = added + 1)
    (h : SP w W b S (upL (l ++ [x]) l.length) (putS s x) A c M As cs (added + 1) (added + 1)) : SQ w W b S (upL (l ++ [x]) l.length) (putS s x) A c M As cs (added + 1) := by
  have hp1 := upL_perm (l ++ [x]) l.length
  have hp2 : (upL (l ++ [x]) l.length).Perm (x :: l) := hp1.trans (List.perm_append_comm (l₁ := l) (l₂ := [x]))
  refine ⟨h, add_heap x hhp, hql.put (fun y hy e => by have := (hnb y hy).2; omega) hp2, fun y hy => ?_, by omega, ?_⟩
  · rcases List.mem_cons.1 (hp2.mem_iff.1 hy) with rfl | hy
    · omega
    · have := hnb y hy; omega
  · rw [hp2.length_eq]; simp; omega

set_option maxRecDepth 100000 in
set_option maxHeartbeats 1600000 in
theorem sstep_add (o : Qop) (w : Bs) (W : World) (b S c M cs : Nat) (l s : List Itm) (A As : Option Addr) (added : Int) (h : SQ w W b S l s A c M As cs added) (hl : l.length ≤ 1000) (ha : added ≤ 1000) (h1 : o.kind = 1) :
    Calls Try.prog 14 #[.pointer (some ⟨S, 0, none⟩), .pointer (some ⟨b, 0, none⟩), (.agg #[.int .i64 o.kind, .int .i64 o.n, .int .i64 o.time, .string o.text])] W fun e w' => e = .returned (.bool true) ∧ STo w w' b S M (putS s ⟨added + 1, o.time, o.text⟩) (added + 1) := by
  have k1 : (o.kind == 1) = true := by simpa using h1
  clear h1
  obtain ⟨W0, hW0⟩ : ∃ W0, W.alloc (.cells #[.int .i64 o.kind, .int .i64 o.n, .int .i64 o.time, .string o.text] 39) = W0 := ⟨_, rfl⟩
  have hf := sstep_facts h o
  rw [hW0] at hf
  have H := Lib.hid hf
  have HW0 := Lib.hid hW0
  have hsl : s.length ≤ 1000000 := by rw [h.len]; omega
  have hlen := h.len
  have Hlen := Lib.hid hlen
  have had := h.ad
  have Hop := Lib.hid (show ¬ QF b A M W.heap.size ∧ W.heap.size ≠ S from ⟨fun hf => Nat.lt_irrefl _ (QF_old h.p.q.q hf), fun e => by have := h.p.blk.lt; omega⟩)
  obtain ⟨c0, f0, s0⟩ := hf.1.p.blk.facts
  obtain ⟨c1, f1, s1⟩ := hf.2.facts
  clear h hf hW0 hlen
  go_enter Try.func14, Try.ntmps14
  go_wp2_with (rw [HW0.out])
  go_quiet ((go_at_call 22; exact quiet_sym (xfind_any o.n s As cs _ (H.out.1.p.sl.grew ((Chg.refl _ _).drewN _)) hsl)))
  obtain ⟨W1, hW1⟩ : ∃ W1, W0.drewN nq = W1 := ⟨_, rfl⟩
  have hg1 : Grew W0 W1 := hW1 ▸ (Chg.refl _ _).drewN _
  have H1 := Lib.hid (And.intro (H.out.1.on hg1) (H.out.2.grew hg1))
  rw [hW1]
  clear hW1 hg1 H HW0 c0 f0 s0 c1 f1 s1
  obtain ⟨c0, f0, s0⟩ := H1.out.1.p.blk.facts
  obtain ⟨c1, f1, s1⟩ := H1.out.2.facts

  go_wp2_with fail
  obtain ⟨W2, hW2⟩ : ∃ W2, W1.setCell ⟨S, 1, none⟩ (.int .i64 (added + 1)) = W2 := ⟨_, rfl⟩
  rw [hW2]
  have h2 := H1.out.1.p.count hW2
  have H2 := Lib.hid (And.intro h2.1 (H1.out.2.chg h2.2 Hop.out.2))
  clear hW2 c0 f0 s0 c1 f1 s1 h2
  obtain ⟨c0, f0, s0⟩ := H2.out.1.blk.facts
  obtain ⟨c1, f1, s1⟩ := H2.out.2.facts
  have c00 := c0 0
  have c01 := c0 1
  have c12 := c1 2
  have c13 := c1 3
  have f00 := f0 0
  simp only [List.getElem?_toArray, List.getElem?_cons_zero, List.getElem?_cons_succ] at c00 c01 c12 c13
  clear c0 c1 f0 f1
  refine wp_region_held_drew (S := fun w' => ∀ (B i : Nat), B < W2.heap.size → (B = S → i ≠ 0) → w'.cell? ⟨B, i, none⟩ = W2.cell? ⟨B, i, none⟩) (by kernel_rfl) (by intro B i _ _; rfl) (fun hHeld => ?_)
  refine wpAnyH_take (i := 0) (v := ?_) rfl (by kernel_rfl) (by kernel_rfl) (by kernel_rfl) (fun _ _ _ h => h) (Or.inl ⟨by rfl, ?_⟩) hHeld ?_
  rotate_left
  · (intro w hSw; (try dsimp only at hSw); go_simp) <;> with_reducible rfl
  (try simp only [Act.put, List.setIfInBounds_toArray, List.set_cons_zero, List.set_cons_succ])
  refine wpAnyH_take (i := 1) (v := ?_) rfl (by kernel_rfl) (by kernel_rfl) (by kernel_rfl) (fun _ _ _ h => h) (Or.inl ⟨by rfl, ?_⟩) hHeld ?_
  rotate_left
  · (intro w hSw; (try dsimp only at hSw); go_simp) <;> with_reducible rfl
  (try simp only [Act.put, List.setIfInBounds_toArray, List.set_cons_zero, List.set_cons_succ])
  refine wpAnyH_take (i := 2) (v := ?_) rfl (by kernel_rfl) (by kernel_rfl) (by kernel_rfl) (fun _ _ _ h => h) (Or.inl ⟨by rfl, ?_⟩) hHeld ?_
  rotate_left
  · (intro w hSw; (try dsimp only at hSw); go_simp) <;> with_reducible rfl
  (try simp only [Act.put, List.setIfInBounds_toArray, List.set_cons_zero, List.set_cons_succ])
  refine wpAnyH_take (i := 3) (v := ?_) rfl (by kernel_rfl) (by kernel_rfl) (by kernel_rfl) (fun _ _ _ h => h) (Or.inl ⟨by rfl, ?_⟩) hHeld ?_
  rotate_left
  · (intro w hSw; (try dsimp only at hSw); go_simp) <;> with_reducible rfl
  (try simp only [Act.put, List.setIfInBounds_toArray, List.set_cons_zero, List.set_cons_succ])
  refine wpAnyH_take (i := 5) (v := ?_) rfl (by kernel_rfl) (by kernel_rfl) (by kernel_rfl) (fun _ _ _ h => h) (Or.inl ⟨by rfl, ?_⟩) hHeld ?_
  rotate_left
  · (intro w hSw; (try dsimp only at hSw); go_simp) <;> with_reducible rfl
  (try simp only [Act.put, List.setIfInBounds_toArray, List.set_cons_zero, List.set_cons_succ])
  refine wpAnyH_take (i := 6) (v := ?_) rfl (by kernel_rfl) (by kernel_rfl) (by kernel_rfl) (fun _ _ _ h => h) (Or.inl ⟨by rfl, ?_⟩) hHeld ?_
  rotate_left
  · (intro w hSw; (try dsimp only at hSw); go_simp) <;> with_reducible rfl
  (try simp only [Act.put, List.setIfInBounds_toArray, List.set_cons_zero, List.set_cons_succ])
  refine wpAnyH_take (i := 7) (v := ?_) rfl (by kernel_rfl) (by kernel_rfl) (by kernel_rfl) (fun _ _ _ h => h) (Or.inl ⟨by rfl, ?_⟩) hHeld ?_
  rotate_left
  · (intro w hSw; (try dsimp only at hSw); go_simp) <;> with_reducible rfl
  (try simp only [Act.put, List.setIfInBounds_toArray, List.set_cons_zero, List.set_cons_succ])
  refine wpAnyH_take (i := 8) (v := ?_) rfl (by kernel_rfl) (by kernel_rfl) (by kernel_rfl) (fun _ _ _ h => h) (Or.inl ⟨by rfl, ?_⟩) hHeld ?_
  rotate_left
  · (intro w hSw; (try dsimp only at hSw); go_simp) <;> with_reducible rfl
  (try simp only [Act.put, List.setIfInBounds_toArray, List.set_cons_zero, List.set_cons_succ])
  refine wpAnyH_take (i := 9) (v := ?_) rfl (by kernel_rfl) (by kernel_rfl) (by kernel_rfl) (fun _ _ _ h => h) (Or.inl ⟨by rfl, ?_⟩) hHeld ?_
  rotate_left
  · (intro w hSw; (try dsimp only at hSw); go_simp) <;> with_reducible rfl
  (try simp only [Act.put, List.setIfInBounds_toArray, List.set_cons_zero, List.set_cons_succ])
  refine wpAnyH_take (i := 10) (v := ?_) rfl (by kernel_rfl) (by kernel_rfl) (by kernel_rfl) (fun _ _ _ h => h) (Or.inl ⟨by rfl, ?_⟩) hHeld ?_
  rotate_left
  · (intro w hSw; (try dsimp only at hSw); go_simp) <;> with_reducible rfl
  (try simp only [Act.put, List.setIfInBounds_toArray, List.set_cons_zero, List.set_cons_succ])
  refine wpAnyH_take (i := 11) (v := ?_) rfl (by kernel_rfl) (by kernel_rfl) (by kernel_rfl) (fun _ _ _ h => h) (Or.inl ⟨by rfl, ?_⟩) hHeld ?_
  rotate_left
  · (intro w hSw; (try dsimp only at hSw); go_simp) <;> with_reducible rfl
  (try simp only [Act.put, List.setIfInBounds_toArray, List.set_cons_zero, List.set_cons_succ])
  refine wpAnyH_take (i := 12) (v := ?_) rfl (by kernel_rfl) (by kernel_rfl) (by kernel_rfl) (fun _ _ _ h => h) (Or.inl ⟨by rfl, ?_⟩) hHeld ?_
  rotate_left
  · (intro w hSw; (try dsimp only at hSw); go_simp) <;> with_reducible rfl
  (try simp only [Act.put, List.setIfInBounds_toArray, List.set_cons_zero, List.set_cons_succ])
  refine wpAnyH_take (i := 13) (v := ?_) rfl (by kernel_rfl) (by kernel_rfl) (by kernel_rfl) (fun _ _ _ h => h) (Or.inl ⟨by rfl, ?_⟩) hHeld ?_
  rotate_left
  · (intro w hSw; (try dsimp only at hSw); go_simp) <;> with_reducible rfl
  (try simp only [Act.put, List.setIfInBounds_toArray, List.set_cons_zero, List.set_cons_succ])
  refine wpAnyH_ready (rs := [4]) (by kernel_rfl) (by simp) ?_
  refine AllReadyH.cons rfl (fun K hK => ?_) AllReadyH.nil
  go_simp
  refine hK.out _ _ hHeld (fun _ => ?_)
  clear hK K
  (try simp only [Act.put, List.setIfInBounds_toArray, List.set_cons_zero, List.set_cons_succ])
  refine wpAnyH_ready (rs := [14]) (by kernel_rfl) (by simp) ?_
  refine AllReadyH.cons rfl (fun K hK => ?_) AllReadyH.nil
  go_simp
  go_at_call 23
  refine (xput_any ⟨added + 1, o.time, o.text⟩ s As cs _ (H2.out.1.sl.grew ((Chg.refl _ _).drew)) hsl).mono ?_
  rintro e w3 ⟨A3, c3, rfl, hs3, hg3⟩
  have HN := Lib.hid (And.intro hs3 hg3)
  obtain ⟨e0, g0, r0⟩ := ((H2.out.1.blk.grew ((Chg.refl _ _).drew)).grew hg3).facts
  clear hs3 hg3
  refine hK.out _ _ (fun B i hB1 _ => HN.out.2.cell (p := ⟨B, i, none⟩) (by simpa using hB1) id) (fun hHel2 => ?_)
  clear hK K
  (try simp only [Act.put, List.setIfInBounds_toArray, List.set_cons_zero, List.set_cons_succ])
  refine wpAnyH_take (i := 15) (v := ?_) rfl (by kernel_rfl) (by kernel_rfl) (by kernel_rfl) (fun _ _ _ h => h) (Or.inl ⟨by rfl, ?_⟩) hHel2 ?_
  rotate_left
  · (intro w hSw; (try dsimp only at hSw); go_simp) <;> with_reducible rfl
  (try simp only [Act.put, List.setIfInBounds_toArray, List.set_cons_zero, List.set_cons_succ])
  refine wpAnyH_take (i := 16) (v := ?_) rfl (by kernel_rfl) (by kernel_rfl) (by kernel_rfl) (fun _ _ _ h => h) (Or.inl ⟨by rfl, ?_⟩) hHel2 ?_
  rotate_left
  · (intro w hSw; (try dsimp only at hSw); go_simp) <;> with_reducible rfl
  (try simp only [Act.put, List.setIfInBounds_toArray, List.set_cons_zero, List.set_cons_succ])
  refine wpAnyH_ready (rs := [17]) (by kernel_rfl) (by simp) ?_
  refine AllReadyH.cons rfl (fun K hK => ?_) AllReadyH.nil
  go_simp
  refine hK.out _ _ (fun B i hB1 hB2 => ?_) (fun _ => ?_)
  · rw [World.cell?_setCell_other _ _ _ _ (by intro e; injection e with e1 e2; exact hB2 e1.symm e2.symm)]
    exact HN.out.2.cell (p := ⟨B, i, none⟩) (by simpa using hB1) id
  clear hK K
  (try simp only [Act.put, List.setIfInBounds_toArray, List.set_cons_zero, List.set_cons_succ])
  refine wpAnyH_done (by kernel_rfl) ?_ _
  clear hHeld hHel2
  obtain ⟨W4, hW4⟩ : ∃ W4, w3.setCell ⟨S, 0, none⟩ (.slice A3 (putS s ⟨added + 1, o.time, o.text⟩).length c3) = W4 := ⟨_, rfl⟩
  rw [hW4]
  have h4 := (H2.out.1.on ((Chg.refl NoF W2).drew)).store HN.out.1 HN.out.2 hW4
  have H4 := Lib.hid (And.intro h4.1 ((H2.out.2.grew ((Chg.refl NoF W2).drew)).chg h4.2 Hop.out.2))
  clear hW4 h4 c00 c01 c12 c13 f00 s0 s1 e0 g0 r0
  obtain ⟨c0, f0, s0⟩ := H4.out.1.blk.facts
  obtain ⟨c1, f1, s1⟩ := H4.out.2.facts
  have c01 := c0 1
  have c12 := c1 2
  have c13 := c1 3
  simp only [List.getElem?_toArray, List.getElem?_cons_zero, List.getElem?_cons_succ] at c01 c12 c13
  clear c0 c1 f0 f1
  go_wp2_with fail
  go_region_held3 (fun w' => w'.cell? ⟨S, 1, none⟩ = some (.int .i64 (added + 1)) ∧ w'.cell? ⟨W.heap.size, 2, none⟩ = some (.int .i64 o.time) ∧ w'.cell? ⟨W.heap.size, 3, none⟩ = some (.string o.text))
    ((first | exact ⟨c01, c12, c13⟩ | exact ⟨(HA.out.2.1.cell (p := ⟨S, 1, none⟩) s0 H4.out.1.outS).trans c01, (HA.out.2.1.cell (p := ⟨W.heap.size, 2, none⟩) s1 Hop.out.1).trans c12, (HA.out.2.1.cell (p := ⟨W.heap.size, 3, none⟩) s1 Hop.out.1).trans c13⟩))
    ((go_at_call 10; refine (add_any b o.time o.text l A c M added _ ((H4.out.1.on ((Chg.refl _ _).drew)).q.q) (by omega) (by omega) (by omega) (fun x hx => (H1.out.1.nb x hx).2)).mono ?_; rintro e w5 ⟨rfl, A5, c5, hq5, hc5, hn5⟩; have HA := Lib.hid (And.intro hq5 (And.intro hc5 hn5)); clear hq5 hc5 hn5))
  all_goals
    go_wp2_with fail
    go_ret
    refine ⟨rfl, _, A5, c5, A3, c3, sq_add H1.out.1.hp H1.out.1.ql H1.out.1.nb H1.out.1.ad rfl ?_⟩
    exact (H4.out.1.on ((Chg.refl NoF W4).drew)).turn HA.out.1 HA.out.2.1 HA.out.2.2

end Go.Proofs.Ytjdbaeogoifdfaa
