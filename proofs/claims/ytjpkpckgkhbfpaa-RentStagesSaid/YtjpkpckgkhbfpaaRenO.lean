/- RentStages. -/
import Derived.Test.YtjpkpckgkhbfpaaRenN
namespace Go.Proofs.Ytjpkpckgkhbfpaa
open Go.RowKit Go.Maps

theorem fold_take {α β : Type} (f : β → α → β) (l : List α) (k : Nat) (x : α) (b : β) (h : l[k]? = some x) : (l.take (k + 1)).foldl f b = f ((l.take k).foldl f b) x := by
  rw [List.take_add_one, h]
  simp

theorem cost_times {x : List Rw} {h p : Int} {r : Rw} (hf : fnd x h = some r) (hr : 1 ≤ r.rate) (h1 : 1 ≤ p) (h2 : p ≤ 12) : (timesL r.rate p = -1 ∧ costL x h p = (0, 15)) ∨ (0 ≤ timesL r.rate p ∧ costL x h p = (timesL r.rate p, 0)) := by
  unfold costL timesL
  rw [hf]
  simp only []
  rw [if_neg (show ¬ (p < 1 ∨ 12 < p) by omega)]
  have e : 1099511627776 / r.rate < p ↔ 1099511627776 < r.rate * p := by rw [Int.ediv_lt_iff_lt_mul (by omega), Int.mul_comm]
  by_cases ht : r.rate * p ≤ 1099511627776
  · rw [if_pos ht, if_neg (by rw [e]; omega)]
    exact .inr ⟨Int.mul_nonneg (by omega) (by omega), rfl⟩
  · rw [if_neg ht, if_pos (by rw [e]; omega)]
    exact .inl ⟨rfl, rfl⟩

set_option maxRecDepth 100000 in
set_option maxHeartbeats 1600000 in
theorem stages_out (l : List Rop) (z : Rop) (A : Option Addr) (c : Nat) (w : World) (h : l.length > 60) (hl : (l.length : Int) ≤ 9223372036854775807) :
    Calls Try.prog 4 #[.slice A l.length c, (.agg #[.int .i64 z.kind, .int .i64 z.house, .int .i64 z.n, .int .i64 z.now])] w fun e w' => e = .returned (.bool true) ∧ Grew w w' := by
  go_enter Try.func4, Try.ntmps4
  go_wp2_with (first
    | (go_at_call 9; refine (rnew_any _).mono ?_; rintro e w1 ⟨rfl, ht1⟩; have HM1 := Lib.hid (RM.made (Chg.refl _ _) ht1); clear ht1)
    | (go_at_call 8; refine (rawake_any _).mono ?_; rintro e w2 ⟨rfl, hg2⟩))
  go_ret
  exact ⟨rfl, Grew.trans (Grew.trans ((Chg.refl _ _).alloc _) HM1.out.grew) hg2⟩

set_option maxRecDepth 100000 in
set_option maxHeartbeats 3200000 in
theorem stages_none (l : List Rop) (z : Rop) (A : Option Addr) (c : Nat) (w : World) (h : l.length ≤ 60) (hs : Sl w 4 A l.length (l.flatMap Rop.vals)) (hok : ∀ r ∈ l, r.ok) (hz : z.ok) (hf : fnd (l.foldl stepL []) z.house = none) :
    Calls Try.prog 4 #[.slice A l.length c, (.agg #[.int .i64 z.kind, .int .i64 z.house, .int .i64 z.n, .int .i64 z.now])] w fun e w' => e = .returned (.bool true) ∧ Grew w w' := by
  obtain ⟨W0, hW0⟩ : ∃ W0, w.alloc (.cells #[.int .i64 z.kind, .int .i64 z.house, .int .i64 z.n, .int .i64 z.now] 36) = W0 := ⟨_, rfl⟩
  have hg0 : Grew w W0 := hW0 ▸ (Chg.refl _ _).alloc _
  have hb0 : Blk W0 w.heap.size 36 #[.int .i64 z.kind, .int .i64 z.house, .int .i64 z.n, .int .i64 z.now] := hW0 ▸ Blk.new w _ _
  have HW := Lib.hid hW0
  have HG := Lib.hid (And.intro hg0 hb0)
  have HS := Lib.hid (And.intro (hs.grew hg0) hok)
  have HF := Lib.hid hf
  have z1 := hz.2.2.1
  have z2 := hz.2.2.2.1
  have z3 := hz.2.2.2.2.2.2.1
  have z4 := hz.2.2.2.2.2.2.2
  clear hW0 hg0 hb0 hs hok hz hf
  go_enter Try.func4, Try.ntmps4
  go_wp2_with (first
    | (rw [HW.out])
    | (go_at_call 9; refine (rnew_any _).mono ?_; rintro e w1 ⟨rfl, ht1⟩; have HM1 := Lib.hid (RM.made (Chg.refl _ _) ht1); clear ht1))
  obtain ⟨b, hb⟩ : ∃ b, W0.heap.size + 4 = b := ⟨_, rfl⟩
  rw [hb] at HM1 ⊢
  clear hb
  go_loopw [6, 32] (fun v i wr => ∃ (k : Nat) (x : List Rw) (A : Option Addr) (c : Nat), k ≤ l.length ∧ i = .int .i64 k ∧ v = .slice A x.length c ∧ x = (l.take k).foldl stepL [] ∧ SR W0 wr b x x k A) (fun _ i _ => l.length - (intOf i).toNat)
  case atStart => exact ⟨0, [], none, 0, by omega, rfl, rfl, rfl, SR.made HM1.out⟩
  case round =>
    obtain ⟨k, x, A1, c1, hk, rfl, rfl, hx, hsr⟩ := hrel
    have HX := Lib.hid (And.intro hx hsr)
    clear hx hsr
    by_cases hlt : k < l.length
    · obtain ⟨o, ho⟩ : ∃ o, l[k]? = some o := ⟨_, List.getElem?_eq_getElem hlt⟩
      obtain ⟨g, off, rfl, hb, d0, d1, d2, d3⟩ := (HS.out.1.grew HX.out.2.grew).atRop ho
      have HO := Lib.hid (And.intro ho (HS.out.2 o (List.mem_of_getElem? ho)))
      clear ho
      go_wp2_with (go_at_call 14; refine (rstep_any o W0 _ b k x A1 c1 (HX.out.2.on ((Chg.refl _ _).alloc _)) (by omega) HO.out.2).mono ?_; rintro e w2 ⟨A2, c2, rfl, hs2⟩; have H2 := Lib.hid hs2; clear hs2)
      exact ⟨⟨k + 1, stepL x o, A2, c2, by omega, by simp, rfl, by rw [fold_take stepL l k o [] HO.out.1, ← HX.out.1], H2.out⟩, by simp [intOf]; omega⟩
    · obtain rfl : k = l.length := by omega
      have hxe := HX.out.1
      rw [List.take_length] at hxe
      have hf := HF.out
      rw [← hxe] at hf
      have hsr := HX.out.2
      obtain ⟨c0, f0, s0⟩ := (HG.out.2.grew hsr.grew).facts
      have hlen := hsr.len
      clear HX hxe HF
      have H := Lib.hid hsr
      clear hsr
      have hh := Lib.hid (wf64 z1 z2)
      have Hf := Lib.hid (And.intro hf (fnd_idx_none hf))
      have hco := Lib.hid (show costL x z.house z.n = (0, 14) by unfold costL; rw [hf])
      clear hf
      go_wp2_with (first
        | (go_at_call 15; obtain ⟨F, hrs⟩ := H.out.rs; refine (rstage_none b F x l.length z.house z.now _ hrs hh.out Hf.out.1).mono ?_; rintro e w3 ⟨rfl, hg3⟩; have H3 := Lib.hid (And.intro (H.out.on hg3) hg3); clear hg3 hrs c0 f0 s0; obtain ⟨c0, f0, s0⟩ := (HG.out.2.grew H3.out.1.grew).facts)
        | (go_at_call 11; obtain ⟨F, hrs⟩ := H3.out.1.rs; have hcc := rcost_any b F x l.length z.house z.n _ hrs hh.out; rw [hco.out] at hcc; refine hcc.mono ?_; rintro e w4 ⟨rfl, hg4⟩; have H4 := Lib.hid (H3.out.1.on hg4); clear hg4 hrs c0 f0 s0 hcc; obtain ⟨c0, f0, s0⟩ := (HG.out.2.grew H4.out.grew).facts)
        | (go_at_call 16; refine (xfind_any z.house x A1 c1 _ H4.out.sl (by omega)).mono ?_; rintro e w5 ⟨rfl, rfl⟩; rw [Hf.out.2])
        | (go_at_call 13; obtain ⟨F, hrs⟩ := H4.out.rs; refine (rget_none b F x l.length z.house _ hrs hh.out Hf.out.1).mono ?_; rintro e w6 ⟨rfl, hg6⟩; have H6 := Lib.hid (H4.out.on hg6); clear hg6 hrs)
        | (go_at_call 8; refine (rawake_any _).mono ?_; rintro e w7 ⟨rfl, hg7⟩; have H7 := Lib.hid hg7; clear hg7))
      go_ret
      exact ⟨rfl, Grew.trans HG.out.1 (Grew.trans (Chg.alloc H6.out.grew _) H7.out)⟩

set_option maxRecDepth 100000 in
set_option maxHeartbeats 3200000 in
theorem stages_low (l : List Rop) (z : Rop) (A : Option Addr) (c : Nat) (w : World) (h : l.length ≤ 60) (hs : Sl w 4 A l.length (l.flatMap Rop.vals)) (hok : ∀ r ∈ l, r.ok) (hz : z.ok) (r : Rw) (hf : fnd (l.foldl stepL []) z.house = some r) (hp : z.n < 1) :
    Calls Try.prog 4 #[.slice A l.length c, (.agg #[.int .i64 z.kind, .int .i64 z.house, .int .i64 z.n, .int .i64 z.now])] w fun e w' => e = .returned (.bool true) ∧ Grew w w' := by
  obtain ⟨W0, hW0⟩ : ∃ W0, w.alloc (.cells #[.int .i64 z.kind, .int .i64 z.house, .int .i64 z.n, .int .i64 z.now] 36) = W0 := ⟨_, rfl⟩
  have hg0 : Grew w W0 := hW0 ▸ (Chg.refl _ _).alloc _
  have hb0 : Blk W0 w.heap.size 36 #[.int .i64 z.kind, .int .i64 z.house, .int .i64 z.n, .int .i64 z.now] := hW0 ▸ Blk.new w _ _
  have HW := Lib.hid hW0
  have HG := Lib.hid (And.intro hg0 hb0)
  have HS := Lib.hid (And.intro (hs.grew hg0) hok)
  have HF := Lib.hid hf
  have z1 := hz.2.2.1
  have z2 := hz.2.2.2.1
  have z3 := hz.2.2.2.2.2.2.1
  have z4 := hz.2.2.2.2.2.2.2
  clear hW0 hg0 hb0 hs hok hz hf
  go_enter Try.func4, Try.ntmps4
  go_wp2_with (first
    | (rw [HW.out])
    | (go_at_call 9; refine (rnew_any _).mono ?_; rintro e w1 ⟨rfl, ht1⟩; have HM1 := Lib.hid (RM.made (Chg.refl _ _) ht1); clear ht1))
  obtain ⟨b, hb⟩ : ∃ b, W0.heap.size + 4 = b := ⟨_, rfl⟩
  rw [hb] at HM1 ⊢
  clear hb
  go_loopw [6, 32] (fun v i wr => ∃ (k : Nat) (x : List Rw) (A : Option Addr) (c : Nat), k ≤ l.length ∧ i = .int .i64 k ∧ v = .slice A x.length c ∧ x = (l.take k).foldl stepL [] ∧ SR W0 wr b x x k A) (fun _ i _ => l.length - (intOf i).toNat)
  case atStart => exact ⟨0, [], none, 0, by omega, rfl, rfl, rfl, SR.made HM1.out⟩
  case round =>
    obtain ⟨k, x, A1, c1, hk, rfl, rfl, hx, hsr⟩ := hrel
    have HX := Lib.hid (And.intro hx hsr)
    clear hx hsr
    by_cases hlt : k < l.length
    · obtain ⟨o, ho⟩ : ∃ o, l[k]? = some o := ⟨_, List.getElem?_eq_getElem hlt⟩
      obtain ⟨g, off, rfl, hb, d0, d1, d2, d3⟩ := (HS.out.1.grew HX.out.2.grew).atRop ho
      have HO := Lib.hid (And.intro ho (HS.out.2 o (List.mem_of_getElem? ho)))
      clear ho
      go_wp2_with (go_at_call 14; refine (rstep_any o W0 _ b k x A1 c1 (HX.out.2.on ((Chg.refl _ _).alloc _)) (by omega) HO.out.2).mono ?_; rintro e w2 ⟨A2, c2, rfl, hs2⟩; have H2 := Lib.hid hs2; clear hs2)
      exact ⟨⟨k + 1, stepL x o, A2, c2, by omega, by simp, rfl, by rw [fold_take stepL l k o [] HO.out.1, ← HX.out.1], H2.out⟩, by simp [intOf]; omega⟩
    · obtain rfl : k = l.length := by omega
      have hxe := HX.out.1
      rw [List.take_length] at hxe
      have hf := HF.out
      rw [← hxe] at hf
      have hsr := HX.out.2
      obtain ⟨c0, f0, s0⟩ := (HG.out.2.grew hsr.grew).facts
      have hlen := hsr.len
      clear HX hxe HF
      have H := Lib.hid hsr
      clear hsr
      have hh := Lib.hid (wf64 z1 z2)
      obtain ⟨j, hj, hat⟩ := fnd_idx_some hf
      obtain ⟨gg, oo, rfl, -⟩ := H.out.sl.atRw hat
      have hfr := H.out.fits r (fnd_some hf).1
      have r1 := hfr.2.2.2.2.1
      have r2 := hfr.2.2.2.2.2
      have r3 := hfr.2.2.1
      have r4 := hfr.2.2.2.1
      have hjl : j < x.length := (List.getElem?_eq_some_iff.1 hat).1
      have t0 : (0 : Int) ≤ (j : Int) := by omega
      have t1 : decide ((j : Int) < 0) = false := decide_eq_false (by omega)
      have t2 : (j : Int) < (x.length : Int) := by omega
      have Hf := Lib.hid (And.intro hf (And.intro hj hat))
      have hco := Lib.hid (show costL x z.house z.n = (0, 11) by unfold costL; rw [hf]; exact if_pos (by omega))
      clear hf hj hat hfr
      go_wp2_with (first
        | (go_at_call 15; obtain ⟨F, hrs⟩ := H.out.rs; refine (rstage_some b F x l.length z.house z.now r _ hrs hh.out Hf.out.1).mono ?_; rintro e w3 ⟨rfl, hg3⟩; have H3 := Lib.hid (And.intro (H.out.on hg3) hg3); clear hg3 hrs c0 f0 s0; obtain ⟨c0, f0, s0⟩ := (HG.out.2.grew H3.out.1.grew).facts)
        | (go_at_call 11; obtain ⟨F, hrs⟩ := H3.out.1.rs; have hcc := rcost_any b F x l.length z.house z.n _ hrs hh.out; rw [hco.out] at hcc; refine hcc.mono ?_; rintro e w4 ⟨rfl, hg4⟩; have H4 := Lib.hid (H3.out.1.on hg4); clear hg4 hrs c0 f0 s0 hcc; obtain ⟨c0, f0, s0⟩ := (HG.out.2.grew H4.out.grew).facts; obtain ⟨gg', oo', hA, hb5, e0, e1, e2⟩ := H4.out.sl.atRw Hf.out.2.2; cases hA)
        | (go_at_call 16; refine (xfind_any z.house x _ c1 _ H4.out.sl (by omega)).mono ?_; rintro e w5 ⟨rfl, rfl⟩; rw [Hf.out.2.1]))
      trace "at quiet"
      go_quiet ((go_at_call 17; exact Calls.quiet_of_same ((xstage_any r.due z.now _ r1 r2 z3 z4).mono fun _ _ h => ⟨h.1, h.2.symm⟩)))
      trace "behind quiet"
      go_wp2_with (go_at_call 8; refine (rawake_any _).mono ?_; rintro e w7 ⟨rfl, hg7⟩; have H7 := Lib.hid hg7; clear hg7)
      go_ret
      exact ⟨rfl, Grew.trans HG.out.1 (Grew.trans (H4.out.grew.drewN _) H7.out)⟩

set_option maxRecDepth 100000 in
set_option maxHeartbeats 3200000 in
theorem stages_high (l : List Rop) (z : Rop) (A : Option Addr) (c : Nat) (w : World) (h : l.length ≤ 60) (hs : Sl w 4 A l.length (l.flatMap Rop.vals)) (hok : ∀ r ∈ l, r.ok) (hz : z.ok) (r : Rw) (hf : fnd (l.foldl stepL []) z.house = some r) (hp : 12 < z.n) :
    Calls Try.prog 4 #[.slice A l.length c, (.agg #[.int .i64 z.kind, .int .i64 z.house, .int .i64 z.n, .int .i64 z.now])] w fun e w' => e = .returned (.bool true) ∧ Grew w w' := by
  obtain ⟨W0, hW0⟩ : ∃ W0, w.alloc (.cells #[.int .i64 z.kind, .int .i64 z.house, .int .i64 z.n, .int .i64 z.now] 36) = W0 := ⟨_, rfl⟩
  have hg0 : Grew w W0 := hW0 ▸ (Chg.refl _ _).alloc _
  have hb0 : Blk W0 w.heap.size 36 #[.int .i64 z.kind, .int .i64 z.house, .int .i64 z.n, .int .i64 z.now] := hW0 ▸ Blk.new w _ _
  have HW := Lib.hid hW0
  have HG := Lib.hid (And.intro hg0 hb0)
  have HS := Lib.hid (And.intro (hs.grew hg0) hok)
  have HF := Lib.hid hf
  have z1 := hz.2.2.1
  have z2 := hz.2.2.2.1
  have z3 := hz.2.2.2.2.2.2.1
  have z4 := hz.2.2.2.2.2.2.2
  clear hW0 hg0 hb0 hs hok hz hf
  go_enter Try.func4, Try.ntmps4
  go_wp2_with (first
    | (rw [HW.out])
    | (go_at_call 9; refine (rnew_any _).mono ?_; rintro e w1 ⟨rfl, ht1⟩; have HM1 := Lib.hid (RM.made (Chg.refl _ _) ht1); clear ht1))
  obtain ⟨b, hb⟩ : ∃ b, W0.heap.size + 4 = b := ⟨_, rfl⟩
  rw [hb] at HM1 ⊢
  clear hb
  go_loopw [6, 32] (fun v i wr => ∃ (k : Nat) (x : List Rw) (A : Option Addr) (c : Nat), k ≤ l.length ∧ i = .int .i64 k ∧ v = .slice A x.length c ∧ x = (l.take k).foldl stepL [] ∧ SR W0 wr b x x k A) (fun _ i _ => l.length - (intOf i).toNat)
  case atStart => exact ⟨0, [], none, 0, by omega, rfl, rfl, rfl, SR.made HM1.out⟩
  case round =>
    obtain ⟨k, x, A1, c1, hk, rfl, rfl, hx, hsr⟩ := hrel
    have HX := Lib.hid (And.intro hx hsr)
    clear hx hsr
    by_cases hlt : k < l.length
    · obtain ⟨o, ho⟩ : ∃ o, l[k]? = some o := ⟨_, List.getElem?_eq_getElem hlt⟩
      obtain ⟨g, off, rfl, hb, d0, d1, d2, d3⟩ := (HS.out.1.grew HX.out.2.grew).atRop ho
      have HO := Lib.hid (And.intro ho (HS.out.2 o (List.mem_of_getElem? ho)))
      clear ho
      go_wp2_with (go_at_call 14; refine (rstep_any o W0 _ b k x A1 c1 (HX.out.2.on ((Chg.refl _ _).alloc _)) (by omega) HO.out.2).mono ?_; rintro e w2 ⟨A2, c2, rfl, hs2⟩; have H2 := Lib.hid hs2; clear hs2)
      exact ⟨⟨k + 1, stepL x o, A2, c2, by omega, by simp, rfl, by rw [fold_take stepL l k o [] HO.out.1, ← HX.out.1], H2.out⟩, by simp [intOf]; omega⟩
    · obtain rfl : k = l.length := by omega
      have hxe := HX.out.1
      rw [List.take_length] at hxe
      have hf := HF.out
      rw [← hxe] at hf
      have hsr := HX.out.2
      obtain ⟨c0, f0, s0⟩ := (HG.out.2.grew hsr.grew).facts
      have hlen := hsr.len
      clear HX hxe HF
      have H := Lib.hid hsr
      clear hsr
      have hh := Lib.hid (wf64 z1 z2)
      obtain ⟨j, hj, hat⟩ := fnd_idx_some hf
      obtain ⟨gg, oo, rfl, -⟩ := H.out.sl.atRw hat
      have hfr := H.out.fits r (fnd_some hf).1
      have r1 := hfr.2.2.2.2.1
      have r2 := hfr.2.2.2.2.2
      have r3 := hfr.2.2.1
      have r4 := hfr.2.2.2.1
      have hjl : j < x.length := (List.getElem?_eq_some_iff.1 hat).1
      have t0 : (0 : Int) ≤ (j : Int) := by omega
      have t1 : decide ((j : Int) < 0) = false := decide_eq_false (by omega)
      have t2 : (j : Int) < (x.length : Int) := by omega
      have Hf := Lib.hid (And.intro hf (And.intro hj hat))
      have hco := Lib.hid (show costL x z.house z.n = (0, 11) by unfold costL; rw [hf]; exact if_pos (by omega))
      clear hf hj hat hfr
      go_wp2_with (first
        | (go_at_call 15; obtain ⟨F, hrs⟩ := H.out.rs; refine (rstage_some b F x l.length z.house z.now r _ hrs hh.out Hf.out.1).mono ?_; rintro e w3 ⟨rfl, hg3⟩; have H3 := Lib.hid (And.intro (H.out.on hg3) hg3); clear hg3 hrs c0 f0 s0; obtain ⟨c0, f0, s0⟩ := (HG.out.2.grew H3.out.1.grew).facts)
        | (go_at_call 11; obtain ⟨F, hrs⟩ := H3.out.1.rs; have hcc := rcost_any b F x l.length z.house z.n _ hrs hh.out; rw [hco.out] at hcc; refine hcc.mono ?_; rintro e w4 ⟨rfl, hg4⟩; have H4 := Lib.hid (H3.out.1.on hg4); clear hg4 hrs c0 f0 s0 hcc; obtain ⟨c0, f0, s0⟩ := (HG.out.2.grew H4.out.grew).facts; obtain ⟨gg', oo', hA, hb5, e0, e1, e2⟩ := H4.out.sl.atRw Hf.out.2.2; cases hA)
        | (go_at_call 16; refine (xfind_any z.house x _ c1 _ H4.out.sl (by omega)).mono ?_; rintro e w5 ⟨rfl, rfl⟩; rw [Hf.out.2.1]))
      trace "at quiet"
      go_quiet ((go_at_call 17; exact Calls.quiet_of_same ((xstage_any r.due z.now _ r1 r2 z3 z4).mono fun _ _ h => ⟨h.1, h.2.symm⟩)))
      trace "behind quiet"
      go_wp2_with (go_at_call 8; refine (rawake_any _).mono ?_; rintro e w7 ⟨rfl, hg7⟩; have H7 := Lib.hid hg7; clear hg7)
      go_ret
      exact ⟨rfl, Grew.trans HG.out.1 (Grew.trans (H4.out.grew.drewN _) H7.out)⟩

set_option maxRecDepth 100000 in
set_option maxHeartbeats 3200000 in
theorem stages_over (l : List Rop) (z : Rop) (A : Option Addr) (c : Nat) (w : World) (h : l.length ≤ 60) (hs : Sl w 4 A l.length (l.flatMap Rop.vals)) (hok : ∀ r ∈ l, r.ok) (hz : z.ok) (r : Rw) (hf : fnd (l.foldl stepL []) z.house = some r) (p1 : 1 ≤ z.n) (p2 : z.n ≤ 12) (ht : timesL r.rate z.n = -1) (hc : costL (l.foldl stepL []) z.house z.n = (0, 15)) :
    Calls Try.prog 4 #[.slice A l.length c, (.agg #[.int .i64 z.kind, .int .i64 z.house, .int .i64 z.n, .int .i64 z.now])] w fun e w' => e = .returned (.bool true) ∧ Grew w w' := by
  obtain ⟨W0, hW0⟩ : ∃ W0, w.alloc (.cells #[.int .i64 z.kind, .int .i64 z.house, .int .i64 z.n, .int .i64 z.now] 36) = W0 := ⟨_, rfl⟩
  have hg0 : Grew w W0 := hW0 ▸ (Chg.refl _ _).alloc _
  have hb0 : Blk W0 w.heap.size 36 #[.int .i64 z.kind, .int .i64 z.house, .int .i64 z.n, .int .i64 z.now] := hW0 ▸ Blk.new w _ _
  have HW := Lib.hid hW0
  have HG := Lib.hid (And.intro hg0 hb0)
  have HS := Lib.hid (And.intro (hs.grew hg0) hok)
  have HF := Lib.hid hf
  have HC := Lib.hid hc
  have z1 := hz.2.2.1
  have z2 := hz.2.2.2.1
  have z3 := hz.2.2.2.2.2.2.1
  have z4 := hz.2.2.2.2.2.2.2
  clear hW0 hg0 hb0 hs hok hz hf hc
  go_enter Try.func4, Try.ntmps4
  go_wp2_with (first
    | (rw [HW.out])
    | (go_at_call 9; refine (rnew_any _).mono ?_; rintro e w1 ⟨rfl, ht1⟩; have HM1 := Lib.hid (RM.made (Chg.refl _ _) ht1); clear ht1))
  obtain ⟨b, hb⟩ : ∃ b, W0.heap.size + 4 = b := ⟨_, rfl⟩
  rw [hb] at HM1 ⊢
  clear hb
  go_loopw [6, 32] (fun v i wr => ∃ (k : Nat) (x : List Rw) (A : Option Addr) (c : Nat), k ≤ l.length ∧ i = .int .i64 k ∧ v = .slice A x.length c ∧ x = (l.take k).foldl stepL [] ∧ SR W0 wr b x x k A) (fun _ i _ => l.length - (intOf i).toNat)
  case atStart => exact ⟨0, [], none, 0, by omega, rfl, rfl, rfl, SR.made HM1.out⟩
  case round =>
    obtain ⟨k, x, A1, c1, hk, rfl, rfl, hx, hsr⟩ := hrel
    have HX := Lib.hid (And.intro hx hsr)
    clear hx hsr
    by_cases hlt : k < l.length
    · obtain ⟨o, ho⟩ : ∃ o, l[k]? = some o := ⟨_, List.getElem?_eq_getElem hlt⟩
      obtain ⟨g, off, rfl, hb, d0, d1, d2, d3⟩ := (HS.out.1.grew HX.out.2.grew).atRop ho
      have HO := Lib.hid (And.intro ho (HS.out.2 o (List.mem_of_getElem? ho)))
      clear ho
      go_wp2_with (go_at_call 14; refine (rstep_any o W0 _ b k x A1 c1 (HX.out.2.on ((Chg.refl _ _).alloc _)) (by omega) HO.out.2).mono ?_; rintro e w2 ⟨A2, c2, rfl, hs2⟩; have H2 := Lib.hid hs2; clear hs2)
      exact ⟨⟨k + 1, stepL x o, A2, c2, by omega, by simp, rfl, by rw [fold_take stepL l k o [] HO.out.1, ← HX.out.1], H2.out⟩, by simp [intOf]; omega⟩
    · obtain rfl : k = l.length := by omega
      have hxe := HX.out.1
      rw [List.take_length] at hxe
      have hf := HF.out
      have hc := HC.out
      rw [← hxe] at hf hc
      have hsr := HX.out.2
      obtain ⟨c0, f0, s0⟩ := (HG.out.2.grew hsr.grew).facts
      have hlen := hsr.len
      clear HX hxe HF
      have H := Lib.hid hsr
      clear hsr
      have hh := Lib.hid (wf64 z1 z2)
      obtain ⟨j, hj, hat⟩ := fnd_idx_some hf
      obtain ⟨gg, oo, rfl, -⟩ := H.out.sl.atRw hat
      have hfr := H.out.fits r (fnd_some hf).1
      have r1 := hfr.2.2.2.2.1
      have r2 := hfr.2.2.2.2.2
      have r3 := hfr.2.2.1
      have r4 := hfr.2.2.2.1
      have hjl : j < x.length := (List.getElem?_eq_some_iff.1 hat).1
      have t0 : (0 : Int) ≤ (j : Int) := by omega
      have t1 : decide ((j : Int) < 0) = false := decide_eq_false (by omega)
      have t2 : (j : Int) < (x.length : Int) := by omega
      have Hf := Lib.hid (And.intro hf (And.intro hj hat))
      have hco := Lib.hid hc
      have ht0 : timesL r.rate z.n = -1 := ht
      have t5 : decide (timesL r.rate z.n < 0) = true := decide_eq_true (by omega)
      clear hf hj hat hfr hc ht ht0
      go_wp2_with (first
        | (go_at_call 15; obtain ⟨F, hrs⟩ := H.out.rs; refine (rstage_some b F x l.length z.house z.now r _ hrs hh.out Hf.out.1).mono ?_; rintro e w3 ⟨rfl, hg3⟩; have H3 := Lib.hid (And.intro (H.out.on hg3) hg3); clear hg3 hrs c0 f0 s0; obtain ⟨c0, f0, s0⟩ := (HG.out.2.grew H3.out.1.grew).facts)
        | (go_at_call 11; obtain ⟨F, hrs⟩ := H3.out.1.rs; have hcc := rcost_any b F x l.length z.house z.n _ hrs hh.out; rw [hco.out] at hcc; refine hcc.mono ?_; rintro e w4 ⟨rfl, hg4⟩; have H4 := Lib.hid (H3.out.1.on hg4); clear hg4 hrs c0 f0 s0 hcc; obtain ⟨c0, f0, s0⟩ := (HG.out.2.grew H4.out.grew).facts; obtain ⟨gg', oo', hA, hb5, e0, e1, e2⟩ := H4.out.sl.atRw Hf.out.2.2; cases hA)
        | (go_at_call 16; refine (xfind_any z.house x _ c1 _ H4.out.sl (by omega)).mono ?_; rintro e w5 ⟨rfl, rfl⟩; rw [Hf.out.2.1]))
      trace "at quiet"
      go_quiet ((go_at_call 17; exact Calls.quiet_of_same ((xstage_any r.due z.now _ r1 r2 z3 z4).mono fun _ _ h => ⟨h.1, h.2.symm⟩)))
      trace "behind quiet"
      obtain ⟨W5, q5, g5⟩ : ∃ W5, w4.drewN nq = W5 ∧ Grew w4 W5 := ⟨_, rfl, (Chg.refl _ _).drewN _⟩
      rw [q5]
      have H5 := Lib.hid (H4.out.on g5)
      clear g5 q5 c0 f0 s0 e0 e1 e2
      obtain ⟨c0, f0, s0⟩ := (HG.out.2.grew H5.out.grew).facts
      obtain ⟨gg', oo', hA, hb5, e0, e1, e2⟩ := H5.out.sl.atRw Hf.out.2.2
      cases hA
      go_wp2_with fail
      go_quiet ((go_at_call 18; exact Calls.quiet_of_same ((xtimes_any r.rate z.n _ r3 r4 p1 p2).mono fun _ _ h => ⟨h.1, h.2.symm⟩)))
      go_wp2_with (go_at_call 8; refine (rawake_any _).mono ?_; rintro e w7 ⟨rfl, hg7⟩; have H7 := Lib.hid hg7; clear hg7)
      go_ret
      exact ⟨rfl, Grew.trans HG.out.1 (Grew.trans (H5.out.grew.drewN _) H7.out)⟩

set_option maxRecDepth 100000 in
set_option maxHeartbeats 3200000 in
theorem stages_ok (l : List Rop) (z : Rop) (A : Option Addr) (c : Nat) (w : World) (h : l.length ≤ 60) (hs : Sl w 4 A l.length (l.flatMap Rop.vals)) (hok : ∀ r ∈ l, r.ok) (hz : z.ok) (r : Rw) (hf : fnd (l.foldl stepL []) z.house = some r) (p1 : 1 ≤ z.n) (p2 : z.n ≤ 12) (ht : 0 ≤ timesL r.rate z.n) (hc : costL (l.foldl stepL []) z.house z.n = (timesL r.rate z.n, 0)) :
    Calls Try.prog 4 #[.slice A l.length c, (.agg #[.int .i64 z.kind, .int .i64 z.house, .int .i64 z.n, .int .i64 z.now])] w fun e w' => e = .returned (.bool true) ∧ Grew w w' := by
  obtain ⟨W0, hW0⟩ : ∃ W0, w.alloc (.cells #[.int .i64 z.kind, .int .i64 z.house, .int .i64 z.n, .int .i64 z.now] 36) = W0 := ⟨_, rfl⟩
  have hg0 : Grew w W0 := hW0 ▸ (Chg.refl _ _).alloc _
  have hb0 : Blk W0 w.heap.size 36 #[.int .i64 z.kind, .int .i64 z.house, .int .i64 z.n, .int .i64 z.now] := hW0 ▸ Blk.new w _ _
  have HW := Lib.hid hW0
  have HG := Lib.hid (And.intro hg0 hb0)
  have HS := Lib.hid (And.intro (hs.grew hg0) hok)
  have HF := Lib.hid hf
  have HC := Lib.hid hc
  have z1 := hz.2.2.1
  have z2 := hz.2.2.2.1
  have z3 := hz.2.2.2.2.2.2.1
  have z4 := hz.2.2.2.2.2.2.2
  clear hW0 hg0 hb0 hs hok hz hf hc
  go_enter Try.func4, Try.ntmps4
  go_wp2_with (first
    | (rw [HW.out])
    | (go_at_call 9; refine (rnew_any _).mono ?_; rintro e w1 ⟨rfl, ht1⟩; have HM1 := Lib.hid (RM.made (Chg.refl _ _) ht1); clear ht1))
  obtain ⟨b, hb⟩ : ∃ b, W0.heap.size + 4 = b := ⟨_, rfl⟩
  rw [hb] at HM1 ⊢
  clear hb
  go_loopw [6, 32] (fun v i wr => ∃ (k : Nat) (x : List Rw) (A : Option Addr) (c : Nat), k ≤ l.length ∧ i = .int .i64 k ∧ v = .slice A x.length c ∧ x = (l.take k).foldl stepL [] ∧ SR W0 wr b x x k A) (fun _ i _ => l.length - (intOf i).toNat)
  case atStart => exact ⟨0, [], none, 0, by omega, rfl, rfl, rfl, SR.made HM1.out⟩
  case round =>
    obtain ⟨k, x, A1, c1, hk, rfl, rfl, hx, hsr⟩ := hrel
    have HX := Lib.hid (And.intro hx hsr)
    clear hx hsr
    by_cases hlt : k < l.length
    · obtain ⟨o, ho⟩ : ∃ o, l[k]? = some o := ⟨_, List.getElem?_eq_getElem hlt⟩
      obtain ⟨g, off, rfl, hb, d0, d1, d2, d3⟩ := (HS.out.1.grew HX.out.2.grew).atRop ho
      have HO := Lib.hid (And.intro ho (HS.out.2 o (List.mem_of_getElem? ho)))
      clear ho
      go_wp2_with (go_at_call 14; refine (rstep_any o W0 _ b k x A1 c1 (HX.out.2.on ((Chg.refl _ _).alloc _)) (by omega) HO.out.2).mono ?_; rintro e w2 ⟨A2, c2, rfl, hs2⟩; have H2 := Lib.hid hs2; clear hs2)
      exact ⟨⟨k + 1, stepL x o, A2, c2, by omega, by simp, rfl, by rw [fold_take stepL l k o [] HO.out.1, ← HX.out.1], H2.out⟩, by simp [intOf]; omega⟩
    · obtain rfl : k = l.length := by omega
      have hxe := HX.out.1
      rw [List.take_length] at hxe
      have hf := HF.out
      have hc := HC.out
      rw [← hxe] at hf hc
      have hsr := HX.out.2
      obtain ⟨c0, f0, s0⟩ := (HG.out.2.grew hsr.grew).facts
      have hlen := hsr.len
      clear HX hxe HF
      have H := Lib.hid hsr
      clear hsr
      have hh := Lib.hid (wf64 z1 z2)
      obtain ⟨j, hj, hat⟩ := fnd_idx_some hf
      obtain ⟨gg, oo, rfl, -⟩ := H.out.sl.atRw hat
      have hfr := H.out.fits r (fnd_some hf).1
      have r1 := hfr.2.2.2.2.1
      have r2 := hfr.2.2.2.2.2
      have r3 := hfr.2.2.1
      have r4 := hfr.2.2.2.1
      have hjl : j < x.length := (List.getElem?_eq_some_iff.1 hat).1
      have t0 : (0 : Int) ≤ (j : Int) := by omega
      have t1 : decide ((j : Int) < 0) = false := decide_eq_false (by omega)
      have t2 : (j : Int) < (x.length : Int) := by omega
      have Hf := Lib.hid (And.intro hf (And.intro hj hat))
      have hco := Lib.hid hc
      have t5 : decide (timesL r.rate z.n < 0) = false := decide_eq_false (by omega)
      have t6 : (timesL r.rate z.n == timesL r.rate z.n) = true := by simp
      clear hf hj hat hfr hc ht
      go_wp2_with (first
        | (go_at_call 15; obtain ⟨F, hrs⟩ := H.out.rs; refine (rstage_some b F x l.length z.house z.now r _ hrs hh.out Hf.out.1).mono ?_; rintro e w3 ⟨rfl, hg3⟩; have H3 := Lib.hid (And.intro (H.out.on hg3) hg3); clear hg3 hrs c0 f0 s0; obtain ⟨c0, f0, s0⟩ := (HG.out.2.grew H3.out.1.grew).facts)
        | (go_at_call 11; obtain ⟨F, hrs⟩ := H3.out.1.rs; have hcc := rcost_any b F x l.length z.house z.n _ hrs hh.out; rw [hco.out] at hcc; refine hcc.mono ?_; rintro e w4 ⟨rfl, hg4⟩; have H4 := Lib.hid (H3.out.1.on hg4); clear hg4 hrs c0 f0 s0 hcc; obtain ⟨c0, f0, s0⟩ := (HG.out.2.grew H4.out.grew).facts; obtain ⟨gg', oo', hA, hb5, e0, e1, e2⟩ := H4.out.sl.atRw Hf.out.2.2; cases hA)
        | (go_at_call 16; refine (xfind_any z.house x _ c1 _ H4.out.sl (by omega)).mono ?_; rintro e w5 ⟨rfl, rfl⟩; rw [Hf.out.2.1]))
      trace "at quiet"
      go_quiet ((go_at_call 17; exact Calls.quiet_of_same ((xstage_any r.due z.now _ r1 r2 z3 z4).mono fun _ _ h => ⟨h.1, h.2.symm⟩)))
      trace "behind quiet"
      obtain ⟨W5, q5, g5⟩ : ∃ W5, w4.drewN nq = W5 ∧ Grew w4 W5 := ⟨_, rfl, (Chg.refl _ _).drewN _⟩
      rw [q5]
      have H5 := Lib.hid (H4.out.on g5)
      clear g5 q5 c0 f0 s0 e0 e1 e2
      obtain ⟨c0, f0, s0⟩ := (HG.out.2.grew H5.out.grew).facts
      obtain ⟨gg', oo', hA, hb5, e0, e1, e2⟩ := H5.out.sl.atRw Hf.out.2.2
      cases hA
      go_wp2_with fail
      go_quiet ((go_at_call 18; exact Calls.quiet_of_same ((xtimes_any r.rate z.n _ r3 r4 p1 p2).mono fun _ _ h => ⟨h.1, h.2.symm⟩)))
      go_wp2_with (go_at_call 8; refine (rawake_any _).mono ?_; rintro e w7 ⟨rfl, hg7⟩; have H7 := Lib.hid hg7; clear hg7)
      go_ret
      exact ⟨rfl, Grew.trans HG.out.1 (Grew.trans (H5.out.grew.drewN _) H7.out)⟩

theorem stages_in (l : List Rop) (z : Rop) (A : Option Addr) (c : Nat) (w : World) (h : l.length ≤ 60) (hs : Sl w 4 A l.length (l.flatMap Rop.vals)) (hok : ∀ r ∈ l, r.ok) (hz : z.ok) (hfit : ∀ r ∈ l.foldl stepL [], r.fit) :
    Calls Try.prog 4 #[.slice A l.length c, (.agg #[.int .i64 z.kind, .int .i64 z.house, .int .i64 z.n, .int .i64 z.now])] w fun e w' => e = .returned (.bool true) ∧ Grew w w' := by
  cases hf : fnd (l.foldl stepL []) z.house with
  | none => exact stages_none l z A c w h hs hok hz hf
  | some r =>
    by_cases h1 : z.n < 1
    · exact stages_low l z A c w h hs hok hz r hf h1
    by_cases h2 : 12 < z.n
    · exact stages_high l z A c w h hs hok hz r hf h2
    · rcases cost_times (p := z.n) hf (hfit r (fnd_some hf).1).2.2.1 (by omega) (by omega) with ⟨ht, hc⟩ | ⟨ht, hc⟩
      · exact stages_over l z A c w h hs hok hz r hf (by omega) (by omega) ht hc
      · exact stages_ok l z A c w h hs hok hz r hf (by omega) (by omega) ht hc

end Go.Proofs.Ytjpkpckgkhbfpaa
