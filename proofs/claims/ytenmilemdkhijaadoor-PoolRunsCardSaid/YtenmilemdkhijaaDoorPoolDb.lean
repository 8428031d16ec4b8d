/- PoolRuns. -/
import Derived.Test.YtenmilemdkhijaaDoorPoolDa
namespace Go.Proofs.YtenmilemdkhijaaDoor
open Go.RowKit
attribute [local go_sem] Oper.semAt_some

theorem Sl.boolCell {w : World} {g : Nat} {xs : List Bool} (h : Sl w 1 (some ⟨g, 0, none⟩) xs.length (xs.map Value.bool)) {k : Nat} (hk : k < xs.length) : w.cell? ⟨g, k, none⟩ = some (.bool (xs.getD k false)) := by
  obtain ⟨g', off, e, hb, d0⟩ := h.atBool hk
  injection e with e
  injection e with e1 e2
  subst e1
  subst e2
  simpa using d0

/-- Between two rounds of the law's range, and in one. -/
structure RnsJ (Wr W : World) (y : List Bool) (ba L : Nat) (i : Nat) (r : Loop) (st : LoopState) (pe : Option Code) : Prop where
  chg : Chg (fun j => j = ba ∨ j = L) Wr W
  at_ : Blk W ba 3 #[.int .i64 i]
  rc : Rec W L (Loop.at_ r st pe)
  len : i ≤ y.length
section
variable {Wr W W' : World} {y : List Bool} {ba L i : Nat} {r : Loop} {st st' : LoopState} {pe pe' : Option Code}
theorem RnsJ.kept (h : RnsJ Wr W y ba L i r st pe) (hk : Kept L W W') (hR : Rec W' L (Loop.at_ r st' pe')) : RnsJ Wr W' y ba L i r st' pe' :=
  ⟨Chg.trans h.chg hk.chg fun i _ e => .inr e, h.at_.kept hk, hR, h.len⟩
theorem RnsJ.put (h : RnsJ Wr W y ba L i r st pe) {k : Nat} (hk : k ≤ y.length) (hW : W.setCell ⟨ba, 0, none⟩ (.int .i64 (k : Int)) = W') : RnsJ Wr W' y ba L k r st pe := by
  have hc : Chg (fun j => j = ba) W W' := hW ▸ (Chg.refl (fun j => j = ba) W).setCell (p := ⟨ba, 0, none⟩) (fun _ => rfl) _
  refine ⟨Chg.trans h.chg hc fun i _ e => .inl e, ?_, h.rc.chg hc (h.rc.ne_blk h.at_), hk⟩
  subst hW
  have := h.at_.put 0 (.int .i64 (k : Int))
  simpa using this
theorem RnsJ.then {W2 : World} {k : Nat} {st2 : LoopState} {pe2 : Option Code} (h : RnsJ Wr W y ba L i r st pe) (h2 : RnsJ W W2 y ba L k r st2 pe2) : RnsJ Wr W2 y ba L k r st2 pe2 :=
  ⟨Chg.trans h.chg h2.chg fun _ _ e => e, h2.at_, h2.rc, h2.len⟩
theorem RnsJ.far (h : RnsJ Wr W y ba L i r st pe) (h1 : ba < Wr.heap.size) (h2 : L < Wr.heap.size) (hc : Chg (fun k => Wr.heap.size ≤ k) W W') : RnsJ Wr W' y ba L i r st pe :=
  ⟨Chg.trans h.chg hc fun i hi e => by omega, h.at_.chg hc (by omega), h.rc.chg hc (by omega), h.len⟩
end

theorem runs_out (n : Int) (l : List Pop) (A : Option Addr) (c : Nat) (w : World) (hT : TabAt 0 tab w) (hl : (l.length : Int) ≤ 9223372036854775807) (h : n < 0 ∨ 300 < n ∨ 200 < l.length) :
    Calls Tryd.prog 6 #[.int .i64 n, .slice A l.length c] w fun e w' => e = .returned (.bool true) ∧ Grew w w' := by
  have HT := Lib.hid hT
  clear hT
  obtain ⟨W3, hW3⟩ : ∃ W3, (w.alloc (.cells #[.int .i64 n] 3)).alloc (.cells #[.bool false] 4) = W3 := ⟨_, rfl⟩
  have HG3 := Lib.hid (show Grew w W3 from hW3 ▸ (((Chg.refl _ _).alloc _).alloc _))
  have BN := Lib.hid (show Blk W3 w.heap.size 3 #[.int .i64 n] from hW3 ▸ (Blk.new _ _ _).alloc _)
  have BR := Lib.hid (show Blk W3 (w.heap.size + 1) 4 #[.bool false] from hW3 ▸ (by have := Blk.new (w.alloc (.cells #[.int .i64 n] 3)) 4 #[.bool false]; simpa using this))
  have HW := Lib.hid hW3
  obtain ⟨b0, bf0, bs0⟩ := BN.out.facts
  have b9 : ((w.alloc (.cells #[.int .i64 n] 3)).alloc (.cells #[.bool false] 4)).cell? ⟨w.heap.size, 0, none⟩ = some (.int .i64 n) := by rw [hW3]; exact BN.out.cell 0
  clear hW3
  by_cases h1 : n < 0
  · clear h
    (refine calls_of_marks Tryd.func6 rfl ?_; simp only [Tryd.ntmps6, List.size_toArray, List.length_cons, List.length_nil, Nat.reduceAdd, Nat.reduceSub, Array.replicate_succ, Array.replicate_zero, List.push_toArray, List.append_toArray, List.nil_append, List.cons_append])
    go_wp2_with (first
      | (rw [HW.out])
      | (go_at_call 8; refine (pawake_any W3 (tab_chg HT.out HG3.out id)).mono ?_; rintro e w2 ⟨rfl, hg2⟩; have HG4 := Lib.hid hg2; clear hg2; obtain ⟨c2, f2, s2⟩ := (BR.out.grew HG4.out).facts))
    refine postM_ret0 (v := .bool true) (by simp [results, Tryd.results6, go_sem, c2, s2]) rfl ⟨rfl, ?_⟩
    have := HG3.out.size
    (repeat (first | (with_reducible exact (Grew.trans HG3.out HG4.out)) | (with_reducible refine Chg.alloc ?_ _) | (with_reducible refine Chg.drew ?_) | (with_reducible refine Chg.drewN ?_ _) | ((with_reducible refine Chg.setCell ?_ ?hp _); (case hp => (intro h; exfalso; simp at h; try omega)))))
  by_cases h2 : 300 < n
  · clear h
    (refine calls_of_marks Tryd.func6 rfl ?_; simp only [Tryd.ntmps6, List.size_toArray, List.length_cons, List.length_nil, Nat.reduceAdd, Nat.reduceSub, Array.replicate_succ, Array.replicate_zero, List.push_toArray, List.append_toArray, List.nil_append, List.cons_append])
    go_wp2_with (first
      | (rw [HW.out])
      | (go_at_call 8; refine (pawake_any W3 (tab_chg HT.out HG3.out id)).mono ?_; rintro e w2 ⟨rfl, hg2⟩; have HG4 := Lib.hid hg2; clear hg2; obtain ⟨c2, f2, s2⟩ := (BR.out.grew HG4.out).facts))
    refine postM_ret0 (v := .bool true) (by simp [results, Tryd.results6, go_sem, c2, s2]) rfl ⟨rfl, ?_⟩
    have := HG3.out.size
    (repeat (first | (with_reducible exact (Grew.trans HG3.out HG4.out)) | (with_reducible refine Chg.alloc ?_ _) | (with_reducible refine Chg.drew ?_) | (with_reducible refine Chg.drewN ?_ _) | ((with_reducible refine Chg.setCell ?_ ?hp _); (case hp => (intro h; exfalso; simp at h; try omega)))))
  · have h3 : 200 < l.length := by omega
    clear h
    (refine calls_of_marks Tryd.func6 rfl ?_; simp only [Tryd.ntmps6, List.size_toArray, List.length_cons, List.length_nil, Nat.reduceAdd, Nat.reduceSub, Array.replicate_succ, Array.replicate_zero, List.push_toArray, List.append_toArray, List.nil_append, List.cons_append])
    go_wp2_with (first
      | (rw [HW.out])
      | (go_at_call 8; refine (pawake_any W3 (tab_chg HT.out HG3.out id)).mono ?_; rintro e w2 ⟨rfl, hg2⟩; have HG4 := Lib.hid hg2; clear hg2; obtain ⟨c2, f2, s2⟩ := (BR.out.grew HG4.out).facts))
    refine postM_ret0 (v := .bool true) (by simp [results, Tryd.results6, go_sem, c2, s2]) rfl ⟨rfl, ?_⟩
    have := HG3.out.size
    (repeat (first | (with_reducible exact (Grew.trans HG3.out HG4.out)) | (with_reducible refine Chg.alloc ?_ _) | (with_reducible refine Chg.drew ?_) | (with_reducible refine Chg.drewN ?_ _) | ((with_reducible refine Chg.setCell ?_ ?hp _); (case hp => (intro h; exfalso; simp at h; try omega)))))

set_option maxRecDepth 100000 in
set_option maxHeartbeats 800000 in
theorem runs_in (n : Nat) (l : List Pop) (A0 : Option Addr) (c0' : Nat) (w : World) (hT : TabAt 0 tab w) (hs : Sl w 2 A0 l.length (l.flatMap Pop.vals)) (hn : n ≤ 300) (hl : l.length ≤ 200) :
    Calls Tryd.prog 6 #[.int .i64 n, .slice A0 l.length c0'] w fun e w' => e = .returned (.bool true) ∧ Grew w w' := by
  obtain ⟨W3, hW3⟩ : ∃ W3, (w.alloc (.cells #[.int .i64 n] 3)).alloc (.cells #[.bool false] 4) = W3 := ⟨_, rfl⟩
  have HG3 := Lib.hid (show Grew w W3 from hW3 ▸ ((Chg.refl _ _).alloc _).alloc _)
  have BN := Lib.hid (show Blk W3 w.heap.size 3 #[.int .i64 n] from hW3 ▸ (Blk.new _ _ _).alloc _)
  have BR := Lib.hid (show Blk W3 (w.heap.size + 1) 4 #[.bool false] from hW3 ▸ (by have := Blk.new (w.alloc (.cells #[.int .i64 n] 3)) 4 #[.bool false]; simpa using this))
  have Hs := Lib.hid (And.intro (hs.grew HG3.out) (tab_chg hT HG3.out id))
  have HW := Lib.hid hW3
  obtain ⟨b0, bf0, bs0⟩ := BN.out.facts
  have b9 : ((w.alloc (.cells #[.int .i64 n] 3)).alloc (.cells #[.bool false] 4)).cell? ⟨w.heap.size, 0, none⟩ = some (.int .i64 n) := by rw [hW3]; exact BN.out.cell 0
  clear hs hW3 hT
  have t1 : (0 : Int) ≤ (n : Int) := by omega
  have t2 : (n : Int) ≤ 300 := by omega
  have t3 : (l.length : Int) ≤ 200 := by omega
  (refine calls_of_marks Tryd.func6 rfl ?_; simp only [Tryd.ntmps6, List.size_toArray, List.length_cons, List.length_nil, Nat.reduceAdd, Nat.reduceSub, Array.replicate_succ, Array.replicate_zero, List.push_toArray, List.append_toArray, List.nil_append, List.cons_append])
  go_wp2_with (first
    | (rw [HW.out])
    | (go_at_call 13; refine (played_any n l A0 c0' W3 Hs.out.2 hn hl Hs.out.1).mono ?_; rintro e w1 ⟨A, c, Ax, cx, rfl, hps, hyl⟩; obtain ⟨y, hy⟩ : ∃ y, l.foldl stpL (full n) = y := ⟨_, rfl⟩; rw [hy] at hps hyl; have HP := Lib.hid hps; have hY := Lib.hid hyl; clear hy hps hyl; obtain ⟨c0, f0, s0⟩ := ((BN.out.grew HP.out.p.grew).alloc (.cells #[.slice Ax n cx] 29)).facts))
  have hY' := hY.out
  subst hY'
  clear hY
  obtain ⟨W4, hW4⟩ : ∃ W4, w1.alloc (.cells #[.slice Ax y.length cx] 29) = W4 := ⟨_, rfl⟩
  have HP4 := Lib.hid (show PS W3 W4 W3.heap.size y y A c Ax cx from hW4 ▸ HP.out.on ((Chg.refl _ _).alloc _))
  have BX := Lib.hid (show Blk W4 w1.heap.size 29 #[.slice Ax y.length cx] from hW4 ▸ Blk.new _ _ _)
  clear b0 bf0 bs0 b9
  have HW4 := Lib.hid hW4
  clear hW4
  have hz1 : w1.heap.size < W4.heap.size := BX.out.lt
  have hz3 := BR.out.lt
  have hz4 := HP4.out.p.grew.size
  have hz0 := BN.out.lt
  have hlen : y.length ≤ 65536 := by omega
  obtain ⟨W6, hW6⟩ : ∃ W6, ((w1.alloc (.cells #[.slice Ax y.length cx] 29)).alloc (.cells #[.int .i64 0] 3)).alloc (.cells #[.pointer (some ⟨W3.heap.size, 0, none⟩)] 24) = W6 := ⟨_, rfl⟩
  go_wp2_with (go_at_call 20; refine (runs_any W3.heap.size _ W6 hW6).mono ?_; rintro e w5 ⟨rfl, rfl⟩)
  have hw4s : w1.heap.size + 1 = W4.heap.size := by rw [← HW4.out]; simp
  have HG6 := Lib.hid (show Grew W4 W6 from hW6 ▸ HW4.out ▸ ((Chg.refl _ _).alloc _).alloc _)
  have B6a := Lib.hid (show Blk W6 W4.heap.size 3 #[.int .i64 0] from hW6 ▸ HW4.out ▸ (Blk.new _ _ _).alloc _)
  have B6p := Lib.hid (show Blk W6 (w1.heap.size + 1 + 1) 24 #[.pointer (some ⟨W3.heap.size, 0, none⟩)] from hW6 ▸ (by have := Blk.new ((w1.alloc (.cells #[.slice Ax y.length cx] 29)).alloc (.cells #[.int .i64 0] 3)) 24 #[.pointer (some ⟨W3.heap.size, 0, none⟩)]; simpa using this))
  clear hW6 HW4 HP c0 f0 s0
  refine wp_range (gf := 34) (lb := #[.pointer (some ⟨w1.heap.size + 1 + 1, 0, none⟩)]) rfl (enters_of Tryd.func34 (by kernel_rfl) rfl) ?_
  intro r Wr D L hr hg1 hDl hLl hD hR
  rw [hw4s]
  have HR1 := Lib.hid hr
  have hDL := Ne.symm (hR.ne_dfr hD)
  have hz6 := B6p.out.lt
  have hz7 := hg1.size
  have hL2 := hR.lt
  have hD2 := hD.lt
  have hba := B6a.out.lt
  have HG1 := Lib.hid (Grew.trans HG6.out hg1)
  have HBp := Lib.hid (show Blk Wr (W4.heap.size + 1) 24 #[.pointer (some ⟨W3.heap.size, 0, none⟩)] from hw4s ▸ B6p.out.grew hg1)
  have HBX := Lib.hid (BX.out.grew HG1.out)
  have HBN := Lib.hid (((BN.out.grew HP4.out.p.grew).grew HG1.out))
  have HBR := Lib.hid (((BR.out.grew HP4.out.p.grew).grew HG1.out))
  have HPr := Lib.hid (HP4.out.on HG1.out)
  have HJ0 := Lib.hid (show RnsJ Wr Wr y W4.heap.size L 0 r .ready none from ⟨Chg.refl _ _, B6a.out.grew hg1, hR, Nat.zero_le _⟩)
  have HDf := Lib.hid hD
  have HPF := Lib.hid (fun j (h : PF W3.heap.size A j) => HP4.out.p.p.lt j h)
  have HXG := Lib.hid (show ∀ g, (Value.slice Ax y.length cx).ownBlock = some g → g < W4.heap.size from fun g hg => HP4.out.row.lt g hg |>.2)
  have Hhw := Lib.hid hw4s
  have hLn : L ≠ W4.heap.size := hR.ne_blk (B6a.out.grew hg1)
  clear hr hg1 hD hR
  refine (runs_iter (W4.heap.size + 1) W3.heap.size L y A c (fun i W => RnsJ Wr W y W4.heap.size L i r .ready none) Wr hlen
    (fun i W hJ => ⟨HBp.out.chg hJ.chg ?h1, HPr.out.p.p.chg hJ.chg ?h2, tab_chg HPr.out.p.tab hJ.chg ?h3⟩)
    (fun i W W' hJ hc => hJ.far (by omega) hL2 hc)
    (fun i j m W hJ hx hra => ?yld) HJ0.out).mono ?post
  case h1 => rintro (q | q) <;> omega
  case h2 => intro k hk; have := HPF.out k hk; rintro (q | q) <;> omega
  case h3 => have := tab_pos HP4.out.p.tab; rintro (q | q) <;> omega
  case yld =>
    have HX := Lib.hid hx
    have HJ := Lib.hid hJ
    have HRA := Lib.hid hra
    have hws := hJ.chg.size
    have hij := (nxt_some.1 hx).1
    have hjm := hra.le
    have hm0 := hra.pos
    obtain ⟨g, hg, -⟩ := own_block HP4.out.row (show 0 < y.length by omega)
    subst hg
    have hgl := HXG.out g rfl
    clear hx hJ hra
    obtain ⟨hr1, hr2, hr3, hr4⟩ := HR1.out
    refine yield_wide HJ.out.rc (by rw [hr2]; rfl) ?_
    rw [hr1, hr2, hr3, hr4]
    clear hr1 hr2 hr3 hr4
    intro K hK
    have HKK := Lib.hid hK
    clear hK
    gi_wp2
    refine HKK.out _ _ HJ.out.rc fun W5 Q hk3 hR2 hQ => ?_
    have HQ := Lib.hid hQ
    have HJ5 := Lib.hid (show RnsJ W W5 y W4.heap.size L i r .busy none from ⟨hk3.chg.mono fun _ _ e => .inr e, HJ.out.at_.kept hk3, hR2, HJ.out.len⟩)
    clear hk3 hR2 hQ
    have hout : ∀ j, j < W4.heap.size → ¬ (j = W4.heap.size ∨ j = L) := fun j hj e => by rcases e with e | e <;> omega
    have HW := Lib.hid (fun (X : World) k st pe (h : RnsJ W X y W4.heap.size L k r st pe) => show Blk X w1.heap.size 29 #[.slice (some ⟨g, 0, none⟩) y.length cx] ∧ Blk X w.heap.size 3 #[.int .i64 y.length] ∧ Sl X 1 (some ⟨g, 0, none⟩) y.length (y.map Value.bool) from
      ⟨(HBX.out.chg HJ.out.chg (hout _ (by omega))).chg h.chg (hout _ (by omega)), (HBN.out.chg HJ.out.chg (hout _ (by omega))).chg h.chg (hout _ (by omega)),
       Sl.of_own (own_chg (own_chg HPr.out.row HJ.out.chg fun q hq => hout q (HXG.out q hq)) h.chg fun q hq => hout q (HXG.out q hq))⟩)
    clear hout
    have t4 : (j : Int) ≤ 300 := by omega
    have t5 : (m : Int) ≤ 300 := by omega
    have t6 : (0 : Int) ≤ (j : Int) := by omega
    have t7 : (1 : Int) ≤ (m : Int) := by omega
    gi_wp2
    gi_loopg [35] (j - i) (fun n v wr => ∃ t : Nat, n = j - t ∧ i ≤ t ∧ t ≤ j ∧ RnsJ W wr y W4.heap.size L t r .busy none)
    case atStart => exact ⟨i, rfl, Nat.le_refl _, hij, HJ5.out⟩
    case round =>
      obtain ⟨t, rfl, ht1, ht2, hT⟩ := hrel
      have HT := Lib.hid hT
      clear hT
      obtain ⟨HX6, HN6, HS6⟩ := HW.out _ _ _ _ HT.out
      obtain ⟨c0, f0, s0⟩ := HT.out.at_.facts
      obtain ⟨c1, f1, s1⟩ := HX6.facts
      obtain ⟨c2, f2, s2⟩ := HN6.facts
      have HS := Lib.hid HS6
      clear HX6 HN6 HS6
      by_cases hlt : t < j
      · have d0 := HS.out.boolCell (show t < y.length by omega)
        rw [(nxt_some.1 HX.out).2.2.2 t (by have := HJ.out.len; omega) hlt] at d0
        gi_wp2
        obtain ⟨W8, hW8⟩ : ∃ W8, wr.setCell ⟨W4.heap.size, 0, none⟩ (.int .i64 ((t : Int) + 1)) = W8 := ⟨_, rfl⟩
        have hJ8 := HT.out.put (k := t + 1) (by omega) hW8
        rw [hW8]
        gi_roundg (j - (t + 1))
        case measure => omega
        case rel => exact ⟨t + 1, rfl, by omega, by omega, hJ8⟩
      · obtain rfl : j = t := by omega
        gi_wp2
        clear c0 f0 s0 c1 f1 s1 c2 f2 s2 HS
        obtain ⟨wo, rfl⟩ : ∃ wo : World, wo = wr := ⟨_, rfl⟩
        gi_loopw [45] (fun v wq => ∃ k t : Nat, k ≤ m ∧ t = j + k ∧ v = .int .i64 k ∧ RnsJ W wq y W4.heap.size L t r .busy none) (fun v _ => m - (intOf v).toNat)
        case atStart => exact ⟨0, j, by omega, by omega, rfl, HT.out⟩
        case round =>
          obtain ⟨k, t, hk, ht, rfl, hT2⟩ := hrel
          have HT2 := Lib.hid hT2
          have Ht := Lib.hid ht
          have ht1 : t ≤ 600 := by omega
          have htk : j + k ≤ t ∧ t ≤ j + k := by omega
          clear hT2 ht
          obtain ⟨HX6, HN6, HS6⟩ := HW.out _ _ _ _ HT2.out
          obtain ⟨c0, f0, s0⟩ := HT2.out.at_.facts
          obtain ⟨c1, f1, s1⟩ := HX6.facts
          obtain ⟨c2, f2, s2⟩ := HN6.facts
          have HS := Lib.hid HS6
          clear HX6 HN6 HS6
          by_cases hlt : k < m
          · have d0 := HS.out.boolCell (show t < y.length by omega)
            rw [HRA.out.all t (by omega) (by omega)] at d0
            have u1 : ((t : Int) != (j : Int) + (k : Int)) = false := by simp; omega
            have u2 : decide ((y.length : Int) ≤ (t : Int)) = false := decide_eq_false (by omega)
            have u3 : (t : Int) < (y.length : Int) := by omega
            gi_wp2
            obtain ⟨W8, hW8⟩ : ∃ W8, wr.setCell ⟨W4.heap.size, 0, none⟩ (.int .i64 ((t : Int) + 1)) = W8 := ⟨_, rfl⟩
            have hJ8 := HT2.out.put (k := t + 1) (by omega) hW8
            rw [hW8]
            exact ⟨⟨k + 1, t + 1, by omega, by have := Ht.out; omega, by simp, hJ8⟩, by simp [intOf]; omega⟩
          · obtain rfl : k = m := by omega
            have u1 : decide ((k : Int) < 1) = false := decide_eq_false (by omega)
            by_cases hty : t < y.length
            · have d0 := HS.out.boolCell hty
              have hst := HRA.out.stop
              rw [show j + k = t by omega] at hst
              rw [hst] at d0
              have u3 : (t : Int) < (y.length : Int) := by omega
              clear hst
              gi_wp2
              exact HQ.out _ _ _ ⟨HT2.out.rc, fun w' hk' hR' => ⟨rfl, by rw [← Ht.out]; exact HJ.out.then (HT2.out.kept hk' hR'), (HT2.out.kept hk' hR').chg.mono fun _ _ e => by rcases e with e | e <;> omega⟩⟩
            · have u2 : decide ((t : Int) < (y.length : Int)) = false := decide_eq_false (by omega)
              gi_wp2
              exact HQ.out _ _ _ ⟨HT2.out.rc, fun w' hk' hR' => ⟨rfl, by rw [← Ht.out]; exact HJ.out.then (HT2.out.kept hk' hR'), (HT2.out.kept hk' hR').chg.mono fun _ _ e => by rcases e with e | e <;> omega⟩⟩
  case post =>
    rintro e w3 ⟨hv, i, hJ, hno⟩
    refine ⟨hv, ?_⟩
    refine .inl ⟨hJ.rc, fun w4 hk4 => ?_⟩
    have HB4 := Lib.hid (hJ.at_.kept hk4)
    have HC4 := Lib.hid (Chg.trans hJ.chg hk4.chg fun i _ e => .inr e)
    have HNo := Lib.hid hno
    have hil := hJ.len
    clear hJ hk4 hno
    have HT4 := Lib.hid (tab_chg HPr.out.p.tab HC4.out (by have := tab_pos HP4.out.p.tab; rintro (q | q) <;> omega))
    have HBX4 := Lib.hid (HBX.out.chg HC4.out (by rintro (e | e) <;> omega))
    have HBR4 := Lib.hid (HBR.out.chg HC4.out (by rintro (e | e) <;> omega))
    have HD4 := Lib.hid (HDf.out.chg HC4.out (by rintro (e | e) <;> omega))
    have HS4 := Lib.hid (Sl.of_own (own_chg HPr.out.row HC4.out fun q hq => by have := HXG.out q hq; rintro (e | e) <;> omega))
    have hcw4 := HC4.out.size
    have HGw := Lib.hid (show Grew w w4 from by
      refine Chg.mono (Chg.trans (F := fun j => w.heap.size ≤ j) (Grew.trans (Grew.trans HG3.out HP4.out.p.grew) HG1.out).chg HC4.out fun i hi e => ?_) fun i hi e => absurd e (by omega)
      rcases e with e | e <;> omega)
    obtain ⟨c0, f0, s0⟩ := HB4.out.facts
    obtain ⟨c1, f1, s1⟩ := HBX4.out.facts
    obtain ⟨c4, f4, s4⟩ := HBR4.out.facts
    go_wp2_with (first
      | (go_at_call 15; refine (xnext_is i none (-1) y Ax cx _ HS4.out hlen (by rw [Int.toNat_natCast]; exact HNo.out) rfl).mono ?_; rintro e w6 ⟨rfl, rfl⟩)
      | (go_at_call 8; refine (pawake_any _ HT4.out).mono ?_; rintro e w9 ⟨rfl, hg9⟩; have HG9 := Lib.hid hg9; clear hg9 c4 f4 s4; obtain ⟨c4, f4, s4⟩ := (HBR4.out.grew HG9.out).facts))
    clear c4 f4 s4
    refine postM_ret1 (v := .bool true) (D := D) ?_ rfl fun w5 hk5 => ?_
    · refine (HD4.out.grew HG9.out).chg (F := fun j => j = w.heap.size + 1) ?_ ?_
      · (repeat (first | (with_reducible exact (Chg.refl _ _)) | (with_reducible refine Chg.alloc ?_ _) | (with_reducible refine Chg.drew ?_) | (with_reducible refine Chg.drewN ?_ _) | ((with_reducible refine Chg.setCell ?_ ?hp _); (case hp => (intro _; rfl)))))
      · show ¬ D = w.heap.size + 1
        omega
    · refine ⟨?_, rfl, ?_⟩
      · obtain ⟨c2, f2, s2⟩ : (∀ i, w5.cell? ⟨w.heap.size + 1, i, none⟩ = #[Value.bool true][i]?) ∧ (∀ i, w5.frozen? ⟨w.heap.size + 1, i, none⟩ = false) ∧ w.heap.size + 1 < w5.heap.size := (Blk.kept (t := 4) (by (repeat (first | (with_reducible exact (HBR4.out.grew HG9.out)) | (with_reducible apply Blk.drew) | (with_reducible apply Blk.drewN) | (with_reducible apply Blk.alloc) | (with_reducible apply Blk.putTo) | (with_reducible apply Blk.far))); (all_goals first | rfl | (simp; done) | (simp; omega))) hk5).facts
        simp [results, Tryd.results6, go_sem, c2, s2]
      · refine Chg.kept ?_ hk5 (by omega)
        (repeat (first | (with_reducible exact (Grew.trans HGw.out HG9.out)) | (with_reducible refine Chg.alloc ?_ _) | (with_reducible refine Chg.drew ?_) | (with_reducible refine Chg.drewN ?_ _) | ((with_reducible refine Chg.setCell ?_ ?hp _); (case hp => (intro h; exfalso; simp at h; try omega)))))

end Go.Proofs.YtenmilemdkhijaaDoor
