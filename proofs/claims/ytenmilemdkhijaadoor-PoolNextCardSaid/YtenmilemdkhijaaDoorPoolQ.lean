/- PoolNext: the next free number, and all of them, in order. -/
import Derived.Test.YtenmilemdkhijaaDoorPoolP
import Derived.Deep.RegionWith
namespace Go.Proofs.YtenmilemdkhijaaDoor
open Go.RowKit
attribute [local go_sem] Oper.semAt_some

set_option maxRecDepth 100000 in
set_option maxHeartbeats 12800000 in
theorem next_in (n : Nat) (l : List Pop) (f : Int) (A0 : Option Addr) (c0' : Nat) (w : World) (hT : TabAt 0 tab w) (hs : Sl w 2 A0 l.length (l.flatMap Pop.vals)) (hn : n ≤ 300) (hl : l.length ≤ 200) (hf : f ≤ 9223372036854775807) :
    Calls Tryd.prog 4 #[.int .i64 n, .slice A0 l.length c0', .int .i64 f] w fun e w' => e = .returned (.bool true) ∧ Grew w w' := by
  obtain ⟨W3, hW3⟩ : ∃ W3, (w.alloc (.cells #[.int .i64 f] 3)).alloc (.cells #[.bool false] 4) = W3 := ⟨_, rfl⟩
  have HG3 := Lib.hid (show Grew w W3 from hW3 ▸ ((Chg.refl _ _).alloc _).alloc _)
  have BN := Lib.hid (show Blk W3 w.heap.size 3 #[.int .i64 f] from hW3 ▸ (Blk.new _ _ _).alloc _)
  have BR := Lib.hid (show Blk W3 (w.heap.size + 1) 4 #[.bool false] from hW3 ▸ (by have := Blk.new (w.alloc (.cells #[.int .i64 f] 3)) 4 #[.bool false]; simpa using this))
  have Hs := Lib.hid (And.intro (hs.grew HG3.out) (tab_chg hT HG3.out id))
  have HW := Lib.hid hW3
  clear hs hW3 hT
  have t1 : (0 : Int) ≤ (n : Int) := by omega
  have t2 : (n : Int) ≤ 300 := by omega
  have t3 : (l.length : Int) ≤ 200 := by omega
  (refine calls_of_marks Tryd.func4 rfl ?_; simp only [Tryd.ntmps4, List.size_toArray, List.length_cons, List.length_nil, Nat.reduceAdd, Nat.reduceSub, Array.replicate_succ, Array.replicate_zero, List.push_toArray, List.append_toArray, List.nil_append, List.cons_append])
  go_wp2_with (first
    | (rw [HW.out])
    | (go_at_call 13; refine (played_any n l A0 c0' W3 Hs.out.2 hn hl Hs.out.1).mono ?_; rintro e w1 ⟨A, c, Ax, cx, rfl, hps, hyl⟩; obtain ⟨y, hy⟩ : ∃ y, l.foldl stpL (full n) = y := ⟨_, rfl⟩; rw [hy] at hps hyl; have HP := Lib.hid hps; have hY := Lib.hid hyl; clear hy hps hyl; obtain ⟨c0, f0, s0⟩ := ((BN.out.grew HP.out.p.grew).alloc (.cells #[.slice Ax n cx] 29)).facts))
  have hY' := hY.out
  subst hY'
  clear hY
  obtain ⟨W4, hW4⟩ : ∃ W4, w1.alloc (.cells #[.slice Ax y.length cx] 29) = W4 := ⟨_, rfl⟩
  have HP4 := Lib.hid (show PS W3 W4 W3.heap.size y y A c Ax cx from hW4 ▸ HP.out.on ((Chg.refl _ _).alloc _))
  have BX := Lib.hid (show Blk W4 w1.heap.size 29 #[.slice Ax y.length cx] from hW4 ▸ Blk.new _ _ _)
  have hz1 : w1.heap.size < W4.heap.size := BX.out.lt
  have hz3 := BR.out.lt
  have hz4 := HP.out.p.grew.size
  have hlen : y.length ≤ 65536 := by omega
  rw [hW4] at c0 f0 s0 ⊢
  clear hW4 HP
  rcases hv : nxt y f.toNat with _ | j
  all_goals
    have HV := Lib.hid hv
    clear hv
    refine (pnext_is W3.heap.size f _ _ _ y A c _ HP4.out.p.p hlen hf HP4.out.p.tab HV.out rfl rfl).mono ?_
    rintro e w5 ⟨rfl, rfl⟩
    simp only [oI, oB]
    obtain ⟨c1, f1, s1⟩ := BX.out.facts
    go_wp2_with fail
    refine (xnext_is f _ _ y Ax cx _ HP4.out.sl hlen HV.out rfl).mono ?_
    rintro e w6 ⟨rfl, rfl⟩
    simp only [oJ]
    go_wp2_with fail
    clear c0 f0 s0 c1 f1 s1
    obtain ⟨W6, hW6⟩ : ∃ W6, ((W4.alloc (.cells #[.int .i64 0] 3)).alloc (.cells #[.int .i64 0] 3)).alloc (.cells #[.pointer (some ⟨W3.heap.size, 0, none⟩)] 24) = W6 := ⟨_, rfl⟩
    go_wp2_with (go_at_call 16; refine (all_any W3.heap.size _ W6 hW6).mono ?_; rintro e w5 ⟨rfl, rfl⟩)
    have HG6 := Lib.hid (show Grew W4 W6 from hW6 ▸ (((Chg.refl _ _).alloc _).alloc _).alloc _)
    have B6a := Lib.hid (show Blk W6 W4.heap.size 3 #[.int .i64 0] from hW6 ▸ ((Blk.new _ _ _).alloc _).alloc _)
    have B6m := Lib.hid (show Blk W6 (W4.heap.size + 1) 3 #[.int .i64 0] from hW6 ▸ (by have := (Blk.new (W4.alloc (.cells #[.int .i64 0] 3)) 3 #[.int .i64 0]).alloc (.cells #[.pointer (some ⟨W3.heap.size, 0, none⟩)] 24); simpa using this))
    have B6p := Lib.hid (show Blk W6 (W4.heap.size + 2) 24 #[.pointer (some ⟨W3.heap.size, 0, none⟩)] from hW6 ▸ (by have := Blk.new ((W4.alloc (.cells #[.int .i64 0] 3)).alloc (.cells #[.int .i64 0] 3)) 24 #[.pointer (some ⟨W3.heap.size, 0, none⟩)]; simpa using this))
    clear hW6
    refine wp_range (gf := 31) (lb := #[.pointer (some ⟨W4.heap.size + 1 + 1, 0, none⟩)]) rfl (enters_of Tryd.func31 (by kernel_rfl) rfl) ?_
    intro r Wr D L hr hg1 hDl hLl hD hR
    have HR1 := Lib.hid hr
    have hDL := Ne.symm (hR.ne_dfr hD)
    have hz6 := B6p.out.lt
    have hz7 := hg1.size
    have hL2 := hR.lt
    have hD2 := hD.lt
    have HG1 := Lib.hid (Grew.trans HG6.out hg1)
    have HBp := Lib.hid (B6p.out.grew hg1)
    have HBX := Lib.hid (BX.out.grew HG1.out)
    have HBN := Lib.hid (((BN.out.grew HP4.out.p.grew).grew HG1.out))
    have HBR := Lib.hid (((BR.out.grew HP4.out.p.grew).grew HG1.out))
    have HPr := Lib.hid (HP4.out.on HG1.out)
    have HJ0 := Lib.hid (show NextJ Wr Wr y W4.heap.size (W4.heap.size + 1) L 0 0 r .ready none from
      ⟨Chg.refl _ _, B6a.out.grew hg1, B6m.out.grew hg1, hR, Nat.zero_le _, rfl⟩)
    have HDf := Lib.hid hD
    have hPF := fun j (h : PF W3.heap.size A j) => HP4.out.p.p.lt j h
    have HPF := Lib.hid hPF
    have hxg : ∀ g, (Value.slice Ax y.length cx).ownBlock = some g → g < W4.heap.size := fun g hg => HP4.out.row.lt g hg |>.2
    have HXG := Lib.hid hxg
    clear hr hg1 hD hR hPF hxg
    refine (all_iter (W4.heap.size + 1 + 1) W3.heap.size L y A c
      (fun i W => ∃ many, NextJ Wr W y W4.heap.size (W4.heap.size + 1) L i many r .ready none)
      (fun i W => ∃ many : Nat, NextJ Wr W y W4.heap.size (W4.heap.size + 1) L i many r .done (some (.exit 0)) ∧ (many : Int) = f) Wr hlen
      (fun i W ⟨many, hJ⟩ => ⟨HBp.out.chg hJ.chg ?h1, HPr.out.p.p.chg hJ.chg ?h2, tab_chg HPr.out.p.tab hJ.chg ?h3⟩)
      (fun i j W ⟨many, hJ⟩ hx => ?yld) ⟨_, HJ0.out⟩).mono ?post
    case h1 => rintro (q | q | q) <;> omega
    case h2 => intro k hk; have := HPF.out k hk; rintro (q | q | q) <;> omega
    case h3 => have := tab_pos HP4.out.p.tab; rintro (q | q | q) <;> omega
    case yld =>
      have HX := Lib.hid hx
      have HJ := Lib.hid hJ
      have hws := hJ.chg.size
      have hjl := (nxt_some.1 hx).2.1
      clear hx hJ
      obtain ⟨hr1, hr2, hr3, hr4⟩ := HR1.out
      refine yield_wide HJ.out.rc (by rw [hr2]; rfl) ?_
      rw [hr1, hr2, hr3, hr4]
      clear hr1 hr2 hr3 hr4
      intro K hK
      have HKK := Lib.hid hK
      clear hK
      gi_wp2
      refine HKK.out _ _ HJ.out.rc fun W5 Q hk3 hR2 hQ => ?_
      have HQ := Lib.hid hQ
      have HJ5 := Lib.hid (HJ.out.kept hk3 hR2)
      have hkw5 := hk3.chg.size
      clear hk3 hR2 hQ
      have hout : ∀ j, j < W4.heap.size → ¬ (j = W4.heap.size ∨ j = W4.heap.size + 1 ∨ j = L) := fun j hj e => by rcases e with e | e | e <;> omega
      have HBX5 := Lib.hid (HBX.out.chg HJ5.out.chg (hout _ (by omega)))
      have HBN5 := Lib.hid (HBN.out.chg HJ5.out.chg (hout _ (by omega)))
      have HSl5 := Lib.hid (Sl.of_own (own_chg HPr.out.row HJ5.out.chg fun g hg => hout g (HXG.out g hg)))
      obtain ⟨c0, f0, s0⟩ := HJ5.out.at_.facts
      obtain ⟨c1, f1, s1⟩ := HBX5.out.facts
      obtain ⟨c2, f2, s2⟩ := HJ5.out.blk.facts
      obtain ⟨c3, f3, s3⟩ := HBN5.out.facts
      clear hout
      gi_wp2_with (refine ⟨trivial, rfl, ?_⟩; gi_at_call 15; refine (CallsIn.inRound L (callsIn_wide.2 (xnext_is i (some j) j y Ax cx _ HSl5.out hlen (by rw [Int.toNat_natCast]; exact HX.out) rfl))).mono ?_; rintro e w6 ⟨rfl, rfl⟩)
      have hm1 : many ≤ 300 := by have := HJ.out.cnt; have := cntN_le (fun m => y.getD m false) i; have := HJ.out.len; omega
      have t4 : (j : Int) ≤ 300 := by omega
      have t5 : (many : Int) ≤ 300 := by omega
      have t6 : (0 : Int) ≤ (j : Int) := by omega
      have t7 : (0 : Int) ≤ (many : Int) := by omega
      gi_region
      all_goals
        rw [IntWalk.i64_in ((j : Int) + 1) ⟨by omega, by omega⟩, IntWalk.i64_in ((many : Int) + 1) ⟨by omega, by omega⟩]
        obtain ⟨W8, hW8⟩ : ∃ W8, ((W5.setCell ⟨W4.heap.size, 0, none⟩ (.int .i64 ((j : Int) + 1))).setCell ⟨W4.heap.size + 1, 0, none⟩ (.int .i64 ((many : Int) + 1))).drew = W8 := ⟨_, rfl⟩
        rw [hW8]
        have HJ8 := Lib.hid (HJ5.out.next HX.out (by omega) (by omega) (by omega) hW8)
        clear c0 f0 s0 c1 f1 s1 c2 f2 s2 c3 f3 s3 hW8
        obtain ⟨c2, f2, s2⟩ := HJ8.out.blk.facts
        obtain ⟨c3, f3, s3⟩ := (HBN.out.chg HJ8.out.chg (by rintro (e | e | e) <;> omega)).facts
        by_cases hms : (many : Int) + 1 = f
        · have t8 : ((many : Int) + 1 == f) = true := by simpa using hms
          gi_wp2
          refine HQ.out _ _ _ ⟨HJ8.out.rc, fun w' hk' hR' => .inr ⟨rfl, many + 1, HJ8.out.kept hk' hR', by omega⟩⟩
        · have t8 : ((many : Int) + 1 == f) = false := by simpa using hms
          gi_wp2
          refine HQ.out _ _ _ ⟨HJ8.out.rc, fun w' hk' hR' => .inl ⟨rfl, many + 1, HJ8.out.kept hk' hR'⟩⟩
    case post =>
      rintro e w3 ⟨hv, hJ⟩
      refine ⟨hv, ?_⟩
      obtain ⟨i, many, st, pe, hJ, hor, hfin⟩ : ∃ i many st pe, NextJ Wr w3 y W4.heap.size (W4.heap.size + 1) L i many r st pe ∧ ((st = .ready ∧ pe = none) ∨ (st = .done ∧ pe = some (.exit 0))) ∧ ((many : Int) = cnt y ∨ (many : Int) = f) := by
        rcases hJ with ⟨i, ⟨many, hJ⟩, hno⟩ | ⟨i, many, hJ, hm⟩
        · exact ⟨i, many, _, _, hJ, .inl ⟨rfl, rfl⟩, .inl (by rw [← cnt_end hno hJ.len, hJ.cnt])⟩
        · exact ⟨i, many, _, _, hJ, .inr ⟨rfl, rfl⟩, .inr hm⟩
      refine rangeEnd_block ?_ fun w4 hk4 => ?_
      · rcases hor with ⟨rfl, rfl⟩ | ⟨rfl, rfl⟩
        · exact .inl hJ.rc
        · exact .inr hJ.rc
      have HB4 := Lib.hid (hJ.blk.kept hk4)
      have HC4 := Lib.hid (Chg.trans hJ.chg hk4.chg fun i _ e => .inr (.inr e))
      clear hJ hor hk4
      have HPI := Lib.hid (HPr.out.p.p.chg HC4.out (fun k hk => by have := HPF.out k hk; rintro (q | q | q) <;> omega))
      have HT4 := Lib.hid (tab_chg HPr.out.p.tab HC4.out (by have := tab_pos HP4.out.p.tab; rintro (q | q | q) <;> omega))
      have HBN4 := Lib.hid (HBN.out.chg HC4.out (by rintro (e | e | e) <;> omega))
      have HBR4 := Lib.hid (HBR.out.chg HC4.out (by rintro (e | e | e) <;> omega))
      have HD4 := Lib.hid (HDf.out.chg HC4.out (by rintro (e | e | e) <;> omega))
      have hcw4 := HC4.out.size
      have hGw : Grew w w4 := by
        refine Chg.mono (Chg.trans (F := fun j => w.heap.size ≤ j) (Grew.trans (Grew.trans HG3.out HP4.out.p.grew) HG1.out).chg HC4.out fun i hi e => ?_) fun i hi e => absurd e (by omega)
        rcases e with e | e | e <;> omega
      have HGw := Lib.hid hGw
      clear hGw
      obtain ⟨c0, f0, s0⟩ := HB4.out.facts
      obtain ⟨c1, f1, s1⟩ := HBN4.out.facts
      obtain ⟨c4, f4, s4⟩ := HBR4.out.facts
      have hcb : cnt y ≤ 300 := by have := cntN_le (fun j => y.getD j false) y.length; unfold cnt; omega
      go_wp2_with fail
      by_cases hms : (many : Int) = cnt y
      · have t8 : ((many : Int) == (cnt y : Int)) = true := by simpa using hms
        clear hfin
        go_region_with (first
          | (go_at_call 12; refine (pfree_any W3.heap.size y A c _ (HPI.out.grew ((Chg.refl _ _).drew)) hlen).mono ?_; rintro e w8 ⟨rfl, rfl⟩)
          | (go_at_call 8; refine (pawake_any _ (tab_chg HT4.out ((Chg.refl NoF _).drew) id)).mono ?_; rintro e w9 ⟨rfl, hg9⟩; have HG9 := Lib.hid (Grew.trans ((Chg.refl NoF w4).drew) hg9); clear hg9 c4 f4 s4; obtain ⟨c4, f4, s4⟩ := (HBR4.out.grew HG9.out).facts))
        all_goals
          go_wp2_with fail
          clear c4 f4 s4
          refine postM_ret1 (v := .bool true) (D := D) ?_ rfl fun w5 hk5 => ?_
          · refine (HD4.out.grew HG9.out).chg (F := fun j => j = w.heap.size + 1) ?_ ?_
            · (repeat (first | (with_reducible exact (Chg.refl _ _)) | (with_reducible refine Chg.alloc ?_ _) | (with_reducible refine Chg.drew ?_) | (with_reducible refine Chg.drewN ?_ _) | ((with_reducible refine Chg.setCell ?_ ?hp _); (case hp => (intro _; rfl)))))
            · show ¬ D = w.heap.size + 1
              omega
          · refine ⟨?_, rfl, ?_⟩
            · obtain ⟨c2, f2, s2⟩ : (∀ i, w5.cell? ⟨w.heap.size + 1, i, none⟩ = #[Value.bool true][i]?) ∧ (∀ i, w5.frozen? ⟨w.heap.size + 1, i, none⟩ = false) ∧ w.heap.size + 1 < w5.heap.size := (Blk.kept (t := 4) (by (repeat (first | (with_reducible exact (HBR4.out.grew HG9.out)) | (with_reducible apply Blk.drew) | (with_reducible apply Blk.drewN) | (with_reducible apply Blk.alloc) | (with_reducible apply Blk.putTo) | (with_reducible apply Blk.far))); (all_goals first | rfl | (simp; done) | (simp; omega))) hk5).facts
              simp [results, Tryd.results4, go_sem, c2, s2]
            · refine Chg.kept ?_ hk5 (by omega)
              (repeat (first | (with_reducible exact (Grew.trans HGw.out HG9.out)) | (with_reducible refine Chg.alloc ?_ _) | (with_reducible refine Chg.drew ?_) | (with_reducible refine Chg.drewN ?_ _) | ((with_reducible refine Chg.setCell ?_ ?hp _); (case hp => (intro h; exfalso; simp at h; try omega)))))
      · have t8 : ((many : Int) == (cnt y : Int)) = false := by simpa using hms
        have t9 : ((many : Int) == f) = true := by simpa using hfin.resolve_left hms
        clear hfin hms
        go_region_with (first
          | (go_at_call 12; refine (pfree_any W3.heap.size y A c _ (HPI.out.grew ((Chg.refl _ _).drew)) hlen).mono ?_; rintro e w8 ⟨rfl, rfl⟩)
          | (go_at_call 8; refine (pawake_any _ (tab_chg HT4.out ((Chg.refl NoF _).drew) id)).mono ?_; rintro e w9 ⟨rfl, hg9⟩; have HG9 := Lib.hid (Grew.trans ((Chg.refl NoF w4).drew) hg9); clear hg9 c4 f4 s4; obtain ⟨c4, f4, s4⟩ := (HBR4.out.grew HG9.out).facts))
        all_goals
          go_wp2_with fail
          clear c4 f4 s4
          refine postM_ret1 (v := .bool true) (D := D) ?_ rfl fun w5 hk5 => ?_
          · refine (HD4.out.grew HG9.out).chg (F := fun j => j = w.heap.size + 1) ?_ ?_
            · (repeat (first | (with_reducible exact (Chg.refl _ _)) | (with_reducible refine Chg.alloc ?_ _) | (with_reducible refine Chg.drew ?_) | (with_reducible refine Chg.drewN ?_ _) | ((with_reducible refine Chg.setCell ?_ ?hp _); (case hp => (intro _; rfl)))))
            · show ¬ D = w.heap.size + 1
              omega
          · refine ⟨?_, rfl, ?_⟩
            · obtain ⟨c2, f2, s2⟩ : (∀ i, w5.cell? ⟨w.heap.size + 1, i, none⟩ = #[Value.bool true][i]?) ∧ (∀ i, w5.frozen? ⟨w.heap.size + 1, i, none⟩ = false) ∧ w.heap.size + 1 < w5.heap.size := (Blk.kept (t := 4) (by (repeat (first | (with_reducible exact (HBR4.out.grew HG9.out)) | (with_reducible apply Blk.drew) | (with_reducible apply Blk.drewN) | (with_reducible apply Blk.alloc) | (with_reducible apply Blk.putTo) | (with_reducible apply Blk.far))); (all_goals first | rfl | (simp; done) | (simp; omega))) hk5).facts
              simp [results, Tryd.results4, go_sem, c2, s2]
            · refine Chg.kept ?_ hk5 (by omega)
              (repeat (first | (with_reducible exact (Grew.trans HGw.out HG9.out)) | (with_reducible refine Chg.alloc ?_ _) | (with_reducible refine Chg.drew ?_) | (with_reducible refine Chg.drewN ?_ _) | ((with_reducible refine Chg.setCell ?_ ?hp _); (case hp => (intro h; exfalso; simp at h; try omega)))))

end Go.Proofs.YtenmilemdkhijaaDoor
