/- BidEnds: just those auctions are told that end, in the order that the document says. -/
import Derived.Test.YtbmogbbenfpmiaaBidY
import Derived.StillTailTactics
namespace Go.Proofs.Ytbmogbbenfpmiaa
open Go.RowKit
attribute [local go_sem] Oper.semAt_some

theorem Sl.apart1 {w : World} {g : Nat} {t : TypeId} {cs : Array Value} {l : List Auc} {A : Option Addr} (h : Sl w 7 A l.length (l.flatMap Auc.vals)) (hb : Blk w g t cs) (hc : cs.size ≤ 6) (hn : 0 < l.length) : ∀ a, A = some a → a.block ≠ g := by
  intro a ha e
  obtain ⟨x, hx⟩ : ∃ x, l[0]? = some x := ⟨_, List.getElem?_eq_getElem hn⟩
  obtain ⟨g', off, hA, -, -, -, -, -, -, -, d6⟩ := h.atAuc hx
  rw [hA] at ha
  injection ha with ha
  subst ha
  simp only [] at e
  subst e
  have := hb.cell (off + 0 * 7 + 6)
  rw [d6, Array.getElem?_eq_none (by omega)] at this
  cases this

theorem ended_any (b : Nat) (now : Int) (w W : World) (hW : (w.alloc (.cells #[.pointer (some ⟨b, 0, none⟩)] 23)).alloc (.cells #[.int .i64 now] 3) = W) :
    Calls Try.prog 20 #[.pointer (some ⟨b, 0, none⟩), .int .i64 now] w fun e w' => e = .returned (.func (.func 37) #[] #[.pointer (some ⟨w.heap.size, 0, none⟩), .pointer (some ⟨w.heap.size + 1, 0, none⟩)]) ∧ W = w' := by
  subst hW
  go_enter Try.func20, Try.ntmps20
  go_wp2
  go_ret
  exact ⟨rfl, rfl⟩

/-- Between two rounds, and behind a Close (lo: what the object has; ls: what the document's list has). -/
structure EndJ (Wr W : World) (b N nb D L : Nat) (nx : Int) (lo ls : List Auc) (A : Option Addr) (c : Nat) (Ar : Option Addr) (cr : Nat) (m : Int) (r : Loop) (st : LoopState) (pe : Option Code) : Prop where
  chg : Chg (fun j => BF b A j ∨ j = N ∨ j = nb ∨ j = L) Wr W
  isIn : BidsIn W b nx lo A c
  sl : Sl W 7 Ar ls.length (ls.flatMap Auc.vals)
  far : 0 < ls.length → ∀ a, Ar = some a → ¬ BF b A a.block
  rt : Rt ls nx
  x : Blk W N 39 #[.slice Ar ls.length cr, .int .i64 nx]
  n : Blk W nb 3 #[.int .i64 m]
  m0 : 0 ≤ m ∧ m + ls.length ≤ 64
  dfr : Dfr W D
  rc : Rec W L (Loop.at_ r st pe)

theorem BidsIn.kept {w w' : World} {b c k : Nat} {nx : Int} {l : List Auc} {A : Option Addr} (h : BidsIn w b nx l A c) (hk : Kept k w w') : BidsIn w' b nx l A c := ⟨h.blk.kept hk, own_kept h.own hk⟩

section
variable {Wr W W' : World} {b N nb D L : Nat} {nx : Int} {lo lo' ls : List Auc} {A : Option Addr} {c : Nat} {Ar : Option Addr} {cr : Nat} {m : Int} {r : Loop} {st st' : LoopState} {pe pe' : Option Code}
theorem EndJ.grew (h : EndJ Wr W b N nb D L nx lo ls A c Ar cr m r st pe) (hg : Grew W W') : EndJ Wr W' b N nb D L nx lo ls A c Ar cr m r st pe :=
  ⟨h.chg.grew hg, h.isIn.grew hg, h.sl.grew hg, h.far, h.rt, h.x.grew hg, h.n.grew hg, h.m0, h.dfr.grew hg, h.rc.grew hg⟩
theorem EndJ.close (h : EndJ Wr W b N nb D L nx lo ls A c Ar cr m r st pe) (hi : BidsIn W' b nx lo' A c) (hc : Chg (BF b A) W W')
    (hN : ¬ BF b A N) (hn : ¬ BF b A nb) (hD : ¬ BF b A D) (hL : ¬ BF b A L) : EndJ Wr W' b N nb D L nx lo' ls A c Ar cr m r st pe :=
  ⟨Chg.trans h.chg hc fun i _ e => .inl e, hi, h.sl.keep hc h.far, h.far, h.rt, h.x.chg hc hN, h.n.chg hc hn, h.m0, h.dfr.chg hc hD, h.rc.chg hc hL⟩
theorem EndJ.kept (h : EndJ Wr W b N nb D L nx lo ls A c Ar cr m r st pe) (hk : Kept L W W') (hR : Rec W' L (Loop.at_ r st' pe')) (hDL : D ≠ L) : EndJ Wr W' b N nb D L nx lo ls A c Ar cr m r st' pe' :=
  ⟨Chg.trans h.chg hk.chg fun i _ e => .inr (.inr (.inr e)), h.isIn.kept hk, h.sl.kept hk, h.far, h.rt, h.x.kept hk, h.n.kept hk, h.m0, h.dfr.kept hk hDL, hR⟩
theorem EndJ.next {w7 X : World} {k : Nat} {Ar' : Option Addr} {cr' : Nat} (h : EndJ Wr W b N nb D L nx (ls.eraseIdx k) ls A c Ar cr m r st pe) (hk : k < ls.length) (hs : Sl w7 7 Ar' (ls.eraseIdx k).length ((ls.eraseIdx k).flatMap Auc.vals)) (hg : Grew W w7) (hn : ∀ a, Ar' = some a → W.heap.size ≤ a.block)
    (hN : ¬ BF b A N) (hnb : ¬ BF b A nb) (hNn : N ≠ nb) (hND : D ≠ N) (hNL : L ≠ N) (hnD : D ≠ nb) (hnL : L ≠ nb)
    (hX : ((w7.setCell ⟨N, 0, none⟩ (.slice Ar' (ls.eraseIdx k).length cr')).setCell ⟨N, 1, none⟩ (.int .i64 nx)).setCell ⟨nb, 0, none⟩ (.int .i64 (m + 1)) = X) :
    EndJ Wr X b N nb D L nx (ls.eraseIdx k) (ls.eraseIdx k) A c Ar' cr' (m + 1) r st pe := by
  have hc : Chg (fun j => j = N ∨ j = nb) w7 X := by
    rw [← hX]
    exact (((Chg.refl (fun j => j = N ∨ j = nb) w7).setCell (p := ⟨N, 0, none⟩) (fun _ => .inl rfl) _).setCell (p := ⟨N, 1, none⟩) (fun _ => .inl rfl) _).setCell (p := ⟨nb, 0, none⟩) (fun _ => .inr rfl) _
  have hNl := h.x.lt
  have hnl := h.n.lt
  have hlen : (ls.eraseIdx k).length = ls.length - 1 := by rw [List.length_eraseIdx]; simp [hk]
  have hm := h.m0
  have hi7 := h.isIn.grew hg
  refine ⟨Chg.trans (h.chg.grew hg) hc fun i _ e => by rcases e with e | e; exact .inr (.inl e); exact .inr (.inr (.inl e)), hi7.chg hc ?_ ?_, hs.chg hc ?_, ?_, h.rt.closed k, ?_, ?_, by rw [hlen]; omega, (h.dfr.grew hg).chg hc ?_, (h.rc.grew hg).chg hc ?_⟩
  · rintro (e | e)
    · exact hN (e ▸ .inl rfl)
    · exact hnb (e ▸ .inl rfl)
  · rintro a ha (e | e)
    · exact hN (e ▸ .inr ⟨a, ha, rfl⟩)
    · exact hnb (e ▸ .inr ⟨a, ha, rfl⟩)
  · rintro a ha (e | e)
    · have := hn a ha; omega
    · have := hn a ha; omega
  · intro hp a ha hb
    have := hn a ha
    have := h.isIn.lt hb
    omega
  · rw [← hX]
    have h1 := ((h.x.grew hg).put 0 (.slice Ar' (ls.eraseIdx k).length cr')).put 1 (.int .i64 nx)
    have h2 := h1.far (p := ⟨nb, 0, none⟩) hNn (.int .i64 (m + 1))
    simpa using h2
  · rw [← hX]
    have h1 := (((h.n.grew hg).far (p := ⟨N, 0, none⟩) (Ne.symm hNn) (.slice Ar' (ls.eraseIdx k).length cr')).far (p := ⟨N, 1, none⟩) (Ne.symm hNn) (.int .i64 nx)).put 0 (.int .i64 (m + 1))
    simpa using h1
  · rintro (e | e)
    · exact hND e
    · exact hnD e
  · rintro (e | e)
    · exact hNL e
    · exact hnL e
end

theorem rangeEnd_block {P : Program} {l id : Nat} {r : Loop} {Q : Exit → Act → World → Prop} {a : Act} {w3 : World}
    (h : Rec w3 l (Loop.at_ r .ready none) ∨ Rec w3 l (Loop.at_ r .done (some (.exit id)))) (hk : ∀ w4, Kept l w3 w4 → Q .normal a w4) : rangeEnd P l r (Exit.inBlock id Q) a w3 := by
  rcases h with h | h
  · exact .inl ⟨h, fun w4 k => hk w4 k⟩
  · exact .inr ⟨_, h, fun w4 k => wp_exit (by simpa [Exit.inBlock] using hk w4 k)⟩

set_option maxRecDepth 100000 in
set_option maxHeartbeats 400000 in
theorem ends_out (l : List Bop) (now stop : Int) (A : Option Addr) (c : Nat) (w : World) (hl : l.length > 80) (hln : (l.length : Int) ≤ 9223372036854775807) :
    Calls Try.prog 6 #[.slice A l.length c, .int .i64 now, .int .i64 stop] w fun e w' => e = .returned (.bool true) ∧ Grew w w' := by
  (refine calls_of_marks Try.func6 rfl ?_; simp only [Try.ntmps6, List.size_toArray, List.length_cons, List.length_nil, Nat.reduceAdd, Nat.reduceSub, Array.replicate_succ, Array.replicate_zero, List.push_toArray, List.append_toArray, List.nil_append, List.cons_append])
  go_wp2_with fail
  obtain ⟨W3, hW3⟩ : ∃ W3, ((w.alloc (.cells #[.int .i64 now] 3)).alloc (.cells #[.int .i64 stop] 3)).alloc (.cells #[.bool false] 4) = W3 := ⟨_, rfl⟩
  have HG3 := Lib.hid (show Grew w W3 from hW3 ▸ (((Chg.refl _ _).alloc _).alloc _).alloc _)
  have BR := Lib.hid (show Blk W3 (w.heap.size + 2) 4 #[.bool false] from hW3 ▸ (by have := Blk.new ((w.alloc (.cells #[.int .i64 now] 3)).alloc (.cells #[.int .i64 stop] 3)) 4 #[.bool false]; simpa using this))
  rw [hW3]
  clear hW3
  go_wp2_with (first
    | (go_at_call 7; refine (new_any _).mono ?_; rintro e w1 ⟨rfl, rfl⟩)
    | (go_at_call 8; refine (awake_any _).mono ?_; rintro e w2 ⟨rfl, hg2⟩; have HG4 := Lib.hid (Grew.trans ((Chg.refl NoF W3).alloc (.cells #[.slice none 0 0, .int .i64 1] 58)) hg2); clear hg2; obtain ⟨c2, f2, s2⟩ := (BR.out.grew HG4.out).facts))
  refine postM_ret0 (v := .bool true) (by simp [results, Try.results6, go_sem, c2, s2]) rfl ⟨rfl, ?_⟩
  have := HG3.out.size
  (repeat (first | (with_reducible exact (Grew.trans HG3.out HG4.out)) | (with_reducible refine Chg.alloc ?_ _) | (with_reducible refine Chg.drew ?_) | (with_reducible refine Chg.drewN ?_ _) | ((with_reducible refine Chg.setCell ?_ ?hp _); (case hp => (intro h; exfalso; simp at h; try omega)))))

set_option maxRecDepth 100000 in
set_option maxHeartbeats 3200000 in
theorem ends_in (l : List Bop) (now stop : Int) (A : Option Addr) (c : Nat) (w : World) (hl : l.length ≤ 80) (hs : Sl w 5 A l.length (l.flatMap Bop.vals)) (ok : ∀ r ∈ l, r.ok) :
    Calls Try.prog 6 #[.slice A l.length c, .int .i64 now, .int .i64 stop] w fun e w' => e = .returned (.bool true) ∧ Grew w w' := by
  have Hok := Lib.hid ok
  clear ok
  obtain ⟨W3, hW3⟩ : ∃ W3, ((w.alloc (.cells #[.int .i64 now] 3)).alloc (.cells #[.int .i64 stop] 3)).alloc (.cells #[.bool false] 4) = W3 := ⟨_, rfl⟩
  have HG3 := Lib.hid (show Grew w W3 from hW3 ▸ (((Chg.refl _ _).alloc _).alloc _).alloc _)
  have BN := Lib.hid (show Blk W3 w.heap.size 3 #[.int .i64 now] from hW3 ▸ ((Blk.new _ _ _).alloc _).alloc _)
  have BS := Lib.hid (show Blk W3 (w.heap.size + 1) 3 #[.int .i64 stop] from hW3 ▸ (by have := (Blk.new (w.alloc (.cells #[.int .i64 now] 3)) 3 #[.int .i64 stop]).alloc (.cells #[.bool false] 4); simpa using this))
  have BR := Lib.hid (show Blk W3 (w.heap.size + 2) 4 #[.bool false] from hW3 ▸ (by have := Blk.new ((w.alloc (.cells #[.int .i64 now] 3)).alloc (.cells #[.int .i64 stop] 3)) 4 #[.bool false]; simpa using this))
  have Hs := Lib.hid (hs.grew HG3.out)
  have HW := Lib.hid hW3
  clear hs hW3
  (refine calls_of_marks Try.func6 rfl ?_; simp only [Try.ntmps6, List.size_toArray, List.length_cons, List.length_nil, Nat.reduceAdd, Nat.reduceSub, Array.replicate_succ, Array.replicate_zero, List.push_toArray, List.append_toArray, List.nil_append, List.cons_append])
  go_wp2_with (first
    | (rw [HW.out])
    | (go_at_call 7; refine (new_any _).mono ?_; rintro e w1 ⟨rfl, rfl⟩))
  go_loopw [31] (fun i wr => ∃ (k : Nat) (nx : Int) (ls : List Auc) (A2 : Option Addr) (c2 : Nat) (Ar2 : Option Addr) (cr2 : Nat), k ≤ l.length ∧ i = .int .i64 k ∧ nx ≤ k + 1 ∧ Pair W3 wr W3.heap.size (W3.heap.size + 1) nx ls A2 c2 Ar2 cr2) (fun i _ => l.length - (intOf i).toNat)
  case atStart => exact ⟨0, 1, [], none, 0, none, 0, Nat.zero_le _, rfl, by simp, Pair.made W3⟩
  case round =>
    obtain ⟨k, nx, ls, A2, c2, Ar2, cr2, hk, rfl, hnx, hM⟩ := hrel
    by_cases hlt : k < l.length
    · obtain ⟨o, ho⟩ : ∃ o, l[k]? = some o := ⟨_, List.getElem?_eq_getElem hlt⟩
      obtain ⟨g, off, rfl, hb, d0, d1, d2, d3, d4⟩ := (Hs.out.grew hM.grew).atBop ho
      have B1 := Lib.hid (Blk.new wr 30 #[.int .i64 o.kind, .int .i64 o.a, .int .i64 o.b, .int .i64 o.n, .int .i64 o.ends])
      have hM1 := hM.more ((Chg.refl _ wr).alloc (.cells #[.int .i64 o.kind, .int .i64 o.a, .int .i64 o.b, .int .i64 o.n, .int .i64 o.ends] 30))
      obtain ⟨nx', ls', hrt, hnx', hst⟩ := lawStep_any W3.heap.size nx ls o A2 Ar2 c2 cr2 _ hM1.both (Hok.out o (List.mem_of_getElem? ho))
      have Hst := Lib.hid hst
      have HM1 := Lib.hid hM1
      have hs0 := hM.blk.lt
      obtain ⟨c0, f0, s0⟩ := hM.blk.facts
      clear hst hM1 ho
      go_wp2_with (go_at_call 12; refine Hst.out.mono ?_; rintro e w2 hst2; obtain ⟨Ar', cr', A2', c2', rfl, hB2, hC2, hF2⟩ := hst2.both hrt (by omega); have H2 := Lib.hid (And.intro hB2 (And.intro hC2 hF2)); clear hst2 hB2 hC2 hF2 d0 d1 d2 d3 d4 c0 f0 s0; obtain ⟨c0, f0, s0⟩ := (HM1.out.blk.chg H2.out.2.1 HM1.out.out).facts)
      exact ⟨⟨k + 1, nx', ls', A2', c2', Ar', cr', by omega, by simp, by push_cast; omega, HM1.out.step H2.out.1 H2.out.2.1 H2.out.2.2 rfl⟩, by simp [intOf]; omega⟩
    · obtain rfl : k = l.length := by omega
      obtain ⟨wo, rfl⟩ : ∃ wo : World, wo = wr := ⟨_, rfl⟩
      have HM := Lib.hid hM
      have hle := hM.both.rt.len
      have hz3 := BR.out.lt
      have hzo := hM.grew.size
      have hNo := hM.blk.lt
      obtain ⟨c0, f0, s0⟩ := (BN.out.grew hM.grew).facts
      clear hM
      have hbo : W3.heap.size < wo.heap.size := HM.out.both.isIn.blk.lt
      have hBF := fun j (h : BF W3.heap.size A2 j) => HM.out.both.isIn.lt h
      have HBF := Lib.hid hBF
      clear hBF
      go_wp2_with fail
      obtain ⟨W4, hW4⟩ : ∃ W4, ((wo.alloc (.cells #[.int .i64 0] 3)).alloc (.cells #[.pointer (some ⟨W3.heap.size, 0, none⟩)] 23)).alloc (.cells #[.int .i64 now] 3) = W4 := ⟨_, rfl⟩
      go_wp2_with (go_at_call 20; refine (ended_any W3.heap.size now _ W4 hW4).mono ?_; rintro e w5 ⟨rfl, rfl⟩)
      have HG4 := Lib.hid (show Grew wo W4 from hW4 ▸ (((Chg.refl _ _).alloc _).alloc _).alloc _)
      have B4n := Lib.hid (show Blk W4 wo.heap.size 3 #[.int .i64 0] from hW4 ▸ ((Blk.new _ _ _).alloc _).alloc _)
      have B4b := Lib.hid (show Blk W4 (wo.heap.size + 1) 23 #[.pointer (some ⟨W3.heap.size, 0, none⟩)] from hW4 ▸ (by have := (Blk.new (wo.alloc (.cells #[.int .i64 0] 3)) 23 #[.pointer (some ⟨W3.heap.size, 0, none⟩)]).alloc (.cells #[.int .i64 now] 3); simpa using this))
      have B4w := Lib.hid (show Blk W4 (wo.heap.size + 2) 3 #[.int .i64 now] from hW4 ▸ (by have := Blk.new ((wo.alloc (.cells #[.int .i64 0] 3)).alloc (.cells #[.pointer (some ⟨W3.heap.size, 0, none⟩)] 23)) 3 #[.int .i64 now]; simpa using this))
      clear hW4 c0 f0 s0
      refine wp_range (gf := 37) (lb := #[.pointer (some ⟨wo.heap.size + 1, 0, none⟩), .pointer (some ⟨wo.heap.size + 1 + 1, 0, none⟩)]) rfl (enters_of Try.func37 (by kernel_rfl) rfl) ?_
      intro r Wr D L hr hg1 hDl hLl hD hR
      have HR1 := Lib.hid hr
      have hDL := Ne.symm (hR.ne_dfr hD)
      have hz4 := B4w.out.lt
      have hz5 := hg1.size
      have hL2 := hR.lt
      have hD2 := hD.lt
      have HG1 := Lib.hid (Grew.trans HG4.out hg1)
      have HBb := Lib.hid (B4b.out.grew hg1)
      have HBw := Lib.hid (B4w.out.grew hg1)
      have HJ0 := Lib.hid (show EndJ Wr Wr W3.heap.size (W3.heap.size + 1) wo.heap.size D L nx ls ls A2 c2 Ar2 cr2 0 r .ready none from
        ⟨Chg.refl _ _, HM.out.both.isIn.grew HG1.out, HM.out.both.sl.grew HG1.out, HM.out.both.far, HM.out.both.rt, HM.out.blk.grew HG1.out, B4n.out.grew hg1, by omega, hD, hR⟩)
      clear hr hg1 hD hR
      have hnb : ¬ BF W3.heap.size A2 wo.heap.size := fun q => by have := HBF.out _ q; omega
      have hbb : ¬ BF W3.heap.size A2 (wo.heap.size + 1) := fun q => by have := HBF.out _ q; omega
      have hbw : ¬ BF W3.heap.size A2 (wo.heap.size + 1 + 1) := fun q => by have := HBF.out _ q; omega
      have hbD : ¬ BF W3.heap.size A2 D := fun q => by have := HBF.out _ q; omega
      have hbL : ¬ BF W3.heap.size A2 L := fun q => by have := HBF.out _ q; omega
      have HN := Lib.hid HM.out.out
      refine (ended_iter (wo.heap.size + 1) (wo.heap.size + 1 + 1) W3.heap.size L now nx A2 c2
        (fun ls W => ∃ Ar cr m, EndJ Wr W W3.heap.size (W3.heap.size + 1) wo.heap.size D L nx ls ls A2 c2 Ar cr m r .ready none)
        (fun ls W => ∃ Ar cr m, EndJ Wr W W3.heap.size (W3.heap.size + 1) wo.heap.size D L nx (ls.eraseIdx (fstI ls ls.length)) ls A2 c2 Ar cr m r .ready none)
        (fun ls W => ∃ Ar cr, EndJ Wr W W3.heap.size (W3.heap.size + 1) wo.heap.size D L nx ls ls A2 c2 Ar cr stop r .done (some (.exit 2))) Wr ls
        (fun ls W ⟨Ar, cr, m, hJ⟩ => ⟨HBb.out.chg hJ.chg ?h1, HBw.out.chg hJ.chg ?h2, hJ.isIn, hJ.rt⟩)
        (fun ls W W' ⟨Ar, cr, m, hJ⟩ hg => ⟨Ar, cr, m, hJ.grew hg⟩) (fun ls W W' ⟨Ar, cr, m, hJ⟩ hg => ⟨Ar, cr, m, hJ.grew hg⟩)
        (fun ls x W W' ⟨Ar, cr, m, hJ⟩ hx hi hc => ⟨Ar, cr, m, hJ.close hi hc HN.out hnb hbD hbL⟩)
        (fun ls x W ⟨Ar, cr, m, hJ⟩ hx hend => ?yld) ⟨_, _, _, HJ0.out⟩).mono ?post
      case h1 => rintro (q | q | q | q); exact hbb q; all_goals omega
      case h2 => rintro (q | q | q | q); exact hbw q; all_goals omega
      case yld =>
        obtain ⟨k, hk⟩ : ∃ k, fstI ls ls.length = k := ⟨_, rfl⟩
        rw [hk] at hx hJ ⊢
        have HK := Lib.hid hk
        have HX := Lib.hid hx
        have HJ := Lib.hid hJ
        have hws := hJ.chg.size
        have hle2 := hJ.rt.len
        have hkl : k < ls.length := (List.getElem?_eq_some_iff.1 hx).1
        clear hk hx hJ
        obtain ⟨hr1, hr2, hr3, hr4⟩ := HR1.out
        refine yield_wide HJ.out.rc (by rw [hr2]; rfl) ?_
        rw [hr1, hr2, hr3, hr4]
        clear hr1 hr2 hr3 hr4
        intro K hK
        have HKK := Lib.hid hK
        clear hK
        gi_wp2
        refine HKK.out _ _ (HJ.out.rc.alloc _) fun W5 Q hk3 hR2 hQ => ?_
        have HQ := Lib.hid hQ
        have HJ5 := Lib.hid ((HJ.out.grew ((Chg.refl _ _).alloc (.cells #[.int .i64 x.id, .int .i64 x.deed, .int .i64 x.seller, .int .i64 x.least, .int .i64 x.best, .int .i64 x.bidder, .int .i64 x.ends] 32))).kept hk3 hR2 hDL)
        have HX5 := Lib.hid ((Blk.new W 32 #[.int .i64 x.id, .int .i64 x.deed, .int .i64 x.seller, .int .i64 x.least, .int .i64 x.best, .int .i64 x.bidder, .int .i64 x.ends]).kept hk3)
        have hout : ∀ j, j < W3.heap.size → ¬ (BF W3.heap.size A2 j ∨ j = W3.heap.size + 1 ∨ j = wo.heap.size ∨ j = L) := fun j hj e => by
          rcases e with e | e | e | e
          · have := HM.out.new j e; omega
          all_goals omega
        have HBN5 := Lib.hid (((BN.out.grew HM.out.grew).grew HG1.out).chg HJ5.out.chg (hout _ (by omega)))
        have HBS5 := Lib.hid (((BS.out.grew HM.out.grew).grew HG1.out).chg HJ5.out.chg (hout _ (by omega)))
        have hkw5 := hk3.chg.size
        clear hk3 hR2 hQ hout
        obtain ⟨c0, f0, s0⟩ := HJ5.out.x.facts
        gi_wp2_with (refine ⟨trivial, rfl, ?_⟩; gi_at_call 21; refine (CallsIn.inRound L (callsIn_wide.2 (rfirst_any nx ls Ar cr _ HJ5.out.sl (by omega) k (by unfold firstI; rw [if_neg (by omega), HK.out])))).mono ?_; rintro e w6 ⟨rfl, hg6⟩; have HG6 := Lib.hid hg6; clear hg6 c0 f0 s0)
        have HJ6 := Lib.hid (HJ5.out.grew HG6.out)
        obtain ⟨c0, f0, s0⟩ := HJ6.out.x.facts
        obtain ⟨c1, f1, s1⟩ := (HBN5.out.grew HG6.out).facts
        obtain ⟨c2, f2, s2⟩ := (HX5.out.grew HG6.out).facts
        obtain ⟨g, off, hAr, hgb, d0, d1, d2, d3, d4, d5, d6⟩ := HJ6.out.sl.atAuc HX.out
        subst hAr
        have t1 : decide ((k : Int) < 0) = false := decide_eq_false (by omega)
        have t2 : (0 : Int) ≤ (k : Int) := Int.natCast_nonneg _
        have t3 : (k : Int) < (ls.length : Int) := by omega
        have t4 : decide (now < x.ends) = false := decide_eq_false (by omega)
        (refine wpIn_region_quiet_round (by kernel_rfl) (by kernel_rfl) (by kernel_rfl) ?_; (repeat (gi_big_quiet_step ((fail)))); refine wpQuietIn_nil ?_; intro _ hw_; obtain ⟨nq, hw2_⟩ := hw_; subst hw2_)
        have hm0 := HJ6.out.m0
        have hm1 := HM.out.both.nb
        have HGq := Lib.hid (show Grew w6 (w6.drewN nq) by (repeat (first | (with_reducible exact (Chg.refl _ _)) | (with_reducible refine Chg.alloc ?_ _) | (with_reducible refine Chg.drew ?_) | (with_reducible refine Chg.drewN ?_ _) | ((with_reducible refine Chg.setCell ?_ ?hp _); (case hp => (intro h; exfalso; simp at h; try omega))))))
        gi_wp2_with (refine ⟨trivial, rfl, ?_⟩; gi_at_call 22; refine (CallsIn.inRound L (callsIn_wide.2 (without_any k nx ls _ cr _ (HJ6.out.sl.grew HGq.out) (by omega) hkl))).mono ?_; rintro e w7 ⟨Ar7, cr7, rfl, hs7, hg7, hn7⟩; have HG7 := Lib.hid (Grew.trans HGq.out hg7); have HS7 := Lib.hid (And.intro hs7 hn7); clear hg7 hs7 hn7 c0 f0 s0 c1 f1 s1 c2 f2 s2 d0 d1 d2 d3 d4 d5 d6; obtain ⟨c0, f0, s0⟩ := (HJ6.out.x.grew HG7.out).facts; obtain ⟨c1, f1, s1⟩ := (HJ6.out.n.grew HG7.out).facts; obtain ⟨c2, f2, s2⟩ := (HBS5.out.grew (Grew.trans HG6.out HG7.out)).facts)
        · have HX8 := Lib.hid (HJ6.out.next (cr' := cr7) hkl HS7.out.1 HG7.out HS7.out.2 HN.out hnb (by omega) (by omega) (by omega) (by omega) (by omega) rfl)
          rename_i hst
          refine HQ.out _ _ _ ⟨HX8.out.rc, fun w' hk' hR' => .inr ⟨rfl, Ar7, cr7, ?_⟩⟩
          have h8 := HX8.out.kept hk' hR' hDL
          rw [show m + 1 = stop by simpa using hst] at h8
          exact h8
        · have HX8 := Lib.hid (HJ6.out.next (cr' := cr7) hkl HS7.out.1 HG7.out HS7.out.2 HN.out hnb (by omega) (by omega) (by omega) (by omega) (by omega) rfl)
          refine HQ.out _ _ _ ⟨HX8.out.rc, fun w' hk' hR' => .inl ⟨rfl, Ar7, cr7, m + 1, ?_⟩⟩
          exact HX8.out.kept hk' hR' hDL
      case post =>
        rintro e w3 ⟨hv, hJ⟩
        refine ⟨hv, ?_⟩
        obtain ⟨ls, Ar, cr, m, st, pe, hJ, hor, hno⟩ : ∃ ls Ar cr m st pe, EndJ Wr w3 W3.heap.size (W3.heap.size + 1) wo.heap.size D L nx ls ls A2 c2 Ar cr m r st pe ∧ ((st = .ready ∧ pe = none) ∨ (st = .done ∧ pe = some (.exit 2))) ∧ (m = stop ∨ noneEnds ls now) := by
          rcases hJ with ⟨ls, ⟨Ar, cr, m, hJ⟩, hno⟩ | ⟨ls, Ar, cr, hJ⟩
          · exact ⟨ls, Ar, cr, m, _, _, hJ, .inl ⟨rfl, rfl⟩, .inr hno⟩
          · exact ⟨ls, Ar, cr, stop, _, _, hJ, .inr ⟨rfl, rfl⟩, .inl rfl⟩
        refine rangeEnd_block ?_ fun w4 hk4 => ?_
        · rcases hor with ⟨rfl, rfl⟩ | ⟨rfl, rfl⟩
          · exact .inl hJ.rc
          · exact .inr hJ.rc
        have HI4 := Lib.hid (hJ.isIn.kept hk4)
        have HS4 := Lib.hid (hJ.sl.kept hk4)
        have HF4 := Lib.hid (And.intro hJ.far (And.intro hJ.rt HM.out.both.nb))
        have HX4 := Lib.hid (hJ.x.kept hk4)
        have HN4 := Lib.hid (hJ.n.kept hk4)
        have HD4 := Lib.hid (hJ.dfr.kept hk4 hDL)
        have HC4 := Lib.hid (Chg.trans hJ.chg hk4.chg fun i _ e => .inr (.inr (.inr e)))
        have hle2 := hJ.rt.len
        have HNo := Lib.hid hno
        clear hJ hor hk4 hno
        have hout : ∀ j, j < W3.heap.size → ¬ (BF W3.heap.size A2 j ∨ j = W3.heap.size + 1 ∨ j = wo.heap.size ∨ j = L) := fun j hj e => by
          rcases e with e | e | e | e
          · have := HM.out.new j e; omega
          all_goals omega
        have HBN4 := Lib.hid (((BN.out.grew HM.out.grew).grew HG1.out).chg HC4.out (hout _ (by omega)))
        have HBS4 := Lib.hid (((BS.out.grew HM.out.grew).grew HG1.out).chg HC4.out (hout _ (by omega)))
        have HBR4 := Lib.hid (((BR.out.grew HM.out.grew).grew HG1.out).chg HC4.out (hout _ (by omega)))
        have hcw4 := HC4.out.size
        obtain ⟨c0, f0, s0⟩ := HX4.out.facts
        clear hout
        have hGw : Grew w w4 := by
          refine Chg.mono (Chg.trans (F := fun j => w.heap.size ≤ j) (Grew.trans (Grew.trans HG3.out HM.out.grew) HG1.out).chg HC4.out fun i hi e => ?_) fun i hi e => absurd e (by omega)
          rcases e with e | e | e | e
          · have := HM.out.new i e; omega
          all_goals omega
        go_wp2_with (go_at_call 21; refine (rfirst_any nx ls Ar cr _ HS4.out (by omega) _ rfl).mono ?_; rintro e w6 ⟨rfl, hg6⟩; have HG6 := Lib.hid hg6; clear hg6 c0 f0 s0; obtain ⟨c0, f0, s0⟩ := (HX4.out.grew HG6.out).facts; obtain ⟨c1, f1, s1⟩ := (HBN4.out.grew HG6.out).facts; obtain ⟨c2, f2, s2⟩ := (HBS4.out.grew HG6.out).facts; obtain ⟨c3, f3, s3⟩ := (HN4.out.grew HG6.out).facts; obtain ⟨c4, f4, s4⟩ := (HBR4.out.grew HG6.out).facts)
        by_cases hms : m = stop
        · have t1 : (m == stop) = true := by simpa using hms
          have t1' : (m != stop) = false := by simpa using hms
          generalize firstI ls = fi
          go_quiet (fail)
          clear c1 f1 s1 c2 f2 s2 c3 f3 s3 c4 f4 s4
          have HG6' := Lib.hid (show Grew w4 (w6.drewN nq) from HG6.out.drewN nq)
          go_wp2_with (first
            | (go_at_call 13; refine (same_any W3.heap.size nx ls A2 _ _ cr _ ⟨HI4.out.grew HG6'.out, HS4.out.grew HG6'.out, HF4.out.1, HF4.out.2.1, HF4.out.2.2⟩).mono ?_; rintro e w8 ⟨rfl, hg8⟩; have HG8 := Lib.hid (Grew.trans HG6'.out hg8); clear hg8)
            | (go_at_call 8; refine (awake_any _).mono ?_; rintro e w9 ⟨rfl, hg9⟩; have HG9 := Lib.hid (Grew.trans HG8.out hg9); clear hg9; obtain ⟨c4, f4, s4⟩ := (HBR4.out.grew HG9.out).facts))
          clear c0 f0 s0 c4 f4 s4
          refine postM_ret1 (v := .bool true) (D := D) ?_ rfl fun w5 hk5 => ?_
          · refine (HD4.out.grew HG9.out).chg (F := fun j => j = w.heap.size + 2) ?_ ?_
            · (repeat (first | (with_reducible exact (Chg.refl _ _)) | (with_reducible refine Chg.alloc ?_ _) | (with_reducible refine Chg.drew ?_) | (with_reducible refine Chg.drewN ?_ _) | ((with_reducible refine Chg.setCell ?_ ?hp _); (case hp => (intro _; rfl)))))
            · show ¬ D = w.heap.size + 2
              omega
          · refine ⟨?_, rfl, ?_⟩
            · obtain ⟨c2, f2, s2⟩ : (∀ i, w5.cell? ⟨w.heap.size + 2, i, none⟩ = #[Value.bool true][i]?) ∧ (∀ i, w5.frozen? ⟨w.heap.size + 2, i, none⟩ = false) ∧ w.heap.size + 2 < w5.heap.size := (Blk.kept (t := 4) (by (repeat (first | (with_reducible exact (HBR4.out.grew HG9.out)) | (with_reducible apply Blk.drew) | (with_reducible apply Blk.drewN) | (with_reducible apply Blk.alloc) | (with_reducible apply Blk.putTo) | (with_reducible apply Blk.far))); (all_goals first | rfl | (simp; done) | (simp; omega))) hk5).facts
              simp [results, Try.results6, go_sem, c2, s2]
            · refine Chg.kept ?_ hk5 (by omega)
              (repeat (first | (with_reducible exact (Grew.trans hGw HG9.out)) | (with_reducible refine Chg.alloc ?_ _) | (with_reducible refine Chg.drew ?_) | (with_reducible refine Chg.drewN ?_ _) | ((with_reducible refine Chg.setCell ?_ ?hp _); (case hp => (intro h; exfalso; simp at h; try omega)))))
        · have t1 : (m == stop) = false := by simpa using hms
          have t1' : (m != stop) = true := by simpa using hms
          by_cases hp : 0 < ls.length
          · obtain ⟨x, hx⟩ := fstI_in hp
            have hend : now < x.ends := (HNo.out.resolve_left hms) x hx
            obtain ⟨k, hk⟩ : ∃ k, fstI ls ls.length = k := ⟨_, rfl⟩
            rw [hk] at hx
            have hfi : firstI ls = (k : Int) := by unfold firstI; rw [if_neg (by omega), hk]
            rw [hfi]
            have hkl : k < ls.length := (List.getElem?_eq_some_iff.1 hx).1
            obtain ⟨g, off, hAr, hgb, d0, d1, d2, d3, d4, d5, d6⟩ := (HS4.out.grew HG6.out).atAuc hx
            subst hAr
            have t2 : decide ((0 : Int) ≤ (k : Int)) = true := decide_eq_true (Int.natCast_nonneg _)
            have t3 : (0 : Int) ≤ (k : Int) := Int.natCast_nonneg _
            have t4 : (k : Int) < (ls.length : Int) := by omega
            have t5 : decide (x.ends ≤ now) = false := decide_eq_false (by omega)
            go_quiet (fail)
            clear c1 f1 s1 c2 f2 s2 c3 f3 s3 c4 f4 s4
            have HG6' := Lib.hid (show Grew w4 (w6.drewN nq) from HG6.out.drewN nq)
            go_wp2_with (first
              | (go_at_call 13; refine (same_any W3.heap.size nx ls A2 _ _ cr _ ⟨HI4.out.grew HG6'.out, HS4.out.grew HG6'.out, HF4.out.1, HF4.out.2.1, HF4.out.2.2⟩).mono ?_; rintro e w8 ⟨rfl, hg8⟩; have HG8 := Lib.hid (Grew.trans HG6'.out hg8); clear hg8)
              | (go_at_call 8; refine (awake_any _).mono ?_; rintro e w9 ⟨rfl, hg9⟩; have HG9 := Lib.hid (Grew.trans HG8.out hg9); clear hg9; obtain ⟨c4, f4, s4⟩ := (HBR4.out.grew HG9.out).facts))
            clear c0 f0 s0 c4 f4 s4
            refine postM_ret1 (v := .bool true) (D := D) ?_ rfl fun w5 hk5 => ?_
            · refine (HD4.out.grew HG9.out).chg (F := fun j => j = w.heap.size + 2) ?_ ?_
              · (repeat (first | (with_reducible exact (Chg.refl _ _)) | (with_reducible refine Chg.alloc ?_ _) | (with_reducible refine Chg.drew ?_) | (with_reducible refine Chg.drewN ?_ _) | ((with_reducible refine Chg.setCell ?_ ?hp _); (case hp => (intro _; rfl)))))
              · show ¬ D = w.heap.size + 2
                omega
            · refine ⟨?_, rfl, ?_⟩
              · obtain ⟨c2, f2, s2⟩ : (∀ i, w5.cell? ⟨w.heap.size + 2, i, none⟩ = #[Value.bool true][i]?) ∧ (∀ i, w5.frozen? ⟨w.heap.size + 2, i, none⟩ = false) ∧ w.heap.size + 2 < w5.heap.size := (Blk.kept (t := 4) (by (repeat (first | (with_reducible exact (HBR4.out.grew HG9.out)) | (with_reducible apply Blk.drew) | (with_reducible apply Blk.drewN) | (with_reducible apply Blk.alloc) | (with_reducible apply Blk.putTo) | (with_reducible apply Blk.far))); (all_goals first | rfl | (simp; done) | (simp; omega))) hk5).facts
                simp [results, Try.results6, go_sem, c2, s2]
              · refine Chg.kept ?_ hk5 (by omega)
                (repeat (first | (with_reducible exact (Grew.trans hGw HG9.out)) | (with_reducible refine Chg.alloc ?_ _) | (with_reducible refine Chg.drew ?_) | (with_reducible refine Chg.drewN ?_ _) | ((with_reducible refine Chg.setCell ?_ ?hp _); (case hp => (intro h; exfalso; simp at h; try omega)))))
          · have hfi : firstI ls = -1 := by unfold firstI; rw [if_pos (by omega)]
            rw [hfi]
            have t2 : decide ((0 : Int) ≤ -1) = false := by decide
            go_quiet (fail)
            clear c1 f1 s1 c2 f2 s2 c3 f3 s3 c4 f4 s4
            have HG6' := Lib.hid (show Grew w4 (w6.drewN nq) from HG6.out.drewN nq)
            go_wp2_with (first
              | (go_at_call 13; refine (same_any W3.heap.size nx ls A2 _ _ cr _ ⟨HI4.out.grew HG6'.out, HS4.out.grew HG6'.out, HF4.out.1, HF4.out.2.1, HF4.out.2.2⟩).mono ?_; rintro e w8 ⟨rfl, hg8⟩; have HG8 := Lib.hid (Grew.trans HG6'.out hg8); clear hg8)
              | (go_at_call 8; refine (awake_any _).mono ?_; rintro e w9 ⟨rfl, hg9⟩; have HG9 := Lib.hid (Grew.trans HG8.out hg9); clear hg9; obtain ⟨c4, f4, s4⟩ := (HBR4.out.grew HG9.out).facts))
            clear c0 f0 s0 c4 f4 s4
            refine postM_ret1 (v := .bool true) (D := D) ?_ rfl fun w5 hk5 => ?_
            · refine (HD4.out.grew HG9.out).chg (F := fun j => j = w.heap.size + 2) ?_ ?_
              · (repeat (first | (with_reducible exact (Chg.refl _ _)) | (with_reducible refine Chg.alloc ?_ _) | (with_reducible refine Chg.drew ?_) | (with_reducible refine Chg.drewN ?_ _) | ((with_reducible refine Chg.setCell ?_ ?hp _); (case hp => (intro _; rfl)))))
              · show ¬ D = w.heap.size + 2
                omega
            · refine ⟨?_, rfl, ?_⟩
              · obtain ⟨c2, f2, s2⟩ : (∀ i, w5.cell? ⟨w.heap.size + 2, i, none⟩ = #[Value.bool true][i]?) ∧ (∀ i, w5.frozen? ⟨w.heap.size + 2, i, none⟩ = false) ∧ w.heap.size + 2 < w5.heap.size := (Blk.kept (t := 4) (by (repeat (first | (with_reducible exact (HBR4.out.grew HG9.out)) | (with_reducible apply Blk.drew) | (with_reducible apply Blk.drewN) | (with_reducible apply Blk.alloc) | (with_reducible apply Blk.putTo) | (with_reducible apply Blk.far))); (all_goals first | rfl | (simp; done) | (simp; omega))) hk5).facts
                simp [results, Try.results6, go_sem, c2, s2]
              · refine Chg.kept ?_ hk5 (by omega)
                (repeat (first | (with_reducible exact (Grew.trans hGw HG9.out)) | (with_reducible refine Chg.alloc ?_ _) | (with_reducible refine Chg.drew ?_) | (with_reducible refine Chg.drewN ?_ _) | ((with_reducible refine Chg.setCell ?_ ?hp _); (case hp => (intro h; exfalso; simp at h; try omega)))))

end Go.Proofs.Ytbmogbbenfpmiaa
