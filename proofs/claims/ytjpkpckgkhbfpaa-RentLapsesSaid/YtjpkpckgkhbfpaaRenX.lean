/- RentLapses. -/
import Derived.Test.YtjpkpckgkhbfpaaRenW
import Derived.Test.YtjpkpckgkhbfpaaRangeH
namespace Go.Proofs.Ytjpkpckgkhbfpaa
open Go.RowKit Go.Maps
attribute [local go_sem] Oper.semAt_some
/-- The wide fence lets every function in. -/
theorem wide_fn (f : FuncId) : Fence.wide.fn f ↔ True := Iff.rfl
attribute [local simp] wide_fn

set_option maxRecDepth 100000 in
set_option maxHeartbeats 400000 in
theorem rlap_out (l : List Rop) (now stop : Int) (A : Option Addr) (c : Nat) (w : World) (hl : l.length > 80) (hln : (l.length : Int) ≤ 9223372036854775807) :
    Calls Try.prog 6 #[.slice A l.length c, .int .i64 now, .int .i64 stop] w fun e w' => e = .returned (.bool true) ∧ Grew w w' := by
  (refine calls_of_marks Try.func6 rfl ?_; simp only [Try.ntmps6, List.size_toArray, List.length_cons, List.length_nil, Nat.reduceAdd, Nat.reduceSub, Array.replicate_succ, Array.replicate_zero, List.push_toArray, List.append_toArray, List.nil_append, List.cons_append])
  go_wp2_with fail
  obtain ⟨W3, hW3⟩ : ∃ W3, ((w.alloc (.cells #[.int .i64 now] 3)).alloc (.cells #[.int .i64 stop] 3)).alloc (.cells #[.bool false] 4) = W3 := ⟨_, rfl⟩
  have HG3 := Lib.hid (show Grew w W3 from hW3 ▸ (((Chg.refl _ _).alloc _).alloc _).alloc _)
  have BR := Lib.hid (show Blk W3 (w.heap.size + 2) 4 #[.bool false] from hW3 ▸ (by have := Blk.new ((w.alloc (.cells #[.int .i64 now] 3)).alloc (.cells #[.int .i64 stop] 3)) 4 #[.bool false]; simpa using this))
  rw [hW3]
  clear hW3
  go_wp2_with (first
    | (go_at_call 9; refine (rnew_any _).mono ?_; rintro e w1 ⟨rfl, h1⟩; have H1 := Lib.hid (RM.made (Chg.refl _ _) h1); clear h1)
    | (go_at_call 8; refine (rawake_any _).mono ?_; rintro e w2 ⟨rfl, hg2⟩; have HG4 := Lib.hid (Grew.trans H1.out.grew hg2); clear hg2; obtain ⟨c2, f2, s2⟩ := (BR.out.grew HG4.out).facts))
  refine postM_ret0 (v := .bool true) (by simp [results, Try.results6, go_sem, c2, s2]) rfl ⟨rfl, ?_⟩
  have := HG3.out.size
  (repeat (first | (with_reducible exact (Grew.trans HG3.out HG4.out)) | (with_reducible refine Chg.alloc ?_ _) | (with_reducible refine Chg.drew ?_) | (with_reducible refine Chg.drewN ?_ _) | ((with_reducible refine Chg.setCell ?_ ?hp _); (case hp => (intro h; exfalso; simp at h; try omega)))))

section
variable {w : Bs} {W W' : World} {b V k K D L : Nat} {x x' y y' : List Rw} {A A' : Option Addr} {c c' : Nat} {m m' : Int} {r : Loop} {st st' : LoopState} {pe pe' : Option Code}
theorem SR.other {C : Nat → Prop} (h : SR w W b x y k A) (hc : Chg C W W') (h1 : ∀ j, w.F j → ¬ C j) (h2 : ∀ j, C j → w.G j) (h3 : 0 < y.length → ∀ a, A = some a → ¬ C a.block) : SR w W' b x y k A := by
  obtain ⟨F, g1, g2, g3, g4, g5⟩ := h
  refine ⟨F, g1.chg hc fun j hj => h1 j (g3 j hj), Chg.trans g2 hc fun i _ e => h2 i e, g3, ?_, g5⟩
  by_cases hy : 0 < y.length
  · exact g4.chg hc (h3 hy)
  · obtain rfl : y = [] := List.eq_nil_of_length_eq_zero (by omega)
    exact Sl.nil _ _ _
theorem Sl.ne_one {W : World} {A : Option Addr} {xs : List Rw} {V : Nat} {t : TypeId} {u : Value} (h : Sl W 3 A xs.length (xs.flatMap Rw.vals)) (hb : Blk W V t #[u]) (hx : 0 < xs.length) : ∀ a, A = some a → a.block ≠ V := by
  obtain ⟨r, hr⟩ : ∃ r, xs[0]? = some r := ⟨_, List.getElem?_eq_getElem hx⟩
  obtain ⟨g, off, rfl, hg, -, d1, -⟩ := h.atRw hr
  intro a ha e
  cases ha
  simp only at e
  subst e
  rw [hb.cell] at d1
  simp at d1

/-- The rents x, the list y in V's cell, the count m, and the loop. -/
structure LapP (w : Bs) (W : World) (b V : Nat) (x y : List Rw) (k : Nat) (A : Option Addr) (c : Nat) (m : Int) (K D L : Nat) (r : Loop) (st : LoopState) (pe : Option Code) : Prop where
  s : SR w W b x y k A
  vb : Blk W V 37 #[.slice A y.length c]
  kb : Blk W K 3 #[.int .i64 m]
  dfr : Dfr W D
  rc : Rec W L (Loop.at_ r st pe)
  far : ¬ w.F V ∧ ¬ w.F K ∧ ¬ w.F D ∧ ¬ w.F L
  may : w.G V ∧ w.G K ∧ w.G L
  ne : V ≠ K ∧ L ≠ K ∧ L ≠ V ∧ D ≠ V ∧ D ≠ K ∧ D ≠ L
theorem LapP.grew (h : LapP w W b V x y k A c m K D L r st pe) (hg : Grew W W') : LapP w W' b V x y k A c m K D L r st pe :=
  ⟨h.s.on hg, h.vb.grew hg, h.kb.grew hg, h.dfr.grew hg, h.rc.grew hg, h.far, h.may, h.ne⟩
theorem LapP.kept (h : LapP w W b V x y k A c m K D L r st pe) (hk : Kept L W W') (hR : Rec W' L (Loop.at_ r st' pe')) : LapP w W' b V x y k A c m K D L r st' pe' :=
  ⟨h.s.other hk.chg (fun j hj e => h.far.2.2.2 (e ▸ hj)) (fun j e => e ▸ h.may.2.2) (fun hy a ha e => h.s.sl.noBook (by omega) hy a ha (e ▸ hk.book)), h.vb.kept hk, h.kb.kept hk, h.dfr.kept hk h.ne.2.2.2.2.2, hR, h.far, h.may, h.ne⟩
theorem LapP.at (h : LapP w W b V x y k A c m K D L r st pe) : ∃ F, RS W b F x k ∧ ∀ W' z, RTo W W' b F z k → LapP w W' b V z y k A c m K D L r st pe := by
  obtain ⟨F, h1, h2, h3, h4, h5⟩ := h.s
  obtain ⟨F2, g1, g2⟩ := SR.at (w := w) (W := W) (b := b) (x := x) (y := y) (k := k) (A := A) ⟨F, h1, h2, h3, h4, h5⟩
  refine ⟨F, h1, fun W' z ht => ?_⟩
  have hs : SR w W' b z y k A := by
    obtain ⟨F', e1, e2, e3⟩ := ht
    refine ⟨F', e1, Chg.trans h2 e2 fun i hi hf => w.sub i (h3 i hf), fun j hj => ?_, ?_, fun hy a ha hf => ?_⟩
    · rcases e3 j hj with e | e
      · exact h3 j e
      · exact w.up j (Nat.le_trans h2.size e)
    · by_cases hy : 0 < y.length
      · exact h4.chg e2 (h5 hy)
      · obtain rfl : y = [] := List.eq_nil_of_length_eq_zero (by omega)
        exact Sl.nil _ _ _
    · rcases e3 _ hf with e | e
      · exact h5 hy a ha e
      · obtain ⟨g, off, rfl, hb, -⟩ := h4.2 hy
        cases ha
        simp only [] at e
        omega
  have hc := ht.chg
  exact ⟨hs, h.vb.chg hc fun e => h.far.1 (h3 _ e), h.kb.chg hc fun e => h.far.2.1 (h3 _ e), h.dfr.chg hc fun e => h.far.2.2.1 (h3 _ e), h.rc.chg hc fun e => h.far.2.2.2 (h3 _ e), h.far, h.may, h.ne⟩
theorem LapP.store (h : LapP w W b V x y k A c m K D L r st pe) {W3 : World} (hg : Grew W W3) (hs : Sl W3 3 A' y'.length (y'.flatMap Rw.vals)) (hn : ∀ a, A' = some a → W.heap.size ≤ a.block)
    (hW : W3.setCell ⟨V, 0, none⟩ (.slice A' y'.length c') = W') : LapP w W' b V x y' k A' c' m K D L r st pe := by
  have hc : Chg (fun j => j = V) W3 W' := hW ▸ (Chg.refl (fun j => j = V) W3).setCell (p := ⟨V, 0, none⟩) (fun _ => rfl) _
  have h3 := h.grew hg
  have hV := h.vb.lt
  have hs3 := (h.s.list hg hs hn).other hc (fun j hj e => h.far.1 (e ▸ hj)) (fun j e => e ▸ h.may.1) (fun _ a ha e => by have := hn a ha; omega)
  refine ⟨hs3, ?_, h3.kb.chg hc (Ne.symm h.ne.1), h3.dfr.chg hc h.ne.2.2.2.1, h3.rc.chg hc h.ne.2.2.1, h.far, h.may, h.ne⟩
  subst hW
  have := h3.vb.put 0 (.slice A' y'.length c')
  simpa using this
theorem LapP.count (h : LapP w W b V x y k A c m K D L r st pe) (hW : W.setCell ⟨K, 0, none⟩ (.int .i64 m') = W') : LapP w W' b V x y k A c m' K D L r st pe := by
  have hc : Chg (fun j => j = K) W W' := hW ▸ (Chg.refl (fun j => j = K) W).setCell (p := ⟨K, 0, none⟩) (fun _ => rfl) _
  refine ⟨h.s.other hc (fun j hj e => h.far.2.1 (e ▸ hj)) (fun j e => e ▸ h.may.2.1) (fun hy => Sl.ne_one h.s.sl h.kb hy), h.vb.chg hc h.ne.1, ?_, h.dfr.chg hc h.ne.2.2.2.2.1, h.rc.chg hc h.ne.2.1, h.far, h.may, h.ne⟩
  subst hW
  have := h.kb.put 0 (.int .i64 m')
  simpa using this
end

theorem SR.at_ {w : Bs} {W : World} {b k : Nat} {x y : List Rw} {A : Option Addr} (h : SR w W b x y k A) : SR (w.at_ W h.chg.size) W b x y k A := by
  obtain ⟨F, h1, h2, h3, h4, h5⟩ := h
  exact ⟨F, h1, Chg.refl _ _, h3, h4, h5⟩
theorem SR.back {w : Bs} {W W' : World} {b k k' : Nat} {x y x' y' : List Rw} {A A' : Option Addr} (h : SR w W b x y k A) (h' : SR (w.at_ W h.chg.size) W' b x' y' k' A') : SR w W' b x' y' k' A' ∧ Chg w.F W W' := by
  have hc : Chg w.F W W' := h'.chg
  obtain ⟨F, h1, h2, h3, h4, h5⟩ := h'
  exact ⟨⟨F, h1, Chg.trans h.chg hc fun i _ e => w.sub i e, h3, h4, h5⟩, hc⟩
/-- .. ahead of the range. -/
structure LapS (w : Bs) (W : World) (b V : Nat) (x : List Rw) (k : Nat) (A : Option Addr) (c : Nat) : Prop where
  s : SR w W b x x k A
  vb : Blk W V 37 #[.slice A x.length c]
  far : ¬ w.F V
  may : w.G V
theorem LapS.store {w : Bs} {W W' : World} {b V k : Nat} {x : List Rw} {A : Option Addr} {c : Nat} {u : Value} (h : SR w W b x x k A) (hv : Blk W V 37 #[u]) (hf : ¬ w.F V) (hG : w.G V)
    (hW : W.setCell ⟨V, 0, none⟩ (.slice A x.length c) = W') : LapS w W' b V x k A c := by
  have hc : Chg (fun j => j = V) W W' := hW ▸ (Chg.refl (fun j => j = V) W).setCell (p := ⟨V, 0, none⟩) (fun _ => rfl) _
  refine ⟨h.other hc (fun j hj e => hf (e ▸ hj)) (fun j e => e ▸ hG) (fun hx => Sl.ne_one h.sl hv hx), ?_, hf, hG⟩
  subst hW
  have := hv.put 0 (.slice A x.length c)
  simpa using this
/-- Between two rounds. -/
def LapJ (w : Bs) (b V K D L : Nat) (r : Loop) (n : Nat) (W : World) : Prop :=
  ∃ x k A c m, LapP w W b V x x k A c m K D L r .ready none ∧ rising x ∧ (k ≤ 80 ∧ 0 ≤ m ∧ m + x.length ≤ 1000) ∧ x.length = n
/-- Behind the range: none has lapsed any more, or it was left. -/
def LapX (w : Bs) (b V K D L : Nat) (r : Loop) (now stop : Int) (st : LoopState) (pe : Option Code) (W : World) : Prop :=
  ∃ x k A c m, LapP w W b V x x k A c m K D L r st pe ∧ rising x ∧ (k ≤ 80 ∧ 0 ≤ m ∧ m + x.length ≤ 1000) ∧ (m = stop ∨ ∀ o, Least x o → stageI o.due now < 5)

theorem rangeEnd_block {P : Program} {l id : Nat} {r : Loop} {Q : Exit → Act → World → Prop} {a : Act} {w3 : World}
    (h : Rec w3 l (Loop.at_ r .ready none) ∨ Rec w3 l (Loop.at_ r .done (some (.exit id)))) (hk : ∀ w4, Kept l w3 w4 → Q .normal a w4) : rangeEnd P l r (Exit.inBlock id Q) a w3 := by
  rcases h with h | h
  · exact .inl ⟨h, fun w4 k => hk w4 k⟩
  · exact .inr ⟨_, h, fun w4 k => wp_exit (by simpa [Exit.inBlock] using hk w4 k)⟩
theorem stageI_le (due now : Int) : stageI due now ≤ 5 := by
  unfold stageI
  repeat' split
  all_goals omega

set_option maxRecDepth 100000 in
set_option maxHeartbeats 3200000 in
theorem rlap_in (l : List Rop) (now stop : Int) (A : Option Addr) (c : Nat) (w : World) (hl : l.length ≤ 80) (hs : Sl w 4 A l.length (l.flatMap Rop.vals)) (hok : ∀ r ∈ l, r.ok) (hnw : -9223372036854775808 ≤ now ∧ now ≤ 9223372036854775807) :
    Calls Try.prog 6 #[.slice A l.length c, .int .i64 now, .int .i64 stop] w fun e w' => e = .returned (.bool true) ∧ Grew w w' := by
  have hl' : (l.length : Int) ≤ 80 := by omega
  obtain ⟨W3, hW3⟩ : ∃ W3, ((w.alloc (.cells #[.int .i64 now] 3)).alloc (.cells #[.int .i64 stop] 3)).alloc (.cells #[.bool false] 4) = W3 := ⟨_, rfl⟩
  have HG3 := Lib.hid (show Grew w W3 from hW3 ▸ (((Chg.refl _ _).alloc _).alloc _).alloc _)
  have BN := Lib.hid (show Blk W3 w.heap.size 3 #[.int .i64 now] from hW3 ▸ ((Blk.new _ _ _).alloc _).alloc _)
  have BS := Lib.hid (show Blk W3 (w.heap.size + 1) 3 #[.int .i64 stop] from hW3 ▸ (by have := (Blk.new (w.alloc (.cells #[.int .i64 now] 3)) 3 #[.int .i64 stop]).alloc (.cells #[.bool false] 4); simpa using this))
  have BR := Lib.hid (show Blk W3 (w.heap.size + 2) 4 #[.bool false] from hW3 ▸ (by have := Blk.new ((w.alloc (.cells #[.int .i64 now] 3)).alloc (.cells #[.int .i64 stop] 3)) 4 #[.bool false]; simpa using this))
  have Hs := Lib.hid (And.intro (hs.grew HG3.out) hok)
  have HNw := Lib.hid hnw
  have HW := Lib.hid hW3
  obtain ⟨b, hb⟩ : ∃ b, W3.heap.size + 4 = b := ⟨_, rfl⟩
  have Hb := Lib.hid hb
  clear hs hok hW3 hb hnw
  (refine calls_of_marks Try.func6 rfl ?_; simp only [Try.ntmps6, List.size_toArray, List.length_cons, List.length_nil, Nat.reduceAdd, Nat.reduceSub, Array.replicate_succ, Array.replicate_zero, List.push_toArray, List.append_toArray, List.nil_append, List.cons_append])
  go_wp2_with (first
    | (rw [HW.out])
    | (go_at_call 9; refine (rnew_any _).mono ?_; rintro e w1 ⟨rfl, h1⟩; have H1 := Lib.hid (RM.made (Chg.refl _ _) h1); clear h1; rw [Hb.out] at H1 ⊢))
  obtain ⟨V, hV⟩ : ∃ V, w1.heap.size = V := ⟨_, rfl⟩
  obtain ⟨W5, hW5⟩ : ∃ W5, w1.alloc (.cells #[.slice none 0 0] 37) = W5 := ⟨_, rfl⟩
  rw [hW5, hV]
  have hz5 : W5.heap.size = V + 1 := by rw [← hW5, ← hV]; simp
  have hg15 : Grew w1 W5 := hW5 ▸ (Chg.refl _ _).alloc _
  have hg35 := Grew.trans H1.out.grew hg15
  have hVb : Blk W5 V 37 #[.slice none 0 0] := hW5 ▸ hV ▸ Blk.new _ _ _
  have hV3 : W3.heap.size ≤ V := by have := H1.out.grew.size; omega
  have hv : ∀ k, k = V → k < W5.heap.size := fun k hk => by omega
  have hB2 : W3.heap.size ≤ W5.heap.size := hg35.size
  obtain ⟨B5, hB5⟩ : ∃ B5 : Bs, (⟨W5, fun k => W3.heap.size ≤ k ∧ k ≠ V, fun k => W3.heap.size ≤ k, fun k h => ⟨by omega, by omega⟩, fun k h => h.1⟩ : Bs) = B5 := ⟨_, rfl⟩
  have h5 : SR B5 W5 b [] [] 0 none := by
    obtain ⟨F, g1, g2, g3⟩ := H1.out
    subst hB5
    exact ⟨F, g1.grew hg15, Chg.refl _ _, fun j hj => ⟨g3 j hj, fun e => by have := g1.lt j hj; omega⟩, Sl.nil _ _ _, fun h => absurd h (by simp)⟩
  have hB5F : ∀ k, B5.F k → W3.heap.size ≤ k ∧ k ≠ V := by subst hB5; intro k hk; exact ⟨hk.1, hk.2⟩
  have hB5G : ∀ k, B5.G k ↔ W3.heap.size ≤ k := by subst hB5; intro k; exact Iff.rfl
  have hB5w : B5.w = W5 := by subst hB5; rfl
  have H5 := Lib.hid (And.intro h5 hVb)
  have HB5 := Lib.hid (And.intro hB5F (And.intro hB5G hB5w))
  have HG5 := Lib.hid hg35
  have hVf : ¬ B5.F V := fun e => (hB5F V e).2 rfl
  have hVG : B5.G V := (hB5G V).2 hV3
  have HVF := Lib.hid (And.intro hVf hVG)
  have hV5 : V < W5.heap.size := by omega
  clear hW5 hV hg15 hg35 hVb hv hB5 h5 hB5F hB5G hB5w hz5 hVf hVG
  go_loopw [30] (fun i wr => ∃ (k : Nat) (x : List Rw) (Ax : Option Addr) (cx : Nat), k ≤ l.length ∧ i = .int .i64 k ∧ LapS B5 wr b V x k Ax cx ∧ rising x) (fun i _ => l.length - (intOf i).toNat)
  case atStart => exact ⟨0, [], none, 0, by omega, rfl, ⟨H5.out.1, H5.out.2, HVF.out.1, HVF.out.2⟩, List.Pairwise.nil⟩
  case round =>
    obtain ⟨k, x, Ax, cx, hk, rfl, hS, hx⟩ := hrel
    have HS := Lib.hid (And.intro hS hx)
    have hc := hS.s.chg
    rw [HB5.out.2.2] at hc
    have hgw : Grew W3 wr := Chg.mono (Grew.then HG5.out hc) fun i hi e => absurd ((HB5.out.2.1 i).1 e) (by omega)
    have HG := Lib.hid hgw
    have hsz := hc.size
    clear hS hx hc hgw
    obtain ⟨c0, f0, s0⟩ := HS.out.1.vb.facts
    by_cases hlt : k < l.length
    · obtain ⟨o, ho⟩ : ∃ o, l[k]? = some o := ⟨_, List.getElem?_eq_getElem hlt⟩
      obtain ⟨g, off, rfl, hb, d0, d1, d2, d3⟩ := (Hs.out.1.grew HG.out).atRop ho
      have HO := Lib.hid (Hs.out.2 o (List.mem_of_getElem? ho))
      clear ho
      have H0 := Lib.hid (HS.out.1.s.on ((Chg.refl NoF wr).alloc (.cells #[.int .i64 o.kind, .int .i64 o.house, .int .i64 o.n, .int .i64 o.now] 36)))
      go_wp2_with fail
      refine (rstep_any o _ _ b k x Ax cx H0.out.at_ (by omega) HO.out).mono ?_
      rintro e w5 ⟨A5, c5, rfl, h5⟩
      have H5b := Lib.hid (H0.out.back h5)
      have HVb := Lib.hid ((HS.out.1.vb.alloc (.cells #[.int .i64 o.kind, .int .i64 o.house, .int .i64 o.n, .int .i64 o.now] 36)).chg H5b.out.2 HS.out.1.far)
      clear h5 c0 f0 s0 d0 d1 d2 d3
      obtain ⟨c0, f0, s0⟩ := HVb.out.facts
      go_wp2_with fail
      exact ⟨⟨k + 1, stepL x o, A5, c5, by omega, by simp, LapS.store H5b.out.1 HVb.out HS.out.1.far HS.out.1.may rfl, stepL_rising HS.out.2 o⟩, by simp [intOf]; omega⟩
    · obtain rfl : k = l.length := by omega
      obtain ⟨wo, rfl⟩ : ∃ wo : World, wo = wr := ⟨_, rfl⟩
      obtain ⟨c1, f1, s1⟩ := (BN.out.grew HG.out).facts
      clear hk hlt
      have hi5 : w.heap.size + 3 ≤ W3.heap.size := by have := BR.out.lt; omega
      have hV3' : W3.heap.size ≤ V := hV3
      have hVo : V < wo.heap.size := HS.out.1.vb.lt
      obtain ⟨K, hK⟩ : ∃ K, wo.heap.size = K := ⟨_, rfl⟩
      have s1' : w.heap.size < K := by omega
      rw [hK] at s1
      obtain ⟨W4, hW4⟩ : ∃ W4, ((wo.alloc (.cells #[.int .i64 0] 3)).alloc (.cells #[.pointer (some ⟨b, 0, none⟩)] 23)).alloc (.cells #[.int .i64 now] 3) = W4 := ⟨_, rfl⟩
      go_wp2_with (go_at_call 20; refine (lapsed_any b now _ W4 hW4).mono ?_; rintro e w5 ⟨rfl, rfl⟩)
      have HG4 := Lib.hid (show Grew wo W4 from hW4 ▸ (((Chg.refl _ _).alloc _).alloc _).alloc _)
      have B4n := Lib.hid (show Blk W4 K 3 #[.int .i64 0] from hW4 ▸ hK ▸ ((Blk.new _ _ _).alloc _).alloc _)
      have B4b := Lib.hid (show Blk W4 (K + 1) 23 #[.pointer (some ⟨b, 0, none⟩)] from hW4 ▸ hK ▸ (by have := (Blk.new (wo.alloc (.cells #[.int .i64 0] 3)) 23 #[.pointer (some ⟨b, 0, none⟩)]).alloc (.cells #[.int .i64 now] 3); simpa using this))
      have B4w := Lib.hid (show Blk W4 (K + 2) 3 #[.int .i64 now] from hW4 ▸ hK ▸ (by have := Blk.new ((wo.alloc (.cells #[.int .i64 0] 3)).alloc (.cells #[.pointer (some ⟨b, 0, none⟩)] 23)) 3 #[.int .i64 now]; simpa using this))
      have HK := Lib.hid hK
      rw [hK] at hVo hsz
      clear hW4 hK c0 f0 s0 c1 f1 s1
      refine wp_range (gf := 37) (lb := #[.pointer (some ⟨K + 1, 0, none⟩), .pointer (some ⟨K + 1 + 1, 0, none⟩)]) (by simp [Act.eval]) (enters_of Try.func37 (by kernel_rfl) rfl) ?_
      intro r Wr D L hr hg1 hDl hLl hD hR
      have HR1 := Lib.hid hr
      have hDL := Ne.symm (hR.ne_dfr hD)
      have hz4 := B4w.out.lt
      have hz6 := hg1.size
      have hL2 := hR.lt
      have hD2 := hD.lt
      have HG1 := Lib.hid (Grew.trans HG4.out hg1)
      have HBb := Lib.hid (B4b.out.grew hg1)
      have HBw := Lib.hid (B4w.out.grew hg1)
      have hKs : wo.heap.size = K := HK.out
      obtain ⟨B2, hB⟩ : ∃ B2, B5.rngX K (fun j => j = V ∨ j = K ∨ j = L) Wr = B2 := ⟨_, rfl⟩
      have hBw : B2.w = Wr := by subst hB; rfl
      have hBG : ∀ j, B2.G j → (W3.heap.size ≤ j ∧ j ≠ V ∧ j < K) ∨ Wr.heap.size ≤ j ∨ j = V ∨ j = K ∨ j = L := fun j e => by
        rw [← hB] at e
        rcases e with (⟨e, e1⟩ | e) | e
        · have := HB5.out.1 _ e; exact .inl ⟨this.1, this.2, e1⟩
        · exact .inr (.inl e)
        · exact .inr (.inr e)
      have hBF : ∀ j, B2.F j → (W3.heap.size ≤ j ∧ j ≠ V ∧ j < K) ∨ Wr.heap.size ≤ j := fun j e => by
        rw [← hB] at e
        rcases e with ⟨e, e1⟩ | e
        · have := HB5.out.1 _ e; exact .inl ⟨this.1, this.2, e1⟩
        · exact .inr e
      have HSr := Lib.hid (show SR B2 Wr b x x l.length Ax from by
        obtain ⟨F, g1, g2, g3, g4, g5⟩ := HS.out.1.s
        subst hB
        exact ⟨F, g1.grew HG1.out, Chg.refl _ _, fun j hj => .inl ⟨g3 j hj, by have := g1.lt j hj; omega⟩, g4.grew HG1.out, g5⟩)
      have HJ0 := Lib.hid (show LapP B2 Wr b V x x l.length Ax cx 0 K D L r .ready none from
        ⟨HSr.out, HS.out.1.vb.grew HG1.out, B4n.out.grew hg1, hD, hR,
          ⟨fun e => by rcases hBF _ e with e | e <;> omega, fun e => by rcases hBF _ e with e | e <;> omega, fun e => by rcases hBF _ e with e | e <;> omega, fun e => by rcases hBF _ e with e | e <;> omega⟩,
          ⟨hB ▸ .inr (.inl rfl), hB ▸ .inr (.inr (.inl rfl)), hB ▸ .inr (.inr (.inr rfl))⟩, by omega, by omega, by omega, by omega, by omega, hDL⟩)
      have hlen := HS.out.1.s.len
      have hall : ∀ W, Chg B2.G B2.w W → Grew W3 W ∧ Blk W (K + 1) 23 #[.pointer (some ⟨b, 0, none⟩)] ∧ Blk W (K + 2) 3 #[.int .i64 now] ∧ Wr.heap.size ≤ W.heap.size := by
        intro W hc
        rw [hBw] at hc
        have hg : Grew W3 W := Chg.mono (Grew.then (Grew.trans HG.out HG1.out) hc) fun i hi e => by rcases hBG i e with ⟨e, _⟩ | e | e | e | e <;> omega
        refine ⟨hg, HBb.out.chg hc fun e => ?_, HBw.out.chg hc fun e => ?_, hc.size⟩ <;> rcases hBG _ e with ⟨e, _⟩ | e | e | e | e <;> omega
      have HA := Lib.hid hall
      clear hr hg1 hD hR hall hBG hBF hB hBw
      refine (lapsed_iter (K + 1) (K + 1 + 1) b L x.length now (LapJ B2 b V K D L r) (LapX B2 b V K D L r now stop .ready none) (LapX B2 b V K D L r now stop .done (some (.exit 2))) Wr
        (fun n W hJ => ?hin) ⟨_, _, _, _, _, HJ0.out, HS.out.2, ⟨hl, by omega, by omega⟩, rfl⟩).mono ?post
      case hin =>
        obtain ⟨x, k, A, c, m, hd, hx, hb, hn⟩ := hJ
        have ha := HA.out W hd.s.chg
        obtain ⟨F, hrs, nx⟩ := hd.at
        refine ⟨F, x, k, ha.2.1, ha.2.2.1, hrs, hx, by omega,
          fun hno W' hg => ⟨x, k, A, c, m, hd.grew hg, hx, hb, .inr hno⟩, fun o W' ho hst ht => ⟨n - 1, ?_, ?_⟩⟩
        · have := List.length_pos_of_mem ho.1; omega
        have HD := Lib.hid (nx _ _ ht)
        have HX := Lib.hid (And.intro hx (And.intro ho hst))
        have HFo := Lib.hid (hrs.fits o ho.1)
        have HN := Lib.hid hn
        have hb1 := hb.1
        have hb2 := hb.2.1
        have hb3 := hb.2.2
        clear hd hrs nx hx hn ha ht ho hst hb
        obtain ⟨hr1, hr2, hr3, hr4⟩ := HR1.out
        refine yield_wide HD.out.rc (by rw [hr2]; rfl) ?_
        rw [hr1, hr2, hr3, hr4]
        clear hr1 hr2 hr3 hr4
        intro KK hKK
        have HKK := Lib.hid hKK
        clear hKK
        gi_wp2
        refine HKK.out _ _ HD.out.rc fun W6 Q hk3 hR2 hQ => ?_
        refine Code.wpIn_mono hQ ?_
        have HD6 := Lib.hid (HD.out.kept hk3 hR2)
        clear hQ Q hk3 hR2
        have HA6 := Lib.hid (HA.out W6 HD6.out.s.chg)
        obtain ⟨n1, hn1⟩ := frI_some x x.length (List.length_pos_of_mem HX.out.2.1.1)
        obtain ⟨o', hno', hL'⟩ := frI_is HX.out.1 hn1
        obtain rfl := hL'.uniq HX.out.1.nodup HX.out.2.1
        have hnl := frI_lt x _ n1 hn1
        have e1 : frV (frI x x.length) = (n1 : Int) := by rw [hn1]; rfl
        have HE := Lib.hid (And.intro hno' e1)
        have hfo := HD6.out.s.fits
        obtain ⟨c0, f0, s0⟩ := HD6.out.vb.facts
        have t1 : decide ((n1 : Int) < 0) = false := decide_eq_false (by omega)
        have t2 : decide (stageI o'.due now < 5) = false := decide_eq_false (by have := HX.out.2.2; omega)
        have u1 : (n1 : Int) < (x.length : Int) := by omega
        have u0 : (0 : Int) ≤ (n1 : Int) := by omega
        have hxl : x.length ≤ 1000000 := by omega
        clear hno' hL' hn1 e1 hfo
        gi_wp2_with (refine ⟨rfl, ?_⟩; gi_at_call 21; refine (CallsIn.inRound L (callsIn_wide.2 (xfirst_any x A c _ HD6.out.s.sl hxl))).mono ?_; rintro e w7 ⟨rfl, hg7⟩; rw [HE.out.2]; have HD7 := Lib.hid (HD6.out.grew hg7); clear hg7 c0 f0 s0; obtain ⟨c0, f0, s0⟩ := HD7.out.vb.facts; obtain ⟨c1, f1, s1⟩ := (BN.out.grew (HA.out _ HD7.out.s.chg).1).facts; obtain ⟨g2, o2, rfl, hb2', d0, d1, d2⟩ := HD7.out.s.sl.atRw HE.out.1)
        have r1 := HFo.out.2.2.2.2
        have HNw' := HNw.out
        (refine wpIn_region_quiet_round (by kernel_rfl) (by kernel_rfl) (by kernel_rfl) ?_; (repeat (gi_big_quiet_step (((refine ⟨rfl, ?_⟩; gi_at_call 17; exact CallsIn.quiet_of_same (callsIn_wide.2 ((xstage_any o'.due now _ r1.1 r1.2 HNw'.1 HNw'.2).mono fun _ _ h => ⟨h.1, h.2.symm⟩))))))); refine wpQuietIn_nil ?_; intro _ hw_; obtain ⟨nq, hw2_⟩ := hw_; subst hw2_)
        have HD8 := Lib.hid (HD7.out.grew ((Chg.refl NoF w7).drewN nq))
        clear c0 f0 s0 c1 f1 s1 d0 d1 d2
        obtain ⟨c0, f0, s0⟩ := HD8.out.vb.facts
        gi_wp2
        refine ⟨rfl, ?_⟩
        refine (CallsIn.inRound L (callsIn_wide.2 (xdrop_any o'.house x _ c _ HD8.out.s.sl hxl))).mono ?_
        rintro e w9 ⟨A9, c9, rfl, hs9, hg9, hn9⟩
        have H9 := Lib.hid (And.intro hs9 (And.intro hg9 hn9))
        clear c0 f0 s0
        obtain ⟨c0, f0, s0⟩ := (HD8.out.vb.grew hg9).facts
        obtain ⟨c1, f1, s1⟩ := (HD8.out.kb.grew hg9).facts
        obtain ⟨c2, f2, s2⟩ := ((BS.out.grew (HA.out _ HD8.out.s.chg).1).grew hg9).facts
        have hn1 : ¬ K = V := by omega
        have hn2 : ¬ w.heap.size + 1 = V := by omega
        have hn3 : ¬ w.heap.size + 1 = K := by omega
        clear hs9 hg9 hn9
        have hlp := List.length_pos_of_mem HX.out.2.1.1
        have hle : (dropL x o'.house).length + 1 = x.length := by have := (dropL_perm HX.out.1.nodup HX.out.2.1.1).length_eq; rw [this]; rfl
        have hri := Lib.hid (HX.out.1.dropL o'.house)
        have HNn := HN.out
        by_cases hst : m + 1 = stop
        · have t3 : (m + 1 == stop) = true := by simpa using hst
          gi_wp2
          have HD10 := (HD8.out.store (c' := c9) H9.out.2.1 H9.out.1 H9.out.2.2 rfl).count (m' := stop) rfl
          exact ⟨HD10.rc, fun w' hk' hR' => .inr ⟨rfl, _, _, _, _, _, HD10.kept hk' hR', hri.out, ⟨hb1, by omega, by omega⟩, .inl rfl⟩⟩
        · have t3 : (m + 1 == stop) = false := by simpa using hst
          gi_wp2
          have HD10 := (HD8.out.store (c' := c9) H9.out.2.1 H9.out.1 H9.out.2.2 rfl).count (m' := m + 1) rfl
          exact ⟨HD10.rc, fun w' hk' hR' => .inl ⟨rfl, _, _, _, _, _, HD10.kept hk' hR', hri.out, ⟨hb1, by omega, by omega⟩, by omega⟩⟩
      case post =>
        rintro e w3 ⟨hv, hJ⟩
        refine ⟨hv, ?_⟩
        obtain ⟨x, k, A, c, m, st, pe, hd, hx, hb, hno, hor⟩ : ∃ x k A c m st pe, LapP B2 w3 b V x x k A c m K D L r st pe ∧ rising x ∧ (k ≤ 80 ∧ 0 ≤ m ∧ m + x.length ≤ 1000) ∧ (m = stop ∨ ∀ o, Least x o → stageI o.due now < 5) ∧ ((st = .ready ∧ pe = none) ∨ (st = .done ∧ pe = some (.exit 2))) := by
          rcases hJ with ⟨x, k, A, c, m, h1, h2, h3, h4⟩ | ⟨x, k, A, c, m, h1, h2, h3, h4⟩
          · exact ⟨_, _, _, _, _, _, _, h1, h2, h3, h4, .inl ⟨rfl, rfl⟩⟩
          · exact ⟨_, _, _, _, _, _, _, h1, h2, h3, h4, .inr ⟨rfl, rfl⟩⟩
        clear hJ
        refine rangeEnd_block ?_ fun w4 hk4 => ?_
        · rcases hor with ⟨rfl, rfl⟩ | ⟨rfl, rfl⟩
          · exact .inl hd.rc
          · exact .inr hd.rc
        have HS4 := Lib.hid (show SR B2 w4 b x x k A from hd.s.other hk4.chg (fun j hj e => hd.far.2.2.2 (e ▸ hj)) (fun j e => e ▸ hd.may.2.2) (fun hy a ha e => hd.s.sl.noBook (by omega) hy a ha (e ▸ hk4.book)))
        have HV4 := Lib.hid (hd.vb.kept hk4)
        have HK4 := Lib.hid (hd.kb.kept hk4)
        have HD4 := Lib.hid (hd.dfr.kept hk4 hDL)
        have HX4 := Lib.hid (And.intro hx hno)
        have HA4 := Lib.hid (HA.out w4 HS4.out.chg)
        have hfit := Lib.hid hd.s.fits
        have hxl : x.length ≤ 1000000 := by have := hd.s.len; omega
        have hk9 : k ≤ 900000 := by omega
        have hcw4 := HA4.out.2.2.2
        clear hd hx hno hk4 hor hb
        obtain ⟨c0, f0, s0⟩ := HV4.out.facts
        go_wp2_with (go_at_call 21; refine (xfirst_any x A c _ HS4.out.sl hxl).mono ?_; rintro e w5 ⟨rfl, hg5⟩; have HG5 := Lib.hid hg5; clear hg5 c0 f0 s0)
        obtain ⟨c0, f0, s0⟩ := (HK4.out.grew HG5.out).facts
        obtain ⟨c1, f1, s1⟩ := ((BS.out.grew HA4.out.1).grew HG5.out).facts
        obtain ⟨c2, f2, s2⟩ := (HV4.out.grew HG5.out).facts
        obtain ⟨c3, f3, s3⟩ := ((BN.out.grew HA4.out.1).grew HG5.out).facts
        by_cases hms : m = stop
        · have t1 : (m == stop) = true := by simpa using hms
          have t1' : (m != stop) = false := by simpa using hms
          go_wp2_with fail
          go_quiet (fail)
          clear c0 f0 s0 c1 f1 s1 c2 f2 s2 c3 f3 s3
          have HG6 := Lib.hid (show Grew w4 (w5.drewN nq) from HG5.out.drewN nq)
          obtain ⟨c0, f0, s0⟩ := (HV4.out.grew HG6.out).facts
          go_wp2_with (first
            | (go_at_call 19; refine ((HS4.out.on HG6.out).same HX4.out.1 hk9).mono ?_; rintro e w8 ⟨rfl, hg8⟩; have HG8 := Lib.hid (Grew.trans HG6.out hg8); clear hg8)
            | (go_at_call 8; refine (rawake_any _).mono ?_; rintro e w9 ⟨rfl, hg9⟩; have HG9 := Lib.hid (Grew.trans HG8.out hg9); clear hg9; obtain ⟨c4, f4, s4⟩ := ((BR.out.grew HA4.out.1).grew HG9.out).facts))
          clear c0 f0 s0
          refine postM_ret1 (v := .bool true) (D := D) ?_ rfl fun w6 hk6 => ?_
          · refine (HD4.out.grew HG9.out).chg (F := fun j => j = w.heap.size + 2) ?_ ?_
            · (repeat (first | (with_reducible exact (Chg.refl _ _)) | (with_reducible refine Chg.alloc ?_ _) | (with_reducible refine Chg.drew ?_) | (with_reducible refine Chg.drewN ?_ _) | ((with_reducible refine Chg.setCell ?_ ?hp _); (case hp => (intro _; rfl)))))
            · show ¬ D = w.heap.size + 2
              omega
          · refine ⟨?_, rfl, ?_⟩
            · obtain ⟨c2, f2, s2⟩ : (∀ i, w6.cell? ⟨w.heap.size + 2, i, none⟩ = #[Value.bool true][i]?) ∧ (∀ i, w6.frozen? ⟨w.heap.size + 2, i, none⟩ = false) ∧ w.heap.size + 2 < w6.heap.size := (Blk.kept (t := 4) (by (repeat (first | (with_reducible exact ((BR.out.grew HA4.out.1).grew HG9.out)) | (with_reducible apply Blk.drew) | (with_reducible apply Blk.drewN) | (with_reducible apply Blk.alloc) | (with_reducible apply Blk.putTo) | (with_reducible apply Blk.far))); (all_goals first | rfl | (simp; done) | (simp; omega))) hk6).facts
              simp [results, Try.results6, go_sem, c2, s2]
            · refine Chg.kept ?_ hk6 (by omega)
              (repeat (first | (with_reducible exact (Grew.trans HG3.out (Grew.trans HA4.out.1 HG9.out))) | (with_reducible refine Chg.alloc ?_ _) | (with_reducible refine Chg.drew ?_) | (with_reducible refine Chg.drewN ?_ _) | ((with_reducible refine Chg.setCell ?_ ?hp _); (case hp => (intro h; exfalso; simp at h; try omega)))))
        · have t1 : (m == stop) = false := by simpa using hms
          have t1' : (m != stop) = true := by simpa using hms
          rcases Nat.eq_zero_or_pos x.length with hx0 | hx0
          · obtain rfl : x = [] := List.eq_nil_of_length_eq_zero hx0
            have e1 : frV (frI ([] : List Rw) ([] : List Rw).length) = -1 := rfl
            rw [e1]
            clear e1
            go_wp2_with fail
            go_quiet (fail)
            clear c0 f0 s0 c1 f1 s1 c2 f2 s2 c3 f3 s3
            have HG6 := Lib.hid (show Grew w4 (w5.drewN nq) from HG5.out.drewN nq)
            obtain ⟨c0, f0, s0⟩ := (HV4.out.grew HG6.out).facts
            go_wp2_with (first
              | (go_at_call 19; refine ((HS4.out.on HG6.out).same HX4.out.1 hk9).mono ?_; rintro e w8 ⟨rfl, hg8⟩; have HG8 := Lib.hid (Grew.trans HG6.out hg8); clear hg8)
              | (go_at_call 8; refine (rawake_any _).mono ?_; rintro e w9 ⟨rfl, hg9⟩; have HG9 := Lib.hid (Grew.trans HG8.out hg9); clear hg9; obtain ⟨c4, f4, s4⟩ := ((BR.out.grew HA4.out.1).grew HG9.out).facts))
            clear c0 f0 s0
            refine postM_ret1 (v := .bool true) (D := D) ?_ rfl fun w6 hk6 => ?_
            · refine (HD4.out.grew HG9.out).chg (F := fun j => j = w.heap.size + 2) ?_ ?_
              · (repeat (first | (with_reducible exact (Chg.refl _ _)) | (with_reducible refine Chg.alloc ?_ _) | (with_reducible refine Chg.drew ?_) | (with_reducible refine Chg.drewN ?_ _) | ((with_reducible refine Chg.setCell ?_ ?hp _); (case hp => (intro _; rfl)))))
              · show ¬ D = w.heap.size + 2
                omega
            · refine ⟨?_, rfl, ?_⟩
              · obtain ⟨c2, f2, s2⟩ : (∀ i, w6.cell? ⟨w.heap.size + 2, i, none⟩ = #[Value.bool true][i]?) ∧ (∀ i, w6.frozen? ⟨w.heap.size + 2, i, none⟩ = false) ∧ w.heap.size + 2 < w6.heap.size := (Blk.kept (t := 4) (by (repeat (first | (with_reducible exact ((BR.out.grew HA4.out.1).grew HG9.out)) | (with_reducible apply Blk.drew) | (with_reducible apply Blk.drewN) | (with_reducible apply Blk.alloc) | (with_reducible apply Blk.putTo) | (with_reducible apply Blk.far))); (all_goals first | rfl | (simp; done) | (simp; omega))) hk6).facts
                simp [results, Try.results6, go_sem, c2, s2]
              · refine Chg.kept ?_ hk6 (by omega)
                (repeat (first | (with_reducible exact (Grew.trans HG3.out (Grew.trans HA4.out.1 HG9.out))) | (with_reducible refine Chg.alloc ?_ _) | (with_reducible refine Chg.drew ?_) | (with_reducible refine Chg.drewN ?_ _) | ((with_reducible refine Chg.setCell ?_ ?hp _); (case hp => (intro h; exfalso; simp at h; try omega)))))
          · obtain ⟨n1, hn1⟩ := frI_some x x.length hx0
            obtain ⟨o', hno', hL'⟩ := frI_is HX4.out.1 hn1
            have hnl := frI_lt x _ n1 hn1
            have e1 : frV (frI x x.length) = (n1 : Int) := by rw [hn1]; rfl
            obtain ⟨g2, o2, rfl, hb2', d0, d1, d2⟩ := (HS4.out.sl.grew HG5.out).atRw hno'
            have hst : stageI o'.due now < 5 := (HX4.out.2.resolve_left hms) o' hL'
            have t2 : (stageI o'.due now == 5) = false := by simp; omega
            have u1 : (n1 : Int) < (x.length : Int) := by omega
            have u0 : (0 : Int) ≤ (n1 : Int) := by omega
            have t3 : decide ((0 : Int) ≤ (n1 : Int)) = true := decide_eq_true u0
            have r1 := (hfit.out _ hL'.1).2.2.2.2
            have HNw' := HNw.out
            rw [e1]
            clear hno' hL' hn1 e1 hx0
            go_wp2_with fail
            go_quiet ((go_at_call 17; exact Calls.quiet_of_same ((xstage_any o'.due now _ r1.1 r1.2 HNw'.1 HNw'.2).mono fun _ _ h => ⟨h.1, h.2.symm⟩)))
            clear d0 d1 d2
            clear c0 f0 s0 c1 f1 s1 c2 f2 s2 c3 f3 s3
            have HG6 := Lib.hid (show Grew w4 (w5.drewN nq) from HG5.out.drewN nq)
            obtain ⟨c0, f0, s0⟩ := (HV4.out.grew HG6.out).facts
            go_wp2_with (first
              | (go_at_call 19; refine ((HS4.out.on HG6.out).same HX4.out.1 hk9).mono ?_; rintro e w8 ⟨rfl, hg8⟩; have HG8 := Lib.hid (Grew.trans HG6.out hg8); clear hg8)
              | (go_at_call 8; refine (rawake_any _).mono ?_; rintro e w9 ⟨rfl, hg9⟩; have HG9 := Lib.hid (Grew.trans HG8.out hg9); clear hg9; obtain ⟨c4, f4, s4⟩ := ((BR.out.grew HA4.out.1).grew HG9.out).facts))
            clear c0 f0 s0
            refine postM_ret1 (v := .bool true) (D := D) ?_ rfl fun w6 hk6 => ?_
            · refine (HD4.out.grew HG9.out).chg (F := fun j => j = w.heap.size + 2) ?_ ?_
              · (repeat (first | (with_reducible exact (Chg.refl _ _)) | (with_reducible refine Chg.alloc ?_ _) | (with_reducible refine Chg.drew ?_) | (with_reducible refine Chg.drewN ?_ _) | ((with_reducible refine Chg.setCell ?_ ?hp _); (case hp => (intro _; rfl)))))
              · show ¬ D = w.heap.size + 2
                omega
            · refine ⟨?_, rfl, ?_⟩
              · obtain ⟨c2, f2, s2⟩ : (∀ i, w6.cell? ⟨w.heap.size + 2, i, none⟩ = #[Value.bool true][i]?) ∧ (∀ i, w6.frozen? ⟨w.heap.size + 2, i, none⟩ = false) ∧ w.heap.size + 2 < w6.heap.size := (Blk.kept (t := 4) (by (repeat (first | (with_reducible exact ((BR.out.grew HA4.out.1).grew HG9.out)) | (with_reducible apply Blk.drew) | (with_reducible apply Blk.drewN) | (with_reducible apply Blk.alloc) | (with_reducible apply Blk.putTo) | (with_reducible apply Blk.far))); (all_goals first | rfl | (simp; done) | (simp; omega))) hk6).facts
                simp [results, Try.results6, go_sem, c2, s2]
              · refine Chg.kept ?_ hk6 (by omega)
                (repeat (first | (with_reducible exact (Grew.trans HG3.out (Grew.trans HA4.out.1 HG9.out))) | (with_reducible refine Chg.alloc ?_ _) | (with_reducible refine Chg.drew ?_) | (with_reducible refine Chg.drewN ?_ _) | ((with_reducible refine Chg.setCell ?_ ?hp _); (case hp => (intro h; exfalso; simp at h; try omega)))))

end Go.Proofs.Ytjpkpckgkhbfpaa
