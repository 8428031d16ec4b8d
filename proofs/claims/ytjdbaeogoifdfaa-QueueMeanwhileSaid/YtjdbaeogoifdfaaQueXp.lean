/- QueueDue. -/
import Derived.Test.YtjdbaeogoifdfaaQueXl
import Derived.Test.YtjdbaeogoifdfaaQueXo
import Derived.Test.YtjdbaeogoifdfaaQueXh
import Derived.Test.YtjdbaeogoifdfaaRangeH
import Derived.StillTailTactics
namespace Go.Proofs.Ytjdbaeogoifdfaa
open Go.RowKit Go.Maps
attribute [local go_sem] Oper.semAt_some

set_option maxRecDepth 100000 in
set_option maxHeartbeats 400000 in
theorem qdue_out (l : List Qop) (now stop : Int) (A : Option Addr) (c : Nat) (w : World) (hl : l.length > 100) (hln : (l.length : Int) ≤ 9223372036854775807) :
    Calls Try.prog 5 #[.slice A l.length c, .int .i64 now, .int .i64 stop] w fun e w' => e = .returned (.bool true) ∧ Grew w w' := by
  (refine calls_of_marks Try.func5 rfl ?_; simp only [Try.ntmps5, List.size_toArray, List.length_cons, List.length_nil, Nat.reduceAdd, Nat.reduceSub, Array.replicate_succ, Array.replicate_zero, List.push_toArray, List.append_toArray, List.nil_append, List.cons_append])
  go_wp2_with fail
  obtain ⟨W3, hW3⟩ : ∃ W3, ((w.alloc (.cells #[.int .i64 now] 3)).alloc (.cells #[.int .i64 stop] 3)).alloc (.cells #[.bool false] 4) = W3 := ⟨_, rfl⟩
  have HG3 := Lib.hid (show Grew w W3 from hW3 ▸ (((Chg.refl _ _).alloc _).alloc _).alloc _)
  have BR := Lib.hid (show Blk W3 (w.heap.size + 2) 4 #[.bool false] from hW3 ▸ (by have := Blk.new ((w.alloc (.cells #[.int .i64 now] 3)).alloc (.cells #[.int .i64 stop] 3)) 4 #[.bool false]; simpa using this))
  rw [hW3]
  clear hW3
  go_wp2_with (first
    | (go_at_call 8; refine (new_any _).mono ?_; rintro e w1 ⟨rfl, rfl⟩)
    | (go_at_call 9; refine (awake_any _).mono ?_; rintro e w2 ⟨rfl, hg2⟩; have HG4 := Lib.hid (Grew.trans (((Chg.refl NoF W3).alloc _).alloc _) hg2); clear hg2; obtain ⟨c2, f2, s2⟩ := (BR.out.grew HG4.out).facts))
  refine postM_ret0 (v := .bool true) (by simp [results, Try.results5, go_sem, c2, s2]) rfl ⟨rfl, ?_⟩
  have := HG3.out.size
  (repeat (first | (with_reducible exact (Grew.trans HG3.out HG4.out)) | (with_reducible refine Chg.alloc ?_ _) | (with_reducible refine Chg.drew ?_) | (with_reducible refine Chg.drewN ?_ _) | ((with_reducible refine Chg.setCell ?_ ?hp _); (case hp => (intro h; exfalso; simp at h; try omega)))))

/-- What is new since w0, but for one box. -/
def Bs.but (w0 : World) (v : Nat) (W : World) (hv : v < W.heap.size) (h0 : w0.heap.size ≤ W.heap.size) : Bs :=
  ⟨W, fun k => w0.heap.size ≤ k ∧ k ≠ v, fun k => w0.heap.size ≤ k ∧ k ≠ v, fun _ h => ⟨by omega, by omega⟩, fun _ h => h⟩
theorem Bs.but_grew {w0 W W' : World} {v : Nat} {hv : v < W.heap.size} {h0 : w0.heap.size ≤ W.heap.size} (hg : Grew w0 W) (hc : Chg (Bs.but w0 v W hv h0).G (Bs.but w0 v W hv h0).w W') : Grew w0 W' :=
  Chg.mono (Grew.then hg hc) fun i hi e => absurd e.1 (by omega)

/-- The base of a range: own blocks are the old ones below n, and what is new; two more (the box K, the book-keeping L) may change. -/
def Bs.rng (B : Bs) (n K L : Nat) (W : World) : Bs := ⟨W, fun k => (B.F k ∧ k < n) ∨ W.heap.size ≤ k, fun k => ((B.F k ∧ k < n) ∨ W.heap.size ≤ k) ∨ k = K ∨ k = L, fun _ h => .inr h, fun _ h => .inl h⟩

section
variable {w : Bs} {W W' : World} {b S c M cs K D L : Nat} {l l' s : List Itm} {A As : Option Addr} {added ad2 m : Int} {r : Loop} {st st' : LoopState} {pe pe' : Option Code}
/-- Something else changed. -/
theorem SP.other {C : Nat → Prop} (h : SP w W b S l s A c M As cs added ad2) (hc : Chg C W W') (h1 : ∀ k, k < W.heap.size → w.F k → ¬ C k) (h2 : ∀ k, C k → w.G k) : SP w W' b S l s A c M As cs added ad2 :=
  ⟨⟨h.q.q.chg hc fun k hk => h1 k (QF_old h.q.q hk) (h.q.new k hk), Chg.trans h.q.grew hc fun i _ e => h2 i e, h.q.new⟩, h.blk.chg hc (h1 _ h.blk.lt h.newS), h.sl.chg hc fun a ha => h1 _ (h.far a ha).1 (h.newA a ha), h.newS, h.outS,
    fun a ha => ⟨Nat.lt_of_lt_of_le (h.far a ha).1 hc.size, (h.far a ha).2⟩, h.nil, h.newA⟩

/-- The queue, the list, the count k, and the loop. -/
structure DueP (w : Bs) (W : World) (b S : Nat) (l s : List Itm) (A : Option Addr) (c M : Nat) (As : Option Addr) (cs : Nat) (added m : Int) (K D L : Nat) (r : Loop) (st : LoopState) (pe : Option Code) : Prop where
  p : SP w W b S l s A c M As cs added added
  kb : Blk W K 3 #[.int .i64 m]
  dfr : Dfr W D
  rc : Rec W L (Loop.at_ r st pe)
  fK : ¬ w.F K
  fD : ¬ w.F D
  fL : ¬ w.F L
  gK : w.G K
  gL : w.G L
theorem DueP.grew (h : DueP w W b S l s A c M As cs added m K D L r st pe) (hg : Grew W W') : DueP w W' b S l s A c M As cs added m K D L r st pe :=
  ⟨h.p.on hg, h.kb.grew hg, h.dfr.grew hg, h.rc.grew hg, h.fK, h.fD, h.fL, h.gK, h.gL⟩
theorem DueP.pop (h : DueP w W b S l s A c M As cs added m K D L r st pe) (hq : Q W' b l' A c M added) (hc : Chg (QF b A M) W W') : DueP w W' b S l' s A c M As cs added m K D L r st pe :=
  ⟨h.p.same hq hc, h.kb.chg hc (fun e => h.fK (h.p.q.new _ e)), h.dfr.chg hc (fun e => h.fD (h.p.q.new _ e)), h.rc.chg hc (fun e => h.fL (h.p.q.new _ e)), h.fK, h.fD, h.fL, h.gK, h.gL⟩
theorem DueP.kept (h : DueP w W b S l s A c M As cs added m K D L r st pe) (hk : Kept L W W') (hR : Rec W' L (Loop.at_ r st' pe')) (hDL : D ≠ L) : DueP w W' b S l s A c M As cs added m K D L r st' pe' :=
  ⟨h.p.other hk.chg (fun k _ hk e => h.fL (e ▸ hk)) (fun k e => e ▸ h.gL), h.kb.kept hk, h.dfr.kept hk hDL, hR, h.fK, h.fD, h.fL, h.gK, h.gL⟩
theorem DueP.store (h : DueP w W b S l s A c M As cs added m K D L r st pe) {w3 : World} {s' : List Itm} {A3 : Option Addr} {c3 : Nat} (ho3 : w3.ownsRow W.heap.size 47 3 (.slice A3 s'.length c3) s'.length (s'.flatMap Itm.vals)) (hg3 : Grew W w3)
    (hW : w3.setCell ⟨S, 0, none⟩ (.slice A3 s'.length c3) = W') : DueP w W' b S l s' A c M A3 c3 added m K D L r st pe := by
  obtain ⟨h1, h2⟩ := h.p.store ho3 hg3 hW
  exact ⟨h1, h.kb.chg h2 (fun e => h.fK (e ▸ h.p.newS)), h.dfr.chg h2 (fun e => h.fD (e ▸ h.p.newS)), h.rc.chg h2 (fun e => h.fL (e ▸ h.p.newS)), h.fK, h.fD, h.fL, h.gK, h.gL⟩
theorem DueP.count (h : DueP w W b S l s A c M As cs added m K D L r st pe) {m' : Int} (hW : W.setCell ⟨K, 0, none⟩ (.int .i64 m') = W') (hDK : D ≠ K) (hLK : L ≠ K) : DueP w W' b S l s A c M As cs added m' K D L r st pe := by
  have hc : Chg (fun j => j = K) W W' := hW ▸ (Chg.refl (fun j => j = K) W).setCell (p := ⟨K, 0, none⟩) (fun _ => rfl) _
  refine ⟨h.p.other hc (fun k _ hk e => h.fK (e ▸ hk)) (fun k e => e ▸ h.gK), ?_, h.dfr.chg hc hDK, h.rc.chg hc hLK, h.fK, h.fD, h.fL, h.gK, h.gL⟩
  subst hW
  have := h.kb.put 0 (.int .i64 m')
  simpa using this
end

/-- What is known of the two lists. -/
structure DueL (l s : List Itm) (added m : Int) : Prop where
  hp : hp l
  ql : QL l s
  nb : ∀ x ∈ l, 1 ≤ x.n ∧ x.n ≤ added
  ad : 0 ≤ added ∧ (l.length : Int) ≤ added ∧ added ≤ 1000
  m0 : 0 ≤ m ∧ m + l.length ≤ 1000
theorem DueP.sq {w : Bs} {W : World} {b S c M cs K D L : Nat} {l s : List Itm} {A As : Option Addr} {added m m' : Int} {r : Loop} {st : LoopState} {pe : Option Code} (h : DueP w W b S l s A c M As cs added m K D L r st pe) (hl : DueL l s added m') : SQ w W b S l s A c M As cs added :=
  ⟨h.p, hl.hp, hl.ql, hl.nb, hl.ad.1, hl.ad.2.1⟩
theorem rangeEnd_block {P : Program} {l id : Nat} {r : Loop} {Q : Exit → Act → World → Prop} {a : Act} {w3 : World}
    (h : Rec w3 l (Loop.at_ r .ready none) ∨ Rec w3 l (Loop.at_ r .done (some (.exit id)))) (hk : ∀ w4, Kept l w3 w4 → Q .normal a w4) : rangeEnd P l r (Exit.inBlock id Q) a w3 := by
  rcases h with h | h
  · exact .inl ⟨h, fun w4 k => hk w4 k⟩
  · exact .inr ⟨_, h, fun w4 k => wp_exit (by simpa [Exit.inBlock] using hk w4 k)⟩
/-- Between two rounds. -/
def DueJ (w : Bs) (b S M K D L : Nat) (r : Loop) (n : Nat) (W : World) : Prop :=
  ∃ l s A c As cs added m, DueP w W b S l s A c M As cs added m K D L r .ready none ∧ DueL l s added m ∧ l.length = n
/-- Behind the range: none is due any more, or it was left. -/
def DueX (w : Bs) (b S M K D L : Nat) (r : Loop) (now stop : Int) (st : LoopState) (pe : Option Code) (W : World) : Prop :=
  ∃ l s A c As cs added m, DueP w W b S l s A c M As cs added m K D L r st pe ∧ DueL l s added m ∧ (m = stop ∨ ∀ x, l[0]? = some x → now < x.due)

set_option maxRecDepth 100000 in
set_option maxHeartbeats 3200000 in
theorem qdue_in (l : List Qop) (now stop : Int) (A : Option Addr) (c : Nat) (w : World) (hl : l.length ≤ 100) (hs : Sl w 4 A l.length (l.flatMap Qop.vals)) (hok : ∀ r ∈ l, r.ok) :
    Calls Try.prog 5 #[.slice A l.length c, .int .i64 now, .int .i64 stop] w fun e w' => e = .returned (.bool true) ∧ Grew w w' := by
  have hl' : (l.length : Int) ≤ 100 := by omega
  obtain ⟨W3, hW3⟩ : ∃ W3, ((w.alloc (.cells #[.int .i64 now] 3)).alloc (.cells #[.int .i64 stop] 3)).alloc (.cells #[.bool false] 4) = W3 := ⟨_, rfl⟩
  have HG3 := Lib.hid (show Grew w W3 from hW3 ▸ (((Chg.refl _ _).alloc _).alloc _).alloc _)
  have BN := Lib.hid (show Blk W3 w.heap.size 3 #[.int .i64 now] from hW3 ▸ ((Blk.new _ _ _).alloc _).alloc _)
  have BS := Lib.hid (show Blk W3 (w.heap.size + 1) 3 #[.int .i64 stop] from hW3 ▸ (by have := (Blk.new (w.alloc (.cells #[.int .i64 now] 3)) 3 #[.int .i64 stop]).alloc (.cells #[.bool false] 4); simpa using this))
  have BR := Lib.hid (show Blk W3 (w.heap.size + 2) 4 #[.bool false] from hW3 ▸ (by have := Blk.new ((w.alloc (.cells #[.int .i64 now] 3)).alloc (.cells #[.int .i64 stop] 3)) 4 #[.bool false]; simpa using this))
  have Hs := Lib.hid (And.intro (hs.grew HG3.out) hok)
  have HW := Lib.hid hW3
  clear hs hok hW3
  obtain ⟨W1, hW1⟩ : ∃ W1, (W3.alloc (.map #[] 0)).alloc (.cells #[.slice none 0 0, .map (some W3.heap.size), .int .i64 0] 55) = W1 := ⟨_, rfl⟩
  obtain ⟨W2, hW2⟩ : ∃ W2, W1.alloc (.cells #[.slice none 0 0, .int .i64 0] 37) = W2 := ⟨_, rfl⟩
  obtain ⟨W5, hW5⟩ : ∃ W5, W2.alloc (.cells #[.pointer (some ⟨W1.heap.size, 0, none⟩)] 34) = W5 := ⟨_, rfl⟩
  have h2 := sq_start hW1 hW2
  have hg5 : Grew W3 W5 := hW5 ▸ hW2 ▸ hW1 ▸ ((((Chg.refl NoF W3).alloc _).alloc _).alloc _).alloc _
  have hz1 : W1.heap.size = W3.heap.size + 1 + 1 := by rw [← hW1]; simp
  have hz2 : W2.heap.size = W3.heap.size + 1 + 1 + 1 := by rw [← hW2]; simp [hz1]
  have hz5 : W5.heap.size = W3.heap.size + 1 + 1 + 1 + 1 := by rw [← hW5]; simp [hz2]
  have bSV : Blk W5 W2.heap.size 34 #[.pointer (some ⟨W1.heap.size, 0, none⟩)] := hW5 ▸ Blk.new _ _ _
  have h5 : SQ (Bs.but W3 W2.heap.size W5 (by omega) (by omega)) W5 (W3.heap.size + 1) W1.heap.size [] [] none 0 W3.heap.size none 0 0 :=
    h2.base (hW5 ▸ (Chg.refl _ _).alloc _) (Chg.refl _ _) fun k hk hlt => ⟨hk, by omega⟩
  have H5 := Lib.hid h5
  have HG5 := Lib.hid hg5
  have BV := Lib.hid bSV
  have HW1 := Lib.hid hW1
  have HW2 := Lib.hid hW2
  have HW5 := Lib.hid hW5
  clear hW1 hW2 hW5 h2 h5 hg5 bSV
  obtain ⟨b, hb⟩ : ∃ b, W3.heap.size + 1 = b := ⟨_, rfl⟩
  have Hb := Lib.hid hb
  rw [hb] at hz1 hz2 hz5 H5
  rw [hz1] at H5 BV HW5
  obtain ⟨SV, hSV⟩ : ∃ SV, b + 1 + 1 = SV := ⟨_, rfl⟩
  have HSV := Lib.hid hSV
  rw [hSV] at hz2 hz5
  rw [hz2] at BV
  clear hSV hb
  (refine calls_of_marks Try.func5 rfl ?_; simp only [Try.ntmps5, List.size_toArray, List.length_cons, List.length_nil, Nat.reduceAdd, Nat.reduceSub, Array.replicate_succ, Array.replicate_zero, List.push_toArray, List.append_toArray, List.nil_append, List.cons_append])
  go_wp2_with (first
    | (rw [HW.out])
    | (go_at_call 8; refine (new_any _).mono ?_; rintro e w1 ⟨rfl, rfl⟩))
  rw [HW1.out, HW2.out]
  rw [Hb.out, HSV.out, HW5.out]
  have hB1 : SV < W5.heap.size := by omega
  have hB2 : W3.heap.size ≤ W5.heap.size := HG5.out.size
  have h5 : SQ (Bs.but W3 SV W5 hB1 hB2) W5 b (b + 1) [] [] none 0 W3.heap.size none 0 0 := by
    have := H5.out
    simp only [hz2] at this
    exact this
  have H5' := Lib.hid h5
  clear h5 H5
  go_loopw [31] (fun i wr => ∃ (k : Nat) (added : Int), k ≤ l.length ∧ i = .int .i64 k ∧ SQs (Bs.but W3 SV W5 hB1 hB2) wr b (b + 1) W3.heap.size added ∧ added ≤ k) (fun i _ => l.length - (intOf i).toNat)
  case atStart => exact ⟨0, 0, by omega, rfl, ⟨_, _, _, _, _, _, H5'.out⟩, by omega⟩
  case round =>
    obtain ⟨k, added, hk, rfl, hq, had⟩ := hrel
    obtain ⟨lq, sq, Aq, cq, As, cs, hq⟩ := hq
    have HQ := Lib.hid hq
    have hgw := Bs.but_grew HG5.out hq.grew
    have HG := Lib.hid hgw
    have HV := Lib.hid (BV.out.chg hq.grew fun e => e.2 rfl)
    have hzw := hq.grew.size
    clear hq hgw
    obtain ⟨c0, f0, s0⟩ := HV.out.facts
    by_cases hlt : k < l.length
    · obtain ⟨o, ho⟩ : ∃ o, l[k]? = some o := ⟨_, List.getElem?_eq_getElem hlt⟩
      obtain ⟨g, off, rfl, hb, d0, d1, d2, d3⟩ := (Hs.out.1.grew HG.out).atQop ho
      have HO := Lib.hid (Hs.out.2 o (List.mem_of_getElem? ho))
      clear ho
      go_wp2_with fail
      refine (sstep_any o HO.out (Bs.but W3 SV W5 hB1 hB2) _ b (b + 1) cq W3.heap.size cs lq sq Aq As added (HQ.out.on ((Chg.refl _ _).alloc _)) (by omega)).mono ?_
      rintro e w5 ⟨rfl, hs5⟩
      obtain ⟨added', ⟨l5, s5', A5, c5, As5, cs5, hq5⟩, ha1, ha2⟩ := hs5.sqs
      have HQ5 := Lib.hid hq5
      clear hs5 hq5 d0 d1 d2 d3
      go_wp2_with fail
      exact ⟨⟨k + 1, added', by omega, by simp, ⟨_, _, _, _, _, _, HQ5.out⟩, by omega⟩, by simp [intOf]; omega⟩
    · obtain rfl : k = l.length := by omega
      obtain ⟨wo, rfl⟩ : ∃ wo : World, wo = wr := ⟨_, rfl⟩
      have hz3 := BR.out.lt
      have hbo := HQ.out.p.blk.lt
      have hi1 : W3.heap.size + 1 ≤ b := Nat.le_of_eq Hb.out
      have hi2 : b + 2 ≤ SV := by have := HSV.out; omega
      have hi3 : SV < wo.heap.size := HV.out.lt
      obtain ⟨c1, f1, s1⟩ := (BN.out.grew HG.out).facts
      clear hk hlt
      go_wp2_with fail
      obtain ⟨W4, hW4⟩ : ∃ W4, ((wo.alloc (.cells #[.int .i64 0] 3)).alloc (.cells #[.pointer (some ⟨b, 0, none⟩)] 23)).alloc (.cells #[.int .i64 now] 3) = W4 := ⟨_, rfl⟩
      go_wp2_with (go_at_call 16; refine (due_any b now _ W4 hW4).mono ?_; rintro e w5 ⟨rfl, rfl⟩)
      have HG4 := Lib.hid (show Grew wo W4 from hW4 ▸ (((Chg.refl _ _).alloc _).alloc _).alloc _)
      have B4n := Lib.hid (show Blk W4 wo.heap.size 3 #[.int .i64 0] from hW4 ▸ ((Blk.new _ _ _).alloc _).alloc _)
      have B4b := Lib.hid (show Blk W4 (wo.heap.size + 1) 23 #[.pointer (some ⟨b, 0, none⟩)] from hW4 ▸ (by have := (Blk.new (wo.alloc (.cells #[.int .i64 0] 3)) 23 #[.pointer (some ⟨b, 0, none⟩)]).alloc (.cells #[.int .i64 now] 3); simpa using this))
      have B4w := Lib.hid (show Blk W4 (wo.heap.size + 2) 3 #[.int .i64 now] from hW4 ▸ (by have := Blk.new ((wo.alloc (.cells #[.int .i64 0] 3)).alloc (.cells #[.pointer (some ⟨b, 0, none⟩)] 23)) 3 #[.int .i64 now]; simpa using this))
      clear hW4 c0 f0 s0 c1 f1 s1
      refine wp_range (gf := 29) (lb := #[.pointer (some ⟨wo.heap.size + 1, 0, none⟩), .pointer (some ⟨wo.heap.size + 1 + 1, 0, none⟩)]) rfl (enters_of Try.func29 (by kernel_rfl) rfl) ?_
      intro r Wr D L hr hg1 hDl hLl hD hR
      have HR1 := Lib.hid hr
      have hDL := Ne.symm (hR.ne_dfr hD)
      have hz4 := B4w.out.lt
      have hz6 := hg1.size
      have hL2 := hR.lt
      have hD2 := hD.lt
      have HG1 := Lib.hid (Grew.trans HG4.out hg1)
      have HBb := Lib.hid (B4b.out.grew hg1)
      have HBw := Lib.hid (B4w.out.grew hg1)
      obtain ⟨B2, hB⟩ : ∃ B2, (Bs.but W3 SV W5 hB1 hB2).rng wo.heap.size wo.heap.size L Wr = B2 := ⟨_, rfl⟩
      have HSQ := Lib.hid (show SQ B2 Wr b (b + 1) lq sq Aq cq W3.heap.size As cs added from hB ▸ HQ.out.base HG1.out (Chg.refl _ _) fun k hk hlt => .inl ⟨hk, hlt⟩)
      have HJ0 := Lib.hid (show DueP B2 Wr b (b + 1) lq sq Aq cq W3.heap.size As cs added 0 wo.heap.size D L r .ready none from
        ⟨HSQ.out.p, B4n.out.grew hg1, hD, hR, by subst hB; rintro (e | e); exact absurd e.2 (by omega); exact absurd (show Wr.heap.size ≤ _ from e) (by omega),
          by subst hB; rintro (e | e); exact absurd e.2 (by omega); exact absurd (show Wr.heap.size ≤ _ from e) (by omega), by subst hB; rintro (e | e); exact absurd e.2 (by omega); exact absurd (show Wr.heap.size ≤ _ from e) (by omega), hB ▸ .inr (.inl rfl), hB ▸ .inr (.inr rfl)⟩)
      clear hr hg1 hD hR
      have HL0 := Lib.hid (show DueL lq sq added 0 from ⟨HQ.out.hp, HQ.out.ql, HQ.out.nb, ⟨HQ.out.ad.1, HQ.out.ad.2, by omega⟩, ⟨by omega, by have := HQ.out.ad.2; omega⟩⟩)
      have HB := Lib.hid hB
      clear hB
      have hnG : ∀ j, j < Wr.heap.size → (W3.heap.size ≤ j ∧ j ≠ SV → wo.heap.size ≤ j) → j ≠ wo.heap.size → j ≠ L → ¬ B2.G j := fun j h1 h2 h3 h4 e => by
        rw [← HB.out] at e
        rcases e with (⟨e, e1⟩ | e) | e | e
        · have := h2 e; omega
        · exact absurd (show Wr.heap.size ≤ j from e) (by omega)
        · exact h3 e
        · exact h4 e
      refine (due_iter (wo.heap.size + 1) (wo.heap.size + 1 + 1) b L lq.length now (DueJ B2 b (b + 1) W3.heap.size wo.heap.size D L r) (DueX B2 b (b + 1) W3.heap.size wo.heap.size D L r now stop .ready none) (DueX B2 b (b + 1) W3.heap.size wo.heap.size D L r now stop .done (some (.exit 2))) Wr
        (fun n W hJ => ?hin) ⟨_, _, _, _, _, _, _, _, HJ0.out, HL0.out, rfl⟩).mono ?post
      case hin =>
        obtain ⟨l, s, A, c, As, cs, added, m, hd, hl, hn⟩ := hJ
        have hc : Chg B2.G Wr W := by have := hd.p.grew; rw [← HB.out] at this ⊢; exact this
        refine ⟨l, A, c, W3.heap.size, added, HBb.out.chg hc (hnG _ (by omega) (by omega) (by omega) (by omega)), HBw.out.chg hc (hnG _ (by omega) (by omega) (by omega) (by omega)), hd.p.q.q, by have := hl.ad; omega,
          fun hno W' hg => ⟨l, s, A, c, As, cs, added, m, hd.grew hg, hl, .inr hno⟩, fun x W' hx hdue hq hc => ⟨n - 1, ?_, ?_⟩⟩
        · have := (List.getElem?_eq_some_iff.1 hx).1; omega
        have HD := Lib.hid (hd.pop hq hc)
        have HL := Lib.hid hl
        have HX := Lib.hid hx
        have HN := Lib.hid hn
        clear hd hl hx hq hc hn
        obtain ⟨hr1, hr2, hr3, hr4⟩ := HR1.out
        refine yield_wide HD.out.rc (by rw [hr2]; rfl) ?_
        rw [hr1, hr2, hr3, hr4]
        clear hr1 hr2 hr3 hr4
        intro K hK
        have HKK := Lib.hid hK
        clear hK
        gi_wp2
        refine HKK.out _ _ HD.out.rc fun W6 Q hk3 hR2 hQ => ?_
        refine Code.wpIn_mono hQ ?_
        have HD6 := Lib.hid (HD.out.kept hk3 hR2 hDL)
        clear hQ Q hk3 hR2
        have hc6 : Chg B2.G Wr W6 := by have := HD6.out.p.grew; rw [← HB.out] at this ⊢; exact this
        have HV6 := Lib.hid ((HV.out.grew HG1.out).chg hc6 (hnG _ (by omega) (by omega) (by omega) (by omega)))
        have HN6 := Lib.hid (((BN.out.grew HG.out).grew HG1.out).chg hc6 (hnG _ (by omega) (by omega) (by omega) (by omega)))
        have HS6 := Lib.hid (((BS.out.grew HG.out).grew HG1.out).chg hc6 (hnG _ (by omega) (by omega) (by omega) (by omega)))
        have hcw6 := hc6.size
        have hx0 : s[0]? = some x := by rw [← HL.out.ql.first HL.out.hp]; exact HX.out
        clear hc6
        obtain ⟨c0, f0, s0⟩ := HV6.out.facts
        obtain ⟨c1, f1, s1⟩ := HD6.out.p.blk.facts
        obtain ⟨c2, f2, s2⟩ := HN6.out.facts
        obtain ⟨g, off, eA, hgb, d0, d1, d2⟩ := HD6.out.p.sl.atItm hx0
        subst eA
        simp only [Nat.zero_mul, Nat.add_zero] at d0 d1 d2
        have hs0 := (List.getElem?_eq_some_iff.1 hx0).1
        have t1 : ((s.length : Int) == 0) = false := by simp; intro e; rw [e] at hs0; simp at hs0
        have t2 : decide (now < x.due) = false := by simp; omega
        have u1 : (0 : Int) < (s.length : Int) := by omega
        gi_wp2
        (refine wpIn_region_quiet_round (by kernel_rfl) (by kernel_rfl) (by kernel_rfl) ?_; (repeat (gi_big_quiet_step ((fail)))); refine wpQuietIn_nil ?_; intro _ hw_; obtain ⟨nq, hw2_⟩ := hw_; subst hw2_)
        gi_wp2
        obtain ⟨W7, hW7⟩ : ∃ W7, W6.drewN nq = W7 := ⟨_, rfl⟩
        have HG7 := Lib.hid (show Grew W6 W7 from hW7 ▸ (Chg.refl _ _).drewN _)
        rw [hW7]
        clear hW7 c0 f0 s0 c1 f1 s1 c2 f2 s2 d0 d1 d2
        have HD7 := Lib.hid (HD6.out.grew HG7.out)
        have HV7 := Lib.hid (HV6.out.grew HG7.out)
        have hne : ¬ SV = b + 1 := by omega
        obtain ⟨c0, f0, s0⟩ := HV7.out.facts
        obtain ⟨c1, f1, s1⟩ := HD7.out.p.blk.facts
        have c00 := c0 0
        have c10 := c1 0
        have f10 := f1 0
        simp only [List.getElem?_toArray, List.getElem?_cons_zero, List.getElem?_cons_succ] at c00 c10
        clear c0 c1 f0 f1
        have hsl : s.length ≤ 1000000 := by have h1 := HL.out.ad; have h2 := HL.out.ql.len; omega
        refine wpIn_region_held_round (S := fun w' => w'.cell? ⟨SV, 0, none⟩ = some (.pointer (some ⟨b + 1, 0, none⟩))) (fun _ _ h => h) (by kernel_rfl) (by kernel_rfl) c00 (fun hHeld => ?_)
        -- REGION BEGINS
        refine wpAnyH_take (i := 0) (v := ?_) rfl (by kernel_rfl) (by kernel_rfl) (by kernel_rfl) (fun _ _ _ h => h) (Or.inl ⟨by rfl, ?_⟩) hHeld ?_
        rotate_left
        · (intro w hSw; (try dsimp only at hSw); go_simp) <;> with_reducible rfl
        (try simp only [Act.put, List.setIfInBounds_toArray, List.set_cons_zero, List.set_cons_succ])
        refine wpAnyH_take (i := 1) (v := ?_) rfl (by kernel_rfl) (by kernel_rfl) (by kernel_rfl) (fun _ _ _ h => h) (Or.inl ⟨by rfl, ?_⟩) hHeld ?_
        rotate_left
        · (intro w hSw; (try dsimp only at hSw); go_simp) <;> with_reducible rfl
        (try simp only [Act.put, List.setIfInBounds_toArray, List.set_cons_zero, List.set_cons_succ])
        refine wpAnyH_take (i := 2) (v := ?_) rfl (by kernel_rfl) (by kernel_rfl) (by kernel_rfl) (fun _ _ _ h => h) (Or.inl ⟨by rfl, ?_⟩) hHeld ?_
        rotate_left
        · (intro w hSw; (try dsimp only at hSw); go_simp) <;> with_reducible rfl
        (try simp only [Act.put, List.setIfInBounds_toArray, List.set_cons_zero, List.set_cons_succ])
        refine wpAnyH_take (i := 3) (v := ?_) rfl (by kernel_rfl) (by kernel_rfl) (by kernel_rfl) (fun _ _ _ h => h) (Or.inl ⟨by rfl, ?_⟩) hHeld ?_
        rotate_left
        · (intro w hSw; (try dsimp only at hSw); go_simp) <;> with_reducible rfl
        (try simp only [Act.put, List.setIfInBounds_toArray, List.set_cons_zero, List.set_cons_succ])
        refine wpAnyH_ready (rs := [4]) (by kernel_rfl) (by simp) ?_
        refine AllReadyH.cons rfl (fun K hK => ?_) AllReadyH.nil
        go_simp
        refine hK.out _ _ hHeld (fun _ => ?_)
        clear hK K
        (try simp only [Act.put, List.setIfInBounds_toArray, List.set_cons_zero, List.set_cons_succ])
        refine wpAnyH_ready (rs := [5]) (by kernel_rfl) (by simp) ?_
        refine AllReadyH.cons rfl (fun K hK => ?_) AllReadyH.nil
        go_simp
        go_at_call 17
        refine (xwithout_any 0 s _ cs _ (HD7.out.p.sl.grew ((Chg.refl _ _).drew)) hsl hs0).mono ?_
        rintro e w8 ⟨A8, c8, rfl, hs8, hg8⟩
        have H8 := Lib.hid (And.intro hs8 hg8)
        obtain ⟨e0, g0, r0⟩ := ((HD7.out.p.blk.grew ((Chg.refl _ _).drew)).grew hg8).facts
        have hHel2 : w8.cell? ⟨SV, 0, none⟩ = some (.pointer (some ⟨b + 1, 0, none⟩)) := (hg8.cell (p := ⟨SV, 0, none⟩) s0 id).trans hHeld
        clear hs8 hg8
        refine hK.out _ _ hHel2 (fun _ => ?_)
        clear hK K
        (try simp only [Act.put, List.setIfInBounds_toArray, List.set_cons_zero, List.set_cons_succ])
        refine wpAnyH_take (i := 6) (v := ?_) rfl (by kernel_rfl) (by kernel_rfl) (by kernel_rfl) (fun _ _ _ h => h) (Or.inl ⟨by rfl, ?_⟩) hHel2 ?_
        rotate_left
        · (intro w hSw; (try dsimp only at hSw); go_simp) <;> with_reducible rfl
        (try simp only [Act.put, List.setIfInBounds_toArray, List.set_cons_zero, List.set_cons_succ])
        refine wpAnyH_take (i := 7) (v := ?_) rfl (by kernel_rfl) (by kernel_rfl) (by kernel_rfl) (fun _ _ _ h => h) (Or.inl ⟨by rfl, ?_⟩) hHel2 ?_
        rotate_left
        · (intro w hSw; (try dsimp only at hSw); go_simp) <;> with_reducible rfl
        (try simp only [Act.put, List.setIfInBounds_toArray, List.set_cons_zero, List.set_cons_succ])
        refine wpAnyH_ready (rs := [8]) (by kernel_rfl) (by simp) ?_
        refine AllReadyH.cons rfl (fun K hK => ?_) AllReadyH.nil
        go_simp
        refine hK.out _ _ (by rw [World.cell?_setCell_other _ _ _ _ (by intro e; injection e with e1 e2; omega)]; exact hHel2) (fun _ => ?_)
        clear hK K
        (try simp only [Act.put, List.setIfInBounds_toArray, List.set_cons_zero, List.set_cons_succ])
        refine wpAnyH_done (by kernel_rfl) ?_ _
        -- REGION ENDS
        clear hHeld hHel2 c00 c10 f10 e0 g0 r0
        obtain ⟨W9, hW9⟩ : ∃ W9, w8.setCell ⟨b + 1, 0, none⟩ (.slice A8 (s.length - 1) c8) = W9 := ⟨_, rfl⟩
        rw [hW9]
        have hle : (s.eraseIdx 0).length = s.length - 1 := by rw [List.length_eraseIdx]; simp [hs0]
        have HD9 := Lib.hid ((HD7.out.grew ((Chg.refl NoF W7).drew)).store (W' := W9) H8.out.1 H8.out.2 (by rw [hle]; exact hW9))
        have hc9 : Chg (fun j => j = b + 1) W7 W9 := by rw [← hW9]; exact Grew.then (show Grew W7 w8 from Grew.trans ((Chg.refl NoF W7).drew) H8.out.2) ((Chg.refl (fun j => j = b + 1) w8).setCell (p := ⟨b + 1, 0, none⟩) (fun _ => rfl) _)
        have HS9 := Lib.hid ((HS6.out.grew HG7.out).chg hc9 (by omega))
        clear hW9 hc9 s0 s1 hle
        obtain ⟨c0, f0, s0⟩ := HD9.out.kb.facts
        obtain ⟨c1, f1, s1⟩ := HS9.out.facts
        have hm0 := HL.out.m0
        have hlp : 0 < l.length := (List.getElem?_eq_some_iff.1 HX.out).1
        have HL9 := Lib.hid (show DueL (remL l 0) (s.eraseIdx 0) added (m + 1) from by
          have hp1 := rem_perm HX.out
          have hlen := hp1.length_eq
          rw [List.length_cons] at hlen
          have ha := HL.out.ad
          exact ⟨rem_heap HL.out.hp HX.out, HL.out.ql.erase hx0 hp1, fun y hy => HL.out.nb y (hp1.mem_iff.2 (by simp [hy])), ⟨ha.1, by omega, ha.2.2⟩, ⟨by omega, by omega⟩⟩)
        have HN9 := Lib.hid (show (remL l 0).length = n - 1 from by have := (rem_perm HX.out).length_eq; rw [List.length_cons] at this; have := HN.out; omega)
        by_cases hst : m + 1 = stop
        · have t3 : (m + 1 == stop) = true := by simpa using hst
          gi_wp2
          have HD10 := HD9.out.count (m' := stop) rfl (by omega) (by omega)
          exact ⟨HD10.rc, fun w' hk' hR' => .inr ⟨rfl, _, _, _, _, _, _, _, _, HD10.kept hk' hR' hDL, hst ▸ HL9.out, .inl rfl⟩⟩
        · have t3 : (m + 1 == stop) = false := by simpa using hst
          gi_wp2
          have HD10 := HD9.out.count (m' := m + 1) rfl (by omega) (by omega)
          exact ⟨HD10.rc, fun w' hk' hR' => .inl ⟨rfl, _, _, _, _, _, _, _, _, HD10.kept hk' hR' hDL, HL9.out, HN9.out⟩⟩
      case post =>
        rintro e w3 ⟨hv, hJ⟩
        refine ⟨hv, ?_⟩
        obtain ⟨l, s, A, c, As, cs, added, m, st, pe, hd, hl, hno, hor⟩ : ∃ l s A c As cs added m st pe, DueP B2 w3 b (b + 1) l s A c W3.heap.size As cs added m wo.heap.size D L r st pe ∧ DueL l s added m ∧ (m = stop ∨ ∀ x, l[0]? = some x → now < x.due) ∧ ((st = .ready ∧ pe = none) ∨ (st = .done ∧ pe = some (.exit 2))) := by
          rcases hJ with ⟨l, s, A, c, As, cs, added, m, hd, hl, hno⟩ | ⟨l, s, A, c, As, cs, added, m, hd, hl, hno⟩
          · exact ⟨_, _, _, _, _, _, _, _, _, _, hd, hl, hno, .inl ⟨rfl, rfl⟩⟩
          · exact ⟨_, _, _, _, _, _, _, _, _, _, hd, hl, hno, .inr ⟨rfl, rfl⟩⟩
        clear hJ
        refine rangeEnd_block ?_ fun w4 hk4 => ?_
        · rcases hor with ⟨rfl, rfl⟩ | ⟨rfl, rfl⟩
          · exact .inl hd.rc
          · exact .inr hd.rc
        have HP4 := Lib.hid (show SQ B2 w4 b (b + 1) l s A c W3.heap.size As cs added from (hd.sq hl).other hk4.chg (fun k _ hk e => hd.fL (e ▸ hk)) (fun k e => e ▸ hd.gL))
        have HK4 := Lib.hid (hd.kb.kept hk4)
        have HD4 := Lib.hid (hd.dfr.kept hk4 hDL)
        have HL4 := Lib.hid hl
        have HNo := Lib.hid hno
        clear hd hl hor hk4 hno
        have hc4 : Chg B2.G Wr w4 := by have := HP4.out.p.grew; rw [← HB.out] at this ⊢; exact this
        have HV4 := Lib.hid ((HV.out.grew HG1.out).chg hc4 (hnG _ (by omega) (by omega) (by omega) (by omega)))
        have HN4 := Lib.hid (((BN.out.grew HG.out).grew HG1.out).chg hc4 (hnG _ (by omega) (by omega) (by omega) (by omega)))
        have HS4 := Lib.hid (((BS.out.grew HG.out).grew HG1.out).chg hc4 (hnG _ (by omega) (by omega) (by omega) (by omega)))
        have HR4 := Lib.hid (((BR.out.grew HG.out).grew HG1.out).chg hc4 (hnG _ (by omega) (by omega) (by omega) (by omega)))
        have hcw4 := hc4.size
        have HGw := Lib.hid (show Grew w w4 from by
          refine Chg.mono (Chg.trans (F := fun j => w.heap.size ≤ j) (Grew.trans (Grew.trans HG3.out HG.out) HG1.out).chg hc4 fun i hi e => ?_) fun i hi e => absurd e (by omega)
          rw [← HB.out] at e
          rcases e with (⟨e, e1⟩ | e) | e | e
          · have := e.1; omega
          · have : Wr.heap.size ≤ i := e; omega
          · omega
          · omega)
        clear hc4
        obtain ⟨c0, f0, s0⟩ := HV4.out.facts
        obtain ⟨c1, f1, s1⟩ := HP4.out.p.blk.facts
        obtain ⟨c2, f2, s2⟩ := HN4.out.facts
        obtain ⟨c3, f3, s3⟩ := HS4.out.facts
        obtain ⟨c4, f4, s4⟩ := HK4.out.facts
        obtain ⟨c5, f5, s5⟩ := HR4.out.facts
        have hl8 : l.length ≤ 1000 := by have := HL4.out.ad; omega
        by_cases hms : m = stop
        · have t1 : (m == stop) = true := by simpa using hms
          have t1' : (m != stop) = false := by simpa using hms
          go_wp2_with fail
          go_quiet (fail)
          clear c1 f1 s1 c2 f2 s2 c3 f3 s3 c4 f4 s4 c5 f5 s5
          have HG6 := Lib.hid (show Grew w4 (w4.drewN nq) from (Chg.refl _ _).drewN nq)
          go_wp2_with (first
            | (go_at_call 15; refine (ssame_any B2 _ b (b + 1) c W3.heap.size cs l s A As added (HP4.out.on HG6.out) hl8).mono ?_; rintro e w8 ⟨rfl, hg8⟩; have HG8 := Lib.hid (Grew.trans HG6.out hg8); clear hg8)
            | (go_at_call 9; refine (awake_any _).mono ?_; rintro e w9 ⟨rfl, hg9⟩; have HG9 := Lib.hid (Grew.trans HG8.out hg9); clear hg9; obtain ⟨c4, f4, s4⟩ := (HR4.out.grew HG9.out).facts))
          clear c0 f0 s0
          refine postM_ret1 (v := .bool true) (D := D) ?_ rfl fun w5 hk5 => ?_
          · refine (HD4.out.grew HG9.out).chg (F := fun j => j = w.heap.size + 2) ?_ ?_
            · (repeat (first | (with_reducible exact (Chg.refl _ _)) | (with_reducible refine Chg.alloc ?_ _) | (with_reducible refine Chg.drew ?_) | (with_reducible refine Chg.drewN ?_ _) | ((with_reducible refine Chg.setCell ?_ ?hp _); (case hp => (intro _; rfl)))))
            · show ¬ D = w.heap.size + 2
              omega
          · refine ⟨?_, rfl, ?_⟩
            · obtain ⟨c2, f2, s2⟩ : (∀ i, w5.cell? ⟨w.heap.size + 2, i, none⟩ = #[Value.bool true][i]?) ∧ (∀ i, w5.frozen? ⟨w.heap.size + 2, i, none⟩ = false) ∧ w.heap.size + 2 < w5.heap.size := (Blk.kept (t := 4) (by (repeat (first | (with_reducible exact (HR4.out.grew HG9.out)) | (with_reducible apply Blk.drew) | (with_reducible apply Blk.drewN) | (with_reducible apply Blk.alloc) | (with_reducible apply Blk.putTo) | (with_reducible apply Blk.far))); (all_goals first | rfl | (simp; done) | (simp; omega))) hk5).facts
              simp [results, Try.results5, go_sem, c2, s2]
            · refine Chg.kept ?_ hk5 (by omega)
              (repeat (first | (with_reducible exact (Grew.trans HGw.out HG9.out)) | (with_reducible refine Chg.alloc ?_ _) | (with_reducible refine Chg.drew ?_) | (with_reducible refine Chg.drewN ?_ _) | ((with_reducible refine Chg.setCell ?_ ?hp _); (case hp => (intro h; exfalso; simp at h; try omega)))))
        · have t1 : (m == stop) = false := by simpa using hms
          have t1' : (m != stop) = true := by simpa using hms
          by_cases hs0 : s.length = 0
          · obtain rfl : s = [] := List.eq_nil_of_length_eq_zero hs0
            clear hs0
            go_wp2_with fail
            go_quiet (fail)
            clear c1 f1 s1 c2 f2 s2 c3 f3 s3 c4 f4 s4 c5 f5 s5
            have HG6 := Lib.hid (show Grew w4 (w4.drewN nq) from (Chg.refl _ _).drewN nq)
            go_wp2_with (first
              | (go_at_call 15; refine (ssame_any B2 _ b (b + 1) c W3.heap.size cs l [] A As added (HP4.out.on HG6.out) hl8).mono ?_; rintro e w8 ⟨rfl, hg8⟩; have HG8 := Lib.hid (Grew.trans HG6.out hg8); clear hg8)
              | (go_at_call 9; refine (awake_any _).mono ?_; rintro e w9 ⟨rfl, hg9⟩; have HG9 := Lib.hid (Grew.trans HG8.out hg9); clear hg9; obtain ⟨c4, f4, s4⟩ := (HR4.out.grew HG9.out).facts))
            clear c0 f0 s0
            refine postM_ret1 (v := .bool true) (D := D) ?_ rfl fun w5 hk5 => ?_
            · refine (HD4.out.grew HG9.out).chg (F := fun j => j = w.heap.size + 2) ?_ ?_
              · (repeat (first | (with_reducible exact (Chg.refl _ _)) | (with_reducible refine Chg.alloc ?_ _) | (with_reducible refine Chg.drew ?_) | (with_reducible refine Chg.drewN ?_ _) | ((with_reducible refine Chg.setCell ?_ ?hp _); (case hp => (intro _; rfl)))))
              · show ¬ D = w.heap.size + 2
                omega
            · refine ⟨?_, rfl, ?_⟩
              · obtain ⟨c2, f2, s2⟩ : (∀ i, w5.cell? ⟨w.heap.size + 2, i, none⟩ = #[Value.bool true][i]?) ∧ (∀ i, w5.frozen? ⟨w.heap.size + 2, i, none⟩ = false) ∧ w.heap.size + 2 < w5.heap.size := (Blk.kept (t := 4) (by (repeat (first | (with_reducible exact (HR4.out.grew HG9.out)) | (with_reducible apply Blk.drew) | (with_reducible apply Blk.drewN) | (with_reducible apply Blk.alloc) | (with_reducible apply Blk.putTo) | (with_reducible apply Blk.far))); (all_goals first | rfl | (simp; done) | (simp; omega))) hk5).facts
                simp [results, Try.results5, go_sem, c2, s2]
              · refine Chg.kept ?_ hk5 (by omega)
                (repeat (first | (with_reducible exact (Grew.trans HGw.out HG9.out)) | (with_reducible refine Chg.alloc ?_ _) | (with_reducible refine Chg.drew ?_) | (with_reducible refine Chg.drewN ?_ _) | ((with_reducible refine Chg.setCell ?_ ?hp _); (case hp => (intro h; exfalso; simp at h; try omega)))))
          · have hs1 : 0 < s.length := by omega
            obtain ⟨x, hx⟩ : ∃ x, s[0]? = some x := ⟨_, List.getElem?_eq_getElem hs1⟩
            have hxd := (HNo.out.resolve_left hms) x (by rw [HL4.out.ql.first HL4.out.hp]; exact hx)
            obtain ⟨g, off, eA, hgb, d0, d1, d2⟩ := HP4.out.p.sl.atItm hx
            subst eA
            simp only [Nat.zero_mul, Nat.add_zero] at d0 d1 d2
            have t2 : decide ((0 : Int) < (s.length : Int)) = true := by simp; omega
            have u1 : (0 : Int) < (s.length : Int) := by omega
            have t5 : decide (x.due ≤ now) = false := decide_eq_false (by omega)
            clear hs0
            go_wp2_with fail
            go_quiet (fail)
            clear d0 d1 d2
            clear c1 f1 s1 c2 f2 s2 c3 f3 s3 c4 f4 s4 c5 f5 s5
            have HG6 := Lib.hid (show Grew w4 (w4.drewN nq) from (Chg.refl _ _).drewN nq)
            go_wp2_with (first
              | (go_at_call 15; refine (ssame_any B2 _ b (b + 1) c W3.heap.size cs l s A _ added (HP4.out.on HG6.out) hl8).mono ?_; rintro e w8 ⟨rfl, hg8⟩; have HG8 := Lib.hid (Grew.trans HG6.out hg8); clear hg8)
              | (go_at_call 9; refine (awake_any _).mono ?_; rintro e w9 ⟨rfl, hg9⟩; have HG9 := Lib.hid (Grew.trans HG8.out hg9); clear hg9; obtain ⟨c4, f4, s4⟩ := (HR4.out.grew HG9.out).facts))
            clear c0 f0 s0
            refine postM_ret1 (v := .bool true) (D := D) ?_ rfl fun w5 hk5 => ?_
            · refine (HD4.out.grew HG9.out).chg (F := fun j => j = w.heap.size + 2) ?_ ?_
              · (repeat (first | (with_reducible exact (Chg.refl _ _)) | (with_reducible refine Chg.alloc ?_ _) | (with_reducible refine Chg.drew ?_) | (with_reducible refine Chg.drewN ?_ _) | ((with_reducible refine Chg.setCell ?_ ?hp _); (case hp => (intro _; rfl)))))
              · show ¬ D = w.heap.size + 2
                omega
            · refine ⟨?_, rfl, ?_⟩
              · obtain ⟨c2, f2, s2⟩ : (∀ i, w5.cell? ⟨w.heap.size + 2, i, none⟩ = #[Value.bool true][i]?) ∧ (∀ i, w5.frozen? ⟨w.heap.size + 2, i, none⟩ = false) ∧ w.heap.size + 2 < w5.heap.size := (Blk.kept (t := 4) (by (repeat (first | (with_reducible exact (HR4.out.grew HG9.out)) | (with_reducible apply Blk.drew) | (with_reducible apply Blk.drewN) | (with_reducible apply Blk.alloc) | (with_reducible apply Blk.putTo) | (with_reducible apply Blk.far))); (all_goals first | rfl | (simp; done) | (simp; omega))) hk5).facts
                simp [results, Try.results5, go_sem, c2, s2]
              · refine Chg.kept ?_ hk5 (by omega)
                (repeat (first | (with_reducible exact (Grew.trans HGw.out HG9.out)) | (with_reducible refine Chg.alloc ?_ _) | (with_reducible refine Chg.drew ?_) | (with_reducible refine Chg.drewN ?_ _) | ((with_reducible refine Chg.setCell ?_ ?hp _); (case hp => (intro h; exfalso; simp at h; try omega)))))

end Go.Proofs.Ytjdbaeogoifdfaa
