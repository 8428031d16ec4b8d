/- QueueMeanwhile. -/
import Derived.Test.YtjdbaeogoifdfaaQueXp
import Derived.Test.YtjdbaeogoifdfaaQueXg
import Derived.Outline
namespace Go.Proofs.Ytjdbaeogoifdfaa
open Go.RowKit Go.Maps
attribute [local go_sem] Oper.semAt_some

/-- The same things, seen from a world on the way. -/
def Bs.at_ (B : Bs) (W : World) (h : B.w.heap.size ≤ W.heap.size) : Bs := ⟨W, B.F, B.F, fun k hk => B.up k (Nat.le_trans h hk), fun _ h => h⟩

section
variable {w : Bs} {W W' : World} {b S c M cs K D L : Nat} {l s : List Itm} {A As : Option Addr} {added m : Int} {r : Loop} {st : LoopState} {pe : Option Code}
/-- A step of the law, in a round. -/
theorem DueP.step (h : DueP w W b S l s A c M As cs added m K D L r st pe) {l' s' : List Itm} {A' As' : Option Addr} {c' cs' : Nat} {added' : Int}
    (hq : SQ (w.at_ W h.p.q.grew.size) W' b S l' s' A' c' M As' cs' added') : DueP w W' b S l' s' A' c' M As' cs' added' m K D L r st pe := by
  have hc : Chg w.F W W' := hq.grew
  exact ⟨(hq.base (w' := w) (Chg.refl _ _) (Chg.trans h.p.q.grew hc fun i _ e => w.sub i e) fun k hk _ => hk).p, h.kb.chg hc h.fK, h.dfr.chg hc h.fD, h.rc.chg hc h.fL, h.fK, h.fD, h.fL, h.gK, h.gL⟩
end

/-- What is new since w0, but for some boxes. -/
def Bs.but2 (w0 : World) (N : Nat → Prop) (W : World) (hv : ∀ k, N k → k < W.heap.size) (h0 : w0.heap.size ≤ W.heap.size) : Bs :=
  ⟨W, fun k => w0.heap.size ≤ k ∧ ¬ N k, fun k => w0.heap.size ≤ k ∧ ¬ N k, fun k h => ⟨by omega, fun hn => by have := hv k hn; omega⟩, fun _ h => h⟩
theorem Bs.but2_grew {w0 W W' : World} {N : Nat → Prop} {hv : ∀ k, N k → k < W.heap.size} {h0 : w0.heap.size ≤ W.heap.size} (hg : Grew w0 W) (hc : Chg (Bs.but2 w0 N W hv h0).G (Bs.but2 w0 N W hv h0).w W') : Grew w0 W' :=
  Chg.mono (Grew.then hg hc) fun i hi e => absurd e.1 (by omega)

theorem sq_start_box {w W1 W1q W2 W5 : World} (h1 : (w.alloc (.map #[] 0)).alloc (.cells #[.slice none 0 0, .map (some w.heap.size), .int .i64 0] 55) = W1) (hg : Grew W1 W1q) (h2 : W1q.alloc (.cells #[.slice none 0 0, .int .i64 0] 37) = W2) (hg5 : Grew W2 W5)
    (N : Nat → Prop) (hv : ∀ k, N k → k < W5.heap.size) (h0 : w.heap.size ≤ W5.heap.size) (hN : ¬ N w.heap.size ∧ ¬ N (w.heap.size + 1) ∧ ¬ N W1q.heap.size) :
    SQ (Bs.but2 w N W5 hv h0) W5 (w.heap.size + 1) W1q.heap.size [] [] none 0 w.heap.size none 0 0 := by
  have hm := QMine.made w
  rw [h1] at hm
  have hg2 : Grew W1q W2 := h2 ▸ (Chg.refl _ _).alloc _
  have hz : W1.heap.size = w.heap.size + 1 + 1 := by rw [← h1]; simp
  have hzq := hg.size
  refine ⟨⟨⟨hm.q.grew (Grew.trans (Grew.trans hg hg2) hg5), Chg.refl _ _, fun k hk => ?_⟩, (show Blk W2 _ _ _ from h2 ▸ Blk.new _ _ _).grew hg5, Sl.nil _ _ _, ⟨by omega, hN.2.2⟩, fun hf => ?_, fun a ha => (by cases ha), (fun _ => rfl), fun a ha => (by cases ha)⟩, (fun k x p _ hx => by simp at hx), QL.nil, (fun x hx => by cases hx), ⟨by omega, by simp⟩⟩
  · rcases hk with rfl | rfl | ⟨a, ha, _⟩
    · exact ⟨by omega, hN.2.1⟩
    · exact ⟨by omega, hN.1⟩
    · cases ha
  · have := QF_old hm.q hf
    omega

set_option maxRecDepth 100000 in
set_option maxHeartbeats 800000 in
theorem qmw_out (l : List Qop) (now : Int) (m : List Int) (A B : Option Addr) (c d : Nat) (w : World) (h : l.length > 60 ∨ m.length > 20) (hln : (l.length : Int) ≤ 9223372036854775807) (hmn : (m.length : Int) ≤ 9223372036854775807) :
    Calls Try.prog 6 #[.slice A l.length c, .int .i64 now, .slice B m.length d] w fun e w' => e = .returned (.bool true) ∧ Grew w w' := by
  obtain ⟨W3, hW3⟩ : ∃ W3, (w.alloc (.cells #[.slice B m.length d] 22)).alloc (.cells #[.bool false] 4) = W3 := ⟨_, rfl⟩
  have HG3 := Lib.hid (show Grew w W3 from hW3 ▸ ((Chg.refl _ _).alloc _).alloc _)
  have BM := Lib.hid (show Blk W3 w.heap.size 22 #[.slice B m.length d] from hW3 ▸ (Blk.new _ _ _).alloc _)
  have BR := Lib.hid (show Blk W3 (w.heap.size + 1) 4 #[.bool false] from hW3 ▸ (by have := Blk.new (w.alloc (.cells #[.slice B m.length d] 22)) 4 #[.bool false]; simpa using this))
  have HW := Lib.hid hW3
  clear hW3
  by_cases h1 : l.length > 60
  · clear h
    obtain ⟨c0, f0, s0⟩ := BM.out.facts
    (refine calls_of_marks Try.func6 rfl ?_; simp only [Try.ntmps6, List.size_toArray, List.length_cons, List.length_nil, Nat.reduceAdd, Nat.reduceSub, Array.replicate_succ, Array.replicate_zero, List.push_toArray, List.append_toArray, List.nil_append, List.cons_append])
    go_wp2_with (first
      | (rw [HW.out])
      | (go_at_call 8; refine (new_any _).mono ?_; rintro e w1 ⟨rfl, rfl⟩)
      | (go_at_call 9; refine (awake_any _).mono ?_; rintro e w2 ⟨rfl, hg2⟩; have HG4 := Lib.hid (Grew.trans ((((Chg.refl NoF W3).alloc _).alloc _).alloc _) hg2); clear hg2; obtain ⟨c2, f2, s2⟩ := (BR.out.grew HG4.out).facts))
    refine postM_ret0 (v := .bool true) (by simp [results, Try.results6, go_sem, c2, s2]) rfl ⟨rfl, ?_⟩
    have := HG3.out.size
    (repeat (first | (with_reducible exact (Grew.trans HG3.out HG4.out)) | (with_reducible refine Chg.alloc ?_ _) | (with_reducible refine Chg.drew ?_) | (with_reducible refine Chg.drewN ?_ _) | ((with_reducible refine Chg.setCell ?_ ?hp _); (case hp => (intro h; exfalso; simp at h; try omega)))))
  · have h2 : m.length > 20 := by omega
    have h1' : l.length ≤ 60 := by omega
    clear h h1
    obtain ⟨W4, hW4⟩ : ∃ W4, ((W3.alloc (.map #[] 0)).alloc (.cells #[.slice none 0 0, .map (some W3.heap.size), .int .i64 0] 55)).alloc (.cells #[.pointer (some ⟨W3.heap.size + 1, 0, none⟩)] 23) = W4 := ⟨_, rfl⟩
    have HG5 := Lib.hid (show Grew W3 W4 from hW4 ▸ (((Chg.refl NoF W3).alloc _).alloc _).alloc _)
    obtain ⟨c1, f1, s1⟩ : (∀ i, W4.cell? ⟨W3.heap.size + 1 + 1, i, none⟩ = #[Value.pointer (some ⟨W3.heap.size + 1, 0, none⟩)][i]?) ∧ (∀ i, W4.frozen? ⟨W3.heap.size + 1 + 1, i, none⟩ = false) ∧ W3.heap.size + 1 + 1 < W4.heap.size := Blk.facts (t := 23) (by rw [← hW4]; have := Blk.new ((W3.alloc (.map #[] 0)).alloc (.cells #[.slice none 0 0, .map (some W3.heap.size), .int .i64 0] 55)) 23 #[.pointer (some ⟨W3.heap.size + 1, 0, none⟩)]; simpa using this)
    have HW4 := Lib.hid hW4
    clear hW4
    obtain ⟨c0, f0, s0⟩ := (BM.out.grew HG5.out).facts
    (refine calls_of_marks Try.func6 rfl ?_; simp only [Try.ntmps6, List.size_toArray, List.length_cons, List.length_nil, Nat.reduceAdd, Nat.reduceSub, Array.replicate_succ, Array.replicate_zero, List.push_toArray, List.append_toArray, List.nil_append, List.cons_append])
    go_wp2_with (first
      | (rw [HW.out])
      | (rw [HW4.out])
      | (go_at_call 8; refine (new_any _).mono ?_; rintro e w1 ⟨rfl, rfl⟩)
      | (go_at_call 9; refine (awake_any _).mono ?_; rintro e w2 ⟨rfl, hg2⟩; have HG4 := Lib.hid (Grew.trans HG5.out hg2); clear hg2; obtain ⟨c2, f2, s2⟩ := (BR.out.grew HG4.out).facts))
    refine postM_ret0 (v := .bool true) (by simp [results, Try.results6, go_sem, c2, s2]) rfl ⟨rfl, ?_⟩
    have := HG3.out.size
    (repeat (first | (with_reducible exact (Grew.trans HG3.out HG4.out)) | (with_reducible refine Chg.alloc ?_ _) | (with_reducible refine Chg.drew ?_) | (with_reducible refine Chg.drewN ?_ _) | ((with_reducible refine Chg.setCell ?_ ?hp _); (case hp => (intro h; exfalso; simp at h; try omega)))))

/-- What is known of the two lists: at most mx things are to come, k have come. -/
structure MwL (l s : List Itm) (added : Int) (k mx : Nat) : Prop where
  hp : hp l
  ql : QL l s
  nb : ∀ x ∈ l, 1 ≤ x.n ∧ x.n ≤ added
  ad : 0 ≤ added ∧ (l.length : Int) ≤ added ∧ added ≤ 60 + k
  k0 : k ≤ mx
/-- Between two rounds. -/
def MwJ (w : Bs) (b S M K D L : Nat) (r : Loop) (mx n : Nat) (W : World) : Prop :=
  ∃ l s A c As cs added, ∃ k : Nat, DueP w W b S l s A c M As cs added k K D L r .ready none ∧ MwL l s added k mx ∧ l.length + (mx - k) = n
/-- Behind the range. -/
def MwX (w : Bs) (b S M K D L : Nat) (r : Loop) (now : Int) (mx : Nat) (W : World) : Prop :=
  ∃ l s A c As cs added, ∃ k : Nat, DueP w W b S l s A c M As cs added k K D L r .ready none ∧ MwL l s added k mx ∧ ∀ x, l[0]? = some x → now < x.due

/-- What is held while the operands of the step are read. -/
def MwH (SV S b z K gm om k : Nat) (B : Option Addr) (n d : Nat) (mk : Int) (w' : World) : Prop :=
  w'.cell? ⟨SV, 0, none⟩ = some (.pointer (some ⟨S, 0, none⟩)) ∧ w'.cell? ⟨b + 1, 0, none⟩ = some (.pointer (some ⟨b, 0, none⟩)) ∧ w'.cell? ⟨z, 0, none⟩ = some (.slice B n d) ∧ w'.cell? ⟨K, 0, none⟩ = some (.int .i64 k) ∧ w'.cell? ⟨gm, om + k, none⟩ = some (.int .i64 mk)

set_option maxRecDepth 100000 in
set_option maxHeartbeats 3200000 in
theorem qmw_in (l : List Qop) (now : Int) (m : List Int) (A B : Option Addr) (c d : Nat) (w : World) (hl : l.length ≤ 60) (hm : m.length ≤ 20) (hs : Sl w 4 A l.length (l.flatMap Qop.vals)) (hok : ∀ r ∈ l, r.ok) (hs2 : Sl w 1 B m.length (m.map (Value.int .i64))) (hok2 : ∀ n ∈ m, -9223372036854775808 ≤ n ∧ n ≤ 9223372036854775807) :
    Calls Try.prog 6 #[.slice A l.length c, .int .i64 now, .slice B m.length d] w fun e w' => e = .returned (.bool true) ∧ Grew w w' := by
  have hl' : (l.length : Int) ≤ 60 := by omega
  have hm' : (m.length : Int) ≤ 20 := by omega
  obtain ⟨W3, hW3⟩ : ∃ W3, (w.alloc (.cells #[.slice B m.length d] 22)).alloc (.cells #[.bool false] 4) = W3 := ⟨_, rfl⟩
  have HG3 := Lib.hid (show Grew w W3 from hW3 ▸ ((Chg.refl _ _).alloc _).alloc _)
  have BM := Lib.hid (show Blk W3 w.heap.size 22 #[.slice B m.length d] from hW3 ▸ (Blk.new _ _ _).alloc _)
  have BR := Lib.hid (show Blk W3 (w.heap.size + 1) 4 #[.bool false] from hW3 ▸ (by have := Blk.new (w.alloc (.cells #[.slice B m.length d] 22)) 4 #[.bool false]; simpa using this))
  have Hs := Lib.hid (And.intro (hs.grew HG3.out) hok)
  have Hm := Lib.hid (And.intro (hs2.grew HG3.out) hok2)
  have HW := Lib.hid hW3
  clear hs hok hs2 hok2 hW3
  obtain ⟨W1, hW1⟩ : ∃ W1, (W3.alloc (.map #[] 0)).alloc (.cells #[.slice none 0 0, .map (some W3.heap.size), .int .i64 0] 55) = W1 := ⟨_, rfl⟩
  obtain ⟨b, hb⟩ : ∃ b, W3.heap.size + 1 = b := ⟨_, rfl⟩
  have hz1 : W1.heap.size = b + 1 := by rw [← hW1, ← hb]; simp
  obtain ⟨Wq, hWq⟩ : ∃ Wq, W1.alloc (.cells #[.pointer (some ⟨b, 0, none⟩)] 23) = Wq := ⟨_, rfl⟩
  have hzq : Wq.heap.size = b + 1 + 1 := by rw [← hWq]; simp [hz1]
  obtain ⟨W2, hW2⟩ : ∃ W2, Wq.alloc (.cells #[.slice none 0 0, .int .i64 0] 37) = W2 := ⟨_, rfl⟩
  have hz2 : W2.heap.size = b + 1 + 1 + 1 := by rw [← hW2]; simp [hzq]
  obtain ⟨W5, hW5⟩ : ∃ W5, W2.alloc (.cells #[.pointer (some ⟨b + 1 + 1, 0, none⟩)] 34) = W5 := ⟨_, rfl⟩
  have hz5 : W5.heap.size = b + 1 + 1 + 1 + 1 := by rw [← hW5]; simp [hz2]
  have hgq : Grew W1 Wq := hWq ▸ (Chg.refl _ _).alloc _
  have hg2 : Grew Wq W2 := hW2 ▸ (Chg.refl _ _).alloc _
  have hg5' : Grew W2 W5 := hW5 ▸ (Chg.refl _ _).alloc _
  have hg5 : Grew W3 W5 := Grew.trans (hW1 ▸ ((Chg.refl NoF W3).alloc _).alloc _) (Grew.trans hgq (Grew.trans hg2 hg5'))
  have bQV : Blk W5 (b + 1) 23 #[.pointer (some ⟨b, 0, none⟩)] := by
    have : Blk Wq W1.heap.size 23 #[.pointer (some ⟨b, 0, none⟩)] := hWq ▸ Blk.new _ _ _
    rw [hz1] at this
    exact (this.grew hg2).grew hg5'
  have bSV : Blk W5 (b + 1 + 1 + 1) 34 #[.pointer (some ⟨b + 1 + 1, 0, none⟩)] := by
    have : Blk W5 W2.heap.size 34 #[.pointer (some ⟨b + 1 + 1, 0, none⟩)] := hW5 ▸ Blk.new _ _ _
    rw [hz2] at this
    exact this
  have hv : ∀ k, (k = b + 1 ∨ k = b + 1 + 1 + 1) → k < W5.heap.size := fun k hk => by omega
  have hB2 : W3.heap.size ≤ W5.heap.size := hg5.size
  have h5 : SQ (Bs.but2 W3 (fun k => k = b + 1 ∨ k = b + 1 + 1 + 1) W5 hv hB2) W5 b (b + 1 + 1) [] [] none 0 W3.heap.size none 0 0 := by
    have := sq_start_box hW1 hgq hW2 hg5' (fun k => k = b + 1 ∨ k = b + 1 + 1 + 1) hv hB2 ⟨by omega, by omega, by omega⟩
    rw [hzq, hb] at this
    exact this
  obtain ⟨B5, hB5⟩ : ∃ B5, Bs.but2 W3 (fun k => k = b + 1 ∨ k = b + 1 + 1 + 1) W5 hv hB2 = B5 := ⟨_, rfl⟩
  rw [hB5] at h5
  obtain ⟨S, hS⟩ : ∃ S, b + 1 + 1 = S := ⟨_, rfl⟩
  obtain ⟨SV, hSV⟩ : ∃ SV, S + 1 = SV := ⟨_, rfl⟩
  rw [hS] at h5 hzq hz2 hz5 bSV hW5
  rw [hSV] at bSV
  obtain ⟨z, hz⟩ : ∃ z, w.heap.size = z := ⟨_, rfl⟩
  have hB5G : ∀ k, B5.G k → W3.heap.size ≤ k ∧ k ≠ b + 1 ∧ k ≠ SV := by subst hB5; intro k hk; exact ⟨hk.1, fun e => hk.2 (.inl e), fun e => hk.2 (.inr (by omega))⟩
  have hB5F : ∀ k, B5.F k → W3.heap.size ≤ k ∧ k ≠ b + 1 ∧ k ≠ SV := fun k hk => hB5G k (B5.sub k hk)
  have hB5w : ∀ W', Chg B5.G B5.w W' → Grew W3 W' ∧ Blk W' (b + 1) 23 #[.pointer (some ⟨b, 0, none⟩)] ∧ Blk W' SV 34 #[.pointer (some ⟨S, 0, none⟩)] ∧ W5.heap.size ≤ W'.heap.size := by
    subst hB5
    intro W' hc
    exact ⟨Bs.but2_grew hg5 hc, bQV.chg hc fun e => e.2 (.inl rfl), bSV.chg hc fun e => e.2 (.inr (by omega)), hc.size⟩
  have HB5 := Lib.hid (And.intro hB5G (And.intro hB5F hB5w))
  have H5 := Lib.hid h5
  have BQq := Lib.hid (show Blk Wq (b + 1) 23 #[.pointer (some ⟨b, 0, none⟩)] by
    have : Blk Wq W1.heap.size 23 #[.pointer (some ⟨b, 0, none⟩)] := hWq ▸ Blk.new _ _ _
    rw [hz1] at this
    exact this)
  have HGq := Lib.hid (show Grew W3 Wq from Grew.trans (hW1 ▸ ((Chg.refl NoF W3).alloc _).alloc _) hgq)
  rw [hz] at BM BR
  have HW1 := Lib.hid hW1
  have HW2 := Lib.hid hW2
  have HWq := Lib.hid hWq
  have HW5 := Lib.hid hW5
  have Hb := Lib.hid hb
  have Hz := Lib.hid hz
  have HS := Lib.hid (And.intro hS hSV)
  have HZ := Lib.hid (And.intro hz1 (And.intro hzq (And.intro hz2 hz5)))
  have hi1 : W3.heap.size + 1 ≤ b := Nat.le_of_eq hb
  have hi2 : b + 2 ≤ S := Nat.le_of_eq hS
  have hi3 : S + 1 ≤ SV := Nat.le_of_eq hSV
  have hi4 : SV + 1 ≤ W5.heap.size := by omega
  have hi5 : z + 2 ≤ W3.heap.size := by have := BR.out.lt; omega
  clear hW1 hW2 hWq hW5 h5 hg5 bSV bQV hgq hg2 hg5' hB5 hb hz hS hSV hB5G hB5F hB5w hz1 hzq hz2 hz5
  obtain ⟨c0, f0, s0⟩ := BQq.out.facts
  obtain ⟨c1, f1, s1⟩ := (BM.out.grew HGq.out).facts
  (refine calls_of_marks Try.func6 rfl ?_; simp only [Try.ntmps6, List.size_toArray, List.length_cons, List.length_nil, Nat.reduceAdd, Nat.reduceSub, Array.replicate_succ, Array.replicate_zero, List.push_toArray, List.append_toArray, List.nil_append, List.cons_append])
  go_wp2_with (first
    | (rw [HW.out, Hz.out])
    | (rw [HW1.out, Hb.out, HWq.out])
    | (rw [HZ.out.2.1, HW2.out])
    | (go_at_call 8; refine (new_any _).mono ?_; rintro e w1 ⟨rfl, rfl⟩))
  rw [HZ.out.2.2.1, HS.out.2, HW5.out]
  clear c0 f0 s0 c1 f1 s1
  go_loopw [35] (fun i wr => ∃ (k : Nat) (added : Int), k ≤ l.length ∧ i = .int .i64 k ∧ SQs B5 wr b S W3.heap.size added ∧ added ≤ k) (fun i _ => l.length - (intOf i).toNat)
  case atStart => exact ⟨0, 0, by omega, rfl, ⟨_, _, _, _, _, _, H5.out⟩, by omega⟩
  case round =>
    obtain ⟨k, added, hk, rfl, hq, had⟩ := hrel
    obtain ⟨lq, sq, Aq, cq, As, cs, hq⟩ := hq
    have HQ := Lib.hid hq
    have HG := Lib.hid (HB5.out.2.2 _ hq.grew)
    clear hq
    obtain ⟨c0, f0, s0⟩ := HG.out.2.2.1.facts
    obtain ⟨c1, f1, s1⟩ := HG.out.2.1.facts
    by_cases hlt : k < l.length
    · obtain ⟨o, ho⟩ : ∃ o, l[k]? = some o := ⟨_, List.getElem?_eq_getElem hlt⟩
      obtain ⟨g, off, rfl, hb, d0, d1, d2, d3⟩ := (Hs.out.1.grew HG.out.1).atQop ho
      have HO := Lib.hid (Hs.out.2 o (List.mem_of_getElem? ho))
      clear ho
      go_wp2_with fail
      refine (sstep_any o HO.out B5 _ b S cq W3.heap.size cs lq sq Aq As added (HQ.out.on ((Chg.refl _ _).alloc _)) (by omega)).mono ?_
      rintro e w5 ⟨rfl, hs5⟩
      obtain ⟨added', ⟨l5, s5', A5, c5, As5, cs5, hq5⟩, ha1, ha2⟩ := hs5.sqs
      have HQ5 := Lib.hid hq5
      clear hs5 hq5 d0 d1 d2 d3
      go_wp2_with fail
      exact ⟨⟨k + 1, added', by omega, by simp, ⟨_, _, _, _, _, _, HQ5.out⟩, by omega⟩, by simp [intOf]; omega⟩
    · obtain rfl : k = l.length := by omega
      obtain ⟨wo, rfl⟩ : ∃ wo : World, wo = wr := ⟨_, rfl⟩
      have hi6 : W5.heap.size ≤ wo.heap.size := HG.out.2.2.2
      clear hk hlt
      go_wp2_with fail
      obtain ⟨kB, hK⟩ : ∃ kB, wo.heap.size = kB := ⟨_, rfl⟩
      obtain ⟨W4, hW4⟩ : ∃ W4, ((wo.alloc (.cells #[.int .i64 0] 3)).alloc (.cells #[.pointer (some ⟨b, 0, none⟩)] 23)).alloc (.cells #[.int .i64 now] 3) = W4 := ⟨_, rfl⟩
      go_wp2_with (go_at_call 16; refine (due_any b now _ W4 hW4).mono ?_; rintro e w5 ⟨rfl, rfl⟩)
      have HG4 := Lib.hid (show Grew wo W4 from hW4 ▸ (((Chg.refl _ _).alloc _).alloc _).alloc _)
      have B4n := Lib.hid (show Blk W4 kB 3 #[.int .i64 0] from hW4 ▸ hK ▸ ((Blk.new _ _ _).alloc _).alloc _)
      have B4b := Lib.hid (show Blk W4 (kB + 1) 23 #[.pointer (some ⟨b, 0, none⟩)] from hW4 ▸ hK ▸ (by have := (Blk.new (wo.alloc (.cells #[.int .i64 0] 3)) 23 #[.pointer (some ⟨b, 0, none⟩)]).alloc (.cells #[.int .i64 now] 3); simpa using this))
      have B4w := Lib.hid (show Blk W4 (kB + 2) 3 #[.int .i64 now] from hW4 ▸ hK ▸ (by have := Blk.new ((wo.alloc (.cells #[.int .i64 0] 3)).alloc (.cells #[.pointer (some ⟨b, 0, none⟩)] 23)) 3 #[.int .i64 now]; simpa using this))
      have HK := Lib.hid hK
      rw [hK] at hi6
      clear hW4 hK c0 f0 s0 c1 f1 s1
      refine wp_range (gf := 29) (lb := #[.pointer (some ⟨kB + 1, 0, none⟩), .pointer (some ⟨kB + 1 + 1, 0, none⟩)]) (by simp [Act.eval]) (enters_of Try.func29 (by kernel_rfl) rfl) ?_
      intro r Wr D L hr hg1 hDl hLl hD hR
      have HR1 := Lib.hid hr
      have hDL := Ne.symm (hR.ne_dfr hD)
      have hz4 := B4w.out.lt
      have hz6 := hg1.size
      have hL2 := hR.lt
      have hD2 := hD.lt
      have HG1 := Lib.hid (Grew.trans HG4.out hg1)
      have HBb := Lib.hid (B4b.out.grew hg1)
      have HBw := Lib.hid (B4w.out.grew hg1)
      have hKs : wo.heap.size = kB := HK.out
      obtain ⟨B2, hB⟩ : ∃ B2, B5.rng kB kB L Wr = B2 := ⟨_, rfl⟩
      have HSQ := Lib.hid (show SQ B2 Wr b S lq sq Aq cq W3.heap.size As cs added from hB ▸ HQ.out.base HG1.out (Chg.refl _ _) fun k hk hlt => .inl ⟨hk, by omega⟩)
      have HJ0 := Lib.hid (show DueP B2 Wr b S lq sq Aq cq W3.heap.size As cs added 0 kB D L r .ready none from
        ⟨HSQ.out.p, B4n.out.grew hg1, hD, hR, by subst hB; rintro (e | e); exact absurd e.2 (by omega); exact absurd (show Wr.heap.size ≤ _ from e) (by omega),
          by subst hB; rintro (e | e); exact absurd e.2 (by omega); exact absurd (show Wr.heap.size ≤ _ from e) (by omega), by subst hB; rintro (e | e); exact absurd e.2 (by omega); exact absurd (show Wr.heap.size ≤ _ from e) (by omega), hB ▸ .inr (.inl rfl), hB ▸ .inr (.inr rfl)⟩)
      have HL0 := Lib.hid (show MwL lq sq added 0 m.length from ⟨HQ.out.hp, HQ.out.ql, HQ.out.nb, ⟨HQ.out.ad.1, HQ.out.ad.2, by omega⟩, Nat.zero_le _⟩)
      have hBw : B2.w = Wr := by subst hB; rfl
      have hBG : ∀ j, B2.G j → (W3.heap.size ≤ j ∧ j ≠ b + 1 ∧ j ≠ SV ∧ j < kB) ∨ Wr.heap.size ≤ j ∨ j = kB ∨ j = L := fun j e => by
        rw [← hB] at e
        rcases e with (⟨e, e1⟩ | e) | e | e
        · have := HB5.out.2.1 _ e; exact .inl ⟨this.1, this.2.1, this.2.2, e1⟩
        · exact .inr (.inl e)
        · exact .inr (.inr (.inl e))
        · exact .inr (.inr (.inr e))
      have hBF : ∀ j, B2.F j → (W3.heap.size ≤ j ∧ j ≠ b + 1 ∧ j ≠ SV ∧ j < kB) ∨ Wr.heap.size ≤ j := fun j e => by
        rw [← hB] at e
        rcases e with ⟨e, e1⟩ | e
        · have := HB5.out.2.1 _ e; exact .inl ⟨this.1, this.2.1, this.2.2, e1⟩
        · exact .inr e
      have HBB := Lib.hid (And.intro hBG hBF)
      have hall : ∀ W, Chg B2.G B2.w W → Grew W3 W ∧ Blk W SV 34 #[.pointer (some ⟨S, 0, none⟩)] ∧ Blk W (b + 1) 23 #[.pointer (some ⟨b, 0, none⟩)] ∧ Blk W z 22 #[.slice B m.length d] ∧ Blk W (z + 1) 4 #[.bool false] ∧
          Blk W (kB + 1) 23 #[.pointer (some ⟨b, 0, none⟩)] ∧ Blk W (kB + 2) 3 #[.int .i64 now] ∧ Sl W 1 B m.length (m.map (Value.int .i64)) ∧ Wr.heap.size ≤ W.heap.size := by
        intro W hc
        rw [hBw] at hc
        have hg : Grew W3 W := Chg.mono (Grew.then (Grew.trans HG.out.1 HG1.out) hc) fun i hi e => by rcases hBG i e with ⟨e, _⟩ | e | e | e <;> omega
        refine ⟨hg, (HG.out.2.2.1.grew HG1.out).chg hc fun e => ?_, (HG.out.2.1.grew HG1.out).chg hc fun e => ?_, BM.out.grew hg, BR.out.grew hg, HBb.out.chg hc fun e => ?_, HBw.out.chg hc fun e => ?_, Hm.out.1.grew hg, hc.size⟩ <;> rcases hBG _ e with ⟨e, _⟩ | e | e | e <;> omega
      have HA := Lib.hid hall
      clear hr hg1 hD hR hall hBG hBF hB hBw
      refine (due_iter (kB + 1) (kB + 1 + 1) b L (lq.length + (m.length - 0)) now (MwJ B2 b S W3.heap.size kB D L r m.length) (MwX B2 b S W3.heap.size kB D L r now m.length) (fun _ => False) Wr
        (fun n W hJ => ?hin) ⟨_, _, _, _, _, _, _, _, HJ0.out, HL0.out, rfl⟩).mono ?post
      case hin =>
        obtain ⟨l, s, A, c, As, cs, added, k, hd, hl, hn⟩ := hJ
        have ha := HA.out W hd.p.grew
        refine ⟨l, A, c, W3.heap.size, added, ha.2.2.2.2.2.1, ha.2.2.2.2.2.2.1, hd.p.q.q, by have := hl.ad; have := hl.k0; omega,
          fun hno W' hg => ⟨l, s, A, c, As, cs, added, k, hd.grew hg, hl, hno⟩, fun x W' hx hdue hq hc => ⟨n - 1, ?_, ?_⟩⟩
        · have := (List.getElem?_eq_some_iff.1 hx).1; omega
        have HD := Lib.hid (hd.pop hq hc)
        have HL := Lib.hid hl
        have HX := Lib.hid hx
        have HN := Lib.hid hn
        clear hd hl hx hq hc hn ha
        obtain ⟨hr1, hr2, hr3, hr4⟩ := HR1.out
        refine yield_wide HD.out.rc (by rw [hr2]; rfl) ?_
        rw [hr1, hr2, hr3, hr4]
        clear hr1 hr2 hr3 hr4
        intro KK hKK
        have HKK := Lib.hid hKK
        clear hKK
        gi_wp2
        refine HKK.out _ _ HD.out.rc fun W6 Q hk3 hR2 hQ => ?_
        refine Code.wpIn_mono hQ ?_
        have HD6 := Lib.hid (HD.out.kept hk3 hR2 hDL)
        clear hQ Q hk3 hR2
        have HA6 := Lib.hid (HA.out W6 HD6.out.p.grew)
        have hx0 : s[0]? = some x := by rw [← HL.out.ql.first HL.out.hp]; exact HX.out
        obtain ⟨c0, f0, s0⟩ := HA6.out.2.1.facts
        obtain ⟨c1, f1, s1⟩ := HD6.out.p.blk.facts
        obtain ⟨g, off, eA, hgb, d0, d1, d2⟩ := HD6.out.p.sl.atItm hx0
        subst eA
        simp only [Nat.zero_mul, Nat.add_zero] at d0 d1 d2
        have hs0 := (List.getElem?_eq_some_iff.1 hx0).1
        have t1 : ((s.length : Int) == 0) = false := by simp; intro e; rw [e] at hs0; simp at hs0
        have u1 : (0 : Int) < (s.length : Int) := by omega
        gi_wp2
        clear c0 f0 s0 c1 f1 s1 d0 d1 d2
        have HD7 := HD6
        have HA7 := HA6
        obtain ⟨c0, f0, s0⟩ := HA7.out.2.1.facts
        obtain ⟨c1, f1, s1⟩ := HD7.out.p.blk.facts
        have c00 := c0 0
        have c10 := c1 0
        have f10 := f1 0
        simp only [List.getElem?_toArray, List.getElem?_cons_zero, List.getElem?_cons_succ] at c00 c10
        clear c0 c1 f0 f1
        have hsl : s.length ≤ 1000000 := by have h1 := HL.out.ad; have h2 := HL.out.ql.len; have h3 := HL.out.k0; omega
        refine wpIn_region_held_round (S := fun w' => w'.cell? ⟨SV, 0, none⟩ = some (.pointer (some ⟨S, 0, none⟩))) (fun _ _ h => h) (by kernel_rfl) (by kernel_rfl) c00 (fun hHeld => ?_)
        refine wpAnyH_take (i := 0) (v := ?_) rfl (by kernel_rfl) (by kernel_rfl) (by kernel_rfl) (fun _ _ _ h => h) (Or.inl ⟨by rfl, ?_⟩) hHeld ?_
        rotate_left
        · (intro w hSw; (try dsimp only at hSw); go_simp) <;> with_reducible rfl
        (try simp only [Act.put, List.setIfInBounds_toArray, List.set_cons_zero, List.set_cons_succ])
        refine wpAnyH_take (i := 1) (v := ?_) rfl (by kernel_rfl) (by kernel_rfl) (by kernel_rfl) (fun _ _ _ h => h) (Or.inl ⟨by rfl, ?_⟩) hHeld ?_
        rotate_left
        · (intro w hSw; (try dsimp only at hSw); go_simp) <;> with_reducible rfl
        (try simp only [Act.put, List.setIfInBounds_toArray, List.set_cons_zero, List.set_cons_succ])
        refine wpAnyH_take (i := 2) (v := ?_) rfl (by kernel_rfl) (by kernel_rfl) (by kernel_rfl) (fun _ _ _ h => h) (Or.inl ⟨by rfl, ?_⟩) hHeld ?_
        rotate_left
        · (intro w hSw; (try dsimp only at hSw); go_simp) <;> with_reducible rfl
        (try simp only [Act.put, List.setIfInBounds_toArray, List.set_cons_zero, List.set_cons_succ])
        refine wpAnyH_take (i := 3) (v := ?_) rfl (by kernel_rfl) (by kernel_rfl) (by kernel_rfl) (fun _ _ _ h => h) (Or.inl ⟨by rfl, ?_⟩) hHeld ?_
        rotate_left
        · (intro w hSw; (try dsimp only at hSw); go_simp) <;> with_reducible rfl
        (try simp only [Act.put, List.setIfInBounds_toArray, List.set_cons_zero, List.set_cons_succ])
        refine wpAnyH_ready (rs := [4]) (by kernel_rfl) (by simp) ?_
        refine AllReadyH.cons rfl (fun K hK => ?_) AllReadyH.nil
        go_simp
        refine hK.out _ _ hHeld (fun _ => ?_)
        clear hK K
        (try simp only [Act.put, List.setIfInBounds_toArray, List.set_cons_zero, List.set_cons_succ])
        refine wpAnyH_ready (rs := [5]) (by kernel_rfl) (by simp) ?_
        refine AllReadyH.cons rfl (fun K hK => ?_) AllReadyH.nil
        go_simp
        go_at_call 17
        refine (xwithout_any 0 s _ cs _ (HD7.out.p.sl.grew ((Chg.refl _ _).drew)) hsl hs0).mono ?_
        rintro e w8 ⟨A8, c8, rfl, hs8, hg8⟩
        have H8 := Lib.hid (And.intro hs8 hg8)
        obtain ⟨e0, g0, r0⟩ := ((HD7.out.p.blk.grew ((Chg.refl _ _).drew)).grew hg8).facts
        have hHel2 : w8.cell? ⟨SV, 0, none⟩ = some (.pointer (some ⟨S, 0, none⟩)) := (hg8.cell (p := ⟨SV, 0, none⟩) s0 id).trans hHeld
        clear hs8 hg8
        refine hK.out _ _ hHel2 (fun _ => ?_)
        clear hK K
        (try simp only [Act.put, List.setIfInBounds_toArray, List.set_cons_zero, List.set_cons_succ])
        refine wpAnyH_take (i := 6) (v := ?_) rfl (by kernel_rfl) (by kernel_rfl) (by kernel_rfl) (fun _ _ _ h => h) (Or.inl ⟨by rfl, ?_⟩) hHel2 ?_
        rotate_left
        · (intro w hSw; (try dsimp only at hSw); go_simp) <;> with_reducible rfl
        (try simp only [Act.put, List.setIfInBounds_toArray, List.set_cons_zero, List.set_cons_succ])
        refine wpAnyH_take (i := 7) (v := ?_) rfl (by kernel_rfl) (by kernel_rfl) (by kernel_rfl) (fun _ _ _ h => h) (Or.inl ⟨by rfl, ?_⟩) hHel2 ?_
        rotate_left
        · (intro w hSw; (try dsimp only at hSw); go_simp) <;> with_reducible rfl
        (try simp only [Act.put, List.setIfInBounds_toArray, List.set_cons_zero, List.set_cons_succ])
        refine wpAnyH_ready (rs := [8]) (by kernel_rfl) (by simp) ?_
        refine AllReadyH.cons rfl (fun K hK => ?_) AllReadyH.nil
        go_simp
        refine hK.out _ _ (by rw [World.cell?_setCell_other _ _ _ _ (by intro e; injection e with e1 e2; omega)]; exact hHel2) (fun _ => ?_)
        clear hK K
        (try simp only [Act.put, List.setIfInBounds_toArray, List.set_cons_zero, List.set_cons_succ])
        refine wpAnyH_done (by kernel_rfl) ?_ _
        clear hHeld hHel2 c00 c10 f10 e0 g0 r0 s0 s1
        obtain ⟨W9, hW9⟩ : ∃ W9, w8.setCell ⟨S, 0, none⟩ (.slice A8 (s.length - 1) c8) = W9 := ⟨_, rfl⟩
        rw [hW9]
        have hle : (s.eraseIdx 0).length = s.length - 1 := by rw [List.length_eraseIdx]; simp [hs0]
        have HD9 := Lib.hid ((HD7.out.grew ((Chg.refl NoF W6).drew)).store (W' := W9) H8.out.1 H8.out.2 (by rw [hle]; exact hW9))
        have hlp : 0 < l.length := (List.getElem?_eq_some_iff.1 HX.out).1
        have hlr : (remL l 0).length = l.length - 1 := by have := (rem_perm HX.out).length_eq; rw [List.length_cons] at this; omega
        have HL9 := Lib.hid (show MwL (remL l 0) (s.eraseIdx 0) added k m.length from by
          have hp1 := rem_perm HX.out
          have ha := HL.out.ad
          exact ⟨rem_heap HL.out.hp HX.out, HL.out.ql.erase hx0 hp1, fun y hy => HL.out.nb y (hp1.mem_iff.2 (by simp [hy])), ⟨ha.1, by omega, ha.2.2⟩, HL.out.k0⟩)
        have HA9 := Lib.hid (HA.out W9 HD9.out.p.grew)
        have hk0 := HL.out.k0
        have had9 := HL.out.ad
        clear hW9 hle HD7 HD6 HA7 HA6
        obtain ⟨c0, f0, s0⟩ := HD9.out.kb.facts
        obtain ⟨c1, f1, s1⟩ := HA9.out.2.2.2.1.facts
        by_cases hkm : k < m.length
        · have t3 : decide ((k : Int) < (m.length : Int)) = true := by simp; omega
          obtain ⟨mk, hmk⟩ : ∃ mk, m[k]? = some mk := ⟨_, List.getElem?_eq_getElem hkm⟩
          obtain ⟨gm, om, hB, hgm, hcm⟩ := Hm.out.1.2 (by omega)
          have hcm5 := ((HA9.out.1.cell (p := ⟨gm, om + k, none⟩) hgm id).trans (hcm k (.int .i64 mk) (by simp [hmk])))
          have hsz := HA9.out.1.size
          gi_wp2
          clear c0 f0 s0 c1 f1 s1 hcm
          have hF1 : ¬ B2.F SV := fun e => by rcases HBB.out.2 _ e with ⟨e, _⟩ | e <;> omega
          have hF2 : ¬ B2.F (b + 1) := fun e => by rcases HBB.out.2 _ e with ⟨e, _⟩ | e <;> omega
          have hF3 : ¬ B2.F z := fun e => by rcases HBB.out.2 _ e with ⟨e, _⟩ | e <;> omega
          have hF5 : ¬ B2.F gm := fun e => by rcases HBB.out.2 _ e with ⟨e, _⟩ | e <;> omega
          have hgm5 : gm < W9.heap.size := by omega
          have HQ9 := Lib.hid (show SQ (B2.at_ W9 HD9.out.p.q.grew.size) W9 b S (remL l 0) (s.eraseIdx 0) A c W3.heap.size A8 c8 added from
            SQ.base (w := B2) ⟨HD9.out.p, HL9.out.hp, HL9.out.ql, HL9.out.nb, HL9.out.ad.1, HL9.out.ad.2.1⟩ (Chg.refl _ _) (Chg.refl _ _) (fun k hk _ => hk))
          have h00 : MwH SV S b z kB gm om k B m.length d mk W9 := ⟨HA9.out.2.1.cell 0, HA9.out.2.2.1.cell 0, HA9.out.2.2.2.1.cell 0, HD9.out.kb.cell 0, hcm5⟩
          subst hB
          refine wpIn_region_held_round (S := MwH SV S b z kB gm om k (some ⟨gm, om, none⟩) m.length d mk) (fun _ _ h => h) (by kernel_rfl) (by kernel_rfl) h00 (fun hHeld => ?_)
          obtain ⟨q1_, q2_, q3_, q4_, q5_⟩ := hHeld
          have hHeld : MwH SV S b z kB gm om k (some ⟨gm, om, none⟩) m.length d mk W9.drew := ⟨q1_, q2_, q3_, q4_, q5_⟩
          refine wpAnyH_take (i := 0) (v := ?_) rfl (by kernel_rfl) (by kernel_rfl) (by kernel_rfl) (fun _ _ _ h => h) (Or.inl ⟨by rfl, ?_⟩) hHeld ?_
          rotate_left
          · (intro w hSw; (obtain ⟨q1, q2, q3, q4, q5⟩ := hSw); go_simp) <;> with_reducible rfl
          (try simp only [Act.put, List.setIfInBounds_toArray, List.set_cons_zero, List.set_cons_succ])
          refine wpAnyH_take (i := 1) (v := ?_) rfl (by kernel_rfl) (by kernel_rfl) (by kernel_rfl) (fun _ _ _ h => h) (Or.inl ⟨by rfl, ?_⟩) hHeld ?_
          rotate_left
          · (intro w hSw; (obtain ⟨q1, q2, q3, q4, q5⟩ := hSw); go_simp) <;> with_reducible rfl
          (try simp only [Act.put, List.setIfInBounds_toArray, List.set_cons_zero, List.set_cons_succ])
          refine wpAnyH_take (i := 2) (v := ?_) rfl (by kernel_rfl) (by kernel_rfl) (by kernel_rfl) (fun _ _ _ h => h) (Or.inl ⟨by rfl, ?_⟩) hHeld ?_
          rotate_left
          · (intro w hSw; (obtain ⟨q1, q2, q3, q4, q5⟩ := hSw); go_simp) <;> with_reducible rfl
          (try simp only [Act.put, List.setIfInBounds_toArray, List.set_cons_zero, List.set_cons_succ])
          refine wpAnyH_take (i := 3) (v := ?_) rfl (by kernel_rfl) (by kernel_rfl) (by kernel_rfl) (fun _ _ _ h => h) (Or.inl ⟨by rfl, ?_⟩) hHeld ?_
          rotate_left
          · (intro w hSw; (obtain ⟨q1, q2, q3, q4, q5⟩ := hSw); go_simp) <;> with_reducible rfl
          (try simp only [Act.put, List.setIfInBounds_toArray, List.set_cons_zero, List.set_cons_succ])
          refine wpAnyH_take (i := 4) (v := ?_) rfl (by kernel_rfl) (by kernel_rfl) (by kernel_rfl) (fun _ _ _ h => h) (Or.inl ⟨by rfl, ?_⟩) hHeld ?_
          rotate_left
          · (intro w hSw; (obtain ⟨q1, q2, q3, q4, q5⟩ := hSw); go_simp) <;> with_reducible rfl
          (try simp only [Act.put, List.setIfInBounds_toArray, List.set_cons_zero, List.set_cons_succ])
          refine wpAnyH_take (i := 5) (v := ?_) rfl (by kernel_rfl) (by kernel_rfl) (by kernel_rfl) (fun _ _ _ h => h) (Or.inl ⟨by rfl, ?_⟩) hHeld ?_
          rotate_left
          · (intro w hSw; (obtain ⟨q1, q2, q3, q4, q5⟩ := hSw); go_simp) <;> with_reducible rfl
          (try simp only [Act.put, List.setIfInBounds_toArray, List.set_cons_zero, List.set_cons_succ])
          refine wpAnyH_take (i := 6) (v := ?_) rfl (by kernel_rfl) (by kernel_rfl) (by kernel_rfl) (fun _ _ _ h => h) (Or.inl ⟨by rfl, ?_⟩) hHeld ?_
          rotate_left
          · (intro w hSw; (obtain ⟨q1, q2, q3, q4, q5⟩ := hSw); go_simp) <;> with_reducible rfl
          (try simp only [Act.put, List.setIfInBounds_toArray, List.set_cons_zero, List.set_cons_succ])
          refine wpAnyH_ready (rs := [7]) (by kernel_rfl) (by simp) ?_
          refine AllReadyH.cons rfl (fun K hK => ?_) AllReadyH.nil
          go_simp
          go_at_call 14
          refine (sstep_add ⟨1, 0, mk, ⟨#[109]⟩⟩ (B2.at_ W9 HD9.out.p.q.grew.size) _ b S _ W3.heap.size _ _ _ _ _ added (HQ9.out.on ((Chg.refl _ _).drew)) (by omega) (by omega) rfl).mono ?_
          rintro e w8 ⟨rfl, l5, A5, c5, As5, cs5, hq5⟩
          have hc5 : Chg B2.F W9 w8 := hq5.grew
          have hHel3 : MwH SV S b z kB gm om k (some ⟨gm, om, none⟩) m.length d mk w8 := ⟨(hc5.cell (p := ⟨SV, 0, none⟩) HA9.out.2.1.lt hF1).trans q1_, (hc5.cell (p := ⟨b + 1, 0, none⟩) HA9.out.2.2.1.lt hF2).trans q2_, (hc5.cell (p := ⟨z, 0, none⟩) HA9.out.2.2.2.1.lt hF3).trans q3_, (hc5.cell (p := ⟨kB, 0, none⟩) HD9.out.kb.lt HD9.out.fK).trans q4_, (hc5.cell (p := ⟨gm, om + k, none⟩) hgm5 hF5).trans q5_⟩
          have HD5 := Lib.hid (HD9.out.step hq5)
          have HQ5 := Lib.hid hq5
          clear hq5 hc5
          refine hK.out _ _ hHel3 (fun _ => ?_)
          clear hK K
          (try simp only [Act.put, List.setIfInBounds_toArray, List.set_cons_zero, List.set_cons_succ])
          refine wpAnyH_done (by kernel_rfl) ?_ _
          clear hHeld hHel3 h00 q1_ q2_ q3_ q4_ q5_
          obtain ⟨c0, f0, s0⟩ := HD5.out.kb.facts
          gi_wp2
          have HD10 := HD5.out.count (m' := (k : Int) + 1) rfl (by omega) (by omega)
          rw [show ((k : Int) + 1) = ((k + 1 : Nat) : Int) from by simp] at HD10
          have hl5 : l5.length = l.length := by have h1 := HQ5.out.len; rw [(putS_perm _ _).length_eq, List.length_cons, HL9.out.ql.len] at h1; omega
          exact ⟨HD10.rc, fun w' hk' hR' => .inl ⟨rfl, _, _, _, _, _, _, _, k + 1, HD10.kept hk' hR' hDL, ⟨HQ5.out.hp, HQ5.out.ql, HQ5.out.nb, ⟨HQ5.out.ad.1, HQ5.out.ad.2, by omega⟩, hkm⟩, by have := HN.out; omega⟩⟩
        · obtain rfl : k = m.length := by omega
          have t3 : decide ((m.length : Int) < (m.length : Int)) = false := by simp
          gi_wp2
          exact ⟨HD9.out.rc, fun w' hk' hR' => .inl ⟨rfl, _, _, _, _, _, _, _, m.length, HD9.out.kept hk' hR' hDL, HL9.out, by have := HN.out; omega⟩⟩
      case post =>
        rintro e w3 ⟨hv, hJ⟩
        refine ⟨hv, ?_⟩
        obtain ⟨l, s, A, c, As, cs, added, k, hd, hl, hno⟩ := hJ.resolve_right id
        clear hJ
        refine .inl ⟨hd.rc, fun w4 hk4 => ?_⟩
        have HP4 := Lib.hid (show SQ B2 w4 b S l s A c W3.heap.size As cs added from (show SQ B2 w3 b S l s A c W3.heap.size As cs added from ⟨hd.p, hl.hp, hl.ql, hl.nb, hl.ad.1, hl.ad.2.1⟩).other hk4.chg (fun k _ hk e => hd.fL (e ▸ hk)) (fun k e => e ▸ hd.gL))
        have HD4 := Lib.hid (hd.dfr.kept hk4 hDL)
        have HL4 := Lib.hid hl
        have HNo := Lib.hid hno
        clear hd hl hk4 hno
        have HA4 := Lib.hid (HA.out w4 HP4.out.p.grew)
        have hcw4 := HA4.out.2.2.2.2.2.2.2.2
        obtain ⟨c0, f0, s0⟩ := HA4.out.2.1.facts
        obtain ⟨c1, f1, s1⟩ := HP4.out.p.blk.facts
        obtain ⟨c2, f2, s2⟩ := HA4.out.2.2.1.facts
        obtain ⟨c3, f3, s3⟩ := HA4.out.2.2.2.2.1.facts
        have hl8 : l.length ≤ 1000 := by have := HL4.out.ad; have := HL4.out.k0; omega
        by_cases hs0 : s.length = 0
        · obtain rfl : s = [] := List.eq_nil_of_length_eq_zero hs0
          clear hs0
          go_wp2_with (first
            | (go_at_call 15; refine (ssame_any B2 _ b S c W3.heap.size cs l [] A As added HP4.out hl8).mono ?_; rintro e w8 ⟨rfl, hg8⟩; have HG8 := Lib.hid hg8; clear hg8)
            | (go_at_call 9; refine (awake_any _).mono ?_; rintro e w9 ⟨rfl, hg9⟩; have HG9 := Lib.hid (Grew.trans HG8.out hg9); clear hg9; obtain ⟨c4, f4, s4⟩ := (HA4.out.2.2.2.2.1.grew HG9.out).facts))
          clear c0 f0 s0 c1 f1 s1 c2 f2 s2 c3 f3 s3 c4 f4 s4
          refine postM_ret1 (v := .bool true) (D := D) ?_ rfl fun w5 hk5 => ?_
          · refine (HD4.out.grew HG9.out).chg (F := fun j => j = z + 1) ?_ ?_
            · (repeat (first | (with_reducible exact (Chg.refl _ _)) | (with_reducible refine Chg.alloc ?_ _) | (with_reducible refine Chg.drew ?_) | (with_reducible refine Chg.drewN ?_ _) | ((with_reducible refine Chg.setCell ?_ ?hp _); (case hp => (intro _; rfl)))))
            · show ¬ D = z + 1
              omega
          · refine ⟨?_, rfl, ?_⟩
            · obtain ⟨c2, f2, s2⟩ : (∀ i, w5.cell? ⟨z + 1, i, none⟩ = #[Value.bool true][i]?) ∧ (∀ i, w5.frozen? ⟨z + 1, i, none⟩ = false) ∧ z + 1 < w5.heap.size := (Blk.kept (t := 4) (by (repeat (first | (with_reducible exact (HA4.out.2.2.2.2.1.grew HG9.out)) | (with_reducible apply Blk.drew) | (with_reducible apply Blk.drewN) | (with_reducible apply Blk.alloc) | (with_reducible apply Blk.putTo) | (with_reducible apply Blk.far))); (all_goals first | rfl | (simp; done) | (simp; omega))) hk5).facts
              simp [results, Try.results6, go_sem, c2, s2]
            · have hzz := Hz.out
              refine Chg.kept ?_ hk5 (by omega)
              (repeat (first | (with_reducible exact (Grew.trans HG3.out (Grew.trans HA4.out.1 HG9.out))) | (with_reducible refine Chg.alloc ?_ _) | (with_reducible refine Chg.drew ?_) | (with_reducible refine Chg.drewN ?_ _) | ((with_reducible refine Chg.setCell ?_ ?hp _); (case hp => (intro h; exfalso; simp at h; try omega)))))
        · have hs1 : 0 < s.length := by omega
          obtain ⟨x, hx⟩ : ∃ x, s[0]? = some x := ⟨_, List.getElem?_eq_getElem hs1⟩
          have hxd := HNo.out x (by rw [HL4.out.ql.first HL4.out.hp]; exact hx)
          obtain ⟨g, off, eA, hgb, d0, d1, d2⟩ := HP4.out.p.sl.atItm hx
          subst eA
          simp only [Nat.zero_mul, Nat.add_zero] at d0 d1 d2
          have t1 : ((s.length : Int) == 0) = false := by simp; intro e; rw [e] at hs1; simp at hs1
          have u1 : (0 : Int) < (s.length : Int) := by omega
          have t5 : decide (now < x.due) = true := decide_eq_true hxd
          clear hs0
          go_wp2_with (first
            | (go_at_call 15; refine (ssame_any B2 _ b S c W3.heap.size cs l s A _ added HP4.out hl8).mono ?_; rintro e w8 ⟨rfl, hg8⟩; have HG8 := Lib.hid hg8; clear hg8)
            | (go_at_call 9; refine (awake_any _).mono ?_; rintro e w9 ⟨rfl, hg9⟩; have HG9 := Lib.hid (Grew.trans HG8.out hg9); clear hg9; obtain ⟨c4, f4, s4⟩ := (HA4.out.2.2.2.2.1.grew HG9.out).facts))
          clear d0 d1 d2
          clear c0 f0 s0 c1 f1 s1 c2 f2 s2 c3 f3 s3 c4 f4 s4
          refine postM_ret1 (v := .bool true) (D := D) ?_ rfl fun w5 hk5 => ?_
          · refine (HD4.out.grew HG9.out).chg (F := fun j => j = z + 1) ?_ ?_
            · (repeat (first | (with_reducible exact (Chg.refl _ _)) | (with_reducible refine Chg.alloc ?_ _) | (with_reducible refine Chg.drew ?_) | (with_reducible refine Chg.drewN ?_ _) | ((with_reducible refine Chg.setCell ?_ ?hp _); (case hp => (intro _; rfl)))))
            · show ¬ D = z + 1
              omega
          · refine ⟨?_, rfl, ?_⟩
            · obtain ⟨c2, f2, s2⟩ : (∀ i, w5.cell? ⟨z + 1, i, none⟩ = #[Value.bool true][i]?) ∧ (∀ i, w5.frozen? ⟨z + 1, i, none⟩ = false) ∧ z + 1 < w5.heap.size := (Blk.kept (t := 4) (by (repeat (first | (with_reducible exact (HA4.out.2.2.2.2.1.grew HG9.out)) | (with_reducible apply Blk.drew) | (with_reducible apply Blk.drewN) | (with_reducible apply Blk.alloc) | (with_reducible apply Blk.putTo) | (with_reducible apply Blk.far))); (all_goals first | rfl | (simp; done) | (simp; omega))) hk5).facts
              simp [results, Try.results6, go_sem, c2, s2]
            · have hzz := Hz.out
              refine Chg.kept ?_ hk5 (by omega)
              (repeat (first | (with_reducible exact (Grew.trans HG3.out (Grew.trans HA4.out.1 HG9.out))) | (with_reducible refine Chg.alloc ?_ _) | (with_reducible refine Chg.drew ?_) | (with_reducible refine Chg.drewN ?_ _) | ((with_reducible refine Chg.setCell ?_ ?hp _); (case hp => (intro h; exfalso; simp at h; try omega)))))

end Go.Proofs.Ytjdbaeogoifdfaa
