/- The queue: its items, in their order, told one by one. -/
import Derived.Test.YtjpkpckgkhbfpaaQueXc
import Derived.Test.YtjpkpckgkhbfpaaRange
import Derived.Sort.LoopGhostIn
import Derived.Maps.OwnIn
import Derived.Test.YtjpkpckgkhbfpaaQueF
namespace Go.Proofs.Ytjpkpckgkhbfpaa
open Go.RowKit Go.Maps
attribute [local go_sem] Oper.semAt_some

/-- What has been collected: box B holds a slice of memory that was made since Wr. -/
def Coll (Wr W : World) (B : Nat) (xs : List Itm) : Prop := ∃ v, Blk W B 78 #[v] ∧ W.ownsRow Wr.heap.size 97 3 v xs.length (xs.flatMap Itm.vals)
theorem Coll.grew {w W W' : World} {B : Nat} {xs : List Itm} (h : Coll w W B xs) (hg : Grew W W') : Coll w W' B xs := by
  obtain ⟨v, hb, ho⟩ := h
  exact ⟨v, hb.grew hg, own_grew ho hg⟩
theorem Coll.kept {w W W' : World} {B k : Nat} {xs : List Itm} (h : Coll w W B xs) (hk : Kept k W W') : Coll w W' B xs := by
  obtain ⟨v, hb, ho⟩ := h
  exact ⟨v, hb.kept hk, own_kept ho hk⟩
/-- One more, appended and stored back. -/
theorem Coll.more {w W W1 : World} {F : Nat → Prop} {B n : Nat} {xs : List Itm} {x : Itm} {v v' : Value} (hb : Blk W B 78 #[v]) (ho : W.ownsRow w.heap.size 97 3 v xs.length (xs.flatMap Itm.vals)) (hw : Chg F w W) (hB : F B)
    (hn : n = xs.length + 1) (ho' : W1.ownsRow w.heap.size 97 3 v' n (xs.flatMap Itm.vals ++ [.int .i64 x.n, .int .i64 x.due, .int .i64 x.v])) (hg : W.grownBy W1 v.ownBlock) :
    Blk W1 B 78 #[v] ∧ Chg F w (W1.setCell ⟨B, 0, none⟩ v') ∧ Coll w (W1.setCell ⟨B, 0, none⟩ v') B (xs ++ [x]) ∧ Chg (fun j => some j = v.ownBlock ∨ j = B) W (W1.setCell ⟨B, 0, none⟩ v') := by
  have hne : some B ≠ v.ownBlock := fun e => own_blk_ne ho hb (by decide) e.symm
  have hb1 := hb.grown hg hne
  have hw1 : Chg F w W1 := hw.grown hg fun k hk hlt => by
    rcases ho.2 with ⟨rfl, _⟩ | ⟨g', cap, cur, rfl, hlo, _⟩
    · simp [Value.ownBlock] at hk
    · simp [Value.ownBlock] at hk; omega
  refine ⟨hb1, hw1.setCell (p := ⟨B, 0, none⟩) (fun h => hB) _, ⟨v', ?_, ?_⟩, ?_⟩
  · have := hb1.put 0 v'
    simpa using this
  · have hc : Chg (fun j => j = B) W1 (W1.setCell ⟨B, 0, none⟩ v') := (Chg.refl (fun j => j = B) W1).setCell (p := ⟨B, 0, none⟩) (fun _ => rfl) _
    have := own_chg ho' hc fun g hg e => own_blk_ne ho' hb1 (by decide) (by rw [hg, e])
    subst hn
    simpa [Itm.vals] using this
  · exact ((Chg.refl _ W).grown hg fun k hk _ => .inl hk.symm).setCell (p := ⟨B, 0, none⟩) (fun _ => .inr rfl) _
/-- What lies elsewhere than the collected row does not turn with it. -/
theorem Rec.coll {w W X : World} {B L : Nat} {xs : List Itm} {v : Value} {r : Loop} (h : Rec W L r) (ho : W.ownsRow w.heap.size 97 3 v xs.length (xs.flatMap Itm.vals)) (hb : Blk W B 78 #[v]) (hc : Chg (fun j => some j = v.ownBlock ∨ j = B) W X) : Rec X L r :=
  h.chg hc fun e => by
    rcases e with e | e
    · exact own_noBook ho e.symm h.isBook
    · exact h.ne_blk hb e
theorem Dfr.coll {w W X : World} {B L : Nat} {xs : List Itm} {v : Value} (h : Dfr W L) (ho : W.ownsRow w.heap.size 97 3 v xs.length (xs.flatMap Itm.vals)) (hb : Blk W B 78 #[v]) (hc : Chg (fun j => some j = v.ownBlock ∨ j = B) W X) : Dfr X L :=
  h.chg hc fun e => by
    rcases e with e | e
    · exact own_noBook ho e.symm h.isBook
    · exact h.ne_blk hb e
/-- Between two rounds. -/
def CollJ (Wr W : World) (B D L : Nat) (r : Loop) (xs : List Itm) : Prop := Chg (fun j => j = B ∨ j = L) Wr W ∧ Coll Wr W B xs ∧ Dfr W D ∧ Rec W L (Loop.at_ r .ready none)
theorem CollJ.grew {Wr W W' : World} {B D L : Nat} {r : Loop} {xs : List Itm} (h : CollJ Wr W B D L r xs) (hg : Grew W W') : CollJ Wr W' B D L r xs := ⟨h.1.grew hg, h.2.1.grew hg, h.2.2.1.grew hg, h.2.2.2.grew hg⟩

theorem itm_blk {wr : World} {x : Itm} {t : TypeId} : ∀ j u, ([.int .i64 x.n, .int .i64 x.due, .int .i64 x.v] : List Value)[j]? = some u → (wr.alloc (.cells #[.int .i64 x.n, .int .i64 x.due, .int .i64 x.v] t)).cell? (Addr.add ⟨wr.heap.size, 0, none⟩ j) = some u := by
  intro j u hu
  rw [Addr.add_lit, (Blk.new wr t #[.int .i64 x.n, .int .i64 x.due, .int .i64 x.v]).cell]
  simpa using hu

/-- slices.Values. -/
theorem values_any (A : Option Addr) (n c : Nat) (w W : World) (hW : w.alloc (.cells #[.slice A n c] 78) = W) :
    Calls Try.prog 65 #[.slice A n c] w fun e w' => e = .returned (.func (.func 75) #[] #[.pointer (some ⟨w.heap.size, 0, none⟩)]) ∧ W = w' := by
  subst hW
  go_enter Try.func65, Try.ntmps65
  go_wp2
  go_ret
  exact ⟨rfl, rfl⟩

set_option maxRecDepth 100000 in
set_option maxHeartbeats 800000 in
theorem values_iter (bb y : Nat) (l : List Itm) (A : Option Addr) (c : Nat) (J : Nat → World → Prop) (w : World) (hl : l.length ≤ 1000000)
    (hin : ∀ i W, J i W → Blk W bb 78 #[.slice A l.length c] ∧ Sl W 3 A l.length (l.flatMap Itm.vals))
    (hgr : ∀ i W W', J i W → Grew W W' → J i W')
    (hyld : ∀ i x W, J i W → l[i]? = some x → YieldAt Fence.wide 0 Try.prog y #[(.agg #[.int .i64 x.n, .int .i64 x.due, .int .i64 x.v])] W fun e w' => e = .returned (.bool true) ∧ J (i + 1) w')
    (h0 : J 0 w) :
    Calls Try.prog 75 #[.func (.yield y) #[] #[], .pointer (some ⟨bb, 0, none⟩)] w fun e w' => (∃ v, e = .returned v) ∧ J l.length w' := by
  obtain ⟨c1, f1, s1⟩ := (hin 0 w h0).1.facts
  have Hin := Lib.hid hin
  have Hgr := Lib.hid hgr
  have Hyld := Lib.hid hyld
  have H0 := Lib.hid h0
  clear hin hgr hyld h0
  (refine (callsIn_wide (n := 1)).1 (callsIn_of_wp Try.func75 rfl trivial ?_ rfl); simp only [Try.ntmps75, List.size_toArray, List.length_cons, List.length_nil, Nat.reduceAdd, Nat.reduceSub, Array.replicate_succ, Array.replicate_zero, List.push_toArray, List.append_toArray, List.nil_append, List.cons_append])
  gi_wp2
  clear c1 f1 s1
  gi_loopw [7] (fun i wr => ∃ k : Nat, k ≤ l.length ∧ i = .int .i64 k ∧ J k wr) (fun i _ => l.length - (intOf i).toNat)
  case atStart => exact ⟨0, Nat.zero_le _, rfl, H0.out⟩
  case round =>
    obtain ⟨k, hk, rfl, hJ⟩ := hrel
    have hI := Hin.out k wr hJ
    by_cases hlt : k < l.length
    · obtain ⟨x, hx⟩ : ∃ x, l[k]? = some x := ⟨_, List.getElem?_eq_getElem hlt⟩
      obtain ⟨g, off, rfl, hb, d0, d1, d2⟩ := hI.2.atItm hx
      obtain ⟨fn, tmps, assign, body, hy, hR⟩ := Hyld.out k x _ (Hgr.out _ _ _ hJ ((Chg.refl NoF wr).alloc (.cells #[.int .i64 x.n, .int .i64 x.due, .int .i64 x.v] 97))) hx
      have HR := Lib.hid hR
      clear hJ hI hx hR
      gi_wp2_with (refine HR.out.mono ?_; rintro e w2 ⟨rfl, hJ2⟩; have HJ2 := Lib.hid hJ2; clear hJ2)
      go_roundw
      case rel => exact ⟨k + 1, by omega, by go_num, HJ2.out⟩
      case measure => simp [intOf]; omega
    · obtain rfl : k = l.length := by omega
      have HJ := Lib.hid hJ
      clear hJ hI
      gi_wp2
      refine bodyPost_end (results_none rfl _ _ _) rfl ?_
      exact ⟨⟨_, rfl⟩, HJ.out⟩

set_option maxRecDepth 100000 in
set_option maxHeartbeats 800000 in
theorem appendseq_any (bs : Nat) (l : List Itm) (A : Option Addr) (c : Nat) (w : World) (hb : Blk w bs 78 #[.slice A l.length c]) (hs : Sl w 3 A l.length (l.flatMap Itm.vals)) (hA : ∀ a, A = some a → a.block < w.heap.size) (hl : l.length ≤ 1000000) :
    Calls Try.prog 86 #[.slice none 0 0, .func (.func 75) #[] #[.pointer (some ⟨bs, 0, none⟩)]] w fun e w' => OwnOut w w' 97 3 l.length (l.flatMap Itm.vals) (fun A c => .slice A l.length c) e := by
  have hbw := hb.lt
  have H := Lib.hid (And.intro hb (And.intro hs hA))
  clear hb hs hA
  (refine calls_of_marks Try.func86 rfl ?_; simp only [Try.ntmps86, List.size_toArray, List.length_cons, List.length_nil, Nat.reduceAdd, Nat.reduceSub, Array.replicate_succ, Array.replicate_zero, List.push_toArray, List.append_toArray, List.nil_append, List.cons_append])
  go_wp2_with fail
  obtain ⟨W0, hW0⟩ : ∃ W0, w.alloc (.cells #[.slice none 0 0] 78) = W0 := ⟨_, rfl⟩
  have HG0 := Lib.hid (show Grew w W0 from hW0 ▸ (Chg.refl _ _).alloc _)
  have HB := Lib.hid (show Blk W0 w.heap.size 78 #[.slice none 0 0] from hW0 ▸ Blk.new _ _ _)
  rw [hW0]
  clear hW0
  refine wp_range (gf := 75) (lb := #[.pointer (some ⟨bs, 0, none⟩)]) rfl (enters_of Try.func75 (by kernel_rfl) rfl) ?_
  intro r W2 D L hr hg1 hDl hLl hD hR
  have HR1 := Lib.hid hr
  have HG1 := Lib.hid (Grew.trans HG0.out hg1)
  have hDL := Ne.symm (hR.ne_dfr hD)
  have hz0 := HB.out.lt
  have hz3 := hg1.size
  have hL2 := hR.lt
  have hD2 := hD.lt
  have HI := Lib.hid (And.intro (H.out.1.grew HG1.out) (H.out.2.1.grew HG1.out))
  have HJ0 := Lib.hid (show CollJ W2 W2 w.heap.size D L r (l.take 0) from ⟨Chg.refl _ _, ⟨_, HB.out.grew hg1, World.ownsRow_nil _ _ _ _⟩, hD, hR⟩)
  clear hr hg1 hD hR
  refine (values_iter bs L l A c (fun k W => CollJ W2 W w.heap.size D L r (l.take k)) W2 hl
    (fun k W hJ => ⟨HI.out.1.chg hJ.1 (by omega), HI.out.2.chg hJ.1 (fun a ha => by have := H.out.2.2 a ha; omega)⟩) (fun k W W' hJ hg => hJ.grew hg) (fun k x W hJ hx => ?yld) HJ0.out).mono ?post
  case yld =>
    have hX0 : l.take (k + 1) = l.take k ++ [x] := by rw [List.take_add_one, hx]; rfl
    have hle2 : (l.take k).length ≤ l.length := by rw [List.length_take]; omega
    obtain ⟨xs, hxs⟩ : ∃ xs, l.take k = xs := ⟨_, rfl⟩
    rw [hxs] at hJ hX0 hle2
    have HX := Lib.hid hX0
    clear hX0 hxs
    have hws := hJ.1.size
    have HR := Lib.hid hJ.2.2.2
    have HD := Lib.hid hJ.2.2.1
    obtain ⟨v, hv1, hv2⟩ := hJ.2.1
    have HV := Lib.hid (And.intro hv1 (And.intro hv2 hJ.1))
    clear hJ hx hv1 hv2
    obtain ⟨hr1, hr2, hr3, hr4⟩ := HR1.out
    refine yield_wide HR.out (by rw [hr2]; rfl) ?_
    rw [hr1, hr2, hr3, hr4]
    clear hr1 hr2 hr3 hr4
    intro K hK
    have HK := Lib.hid hK
    clear hK
    gi_wp2
    refine HK.out _ _ (HR.out.alloc _) fun W3 Q hk hR2 hQ => ?_
    have HQ := Lib.hid hQ
    have HV1 := Lib.hid ((HV.out.1.alloc _).kept hk)
    have HV2 := Lib.hid (own_kept (own_grew HV.out.2.1 ((Chg.refl NoF W).alloc (.cells #[.int .i64 x.n, .int .i64 x.due, .int .i64 x.v] 97))) hk)
    have HV3 := Lib.hid (Chg.trans (HV.out.2.2.alloc (.cells #[.int .i64 x.n, .int .i64 x.due, .int .i64 x.v] 97)) hk.chg fun i _ e => .inr e)
    have HX1 := Lib.hid ((Blk.new W 97 #[.int .i64 x.n, .int .i64 x.due, .int .i64 x.v]).kept hk)
    have HW5 := Lib.hid hR2
    have HW6 := Lib.hid ((HD.out.alloc _).kept hk hDL)
    have hsz : W.heap.size + 1 ≤ W3.heap.size := by have := hk.chg.size; simpa using this
    clear hk hR2 hQ
    obtain ⟨c2, f2, s2⟩ := HV1.out.facts
    obtain ⟨c4, f4, s4⟩ := HX1.out.facts
    obtain ⟨i0, hi, hz0', hz1, hz2⟩ := info_parts itmInfo
    have HV2a := Lib.hid (own_grew HV2.out ((Chg.refl NoF W3).alloc (.cells #[.int .i64 x.n, .int .i64 x.due, .int .i64 x.v] 97)))
    gi_wp2_with (gi_at_builtin; refine wpListIn_append_own_at _ (by rfl) _ _ 78 (by rfl) W2.heap.size 97 i0 (.agg #[.int .i64 0, .int .i64 0, .int .i64 0]) 3 24 Try.underlying78 hi hz0' hz1 hz2 rfl (by decide) v _ _ (by rfl) HV2a.out ⟨W3.heap.size, 0, none⟩ 1 1 [.int .i64 x.n, .int .i64 x.due, .int .i64 x.v] (by rfl) (by rfl) itm_blk (by simp [Value.oneCell']) (by simp only [maxLen]; omega) (by omega) (by simp; omega) ?_; intro v' w5 ho5 hg5 _ _; obtain ⟨g', cap', rfl⟩ := ownsRow_succ ho5; have HM := Lib.hid (Coll.more (HV1.out.alloc _) HV2a.out (HV3.out.alloc _) (.inl rfl) rfl ho5 hg5); clear ho5 hg5; obtain ⟨c5, f5, s5⟩ := HM.out.1.facts)
    refine HQ.out _ _ _ ⟨(HW5.out.alloc _).coll HV2a.out (HV1.out.alloc _) HM.out.2.2.2, fun w' hk' hR' => ⟨rfl, ?_⟩⟩
    rw [HX.out]
    exact ⟨Chg.trans HM.out.2.1 hk'.chg fun i _ e => .inr e, HM.out.2.2.1.kept hk', ((HW6.out.alloc _).coll HV2a.out (HV1.out.alloc _) HM.out.2.2.2).kept hk' hDL, hR'⟩
  case post =>
    rintro e w3 ⟨hv, hJ⟩
    refine ⟨hv, .inl ⟨hJ.2.2.2, fun w4 hk4 => ?_⟩⟩
    rw [List.take_length] at hJ
    obtain ⟨v, hv1, hv2⟩ := hJ.2.1
    obtain ⟨A', c', rfl, _⟩ := own_shape hv2
    have HV := Lib.hid (And.intro (hv1.kept hk4) (own_kept hv2 hk4))
    have HD := Lib.hid (hJ.2.2.1.kept hk4 hDL)
    have HC := Lib.hid (Chg.trans hJ.1 hk4.chg fun i _ e => .inr e)
    clear hJ hk4 hv1 hv2
    obtain ⟨c2, f2, s2⟩ := HV.out.1.facts
    go_wp2
    refine postM_ret1 (v := .slice A' l.length c') HD.out rfl fun w5 hk5 => ⟨by simp [results, Try.results86, go_sem], A', c', rfl, own_base (own_kept HV.out.2 hk5) (by have := HG1.out.size; omega), ?_⟩
    have hF : Grew w w4 := by
      refine Chg.mono (Chg.trans (F := fun j => w.heap.size ≤ j) HG1.out.chg HC.out fun i hi e => ?_) fun i hi e => absurd e (by omega)
      rcases e with e | e <;> omega
    exact Chg.kept hF hk5 (by omega)

end Go.Proofs.Ytjpkpckgkhbfpaa
