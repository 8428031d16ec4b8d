/- The deeds: Get, Held. -/
import Derived.Test.YtkcakkblammpiaaDeeC
import Derived.Maps.OwnIn
import Derived.Maps.AppendAt
namespace Go.Proofs.Ytkcakkblammpiaa
open Go.RowKit
attribute [local go_sem] Oper.semAt_some

set_option maxHeartbeats 400000 in
theorem get_none (b : Nat) (nx id : Int) (l : List Dee) (A : Option Addr) (c : Nat) (w : World) (h : DeedsIn w b nx l A c) (hl : l.length ≤ 1000000) (hf : fidx (fun x : Dee => x.id == id) l = -1) :
    Calls Try.prog 10 #[.pointer (some ⟨b, 0, none⟩), .int .i64 id] w fun e w' => e = .returned (.tuple #[(.agg #[.int .i64 0, .int .i64 0, .int .i64 0]), .int .i64 14]) ∧ Grew w w' := by
  obtain ⟨y, hy⟩ : ∃ y, fnd (fun x : Dee => x.id == id) l = y := ⟨_, rfl⟩
  have hg0 := (Chg.refl NoF w).alloc (.cells #[.int .i64 0, .int .i64 0, .int .i64 0] 34)
  have HAt := Lib.hid (at_any b nx id l A c _ (h.grew hg0) hl y (-1) hy hf)
  have HB := Lib.hid (Blk.new w 34 #[.int .i64 0, .int .i64 0, .int .i64 0])
  have HG0 := Lib.hid hg0
  clear h hy hf hg0
  go_enter Try.func10, Try.ntmps10
  go_wp2_with (go_at_call 31; refine HAt.out.mono ?_; rintro e w1 ⟨rfl, hg1⟩; have HG1 := Lib.hid (Grew.trans HG0.out hg1); obtain ⟨c1, f1, s1⟩ := (HB.out.grew hg1).facts; clear hg1)
  refine bodyPost_ret (v := .tuple #[(.agg #[.int .i64 0, .int .i64 0, .int .i64 0]), .int .i64 14]) (by simp [results, Try.results10, go_sem, c1, s1]) rfl ⟨rfl, ?_⟩
  (repeat (first | (with_reducible exact HG1.out) | (with_reducible refine Chg.alloc ?_ _) | (with_reducible refine Chg.drew ?_) | (with_reducible refine Chg.drewN ?_ _) | ((with_reducible refine Chg.setCell ?_ ?hp _); (case hp => (intro h; exfalso; simp at h; try omega)))))

set_option maxHeartbeats 400000 in
theorem get_some (b k : Nat) (x : Dee) (nx id : Int) (l : List Dee) (A : Option Addr) (c : Nat) (w : World) (h : DeedsIn w b nx l A c) (hl : l.length ≤ 1000000) (hf : fidx (fun x : Dee => x.id == id) l = k) (hx : fnd (fun x : Dee => x.id == id) l = x) :
    Calls Try.prog 10 #[.pointer (some ⟨b, 0, none⟩), .int .i64 id] w fun e w' => e = .returned (.tuple #[(.agg #[.int .i64 x.id, .int .i64 x.plot, .int .i64 x.holder]), .int .i64 0]) ∧ Grew w w' := by
  have hg0 := (Chg.refl NoF w).alloc (.cells #[.int .i64 0, .int .i64 0, .int .i64 0] 34)
  have HAt := Lib.hid (at_any b nx id l A c _ (h.grew hg0) hl x k hx hf)
  have HB := Lib.hid (Blk.new w 34 #[.int .i64 0, .int .i64 0, .int .i64 0])
  have HG0 := Lib.hid hg0
  have hk : decide ((k : Int) < 0) = false := by simp
  clear h hf hx hg0
  go_enter Try.func10, Try.ntmps10
  go_wp2_with (go_at_call 31; refine HAt.out.mono ?_; rintro e w1 ⟨rfl, hg1⟩; have HG1 := Lib.hid (Grew.trans HG0.out hg1); obtain ⟨c1, f1, s1⟩ := (HB.out.grew hg1).facts; clear hg1)
  refine bodyPost_ret (v := .tuple #[(.agg #[.int .i64 x.id, .int .i64 x.plot, .int .i64 x.holder]), .int .i64 0]) (by simp [results, Try.results10, go_sem, c1, s1]) rfl ⟨rfl, ?_⟩
  (repeat (first | (with_reducible exact HG1.out) | (with_reducible refine Chg.alloc ?_ _) | (with_reducible refine Chg.drew ?_) | (with_reducible refine Chg.drewN ?_ _) | ((with_reducible refine Chg.setCell ?_ ?hp _); (case hp => (intro h; exfalso; simp at h; try omega)))))

theorem intInfo : (Try.prog.info? 3).map (fun i => (i.zero, i.size, i.bytes)) = some (some (.int .i64 0), 1, 8) := by kernel_rfl

/-- The numbers of those of which something is so. -/
def ids (p : Dee → Bool) (l : List Dee) : List Int := (l.filter p).map Dee.id

theorem ids_skip {p : Dee → Bool} {l : List Dee} {k : Nat} {x : Dee} (hx : l[k]? = some x) (hp : p x = false) : ids p (l.take (k + 1)) = ids p (l.take k) := by
  simp [ids, List.take_add_one, hx, hp]
theorem ids_take {p : Dee → Bool} {l : List Dee} {k : Nat} {x : Dee} (hx : l[k]? = some x) (hp : p x = true) : ids p (l.take (k + 1)) = ids p (l.take k) ++ [x.id] := by
  simp [ids, List.take_add_one, hx, hp]
theorem ids_len (p : Dee → Bool) (l : List Dee) : (ids p l).length ≤ l.length := by
  unfold ids; rw [List.length_map]; exact List.length_filter_le _ _

/-- What has been collected: box B holds a slice of memory that was made since Wr. -/
def Coll (Wr W : World) (B : Nat) (xs : List Int) : Prop := ∃ v, Blk W B 42 #[v] ∧ W.ownsRow Wr.heap.size 3 1 v xs.length (xs.map (Value.int .i64))

theorem Coll.grew {w W W' : World} {B : Nat} {xs : List Int} (h : Coll w W B xs) (hg : Grew W W') : Coll w W' B xs := by
  obtain ⟨v, hb, ho⟩ := h
  exact ⟨v, hb.grew hg, own_grew ho hg⟩
theorem Coll.kept {w W W' : World} {B k : Nat} {xs : List Int} (h : Coll w W B xs) (hk : Kept k W W') : Coll w W' B xs := by
  obtain ⟨v, hb, ho⟩ := h
  exact ⟨v, hb.kept hk, own_kept ho hk⟩
/-- One more, appended and stored back. -/
theorem Coll.more {w W W1 : World} {F : Nat → Prop} {B n : Nat} {xs : List Int} {x : Int} {v v' : Value} (hb : Blk W B 42 #[v]) (ho : W.ownsRow w.heap.size 3 1 v xs.length (xs.map (Value.int .i64))) (hw : Chg F w W) (hB : F B)
    (hn : n = xs.length + 1) (ho' : W1.ownsRow w.heap.size 3 1 v' n (xs.map (Value.int .i64) ++ [.int .i64 x])) (hg : W.grownBy W1 v.ownBlock) :
    Blk W1 B 42 #[v] ∧ Chg F w (W1.setCell ⟨B, 0, none⟩ v') ∧ Coll w (W1.setCell ⟨B, 0, none⟩ v') B (xs ++ [x]) ∧ Chg (fun j => some j = v.ownBlock ∨ j = B) W (W1.setCell ⟨B, 0, none⟩ v') := by
  have hne : some B ≠ v.ownBlock := fun e => own_blk_ne ho hb (by decide) e.symm
  have hb1 := hb.grown hg hne
  have hw1 : Chg F w W1 := hw.grown hg fun k hk hlt => by
    rcases ho.2 with ⟨rfl, _⟩ | ⟨g', cap, cur, rfl, hlo, _⟩
    · simp [Value.ownBlock] at hk
    · simp [Value.ownBlock] at hk; omega
  refine ⟨hb1, hw1.setCell (p := ⟨B, 0, none⟩) (fun h => hB) _, ⟨v', ?_, ?_⟩, ?_⟩
  · have := hb1.put 0 v'
    simpa using this
  · have hc : Chg (fun j => j = B) W1 (W1.setCell ⟨B, 0, none⟩ v') := (Chg.refl (fun j => j = B) W1).setCell (p := ⟨B, 0, none⟩) (fun _ => rfl) _
    have := own_chg ho' hc fun g hg e => own_blk_ne ho' hb1 (by decide) (by rw [hg, e])
    subst hn
    simpa using this
  · exact ((Chg.refl _ W).grown hg fun k hk _ => .inl hk.symm).setCell (p := ⟨B, 0, none⟩) (fun _ => .inr rfl) _

/-- What lies elsewhere than the collected row does not turn with it. -/
theorem Rec.coll {w W X : World} {B L : Nat} {xs : List Int} {v : Value} {r : Loop} (h : Rec W L r) (ho : W.ownsRow w.heap.size 3 1 v xs.length (xs.map (Value.int .i64))) (hb : Blk W B 42 #[v]) (hc : Chg (fun j => some j = v.ownBlock ∨ j = B) W X) : Rec X L r :=
  h.chg hc fun e => by
    rcases e with e | e
    · exact own_noBook ho e.symm h.isBook
    · exact h.ne_blk hb e
theorem Dfr.coll {w W X : World} {B L : Nat} {xs : List Int} {v : Value} (h : Dfr W L) (ho : W.ownsRow w.heap.size 3 1 v xs.length (xs.map (Value.int .i64))) (hb : Blk W B 42 #[v]) (hc : Chg (fun j => some j = v.ownBlock ∨ j = B) W X) : Dfr X L :=
  h.chg hc fun e => by
    rcases e with e | e
    · exact own_noBook ho e.symm h.isBook
    · exact h.ne_blk hb e

/-- Between two rounds. -/
def HeldJ (Wr W : World) (B D L : Nat) (r : Loop) (xs : List Int) : Prop := Chg (fun j => j = B ∨ j = L) Wr W ∧ Coll Wr W B xs ∧ Dfr W D ∧ Rec W L (Loop.at_ r .ready none)

theorem HeldJ.grew {Wr W W' : World} {B D L : Nat} {r : Loop} {xs : List Int} (h : HeldJ Wr W B D L r xs) (hg : Grew W W') : HeldJ Wr W' B D L r xs := ⟨h.1.grew hg, h.2.1.grew hg, h.2.2.1.grew hg, h.2.2.2.grew hg⟩

set_option maxRecDepth 100000 in
set_option maxHeartbeats 800000 in
theorem held_any (b : Nat) (nx id : Int) (l : List Dee) (A : Option Addr) (c : Nat) (w : World) (h : DeedsIn w b nx l A c) (hl : l.length ≤ 1000000) (xs : List Int) (hxs : ids (fun x : Dee => x.holder == id) l = xs) :
    Calls Try.prog 14 #[.pointer (some ⟨b, 0, none⟩), .int .i64 id] w fun e w' => OwnOut w w' 3 1 xs.length (xs.map (Value.int .i64)) (fun A c => .slice A xs.length c) e := by
  have hbw := h.blk.lt
  have hAw : ∀ a, A = some a → a.block < w.heap.size := fun a ha => by
    subst ha
    obtain ⟨g, e, hg⟩ := own_some h.own
    subst e
    exact hg
  have H := Lib.hid h
  have Hxs := Lib.hid hxs
  have HA := Lib.hid hAw
  clear h hxs hAw
  (refine calls_of_marks Try.func14 rfl ?_; simp only [Try.ntmps14, List.size_toArray, List.length_cons, List.length_nil, Nat.reduceAdd, Nat.reduceSub, Array.replicate_succ, Array.replicate_zero, List.push_toArray, List.append_toArray, List.nil_append, List.cons_append])
  go_wp2_with fail
  obtain ⟨W0, hW0⟩ : ∃ W0, (w.alloc (.cells #[.int .i64 id] 3)).alloc (.cells #[.slice none 0 0] 42) = W0 := ⟨_, rfl⟩
  have HG0 := Lib.hid (show Grew w W0 from hW0 ▸ ((Chg.refl _ _).alloc _).alloc _)
  have HP := Lib.hid (holderPred w.heap.size id W0 (hW0 ▸ (Blk.new _ _ _).alloc _))
  have HB := Lib.hid (show Blk W0 (w.heap.size + 1) 42 #[.slice none 0 0] from hW0 ▸ (by have := Blk.new (w.alloc (.cells #[.int .i64 id] 3)) 42 #[.slice none 0 0]; simpa using this))
  rw [hW0]
  clear hW0
  obtain ⟨W1, hW1⟩ : ∃ W1, (W0.alloc (.cells #[.pointer (some ⟨b, 0, none⟩)] 23)).alloc (.cells #[.func (.func 35) #[] #[.pointer (some ⟨w.heap.size, 0, none⟩)]] 72) = W1 := ⟨_, rfl⟩
  have H1 := Lib.hid (where_in (H.out.grew HG0.out) HP.out hW1)
  have hz01 : W0.heap.size + 2 ≤ W1.heap.size := by rw [← hW1]; simp
  have HW1 := Lib.hid hW1
  clear hW1
  go_wp2_with (go_at_call 33; refine (where_any b _ _ _ W1 HW1.out).mono ?_; rintro e w1 ⟨rfl, rfl⟩)
  refine wp_range (gf := 40) (lb := #[.pointer (some ⟨W0.heap.size, 0, none⟩), .pointer (some ⟨W0.heap.size + 1, 0, none⟩)]) rfl (enters_of Try.func40 (by kernel_rfl) rfl) ?_
  intro r W2 D L hr hg1 hDl hLl hD hR
  have HR1 := Lib.hid hr
  have HG1 := Lib.hid (Grew.trans H1.out.2 hg1)
  have hDL := Ne.symm (hR.ne_dfr hD)
  have hz0 := HB.out.lt
  have hz3 := hg1.size
  have hL2 := hR.lt
  have hD2 := hD.lt
  have HI := Lib.hid (H1.out.1.chg hg1)
  have HJ0 := Lib.hid (show HeldJ W2 W2 (w.heap.size + 1) D L r (ids (fun x : Dee => x.holder == id) (l.take 0)) from ⟨Chg.refl _ _, ⟨_, HB.out.grew HG1.out, World.ownsRow_nil _ _ _ _⟩, hD, hR⟩)
  clear hr hg1 hD hR
  refine (where_iter W0.heap.size (W0.heap.size + 1) b L nx l A c _ _ (fun x : Dee => x.holder == id) w.heap.size id
    (fun k W => HeldJ W2 W (w.heap.size + 1) D L r (ids (fun x : Dee => x.holder == id) (l.take k))) (fun _ => False) W2
    (fun k W hJ => HI.out.by hJ.1 (by omega) (by omega) (by omega) (fun a ha => by have := HA.out a ha; omega) (by omega)) (fun k W W' hJ hg => hJ.grew hg) (fun k x W hJ hx hp => by rw [ids_skip hx hp]; exact hJ) (fun k x W hJ hx hp => ?yld) HJ0.out hl).mono ?post
  case yld =>
    have HX := Lib.hid (ids_take (p := fun x : Dee => x.holder == id) hx hp)
    have hle := ids_len (fun x : Dee => x.holder == id) (l.take k)
    have hle2 : (l.take k).length ≤ l.length := by rw [List.length_take]; omega
    have hws := hJ.1.size
    have HR := Lib.hid hJ.2.2.2
    have HD := Lib.hid hJ.2.2.1
    obtain ⟨v, hv1, hv2⟩ := hJ.2.1
    have HV := Lib.hid (And.intro hv1 (And.intro hv2 hJ.1))
    clear hJ hx hp hv1 hv2
    obtain ⟨hr1, hr2, hr3, hr4⟩ := HR1.out
    refine yield_wide HR.out (by rw [hr2]; rfl) ?_
    rw [hr1, hr2, hr3, hr4]
    clear hr1 hr2 hr3 hr4
    intro K hK
    have HK := Lib.hid hK
    clear hK
    gi_wp2
    refine HK.out _ _ (HR.out.alloc _) fun W3 Q hk hR2 hQ => ?_
    have HQ := Lib.hid hQ
    have HV1 := Lib.hid ((HV.out.1.alloc _).kept hk)
    have HV2 := Lib.hid (own_kept (own_grew HV.out.2.1 ((Chg.refl NoF W).alloc (.cells #[.int .i64 x.id, .int .i64 x.plot, .int .i64 x.holder] 34))) hk)
    have HV3 := Lib.hid (Chg.trans (HV.out.2.2.alloc (.cells #[.int .i64 x.id, .int .i64 x.plot, .int .i64 x.holder] 34)) hk.chg fun i _ e => .inr e)
    have HX1 := Lib.hid ((Blk.new W 34 #[.int .i64 x.id, .int .i64 x.plot, .int .i64 x.holder]).kept hk)
    have HW5 := Lib.hid hR2
    have HW6 := Lib.hid ((HD.out.alloc _).kept hk hDL)
    have hsz : W.heap.size + 1 ≤ W3.heap.size := by have := hk.chg.size; simpa using this
    clear hk hR2 hQ
    obtain ⟨c2, f2, s2⟩ := HV1.out.facts
    obtain ⟨c4, f4, s4⟩ := HX1.out.facts
    obtain ⟨i0, hi, hz0, hz1, hz2⟩ := info_parts intInfo
    have HV2a := Lib.hid (own_grew HV2.out ((Chg.refl NoF W3).alloc (.cells #[.int .i64 x.id] 3)))
    gi_wp2_with (gi_at_builtin; refine wpListIn_append_own_at _ (by rfl) _ _ 42 (by rfl) W2.heap.size 3 i0 (.int .i64 0) 1 8 Try.underlying42 hi hz0 hz1 hz2 rfl (by decide) v _ _ (by rfl) HV2a.out ⟨W3.heap.size, 0, none⟩ 1 1 [.int .i64 x.id] (by rfl) (by rfl) (cell_one_new _ _ _) (by simp [Value.oneCell']) (by simp only [maxLen]; omega) (by omega) (by simp; omega) ?_; intro v' w5 ho5 hg5 _ _; obtain ⟨g', cap', rfl⟩ := ownsRow_succ ho5; have HM := Lib.hid (Coll.more (HV1.out.alloc _) HV2a.out (HV3.out.alloc _) (.inl rfl) rfl ho5 hg5); clear ho5 hg5; obtain ⟨c5, f5, s5⟩ := HM.out.1.facts)
    refine HQ.out _ _ _ ⟨(HW5.out.alloc _).coll HV2a.out (HV1.out.alloc _) HM.out.2.2.2, fun w' hk' hR' => .inl ⟨rfl, ?_⟩⟩
    rw [HX.out]
    exact ⟨Chg.trans HM.out.2.1 hk'.chg fun i _ e => .inr e, HM.out.2.2.1.kept hk', ((HW6.out.alloc _).coll HV2a.out (HV1.out.alloc _) HM.out.2.2.2).kept hk' hDL, hR'⟩
  case post =>
    rintro e w3 ⟨hv, hJ | hJ⟩
    · refine ⟨hv, .inl ⟨hJ.2.2.2, fun w4 hk4 => ?_⟩⟩
      rw [List.take_length, Hxs.out] at hJ
      obtain ⟨v, hv1, hv2⟩ := hJ.2.1
      obtain ⟨A', c', rfl, _⟩ := own_shape hv2
      have HV := Lib.hid (And.intro (hv1.kept hk4) (own_kept hv2 hk4))
      have HD := Lib.hid (hJ.2.2.1.kept hk4 hDL)
      have HC := Lib.hid (Chg.trans hJ.1 hk4.chg fun i _ e => .inr e)
      clear hJ hk4 hv1 hv2
      obtain ⟨c2, f2, s2⟩ := HV.out.1.facts
      go_wp2
      refine postM_ret1 (v := .slice A' xs.length c') HD.out rfl fun w5 hk5 => ⟨by simp [results, Try.results14, go_sem], A', c', rfl, own_base (own_kept HV.out.2 hk5) (by have := HG1.out.size; have := HG0.out.size; omega), ?_⟩
      have hF : Grew w w4 := by
        refine Chg.mono (Chg.trans (F := fun j => w.heap.size ≤ j) (Grew.trans HG0.out HG1.out).chg HC.out fun i hi e => ?_) fun i hi e => absurd e (by omega)
        rcases e with e | e <;> omega
      exact Chg.kept hF hk5 (by omega)
    · exact hJ.elim

end Go.Proofs.Ytkcakkblammpiaa
