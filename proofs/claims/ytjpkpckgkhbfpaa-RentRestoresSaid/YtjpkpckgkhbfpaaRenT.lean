/- The rent: next: of those due first the house with the least number. -/
import Derived.Test.YtjpkpckgkhbfpaaRenS
import Derived.Test.YtjpkpckgkhbfpaaQueXe
import Derived.StillTailTactics
namespace Go.Proofs.Ytjpkpckgkhbfpaa
open Go.RowKit Go.Maps
attribute [local go_sem] Oper.semAt_some

theorem QL.any : ∀ {l : List Itm}, (l.map Itm.n).Nodup → ∃ s, QL l s
  | [], _ => ⟨[], QL.nil⟩
  | x :: l, h => by
    rw [List.map_cons, List.nodup_cons] at h
    obtain ⟨s, hs⟩ := QL.any h.2
    exact ⟨putS s x, hs.put (fun y hy e => h.1 (e ▸ List.mem_map.2 ⟨y, hy, rfl⟩)) (List.Perm.refl _)⟩

/-- The one due first, of one tick the least house. -/
def Least (x : List Rw) (o : Rw) : Prop := o ∈ x ∧ ∀ y ∈ x, o.due < y.due ∨ (o.due = y.due ∧ o.house ≤ y.house)
theorem Least.uniq {x : List Rw} (hn : (x.map Rw.house).Nodup) {a b : Rw} (ha : Least x a) (hb : Least x b) : a = b := by
  have h1 := ha.2 b hb.1
  have h2 := hb.2 a ha.1
  exact house_uniq hn ha.1 hb.1 (by omega)
theorem frI_least {x : List Rw} (hx : rising x) : ∀ i, i ≤ x.length → ∀ b, frI x i = some b → ∃ r, x[b]? = some r ∧ ∀ j y, j < i → x[j]? = some y → r.due < y.due ∨ (r.due = y.due ∧ r.house ≤ y.house)
  | 0, _, b, h => by cases h
  | i + 1, hi, b, h => by
    obtain ⟨u, hu⟩ : ∃ u, x[i]? = some u := ⟨_, List.getElem?_eq_getElem (by omega)⟩
    unfold frI at h
    cases hf : frI x i with
    | none =>
      have h0 : i = 0 := by
        rcases Nat.eq_zero_or_pos i with e | e
        · exact e
        · obtain ⟨c, hc⟩ := frI_some x i e
          rw [hc] at hf; cases hf
      rw [hf] at h
      cases h
      refine ⟨u, hu, fun j y hj hy => ?_⟩
      obtain rfl : j = i := by omega
      rw [hu] at hy
      cases hy
      exact .inr ⟨rfl, Int.le_refl _⟩
    | some c =>
      obtain ⟨s, hs, hl⟩ := frI_least hx i (by omega) c hf
      have hci := frI_lt x i c hf
      rw [hf] at h
      dsimp only at h
      rw [hu, hs] at h
      dsimp only at h
      split at h
      · rename_i hd
        cases h
        refine ⟨u, hu, fun j y hj hy => ?_⟩
        rcases Nat.lt_or_ge j i with hjb | hjb
        · have := hl j y hjb hy; omega
        · obtain rfl : j = i := by omega
          rw [hu] at hy
          cases hy
          exact .inr ⟨rfl, Int.le_refl _⟩
      · rename_i hd
        cases h
        refine ⟨s, hs, fun j y hj hy => ?_⟩
        rcases Nat.lt_or_ge j i with hji | hji
        · exact hl j y hji hy
        · obtain rfl : j = i := by omega
          rw [hu] at hy
          cases hy
          have hlt : s.house < u.house := by
            obtain ⟨h1, h1'⟩ := List.getElem?_eq_some_iff.1 hs
            obtain ⟨h2, h2'⟩ := List.getElem?_eq_some_iff.1 hu
            have := List.pairwise_iff_getElem.1 hx b j h1 h2 hci
            rw [h1', h2'] at this
            exact this
          omega
theorem frI_is {x : List Rw} (hx : rising x) {b : Nat} (h : frI x x.length = some b) : ∃ r, x[b]? = some r ∧ Least x r := by
  obtain ⟨r, hr, hl⟩ := frI_least hx _ (Nat.le_refl _) b h
  refine ⟨r, hr, List.mem_of_getElem? hr, fun y hy => ?_⟩
  obtain ⟨j, hj⟩ := List.getElem?_of_mem hy
  exact hl j y (List.getElem?_eq_some_iff.1 hj).1 hj

/-- What next tells. -/
def NxV (x : List Rw) (o : Rw) (t : Bool) : Prop := (x = [] ∧ o = Rw.zero ∧ t = false) ∨ (Least x o ∧ t = true)
theorem NxV.uniq {x : List Rw} (hx : rising x) {a b : Rw} {t u : Bool} (ha : NxV x a t) (hb : NxV x b u) : a = b ∧ t = u := by
  rcases ha with ⟨h1, h2, h3⟩ | ⟨h1, h2⟩ <;> rcases hb with ⟨g1, g2, g3⟩ | ⟨g1, g2⟩
  · exact ⟨by rw [h2, g2], by rw [h3, g3]⟩
  · subst h1; exact absurd g1.1 (by simp)
  · subst g1; exact absurd h1.1 (by simp)
  · exact ⟨h1.uniq hx.nodup g1, by rw [h2, g2]⟩
theorem RP.row {x : List Rw} {l : List Itm} {added : Int} (h : RP x l added) {y : Itm} (hy : y ∈ l) : ∃ r, fnd x y.v = some r ∧ r ∈ x ∧ r.house = y.v ∧ r.due = y.due := by
  have : (y.v, y.due) ∈ x.map fun r => (r.house, r.due) := h.perm.mem_iff.1 (List.mem_map.2 ⟨y, hy, rfl⟩)
  obtain ⟨r, hr, e⟩ := List.mem_map.1 this
  injection e with e1 e2
  exact ⟨r, e1 ▸ fnd_mem h.nd hr, hr, e1, e2⟩
theorem RP.itm {x : List Rw} {l : List Itm} {added : Int} (h : RP x l added) {r : Rw} (hr : r ∈ x) : ∃ y, y ∈ l ∧ y.v = r.house ∧ y.due = r.due := by
  have : (r.house, r.due) ∈ l.map fun i => (i.v, i.due) := h.perm.mem_iff.2 (List.mem_map.2 ⟨r, hr, rfl⟩)
  obtain ⟨y, hy, e⟩ := List.mem_map.1 this
  injection e with e1 e2
  exact ⟨y, hy, e1, e2⟩

/-- The best of the first i. -/
structure NxB (x : List Rw) (s : List Itm) (i : Nat) (o : Rw) : Prop where
  zero : i = 0 → o = Rw.zero
  mem : 0 < i → o ∈ x
  all : 0 < i → ∀ j y, j < i → s[j]? = some y → y.due = o.due ∧ o.house ≤ y.v
theorem NxB.start (x : List Rw) (s : List Itm) : NxB x s 0 Rw.zero := ⟨fun _ => rfl, fun h => by omega, fun h => by omega⟩
theorem NxB.put {x : List Rw} {s : List Itm} {i : Nat} {o r : Rw} {y : Itm} (h : NxB x s i o) (hy : s[i]? = some y) (hr : r ∈ x) (h1 : r.house = y.v) (h2 : r.due = y.due) (hd : 0 < i → y.due = o.due ∧ r.house ≤ o.house) : NxB x s (i + 1) r := by
  refine ⟨fun h => by omega, fun _ => hr, fun _ j z hj hz => ?_⟩
  rcases Nat.lt_or_ge j i with hji | hji
  · have h3 := h.all (by omega) j z hji hz
    have h4 := hd (by omega)
    omega
  · obtain rfl : j = i := by omega
    rw [hy] at hz
    cases hz
    omega
theorem NxB.keep {x : List Rw} {s : List Itm} {i : Nat} {o : Rw} {y : Itm} (h : NxB x s i o) (hy : s[i]? = some y) (hi : 0 < i) (hd : y.due = o.due) (hv : o.house ≤ y.v) : NxB x s (i + 1) o := by
  refine ⟨fun h => by omega, fun _ => h.mem hi, fun _ j z hj hz => ?_⟩
  rcases Nat.lt_or_ge j i with hji | hji
  · exact h.all hi j z hji hz
  · obtain rfl : j = i := by omega
    rw [hy] at hz
    cases hz
    omega
theorem ordd_due {s : List Itm} (h : ordd s) {i j : Nat} {a b : Itm} (hij : i < j) (ha : s[i]? = some a) (hb : s[j]? = some b) : a.due ≤ b.due := by
  obtain ⟨h1, h1'⟩ := List.getElem?_eq_some_iff.1 ha
  obtain ⟨h2, h2'⟩ := List.getElem?_eq_some_iff.1 hb
  have := List.pairwise_iff_getElem.1 h i j h1 h2 hij
  rw [h1', h2'] at this
  unfold Itm.lt at this
  omega
theorem NxB.ge {x : List Rw} {s : List Itm} {i : Nat} {o : Rw} {y : Itm} (h : NxB x s i o) (hs : ordd s) (hy : s[i]? = some y) (hi : 0 < i) : o.due ≤ y.due := by
  have hsi := (List.getElem?_eq_some_iff.1 hy).1
  obtain ⟨a, ha⟩ : ∃ a, s[0]? = some a := ⟨_, List.getElem?_eq_getElem (by omega)⟩
  have := h.all hi 0 a hi ha
  have := ordd_due hs hi ha hy
  omega
theorem NxB.stop {x : List Rw} {l s : List Itm} {added : Int} {i : Nat} {o : Rw} {y : Itm} (h : NxB x s i o) (hp : RP x l added) (hq : QL l s) (hy : s[i]? = some y) (hi : 0 < i) (hd : o.due < y.due) : Least x o := by
  refine ⟨h.mem hi, fun r hr => ?_⟩
  obtain ⟨z, hz, h1, h2⟩ := hp.itm hr
  obtain ⟨j, hj⟩ := List.getElem?_of_mem (hq.p.mem_iff.2 hz)
  rcases Nat.lt_or_ge j i with hji | hji
  · have := h.all hi j z hji hj; omega
  · rcases Nat.lt_or_ge i j with hij | hij
    · have := ordd_due hq.o hij hy hj; omega
    · obtain rfl : j = i := by omega
      rw [hy] at hj
      cases hj
      omega
theorem NxB.done {x : List Rw} {l s : List Itm} {added : Int} {o : Rw} (h : NxB x s s.length o) (hp : RP x l added) (hq : QL l s) : NxV x o (decide (0 < s.length)) := by
  by_cases hi : 0 < s.length
  · refine .inr ⟨⟨h.mem hi, fun r hr => ?_⟩, decide_eq_true hi⟩
    obtain ⟨z, hz, h1, h2⟩ := hp.itm hr
    obtain ⟨j, hj⟩ := List.getElem?_of_mem (hq.p.mem_iff.2 hz)
    have := h.all hi j z (List.getElem?_eq_some_iff.1 hj).1 hj
    omega
  · refine .inl ⟨List.eq_nil_of_length_eq_zero (by rw [← hp.len, ← hq.len]; omega), h.zero (by omega), decide_eq_false hi⟩

/-- Between two rounds, and in one. -/
structure NxJ (Wr W : World) (bb L : Nat) (o : Rw) (r : Loop) (st : LoopState) (pe : Option Code) : Prop where
  chg : Chg (fun j => j = bb ∨ j = L) Wr W
  blk : Blk W bb 30 #[.int .i64 o.house, .int .i64 o.rate, .int .i64 o.due]
  rc : Rec W L (Loop.at_ r st pe)
section
variable {Wr W W' : World} {bb L : Nat} {o o' : Rw} {r : Loop} {st st' : LoopState} {pe pe' : Option Code}
theorem NxJ.kept (h : NxJ Wr W bb L o r st pe) (hk : Kept L W W') (hR : Rec W' L (Loop.at_ r st' pe')) : NxJ Wr W' bb L o r st' pe' :=
  ⟨Chg.trans h.chg hk.chg fun i _ e => .inr e, h.blk.kept hk, hR⟩
theorem NxJ.far (h : NxJ Wr W bb L o r st pe) (h1 : bb < Wr.heap.size) (h2 : L < Wr.heap.size) (hc : Chg (fun k => Wr.heap.size ≤ k) W W') : NxJ Wr W' bb L o r st pe :=
  ⟨Chg.trans h.chg hc fun i hi e => by omega, h.blk.chg hc (by omega), h.rc.chg hc (by omega)⟩
theorem NxJ.grew (h : NxJ Wr W bb L o r st pe) (hg : Grew W W') : NxJ Wr W' bb L o r st pe := ⟨h.chg.grew hg, h.blk.grew hg, h.rc.grew hg⟩
theorem NxJ.then {W2 : World} {o2 : Rw} {st2 : LoopState} {pe2 : Option Code} (h : NxJ Wr W bb L o r st pe) (h2 : NxJ W W2 bb L o2 r st2 pe2) : NxJ Wr W2 bb L o2 r st2 pe2 :=
  ⟨Chg.trans h.chg h2.chg fun _ _ e => e, h2.blk, h2.rc⟩
theorem NxJ.put (h : NxJ Wr W bb L o r st pe) (hW : ((W.setCell ⟨bb, 0, none⟩ (.int .i64 o'.house)).setCell ⟨bb, 1, none⟩ (.int .i64 o'.rate)).setCell ⟨bb, 2, none⟩ (.int .i64 o'.due) = W') : NxJ Wr W' bb L o' r st pe := by
  have hc : Chg (fun j => j = bb) W W' := hW ▸ (((Chg.refl (fun j => j = bb) W).setCell (p := ⟨bb, 0, none⟩) (fun _ => rfl) _).setCell (p := ⟨bb, 1, none⟩) (fun _ => rfl) _).setCell (p := ⟨bb, 2, none⟩) (fun _ => rfl) _
  refine ⟨Chg.trans h.chg hc fun i _ e => .inl e, ?_, h.rc.chg hc (h.rc.ne_blk h.blk)⟩
  subst hW
  have := ((h.blk.put 0 (.int .i64 o'.house)).put 1 (.int .i64 o'.rate)).put 2 (.int .i64 o'.due)
  simpa using this
end

set_option maxRecDepth 100000 in
set_option maxHeartbeats 3200000 in
theorem rnext_any (b : Nat) (F : Nat → Prop) (x : List Rw) (k : Nat) (o0 : Rw) (t0 : Bool) (w : World) (hs : RS w b F x k) (hx : rising x) (hk : k ≤ 900000) (hv0 : NxV x o0 t0) :
    Calls Try.prog 38 #[.pointer (some ⟨b, 0, none⟩)] w fun e w' => e = .returned (.tuple #[(.agg #[.int .i64 o0.house, .int .i64 o0.rate, .int .i64 o0.due]), .bool t0]) ∧ Grew w w' := by
  obtain ⟨R, T, qb, l, A, c, M, added, hin, hp, hkk, -, -, hfit⟩ := hs
  obtain ⟨s, hq⟩ : ∃ s, QL l s := QL.any hin.q.nd
  obtain ⟨bb, hbb⟩ : ∃ bb, w.heap.size + 3 = bb := ⟨_, rfl⟩
  obtain ⟨W0, hW0⟩ : ∃ W0, (((w.alloc (.cells #[.pointer (some ⟨b, 0, none⟩)] 23)).alloc (.cells #[.int .i64 0, .int .i64 0, .int .i64 0] 30)).alloc (.cells #[.bool false] 4)).alloc (.cells #[.int .i64 0, .int .i64 0, .int .i64 0] 30) = W0 := ⟨_, rfl⟩
  have hz : W0.heap.size = w.heap.size + 4 := by rw [← hW0]; simp
  have HG0 := Lib.hid (show Grew w W0 from hW0 ▸ ((((Chg.refl _ _).alloc _).alloc _).alloc _).alloc _)
  have HB0 := Lib.hid (show Blk W0 w.heap.size 23 #[.pointer (some ⟨b, 0, none⟩)] from hW0 ▸ (((Blk.new _ _ _).alloc _).alloc _).alloc _)
  have HB1 := Lib.hid (show Blk W0 (w.heap.size + 1) 30 #[.int .i64 0, .int .i64 0, .int .i64 0] from hW0 ▸ (by have := ((Blk.new (w.alloc (.cells #[.pointer (some ⟨b, 0, none⟩)] 23)) 30 #[.int .i64 0, .int .i64 0, .int .i64 0]).alloc (.cells #[.bool false] 4)).alloc (.cells #[.int .i64 0, .int .i64 0, .int .i64 0] 30); simpa using this))
  have HB2 := Lib.hid (show Blk W0 (w.heap.size + 2) 4 #[.bool false] from hW0 ▸ (by have := (Blk.new ((w.alloc (.cells #[.pointer (some ⟨b, 0, none⟩)] 23)).alloc (.cells #[.int .i64 0, .int .i64 0, .int .i64 0] 30)) 4 #[.bool false]).alloc (.cells #[.int .i64 0, .int .i64 0, .int .i64 0] 30); simpa using this))
  have HB3 := Lib.hid (show Blk W0 (w.heap.size + 3) 30 #[.int .i64 0, .int .i64 0, .int .i64 0] from hW0 ▸ (by have := Blk.new (((w.alloc (.cells #[.pointer (some ⟨b, 0, none⟩)] 23)).alloc (.cells #[.int .i64 0, .int .i64 0, .int .i64 0] 30)).alloc (.cells #[.bool false] 4)) 30 #[.int .i64 0, .int .i64 0, .int .i64 0]; simpa using this))
  have HI := Lib.hid (hin.grew HG0.out)
  have HP := Lib.hid (And.intro hp (And.intro hq hfit))
  have HX := Lib.hid hx
  have HV := Lib.hid hv0
  have Hlt := Lib.hid hin.lt
  have HW0 := Lib.hid hW0
  have hll : l.length ≤ 900000 := by rw [hp.len]; omega
  have hsl : s.length ≤ 900000 := by rw [hq.len]; omega
  obtain ⟨c0, f0, s0⟩ := HB0.out.facts
  obtain ⟨c1, f1, s1⟩ := HI.out.blk.facts
  clear hin hp hq hx hv0 hW0 hkk hfit hbb
  (refine calls_of_marks Try.func38 rfl ?_; simp only [Try.ntmps38, List.size_toArray, List.length_cons, List.length_nil, Nat.reduceAdd, Nat.reduceSub, Array.replicate_succ, Array.replicate_zero, List.push_toArray, List.append_toArray, List.nil_append, List.cons_append])
  go_wp2_with (rw [HW0.out])
  obtain ⟨W1, hW1⟩ : ∃ W1, W0.alloc (.cells #[.pointer (some ⟨qb, 0, none⟩)] 60) = W1 := ⟨_, rfl⟩
  refine (qall_any qb _ W1 hW1).mono ?_
  rintro e w5 ⟨rfl, rfl⟩
  go_wp2_with fail
  have HG1 := Lib.hid (show Grew W0 W1 from hW1 ▸ (Chg.refl _ _).alloc _)
  have HBq := Lib.hid (show Blk W1 (w.heap.size + 4) 60 #[.pointer (some ⟨qb, 0, none⟩)] by have := Blk.new W0 60 #[.pointer (some ⟨qb, 0, none⟩)]; rw [hz, hW1] at this; exact this)
  have hz0 := HBq.out.lt
  clear hW1 c0 f0 s0 c1 f1 s1
  refine wp_range (gf := 63) (lb := #[.pointer (some ⟨w.heap.size + 4, 0, none⟩)]) rfl (enters_of Try.func63 (by kernel_rfl) rfl) ?_
  intro r Wr D L hr hg1 hDl hLl hD hR
  have HR1 := Lib.hid hr
  have hDL := Ne.symm (hR.ne_dfr hD)
  have hz2 := hg1.size
  have hL2 := hR.lt
  have hD2 := hD.lt
  have HGr := Lib.hid (Grew.trans HG1.out hg1)
  have hz3 := HGr.out.size
  have Hr := Lib.hid (HI.out.grew HGr.out)
  have HB0r := Lib.hid (HB0.out.grew HGr.out)
  have HB1r := Lib.hid (HB1.out.grew HGr.out)
  have HB2r := Lib.hid (HB2.out.grew HGr.out)
  have HJ0 := Lib.hid (show NxJ Wr Wr (w.heap.size + 3) L Rw.zero r .ready none from ⟨Chg.refl _ _, HB3.out.grew HGr.out, hR⟩)
  have HDf := Lib.hid hD
  have HBqr := Lib.hid (HBq.out.grew hg1)
  clear hr hg1 hD hR
  refine (qall_iter (w.heap.size + 4) qb L l s A c M added (fun i W' => ∃ o, NxJ Wr W' (w.heap.size + 3) L o r .ready none ∧ NxB x s i o)
    (fun i W' => ∃ o, Chg (fun j => j = w.heap.size + 3 ∨ j = L ∨ j = w.heap.size + 1 ∨ j = w.heap.size + 2) Wr W' ∧ Blk W' (w.heap.size + 1) 30 #[.int .i64 o.house, .int .i64 o.rate, .int .i64 o.due] ∧ Blk W' (w.heap.size + 2) 4 #[.bool true] ∧ Rec W' L (Loop.at_ r .done (some .ret)) ∧ Least x o) Wr (by omega) HBqr.out Hr.out.q HP.out.2.1
    (fun i W W' ⟨o, hJ, hB⟩ hc => ⟨o, hJ.far (by omega) hL2 hc, hB⟩) (fun i y W' hJ hy => ?yld) ⟨_, HJ0.out, NxB.start x s⟩).mono ?post
  case yld =>
    obtain ⟨o, hJ, hB⟩ := hJ
    have hi : i < s.length := (List.getElem?_eq_some_iff.1 hy).1
    have HJ := Lib.hid hJ
    have HB := Lib.hid hB
    have HY := Lib.hid hy
    have hws := hJ.chg.size
    clear hJ hB hy
    obtain ⟨hr1, hr2, hr3, hr4⟩ := HR1.out
    refine yield_wide HJ.out.rc (by rw [hr2]; rfl) ?_
    rw [hr1, hr2, hr3, hr4]
    clear hr1 hr2 hr3 hr4
    intro K hK
    have HK := Lib.hid hK
    clear hK
    gi_wp2
    refine HK.out _ _ HJ.out.rc fun W3 Q hk3 hR2 hQ => ?_
    have HQ := Lib.hid hQ
    have HJ3 := Lib.hid (show NxJ W' W3 (w.heap.size + 3) L o r .busy none from ⟨hk3.chg.mono fun _ _ e => .inr e, HJ.out.blk.kept hk3, hR2⟩)
    clear hk3 hR2 hQ
    have hC3 := (HJ.out.then HJ3.out).chg
    have HC3 := Lib.hid hC3
    have HB3' := Lib.hid (HB0r.out.chg hC3 (by omega))
    have HI3 := Lib.hid (Hr.out.chg hC3 (fun k hk e => by have := Hlt.out k hk; omega))
    clear hC3
    obtain ⟨j, hj⟩ : ∃ j, l[j]? = some y := List.getElem?_of_mem (HP.out.2.1.p.mem_iff.1 (List.mem_of_getElem? HY.out))
    have HJq := Lib.hid hj
    obtain ⟨q, hq1, hq2, hq3, hq4⟩ := HP.out.1.row (List.mem_of_getElem? hj)
    have HQr := Lib.hid (And.intro hq1 (And.intro hq2 (And.intro hq3 hq4)))
    clear hj hq1 hq2 hq3 hq4
    obtain ⟨c0, f0, s0⟩ := HB3'.out.facts
    obtain ⟨c1, f1, s1⟩ := HI3.out.blk.facts
    have hfq : q.fit := HP.out.2.2 _ HQr.out.2.1
    have hwy : (Lit.int .i64 y.v).wf = true := by rw [← HQr.out.2.2.1]; exact wfInt (by have := hfq.1; omega) hfq.2.1
    have hlk := fun (u : World) (h : Grew W3 u) => ((HI3.out.grew h).rows).look (t := 59) kInt Try.underlying3 Try.underlying59 (zRw _) hwy
    have hrm : rwm x y.v = some (.agg #[.int .i64 q.house, .int .i64 q.rate, .int .i64 q.due]) := by unfold rwm; rw [HQr.out.1]; rfl
    rw [hrm] at hlk
    have HLk := Lib.hid hlk
    clear hlk hrm hwy hfq
    by_cases hi0 : i = 0
    · have ho : o.house = 0 := by rw [HB.out.zero hi0]; rfl
      have t1 : (o.house == 0) = true := by simp [ho]
      have Hi0 := Lib.hid hi0
      have Ho := Lib.hid ho
      clear hi0 ho
      gi_wp2_with (refine ⟨trivial, rfl, ?_⟩; gi_at_call 52; refine (CallsIn.inRound L (callsIn_wide.2 (qget_some qb j y l A c M added _ HI3.out.q HJq.out))).mono ?_; rintro e w5 ⟨rfl, hg5⟩; have HG5 := Lib.hid hg5; clear hg5 c0 f0 s0 c1 f1 s1; have HJ5 := Lib.hid (HJ3.out.grew HG5.out); have HB1g := Lib.hid ((HB1r.out.chg HC3.out (by omega)).grew HG5.out); have HB2g := Lib.hid ((HB2r.out.chg HC3.out (by omega)).grew HG5.out); obtain ⟨c0, f0, s0⟩ := (HB3'.out.grew HG5.out).facts; obtain ⟨c1, f1, s1⟩ := (HI3.out.blk.grew HG5.out).facts; obtain ⟨c2, f2, s2⟩ := HJ5.out.blk.facts; obtain ⟨c3, f3, s3⟩ := HB1g.out.facts; obtain ⟨c4, f4, s4⟩ := HB2g.out.facts; have hlk := HLk.out _ HG5.out; simp only [Option.getD_some] at hlk)
      have hJ8 := HJ5.out.put (o' := q) rfl
      exact HQ.out _ _ _ ⟨hJ8.rc, fun w' hk' hR' => ⟨.inl ⟨rfl, q, HJ.out.then (hJ8.kept hk' hR'), HB.out.put HY.out HQr.out.2.1 HQr.out.2.2.1 HQr.out.2.2.2 (fun h => by have := Hi0.out; omega)⟩, (hJ8.kept hk' hR').chg.mono fun _ _ e => by rcases e with e | e <;> omega⟩⟩
    · have hip : 0 < i := by omega
      have ho1 := (HP.out.2.2 o (HB.out.mem hip)).1
      have hge := HB.out.ge HP.out.2.1.o HY.out hip
      have t1 : (o.house == 0) = false := by simp; omega
      clear hi0
      by_cases hd : o.due < y.due
      · have t2 : decide (o.due < y.due) = true := decide_eq_true hd
        gi_wp2_with (refine ⟨trivial, rfl, ?_⟩; gi_at_call 52; refine (CallsIn.inRound L (callsIn_wide.2 (qget_some qb j y l A c M added _ HI3.out.q HJq.out))).mono ?_; rintro e w5 ⟨rfl, hg5⟩; have HG5 := Lib.hid hg5; clear hg5 c0 f0 s0 c1 f1 s1; have HJ5 := Lib.hid (HJ3.out.grew HG5.out); have HB1g := Lib.hid ((HB1r.out.chg HC3.out (by omega)).grew HG5.out); have HB2g := Lib.hid ((HB2r.out.chg HC3.out (by omega)).grew HG5.out); obtain ⟨c0, f0, s0⟩ := (HB3'.out.grew HG5.out).facts; obtain ⟨c1, f1, s1⟩ := (HI3.out.blk.grew HG5.out).facts; obtain ⟨c2, f2, s2⟩ := HJ5.out.blk.facts; obtain ⟨c3, f3, s3⟩ := HB1g.out.facts; obtain ⟨c4, f4, s4⟩ := HB2g.out.facts; have hlk := HLk.out _ HG5.out; simp only [Option.getD_some] at hlk)
        obtain ⟨w8, hw8⟩ : ∃ w8, (((w5.setCell ⟨w.heap.size + 1, 0, none⟩ (.int .i64 o.house)).setCell ⟨w.heap.size + 1, 1, none⟩ (.int .i64 o.rate)).setCell ⟨w.heap.size + 1, 2, none⟩ (.int .i64 o.due)).setCell ⟨w.heap.size + 1 + 1, 0, none⟩ (.bool true) = w8 := ⟨_, rfl⟩
        rw [hw8]
        have hc8 : Chg (fun j => j = w.heap.size + 1 ∨ j = w.heap.size + 2) w5 w8 := hw8 ▸ ((((Chg.refl _ w5).setCell (p := ⟨w.heap.size + 1, 0, none⟩) (fun _ => .inl rfl) _).setCell (p := ⟨w.heap.size + 1, 1, none⟩) (fun _ => .inl rfl) _).setCell (p := ⟨w.heap.size + 1, 2, none⟩) (fun _ => .inl rfl) _).setCell (p := ⟨w.heap.size + 2, 0, none⟩) (fun _ => .inr rfl) _
        have hb1 : Blk w8 (w.heap.size + 1) 30 #[.int .i64 o.house, .int .i64 o.rate, .int .i64 o.due] := by
          subst hw8
          have := (((HB1g.out.put 0 (.int .i64 o.house)).put 1 (.int .i64 o.rate)).put 2 (.int .i64 o.due)).far (p := ⟨w.heap.size + 2, 0, none⟩) (by simp) (.bool true)
          simpa using this
        have hb2 : Blk w8 (w.heap.size + 2) 4 #[.bool true] := by
          subst hw8
          have := (((HB2g.out.far (p := ⟨w.heap.size + 1, 0, none⟩) (by simp) (.int .i64 o.house)).far (p := ⟨w.heap.size + 1, 1, none⟩) (by simp) (.int .i64 o.rate)).far (p := ⟨w.heap.size + 1, 2, none⟩) (by simp) (.int .i64 o.due)).put 0 (.bool true)
          simpa using this
        have hL := HB.out.stop HP.out.1 HP.out.2.1 HY.out hip hd
        have hcw := HJ5.out.chg
        have hne : L ≠ w.heap.size + 1 ∧ L ≠ w.heap.size + 2 := by omega
        have hrc := HJ5.out.rc.chg hc8 (by omega)
        have hC' : ∀ w', Kept L w8 w' → Chg (fun j => j = w.heap.size + 3 ∨ j = L ∨ j = w.heap.size + 1 ∨ j = w.heap.size + 2) Wr w' := fun w' hk' =>
          Chg.trans (Chg.trans (Chg.trans (HC3.out.mono fun _ _ e => by rcases e with e | e <;> simp [e]) HG5.out fun _ _ e => e.elim) hc8 fun i _ e => .inr (.inr e)) hk'.chg fun i _ e => .inr (.inl e)
        have hC'' : ∀ w', Kept L w8 w' → Chg (fun k => k < Wr.heap.size) W' w' := fun w' hk' =>
          Chg.trans (Chg.trans (HJ5.out.chg.mono fun _ _ e => by rcases e with e | e <;> omega) hc8 fun i _ e => by rcases e with e | e <;> omega) hk'.chg fun i _ e => by omega
        clear c0 f0 s0 c1 f1 s1 c2 f2 s2 c3 f3 s3 c4 f4 s4 hlk
        exact HQ.out _ _ _ ⟨hrc, fun w' hk' hR' => ⟨.inr ⟨rfl, o, hC' w' hk', hb1.kept hk', hb2.kept hk', hR', hL⟩, hC'' w' hk'⟩⟩
      · have t2 : decide (o.due < y.due) = false := decide_eq_false hd
        by_cases hv : y.v < o.house
        · have t3 : decide (y.v < o.house) = true := decide_eq_true hv
          gi_wp2_with (refine ⟨trivial, rfl, ?_⟩; gi_at_call 52; refine (CallsIn.inRound L (callsIn_wide.2 (qget_some qb j y l A c M added _ HI3.out.q HJq.out))).mono ?_; rintro e w5 ⟨rfl, hg5⟩; have HG5 := Lib.hid hg5; clear hg5 c0 f0 s0 c1 f1 s1; have HJ5 := Lib.hid (HJ3.out.grew HG5.out); have HB1g := Lib.hid ((HB1r.out.chg HC3.out (by omega)).grew HG5.out); have HB2g := Lib.hid ((HB2r.out.chg HC3.out (by omega)).grew HG5.out); obtain ⟨c0, f0, s0⟩ := (HB3'.out.grew HG5.out).facts; obtain ⟨c1, f1, s1⟩ := (HI3.out.blk.grew HG5.out).facts; obtain ⟨c2, f2, s2⟩ := HJ5.out.blk.facts; obtain ⟨c3, f3, s3⟩ := HB1g.out.facts; obtain ⟨c4, f4, s4⟩ := HB2g.out.facts; have hlk := HLk.out _ HG5.out; simp only [Option.getD_some] at hlk)
          have hJ8 := HJ5.out.put (o' := q) rfl
          exact HQ.out _ _ _ ⟨hJ8.rc, fun w' hk' hR' => ⟨.inl ⟨rfl, q, HJ.out.then (hJ8.kept hk' hR'), HB.out.put HY.out HQr.out.2.1 HQr.out.2.2.1 HQr.out.2.2.2 (fun _ => by have := HQr.out.2.2.1; omega)⟩, (hJ8.kept hk' hR').chg.mono fun _ _ e => by rcases e with e | e <;> omega⟩⟩
        · have t3 : decide (y.v < o.house) = false := decide_eq_false hv
          gi_wp2_with (refine ⟨trivial, rfl, ?_⟩; gi_at_call 52; refine (CallsIn.inRound L (callsIn_wide.2 (qget_some qb j y l A c M added _ HI3.out.q HJq.out))).mono ?_; rintro e w5 ⟨rfl, hg5⟩; have HG5 := Lib.hid hg5; clear hg5 c0 f0 s0 c1 f1 s1; have HJ5 := Lib.hid (HJ3.out.grew HG5.out); have HB1g := Lib.hid ((HB1r.out.chg HC3.out (by omega)).grew HG5.out); have HB2g := Lib.hid ((HB2r.out.chg HC3.out (by omega)).grew HG5.out); obtain ⟨c0, f0, s0⟩ := (HB3'.out.grew HG5.out).facts; obtain ⟨c1, f1, s1⟩ := (HI3.out.blk.grew HG5.out).facts; obtain ⟨c2, f2, s2⟩ := HJ5.out.blk.facts; obtain ⟨c3, f3, s3⟩ := HB1g.out.facts; obtain ⟨c4, f4, s4⟩ := HB2g.out.facts; have hlk := HLk.out _ HG5.out; simp only [Option.getD_some] at hlk)
          exact HQ.out _ _ _ ⟨HJ5.out.rc, fun w' hk' hR' => ⟨.inl ⟨rfl, o, HJ.out.then (HJ5.out.kept hk' hR'), HB.out.keep HY.out hip (by omega) (by omega)⟩, (HJ5.out.kept hk' hR').chg.mono fun _ _ e => by rcases e with e | e <;> omega⟩⟩
  case post =>
    rintro e w3 ⟨hv, hJ | ⟨i, hJ⟩⟩
    · obtain ⟨o, hJ, hB⟩ := hJ
      refine ⟨hv, .inl ⟨hJ.rc, fun w4 hk4 => ?_⟩⟩
      have hV := hB.done HP.out.1 HP.out.2.1
      obtain ⟨rfl, hto⟩ := NxV.uniq HX.out HV.out hV
      have HC4 := Lib.hid (Chg.trans hJ.chg hk4.chg fun i _ e => .inr e)
      have HB4 := Lib.hid (hJ.blk.kept hk4)
      have HVo := Lib.hid (And.intro hV hto)
      clear hto
      have t9 : decide (0 < o0.house) = t0 := by
        rcases HV.out with ⟨h1, h2, h3⟩ | ⟨h1, h2⟩
        · rw [h2, h3]; rfl
        · have := (HP.out.2.2 _ h1.1).1
          rw [h2]; exact decide_eq_true (by omega)
      have T9 := Lib.hid t9
      have HD4 := Lib.hid (HDf.out.chg HC4.out (by omega))
      have HB1g := Lib.hid (HB1r.out.chg HC4.out (by omega))
      have HB2g := Lib.hid (HB2r.out.chg HC4.out (by omega))
      have hcw4 := HC4.out.size
      have HGw := Lib.hid (show Grew w w4 from Chg.mono (Chg.trans (F := fun j => w.heap.size ≤ j) (Grew.trans HG0.out HGr.out).chg HC4.out fun i hi e => by rcases e with e | e <;> omega) fun i hi e => absurd e (by omega))
      clear hJ hk4 hB hV
      obtain ⟨c2, f2, s2⟩ := HB4.out.facts
      obtain ⟨c3, f3, s3⟩ := HB1g.out.facts
      obtain ⟨c4, f4, s4⟩ := HB2g.out.facts
      go_wp2_with fail
      go_region
      go_wp2_with fail
      clear c2 f2 s2 c3 f3 s3 c4 f4 s4
      refine postM_ret1 (v := .tuple #[(.agg #[.int .i64 o0.house, .int .i64 o0.rate, .int .i64 o0.due]), .bool t0]) (D := D) ?_ rfl fun w6 hk6 => ?_
      · refine HD4.out.chg (F := fun j => j = w.heap.size + 1 ∨ j = w.heap.size + 2) ?_ (by omega)
        (repeat (first | (with_reducible exact (Chg.refl _ _)) | (with_reducible refine Chg.alloc ?_ _) | (with_reducible refine Chg.drew ?_) | (with_reducible refine Chg.drewN ?_ _) | ((with_reducible refine Chg.setCell ?_ ?hp _); (case hp => (intro _; first | exact .inl rfl | exact .inr rfl)))))
      · refine ⟨?_, rfl, ?_⟩
        · obtain ⟨c2, f2, s2⟩ : (∀ i, w6.cell? ⟨w.heap.size + 1, i, none⟩ = (#[.int .i64 o0.house, .int .i64 o0.rate, .int .i64 o0.due])[i]?) ∧ (∀ i, w6.frozen? ⟨w.heap.size + 1, i, none⟩ = false) ∧ w.heap.size + 1 < w6.heap.size := (Blk.kept (t := 30) (by (repeat (first | (with_reducible exact HB1g.out) | (with_reducible apply Blk.drew) | (with_reducible apply Blk.drewN) | (with_reducible apply Blk.alloc) | (with_reducible apply Blk.putTo) | (with_reducible apply Blk.far))); (all_goals first | rfl | (simp; done) | (simp; omega))) hk6).facts
          obtain ⟨c3, f3, s3⟩ : (∀ i, w6.cell? ⟨w.heap.size + 2, i, none⟩ = #[Value.bool t0][i]?) ∧ (∀ i, w6.frozen? ⟨w.heap.size + 2, i, none⟩ = false) ∧ w.heap.size + 2 < w6.heap.size := (Blk.kept (t := 4) (by (repeat (first | (with_reducible exact HB2g.out) | (with_reducible apply Blk.drew) | (with_reducible apply Blk.drewN) | (with_reducible apply Blk.alloc) | (with_reducible apply Blk.putTo) | (with_reducible apply Blk.far))); (all_goals first | rfl | (simp; done) | (simp; omega))) hk6).facts
          simp [results, Try.results38, go_sem, c2, s2, c3, s3]
        · refine Chg.kept ?_ hk6 (by omega)
          (repeat (first | (with_reducible exact HGw.out) | (with_reducible refine Chg.alloc ?_ _) | (with_reducible refine Chg.drew ?_) | (with_reducible refine Chg.drewN ?_ _) | ((with_reducible refine Chg.setCell ?_ ?hp _); (case hp => (intro h; exfalso; simp at h; try omega)))))
    · obtain ⟨o, hc, hb1, hb2, hrc, hL⟩ := hJ
      obtain ⟨rfl, rfl⟩ := NxV.uniq HX.out HV.out (.inr ⟨hL, rfl⟩)
      refine ⟨hv, .inr ⟨_, hrc, fun w4 hk4 => wp_ret ?_⟩⟩
      have hb1' := hb1.kept hk4
      have hb2' := hb2.kept hk4
      have hc4 := Chg.trans hc hk4.chg fun i _ e => .inr (.inl e)
      have hcw4 := hc4.size
      simp only [Exit.inBlock, Exit.then]
      refine postM_ret1 (v := .tuple #[(.agg #[.int .i64 o0.house, .int .i64 o0.rate, .int .i64 o0.due]), .bool true]) (D := D) ?_ rfl fun w6 hk6 => ?_
      · exact HDf.out.chg hc4 (by omega)
      refine ⟨?_, rfl, ?_⟩
      · obtain ⟨c2, f2, s2⟩ := (hb1'.kept hk6).facts
        obtain ⟨c3, f3, s3⟩ := (hb2'.kept hk6).facts
        simp [results, Try.results38, go_sem, c2, s2, c3, s3]
      · refine Chg.kept ?_ hk6 (by omega)
        exact Chg.mono (Chg.trans (F := fun j => w.heap.size ≤ j) (Grew.trans HG0.out HGr.out).chg hc4 fun i hi e => by rcases e with e | e | e | e <;> omega) fun i hi e => absurd e (by omega)

end Go.Proofs.Ytjpkpckgkhbfpaa
