/- The rent: its rows, told by the map, collected, sorted. -/
import Derived.Test.YtjpkpckgkhbfpaaRenQ
import Derived.Test.YtjpkpckgkhbfpaaMapR
import Derived.Test.YtjpkpckgkhbfpaaRenB
namespace Go.Proofs.Ytjpkpckgkhbfpaa
open Go.RowKit Go.Maps
attribute [local go_sem] Oper.semAt_some

/-- What has been collected: box B holds a slice of memory that was made since Wr. -/
def CollR (Wr W : World) (B : Nat) (xs : List Rw) : Prop := ∃ v, Blk W B 52 #[v] ∧ W.ownsRow Wr.heap.size 30 3 v xs.length (xs.flatMap Rw.vals)
theorem CollR.grew {w W W' : World} {B : Nat} {xs : List Rw} (h : CollR w W B xs) (hg : Grew W W') : CollR w W' B xs := by
  obtain ⟨v, hb, ho⟩ := h
  exact ⟨v, hb.grew hg, own_grew ho hg⟩
theorem CollR.kept {w W W' : World} {B k : Nat} {xs : List Rw} (h : CollR w W B xs) (hk : Kept k W W') : CollR w W' B xs := by
  obtain ⟨v, hb, ho⟩ := h
  exact ⟨v, hb.kept hk, own_kept ho hk⟩
/-- One more, appended and stored back. -/
theorem CollR.more {w W W1 : World} {F : Nat → Prop} {B n : Nat} {xs : List Rw} {x : Rw} {v v' : Value} (hb : Blk W B 52 #[v]) (ho : W.ownsRow w.heap.size 30 3 v xs.length (xs.flatMap Rw.vals)) (hw : Chg F w W) (hB : F B)
    (hn : n = xs.length + 1) (ho' : W1.ownsRow w.heap.size 30 3 v' n (xs.flatMap Rw.vals ++ [.int .i64 x.house, .int .i64 x.rate, .int .i64 x.due])) (hg : W.grownBy W1 v.ownBlock) :
    Blk W1 B 52 #[v] ∧ Chg F w (W1.setCell ⟨B, 0, none⟩ v') ∧ CollR w (W1.setCell ⟨B, 0, none⟩ v') B (xs ++ [x]) ∧ Chg (fun j => some j = v.ownBlock ∨ j = B) W (W1.setCell ⟨B, 0, none⟩ v') := by
  have hne : some B ≠ v.ownBlock := fun e => own_blk_ne ho hb (by decide) e.symm
  have hb1 := hb.grown hg hne
  have hw1 : Chg F w W1 := hw.grown hg fun k hk hlt => by
    rcases ho.2 with ⟨rfl, _⟩ | ⟨g', cap, cur, rfl, hlo, _⟩
    · simp [Value.ownBlock] at hk
    · simp [Value.ownBlock] at hk; omega
  refine ⟨hb1, hw1.setCell (p := ⟨B, 0, none⟩) (fun h => hB) _, ⟨v', ?_, ?_⟩, ?_⟩
  · have := hb1.put 0 v'
    simpa using this
  · have hc : Chg (fun j => j = B) W1 (W1.setCell ⟨B, 0, none⟩ v') := (Chg.refl (fun j => j = B) W1).setCell (p := ⟨B, 0, none⟩) (fun _ => rfl) _
    have := own_chg ho' hc fun g hg e => own_blk_ne ho' hb1 (by decide) (by rw [hg, e])
    subst hn
    simpa [Rw.vals] using this
  · exact ((Chg.refl _ W).grown hg fun k hk _ => .inl hk.symm).setCell (p := ⟨B, 0, none⟩) (fun _ => .inr rfl) _
/-- What lies elsewhere than the collected row does not turn with it. -/
theorem Rec.collR {w W X : World} {B L : Nat} {xs : List Rw} {v : Value} {r : Loop} (h : Rec W L r) (ho : W.ownsRow w.heap.size 30 3 v xs.length (xs.flatMap Rw.vals)) (hb : Blk W B 52 #[v]) (hc : Chg (fun j => some j = v.ownBlock ∨ j = B) W X) : Rec X L r :=
  h.chg hc fun e => by
    rcases e with e | e
    · exact own_noBook ho e.symm h.isBook
    · exact h.ne_blk hb e
theorem Dfr.collR {w W X : World} {B L : Nat} {xs : List Rw} {v : Value} (h : Dfr W L) (ho : W.ownsRow w.heap.size 30 3 v xs.length (xs.flatMap Rw.vals)) (hb : Blk W B 52 #[v]) (hc : Chg (fun j => some j = v.ownBlock ∨ j = B) W X) : Dfr X L :=
  h.chg hc fun e => by
    rcases e with e | e
    · exact own_noBook ho e.symm h.isBook
    · exact h.ne_blk hb e
/-- Between two rounds. -/
def CollRJ (Wr W : World) (B D L : Nat) (r : Loop) (xs : List Rw) : Prop := Chg (fun j => j = B ∨ j = L) Wr W ∧ CollR Wr W B xs ∧ Dfr W D ∧ Rec W L (Loop.at_ r .ready none)
theorem CollRJ.grew {Wr W W' : World} {B D L : Nat} {r : Loop} {xs : List Rw} (h : CollRJ Wr W B D L r xs) (hg : Grew W W') : CollRJ Wr W' B D L r xs := ⟨h.1.grew hg, h.2.1.grew hg, h.2.2.1.grew hg, h.2.2.2.grew hg⟩

theorem rw_blk {wr : World} {x : Rw} {t : TypeId} : ∀ j u, ([.int .i64 x.house, .int .i64 x.rate, .int .i64 x.due] : List Value)[j]? = some u → (wr.alloc (.cells #[.int .i64 x.house, .int .i64 x.rate, .int .i64 x.due] t)).cell? (Addr.add ⟨wr.heap.size, 0, none⟩ j) = some u := by
  intro j u hu
  rw [Addr.add_lit, (Blk.new wr t #[.int .i64 x.house, .int .i64 x.rate, .int .i64 x.due]).cell]
  simpa using hu


theorem CollR.itr {w W W' : World} {B it : Nat} {xs : List Rw} (h : CollR w W B xs) (hk : Kept it W W') : CollR w W' B xs := h.kept hk
theorem CollRJ.itr {Wr W W' : World} {B D L it : Nat} {r : Loop} {xs : List Rw} (h : CollRJ Wr W B D L r xs) (hge : Wr.heap.size ≤ it) (hk : Kept it W W') (hD : D < Wr.heap.size) (hL : L < Wr.heap.size) : CollRJ Wr W' B D L r xs :=
  ⟨Chg.trans h.1 hk.chg fun i hi e => by omega, h.2.1.kept hk, h.2.2.1.kept hk (by omega), h.2.2.2.kept hk (by omega)⟩

/-- maps.Values. -/
theorem mvals_any (R : Nat) (w W : World) (hW : w.alloc (.cells #[.map (some R)] 59) = W) :
    Calls Try.prog 48 #[.map (some R)] w fun e w' => e = .returned (.func (.func 61) #[] #[.pointer (some ⟨w.heap.size, 0, none⟩)]) ∧ W = w' := by
  subst hW
  go_enter Try.func48, Try.ntmps48
  go_wp2
  go_ret
  exact ⟨rfl, rfl⟩

theorem rrInfo : (Try.prog.info? 30).map (fun i => (i.zero, i.size, i.bytes)) = some (some (.agg #[.int .i64 0, .int .i64 0, .int .i64 0]), 3, 24) := by kernel_rfl

theorem len_le : ∀ {xs x : List Rw}, xs.Nodup → (∀ r ∈ xs, r ∈ x) → xs.length ≤ x.length
  | [], x, _, _ => Nat.zero_le _
  | a :: xs, x, hn, hs => by
    have hn' := List.nodup_cons.1 hn
    have ha : a ∈ x := hs a List.mem_cons_self
    have h1 := len_le (x := x.erase a) hn'.2 (fun r hr => (List.mem_erase_of_ne (fun e => hn'.1 (by rw [← e]; exact hr))).2 (hs r (List.mem_cons_of_mem _ hr)))
    rw [List.length_erase_of_mem ha] at h1
    have := List.length_pos_of_mem ha
    simp only [List.length_cons]
    omega
theorem perm_all {x xs : List Rw} (hx : xs.Nodup) (hs : ∀ r ∈ xs, r ∈ x) (ha : ∀ r ∈ x, r ∈ xs) (hn : x.Nodup) : xs.Perm x :=
  (List.perm_ext_iff_of_nodup hx hn).2 fun r => ⟨hs r, ha r⟩
theorem nodup_of_houses {x : List Rw} (hn : (x.map Rw.house).Nodup) : x.Nodup := by
  rw [List.nodup_iff_pairwise_ne, List.pairwise_map] at hn
  rw [List.nodup_iff_pairwise_ne]
  exact hn.imp fun h e => h (by rw [e])
theorem house_uniq {x : List Rw} (hn : (x.map Rw.house).Nodup) {a b : Rw} (ha : a ∈ x) (hb : b ∈ x) (h : a.house = b.house) : a = b := by
  have h1 := fnd_mem hn ha
  have h2 := fnd_mem hn hb
  rw [h, h2] at h1
  exact (Option.some.inj h1).symm
theorem rwm_isSome {x : List Rw} (hn : (x.map Rw.house).Nodup) {r : Rw} (hr : r ∈ x) : (rwm x r.house).isSome = true := by
  unfold rwm
  rw [fnd_mem hn hr]
  rfl

/-- What the iterator has told, and what is left. -/
structure Told (x xs : List Rw) (left : Int → Bool) : Prop where
  nd : xs.Nodup
  sub : ∀ r ∈ xs, r ∈ x
  left : ∀ r ∈ x, left r.house = true ↔ r ∉ xs
theorem Told.start {x : List Rw} (hn : (x.map Rw.house).Nodup) : Told x [] (fun i => (rwm x i).isSome) :=
  ⟨List.nodup_nil, fun _ h => (by cases h), fun r hr => by simp [rwm_isSome hn hr]⟩
theorem Told.next {x xs : List Rw} {left : Int → Bool} (h : Told x xs left) (hn : (x.map Rw.house).Nodup) {i : Int} {v : Value} (hl : left i = true) (hv : rwm x i = some v) :
    ∃ r, r ∈ x ∧ r ∉ xs ∧ v = (.agg #[.int .i64 r.house, .int .i64 r.rate, .int .i64 r.due]) ∧ r.house = i ∧ Told x (xs ++ [r]) (fun j => left j && !decide (j = i)) := by
  unfold rwm at hv
  cases hf : fnd x i with
  | none => rw [hf] at hv; cases hv
  | some r =>
    rw [hf] at hv
    obtain ⟨hr, rfl⟩ := fnd_some hf
    have hrx := (h.left r hr).1 hl
    refine ⟨r, hr, hrx, (Option.some.inj hv).symm, rfl, ?_, ?_, fun z hz => ?_⟩
    · rw [List.nodup_append]
      exact ⟨h.nd, by simp, fun a ha b hb e => by simp at hb; subst hb; subst e; exact hrx ha⟩
    · intro z hz
      rcases List.mem_append.1 hz with hz | hz
      · exact h.sub z hz
      · simp at hz; subst hz; exact hr
    · have := h.left z hz
      simp only [Bool.and_eq_true, this, Bool.not_eq_true', decide_eq_false_iff_not, List.mem_append, List.mem_singleton, not_or]
      refine and_congr Iff.rfl (not_congr ⟨fun e => house_uniq hn hz hr e, fun e => by rw [e]⟩)
theorem Told.done {x xs : List Rw} {left : Int → Bool} (h : Told x xs left) (hn : (x.map Rw.house).Nodup) (hl : ∀ i, left i = false) : xs.Perm x :=
  perm_all h.nd h.sub (fun r hr => Decidable.byContradiction fun hno => by have := (h.left r hr).2 hno; rw [hl] at this; cases this) (nodup_of_houses hn)

set_option maxRecDepth 100000 in
set_option maxHeartbeats 800000 in
theorem mvals_iter (bb y R : Nat) (x : List Rw) (J : List Rw → World → Prop) (w : World) (hn : (x.map Rw.house).Nodup)
    (hin : ∀ xs W, J xs W → Blk W bb 59 #[.map (some R)] ∧ IMap Try.prog 3 W R (rwm x) x.length)
    (hgr : ∀ xs W W', J xs W → Grew W W' → J xs W')
    (hkp : ∀ xs W W' it, J xs W → w.heap.size ≤ it → Kept it W W' → J xs W')
    (hyld : ∀ xs r W it o, J xs W → It W it o → w.heap.size ≤ it → r ∈ x → xs.length < x.length → YieldAt Fence.wide 0 Try.prog y #[(.agg #[.int .i64 r.house, .int .i64 r.rate, .int .i64 r.due])] W fun e w' => e = .returned (.bool true) ∧ J (xs ++ [r]) w' ∧ It w' it o ∧ w'.heap[R]? = W.heap[R]?)
    (h0 : J [] w) :
    Calls Try.prog 61 #[.func (.yield y) #[] #[], .pointer (some ⟨bb, 0, none⟩)] w fun e w' => (∃ v, e = .returned v) ∧ ∃ xs, xs.Perm x ∧ J xs w' := by
  obtain ⟨c1, f1, s1⟩ := (hin [] w h0).1.facts
  have HM := Lib.hid (hin [] w h0).2
  have Hin := Lib.hid hin
  have Hgr := Lib.hid hgr
  have Hkp := Lib.hid hkp
  have Hyld := Lib.hid hyld
  have H0 := Lib.hid h0
  have HN := Lib.hid hn
  clear hin hgr hyld h0 hkp hn
  (refine (callsIn_wide (n := 1)).1 (callsIn_of_wp Try.func61 rfl trivial ?_ rfl); simp only [Try.ntmps61, List.size_toArray, List.length_cons, List.length_nil, Nat.reduceAdd, Nat.reduceSub, Array.replicate_succ, Array.replicate_zero, List.push_toArray, List.append_toArray, List.nil_append, List.cons_append])
  gi_wp2_with (gi_at_range; refine wpListIn_range_im rfl _ 59 rfl HM.out kInt Try.underlying59 (by rfl) ?_; intro w1 hi1 hg1 hz1)
  have HJ1 := Lib.hid (Hgr.out _ _ _ H0.out hg1)
  have HI1 := Lib.hid hi1
  have HG1 := Lib.hid hg1
  clear hi1 hg1 c1 f1 s1
  go_frame
  gi_loopg [4] x.length (fun n v wr => ∃ (cnt : Nat) (xs : List Rw) (left : Int → Bool), cnt ≤ n ∧ J xs wr ∧ IIt Try.prog 3 wr R w.heap.size (rwm x) x.length left cnt ∧ Told x xs left)
  case atStart => exact ⟨x.length, [], _, Nat.le_refl _, HJ1.out, HI1.out, Told.start HN.out⟩
  case round =>
    obtain ⟨cnt, xs, left, hcn, hJ, hI, hT⟩ := hrel
    have HJ := Lib.hid hJ
    have HI := Lib.hid hI
    have HT := Lib.hid hT
    clear hJ hI hT
    gi_wp2_with (gi_at_next; refine wpListIn_next_im rfl _ rfl HI.out kInt Try.underlying3 rfl ?_ ?_)
    · intro hc0 hl0
      have HL0 := Lib.hid hl0
      clear hc0 hl0
      gi_wp2
      refine bodyPost_end (results_none rfl _ _ _) rfl ?_
      exact ⟨⟨_, rfl⟩, xs, HT.out.done HN.out HL0.out, HJ.out⟩
    · intro i v w2 cnt2 hl hv hi2 hlt hk2 hz2 hen
      obtain ⟨r, hr, hrx, rfl, rfl, hT2⟩ := HT.out.next HN.out hl hv
      have HJ2 := Lib.hid (Hkp.out _ _ _ _ HJ.out (Nat.le_refl _) hk2)
      have HI2 := Lib.hid hi2
      have HT2 := Lib.hid hT2
      obtain ⟨o, ho⟩ := hi2.has
      have HO := Lib.hid ho
      have hxl : xs.length < x.length := by
        have h1 : (xs ++ [r]).length ≤ x.length := len_le hT2.nd hT2.sub
        rw [List.length_append] at h1
        exact h1
      obtain ⟨fn, tmps, assign, body, hy, hR⟩ := Hyld.out xs r _ w.heap.size o (Hgr.out _ _ _ HJ2.out ((Chg.refl NoF w2).alloc (.cells #[.int .i64 r.house, .int .i64 r.rate, .int .i64 r.due] 30))) (HO.out.grew ((Chg.refl NoF w2).alloc (.cells #[.int .i64 r.house, .int .i64 r.rate, .int .i64 r.due] 30))) (Nat.le_refl _) hr hxl
      have HR := Lib.hid hR
      clear hl hv hi2 hk2 hT2 ho hr hrx hR hxl
      gi_wp2_with (refine HR.out.mono ?_; rintro e w3 ⟨rfl, hJ3, hO3, hR3⟩; have HJ3 := Lib.hid (And.intro hJ3 (And.intro hO3 hR3)); clear hJ3 hO3 hR3)
      gi_roundg cnt2
      case measure => omega
      case rel => exact ⟨cnt2, _, _, Nat.le_refl _, HJ3.out.1, (HI2.out.same HO.out (HJ3.out.2.2.trans (Below.heap_alloc _ _ _ HI2.out.imap.lt)) HJ3.out.2.1), HT2.out⟩

set_option maxRecDepth 100000 in
set_option maxHeartbeats 800000 in
theorem rappend_any (bs R : Nat) (x : List Rw) (w : World) (hb : Blk w bs 59 #[.map (some R)]) (hm : IMap Try.prog 3 w R (rwm x) x.length) (hn : (x.map Rw.house).Nodup) (hl : x.length ≤ 1000000) :
    Calls Try.prog 70 #[.slice none 0 0, .func (.func 61) #[] #[.pointer (some ⟨bs, 0, none⟩)]] w fun e w' => ∃ l : List Rw, l.Perm x ∧ OwnOut w w' 30 3 l.length (l.flatMap Rw.vals) (fun A c => .slice A l.length c) e := by
  have hbw := hb.lt
  have hmw := hm.lt
  have H := Lib.hid (And.intro hb (And.intro hm hn))
  clear hb hm hn
  (refine calls_of_marks Try.func70 rfl ?_; simp only [Try.ntmps70, List.size_toArray, List.length_cons, List.length_nil, Nat.reduceAdd, Nat.reduceSub, Array.replicate_succ, Array.replicate_zero, List.push_toArray, List.append_toArray, List.nil_append, List.cons_append])
  go_wp2_with fail
  obtain ⟨W0, hW0⟩ : ∃ W0, w.alloc (.cells #[.slice none 0 0] 52) = W0 := ⟨_, rfl⟩
  have HG0 := Lib.hid (show Grew w W0 from hW0 ▸ (Chg.refl _ _).alloc _)
  have HB := Lib.hid (show Blk W0 w.heap.size 52 #[.slice none 0 0] from hW0 ▸ Blk.new _ _ _)
  rw [hW0]
  clear hW0
  refine wp_range (gf := 61) (lb := #[.pointer (some ⟨bs, 0, none⟩)]) rfl (enters_of Try.func61 (by kernel_rfl) rfl) ?_
  intro r W2 D L hr hg1 hDl hLl hD hR
  have HR1 := Lib.hid hr
  have HG1 := Lib.hid (Grew.trans HG0.out hg1)
  have hDL := Ne.symm (hR.ne_dfr hD)
  have hz0 := HB.out.lt
  have hz3 := hg1.size
  have hL2 := hR.lt
  have hD2 := hD.lt
  have HI := Lib.hid (And.intro (H.out.1.grew HG1.out) (H.out.2.1.grew HG1.out))
  have HJ0 := Lib.hid (show CollRJ W2 W2 w.heap.size D L r [] from ⟨Chg.refl _ _, ⟨_, HB.out.grew hg1, World.ownsRow_nil _ _ _ _⟩, hD, hR⟩)
  clear hr hg1 hD hR
  refine (mvals_iter bs L R x (fun xs W => CollRJ W2 W w.heap.size D L r xs) W2 H.out.2.2
    (fun k W hJ => ⟨HI.out.1.chg hJ.1 (by omega), HI.out.2.chg hJ.1 (by omega)⟩) (fun k W W' hJ hg => hJ.grew hg) (fun k W W' it hJ hge hk => hJ.itr hge hk hD2 hL2) (fun k x1 W it o hJ hit hge hx hlx => ?yld) HJ0.out).mono ?post
  case yld =>
    obtain ⟨xs, rfl⟩ : ∃ xs, xs = k := ⟨_, rfl⟩
    have HX := Lib.hid hx
    have hws := hJ.1.size
    have HR := Lib.hid hJ.2.2.2
    have HD := Lib.hid hJ.2.2.1
    have HT := Lib.hid hit
    obtain ⟨v, hv1, hv2⟩ := hJ.2.1
    have HV := Lib.hid (And.intro hv1 (And.intro hv2 hJ.1))
    have hneL : it ≠ L := by omega
    clear hJ hx hv1 hv2 hit
    obtain ⟨hr1, hr2, hr3, hr4⟩ := HR1.out
    refine yield_wide HR.out (by rw [hr2]; rfl) ?_
    rw [hr1, hr2, hr3, hr4]
    clear hr1 hr2 hr3 hr4
    intro K hK
    have HK := Lib.hid hK
    clear hK
    gi_wp2
    refine HK.out _ _ (HR.out.alloc _) fun W3 Q hk hR2 hQ => ?_
    have HQ := Lib.hid hQ
    have HV1 := Lib.hid ((HV.out.1.alloc _).kept hk)
    have HV2 := Lib.hid (own_kept (own_grew HV.out.2.1 ((Chg.refl NoF W).alloc (.cells #[.int .i64 x1.house, .int .i64 x1.rate, .int .i64 x1.due] 30))) hk)
    have HV3 := Lib.hid (Chg.trans (HV.out.2.2.alloc (.cells #[.int .i64 x1.house, .int .i64 x1.rate, .int .i64 x1.due] 30)) hk.chg fun i _ e => .inr e)
    have HX1 := Lib.hid ((Blk.new W 30 #[.int .i64 x1.house, .int .i64 x1.rate, .int .i64 x1.due]).kept hk)
    have HW5 := Lib.hid hR2
    have HW6 := Lib.hid ((HD.out.alloc _).kept hk hDL)
    have HT3 := Lib.hid (((HT.out.grew ((Chg.refl _ _).alloc (.cells #[.int .i64 x1.house, .int .i64 x1.rate, .int .i64 x1.due] 30))).chg hk.chg hneL))
    have hRm : W3.heap[R]? = W.heap[R]? := (hk.chg.block R (by simp; omega) (by omega)).trans (Below.heap_alloc _ _ _ (by omega))
    have HRm := Lib.hid hRm
    have hsz : W.heap.size + 1 ≤ W3.heap.size := by have := hk.chg.size; simpa using this
    clear hk hR2 hQ hRm
    obtain ⟨c2, f2, s2⟩ := HV1.out.facts
    obtain ⟨c4, f4, s4⟩ := HX1.out.facts
    have hle2 : xs.length ≤ 1000000 := by omega
    obtain ⟨i0, hi, hz0', hz1, hz2⟩ := info_parts rrInfo
    have HV2a := Lib.hid (own_grew HV2.out ((Chg.refl NoF W3).alloc (.cells #[.int .i64 x1.house, .int .i64 x1.rate, .int .i64 x1.due] 30)))
    have HT4 := Lib.hid (HT3.out.grew ((Chg.refl NoF W3).alloc (.cells #[.int .i64 x1.house, .int .i64 x1.rate, .int .i64 x1.due] 30)))
    gi_wp2_with (gi_at_builtin; refine wpListIn_append_own_at _ (by rfl) _ _ 52 (by rfl) W2.heap.size 30 i0 (.agg #[.int .i64 0, .int .i64 0, .int .i64 0]) 3 24 Try.underlying52 hi hz0' hz1 hz2 rfl (by decide) v _ _ (by rfl) HV2a.out ⟨W3.heap.size, 0, none⟩ 1 1 [.int .i64 x1.house, .int .i64 x1.rate, .int .i64 x1.due] (by rfl) (by rfl) rw_blk (by simp [Value.oneCell']) (by simp only [maxLen]; omega) (by omega) (by simp; omega) ?_; intro v' w5 ho5 hg5 _ _; obtain ⟨g', cap', rfl⟩ := ownsRow_succ ho5; have HM := Lib.hid (CollR.more (HV1.out.alloc _) HV2a.out (HV3.out.alloc _) (.inl rfl) rfl ho5 hg5); clear ho5 hg5; obtain ⟨c5, f5, s5⟩ := HM.out.1.facts)
    refine HQ.out _ _ _ ⟨(HW5.out.alloc _).collR HV2a.out (HV1.out.alloc _) HM.out.2.2.2, fun w' hk' hR' => ⟨rfl, ⟨Chg.trans HM.out.2.1 hk'.chg fun i _ e => .inr e, HM.out.2.2.1.kept hk', ((HW6.out.alloc _).collR HV2a.out (HV1.out.alloc _) HM.out.2.2.2).kept hk' hDL, hR'⟩,
      (HT4.out.chg HM.out.2.2.2 (fun e => by rcases e with e | e; exact own_noBook HV2a.out e.symm HT4.out.book; exact (HV1.out.alloc _).noBook (e ▸ HT4.out.book))).chg hk'.chg hneL, ?_⟩⟩
    have hRw : R < W.heap.size := by omega
    refine (hk'.chg.block R ?_ (by omega)).trans ((HM.out.2.2.2.block R ?_ ?_).trans ((Below.heap_alloc _ _ _ (by omega)).trans HRm.out))
    · have := HM.out.2.2.2.size; simp only [World.size_alloc] at this; omega
    · simp only [World.size_alloc]; omega
    · rintro (e | e)
      · have := (HV2a.out.lt R e.symm).1; omega
      · omega
  case post =>
    rintro e w3 ⟨hv, l, hpl, hJ⟩
    refine ⟨hv, .inl ⟨hJ.2.2.2, fun w4 hk4 => ?_⟩⟩
    obtain ⟨v, hv1, hv2⟩ := hJ.2.1
    obtain ⟨A', c', rfl, _⟩ := own_shape hv2
    have HV := Lib.hid (And.intro (hv1.kept hk4) (own_kept hv2 hk4))
    have HD := Lib.hid (hJ.2.2.1.kept hk4 hDL)
    have HC := Lib.hid (Chg.trans hJ.1 hk4.chg fun i _ e => .inr e)
    have HP := Lib.hid hpl
    clear hJ hk4 hv1 hv2 hpl
    obtain ⟨c2, f2, s2⟩ := HV.out.1.facts
    go_wp2
    refine postM_ret1 (v := .slice A' l.length c') HD.out rfl fun w5 hk5 => ⟨by simp [results, Try.results70, go_sem], l, HP.out, A', c', rfl, own_base (own_kept HV.out.2 hk5) (by have := HG1.out.size; omega), ?_⟩
    have hF : Grew w w4 := by
      refine Chg.mono (Chg.trans (F := fun j => w.heap.size ≤ j) HG1.out.chg HC.out fun i hi e => ?_) fun i hi e => absurd e (by omega)
      rcases e with e | e <;> omega
    exact Chg.kept hF hk5 (by omega)

end Go.Proofs.Ytjpkpckgkhbfpaa
