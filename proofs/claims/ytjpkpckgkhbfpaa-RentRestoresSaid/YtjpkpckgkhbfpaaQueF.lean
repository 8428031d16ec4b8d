/- The queue: Add. -/
import Derived.Test.YtjpkpckgkhbfpaaQueE
import Derived.Maps.OwnIn
import Derived.Maps.AppendAt
import Derived.RangeFuncBox
namespace Go.Proofs.Ytjpkpckgkhbfpaa
open Go.RowKit Go.Maps

theorem itmInfo : (Try.prog.info? 97).map (fun i => (i.zero, i.size, i.bytes)) = some (some (.agg #[.int .i64 0, .int .i64 0, .int .i64 0]), 3, 24) := by kernel_rfl

/-- What a call that changes a queue leaves. -/
def QTo (w w' : World) (b : Nat) (A : Option Addr) (M : Nat) (l : List Itm) (added : Int) : Prop :=
  ∃ A' c', Q w' b l A' c' M added ∧ Chg (QF b A M) w w' ∧ (∀ k, QF b A' M k → QF b A M k ∨ w.heap.size ≤ k)

theorem add_after {w W w3 X : World} {b c M s : Nat} {added : Int} {m : Int → Option Value} {l : List Itm} {x : Itm} {A : Option Addr} {v' : Value} {n : Nat} (hD : Grew w W) (hW : QIn W b l A c M added m s) (hn : n = l.length + 1)
    (hown : w3.ownsRow 0 97 3 v' n (l.flatMap Itm.vals ++ x.vals)) (hg : W.grownBy w3 (Value.slice A l.length c).ownBlock)
    (hat : v'.ownBlock = (Value.slice A l.length c).ownBlock ∨ v'.ownBlock = some W.heap.size) (hX : w3.setCell ⟨b, 0, none⟩ v' = X) :
    Blk w3 b 80 #[.slice A l.length c, .map (some M), .int .i64 added] ∧ ∃ A' c', v' = .slice A' (l ++ [x]).length c' ∧ QIn X b (l ++ [x]) A' c' M added m s ∧ Chg (QF b A M) w X ∧ (∀ k, QF b A' M k → QF b A M k ∨ w.heap.size ≤ k) := by
  subst hn
  obtain ⟨g', cap', rfl⟩ := ownsRow_succ hown
  have hB : Blk w3 b 80 #[.slice A l.length c, .map (some M), .int .i64 added] := hW.blk.grown hg fun e => own_blk_ne hW.own hW.blk (by decide) e.symm
  have hgb : g' ≠ b := fun e => by
    subst e
    exact own_blk_ne hown hB (by decide) rfl
  have hQF : ∀ k, (Value.slice A l.length c).ownBlock = some k → QF b A M k := fun k hk => by
    cases A with
    | none => simp [Value.ownBlock] at hk
    | some a => simp [Value.ownBlock] at hk; exact .inr (.inr ⟨a, rfl, hk.symm⟩)
  have hc : Chg (QF b A M) w w3 := (hD.chg).grown hg fun k hk _ => hQF k hk
  have hMA : ∀ k, (Value.slice A l.length c).ownBlock = some k → M ≠ k := fun k hk e => by
    subst e
    cases A with
    | none => simp [Value.ownBlock] at hk
    | some a =>
      obtain ⟨g, rfl, hgl⟩ := own_some hW.own
      simp [Value.ownBlock] at hk
      subst hk
      obtain ⟨cur, -, hgc, -⟩ := own_row hW.own
      exact map_ne hW.mp (show Blk W g _ cur from hgc) rfl
  have hM3 : IMap Try.prog 3 w3 M m s := hW.mp.chg (F := fun k => (Value.slice A l.length c).ownBlock = some k) ((Chg.refl _ W).grown hg fun k hk _ => hk) (fun h => hMA M h rfl)
  have h1 : Chg (fun k => k = b) w3 X := by
    rw [← hX]
    exact Chg.setCell (Chg.refl (fun k => k = b) w3) (p := ⟨b, 0, none⟩) (fun _ => rfl) _
  have hMb : M ≠ b := map_ne hM3 hB
  refine ⟨hB, some ⟨g', 0, none⟩, cap', by simp, ⟨?_, ?_, hM3.chg h1 hMb⟩, ?_, ?_⟩
  · rw [← hX]
    have := hB.put 0 (.slice (some ⟨g', 0, none⟩) (l.length + 1) cap')
    simpa using this
  · have := own_chg hown h1 (fun g hg e => hgb (by simp [Value.ownBlock] at hg; omega))
    simpa using this
  · exact Chg.trans hc h1 fun _ _ e => .inl e
  · rintro k (rfl | rfl | ⟨a, ha, rfl⟩)
    · exact .inl (.inl rfl)
    · exact .inl (.inr (.inl rfl))
    · simp only [Option.some.injEq] at ha
      subst ha
      rcases hat with h | h
      · exact .inl (hQF _ h.symm)
      · right; have := hD.size; simp [Value.ownBlock] at h; simp only []; omega

theorem add_map {l : List Itm} {x : Itm} (hn : (l.map Itm.n).Nodup) (hx : ∀ y ∈ l, y.n ≠ x.n) : upd (ixm l) x.n (some (.int .i64 (l.length : Int))) = ixm (l ++ [x]) ∧ ((l ++ [x]).map Itm.n).Nodup := by
  have hnd : ((l ++ [x]).map Itm.n).Nodup := by
    rw [List.map_append, List.nodup_append]
    refine ⟨hn, by simp, ?_⟩
    intro a ha c hc e
    simp only [List.map_cons, List.map_nil, List.mem_singleton] at hc
    obtain ⟨y, hy, rfl⟩ := List.mem_map.1 ha
    exact hx y hy (e.trans hc)
  refine ⟨ixm_ext hnd (fun i z hz => ?_) fun n hno => ?_, hnd⟩
  · by_cases hi : i < l.length
    · rw [List.getElem?_append_left hi] at hz
      rw [upd_other (hx z (List.mem_of_getElem? hz)), ixm_at hn hz]
    · rw [List.getElem?_append_right (by omega)] at hz
      have h0 : i - l.length = 0 := by
        have := (List.getElem?_eq_some_iff.1 hz).1
        simp at this
        omega
      rw [h0] at hz
      simp at hz
      subst hz
      rw [upd_same, show i = l.length by omega]
  · rw [upd_other (fun e => hno x (by simp) e.symm), ixm_none fun z hz => hno z (by simp [hz])]

set_option maxRecDepth 100000 in
set_option maxHeartbeats 3200000 in
theorem add_any (b : Nat) (due : Int) (v : Int) (l : List Itm) (A : Option Addr) (c M : Nat) (added : Int) (w : World) (h : Q w b l A c M added) (hl : l.length ≤ 999999) (h0 : 0 ≤ added) (h1 : added ≤ 1000000) (hf : ∀ x ∈ l, x.n ≤ added) :
    Calls Try.prog 44 #[.pointer (some ⟨b, 0, none⟩), .int .i64 due, .int .i64 v] w fun e w' => e = .returned (.int .i64 (added + 1)) ∧ QTo w w' b A M (upL (l ++ [⟨added + 1, due, v⟩]) l.length) (added + 1) := by
  obtain ⟨i0, hi, hz0, hz1, hz2⟩ := info_parts itmInfo
  obtain ⟨W0, hW0⟩ : ∃ W0, w.setCell ⟨b, 2, none⟩ (.int .i64 (added + 1)) = W0 := ⟨_, rfl⟩
  have hMb : M ≠ b := map_ne h.isIn.mp h.isIn.blk
  have hc0 : Chg (fun j => j = b) w W0 := hW0 ▸ (Chg.refl (fun j => j = b) w).setCell (p := ⟨b, 2, none⟩) (fun _ => rfl) _
  have hq0 : QIn W0 b l A c M (added + 1) (ixm l) l.length := by
    refine ⟨?_, own_chg h.isIn.own hc0 (fun g hg e => own_blk_ne h.isIn.own h.isIn.blk (by decide) (e ▸ hg)), h.isIn.mp.chg hc0 hMb⟩
    rw [← hW0]
    have := h.isIn.blk.put 2 (.int .i64 (added + 1))
    simpa using this
  obtain ⟨c0, f0, s0⟩ := h.isIn.blk.facts
  obtain ⟨c1, f1, s1⟩ := hq0.blk.facts
  have HW0 := Lib.hid hW0
  have HQ0 := Lib.hid (And.intro hq0 hc0)
  have H := Lib.hid h
  have HF := Lib.hid hf
  clear hW0 hq0 hc0 h hf
  go_enter Try.func44, Try.ntmps44
  have HOa := Lib.hid (own_chg (F := NoF) HQ0.out.1.own ((Chg.refl NoF W0).alloc (.cells #[.int .i64 0, .int .i64 0, .int .i64 0] 97)) (fun _ _ => id))
  go_wp2_with (first
    | (rw [HW0.out])
    | (at_builtin; (refine wpList_append_own_at _ (by rfl) _ _ 78 (by rfl) 0 97 i0 _ 3 24 Try.underlying78 hi hz0 hz1 hz2 rfl (by decide) (.slice A l.length c) _ _ (by rfl) HOa.out ⟨W0.heap.size, 0, none⟩ 1 1 [.int .i64 0, .int .i64 0, .int .i64 0] (by rfl) (by rfl) (World.news_of_block (cs := #[.int .i64 0, .int .i64 0, .int .i64 0]) (t := 97) (fr := (0, 0)) (heap_alloc_new W0 _)) (by simp [Value.oneCell']) (by simp only [maxLen]; omega) (by omega) (by omega) ?_; intro v' w5 ho5 hg5 _ hat5; have hat6 : v'.ownBlock = (Value.slice A l.length c).ownBlock ∨ v'.ownBlock = some (W0.alloc (.cells #[.int .i64 0, .int .i64 0, .int .i64 0] 97)).heap.size := hat5; have HE := Lib.hid (add_after (x := Itm.zero) ((Chg.refl NoF W0).alloc (.cells #[.int .i64 0, .int .i64 0, .int .i64 0] 97)) (HQ0.out.1.grew ((Chg.refl NoF W0).alloc _)) rfl ho5 hg5 hat6 rfl); obtain ⟨g', cap', rfl⟩ := ownsRow_succ ho5; clear ho5 hg5 hat5 hat6 c0 f0 s0 c1 f1 s1; obtain ⟨c5, f5, s5⟩ := HE.out.1.facts)))
  obtain ⟨A6, c6, hv6, hq6, hc6, hf6⟩ := HE.out.2
  simp only [Value.slice.injEq, true_and] at hv6
  obtain ⟨rfl, -, rfl⟩ := hv6
  obtain ⟨W6, hW6⟩ : ∃ W6, w5.setCell ⟨b, 0, none⟩ (.slice (some ⟨g', 0, none⟩) (l.length + 1) cap') = W6 := ⟨_, rfl⟩
  rw [hW6] at hq6 hc6 ⊢
  have hb6 := hq6.blk
  rw [show (l ++ [Itm.zero]).length = l.length + 1 by simp] at hb6
  have HQ6 := Lib.hid (And.intro hq6 (And.intro hc6 hf6))
  have hln : ((l ++ [Itm.zero]).length) = l.length + 1 := by simp
  have Hln := Lib.hid hln
  clear hW6 hq6 hc6 hf6 HE c5 f5 s5 hln
  obtain ⟨c0, f0, s0⟩ := hb6.facts
  have e1 : IntKind.i64.wrap ((l.length : Int) + 1 - 1) = (l.length : Int) := by rw [show (l.length : Int) + 1 - 1 = ((l.length : Nat) : Int) by omega]; exact wrap_nat (by omega)
  refine wp_region_still_tail 14 (by kernel_rfl) (by kernel_rfl) ?_
  simp only [List.take_succ_cons, List.take_zero, List.drop_succ_cons, List.drop_zero]
  repeat still_step
  refine wpStill_nil ?_
  change wpList _ _ _ _ _ W6.drew
  go_wp2_with fail
  refine (put_any b l.length ⟨added + 1, due, v⟩ (l ++ [Itm.zero]) (some ⟨g', 0, none⟩) cap' M (added + 1) (ixm l) l.length _ (HQ6.out.1.grew ((Chg.refl _ _).drew)) (by simp) (by simp only [maxLen]; omega) (wfInt (by show _ ≤ added + 1; omega) (by show added + 1 ≤ _; omega))).mono ?_
  rintro e w7 ⟨rfl, hq7, hc7⟩
  have hno : ∀ y ∈ l, y.n ≠ added + 1 := fun y hy => by have := HF.out y hy; omega
  rw [show ixm l (⟨added + 1, due, v⟩ : Itm).n = none from ixm_none hno, show (l ++ [Itm.zero]).set l.length ⟨added + 1, due, v⟩ = l ++ [⟨added + 1, due, v⟩] by simp, (add_map H.out.nd (x := ⟨added + 1, due, v⟩) hno).1] at hq7
  have hQ7 : Q w7 b (l ++ [⟨added + 1, due, v⟩]) (some ⟨g', 0, none⟩) cap' M (added + 1) := by
    refine ⟨by simpa using hq7, (add_map H.out.nd (x := ⟨added + 1, due, v⟩) hno).2, fun z hz => ?_⟩
    rcases List.mem_append.1 hz with hz | hz
    · exact H.out.ok z hz
    · simp at hz; subst hz; exact wfInt (by show _ ≤ added + 1; omega) (by show added + 1 ≤ _; omega)
  have hb7 := hQ7.isIn.blk
  rw [show (l ++ [(⟨added + 1, due, v⟩ : Itm)]).length = l.length + 1 by simp] at hb7
  have HQ7 := Lib.hid (And.intro hQ7 hc7)
  clear hq7 hc7 hQ7 hno c0 f0 s0 hb6
  obtain ⟨c0, f0, s0⟩ := hb7.facts
  go_wp2_with (go_at_call 55; refine (up_any b l.length (l ++ [⟨added + 1, due, v⟩]) (some ⟨g', 0, none⟩) cap' M (added + 1) _ HQ7.out.1 (by simp) (by simp; omega)).mono ?_; rintro e w8 ⟨rfl, hq8, hc8⟩; have HQ8 := Lib.hid (And.intro hq8 hc8); clear hq8 hc8 hb7 c0 f0 s0; obtain ⟨c0, f0, s0⟩ := HQ8.out.1.isIn.blk.facts)
  go_ret
  refine ⟨rfl, some ⟨g', 0, none⟩, cap', HQ8.out.1, ?_, fun k hk => ?_⟩
  · refine Chg.trans (Chg.trans (F := QF b A M) (Chg.mono HQ0.out.2 fun _ _ e => .inl e) HQ6.out.2.1 fun _ _ e => e) (Chg.trans (Chg.trans ((Chg.refl _ _).drew) HQ7.out.2 fun _ _ e => e) HQ8.out.2 fun _ _ e => e) fun j hj e => ?_
    rcases HQ6.out.2.2 j e with h | h
    · exact h
    · have := HQ0.out.2.size; omega
  · rcases HQ6.out.2.2 k hk with h | h
    · exact .inl h
    · have := HQ0.out.2.size; exact .inr (by omega)

end Go.Proofs.Ytjpkpckgkhbfpaa
