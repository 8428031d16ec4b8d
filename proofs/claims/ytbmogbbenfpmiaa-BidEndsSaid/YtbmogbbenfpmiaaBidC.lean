/- The auctions: the calls that change them. -/
import Derived.Test.YtbmogbbenfpmiaaBidB
namespace Go.Proofs.Ytbmogbbenfpmiaa
open Go.RowKit

/-- The blocks of a Bids. -/
def BF (b : Nat) (A : Option Addr) : Nat → Prop := fun k => k = b ∨ ∃ a, A = some a ∧ k = a.block

/-- What a call that changes a Bids leaves. -/
def BidsTo (w w' : World) (b : Nat) (A : Option Addr) (nx : Int) (l : List Auc) : Prop :=
  ∃ A' c', BidsIn w' b nx l A' c' ∧ Chg (BF b A) w w' ∧ (∀ k, BF b A' k → BF b A k ∨ w.heap.size ≤ k)

theorem aucInfo : (Try.prog.info? 32).map (fun i => (i.zero, i.size, i.bytes)) = some (some (.agg #[.int .i64 0, .int .i64 0, .int .i64 0, .int .i64 0, .int .i64 0, .int .i64 0, .int .i64 0]), 7, 56) := by kernel_rfl

theorem BF_own {A : Option Addr} {b n c k : Nat} (h : (Value.slice A n c).ownBlock = some k) : BF b A k := by
  cases A with
  | none => simp [Value.ownBlock] at h
  | some a => simp [Value.ownBlock] at h; exact .inr ⟨a, rfl, h.symm⟩

theorem open_after {w W w3 : World} {b c gg cap : Nat} {nx n' : Int} {l : List Auc} {x : Auc} {A : Option Addr} {o : Obj} (hD : Grew w W) (hW : BidsIn W b nx l A c)
    (hown : w3.ownsRow 0 32 7 (.slice (some ⟨gg, 0, none⟩) (l.length + 1) cap) (l.length + 1) (l.flatMap Auc.vals ++ x.vals)) (hg : (W.alloc o).drew.grownBy w3 (Value.slice A l.length c).ownBlock)
    (hat : (Value.slice A l.length c).ownBlock = some gg ∨ gg = W.heap.size + 1) (hB : Blk w3 b 58 #[.slice A l.length c, .int .i64 nx]) :
    BidsTo w ((w3.setCell ⟨b, 0, none⟩ (.slice (some ⟨gg, 0, none⟩) (l.length + 1) cap)).setCell ⟨b, 1, none⟩ (.int .i64 n')) b A n' (l ++ [x]) := by
  have hgb : gg ≠ b := fun e => by
    subst e
    exact own_blk_ne hown hB (by decide) rfl
  have hsz := hD.size
  have hc : Chg (BF b A) w w3 := (hD.chg.alloc _).drew.grown hg fun k hk _ => BF_own hk
  refine ⟨some ⟨gg, 0, none⟩, cap, ⟨?_, ?_⟩, (hc.setCell (fun _ => .inl rfl) _).setCell (fun _ => .inl rfl) _, ?_⟩
  · have := (hB.put 0 (.slice (some ⟨gg, 0, none⟩) (l.length + 1) cap)).put 1 (.int .i64 n')
    simpa using this
  · have h1 : Chg (fun k => k = b) w3 ((w3.setCell ⟨b, 0, none⟩ (.slice (some ⟨gg, 0, none⟩) (l.length + 1) cap)).setCell ⟨b, 1, none⟩ (.int .i64 n')) :=
      Chg.setCell (Chg.setCell (Chg.refl (fun k => k = b) w3) (p := ⟨b, 0, none⟩) (fun _ => rfl) _) (p := ⟨b, 1, none⟩) (fun _ => rfl) _
    have := own_chg hown h1 (fun g hg e => hgb (by simp [Value.ownBlock] at hg; omega))
    simpa using this
  · rintro k (rfl | ⟨a, ha, rfl⟩)
    · exact .inl (.inl rfl)
    · simp only [Option.some.injEq] at ha
      subst ha
      rcases hat with h | h
      · exact .inl (BF_own h)
      · right; simp only []; omega

set_option maxHeartbeats 400000 in
theorem open_yes (b : Nat) (nx deed seller least ends : Int) (l : List Auc) (A : Option Addr) (c : Nat) (w : World) (h : BidsIn w b nx l A c) (hl : l.length < 64)
    (hc : Auc.chk ⟨nx, deed, seller, least, 0, 0, ends⟩ = 0) (hf : fidx (fun x : Auc => x.deed == deed) l = -1) (hn0 : 0 ≤ nx) (hn1 : nx ≤ 4611686018427387904) :
    Calls Try.prog 9 #[.pointer (some ⟨b, 0, none⟩), .int .i64 deed, .int .i64 seller, .int .i64 least, .int .i64 ends] w fun e w' =>
      e = .returned (.tuple #[.int .i64 nx, .int .i64 0]) ∧ BidsTo w w' b A (nx + 1) (l ++ [⟨nx, deed, seller, least, 0, 0, ends⟩]) := by
  obtain ⟨c2, f2, s2⟩ := h.blk.facts
  have Hc := Lib.hid hc
  have Hf := Lib.hid hf
  have H := Lib.hid h
  clear hc hf h
  have hgA := (Chg.refl NoF w).alloc (.cells #[.int .i64 nx, .int .i64 deed, .int .i64 seller, .int .i64 least, .int .i64 0, .int .i64 0, .int .i64 ends] 32)
  have HA := Lib.hid (And.intro hgA (Blk.new w 32 #[.int .i64 nx, .int .i64 deed, .int .i64 seller, .int .i64 least, .int .i64 0, .int .i64 0, .int .i64 ends]))
  clear hgA
  go_enter Try.func9, Try.ntmps9
  go_wp2_with (first
    | (go_at_call 23; refine (check_any ⟨nx, deed, seller, least, 0, 0, ends⟩ _).mono ?_; rintro e w1 ⟨rfl, hg1⟩; rw [Hc.out]; have HB := Lib.hid (Grew.trans HA.out.1 hg1); obtain ⟨c1, f1, s1⟩ := (HA.out.2.grew hg1).facts; have Ha := Lib.hid (HA.out.2.grew hg1); clear HA hg1)
    | (go_at_call 15; refine (of_none b nx deed l A c _ (H.out.grew HB.out) (by omega) Hf.out).mono ?_; rintro e w2 ⟨rfl, hg2⟩; have HC := Lib.hid (Grew.trans HB.out hg2); obtain ⟨c3, f3, s3⟩ := (Ha.out.grew hg2).facts; have Hb := Lib.hid (Ha.out.grew hg2); clear c1 f1 s1 Ha HB hg2; obtain ⟨c4, f4, s4⟩ := (H.out.grew HC.out).blk.facts; have hsz := HC.out.size)
    | (go_at_call 24; refine (len_any b nx l A c _ (H.out.grew (HC.out.alloc _))).mono ?_; rintro e w3 ⟨rfl, rfl⟩))
  obtain ⟨W, hW⟩ : ∃ W, w2.alloc (.cells #[.int .i64 0, .int .i64 0, .int .i64 0, .int .i64 0, .int .i64 0, .int .i64 0, .int .i64 0] 32) = W := ⟨_, rfl⟩
  have HD := Lib.hid (show Grew w W from hW ▸ HC.out.alloc _)
  have HaW := Lib.hid (show Blk W w.heap.size _ _ from hW ▸ Hb.out.alloc _)
  rw [hW]
  clear hW HC Hb c3 f3 s3 c4 f4 s4 hsz c2 f2
  have HW := Lib.hid (H.out.grew HD.out)
  have ag : (Value.slice A l.length c).ownBlock ≠ some b := own_blk_ne H.out.own H.out.blk (by decide)
  have aL : (Value.slice A l.length c).ownBlock ≠ some w.heap.size := fun e => by have := (H.out.own.lt _ e).2; omega
  obtain ⟨i0, hi0, hz0, hz1, hz2⟩ := info_parts aucInfo
  have d := HW.out.blk.cell 0
  have e0 := HaW.out.cell 0
  have e1 := HaW.out.cell 1
  have e2 := HaW.out.cell 2
  have e3 := HaW.out.cell 3
  have e4 := HaW.out.cell 4
  have e5 := HaW.out.cell 5
  have e6 := HaW.out.cell 6
  have f4 := HW.out.blk.frozen 0
  have s4 := HW.out.blk.lt
  have s5 := HaW.out.lt
  simp only [List.getElem?_toArray, List.getElem?_cons_zero, List.getElem?_cons_succ] at d e0 e1 e2 e3 e4 e5 e6
  go_region_law
    ((refine step_append_lies _ (by rfl) _ _ _ (by rfl) 0 32 i0 _ 7 56 Try.underlying56 hi0 hz0 hz1 hz2 rfl (by omega) (.slice A l.length c) l.length (l.flatMap Auc.vals) (by rfl) ((HW.out.own.alloc _).drew)
        ⟨W.heap.size, 0, none⟩ 1 1 [.int .i64 nx, .int .i64 deed, .int .i64 seller, .int .i64 least, .int .i64 0, .int .i64 0, .int .i64 ends] (by rfl) (by rfl) (World.news_of_block (cs := #[.int .i64 nx, .int .i64 deed, .int .i64 seller, .int .i64 least, .int .i64 0, .int .i64 0, .int .i64 ends]) (t := 32) (fr := (0, 0)) (heap_alloc_new W _)) (by simp [Value.oneCell'])
        (by omega) (by simp only [maxLen]; omega) (by omega) (by simp) (W.heap.size + 1) (by simp) ?_; intro gg cap w3 hown1 hgrow hat hlt; have HB3 := Lib.hid (Blk.grown ((HW.out.blk.alloc _).drew) hgrow (Ne.symm ag)); have HL3 := Lib.hid (Blk.grown ((HaW.out.alloc _).drew) hgrow (Ne.symm aL)); obtain ⟨cB, fB, sB⟩ := HB3.out.facts; obtain ⟨cL, fL, sL⟩ := HL3.out.facts))
  all_goals
    clear d e0 e1 e2 e3 e4 e5 e6 f4 s4 s5
    have HG := Lib.hid (And.intro hown1 (And.intro hgrow hat))
    clear hown1 hgrow hat hi0 hz0 hz1 hz2
    go_wp2
    go_ret2
    refine ⟨rfl, open_after HD.out (HW.out) HG.out.1 HG.out.2.1 HG.out.2.2 HB3.out⟩

end Go.Proofs.Ytbmogbbenfpmiaa
