/- The queue: remove. -/
import Derived.Test.YtjpkpckgkhbfpaaQueF
namespace Go.Proofs.Ytjpkpckgkhbfpaa
open Go.RowKit Go.Maps

theorem upL_perm (l : List Itm) (i : Nat) : (upL l i).Perm l := by
  fun_induction upL l i with
  | case1 l i hi x p hx hp hlt ih => exact ih.trans (swp_perm (List.getElem?_eq_some_iff.1 hp).1 (List.getElem?_eq_some_iff.1 hx).1)
  | case2 => exact List.Perm.refl _
  | case3 => exact List.Perm.refl _
  | case4 => exact List.Perm.refl _
theorem upL_len (l : List Itm) (i : Nat) : (upL l i).length = l.length := (upL_perm l i).length_eq

theorem cut_map {l : List Itm} {x : Itm} (hn : ((l ++ [x]).map Itm.n).Nodup) : upd (ixm (l ++ [x])) x.n none = ixm l ∧ (l.map Itm.n).Nodup ∧ ∀ y ∈ l, y.n ≠ x.n := by
  have h1 : (l.map Itm.n).Nodup ∧ ∀ y ∈ l, y.n ≠ x.n := by
    rw [List.map_append, List.nodup_append] at hn
    exact ⟨hn.1, fun y hy e => hn.2.2 y.n (List.mem_map.2 ⟨y, hy, rfl⟩) x.n (by simp) e⟩
  refine ⟨ixm_ext h1.1 (fun i z hz => ?_) fun n hno => ?_, h1⟩
  · rw [upd_other (h1.2 z (List.mem_of_getElem? hz))]
    exact ixm_at hn (by rw [List.getElem?_append_left (List.getElem?_eq_some_iff.1 hz).1]; exact hz)
  · by_cases e : n = x.n
    · subst e; exact upd_same _ _ _
    · rw [upd_other e, ixm_none fun z hz => ?_]
      rcases List.mem_append.1 hz with h | h
      · exact hno z h
      · simp at h; subst h; exact Ne.symm e

/-- What remove leaves: the last one in its place, and then up, and down. -/
def remL (l : List Itm) (i : Nat) : List Itm :=
  let m := (swp l i (l.length - 1)).dropLast
  if i < l.length - 1 then downL (upL m i) i else m

theorem cut_done {w3 w4 X : World} {b g c M n : Nat} {l : List Itm} {x : Itm} {added : Int} {s : Nat} (h : Q w3 b l (some ⟨g, 0, none⟩) c M added) (hn : l.length = n + 1) (hx : l[n]? = some x) (hm : IMap Try.prog 3 w4 M (upd (ixm l) x.n none) s) (hs : s = n) (hc : Chg (fun j => j = M) w3.drew w4)
    (hX : w4.setCell ⟨b, 0, none⟩ (.slice (some ⟨g, 0, none⟩) n c) = X) : Q X b l.dropLast (some ⟨g, 0, none⟩) c M added ∧ Chg (QF b (some ⟨g, 0, none⟩) M) w3 X := by
  subst hs
  have hl : l = l.dropLast ++ [x] := by
    have hne : l ≠ [] := by intro e; rw [e] at hn; simp at hn
    have hlast : l.getLast hne = x := by
      rw [List.getLast_eq_getElem]
      have := (List.getElem?_eq_some_iff.1 hx).2
      simpa [hn] using this
    rw [← hlast]
    exact (List.dropLast_concat_getLast hne).symm
  have hdl : l.dropLast.length = s := by rw [List.length_dropLast, hn]; omega
  have hmap := cut_map (l := l.dropLast) (x := x) (by rw [← hl]; exact h.nd)
  rw [← hl] at hmap
  rw [hmap.1] at hm
  obtain ⟨cur, -, hgc, hnc, -⟩ := own_row h.isIn.own
  have hMb : M ≠ b := map_ne h.isIn.mp h.isIn.blk
  have hMg : M ≠ g := map_ne h.isIn.mp (show Blk w3 g _ cur from hgc)
  have hbg : b ≠ g := fun e => own_blk_ne h.isIn.own h.isIn.blk (by decide) (by simp [Value.ownBlock, e])
  have hcX : Chg (fun j => j = b) w4 X := hX ▸ (Chg.refl (fun j => j = b) w4).setCell (p := ⟨b, 0, none⟩) (fun _ => rfl) _
  have hO := own_short h.isIn.own (m := s) (by omega)
  have hO4 := own_chg hO ((Chg.refl (fun j => j = M) w3).drew.trans hc fun _ _ e => e) (fun k hk e => hMg (by simp [Value.ownBlock] at hk; omega))
  have hOX := own_chg hO4 hcX (fun k hk e => hbg (by simp [Value.ownBlock] at hk; omega))
  have hv : (l.flatMap Itm.vals).take (s * 3) = l.dropLast.flatMap Itm.vals := by
    rw [← Itm.take_vals, List.dropLast_eq_take, hn]; simp
  rw [hv] at hOX
  refine ⟨⟨⟨?_, by rw [hdl]; exact hOX, by rw [hdl]; exact hm.chg hcX hMb⟩, hmap.2.1, fun z hz => h.ok z (by rw [hl]; simp [hz])⟩, ?_⟩
  · rw [hdl, ← hX]
    have := ((h.isIn.blk.drew).chg hc (Ne.symm hMb)).put 0 (.slice (some ⟨g, 0, none⟩) s c)
    simpa using this
  · exact Chg.trans (Chg.mono ((Chg.refl (fun j => j = M) w3).drew.trans hc fun _ _ e => e) fun _ _ e => .inr (.inl e)) hcX fun _ _ e => .inl e

set_option maxRecDepth 100000 in
set_option maxHeartbeats 1600000 in
theorem remove_any (b i : Nat) (l : List Itm) (A : Option Addr) (c M : Nat) (added : Int) (w : World) (h : Q w b l A c M added) (hi : i < l.length) (hl : l.length ≤ 1000000) :
    Calls Try.prog 58 #[.pointer (some ⟨b, 0, none⟩), .int .i64 i] w fun e w' => e = .returned (.tuple #[]) ∧ Q w' b (remL l i) A c M added ∧ Chg (QF b A M) w w' := by
  obtain ⟨g, rfl, hg⟩ := own_block h.isIn.own (by omega)
  obtain ⟨c0, f0, s0⟩ := h.isIn.blk.facts
  have e1 : IntKind.i64.wrap ((l.length : Int) - 1) = ((l.length - 1 : Nat) : Int) := by rw [show (l.length : Int) - 1 = ((l.length - 1 : Nat) : Int) by omega]; exact wrap_nat (by omega)
  have H := Lib.hid h
  clear h
  go_enter Try.func58, Try.ntmps58
  go_wp2_with fail
  refine (swap_any b i (l.length - 1) l (some ⟨g, 0, none⟩) c M added _ H.out hi (by omega) hl).mono ?_
  rintro e w3 ⟨rfl, hq3, hc3⟩
  obtain ⟨l2, hl2⟩ : ∃ l2, swp l i (l.length - 1) = l2 := ⟨_, rfl⟩
  have hlen : l2.length = l.length := by rw [← hl2]; exact swp_len _ _ _
  rw [hl2] at hq3
  obtain ⟨x, hx⟩ : ∃ x, l2[l.length - 1]? = some x := ⟨_, List.getElem?_eq_getElem (by omega)⟩
  obtain ⟨c3, f3, s3⟩ := hq3.isIn.blk.facts
  obtain ⟨g', off, hA, hgb, x0, x1, x2⟩ := (Sl.of_own hq3.isIn.own).atItm hx
  cases hA
  simp only [Nat.zero_add] at x0 x1 x2
  obtain ⟨w4, hr4, hm4, hc4⟩ := (hq3.isIn.mp.grew ((Chg.refl NoF w3).drew)).del (t := 62) kInt Try.underlying3 Try.underlying62 (hq3.ok x (List.mem_of_getElem? hx)) 0
  have t1 : (0 : Int) ≤ ((l.length - 1 : Nat) : Int) := Int.natCast_nonneg _
  have t2 : ((l.length - 1 : Nat) : Int) < (l2.length : Int) := by omega
  have HX := Lib.hid (And.intro hx (And.intro hl2 hlen))
  have HQ3 := Lib.hid (And.intro hq3 hc3)
  have HM4 := Lib.hid (And.intro hm4 hc4)
  clear hx hl2 hlen hq3 hc3 hm4 hc4 c0 f0 s0
  go_wp2_with fail
  go_region
  obtain ⟨cur, -, hgc, hnc, -⟩ := own_row HQ3.out.1.isIn.own
  have hMb : M ≠ b := map_ne HQ3.out.1.isIn.mp HQ3.out.1.isIn.blk
  have hMg : M ≠ g := map_ne HQ3.out.1.isIn.mp (show Blk w3 g _ cur from hgc)
  have hbg : b ≠ g := fun e => own_blk_ne HQ3.out.1.isIn.own HQ3.out.1.isIn.blk (by decide) (by simp [Value.ownBlock, e])
  have hb4 := (HQ3.out.1.isIn.blk.drew).chg HM4.out.2 (Ne.symm hMb)
  clear c3 f3 s3 x0 x1 x2 hgc
  obtain ⟨c4, f4, s4⟩ := hb4.facts
  have hlen := HX.out.2.2
  have t3 : ((l.length - 1 : Nat) : Int) ≤ (c : Int) := by omega
  obtain ⟨X, hX⟩ : ∃ X, w4.setCell ⟨b, 0, none⟩ (.slice (some ⟨g, 0, none⟩) (l.length - 1) c) = X := ⟨_, rfl⟩
  have hs4 : (if (ixm l2 x.n).isSome then l2.length - 1 else l2.length) = l.length - 1 := by
    rw [ixm_at HQ3.out.1.nd HX.out.1]; simp [hlen]
  obtain ⟨hqX, hcX⟩ := cut_done HQ3.out.1 (n := l.length - 1) (by omega) HX.out.1 HM4.out.1 hs4 HM4.out.2 hX
  have HW := Lib.hid hX
  have HQX := Lib.hid (And.intro hqX hcX)
  have hml : l2.dropLast.length = l.length - 1 := by rw [List.length_dropLast]; omega
  have Hml := Lib.hid hml
  clear hX hqX hcX hml hs4
  by_cases hlt : i < l.length - 1
  · have t4 : decide (i < l.length - 1) = true := decide_eq_true hlt
    go_wp2_with (first
      | (rw [HW.out])
      | (go_at_call 55; refine (up_any b i l2.dropLast (some ⟨g, 0, none⟩) c M added _ HQX.out.1 (by rw [Hml.out]; exact hlt) (by rw [Hml.out]; omega)).mono ?_; rintro e w8 ⟨rfl, hq8, hc8⟩; have HQ8 := Lib.hid (And.intro hq8 hc8); clear hq8 hc8)
      | (go_at_call 56; refine (down_any b i (upL l2.dropLast i) (some ⟨g, 0, none⟩) c M added _ HQ8.out.1 (by rw [upL_len, Hml.out]; exact hlt) (by rw [upL_len, Hml.out]; omega)).mono ?_; rintro e w9 ⟨rfl, hq9, hc9⟩; have HQ9 := Lib.hid (And.intro hq9 hc9); clear hq9 hc9))
    refine bodyPost_end (results_none rfl _ _ _) rfl ?_
    have hr : remL l i = downL (upL l2.dropLast i) i := by unfold remL; rw [HX.out.2.1, if_pos hlt]
    exact ⟨rfl, by rw [hr]; exact HQ9.out.1, Chg.trans (Chg.trans HQ3.out.2 HQX.out.2 fun _ _ e => e) (Chg.trans HQ8.out.2 HQ9.out.2 fun _ _ e => e) fun _ _ e => e⟩
  · have t4 : decide (i < l.length - 1) = false := decide_eq_false hlt
    go_wp2_with (rw [HW.out])
    refine bodyPost_end (results_none rfl _ _ _) rfl ?_
    have hr : remL l i = l2.dropLast := by unfold remL; rw [HX.out.2.1, if_neg hlt]
    have hW := HW.out
    exact ⟨rfl, by rw [hr]; (first | exact HQX.out.1 | (rw [hW]; exact HQX.out.1)), by first | exact Chg.trans HQ3.out.2 HQX.out.2 fun _ _ e => e | (rw [hW]; exact Chg.trans HQ3.out.2 HQX.out.2 fun _ _ e => e)⟩

end Go.Proofs.Ytjpkpckgkhbfpaa
