/- The rents: Stage, Drop. -/
import Derived.Test.YtjpkpckgkhbfpaaRenG
namespace Go.Proofs.Ytjpkpckgkhbfpaa
open Go.RowKit Go.Maps

/-- The stage at a tick. -/
def stageI (due now : Int) : Int := if now ≤ due then 0 else if 4398046511144 < now then 5 else min ((now - due - 1) / 10 + 1) 5

set_option maxHeartbeats 800000 in
theorem stage_any (r : Rw) (now : Int) (w : World) (h0 : 0 ≤ r.due) (h1 : r.due ≤ 4398046511104) :
    Calls Try.prog 34 #[(.agg #[.int .i64 r.house, .int .i64 r.rate, .int .i64 r.due]), .int .i64 now] w fun e w' => e = .returned (.int .i64 (stageI r.due now)) ∧ Grew w w' := by
  by_cases h2 : now ≤ r.due
  · have hv : stageI r.due now = 0 := by unfold stageI; rw [if_pos h2]
    rw [hv]
    clear hv
    go_enter Try.func34, Try.ntmps34
    go_wp2
    go_ret
    exact ⟨rfl, (Chg.refl _ _).alloc _⟩
  by_cases h3 : 4398046511144 < now
  · have hv : stageI r.due now = 5 := by unfold stageI; rw [if_neg h2, if_pos h3]
    rw [hv]
    clear hv
    go_enter Try.func34, Try.ntmps34
    go_wp2
    go_ret
    exact ⟨rfl, (Chg.refl _ _).alloc _⟩
  · have hv : stageI r.due now = min ((now - r.due - 1) / 10 + 1) 5 := by unfold stageI; rw [if_neg h2, if_neg h3]
    rw [hv]
    have g0 : 0 ≤ now - r.due - 1 := by omega
    have g1 : now - r.due - 1 ≤ 4398046511144 := by omega
    clear hv
    go_enter Try.func34, Try.ntmps34
    go_wp2
    all_goals
      go_ret
      exact ⟨congrArg (fun n : Int => Ending.returned (.int .i64 n)) (by omega), (Chg.refl _ _).alloc _⟩

set_option maxRecDepth 100000 in
set_option maxHeartbeats 800000 in
theorem rstage_none (b : Nat) (F : Nat → Prop) (x : List Rw) (k : Nat) (h now : Int) (w : World) (hs : RS w b F x k) (hh : (Lit.int .i64 h).wf = true) (hf : fnd x h = none) :
    Calls Try.prog 15 #[.pointer (some ⟨b, 0, none⟩), .int .i64 h, .int .i64 now] w fun e w' => e = .returned (.tuple #[.int .i64 0, .int .i64 14]) ∧ Grew w w' := by
  have HS := Lib.hid (And.intro hs (And.intro hh hf))
  clear hs hh hf
  go_enter Try.func15, Try.ntmps15
  go_wp2_with (go_at_call 13; refine (rget_none b F x k h w HS.out.1 HS.out.2.1 HS.out.2.2).mono ?_; rintro e w1 ⟨rfl, hg1⟩; have HG1 := Lib.hid hg1; clear hg1)
  go_ret2
  exact ⟨rfl, HG1.out.alloc _⟩
set_option maxRecDepth 100000 in
set_option maxHeartbeats 800000 in
theorem rstage_some (b : Nat) (F : Nat → Prop) (x : List Rw) (k : Nat) (h now : Int) (r : Rw) (w : World) (hs : RS w b F x k) (hh : (Lit.int .i64 h).wf = true) (hf : fnd x h = some r) :
    Calls Try.prog 15 #[.pointer (some ⟨b, 0, none⟩), .int .i64 h, .int .i64 now] w fun e w' => e = .returned (.tuple #[.int .i64 (stageI r.due now), .int .i64 0]) ∧ Grew w w' := by
  have hfit := hs.fits r (fnd_some hf).1
  have r1 := hfit.2.2.2.2.1
  have r2 := hfit.2.2.2.2.2
  have HS := Lib.hid (And.intro hs (And.intro hh hf))
  clear hs hh hf hfit
  go_enter Try.func15, Try.ntmps15
  go_wp2_with (first
    | (go_at_call 13; refine (rget_some b F x k h r w HS.out.1 HS.out.2.1 HS.out.2.2).mono ?_; rintro e w1 ⟨rfl, hg1⟩; have HG1 := Lib.hid hg1; clear hg1)
    | (go_at_call 34; refine (stage_any r now _ r1 r2).mono ?_; rintro e w2 ⟨rfl, hg2⟩; have HG2 := Lib.hid (Grew.trans (HG1.out.alloc _) hg2); clear hg2))
  go_ret2
  exact ⟨rfl, HG2.out⟩

theorem remL_perm {l : List Itm} {j : Nat} {x : Itm} (hx : l[j]? = some x) : l.Perm (x :: remL l j) := by
  have hl : j < l.length := (List.getElem?_eq_some_iff.1 hx).1
  have h2 : (swp l j (l.length - 1)).Perm l := swp_perm hl (by omega)
  have h1 := cut_split hx
  have h3 : (x :: (swp l j (l.length - 1)).dropLast).Perm l := by
    refine List.Perm.trans ?_ h2
    rw [h1]
    simpa using (List.perm_append_comm (l₁ := [x]) (l₂ := (swp l j (l.length - 1)).dropLast))
  refine h3.symm.trans (List.Perm.cons x ?_)
  unfold remL
  simp only []
  split
  · exact ((downL_perm _ _ (by rw [upL_len, List.length_dropLast, swp_len]; omega)).trans (upL_perm _ _)).symm
  · exact List.Perm.refl _

set_option maxHeartbeats 800000 in
theorem rdrop_none (b : Nat) (F : Nat → Prop) (x : List Rw) (k : Nat) (h : Int) (w : World) (hs : RS w b F x k) (hh : (Lit.int .i64 h).wf = true) (hf : fnd x h = none) :
    Calls Try.prog 33 #[.pointer (some ⟨b, 0, none⟩), .int .i64 h] w fun e w' => e = .returned (.int .i64 14) ∧ w = w' := by
  obtain ⟨R, T, qb, l, A, c, M, added, hin, hp, hkk, hF, hlt, hfit⟩ := hs
  have hl := hin.ats.look_ok (t := 62) kInt Try.underlying3 Try.underlying62 (zInt _) hh
  rw [atm_none (hp.no hf)] at hl
  simp only [Option.getD_none, Option.isSome_none] at hl
  obtain ⟨c0, f0, s0⟩ := hin.blk.facts
  clear hin hp hkk hF hlt hfit hf
  go_enter Try.func33, Try.ntmps33
  go_wp2
  go_ret
  exact ⟨rfl, rfl⟩

set_option maxHeartbeats 1600000 in
theorem rdrop_some (b : Nat) (F : Nat → Prop) (x : List Rw) (k : Nat) (h : Int) (r : Rw) (w : World) (hs : RS w b F x k) (hk : k ≤ 900000) (hh : (Lit.int .i64 h).wf = true) (hf : fnd x h = some r) :
    Calls Try.prog 33 #[.pointer (some ⟨b, 0, none⟩), .int .i64 h] w fun e w' => e = .returned (.int .i64 0) ∧ RTo w w' b F (dropL x h) k := by
  obtain ⟨R, T, qb, l, A, c, M, added, hin, hp, hkk, hF, hlt, hfit⟩ := hs
  have hrh := (fnd_some hf).2
  obtain ⟨j, i, hj, hv, hd⟩ := hp.has hf
  have hl := hin.ats.look_ok (t := 62) kInt Try.underlying3 Try.underlying62 (zInt _) hh
  have hat : atm l h = some (.int .i64 i.n) := by rw [← hv]; exact atm_mem hp.nv (List.mem_of_getElem? hj)
  rw [hat] at hl
  simp only [Option.getD_some, Option.isSome_some] at hl
  obtain ⟨c0, f0, s0⟩ := hin.blk.facts
  obtain ⟨w1, hr1, hm1, hc1⟩ := hin.ats.del (t := 62) kInt Try.underlying3 Try.underlying62 hh 0
  have hin1 := hin.put_at hc1 hm1
  obtain ⟨c1, f1, s1⟩ := hin1.blk.facts
  obtain ⟨w2, hr2, hm2, hc2⟩ := hin1.rows.del (t := 59) kInt Try.underlying3 Try.underlying59 hh 0
  have hin2 := hin1.put_row hc2 hm2
  obtain ⟨c2, f2, s2⟩ := hin2.blk.facts
  have hlen : l.length ≤ 1000000 := by rw [hp.len]; omega
  have H2 := Lib.hid (And.intro hin2 (And.intro hc1 (And.intro hc2 (And.intro hp (And.intro hat (And.intro hj (And.intro hv (And.intro hd hrh))))))))
  have HJ := Lib.hid (And.intro hf (And.intro hkk (And.intro hF (And.intro hlt hfit))))
  clear hin2 hin1 hm1 hm2 hc1 hc2 hin hp hat hj hv hd hf hkk hF hlt hfit hrh
  go_enter Try.func33, Try.ntmps33
  go_wp2_with (go_at_call 46; refine (cancel_some qb j i l A c M added _ H2.out.1.q H2.out.2.2.2.2.2.1 hlen).mono ?_; rintro e w3 ⟨rfl, hq3, hc3⟩; have HQ3 := Lib.hid (And.intro hq3 hc3); clear hq3 hc3)
  go_ret
  obtain ⟨hin2, hc1, hc2, hp, hat, hj, hv, hd, hrh⟩ := H2.out
  obtain ⟨hf, hkk, hF, hlt, hfit⟩ := HJ.out
  obtain ⟨hq3, hc3⟩ := HQ3.out
  have hin3 := hin2.queue hc3 hq3
  subst hrh
  have hpr : l.Perm (i :: remL l j) := remL_perm hj
  · obtain ⟨hp3, hat3⟩ := hp.drop hf hv hd hpr
    have hs1 : (if (atm l r.house).isSome then l.length - 1 else l.length) = (remL l j).length := by rw [hat]; have := hpr.length_eq; simp at this; simp; omega
    have hrow : (rwm x r.house).isSome = true := by unfold rwm; rw [hf]; rfl
    have hxl : x.length = (dropL x r.house).length + 1 := (dropL_perm hp.nd (fnd_some hf).1).length_eq
    have hs2 : (if (rwm x r.house).isSome then x.length - 1 else x.length) = (dropL x r.house).length := by rw [if_pos hrow]; omega
    rw [hat3, rwm_dropL r.house hp.nd, hs1, hs2] at hin3
    refine ⟨rfl, rput_end (A0 := A) hin3 rfl rfl hp3 ⟨hkk.1, hkk.2.1, by omega⟩ ?_ (fun j hj => .inl hj) hF hlt fun z hz => hfit z ?_⟩
    · exact Chg.trans (Chg.trans (hc1.mono fun _ _ e => .inr (.inr (.inl e))) hc2 fun _ _ e => .inr (.inl e)) hc3 fun _ _ e => .inr (.inr (.inr e))
    · simp only [dropL, List.mem_filter] at hz; exact hz.1

end Go.Proofs.Ytjpkpckgkhbfpaa
