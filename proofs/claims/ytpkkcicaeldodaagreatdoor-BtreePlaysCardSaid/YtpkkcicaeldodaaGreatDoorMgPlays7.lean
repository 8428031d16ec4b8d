/- BtreePlays returns true, for every input. It has no condition; the table of math/bits that its row lists is tied to the program. -/
import Derived.Test.YtpkkcicaeldodaaGreatDoorMgPlays6
import Derived.Test.YtpkkcicaeldodaaGreatDoorRows
import Derived.Test.YtpkkcicaeldodaaGreatDoorTie
import Derived.Test.YtpkkcicaeldodaaGreatDoorCards
import Derived.Lib.LaidTab
import Derived.LaidLaws
import Derived.LaidHandle
import Derived.SevenTiedAt
import Derived.ProofKit
import Derived.OpenShut
import Derived.ShutString
import Derived.ChangeOld
import Derived.Deep.Slices
import Derived.Deep.Fields
set_option linter.unusedSimpArgs false
set_option linter.unusedVariables false

namespace Go.Proofs.YtpkkcicaeldodaaGreatDoor
open Go.RowKit Go.Maps

def sM (l : List Nat) : Int → Option Value := fun i => if 0 ≤ i ∧ i.toNat ∈ l then some (.int .i64 1) else none
theorem zIntB (w : World) : (zeroValue 3).run Tryz.prog w = .ok (.int .i64 0) w := by kernel_rfl
theorem sM_nil : sM [] = fun _ => none := by funext i; simp [sM]
theorem sM_at (l : List Nat) (k : Nat) : sM l (k : Int) = if k ∈ l then some (.int .i64 1) else none := by unfold sM; simp
theorem sM_more (l : List Nat) (k : Nat) : upd (sM l) (k : Int) (some (.int .i64 1)) = sM (l ++ [k]) := by
 funext i
 by_cases h : i = (k : Int)
 ·subst h; rw [upd_same, sM_at]; simp
 ·rw [upd_other h]
  unfold sM
  by_cases h0 : 0 ≤ i
  ·have : i.toNat ≠ k := by omega
   simp [h0, this]
  ·simp [h0]
def BP (W : World) (F : Nat → Prop) (sb : Nat) (v : Value) : Option Int → Prop
 | none => v = .pointer none
 | some k => ∃ a, v = .pointer (some a) ∧ W.cell? a = some (.int .i64 k) ∧ a.block < W.heap.size ∧ ¬ F a.block ∧ a.block ≠ sb
theorem BP.chg {W W' : World} {F : Nat → Prop} {sb : Nat} {v : Value} {o : Option Int} (h : BP W F sb v o) (hc : Chg (fun j => F j ∨ j = sb) W W') : BP W' F sb v o := by
 cases o with
 | none => exact h
 | some k =>
  obtain ⟨a, h1, h2, h3, h4, h5⟩ := h
  exact ⟨a, h1, (hc.cell h3 (fun e => e.elim h4 h5)).trans h2, Nat.lt_of_lt_of_le h3 hc.size, h4, h5⟩
def LkOut (w w' : World) (t p root sb : Nat) (F : Nat → Prop) (x : Rp) (d : Nat) (S : List Nat) (e : Ending) : Prop :=
 e = .returned (.tuple #[.int .i64 d, .bool true]) ∧ BT w' t p root F x ∧ IMap Tryz.prog 3 w' sb (sM S) S.length ∧ Chg (fun j => F j ∨ j = sb) w w'
structure LkJ (w3 W : World) (t p root sb b q d : Nat) (nd : Nd) (F : Nat → Prop) (x : Rp) (lo hi : Option Int) (S0 PM : List Nat) (i : Nat) (L : List KV) (P S : List Nat) : Prop where
 bt : BT W t p root F x
 mp : IMap Tryz.prog 3 W sb (sM S) S.length
 rest : Rest x.nd (halfN x.sz) d nd i L P
 srt : Srt L
 pg : S0 ++ PM = S ++ P
 pre : ∃ Z, S = S0 ++ q :: Z
 lb : ∀ y ∈ L, ∀ k, (if i = 0 then lo else nd.keys[i - 1]?) = some k → k < y.1
 ub : ∀ y ∈ L, ∀ k, hi = some k → y.1 < k
 chg : Chg (fun j => F j ∨ j = sb) w3 W
set_option maxRecDepth 100000 in
set_option maxHeartbeats 6400000 in
theorem blook_any (t p root sb : Nat) (F : Nat → Prop) (x : Rp) (hsb : ¬ F sb ∧ sb ≠ t ∧ sb ≠ 0) :
  ∀ (d q : Nat) (M : List KV) (PM S : List Nat) (lo hi : Option Int) (vlo vhi : Value) (deep : Nat) (w : World), Tr x.nd (halfN x.sz) d q M PM → ((q = root) ∨ (root ∉ PM ∧ halfN x.sz - 1 ≤ nk x.nd q)) → (S ++ PM).Nodup → (S ++ PM).length ≤ 100000 → Srt M → (∀ y ∈ M, ∀ k, lo = some k → k < y.1) → (∀ y ∈ M, ∀ k, hi = some k → y.1 < k) →
   BP w F sb vlo lo → BP w F sb vhi hi → deep + d ≤ 40 → BT w t p root F x → IMap Tryz.prog 3 w sb (sM S) S.length →
   Calls Tryz.prog 47 #[.pointer (some ⟨t, 0, none⟩), .int .i64 q, .int .i64 deep, vlo, vhi, .map (some sb)] w fun e w' => LkOut w w' t p root sb F x d (S ++ PM) e := by
 intro d
 induction d using Nat.strongRecOn with
 | ind d ih =>
 intro q M PM S lo hi vlo vhi deep w ht hq hnp hsl hs hlo hhi hvlo hvhi hdp hb hmp
 obtain ⟨nd, hnd, hvl, hmx, hdz⟩ := ht.node
 obtain ⟨cp, cp1, cp2, cp3⟩ := Rp.nd_some hnd
 have hft := hb.gp.fit hnd
 have hkl : nd.keys.length ≤ 300 := by have h1 := hft.1.most; have h2 := hb.gp.szs; unfold mostN at h1; omega
 have hld := bload_any t p root q F x cp nd w hb cp1 cp2 cp3
 have hks := ht.keys hnd hs
 have hq4 : q < 4096 := by have h1 := (List.getElem?_eq_some_iff.1 cp1).1; have := hb.gp.szs; omega
 have h2h := half_two hb.gp.szs.2.2.1
 have h3h : halfN x.sz ≤ 300 := by have := hb.gp.szs; unfold halfN mostN; omega
 have hqS : q ∉ S := fun e => (List.nodup_append.1 hnp).2.2 q e q ht.root_mem rfl
 have hsub : nd.kvs.Sublist M := by
  cases d with
  | zero => obtain ⟨nd', g1, -, -, -, g5, -⟩ := ht; rw [hnd] at g1; cases g1; rw [g5]; exact List.Sublist.refl _
  | succ d => obtain ⟨nd', P', g1, -, -, -, g5, -⟩ := ht; rw [hnd] at g1; cases g1; exact g5.sub
 have hklo : ∀ a ∈ nd.keys, ∀ k, lo = some k → k < a := fun a ha k hk => by
  rw [← kvs_keys hvl] at ha
  obtain ⟨y, hy, rfl⟩ := List.mem_map.1 ha
  exact hlo y (hsub.subset hy) k hk
 have hkhi : ∀ a ∈ nd.keys, ∀ k, hi = some k → a < k := fun a ha k hk => by
  rw [← kvs_keys hvl] at ha
  obtain ⟨y, hy, rfl⟩ := List.mem_map.1 ha
  exact hhi y (hsub.subset hy) k hk
 have hsbl : sb < w.heap.size := hmp.lt
 have H := Lib.hid (And.intro ht (And.intro hq (And.intro hnp (And.intro hsl (And.intro hs (And.intro hlo (And.intro hhi (And.intro hvlo (And.intro hvhi (And.intro hb (And.intro hmp (And.intro hnd (And.intro hft (And.intro hks (And.intro hld (And.intro hqS (And.intro hklo (And.intro hkhi hvl))))))))))))))))))
 have HX := Lib.hid (And.intro hmx (And.intro hdz (And.intro hsb hsub)))
 have IH := Lib.hid ih
 have hdp1 : deep ≤ 40 := by omega
 have t0 : decide ((40 : Int) < (deep : Int)) = false := decide_eq_false (by omega)
 have hmm := @run_makeMap Tryz.prog
 clear ih ht hq hnp hsl hs hlo hhi hvlo hvhi hb hmp hnd hft hks hld hqS hklo hkhi hvl hmx hdz hsub cp1 cp2 cp3
 go_enter Tryz.func47, Tryz.ntmps47
 go_wp2_with fail
 refine H.out.2.2.2.2.2.2.2.2.2.2.2.2.2.2.1.mono ?_
 rintro e w2 ⟨b, N, rfl, hn2, hN2, hbt2, hc2⟩
 have hM2 := H.out.2.2.2.2.2.2.2.2.2.2.1.chg hc2 HX.out.2.2.1.1
 have hlk := hM2.look (t := 88) kInt Tryz.underlying3 Tryz.underlying88 (zIntB w2) (i := (q : Int)) (wfInt (by omega) (by omega))
 rw [sM_at, if_neg H.out.2.2.2.2.2.2.2.2.2.2.2.2.2.2.2.1] at hlk
 simp only [Option.getD_none] at hlk
 obtain ⟨W3, hput, hM3, hc3⟩ := hM2.put (t := 88) kInt Tryz.underlying3 Tryz.underlying88 (by have h9 := H.out.2.2.2.1; rw [List.length_append] at h9; simp only [maxLen]; omega) (i := (q : Int)) (wfInt (by omega) (by omega)) (.int .i64 1)
 rw [sM_more, sM_at, if_neg H.out.2.2.2.2.2.2.2.2.2.2.2.2.2.2.2.1] at hM3
 simp only [Option.isSome_none, Bool.false_eq_true, if_false] at hM3
 have hlt3 := hbt2.gp.lt
 have hsb := HX.out.2.2.1
 have hbt3 : BT W3 t p root F x := hbt2.chg hc3 (fun j hj e => hsb.1 (e ▸ hj)) (fun e => hsb.2.2 e.symm) (fun e => hsb.2.1 e.symm)
 have hn3 : NdOwn W3 N b q nd := hn2.chg hc3 fun j hj e => by have := hN2 j hj; omega
 have hcW : Chg (fun j => F j ∨ j = sb) w W3 := Chg.trans (hc2.mono fun j _ e => .inl e) hc3 fun j _ e => .inr e
 have hNa : ∀ j, N j → ¬ F j ∧ j ≠ sb ∧ j < W3.heap.size := fun j hj => ⟨fun e => by have := hN2 j hj; have := H.out.2.2.2.2.2.2.2.2.2.1.gp.lt j e; omega, by have := hN2 j hj; omega, hn3.at.lt j hj⟩
 have hhf := bhalf_any t p root F x
 have hM3' : IMap Tryz.prog 3 W3 sb (sM (S ++ [q])) (S ++ [q]).length := by simpa using hM3
 have H3 := Lib.hid (And.intro hbt3 (And.intro hn3 (And.intro hcW (And.intro hNa (And.intro hhf hM3')))))
 obtain ⟨c3, f3, s3⟩ := hbt3.blk.facts
 obtain ⟨Ak, ck, Av, cv, Ac, cc, bB, sK, sV, sC, nb, nK, nV, nC, -⟩ := hn3.at
 obtain ⟨c0, f0, s0⟩ := bB.facts
 have HB := Lib.hid (And.intro bB (And.intro sK (And.intro sC (And.intro nb (And.intro nK nC)))))
 clear hn2 hN2 hbt2 hc2 hM2 hM3 hc3 hlt3 hbt3 hn3 hcW hNa hhf hM3' bB sK sV sC nb nK nV nC hmm hsb
 have hmx := HX.out.1
 have w1 : wrap64 (wrap64 (2 * (halfN x.sz : Int)) - 1) = 2 * (halfN x.sz : Int) - 1 := by rw [IntWalk.wrap64_in (2 * (halfN x.sz : Int)) ⟨by omega, by omega⟩, IntWalk.wrap64_in _ ⟨by omega, by omega⟩]
 have u3 : decide (wrap64 (wrap64 (2 * (halfN x.sz : Int)) - 1) < (nd.keys.length : Int)) = false := by rw [w1]; exact decide_eq_false (by omega)
 by_cases hqr : q = root
 case' neg =>
  have tq : ((q : Int) == (root : Int)) = false := by simp; omega
  have hnk : halfN x.sz - 1 ≤ nd.keys.length := by
   have := (H.out.2.1.resolve_left hqr).2
   rwa [nk_eq H.out.2.2.2.2.2.2.2.2.2.2.2.1] at this
  have u1 : decide ((nd.keys.length : Int) < (halfN x.sz : Int) - 1) = false := decide_eq_false (by omega)
  have u2 : decide (2 * (halfN x.sz : Int) - 1 < (nd.keys.length : Int)) = false := decide_eq_false (by omega)
  have Hq := Lib.hid hqr
  clear hqr
 case' pos =>
  have tq : ((q : Int) == (root : Int)) = true := by simp [hqr]
  by_cases h0 : nd.kids.length = 0
  case' pos =>
   have Hq := Lib.hid (And.intro hqr h0)
   have h0' : nd.kids = [] := List.eq_nil_of_length_eq_zero h0
   clear hqr
   rw [h0] at c0
   have m1 : min (0 : Int) 1 = 0 := rfl
   have u0 : decide ((nd.keys.length : Int) < min (0 : Int) 1) = false := decide_eq_false (by omega)
   have u1 : decide ((nd.keys.length : Int) < (0 : Int)) = false := decide_eq_false (by omega)
   have u2 : decide (2 * (halfN x.sz : Int) - 1 < (nd.keys.length : Int)) = false := decide_eq_false (by omega)
   clear h0 h0'
  case' neg =>
   have hl1 : 1 ≤ nd.keys.length := by
    cases d with
    | zero => exact absurd (HX.out.2.1.2 rfl) h0
    | succ d => obtain ⟨nd', P', g1, -, -, g4, -⟩ := H.out.1; rw [H.out.2.2.2.2.2.2.2.2.2.2.2.1] at g1; cases g1; exact g4
   have hk1 : 1 ≤ nd.kids.length := by omega
   have m1 : min (nd.kids.length : Int) 1 = 1 := by omega
   have u0 : decide ((nd.keys.length : Int) < min (nd.kids.length : Int) 1) = false := decide_eq_false (by omega)
   have u1 : decide ((nd.keys.length : Int) < (1 : Int)) = false := decide_eq_false (by omega)
   have u2 : decide (2 * (halfN x.sz : Int) - 1 < (nd.keys.length : Int)) = false := decide_eq_false (by omega)
   have Hq := Lib.hid (And.intro hqr h0)
   clear hqr h0
 all_goals
  go_wp2_with fail
  refine (H3.out.2.2.2.2.1 W3 H3.out.1).mono ?_
  rintro e w4 ⟨rfl, rfl⟩
  go_wp2_with fail
  go_quiet ((go_at_call 71; exact Calls.quiet_of_same ((H3.out.2.2.2.2.1 _ (H3.out.1.grew ((Chg.refl _ _).drewN _))).mono fun _ _ h => ⟨h.1, h.2.symm⟩)))
  go_wp2_with fail

  obtain ⟨W4, hW4⟩ : ∃ W, W3.drewN nq = W := ⟨_, rfl⟩
  rw [hW4]
  have hg4 : Grew W3 W4 := hW4 ▸ (Chg.refl NoF W3).drewN nq
  have hk4 := HB.out.2.1.grew hg4
  have hc4 : Chg (fun j => F j ∨ j = sb) w W4 := H3.out.2.2.1.grew hg4
  have H4 := Lib.hid (And.intro hg4 (And.intro hk4 (And.intro hc4 (And.intro (H.out.2.2.2.2.2.2.2.1.chg hc4) (H.out.2.2.2.2.2.2.2.2.1.chg hc4)))))
  clear hg4 hk4 hc4 hW4
  go_loopg [87] (nd.keys.length) (fun n iv wr => ∃ i : Nat, n = nd.keys.length - i ∧ i ≤ nd.keys.length ∧ iv = .int .i64 i ∧ wr = W4)
  case atStart => exact ⟨0, by simp, Nat.zero_le _, rfl, rfl⟩
  case round =>
   obtain ⟨i, rfl, hil, rfl, hwr⟩ := hrel
   replace hwr := hwr.symm
   subst hwr
   by_cases hlt : i < nd.keys.length
   ·obtain ⟨a, ha⟩ : ∃ a, nd.keys[i]? = some a := ⟨_, List.getElem?_eq_getElem hlt⟩
    obtain ⟨gk, ok, rfl, hgk, hxk⟩ := H4.out.2.1.2 (by omega)
    have hck : W4.cell? ⟨gk, ok + i, none⟩ = some (.int .i64 a) := hxk i _ (by simp [iv, ha])
    have hall := H.out.2.2.2.2.2.2.2.2.2.2.2.2.2.2.2.2.1 a (List.mem_of_getElem? ha)
    have hahi := H.out.2.2.2.2.2.2.2.2.2.2.2.2.2.2.2.2.2.1 a (List.mem_of_getElem? ha)
    have hpl := H4.out.2.2.2.1
    have hph := H4.out.2.2.2.2
    have hcb := (HB.out.1.grew H4.out.1).cell 1
    have hi2 : (i : Int) < (nd.keys.length : Int) := by omega
    cases lo with
    | none =>
     obtain rfl : vlo = .pointer none := hpl
     cases hi with
     | none =>
      obtain rfl : vhi = .pointer none := hph
      by_cases hz : i = 0
      ·obtain rfl : i = 0 := hz
       rw [Nat.add_zero] at hck
       clear hall hahi hxk hgk
       go_wp2_with fail
       go_roundg (nd.keys.length - (0 + 1))
       case measure => omega
       case rel => exact ⟨0 + 1, rfl, by omega, by simp, rfl⟩
      ·obtain ⟨j, rfl⟩ : ∃ j, i = j + 1 := ⟨i - 1, by omega⟩
       obtain ⟨a', ha'⟩ : ∃ a', nd.keys[j]? = some a' := ⟨_, List.getElem?_eq_getElem (by omega)⟩
       have hck' : W4.cell? ⟨gk, ok + j, none⟩ = some (.int .i64 a') := hxk j _ (by simp [iv, ha'])
       have hlt' : a' < a := by
        obtain ⟨p1, e1⟩ := List.getElem?_eq_some_iff.1 ha
        obtain ⟨p2, e2⟩ := List.getElem?_eq_some_iff.1 ha'
        have := List.pairwise_iff_getElem.1 H.out.2.2.2.2.2.2.2.2.2.2.2.2.2.1 j (j + 1) p2 p1 (by omega)
        rw [e1, e2] at this
        exact this
       have t9 : decide (a ≤ a') = false := decide_eq_false (by omega)
       clear hall hahi hxk hgk ha' hlt'
       go_wp2_with fail
       go_roundg (nd.keys.length - ((j + 1) + 1))
       case measure => omega
       case rel => exact ⟨(j + 1) + 1, rfl, by omega, by simp, rfl⟩
     | some kh =>
      obtain ⟨ah, rfl, hch, -⟩ := hph
      have t8 : decide (kh ≤ a) = false := decide_eq_false (by have := hahi kh rfl; omega)
      by_cases hz : i = 0
      ·obtain rfl : i = 0 := hz
       rw [Nat.add_zero] at hck
       clear hall hahi hxk hgk
       go_wp2_with fail
       go_roundg (nd.keys.length - (0 + 1))
       case measure => omega
       case rel => exact ⟨0 + 1, rfl, by omega, by simp, rfl⟩
      ·obtain ⟨j, rfl⟩ : ∃ j, i = j + 1 := ⟨i - 1, by omega⟩
       obtain ⟨a', ha'⟩ : ∃ a', nd.keys[j]? = some a' := ⟨_, List.getElem?_eq_getElem (by omega)⟩
       have hck' : W4.cell? ⟨gk, ok + j, none⟩ = some (.int .i64 a') := hxk j _ (by simp [iv, ha'])
       have hlt' : a' < a := by
        obtain ⟨p1, e1⟩ := List.getElem?_eq_some_iff.1 ha
        obtain ⟨p2, e2⟩ := List.getElem?_eq_some_iff.1 ha'
        have := List.pairwise_iff_getElem.1 H.out.2.2.2.2.2.2.2.2.2.2.2.2.2.1 j (j + 1) p2 p1 (by omega)
        rw [e1, e2] at this
        exact this
       have t9 : decide (a ≤ a') = false := decide_eq_false (by omega)
       clear hall hahi hxk hgk ha' hlt'
       go_wp2_with fail
       go_roundg (nd.keys.length - ((j + 1) + 1))
       case measure => omega
       case rel => exact ⟨(j + 1) + 1, rfl, by omega, by simp, rfl⟩
    | some kl =>
     obtain ⟨al, rfl, hcl, -⟩ := hpl
     have t7 : decide (a ≤ kl) = false := decide_eq_false (by have := hall kl rfl; omega)
     cases hi with
     | none =>
      obtain rfl : vhi = .pointer none := hph
      by_cases hz : i = 0
      ·obtain rfl : i = 0 := hz
       rw [Nat.add_zero] at hck
       clear hall hahi hxk hgk
       go_wp2_with fail
       go_roundg (nd.keys.length - (0 + 1))
       case measure => omega
       case rel => exact ⟨0 + 1, rfl, by omega, by simp, rfl⟩
      ·obtain ⟨j, rfl⟩ : ∃ j, i = j + 1 := ⟨i - 1, by omega⟩
       obtain ⟨a', ha'⟩ : ∃ a', nd.keys[j]? = some a' := ⟨_, List.getElem?_eq_getElem (by omega)⟩
       have hck' : W4.cell? ⟨gk, ok + j, none⟩ = some (.int .i64 a') := hxk j _ (by simp [iv, ha'])
       have hlt' : a' < a := by
        obtain ⟨p1, e1⟩ := List.getElem?_eq_some_iff.1 ha
        obtain ⟨p2, e2⟩ := List.getElem?_eq_some_iff.1 ha'
        have := List.pairwise_iff_getElem.1 H.out.2.2.2.2.2.2.2.2.2.2.2.2.2.1 j (j + 1) p2 p1 (by omega)
        rw [e1, e2] at this
        exact this
       have t9 : decide (a ≤ a') = false := decide_eq_false (by omega)
       clear hall hahi hxk hgk ha' hlt'
       go_wp2_with fail
       go_roundg (nd.keys.length - ((j + 1) + 1))
       case measure => omega
       case rel => exact ⟨(j + 1) + 1, rfl, by omega, by simp, rfl⟩
     | some kh =>
      obtain ⟨ah, rfl, hch, -⟩ := hph
      have t8 : decide (kh ≤ a) = false := decide_eq_false (by have := hahi kh rfl; omega)
      by_cases hz : i = 0
      ·obtain rfl : i = 0 := hz
       rw [Nat.add_zero] at hck
       clear hall hahi hxk hgk
       go_wp2_with fail
       go_roundg (nd.keys.length - (0 + 1))
       case measure => omega
       case rel => exact ⟨0 + 1, rfl, by omega, by simp, rfl⟩
      ·obtain ⟨j, rfl⟩ : ∃ j, i = j + 1 := ⟨i - 1, by omega⟩
       obtain ⟨a', ha'⟩ : ∃ a', nd.keys[j]? = some a' := ⟨_, List.getElem?_eq_getElem (by omega)⟩
       have hck' : W4.cell? ⟨gk, ok + j, none⟩ = some (.int .i64 a') := hxk j _ (by simp [iv, ha'])
       have hlt' : a' < a := by
        obtain ⟨p1, e1⟩ := List.getElem?_eq_some_iff.1 ha
        obtain ⟨p2, e2⟩ := List.getElem?_eq_some_iff.1 ha'
        have := List.pairwise_iff_getElem.1 H.out.2.2.2.2.2.2.2.2.2.2.2.2.2.1 j (j + 1) p2 p1 (by omega)
        rw [e1, e2] at this
        exact this
       have t9 : decide (a ≤ a') = false := decide_eq_false (by omega)
       clear hall hahi hxk hgk ha' hlt'
       go_wp2_with fail
       go_roundg (nd.keys.length - ((j + 1) + 1))
       case measure => omega
       case rel => exact ⟨(j + 1) + 1, rfl, by omega, by simp, rfl⟩
   ·obtain rfl : i = nd.keys.length := by omega
    obtain ⟨c1', c2', c3'⟩ : True ∧ True ∧ True := ⟨trivial, trivial, trivial⟩
    clear hlt c1' c2' c3'
    have hn4 := H3.out.2.1.grew H4.out.1
    have hb4 := H3.out.1.grew H4.out.1
    have hstart : ∃ A L0 P0, M = A ++ L0 ∧ PM = q :: P0 ∧ Rest x.nd (halfN x.sz) d nd 0 L0 P0 := by
     cases d with
     | zero =>
      obtain ⟨nd', g1, g2, g3, g4, g5, g6⟩ := H.out.1
      rw [H.out.2.2.2.2.2.2.2.2.2.2.2.1] at g1
      cases g1
      exact ⟨[], M, [], rfl, g6, .inl ⟨Nat.zero_le _, fun _ => ⟨by rw [g5]; rfl, rfl⟩, fun d' e => by omega⟩⟩
     | succ d =>
      obtain ⟨nd', P', g1, g2, g3, g4, g5, g6⟩ := H.out.1
      rw [H.out.2.2.2.2.2.2.2.2.2.2.2.1] at g1
      cases g1
      exact ⟨[], M, P', rfl, g6, .inl ⟨Nat.zero_le _, fun e => by omega, fun d' e => by cases e; exact g5⟩⟩
    obtain ⟨A0, L0, P0, r1, r2, r3⟩ := hstart
    have hsL : Srt L0 := H.out.2.2.2.2.1.sub (by rw [r1]; exact List.sublist_append_right _ _)
    have hJ0 : LkJ W4 W4 t p root sb b q d nd F x lo hi S PM 0 L0 P0 (S ++ [q]) := ⟨hb4, H3.out.2.2.2.2.2.chg H4.out.1 id, r3, hsL, by rw [r2]; simp, ⟨[], rfl⟩, fun y hy k hk => H.out.2.2.2.2.2.1 y (by rw [r1]; exact List.mem_append_right _ hy) k (by simpa using hk), fun y hy k hk => H.out.2.2.2.2.2.2.1 y (by rw [r1]; exact List.mem_append_right _ hy) k hk, Chg.refl _ _⟩
    have hMi : ∀ y ∈ L0, y ∈ M := fun y hy => by rw [r1]; exact List.mem_append_right _ hy
    have HJ0 := Lib.hid (And.intro hJ0 (And.intro hn4 r2))
    obtain ⟨Ak5, ck5, Av5, cv5, Ac5, cc5, bB5, sK5, -, sC5, -⟩ := hn4.at
    clear hn4 hb4 r1 r2 r3 hsL hJ0 hMi bB5 sK5 sC5
    have hcb := (HB.out.1.grew H4.out.1).cell 3
    go_wp2_with fail
    go_loopg [19, 134] (nd.kids.length) (fun n bl iv wr => ∃ (i : Nat) (L' : List KV) (P' S' : List Nat) (bv : Int), n = nd.kids.length - i ∧ i ≤ nd.kids.length ∧ bl = .int .i64 bv ∧ iv = .int .i64 i ∧ (i = 0 → bv = -1) ∧ (0 < i → bv = (d : Int) - 1) ∧ LkJ W4 wr t p root sb b q d nd F x lo hi S PM i L' P' S')
    case atStart => exact ⟨0, L0, P0, S ++ [q], -1, by simp, Nat.zero_le _, rfl, rfl, fun _ => rfl, fun h => by omega, HJ0.out.1⟩
    case round =>
     obtain ⟨i, L', P', S', bv, rfl, hil, rfl, rfl, hbv0, hbv1, hJ⟩ := hrel
     have HJ := Lib.hid hJ
     clear hJ hcb
     by_cases hlt : i < nd.kids.length
     ·obtain ⟨d', rfl⟩ : ∃ d', d = d' + 1 := ⟨d - 1, by have hd0 : d ≠ 0 := (fun e => by have := HX.out.2.1.2 e; omega); omega⟩
      have hcl : nd.kids.length = nd.keys.length + 1 := H.out.2.2.2.2.2.2.2.2.2.2.2.2.1.1.kids.resolve_left (by omega)
      have hvl' := H.out.2.2.2.2.2.2.2.2.2.2.2.2.2.2.2.2.2.2
      have hk1 : 1 ≤ nd.keys.length := by
       obtain ⟨nd', P1, g1, -, -, g4, -⟩ := H.out.1
       rw [H.out.2.2.2.2.2.2.2.2.2.2.2.1] at g1
       cases g1
       exact g4
      by_cases hz : i = 0
      ·obtain rfl : i = 0 := hz
       have hbv : bv = -1 := hbv0 rfl
       subst hbv
       clear hbv0 hbv1
       obtain ⟨c, M1, Q, a, v, L2, P2, hci, hTc, ha, hv, hmem, hL2, hP2, hrest2⟩ := HJ.out.rest.inner hvl' hcl (by omega)
       have hsr := HJ.out.srt
       rw [hL2] at hsr
       obtain ⟨q1, q2, q3⟩ := srt_app.1 hsr
       obtain ⟨q4, q5⟩ := List.pairwise_cons.1 q2
       have hsr2 : Srt L2 := q5
       have hlb2 : ∀ y ∈ L2, ∀ k, (if 0 + 1 = 0 then lo else nd.keys[0 + 1 - 1]?) = some k → k < y.1 := fun y hy k hk => by
        rw [if_neg (by omega), Nat.add_sub_cancel, ha] at hk
        cases hk
        exact q4 y hy
       have hub2 : ∀ y ∈ L2, ∀ k, hi = some k → y.1 < k := fun y hy k hk => HJ.out.ub y (by rw [hL2]; exact List.mem_append_right _ (List.mem_cons_of_mem _ hy)) k hk
       have hup : ∀ y ∈ M1, ∀ k, some a = some k → y.1 < k := fun y hy k hk => by cases hk; exact q3 y hy (a, v) List.mem_cons_self
       have hsM1 : Srt M1 := q1
       have hmm1 : ∀ y ∈ M1, y ∈ L' := fun y hy => by rw [hL2]; exact List.mem_append_left _ hy
       clear hsr q1 q2 q3 q4 q5 hmem hv
       have hNc : ∀ j, N j → ¬ (F j ∨ j = sb) := fun j hj e => e.elim (H3.out.2.2.2.1 j hj).1 (H3.out.2.2.2.1 j hj).2.1
       have hWc : Chg (fun j => F j ∨ j = sb) W3 wr := Grew.then H4.out.1 HJ.out.chg
       have hb5 := HB.out.1.chg hWc (hNc _ HB.out.2.2.2.1)
       obtain ⟨gc, oc, rfl, hgc, hxc⟩ := HB.out.2.2.1.2 (by omega)
       have hcc : wr.cell? ⟨gc, oc + 0, none⟩ = some (.int .i64 c) := (hWc.cell (p := ⟨gc, oc + 0, none⟩) hgc (hNc _ (HB.out.2.2.2.2.2 ⟨gc, oc, none⟩ rfl))).trans (hxc (0) _ (by simp [nv, hci]))
       obtain ⟨gk, ok, rfl, hgk, hxk⟩ := HB.out.2.1.2 (by omega)
       have hNk := HB.out.2.2.2.2.1 ⟨gk, ok, none⟩ rfl
       have hkp : ∀ (m : Nat) (z : Int), nd.keys[m]? = some z → BP wr F sb (.pointer (some ⟨gk, ok + m, none⟩)) (some z) := fun m z hz => ⟨_, rfl, (hWc.cell (p := ⟨gk, ok + m, none⟩) hgk (hNc _ hNk)).trans (hxk m _ (by simp [iv, hz])), Nat.lt_of_lt_of_le hgk hWc.size, (H3.out.2.2.2.1 gk hNk).1, (H3.out.2.2.2.1 gk hNk).2.1⟩
       obtain ⟨Z, hZ⟩ := HJ.out.pre
       have hpg := HJ.out.pg
       have hPM : PM = q :: (Z ++ P') := by
        rw [hZ] at hpg
        have : S ++ PM = S ++ (q :: (Z ++ P')) := by rw [hpg]; simp
        exact List.append_cancel_left this
       have hroot : root ∉ Q := fun e => by
        have hin : root ∈ Z ++ P' := by rw [hP2]; simp [e]
        rcases H.out.2.1 with h | h
        ·have h1 := (List.nodup_append.1 H.out.2.2.1).2.1
         rw [hPM] at h1
         exact (List.nodup_cons.1 h1).1 (h ▸ hin)
        ·exact h.1 (by rw [hPM]; exact List.mem_cons_of_mem _ hin)
       have hnp2 : (S' ++ Q).Nodup := by
        have h1 := H.out.2.2.1
        rw [hpg, hP2, ← List.append_assoc] at h1
        exact List.Nodup.sublist (List.sublist_append_left _ _) h1
       have hsl2 : (S' ++ Q).length ≤ 100000 := by
        have h1 := H.out.2.2.2.1
        rw [hpg, hP2] at h1
        simp only [List.length_append] at h1 ⊢
        omega
       have hdp2 : deep + 1 + d' ≤ 40 := by omega
       have hrec := IH.out d' (by omega) c M1 Q S' lo (some a) vlo (.pointer (some ⟨gk, ok + 0, none⟩)) (deep + 1) wr hTc.1 (.inr ⟨hroot, hTc.2⟩) hnp2 hsl2 hsM1 (fun y hy k hk => HJ.out.lb y (hmm1 y hy) k (by simpa using hk)) hup (H4.out.2.2.2.1.chg HJ.out.chg) (hkp 0 a ha) hdp2 HJ.out.bt HJ.out.mp
       rw [Nat.add_zero] at hrec hcc
       have t5 : decide ((0 : Int) < (nd.keys.length : Int)) = true := decide_eq_true (by omega)
       have t5' : 0 < nd.keys.length := by omega
       clear hup hsM1 hmm1 ha hTc
       rw [show ((deep + 1 : Nat) : Int) = (deep : Int) + 1 from by omega] at hrec
       obtain ⟨c0, f0, s0⟩ := hb5.facts
       have hic : (0 : Int) < (nd.kids.length : Int) := by omega
       have hic2 : 0 < nd.kids.length := by omega
       have HR := Lib.hid (And.intro hrec (And.intro hrest2 (And.intro hpg (And.intro hP2 (And.intro hZ (And.intro hsr2 (And.intro hlb2 hub2)))))))
       clear hcl hvl'
       (try clear hje)
       clear hrec hrest2 hpg hP2 hZ hsr2 hlb2 hub2 hroot hnp2 hsl2 hkp hPM hxk hxc hgc hgk hNk hNc hWc hb5 hci
       go_wp2_with fail
       refine HR.out.1.mono ?_
       rintro e w5 ⟨rfl, hbt5, hm5, hc5⟩
       have H5 := Lib.hid (And.intro hbt5 (And.intro hm5 hc5))
       clear hbt5 hm5 hc5 c0 f0 s0 hcc
       go_wp2_with fail
       go_roundg (nd.kids.length - (0 + 1))
       case measure => omega
       case rel => exact ⟨0 + 1, L2, P2, S' ++ Q, (d' : Int), rfl, by omega, by simp, rfl, fun e => by omega, fun _ => by omega, H5.out.1, H5.out.2.1, HR.out.2.1, HR.out.2.2.2.2.2.1, by rw [HR.out.2.2.1, HR.out.2.2.2.1]; simp, by rw [HR.out.2.2.2.2.1]; exact ⟨Z ++ Q, by simp⟩, HR.out.2.2.2.2.2.2.1, HR.out.2.2.2.2.2.2.2, Chg.trans HJ.out.chg H5.out.2.2 fun _ _ e => e⟩
      ·obtain ⟨j, rfl⟩ : ∃ j, i = j + 1 := ⟨i - 1, by omega⟩
       have hbv : bv = (d' : Int) := by have := hbv1 (by omega); omega
       subst hbv
       clear hbv0 hbv1
       obtain ⟨aj, haj⟩ : ∃ aj, nd.keys[j]? = some aj := ⟨_, List.getElem?_eq_getElem (by omega)⟩
       have hjl : j < nd.keys.length := by omega
       by_cases hlk : j + 1 < nd.keys.length
       ·skip
        obtain ⟨c, M1, Q, a, v, L2, P2, hci, hTc, ha, hv, hmem, hL2, hP2, hrest2⟩ := HJ.out.rest.inner hvl' hcl hlk
        have hsr := HJ.out.srt
        rw [hL2] at hsr
        obtain ⟨q1, q2, q3⟩ := srt_app.1 hsr
        obtain ⟨q4, q5⟩ := List.pairwise_cons.1 q2
        have hsr2 : Srt L2 := q5
        have hlb2 : ∀ y ∈ L2, ∀ k, (if (j + 1) + 1 = 0 then lo else nd.keys[(j + 1) + 1 - 1]?) = some k → k < y.1 := fun y hy k hk => by
         rw [if_neg (by omega), Nat.add_sub_cancel, ha] at hk
         cases hk
         exact q4 y hy
        have hub2 : ∀ y ∈ L2, ∀ k, hi = some k → y.1 < k := fun y hy k hk => HJ.out.ub y (by rw [hL2]; exact List.mem_append_right _ (List.mem_cons_of_mem _ hy)) k hk
        have hup : ∀ y ∈ M1, ∀ k, some a = some k → y.1 < k := fun y hy k hk => by cases hk; exact q3 y hy (a, v) List.mem_cons_self
        have hsM1 : Srt M1 := q1
        have hmm1 : ∀ y ∈ M1, y ∈ L' := fun y hy => by rw [hL2]; exact List.mem_append_left _ hy
        clear hsr q1 q2 q3 q4 q5 hmem hv
        have hNc : ∀ j, N j → ¬ (F j ∨ j = sb) := fun j hj e => e.elim (H3.out.2.2.2.1 j hj).1 (H3.out.2.2.2.1 j hj).2.1
        have hWc : Chg (fun j => F j ∨ j = sb) W3 wr := Grew.then H4.out.1 HJ.out.chg
        have hb5 := HB.out.1.chg hWc (hNc _ HB.out.2.2.2.1)
        obtain ⟨gc, oc, rfl, hgc, hxc⟩ := HB.out.2.2.1.2 (by omega)
        have hcc : wr.cell? ⟨gc, oc + (j + 1), none⟩ = some (.int .i64 c) := (hWc.cell (p := ⟨gc, oc + (j + 1), none⟩) hgc (hNc _ (HB.out.2.2.2.2.2 ⟨gc, oc, none⟩ rfl))).trans (hxc ((j + 1)) _ (by simp [nv, hci]))
        obtain ⟨gk, ok, rfl, hgk, hxk⟩ := HB.out.2.1.2 (by omega)
        have hNk := HB.out.2.2.2.2.1 ⟨gk, ok, none⟩ rfl
        have hkp : ∀ (m : Nat) (z : Int), nd.keys[m]? = some z → BP wr F sb (.pointer (some ⟨gk, ok + m, none⟩)) (some z) := fun m z hz => ⟨_, rfl, (hWc.cell (p := ⟨gk, ok + m, none⟩) hgk (hNc _ hNk)).trans (hxk m _ (by simp [iv, hz])), Nat.lt_of_lt_of_le hgk hWc.size, (H3.out.2.2.2.1 gk hNk).1, (H3.out.2.2.2.1 gk hNk).2.1⟩
        obtain ⟨Z, hZ⟩ := HJ.out.pre
        have hpg := HJ.out.pg
        have hPM : PM = q :: (Z ++ P') := by
         rw [hZ] at hpg
         have : S ++ PM = S ++ (q :: (Z ++ P')) := by rw [hpg]; simp
         exact List.append_cancel_left this
        have hroot : root ∉ Q := fun e => by
         have hin : root ∈ Z ++ P' := by rw [hP2]; simp [e]
         rcases H.out.2.1 with h | h
         ·have h1 := (List.nodup_append.1 H.out.2.2.1).2.1
          rw [hPM] at h1
          exact (List.nodup_cons.1 h1).1 (h ▸ hin)
         ·exact h.1 (by rw [hPM]; exact List.mem_cons_of_mem _ hin)
        have hnp2 : (S' ++ Q).Nodup := by
         have h1 := H.out.2.2.1
         rw [hpg, hP2, ← List.append_assoc] at h1
         exact List.Nodup.sublist (List.sublist_append_left _ _) h1
        have hsl2 : (S' ++ Q).length ≤ 100000 := by
         have h1 := H.out.2.2.2.1
         rw [hpg, hP2] at h1
         simp only [List.length_append] at h1 ⊢
         omega
        have hdp2 : deep + 1 + d' ≤ 40 := by omega
        have hrec := IH.out d' (by omega) c M1 Q S' (some aj) (some a) (.pointer (some ⟨gk, ok + j, none⟩)) (.pointer (some ⟨gk, ok + (j + 1), none⟩)) (deep + 1) wr hTc.1 (.inr ⟨hroot, hTc.2⟩) hnp2 hsl2 hsM1 (fun y hy k hk => HJ.out.lb y (hmm1 y hy) k (by rw [if_neg (by omega), Nat.add_sub_cancel, haj]; exact hk)) hup (hkp j aj haj) (hkp (j + 1) a ha) hdp2 HJ.out.bt HJ.out.mp
        have t5 : decide (((j : Int) + 1) < (nd.keys.length : Int)) = true := decide_eq_true (by omega)
        clear hup hsM1 hmm1 ha hTc haj
        rw [show ((deep + 1 : Nat) : Int) = (deep : Int) + 1 from by omega] at hrec
        obtain ⟨c0, f0, s0⟩ := hb5.facts
        have hic : ((j : Int) + 1 : Int) < (nd.kids.length : Int) := by omega
        have hic2 : (j + 1) < nd.kids.length := by omega
        have HR := Lib.hid (And.intro hrec (And.intro hrest2 (And.intro hpg (And.intro hP2 (And.intro hZ (And.intro hsr2 (And.intro hlb2 hub2)))))))
        clear hcl hvl'
        (try clear hje)
        clear hrec hrest2 hpg hP2 hZ hsr2 hlb2 hub2 hroot hnp2 hsl2 hkp hPM hxk hxc hgc hgk hNk hNc hWc hb5 hci
        go_wp2_with fail
        refine HR.out.1.mono ?_
        rintro e w5 ⟨rfl, hbt5, hm5, hc5⟩
        have H5 := Lib.hid (And.intro hbt5 (And.intro hm5 hc5))
        clear hbt5 hm5 hc5 c0 f0 s0 hcc
        go_wp2_with fail
        go_roundg (nd.kids.length - ((j + 1) + 1))
        case measure => omega
        case rel => exact ⟨(j + 1) + 1, L2, P2, S' ++ Q, (d' : Int), rfl, by omega, by simp, rfl, fun e => by omega, fun _ => by omega, H5.out.1, H5.out.2.1, HR.out.2.1, HR.out.2.2.2.2.2.1, by rw [HR.out.2.2.1, HR.out.2.2.2.1]; simp, by rw [HR.out.2.2.2.2.1]; exact ⟨Z ++ Q, by simp⟩, HR.out.2.2.2.2.2.2.1, HR.out.2.2.2.2.2.2.2, Chg.trans HJ.out.chg H5.out.2.2 fun _ _ e => e⟩
       ·have hje : nd.keys.length = j + 1 := by omega
        obtain ⟨c, hci, hTc, hrest2⟩ := (show Rest x.nd (halfN x.sz) (d' + 1) nd nd.keys.length L' P' from hje ▸ HJ.out.rest).inner_end hvl' hcl
        rw [hje] at hci hrest2
        obtain ⟨Q, hQ⟩ : ∃ Q, P' = Q := ⟨_, rfl⟩
        obtain ⟨P2, hP20⟩ : ∃ P2 : List Nat, P2 = [] := ⟨_, rfl⟩
        obtain ⟨L2, hL20⟩ : ∃ L2 : List KV, L2 = [] := ⟨_, rfl⟩
        have hP2 : P' = Q ++ P2 := by rw [hP20, List.append_nil]; exact hQ
        rw [← hP20, ← hL20] at hrest2
        rw [hQ] at hTc
        have hsr2 : Srt L2 := by rw [hL20]; exact List.Pairwise.nil
        have hlb2 : ∀ y ∈ L2, ∀ k, (if j + 1 + 1 = 0 then lo else nd.keys[j + 1 + 1 - 1]?) = some k → k < y.1 := fun y hy => by rw [hL20] at hy; cases hy
        have hub2 : ∀ y ∈ L2, ∀ k, hi = some k → y.1 < k := fun y hy => by rw [hL20] at hy; cases hy
        have hNc : ∀ j, N j → ¬ (F j ∨ j = sb) := fun j hj e => e.elim (H3.out.2.2.2.1 j hj).1 (H3.out.2.2.2.1 j hj).2.1
        have hWc : Chg (fun j => F j ∨ j = sb) W3 wr := Grew.then H4.out.1 HJ.out.chg
        have hb5 := HB.out.1.chg hWc (hNc _ HB.out.2.2.2.1)
        obtain ⟨gc, oc, rfl, hgc, hxc⟩ := HB.out.2.2.1.2 (by omega)
        have hcc : wr.cell? ⟨gc, oc + (j + 1), none⟩ = some (.int .i64 c) := (hWc.cell (p := ⟨gc, oc + (j + 1), none⟩) hgc (hNc _ (HB.out.2.2.2.2.2 ⟨gc, oc, none⟩ rfl))).trans (hxc ((j + 1)) _ (by simp [nv, hci]))
        obtain ⟨gk, ok, rfl, hgk, hxk⟩ := HB.out.2.1.2 (by omega)
        have hNk := HB.out.2.2.2.2.1 ⟨gk, ok, none⟩ rfl
        have hkp : ∀ (m : Nat) (z : Int), nd.keys[m]? = some z → BP wr F sb (.pointer (some ⟨gk, ok + m, none⟩)) (some z) := fun m z hz => ⟨_, rfl, (hWc.cell (p := ⟨gk, ok + m, none⟩) hgk (hNc _ hNk)).trans (hxk m _ (by simp [iv, hz])), Nat.lt_of_lt_of_le hgk hWc.size, (H3.out.2.2.2.1 gk hNk).1, (H3.out.2.2.2.1 gk hNk).2.1⟩
        obtain ⟨Z, hZ⟩ := HJ.out.pre
        have hpg := HJ.out.pg
        have hPM : PM = q :: (Z ++ P') := by
         rw [hZ] at hpg
         have : S ++ PM = S ++ (q :: (Z ++ P')) := by rw [hpg]; simp
         exact List.append_cancel_left this
        have hroot : root ∉ Q := fun e => by
         have hin : root ∈ Z ++ P' := by rw [hP2]; simp [e]
         rcases H.out.2.1 with h | h
         ·have h1 := (List.nodup_append.1 H.out.2.2.1).2.1
          rw [hPM] at h1
          exact (List.nodup_cons.1 h1).1 (h ▸ hin)
         ·exact h.1 (by rw [hPM]; exact List.mem_cons_of_mem _ hin)
        have hnp2 : (S' ++ Q).Nodup := by
         have h1 := H.out.2.2.1
         rw [hpg, hP2, ← List.append_assoc] at h1
         exact List.Nodup.sublist (List.sublist_append_left _ _) h1
        have hsl2 : (S' ++ Q).length ≤ 100000 := by
         have h1 := H.out.2.2.2.1
         rw [hpg, hP2] at h1
         simp only [List.length_append] at h1 ⊢
         omega
        have hdp2 : deep + 1 + d' ≤ 40 := by omega
        have hrec := IH.out d' (by omega) c L' Q S' (some aj) hi (.pointer (some ⟨gk, ok + j, none⟩)) vhi (deep + 1) wr hTc.1 (.inr ⟨hroot, hTc.2⟩) hnp2 hsl2 HJ.out.srt (fun y hy k hk => HJ.out.lb y hy k (by rw [if_neg (by omega), Nat.add_sub_cancel, haj]; exact hk)) (fun y hy k hk => HJ.out.ub y hy k hk) (hkp j aj haj) (H4.out.2.2.2.2.chg HJ.out.chg) hdp2 HJ.out.bt HJ.out.mp
        have t5 : decide (((j : Int) + 1) < (nd.keys.length : Int)) = false := decide_eq_false (by omega)
        clear hTc haj hQ hP20 hL20
        rw [show ((deep + 1 : Nat) : Int) = (deep : Int) + 1 from by omega] at hrec
        obtain ⟨c0, f0, s0⟩ := hb5.facts
        have hic : ((j : Int) + 1 : Int) < (nd.kids.length : Int) := by omega
        have hic2 : (j + 1) < nd.kids.length := by omega
        have HR := Lib.hid (And.intro hrec (And.intro hrest2 (And.intro hpg (And.intro hP2 (And.intro hZ (And.intro hsr2 (And.intro hlb2 hub2)))))))
        clear hcl hvl'
        (try clear hje)
        clear hrec hrest2 hpg hP2 hZ hsr2 hlb2 hub2 hroot hnp2 hsl2 hkp hPM hxk hxc hgc hgk hNk hNc hWc hb5 hci
        go_wp2_with fail
        refine HR.out.1.mono ?_
        rintro e w5 ⟨rfl, hbt5, hm5, hc5⟩
        have H5 := Lib.hid (And.intro hbt5 (And.intro hm5 hc5))
        clear hbt5 hm5 hc5 c0 f0 s0 hcc
        go_wp2_with fail
        go_roundg (nd.kids.length - ((j + 1) + 1))
        case measure => omega
        case rel => exact ⟨(j + 1) + 1, L2, P2, S' ++ Q, (d' : Int), rfl, by omega, by simp, rfl, fun e => by omega, fun _ => by omega, H5.out.1, H5.out.2.1, HR.out.2.1, HR.out.2.2.2.2.2.1, by rw [HR.out.2.2.1, HR.out.2.2.2.1]; simp, by rw [HR.out.2.2.2.2.1]; exact ⟨Z ++ Q, by simp⟩, HR.out.2.2.2.2.2.2.1, HR.out.2.2.2.2.2.2.2, Chg.trans HJ.out.chg H5.out.2.2 fun _ _ e => e⟩
     ·obtain rfl : i = nd.kids.length := by omega
      have hfin : S' = S ++ PM := by
       have hpg := HJ.out.pg
       have : P' = [] := by
        rcases HJ.out.rest with ⟨e1, e2, e3⟩ | ⟨-, -, e⟩
        ·cases d with
         | zero => exact (e2 rfl).2
         | succ d =>
          have := H.out.2.2.2.2.2.2.2.2.2.2.2.2.1.1.kids.resolve_left (fun e => by have := HX.out.2.1.1 e; omega)
          omega
        ·exact e
       rw [hpg, this, List.append_nil]
      have hbd : bv + 1 = (d : Int) := by
       by_cases hk0 : nd.kids.length = 0
       ·have := hbv0 hk0; have := HX.out.2.1.1 hk0; omega
       ·have := hbv1 (by omega); omega
      have HE := Lib.hid hfin
      have hbd2 : bv = (d : Int) - 1 := by omega
      subst hbd2
      clear hfin hbd hbv0 hbv1
      go_wp2_with fail
      go_ret2
      have h := HJ.out
      refine ⟨?_, h.bt, HE.out ▸ h.mp, Chg.trans H4.out.2.2.1 h.chg fun _ _ e => e⟩
      congr 4
end Go.Proofs.YtpkkcicaeldodaaGreatDoor

namespace Go.Proofs.YtpkkcicaeldodaaGreatDoor
open Go.RowKit Go.Maps

set_option maxRecDepth 100000 in
set_option maxHeartbeats 1600000 in
theorem bcheck_any (t p root D : Nat) (L : List KV) (P : List Nat) (F : Nat → Prop) (x : Rp) (w : World) (hb : BT w t p root F x) (hs : TS x D root L P) (hD : D ≤ 40) (hl : P.length ≤ 100000) :
  Calls Tryz.prog 14 #[.pointer (some ⟨t, 0, none⟩)] w fun e w' => e = .returned (.bool true) ∧ BT w' t p root F x ∧ Chg F w w' := by
 obtain ⟨W1, hW1⟩ : ∃ W, w.alloc (.map #[] 0) = W := ⟨_, rfl⟩
 have hg1 : Grew w W1 := hW1 ▸ (Chg.refl _ _).alloc _
 have hmp : IMap Tryz.prog 3 W1 w.heap.size (sM []) 0 := by
  rw [sM_nil, ← hW1]
  exact IMap.made _ _ _
 have hFl := hb.gp.lt
 have htl := hb.blk.lt
 have hpos := tab_pos hb.gp.tab
 have hlk := blook_any t p root w.heap.size F x ⟨fun e => by have := hFl _ e; omega, by omega, by omega⟩ D root L P [] none none (.pointer none) (.pointer none) 0 W1 hs.tr (.inl rfl) (by simpa using hs.nd) (by simpa using hl) hs.srt (fun _ _ k h => by cases h) (fun _ _ k h => by cases h) rfl rfl (by omega) (hb.grew hg1) hmp
 rw [show ((0 : Nat) : Int) = 0 from rfl] at hlk
 have hmm := @run_makeMap Tryz.prog
 obtain ⟨c0, f0, s0⟩ := (hb.grew hg1).blk.facts
 have c1 := hb.blk.cell 1
 have H := Lib.hid (And.intro hlk (And.intro hW1 (And.intro hg1 hFl)))
 clear hlk hmp hb hs hg1 hW1 hFl
 go_enter Tryz.func14, Tryz.ntmps14
 go_wp2_with (rw [H.out.2.1])
 refine H.out.1.mono ?_
 rintro e w2 ⟨rfl, hb2, -, hc2⟩
 have hc3 : Chg F w w2 := (Chg.trans (F := fun j => F j ∨ j = w.heap.size) H.out.2.2.1.chg hc2 fun j _ e => e).mono fun j hj e => e.resolve_right (by omega)
 have H2 := Lib.hid (And.intro hb2 hc3)
 clear hb2 hc2 hc3 c0 f0 s0
 go_wp2_with fail
 go_ret
 exact ⟨rfl, H2.out⟩
end Go.Proofs.YtpkkcicaeldodaaGreatDoor

namespace Go.Proofs.YtpkkcicaeldodaaGreatDoor
open Go.RowKit Go.Maps

theorem newer {w w1 w2 : World} {F : Nat → Prop} (h : Grew w w1) (hc : Chg F w1 w2) (hF : ∀ j, F j → w.heap.size ≤ j) : Grew w w2 := Chg.trans h hc fun i hi e => by have := hF i e; omega
theorem newerF {w w1 w2 : World} {F F' : Nat → Prop} (h : Grew w w1) (hc : Rch F F' w1 w2) (hF : ∀ j, F j → w.heap.size ≤ j) : ∀ j, F' j → w.heap.size ≤ j := fun j hj => (hc.new j hj).elim (hF j) fun e => Nat.le_trans h.size e
set_option maxRecDepth 100000 in
set_option maxHeartbeats 3200000 in
theorem bawake_any (w : World) (hT : TabAt 0 tab w) :
  Calls Tryz.prog 9 #[] w fun e w' => e = .returned (.bool true) ∧ Grew w w' := by
 have hfr := bfresh_any 12 64 w hT (by omega) (by omega) (by omega) (by omega) (by rw [opened12.1]; omega) (by rw [opened12.2.1]; omega)
 have H := Lib.hid hfr
 clear hfr hT
 go_enter Tryz.func9, Tryz.ntmps9
 go_wp2_with fail
 refine H.out.mono ?_
 rintro e w1 ⟨t, p, d, r, F, rfl, hr, hb, hg, hF, ht⟩
 have hts := tree0_ts (n := 12) (sz := 64) hr (by omega)
 have hp1 := bput2_any t p r 0 5 50 [] [r] F _ w1 hb (by simp [Rp.tree0, Rp.opened, Rp.begun, Rp.put]) hts (by simp) (by unfold i64; omega) (by unfold i64; omega)
 have H1 := Lib.hid (And.intro hp1 (And.intro hts (And.intro hg (And.intro hF ht))))
 clear hp1 hts hg hF ht hr hb
 go_wp2_with fail
 refine H1.out.1.mono ?_
 rintro e w2 hpu
 obtain ⟨rfl, y2, F2, D2, P2, hb2, hr2, hl2, ht2⟩ := put_sure hpu roomy12 tree0_like H1.out.2.1 (show 2 ≤ halfN 64 by decide) (by simp)
 have hL2 : putL [] 5 50 = [(5, 50)] := rfl
 rw [hL2] at ht2
 have hy2 : y2.sz = 64 := hl2.sz
 have hD2 := ht2.depth2 (by rw [hy2]; decide) (by simp)
 have hp2 := bput2_any t p r D2 3 30 [(5, 50)] P2 F2 y2 w2 hb2 (by rw [hl2.was]; simp [Rp.opened, Rp.begun]) ht2 (by simp) (by unfold i64; omega) (by unfold i64; omega)
 have hg2 := newer H1.out.2.2.1 hr2.chg H1.out.2.2.2.1
 have hF2 := newerF H1.out.2.2.1 hr2 H1.out.2.2.2.1
 have H2 := Lib.hid (And.intro hp2 (And.intro ht2 (And.intro hl2 (And.intro hD2 (And.intro hg2 hF2)))))
 clear hp2 ht2 hl2 hD2 hg2 hF2 hb2 hr2 hL2 hpu
 go_wp2_with fail
 refine H2.out.1.mono ?_
 rintro e w3 hpu
 obtain ⟨rfl, y3, F3, D3, P3, hb3, hr3, hl3, ht3⟩ := put_sure hpu roomy12 H2.out.2.2.1 H2.out.2.1 (by rw [hy2]; decide) (by rw [H2.out.2.2.2.1]; simp)
 have hL3 : putL [(5, 50)] 3 30 = [(3, 30), (5, 50)] := rfl
 rw [hL3] at ht3
 have hy3 : y3.sz = 64 := hl3.sz
 have hD3 := ht3.depth2 (by rw [hy3]; decide) (by simp)
 have hg3 := newer H2.out.2.2.2.2.1 hr3.chg H2.out.2.2.2.2.2
 have hF3 := newerF H2.out.2.2.2.2.1 hr3 H2.out.2.2.2.2.2
 have hge := bget2_any t p r (halfN y3.sz) D3 3 _ P3 F3 y3 w3 hb3 ht3.tr ht3.srt (by omega) ht3.nd
 rw [show getK [((3 : Int), (30 : Int)), (5, 50)] 3 = some 30 from rfl] at hge
 have H3 := Lib.hid (And.intro hge (And.intro ht3 (And.intro hD3 (And.intro hg3 hF3))))
 clear hge ht3 hD3 hg3 hF3 hb3 hr3 hL3 hpu hl3
 go_wp2_with fail
 refine H3.out.1.mono ?_
 rintro e w4 ⟨rfl, hb4, hc4⟩
 have hge := bget2_any t p r (halfN y3.sz) D3 4 _ P3 F3 y3 w4 hb4 H3.out.2.1.tr H3.out.2.1.srt (by have := H3.out.2.2.1; omega) H3.out.2.1.nd
 rw [show getK [((3 : Int), (30 : Int)), (5, 50)] 4 = none from rfl] at hge
 have hg4 := newer H3.out.2.2.2.1 hc4 H3.out.2.2.2.2
 have H4 := Lib.hid (And.intro hge hg4)
 simp only [gV, gE]
 clear hge hg4 hb4 hc4
 go_wp2_with fail
 refine H4.out.1.mono ?_
 rintro e w5 ⟨rfl, hb5, hc5⟩
 have hle := blen_any t p r D3 _ P3 F3 y3 w5 hb5 H3.out.2.1 (by simp)
 have hg5 := newer H4.out.2 hc5 H3.out.2.2.2.2
 have H5 := Lib.hid (And.intro hle hg5)
 simp only [gV, gE]
 clear hle hg5 hb5 hc5
 go_wp2_with fail
 refine H5.out.1.mono ?_
 rintro e w6 ⟨rfl, hb6, hc6⟩
 have hch := bcheck_any t p r D3 _ P3 F3 y3 w6 hb6 H3.out.2.1 (by have := H3.out.2.2.1; omega) (by have := H3.out.2.1.tr.pages (by rw [hy3]; decide); simp at this; omega)
 have hg6 := newer H5.out.2 hc6 H3.out.2.2.2.2
 have H6 := Lib.hid (And.intro hch hg6)
 simp only [List.length_cons, List.length_nil]
 clear hch hg6 hb6 hc6
 go_wp2_with fail
 refine H6.out.1.mono ?_
 rintro e w7 ⟨rfl, hb7, hc7⟩
 have H7 := Lib.hid (newer H6.out.2 hc7 H3.out.2.2.2.2)
 clear hb7 hc7
 go_wp2_with fail
 go_ret
 exact ⟨rfl, H7.out⟩
end Go.Proofs.YtpkkcicaeldodaaGreatDoor

namespace Go.Proofs.YtpkkcicaeldodaaGreatDoor
open Go.RowKit Go.Maps

def fo (ks : List Int) : List KV := ks.foldl (fun L k => putL L k k) []
structure OJ (w W : World) (ta pa ra tb pb rb : Nat) (Fa Fb : Nat → Prop) (ya yb : Rp) (Da Db : Nat) (La Lb : List KV) (Pa Pb : List Nat) (A : Option Addr) (Lx : List KV) : Prop where
 a : BT W ta pa ra Fa ya
 b : BT W tb pb rb Fb yb
 sa : TS ya Da ra La Pa
 sb : TS yb Db rb Lb Pb
 la : (Rp.opened 400 64).like ya
 lb : (Rp.opened 400 64).like yb
 dis : ∀ j, Fa j → ¬ Fb j
 nab : ¬ Fa tb ∧ ¬ Fb ta
 gr : Grew w W
 fa : ∀ j, Fa j → w.heap.size ≤ j
 fb : ∀ j, Fb j → w.heap.size ≤ j
 x : Sl W 2 A Lx.length (kvs2 Lx)
 xf : ∀ q, A = some q → ¬ Fa q.block ∧ ¬ Fb q.block ∧ q.block < W.heap.size
section
variable {w W W' : World} {ta pa ra tb pb rb : Nat} {Fa Fb F' : Nat → Prop} {ya yb y' : Rp} {Da Db D' : Nat} {La Lb L' : List KV} {Pa Pb P' : List Nat} {A : Option Addr} {Lx : List KV}
end
end Go.Proofs.YtpkkcicaeldodaaGreatDoor

namespace Go.Proofs.YtpkkcicaeldodaaGreatDoor
open Go.RowKit Go.Maps
attribute [local go_sem] Oper.semAt_some

def stsL (l : List Trop) : List KV := l.foldl stL []
theorem stL_len (L : List KV) (o : Trop) : (stL L o).length ≤ L.length + 1 := by
 unfold stL
 split
 ·exact putL_le _ _ _
 ·split
  ·unfold delL; have := List.length_filter_le (fun x : KV => decide (x.1 ≠ o.key)) L; omega
  ·omega
theorem stsL_snoc (l : List Trop) (o : Trop) : stsL (l ++ [o]) = stL (stsL l) o := by simp [stsL]
theorem stsL_le : ∀ (l : List Trop) (L : List KV), (l.foldl stL L).length ≤ L.length + l.length
 | [], L => by simp
 | o :: l, L => by
  have h1 := stsL_le l (stL L o)
  have h2 := stL_len L o
  simp only [List.foldl_cons, List.length_cons]
  omega
theorem stsL_len (l : List Trop) : (stsL l).length ≤ l.length := by have := stsL_le l []; simpa [stsL] using this
structure EJ (w W : World) (t p r bx : Nat) (x0 : Rp) (L : List KV) (F : Nat → Prop) (y : Rp) (D : Nat) (P : List Nat) (A : Option Addr) (c : Nat) : Prop where
 bt : BT W t p r F y
 ts : TS y D r L P
 like : x0.like y
 gr : Grew w W
 fn : ∀ j, F j → w.heap.size ≤ j ∧ j ≠ bx
 xb : Blk W bx 29 #[.slice A L.length c]
 sl : Sl W 2 A L.length (kvs2 L)
 af : ∀ a, A = some a → ¬ F a.block ∧ a.block < W.heap.size ∧ a.block ≠ bx ∧ w.heap.size ≤ a.block
 tx : t ≠ bx ∧ bx ≠ 0 ∧ w.heap.size ≤ bx ∧ w.heap.size ≤ t
section
variable {w W W1 W2 : World} {t p r bx : Nat} {x0 : Rp} {L R : List KV} {F F' : Nat → Prop} {y : Rp} {D : Nat} {P : List Nat} {A : Option Addr} {c : Nat}
end
end Go.Proofs.YtpkkcicaeldodaaGreatDoor

namespace Go.Proofs.YtpkkcicaeldodaaGreatDoor
open Go.RowKit Go.Maps

structure PlJ (w W : World) (t p r : Nat) (x0 : Rp) (L : List KV) (F : Nat → Prop) (y : Rp) (D : Nat) (P : List Nat) (A : Option Addr) : Prop where
 bt : BT W t p r F y
 ts : TS y D r L P
 like : x0.like y
 gr : Grew w W
 fn : ∀ j, F j → w.heap.size ≤ j
 sl : Sl W 2 A L.length (kvs2 L)
 af : ∀ a, A = some a → ¬ F a.block ∧ a.block < W.heap.size
section
variable {w W W1 W2 : World} {t p r : Nat} {x0 : Rp} {L R : List KV} {F F' : Nat → Prop} {y : Rp} {D : Nat} {P : List Nat} {A : Option Addr}
theorem PlJ.grew (h : PlJ w W t p r x0 L F y D P A) (hg : Grew W W1) : PlJ w W1 t p r x0 L F y D P A :=
 ⟨h.bt.grew hg, h.ts, h.like, Grew.trans h.gr hg, h.fn, h.sl.grew hg, fun a ha => by have h1 := h.af a ha; have := hg.size; exact ⟨h1.1, by omega⟩⟩
theorem PlJ.kept (h : PlJ w W t p r x0 L F y D P A) (hb : BT W1 t p r F y) (hc : Chg F W W1) : PlJ w W1 t p r x0 L F y D P A :=
 ⟨hb, h.ts, h.like, Chg.trans h.gr hc fun j hj e => by have := h.fn j e; omega, h.fn, h.sl.chg hc fun a ha => (h.af a ha).1, fun a ha => by have h1 := h.af a ha; have := hc.size; exact ⟨h1.1, by omega⟩⟩
theorem PlJ.step {e : Ending} (h : PlJ w W t p r x0 L F y D P A) (hs : StpOut W W1 t p r F x0 A R e) :
  ∃ A' c' F' y' D' P', e = .returned (.tuple #[.slice A' R.length c', .bool true]) ∧ PlJ w W1 t p r x0 R F' y' D' P' A' := by
 obtain ⟨A', c', y', F', D', P', rfl, h1, h2, h3, h4, h5, h6⟩ := hs
 have hz := h.gr.size
 exact ⟨A', c', F', y', D', P', rfl, h1, h4, h3, Chg.trans h.gr h2.chg fun j hj e => by have := h.fn j e; omega, fun j hj => (h2.new j hj).elim (h.fn j) fun e => by omega, h5, fun a ha => ⟨(h6 a ha).1, (h6 a ha).2.1⟩⟩
end

theorem plays_out (w : World) (hT : TabAt 0 tab w) (A : Option Addr) (c : Nat) (l : List Trop) (size : Int) (ht : -9223372036854775808 ≤ size ∧ size ≤ 9223372036854775807) (hm : l.length ≤ 9223372036854775807) (ho : size < 64 ∨ 300 < size ∨ 150 < l.length) :
  Calls Tryz.prog 5 #[.int .i64 size, .slice A l.length c] w fun e w' => e = .returned (.bool true) ∧ Grew w w' := by
 have HA := Lib.hid (bawake_any w hT)
 have t0 : (decide (size < 64) = true) ∨ (decide (size < 64) = false ∧ decide (300 < size) = true) ∨ (decide (size < 64) = false ∧ decide (300 < size) = false ∧ decide ((150 : Int) < (l.length : Int)) = true) := by
  by_cases a : size < 64
  ·exact .inl (decide_eq_true a)
  ·by_cases b : 300 < size
   ·exact .inr (.inl ⟨decide_eq_false a, decide_eq_true b⟩)
   ·exact .inr (.inr ⟨decide_eq_false a, decide_eq_false b, decide_eq_true (by omega)⟩)
 obtain ⟨ht1, ht2⟩ := ht
 clear ho hT
 rcases t0 with t1 | ⟨t1, t2⟩ | ⟨t1, t2, t3⟩
 all_goals
  go_enter Tryz.func5, Tryz.ntmps5
  go_wp2_with fail
  refine HA.out.mono ?_
  rintro e w1 ⟨rfl, hg⟩
  have HG := Lib.hid hg
  clear hg
  go_wp2_with fail
  go_ret
  exact ⟨rfl, HG.out⟩

set_option maxRecDepth 100000 in
set_option maxHeartbeats 6400000 in
theorem plays_in (w : World) (hT : TabAt 0 tab w) (A0 : Option Addr) (c0' : Nat) (l : List Trop) (sz : Nat) (h1 : 64 ≤ sz) (h2 : sz ≤ 300) (hl : l.length ≤ 150) (hs : Sl w 3 A0 l.length (l.flatMap Trop.vals)) (ok : ∀ o ∈ l, o.ok) :
  Calls Tryz.prog 5 #[.int .i64 sz, .slice A0 l.length c0'] w fun e w' => e = .returned (.bool true) ∧ Grew w w' := by
 have t1 : decide ((sz : Int) < 64) = false := decide_eq_false (by omega)
 have t2 : decide ((300 : Int) < (sz : Int)) = false := decide_eq_false (by omega)
 have t3 : decide ((150 : Int) < (l.length : Int)) = false := decide_eq_false (by omega)
 have ho := opened_sz h1 h2
 have hrm := roomy_sz h1 h2
 have hfr := bfresh_any 400 sz w hT (by omega) (by omega) h1 (by omega) (by omega) (by omega)
 have H := Lib.hid (And.intro hfr (And.intro hT (And.intro hs (And.intro ok hrm))))
 clear hfr hT hs ok ho hrm
 go_enter Tryz.func5, Tryz.ntmps5
 go_wp2_with fail
 refine H.out.1.mono ?_
 rintro e w1 ⟨t, p, d, r, F, rfl, hr, hb, hg, hF, ht⟩
 have hJ0 : PlJ w w1 t p r (Rp.opened 400 sz) (stsL (l.take 0)) F (Rp.tree0 400 sz r) 0 [r] none :=
  ⟨hb, tree0_ts hr (by omega), tree0_like, hg, hF, Sl.nil _ _ _, fun a ha => by cases ha⟩
 have hrt := broot_any t p r F _ w1 hb
 have H1 := Lib.hid (And.intro hrt hJ0)
 clear hrt hJ0 hr hb hg hF ht
 go_wp2_with fail
 refine H1.out.1.mono ?_
 rintro e w2 ⟨rfl, rfl⟩
 go_wp2_with fail
 go_loopg [9, 37] (l.length) (fun n xv iv wr => ∃ (k : Nat) (F : Nat → Prop) (y : Rp) (D : Nat) (P : List Nat) (A : Option Addr) (c : Nat), n = l.length - k ∧ k ≤ l.length ∧ iv = .int .i64 k ∧ xv = .slice A (stsL (l.take k)).length c ∧ PlJ w wr t p r (Rp.opened 400 sz) (stsL (l.take k)) F y D P A)
 case atStart => exact ⟨0, _, _, 0, _, none, 0, by simp, Nat.zero_le _, rfl, rfl, H1.out.2⟩
 case round =>
  obtain ⟨k, F, y, D, P, A, c, rfl, hk, rfl, rfl, hJ⟩ := hrel
  have hll := stsL_len (l.take k)
  rw [List.length_take] at hll
  have hyz := hJ.bt.gp.szs
  have hh := half_two hyz.2.2.1
  have hD := hJ.ts.depth hh (by omega)
  have hP := hJ.ts.tr.pages hh
  by_cases hlt : k < l.length
  ·obtain ⟨o, ho⟩ : ∃ o, l[k]? = some o := ⟨_, List.getElem?_eq_getElem hlt⟩
   obtain ⟨g, off, rfl, hb, d0, d1, d2⟩ := (H.out.2.2.1.grew hJ.gr).atTrop ho
   have hgo : Grew wr (wr.alloc (.cells #[.int .i64 o.kind, .int .i64 o.key, .int .i64 o.val] 37)) := (Chg.refl _ wr).alloc _
   have hJ1 := hJ.grew hgo
   have hst := bstep_any t p r D 360 c (stsL (l.take k)) P F (Rp.opened 400 sz) y A o _ hJ1.bt H.out.2.2.2.2 hJ.like hJ.ts (by omega) (by omega) (H.out.2.2.2.1 o (List.mem_of_getElem? ho)) hJ1.sl hJ1.af
   have htk : stsL (l.take (k + 1)) = stL (stsL (l.take k)) o := by rw [List.take_add_one, ho]; exact stsL_snoc _ _
   have HJ1 := Lib.hid (And.intro hst (And.intro hJ1 htk))
   have hkI : (k : Int) < (l.length : Int) := by omega
   clear hst hJ1 ho hJ htk hgo hb
   go_wp2_with fail
   refine HJ1.out.1.mono ?_
   intro e w3 hst
   obtain ⟨A', c', F', y', D', P', rfl, hJ3⟩ := HJ1.out.2.1.step hst
   have hrt := broot_any t p r F' y' w3 hJ3.bt
   have HJ3 := Lib.hid (And.intro hrt hJ3)
   clear hst hrt hJ3 d0 d1 d2
   have hns : ((r : Int) != (r : Int)) = false := by simp
   go_wp2_with fail
   refine HJ3.out.1.mono ?_
   rintro e w4 ⟨rfl, rfl⟩
   have hyz' := HJ3.out.2.bt.gp.szs
   have hh' := half_two hyz'.2.2.1
   have hl' : (stL (stsL (l.take k)) o).length ≤ 151 := by have := stL_len (stsL (l.take k)) o; omega
   have hD' := HJ3.out.2.ts.depth hh' (by omega)
   have hP' := HJ3.out.2.ts.tr.pages hh'
   by_cases hsh : (stL (stsL (l.take k)) o).length < 20
   ·have hshI : ((stL (stsL (l.take k)) o).length : Int) < 20 := by omega
    have hch := bcheck_any t p r D' _ P' F' y' w4 HJ3.out.2.bt HJ3.out.2.ts (by omega) (by omega)
    have HC := Lib.hid hch
    clear hch hsh
    go_wp2_with fail
    refine HC.out.mono ?_
    rintro e w5 ⟨rfl, hb5, hc5⟩
    have hJ5 := HJ3.out.2.kept hb5 hc5
    have hsa := bsame_any t p r D' _ P' F' y' A' c' w5 hb5 hJ5.ts (by omega) (by omega) hJ5.sl hJ5.af
    have HS := Lib.hid (And.intro hsa hJ5)
    clear hb5 hc5 hJ5 hsa
    go_wp2_with fail
    refine HS.out.1.mono ?_
    rintro e w6 ⟨rfl, hb6, hc6⟩
    have HJ6 := Lib.hid (HS.out.2.kept hb6 hc6)
    clear hb6 hc6
    go_wp2_with fail
    go_roundg (l.length - (k + 1))
    case measure => omega
    case rel => exact ⟨k + 1, F', y', D', P', A', c', rfl, by omega, by simp, by rw [HJ1.out.2.2], by rw [HJ1.out.2.2]; exact HJ6.out⟩
   ·have hshI : ¬ ((stL (stsL (l.take k)) o).length : Int) < 20 := by omega
    clear hsh
    go_wp2_with fail
    go_roundg (l.length - (k + 1))
    case measure => omega
    case rel => exact ⟨k + 1, F', y', D', P', A', c', rfl, by omega, by simp, by rw [HJ1.out.2.2], by rw [HJ1.out.2.2]; exact HJ3.out.2⟩
  ·obtain rfl : k = l.length := by omega
   rw [List.take_length] at hJ hll hP ⊢
   have hch := bcheck_any t p r D _ P F y wr hJ.bt hJ.ts (by omega) (by omega)
   have HJ := Lib.hid (And.intro hch hJ)
   clear hch hJ hlt hk
   go_wp2_with fail
   refine HJ.out.1.mono ?_
   rintro e w5 ⟨rfl, hb5, hc5⟩
   have hJ5 := HJ.out.2.kept hb5 hc5
   have hsa := bsame_any t p r D _ P F y A c w5 hb5 hJ5.ts (by omega) (by omega) hJ5.sl hJ5.af
   have H5 := Lib.hid (And.intro hsa hJ5)
   clear hb5 hc5 hJ5 hsa
   go_wp2_with fail
   refine H5.out.1.mono ?_
   rintro e w6 ⟨rfl, hb6, hc6⟩
   have hJ6 := H5.out.2.kept hb6 hc6
   have hus := gp_used p F y w6 hb6.gp
   rw [hJ6.ts.used] at hus
   have H6 := Lib.hid (And.intro hus hJ6)
   clear hb6 hc6 hJ6 hus
   go_wp2_with fail
   refine H6.out.1.mono ?_
   rintro e w7 ⟨rfl, hg7⟩
   have hJ7 := H6.out.2.grew hg7
   have hpg := bpages_any t p r D _ P F y w7 hJ7.bt hJ7.ts.tr hJ7.ts.nd (by omega) (by omega)
   have H7 := Lib.hid (And.intro hpg hJ7)
   clear hg7 hJ7 hpg
   go_wp2_with fail
   refine H7.out.1.mono ?_
   rintro e w8 ⟨A8, c8, Q, hQ, rfl, hb8, ho8, hc8⟩
   have hJ8 := H7.out.2.kept hb8 hc8
   have haw := bawake_any w8 (tab_chg H.out.2.1 hJ8.gr id)
   have H8 := Lib.hid (And.intro haw hJ8.gr)
   clear hQ hb8 ho8 hc8 hJ8 haw
   go_wp2_with fail
   refine H8.out.1.mono ?_
   rintro e w9 ⟨rfl, hg9⟩
   have H9 := Lib.hid (Grew.trans H8.out.2 hg9)
   clear hg9
   go_wp2_with fail
   go_ret
   exact ⟨rfl, H9.out⟩
end Go.Proofs.YtpkkcicaeldodaaGreatDoor

namespace Go.Proofs.YtpkkcicaeldodaaGreatDoor
open Go.RowKit

def tabI : List Int := tab.map Int.ofNat
def laidName : String := Rows.btreeOrdersRow.named.headD (toString 0)
theorem tab_of_laid {W : World} (h : laidMetH Tryz.prog Rows.btreeOrdersRow.laid W) : TabAt 0 tab W := by
 have h' : laidMet Tryz.prog [(laidName, Lib.tabData .u8 tabI)] W := h
 have hg : Tryz.prog.globalNamed laidName = some 0 := by kernel_rfl
 have ht := Lib.tabIs_of_head (t := 190) (e := 5) (n := 64) hg (by kernel_rfl) Tryz.underlying190 Tryz.underlying5 (by kernel_rfl) (by kernel_rfl) h'
 intro j hj
 have := ht.cell hg j (by simpa [tabI] using hj)
 rw [this]
 congr 2
 unfold tabI
 rw [List.getD_eq_getElem?_getD, List.getElem?_map, List.getD_eq_getElem?_getD]
 cases tab[j]? <;> rfl

noncomputable def laidWorld (os : Os) : World :=
 { World.holding Tryz.prog os ⟨#[], #[], []⟩ with heap := (World.holding Tryz.prog os ⟨#[], #[], []⟩).heap.modify 0 fun
   | .cells _ t frozen => .cells (tabI.map fun z => Value.int .u8 z).toArray t frozen
   | o => o }
theorem laidWorld_met (os : Os) (args : Array Value) : laidMetH Tryz.prog Rows.btreeOrdersRow.laid ((laidWorld os).forCall (fun _ _ => 0) ⟨#[], args, []⟩).memory :=
 laidMetH_of_parts (laidMet_of_run' 8 (by kernel_rfl) (by kernel_rfl)) (by kernel_rfl)

end Go.Proofs.YtpkkcicaeldodaaGreatDoor

namespace Go.Proofs.YtpkkcicaeldodaaGreatDoor
open Go.ChangeShapes Go.WideShapes Go.ChangeAt Go.RowKit Go.Deep

theorem choose_list {α : Type} (P : Nat → α → Prop) : ∀ (n : Nat), (∀ i, i < n → ∃ x, P i x) → ∃ l : List α, l.length = n ∧ ∀ i x, l[i]? = some x → P i x
 | 0, _ => ⟨[], rfl, fun i x h => by simp at h⟩
 | n + 1, h => by
  obtain ⟨l, hl, hp⟩ := choose_list P n (fun i hi => h i (by omega))
  obtain ⟨x, hx⟩ := h n (by omega)
  refine ⟨l ++ [x], by simp [hl], fun i y hy => ?_⟩
  by_cases hi : i < l.length
  ·rw [List.getElem?_append_left hi] at hy
   exact hp i y hy
  ·rw [List.getElem?_append_right (by omega)] at hy
   have h0 : i - l.length = 0 := by
    rcases Nat.eq_zero_or_pos (i - l.length) with h0 | h0
    ·exact h0
    ·rw [List.getElem?_eq_none (by simp; omega)] at hy; cases hy
   rw [h0] at hy
   simp at hy
   subst hy
   obtain rfl : i = n := by omega
   exact hx

theorem wf_bounds {n : Int} (h : (Lit.int .i64 n).wf = true) : -9223372036854775808 ≤ n ∧ n ≤ 9223372036854775807 := by
 simpa [Lit.wf, IntKind.min, IntKind.max, IntKind.signed, IntKind.bits] using h

section
variable {H : Type} {enc : TypeId × Value → H} {P : Program} {w : World} {base : Nat} {spare : Nat → Bool} {held : Bool}

theorem open_elems {t e : TypeId} {fuel s len cap : Nat} {A : Option Addr} {x : DataW H × List MemPlace} (ht : P.underlying t = some (.slice e)) (hC : P.cellsOf e = s) (hs : 0 < s)
  (h : DataW.trod enc P w base spare held fuel t [.slice A len cap] = some x) :
  len ≤ maxLen ∧ (len = 0 ∨ ∃ b off, A = some ⟨b, off, none⟩ ∧ b < w.heap.size ∧ ∀ i, i < len → ∃ (cs : List Value) (n : Nat) (y : DataW H × List MemPlace), cs.length = s ∧ (∀ j, j < s → w.cell? ⟨b, off + (i * s + j), none⟩ = cs[j]?) ∧ DataW.trod enc P w base spare held n e cs = some y) := by
 rcases open_slice ht h with ⟨hcs, _⟩ | ⟨a, len', cap', m, n, D, Pl, hcs, hb, hl, hm, hmm, hx, hi⟩
 ·simp at hcs
  obtain ⟨rfl, rfl, rfl⟩ := hcs
  exact ⟨Nat.zero_le _, .inl rfl⟩
 ·simp at hcs
  obtain ⟨rfl, rfl, rfl⟩ := hcs
  refine ⟨Nat.le_trans hl hm, ?_⟩
  rcases Nat.eq_zero_or_pos len with h0 | h0
  ·exact .inl h0
  right
  have hlm : len ≤ m := by rw [hmm]; split <;> omega
  obtain ⟨b, off, spot⟩ := a
  have cellAt : ∀ i, i < len → ∃ cs' y, cs'.length = s ∧ (∀ j, j < s → w.cell? (Addr.add ⟨b, off, spot⟩ (i * s + j)) = cs'[j]?) ∧ DataW.trod enc P w base spare held n e cs' = some y := by
   intro i hil
   obtain ⟨cs', hc, ht'⟩ := hi i (by omega)
   rw [hC] at hc
   obtain ⟨_, hcl, hat⟩ := World.cells?_some hc
   refine ⟨cs', _, hcl, fun j hj => ?_, ht'⟩
   rw [← hat j hj]
   congr 1
   unfold Addr.add
   by_cases h1 : i * s = 0 <;> by_cases h2 : j = 0 <;> simp [h1, h2, Nat.add_assoc]
  have hspot : spot = none := by
   obtain ⟨cs', y, hcl, hat, _⟩ := cellAt 0 h0
   have := hat 0 hs
   have h0' : cs'[0]? = some (cs'[0]'(by omega)) := List.getElem?_eq_getElem (by omega)
   rw [h0'] at this
   simpa [Addr.add] using World.cell?_spot this
  subst hspot
  refine ⟨b, off, rfl, ?_, fun i hil => ?_⟩
  ·obtain ⟨cs', y, hcl, hat, _⟩ := cellAt 0 h0
   have := hat 0 hs
   have h0' : cs'[0]? = some (cs'[0]'(by omega)) := List.getElem?_eq_getElem (by omega)
   rw [h0'] at this
   simpa [Addr.add] using World.block_lt_of_cell? w _ this
  ·obtain ⟨cs', y, hcl, hat, ht'⟩ := cellAt i hil
   refine ⟨cs', n, y, hcl, fun j hj => ?_, ht'⟩
   have := hat j hj
   rw [Addr.add_lit] at this
   exact this
end

end Go.Proofs.YtpkkcicaeldodaaGreatDoor

namespace Go.Proofs.YtpkkcicaeldodaaGreatDoor
open Go.ChangeShapes Go.WideShapes Go.ChangeAt Go.RowKit
set_option linter.unusedVariables false

set_option maxRecDepth 100000 in
theorem Trop.of_trod {H : Type} {enc : TypeId × Value → H} {w : World} {base n : Nat} {spare : Nat → Bool} {held : Bool} {cs : List Value} {y : DataW H × List MemPlace} (hl : cs.length = 3) (h : DataW.trod enc Tryz.prog w base spare held n 37 cs = some y) : ∃ r : Trop, cs = r.vals ∧ r.ok := by
 obtain ⟨xs, n, _, _, _, hlen, hf⟩ := DataW.trod_struct Tryz.underlying37 h
 match cs, hl with
 | [c0, c1, c2], _ =>
  match xs, hlen with
  | [y0, y1, y2], _ =>
   have f0 : DataW.trod enc Tryz.prog w base spare held n 3 (([c0, c1, c2].drop 0).take (Tryz.prog.cellsOf 3)) = some y0 := hf 0 _ rfl
   rw [show Tryz.prog.cellsOf 3 = 1 from by kernel_rfl] at f0
   have f1 : DataW.trod enc Tryz.prog w base spare held n 3 (([c0, c1, c2].drop 1).take (Tryz.prog.cellsOf 3)) = some y1 := hf 1 _ rfl
   rw [show Tryz.prog.cellsOf 3 = 1 from by kernel_rfl] at f1
   have f2 : DataW.trod enc Tryz.prog w base spare held n 3 (([c0, c1, c2].drop 2).take (Tryz.prog.cellsOf 3)) = some y2 := hf 2 _ rfl
   rw [show Tryz.prog.cellsOf 3 = 1 from by kernel_rfl] at f2
   obtain ⟨n0, e0, -, w0⟩ := DataW.trod_int Tryz.underlying3 f0
   simp at e0
   subst e0
   obtain ⟨n1, e1, -, w1⟩ := DataW.trod_int Tryz.underlying3 f1
   simp at e1
   subst e1
   obtain ⟨n2, e2, -, w2⟩ := DataW.trod_int Tryz.underlying3 f2
   simp at e2
   subst e2
   exact ⟨⟨n0, n1, n2⟩, rfl, (wf_bounds w0).1, (wf_bounds w0).2, (wf_bounds w1).1, (wf_bounds w1).2, (wf_bounds w2).1, (wf_bounds w2).2⟩
theorem Trop.opened {H : Type} {enc : TypeId × Value → H} {w : World} {base fuel len cap : Nat} {spare : Nat → Bool} {held : Bool} {A : Option Addr} {x : DataW H × List MemPlace} (h : DataW.trod enc Tryz.prog w base spare held fuel 35 [.slice A len cap] = some x) :
  ∃ l : List Trop, len = l.length ∧ len ≤ maxLen ∧ Sl w 3 A l.length (l.flatMap Trop.vals) ∧ ∀ r ∈ l, r.ok := by
 obtain ⟨hm, hc⟩ := open_elems Tryz.underlying35 (s := 3) (by kernel_rfl) (by omega) h
 rcases hc with rfl | ⟨b, off, rfl, hb, hi⟩
 ·exact ⟨[], rfl, hm, Sl.nil _ _ _, fun r hr => by cases hr⟩
 ·obtain ⟨l, hl, hp⟩ := choose_list (fun i (r : Trop) => r.ok ∧ ∀ j u, r.vals[j]? = some u → w.cell? ⟨b, off + (i * 3 + j), none⟩ = some u) len (fun i hil => by
   obtain ⟨cs, n, y, hcl, hat, ht⟩ := hi i hil
   obtain ⟨r, rfl, hok⟩ := Trop.of_trod hcl ht
   refine ⟨r, hok, fun j u hu => ?_⟩
   have hj : j < 3 := by rw [← hcl]; exact (List.getElem?_eq_some_iff.1 hu).1
   rw [hat j hj, hu])
  refine ⟨l, hl.symm, hm, Trop.sl_mk hb (fun i r hr => (hp i r hr).2), fun r hr => ?_⟩
  obtain ⟨i, hi, rfl⟩ := List.getElem_of_mem hr
  exact (hp i _ (List.getElem?_eq_getElem hi)).1

theorem plays_walk (w : World) (hT : TabAt 0 tab w) (size : Int) (hz : -9223372036854775808 ≤ size ∧ size ≤ 9223372036854775807) (A : Option Addr) (c : Nat) (l : List Trop) (hm : l.length ≤ maxLen) (hs : Sl w 3 A l.length (l.flatMap Trop.vals)) (ok : ∀ r ∈ l, r.ok) :
  Calls Tryz.prog 5 #[.int .i64 size, .slice A l.length c] w fun e w' => e = .returned (.bool true) ∧ Grew w w' := by
 by_cases h : size < 64 ∨ 300 < size ∨ 150 < l.length
 ·exact plays_out w hT A c l size hz (by unfold maxLen at hm; omega) h
 ·obtain ⟨sz, rfl⟩ : ∃ sz : Nat, size = sz := ⟨size.toNat, by omega⟩
  exact plays_in w hT A c l sz (by omega) (by omega) (by omega) hs ok

namespace lawBtreePlays
theorem own : ownKnob Tryz.prog.godebug = none := by kernel_rfl
theorem laidOut : laidOutB Tryz.prog = true := by kernel_rfl
set_option maxRecDepth 100000 in
theorem lifted (os : Os) (started : os.Started) (H : Type) (enc : TypeId × Value → H) :
  ReturnsInHanded {} Tryz.checked os 5 .any (fun w args => (Rows.btreePlaysSpec.pre enc Tryz.prog Tryz.f5 [] false w args ∧ laidMetH Tryz.prog Rows.btreePlaysRow.laid w) ∧ sizedMet enc Tryz.prog Tryz.f5 (OpenSpec.ofChange Rows.btreePlaysSpec) false w args) (Rows.btreePlaysSpec.post enc Tryz.prog Tryz.f5 false true false false) := by
 refine returnsInHanded_of_change_and (C := Tryz.checked) (X := fun w _ => laidMetH Tryz.prog Rows.btreePlaysRow.laid w) (fun _ _ _ hh h => h.of_heap hh) own started (by kernel_rfl) Tryz.func5
  (ChangeSpec.witness_at (enc := enc) (C := Tryz.checked) (os := os) (X := fun w _ => laidMetH Tryz.prog Rows.btreePlaysRow.laid w) false (laidWorld os) #[.int .i64 0, .slice none 0 0] 8 rfl (by kernel_rfl) (by kernel_rfl) (by kernel_rfl) (by kernel_rfl) (by kernel_rfl) (laidWorld_met os _)) ?_
 intro W base args ds gs before hval0 hW _ _ hL0 _
 have hL : laidMetH Tryz.prog Rows.btreePlaysRow.laid W := hL0
 have hT0 := tab_of_laid hL
 have hval : ∀ (j : Nat) t v, Tryz.f5.params[j]? = some t → args[j]? = some v → Value.okWide Tryz.prog W .any base t v := hval0
 have hW1 := hW
 obtain ⟨p, q, hA0, hV, rfl, hfz, hnd⟩ := hW
 have hA : DataW.TrodAll enc Tryz.prog W 0 (fun _ => true) true Tryz.f5.params.toList args.toList ds p := hA0
 rw [Tryz.params5] at hA hval
 obtain ⟨v0, vs0, d0, ds0, p0, q0, hargs, rfl, rfl, h0, r0⟩ := trodAll_cons hA
 obtain ⟨v1, vs1, d1, ds1, p1, q1, rfl, rfl, rfl, h1, r1⟩ := trodAll_cons r0
 obtain ⟨rfl, rfl, rfl⟩ := trodAll_nil r1
 obtain rfl : args = #[v0, v1] := by cases args; simp_all
 obtain ⟨rfl, rfl⟩ := trodVars_none hV
 obtain ⟨a0, rfl, rfl, rfl, w0⟩ := open_int Tryz.underlying3 (hval 0 3 v0 rfl rfl) h0
 obtain ⟨A1, n1, c1, rfl⟩ := okWide_slice Tryz.underlying35 (hval 1 35 v1 rfl rfl)
 have k1 := h1
 have lt1 : ∀ x ∈ p1, x.block < W.heap.size := by obtain ⟨m, hm⟩ := k1; exact DataW.trod_lt m _ _ _ hm
 obtain ⟨fu1, hf1⟩ := h1
 obtain ⟨l1, rfl, hm1, hs1, ok1⟩ := Trop.opened (by simpa [Value.cells] using hf1)
 clear hA0 hval0
 refine (plays_walk W hT0 a0 (wf_bounds w0) A1 c1 l1 hm1 hs1 ok1).mono fun e W1 ⟨he, hg⟩ => ?_
 subst he
 have bel := hg.below
 exact ⟨_, rfl, _, _, _, [], _, [], hW1, trodAll_mk1 (shut_bool Tryz.underlying4 _), (trodAll_cons_mk (shut_int Tryz.underlying3 w0) (trodAll_cons_mk (Below.trod laidOut (by kernel_rfl) (of_decide_eq_true (by kernel_rfl)) k1 bel lt1) trodAll_mk0)), rfl, bel.frame _, fun h => by cases h⟩
theorem over : Rows.btreePlaysRow.holds Tryz.pinned (OpenSpec.ofChange Rows.btreePlaysSpec) :=
 OpenClaim.holds_of_wide 5 Tryz.f5 rfl rfl rfl rfl rfl rfl rfl ⟨rfl, rfl, rfl, rfl, rfl⟩ rfl rfl rfl rfl rfl (by kernel_rfl) Tryz.func5 (by kernel_rfl)
  (of_decide_eq_true (by kernel_rfl)) (by unfold Func.isWrapper; first | (rw [if_pos (by decide +kernel)]; kernel_rfl) | (rw [if_neg (by decide +kernel)]; exact ⟨rfl, rfl⟩))
  (fun os started H enc _ => lifted os started H enc)
theorem proved : Rows.BtreePlaysCardSaid :=
 Claim7.holds_tied_plain_at .later [] [.data] true Rows.btreePlaysCard.stood.harness false over (fun _ h => by cases h) (by kernel_rfl) (fun _ h => by cases h) btreePlays_row_tie rfl ⟨rfl, rfl⟩ (by kernel_rfl) rfl
  (fun f fn hf hfn => by
   obtain rfl : f = 5 := Option.some.inj ((show Tryz.prog.funcNamed Rows.btreePlaysRow.func = some 5 by kernel_rfl).symm.trans hf) |>.symm
   obtain rfl : fn = Tryz.f5 := (Option.some.inj (Tryz.func5.symm.trans hfn)).symm
   refine ⟨by kernel_rfl, fun j t ht => ?_⟩
   have hall : ∀ t ∈ Tryz.f5.params.toList, Tryz.prog.wantsStandIn t = false := by
    rw [Tryz.params5]
    intro t ht
    simp only [List.mem_cons, List.not_mem_nil, or_false] at ht
    rcases ht with rfl | rfl <;> kernel_rfl
   exact hall t (by rw [Array.mem_toList_iff]; exact Array.mem_of_getElem? ht))
  (by kernel_rfl)
#print axioms proved
end lawBtreePlays

end Go.Proofs.YtpkkcicaeldodaaGreatDoor
