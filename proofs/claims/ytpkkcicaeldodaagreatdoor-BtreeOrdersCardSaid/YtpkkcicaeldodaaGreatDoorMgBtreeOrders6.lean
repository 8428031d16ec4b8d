/- Texts 6 of 7 that the proof of BtreeOrders stands on. -/
import Derived.Test.YtpkkcicaeldodaaGreatDoorMgBtreeOrders5
set_option linter.unusedSimpArgs false
set_option linter.unusedVariables false

/- The tree: look, Check. (Printed by genBtZe.py.) -/
namespace Go.Proofs.YtpkkcicaeldodaaGreatDoor
open Go.RowKit Go.Maps

def sM (l : List Nat) : Int → Option Value := fun i => if 0 ≤ i ∧ i.toNat ∈ l then some (.int .i64 1) else none
theorem zIntB (w : World) : (zeroValue 3).run Tryz.prog w = .ok (.int .i64 0) w := by kernel_rfl
theorem sM_nil : sM [] = fun _ => none := by funext i; simp [sM]
theorem sM_at (l : List Nat) (k : Nat) : sM l (k : Int) = if k ∈ l then some (.int .i64 1) else none := by unfold sM; simp
theorem sM_more (l : List Nat) (k : Nat) : upd (sM l) (k : Int) (some (.int .i64 1)) = sM (l ++ [k]) := by
  funext i
  by_cases h : i = (k : Int)
  · subst h; rw [upd_same, sM_at]; simp
  · rw [upd_other h]
    unfold sM
    by_cases h0 : 0 ≤ i
    · have : i.toNat ≠ k := by omega
      simp [h0, this]
    · simp [h0]
/-- A bound, or none. -/
def BP (W : World) (F : Nat → Prop) (sb : Nat) (v : Value) : Option Int → Prop
  | none => v = .pointer none
  | some k => ∃ a, v = .pointer (some a) ∧ W.cell? a = some (.int .i64 k) ∧ a.block < W.heap.size ∧ ¬ F a.block ∧ a.block ≠ sb
theorem BP.chg {W W' : World} {F : Nat → Prop} {sb : Nat} {v : Value} {o : Option Int} (h : BP W F sb v o) (hc : Chg (fun j => F j ∨ j = sb) W W') : BP W' F sb v o := by
  cases o with
  | none => exact h
  | some k =>
    obtain ⟨a, h1, h2, h3, h4, h5⟩ := h
    exact ⟨a, h1, (hc.cell h3 (fun e => e.elim h4 h5)).trans h2, Nat.lt_of_lt_of_le h3 hc.size, h4, h5⟩
/-- What look leaves. -/
def LkOut (w w' : World) (t p root sb : Nat) (F : Nat → Prop) (x : Rp) (d : Nat) (S : List Nat) (e : Ending) : Prop :=
  e = .returned (.tuple #[.int .i64 d, .bool true]) ∧ BT w' t p root F x ∧ IMap Tryz.prog 3 w' sb (sM S) S.length ∧ Chg (fun j => F j ∨ j = sb) w w'
/-- On the way through the children. -/
structure LkJ (w3 W : World) (t p root sb b q d : Nat) (nd : Nd) (F : Nat → Prop) (x : Rp) (lo hi : Option Int) (S0 PM : List Nat) (i : Nat) (L : List KV) (P S : List Nat) : Prop where
  bt : BT W t p root F x
  mp : IMap Tryz.prog 3 W sb (sM S) S.length
  rest : Rest x.nd (halfN x.sz) d nd i L P
  srt : Srt L
  pg : S0 ++ PM = S ++ P
  pre : ∃ Z, S = S0 ++ q :: Z
  lb : ∀ y ∈ L, ∀ k, (if i = 0 then lo else nd.keys[i - 1]?) = some k → k < y.1
  ub : ∀ y ∈ L, ∀ k, hi = some k → y.1 < k
  chg : Chg (fun j => F j ∨ j = sb) w3 W
set_option maxRecDepth 100000 in
set_option maxHeartbeats 6400000 in
theorem blook_any (t p root sb : Nat) (F : Nat → Prop) (x : Rp) (hsb : ¬ F sb ∧ sb ≠ t ∧ sb ≠ 0) :
    ∀ (d q : Nat) (M : List KV) (PM S : List Nat) (lo hi : Option Int) (vlo vhi : Value) (deep : Nat) (w : World), Tr x.nd (halfN x.sz) d q M PM → ((q = root) ∨ (root ∉ PM ∧ halfN x.sz - 1 ≤ nk x.nd q)) → (S ++ PM).Nodup → (S ++ PM).length ≤ 100000 → Srt M → (∀ y ∈ M, ∀ k, lo = some k → k < y.1) → (∀ y ∈ M, ∀ k, hi = some k → y.1 < k) →
      BP w F sb vlo lo → BP w F sb vhi hi → deep + d ≤ 40 → BT w t p root F x → IMap Tryz.prog 3 w sb (sM S) S.length →
      Calls Tryz.prog 47 #[.pointer (some ⟨t, 0, none⟩), .int .i64 q, .int .i64 deep, vlo, vhi, .map (some sb)] w fun e w' => LkOut w w' t p root sb F x d (S ++ PM) e := by
  intro d
  induction d using Nat.strongRecOn with
  | ind d ih =>
  intro q M PM S lo hi vlo vhi deep w ht hq hnp hsl hs hlo hhi hvlo hvhi hdp hb hmp
  obtain ⟨nd, hnd, hvl, hmx, hdz⟩ := ht.node
  obtain ⟨cp, cp1, cp2, cp3⟩ := Rp.nd_some hnd
  have hft := hb.gp.fit hnd
  have hkl : nd.keys.length ≤ 300 := by have h1 := hft.1.most; have h2 := hb.gp.szs; unfold mostN at h1; omega
  have hld := bload_any t p root q F x cp nd w hb cp1 cp2 cp3
  have hks := ht.keys hnd hs
  have hq4 : q < 4096 := by have h1 := (List.getElem?_eq_some_iff.1 cp1).1; have := hb.gp.szs; omega
  have h2h := half_two hb.gp.szs.2.2.1
  have h3h : halfN x.sz ≤ 300 := by have := hb.gp.szs; unfold halfN mostN; omega
  have hqS : q ∉ S := fun e => (List.nodup_append.1 hnp).2.2 q e q ht.root_mem rfl
  have hsub : nd.kvs.Sublist M := by
    cases d with
    | zero => obtain ⟨nd', g1, -, -, -, g5, -⟩ := ht; rw [hnd] at g1; cases g1; rw [g5]; exact List.Sublist.refl _
    | succ d => obtain ⟨nd', P', g1, -, -, -, g5, -⟩ := ht; rw [hnd] at g1; cases g1; exact g5.sub
  have hklo : ∀ a ∈ nd.keys, ∀ k, lo = some k → k < a := fun a ha k hk => by
    rw [← kvs_keys hvl] at ha
    obtain ⟨y, hy, rfl⟩ := List.mem_map.1 ha
    exact hlo y (hsub.subset hy) k hk
  have hkhi : ∀ a ∈ nd.keys, ∀ k, hi = some k → a < k := fun a ha k hk => by
    rw [← kvs_keys hvl] at ha
    obtain ⟨y, hy, rfl⟩ := List.mem_map.1 ha
    exact hhi y (hsub.subset hy) k hk
  have hsbl : sb < w.heap.size := hmp.lt
  have H := Lib.hid (And.intro ht (And.intro hq (And.intro hnp (And.intro hsl (And.intro hs (And.intro hlo (And.intro hhi (And.intro hvlo (And.intro hvhi (And.intro hb (And.intro hmp (And.intro hnd (And.intro hft (And.intro hks (And.intro hld (And.intro hqS (And.intro hklo (And.intro hkhi hvl))))))))))))))))))
  have HX := Lib.hid (And.intro hmx (And.intro hdz (And.intro hsb hsub)))
  have IH := Lib.hid ih
  have hdp1 : deep ≤ 40 := by omega
  have t0 : decide ((40 : Int) < (deep : Int)) = false := decide_eq_false (by omega)
  have hmm := @run_makeMap Tryz.prog
  clear ih ht hq hnp hsl hs hlo hhi hvlo hvhi hb hmp hnd hft hks hld hqS hklo hkhi hvl hmx hdz hsub cp1 cp2 cp3
  go_enter Tryz.func47, Tryz.ntmps47
  go_wp2_with fail
  refine H.out.2.2.2.2.2.2.2.2.2.2.2.2.2.2.1.mono ?_
  rintro e w2 ⟨b, N, rfl, hn2, hN2, hbt2, hc2⟩
  have hM2 := H.out.2.2.2.2.2.2.2.2.2.2.1.chg hc2 HX.out.2.2.1.1
  have hlk := hM2.look (t := 88) kInt Tryz.underlying3 Tryz.underlying88 (zIntB w2) (i := (q : Int)) (wfInt (by omega) (by omega))
  rw [sM_at, if_neg H.out.2.2.2.2.2.2.2.2.2.2.2.2.2.2.2.1] at hlk
  simp only [Option.getD_none] at hlk
  obtain ⟨W3, hput, hM3, hc3⟩ := hM2.put (t := 88) kInt Tryz.underlying3 Tryz.underlying88 (by have h9 := H.out.2.2.2.1; rw [List.length_append] at h9; simp only [maxLen]; omega) (i := (q : Int)) (wfInt (by omega) (by omega)) (.int .i64 1)
  rw [sM_more, sM_at, if_neg H.out.2.2.2.2.2.2.2.2.2.2.2.2.2.2.2.1] at hM3
  simp only [Option.isSome_none, Bool.false_eq_true, if_false] at hM3
  have hlt3 := hbt2.gp.lt
  have hsb := HX.out.2.2.1
  have hbt3 : BT W3 t p root F x := hbt2.chg hc3 (fun j hj e => hsb.1 (e ▸ hj)) (fun e => hsb.2.2 e.symm) (fun e => hsb.2.1 e.symm)
  have hn3 : NdOwn W3 N b q nd := hn2.chg hc3 fun j hj e => by have := hN2 j hj; omega
  have hcW : Chg (fun j => F j ∨ j = sb) w W3 := Chg.trans (hc2.mono fun j _ e => .inl e) hc3 fun j _ e => .inr e
  have hNa : ∀ j, N j → ¬ F j ∧ j ≠ sb ∧ j < W3.heap.size := fun j hj => ⟨fun e => by have := hN2 j hj; have := H.out.2.2.2.2.2.2.2.2.2.1.gp.lt j e; omega, by have := hN2 j hj; omega, hn3.at.lt j hj⟩
  have hhf := bhalf_any t p root F x
  have hM3' : IMap Tryz.prog 3 W3 sb (sM (S ++ [q])) (S ++ [q]).length := by simpa using hM3
  have H3 := Lib.hid (And.intro hbt3 (And.intro hn3 (And.intro hcW (And.intro hNa (And.intro hhf hM3')))))
  obtain ⟨c3, f3, s3⟩ := hbt3.blk.facts
  obtain ⟨Ak, ck, Av, cv, Ac, cc, bB, sK, sV, sC, nb, nK, nV, nC, -⟩ := hn3.at
  obtain ⟨c0, f0, s0⟩ := bB.facts
  have HB := Lib.hid (And.intro bB (And.intro sK (And.intro sC (And.intro nb (And.intro nK nC)))))
  clear hn2 hN2 hbt2 hc2 hM2 hM3 hc3 hlt3 hbt3 hn3 hcW hNa hhf hM3' bB sK sV sC nb nK nV nC hmm hsb
  have hmx := HX.out.1
  have w1 : wrap64 (wrap64 (2 * (halfN x.sz : Int)) - 1) = 2 * (halfN x.sz : Int) - 1 := by rw [IntWalk.wrap64_in (2 * (halfN x.sz : Int)) ⟨by omega, by omega⟩, IntWalk.wrap64_in _ ⟨by omega, by omega⟩]
  have u3 : decide (wrap64 (wrap64 (2 * (halfN x.sz : Int)) - 1) < (nd.keys.length : Int)) = false := by rw [w1]; exact decide_eq_false (by omega)
  by_cases hqr : q = root
  · have tq : ((q : Int) == (root : Int)) = true := by simp [hqr]
    by_cases h0 : nd.kids.length = 0
    · have Hq := Lib.hid (And.intro hqr h0)
      have h0' : nd.kids = [] := List.eq_nil_of_length_eq_zero h0
      clear hqr
      rw [h0] at c0
      have m1 : min (0 : Int) 1 = 0 := rfl
      have u0 : decide ((nd.keys.length : Int) < min (0 : Int) 1) = false := decide_eq_false (by omega)
      have u1 : decide ((nd.keys.length : Int) < (0 : Int)) = false := decide_eq_false (by omega)
      have u2 : decide (2 * (halfN x.sz : Int) - 1 < (nd.keys.length : Int)) = false := decide_eq_false (by omega)
      clear h0 h0'
      go_wp2_with fail
      refine (H3.out.2.2.2.2.1 W3 H3.out.1).mono ?_
      rintro e w4 ⟨rfl, rfl⟩
      go_wp2_with fail
      go_quiet ((go_at_call 71; exact Calls.quiet_of_same ((H3.out.2.2.2.2.1 _ (H3.out.1.grew ((Chg.refl _ _).drewN _))).mono fun _ _ h => ⟨h.1, h.2.symm⟩)))
      go_wp2_with fail

      obtain ⟨W4, hW4⟩ : ∃ W, W3.drewN nq = W := ⟨_, rfl⟩
      rw [hW4]
      have hg4 : Grew W3 W4 := hW4 ▸ (Chg.refl NoF W3).drewN nq
      have hk4 := HB.out.2.1.grew hg4
      have hc4 : Chg (fun j => F j ∨ j = sb) w W4 := H3.out.2.2.1.grew hg4
      have H4 := Lib.hid (And.intro hg4 (And.intro hk4 (And.intro hc4 (And.intro (H.out.2.2.2.2.2.2.2.1.chg hc4) (H.out.2.2.2.2.2.2.2.2.1.chg hc4)))))
      clear hg4 hk4 hc4 hW4
      go_loopg [87] (nd.keys.length) (fun n iv wr => ∃ i : Nat, n = nd.keys.length - i ∧ i ≤ nd.keys.length ∧ iv = .int .i64 i ∧ wr = W4)
      case atStart => exact ⟨0, by simp, Nat.zero_le _, rfl, rfl⟩
      case round =>
        obtain ⟨i, rfl, hil, rfl, hwr⟩ := hrel
        replace hwr := hwr.symm
        subst hwr
        by_cases hlt : i < nd.keys.length
        · obtain ⟨a, ha⟩ : ∃ a, nd.keys[i]? = some a := ⟨_, List.getElem?_eq_getElem hlt⟩
          obtain ⟨gk, ok, rfl, hgk, hxk⟩ := H4.out.2.1.2 (by omega)
          have hck : W4.cell? ⟨gk, ok + i, none⟩ = some (.int .i64 a) := hxk i _ (by simp [iv, ha])
          have hall := H.out.2.2.2.2.2.2.2.2.2.2.2.2.2.2.2.2.1 a (List.mem_of_getElem? ha)
          have hahi := H.out.2.2.2.2.2.2.2.2.2.2.2.2.2.2.2.2.2.1 a (List.mem_of_getElem? ha)
          have hpl := H4.out.2.2.2.1
          have hph := H4.out.2.2.2.2
          have hcb := (HB.out.1.grew H4.out.1).cell 1
          have hi2 : (i : Int) < (nd.keys.length : Int) := by omega
          cases lo with
          | none =>
            obtain rfl : vlo = .pointer none := hpl
            cases hi with
            | none =>
              obtain rfl : vhi = .pointer none := hph
              by_cases hz : i = 0
              · obtain rfl : i = 0 := hz
                rw [Nat.add_zero] at hck
                clear hall hahi hxk hgk
                go_wp2_with fail
                go_roundg (nd.keys.length - (0 + 1))
                case measure => omega
                case rel => exact ⟨0 + 1, rfl, by omega, by simp, rfl⟩
              · obtain ⟨j, rfl⟩ : ∃ j, i = j + 1 := ⟨i - 1, by omega⟩
                obtain ⟨a', ha'⟩ : ∃ a', nd.keys[j]? = some a' := ⟨_, List.getElem?_eq_getElem (by omega)⟩
                have hck' : W4.cell? ⟨gk, ok + j, none⟩ = some (.int .i64 a') := hxk j _ (by simp [iv, ha'])
                have hlt' : a' < a := by
                  obtain ⟨p1, e1⟩ := List.getElem?_eq_some_iff.1 ha
                  obtain ⟨p2, e2⟩ := List.getElem?_eq_some_iff.1 ha'
                  have := List.pairwise_iff_getElem.1 H.out.2.2.2.2.2.2.2.2.2.2.2.2.2.1 j (j + 1) p2 p1 (by omega)
                  rw [e1, e2] at this
                  exact this
                have t9 : decide (a ≤ a') = false := decide_eq_false (by omega)
                clear hall hahi hxk hgk ha' hlt'
                go_wp2_with fail
                go_roundg (nd.keys.length - ((j + 1) + 1))
                case measure => omega
                case rel => exact ⟨(j + 1) + 1, rfl, by omega, by simp, rfl⟩
            | some kh =>
              obtain ⟨ah, rfl, hch, -⟩ := hph
              have t8 : decide (kh ≤ a) = false := decide_eq_false (by have := hahi kh rfl; omega)
              by_cases hz : i = 0
              · obtain rfl : i = 0 := hz
                rw [Nat.add_zero] at hck
                clear hall hahi hxk hgk
                go_wp2_with fail
                go_roundg (nd.keys.length - (0 + 1))
                case measure => omega
                case rel => exact ⟨0 + 1, rfl, by omega, by simp, rfl⟩
              · obtain ⟨j, rfl⟩ : ∃ j, i = j + 1 := ⟨i - 1, by omega⟩
                obtain ⟨a', ha'⟩ : ∃ a', nd.keys[j]? = some a' := ⟨_, List.getElem?_eq_getElem (by omega)⟩
                have hck' : W4.cell? ⟨gk, ok + j, none⟩ = some (.int .i64 a') := hxk j _ (by simp [iv, ha'])
                have hlt' : a' < a := by
                  obtain ⟨p1, e1⟩ := List.getElem?_eq_some_iff.1 ha
                  obtain ⟨p2, e2⟩ := List.getElem?_eq_some_iff.1 ha'
                  have := List.pairwise_iff_getElem.1 H.out.2.2.2.2.2.2.2.2.2.2.2.2.2.1 j (j + 1) p2 p1 (by omega)
                  rw [e1, e2] at this
                  exact this
                have t9 : decide (a ≤ a') = false := decide_eq_false (by omega)
                clear hall hahi hxk hgk ha' hlt'
                go_wp2_with fail
                go_roundg (nd.keys.length - ((j + 1) + 1))
                case measure => omega
                case rel => exact ⟨(j + 1) + 1, rfl, by omega, by simp, rfl⟩
          | some kl =>
            obtain ⟨al, rfl, hcl, -⟩ := hpl
            have t7 : decide (a ≤ kl) = false := decide_eq_false (by have := hall kl rfl; omega)
            cases hi with
            | none =>
              obtain rfl : vhi = .pointer none := hph
              by_cases hz : i = 0
              · obtain rfl : i = 0 := hz
                rw [Nat.add_zero] at hck
                clear hall hahi hxk hgk
                go_wp2_with fail
                go_roundg (nd.keys.length - (0 + 1))
                case measure => omega
                case rel => exact ⟨0 + 1, rfl, by omega, by simp, rfl⟩
              · obtain ⟨j, rfl⟩ : ∃ j, i = j + 1 := ⟨i - 1, by omega⟩
                obtain ⟨a', ha'⟩ : ∃ a', nd.keys[j]? = some a' := ⟨_, List.getElem?_eq_getElem (by omega)⟩
                have hck' : W4.cell? ⟨gk, ok + j, none⟩ = some (.int .i64 a') := hxk j _ (by simp [iv, ha'])
                have hlt' : a' < a := by
                  obtain ⟨p1, e1⟩ := List.getElem?_eq_some_iff.1 ha
                  obtain ⟨p2, e2⟩ := List.getElem?_eq_some_iff.1 ha'
                  have := List.pairwise_iff_getElem.1 H.out.2.2.2.2.2.2.2.2.2.2.2.2.2.1 j (j + 1) p2 p1 (by omega)
                  rw [e1, e2] at this
                  exact this
                have t9 : decide (a ≤ a') = false := decide_eq_false (by omega)
                clear hall hahi hxk hgk ha' hlt'
                go_wp2_with fail
                go_roundg (nd.keys.length - ((j + 1) + 1))
                case measure => omega
                case rel => exact ⟨(j + 1) + 1, rfl, by omega, by simp, rfl⟩
            | some kh =>
              obtain ⟨ah, rfl, hch, -⟩ := hph
              have t8 : decide (kh ≤ a) = false := decide_eq_false (by have := hahi kh rfl; omega)
              by_cases hz : i = 0
              · obtain rfl : i = 0 := hz
                rw [Nat.add_zero] at hck
                clear hall hahi hxk hgk
                go_wp2_with fail
                go_roundg (nd.keys.length - (0 + 1))
                case measure => omega
                case rel => exact ⟨0 + 1, rfl, by omega, by simp, rfl⟩
              · obtain ⟨j, rfl⟩ : ∃ j, i = j + 1 := ⟨i - 1, by omega⟩
                obtain ⟨a', ha'⟩ : ∃ a', nd.keys[j]? = some a' := ⟨_, List.getElem?_eq_getElem (by omega)⟩
                have hck' : W4.cell? ⟨gk, ok + j, none⟩ = some (.int .i64 a') := hxk j _ (by simp [iv, ha'])
                have hlt' : a' < a := by
                  obtain ⟨p1, e1⟩ := List.getElem?_eq_some_iff.1 ha
                  obtain ⟨p2, e2⟩ := List.getElem?_eq_some_iff.1 ha'
                  have := List.pairwise_iff_getElem.1 H.out.2.2.2.2.2.2.2.2.2.2.2.2.2.1 j (j + 1) p2 p1 (by omega)
                  rw [e1, e2] at this
                  exact this
                have t9 : decide (a ≤ a') = false := decide_eq_false (by omega)
                clear hall hahi hxk hgk ha' hlt'
                go_wp2_with fail
                go_roundg (nd.keys.length - ((j + 1) + 1))
                case measure => omega
                case rel => exact ⟨(j + 1) + 1, rfl, by omega, by simp, rfl⟩
        · obtain rfl : i = nd.keys.length := by omega
          obtain ⟨c1', c2', c3'⟩ : True ∧ True ∧ True := ⟨trivial, trivial, trivial⟩
          clear hlt c1' c2' c3'
          have hn4 := H3.out.2.1.grew H4.out.1
          have hb4 := H3.out.1.grew H4.out.1
          have hstart : ∃ A L0 P0, M = A ++ L0 ∧ PM = q :: P0 ∧ Rest x.nd (halfN x.sz) d nd 0 L0 P0 := by
            cases d with
            | zero =>
              obtain ⟨nd', g1, g2, g3, g4, g5, g6⟩ := H.out.1
              rw [H.out.2.2.2.2.2.2.2.2.2.2.2.1] at g1
              cases g1
              exact ⟨[], M, [], rfl, g6, .inl ⟨Nat.zero_le _, fun _ => ⟨by rw [g5]; rfl, rfl⟩, fun d' e => by omega⟩⟩
            | succ d =>
              obtain ⟨nd', P', g1, g2, g3, g4, g5, g6⟩ := H.out.1
              rw [H.out.2.2.2.2.2.2.2.2.2.2.2.1] at g1
              cases g1
              exact ⟨[], M, P', rfl, g6, .inl ⟨Nat.zero_le _, fun e => by omega, fun d' e => by cases e; exact g5⟩⟩
          obtain ⟨A0, L0, P0, r1, r2, r3⟩ := hstart
          have hsL : Srt L0 := H.out.2.2.2.2.1.sub (by rw [r1]; exact List.sublist_append_right _ _)
          have hJ0 : LkJ W4 W4 t p root sb b q d nd F x lo hi S PM 0 L0 P0 (S ++ [q]) := ⟨hb4, H3.out.2.2.2.2.2.chg H4.out.1 id, r3, hsL, by rw [r2]; simp, ⟨[], rfl⟩, fun y hy k hk => H.out.2.2.2.2.2.1 y (by rw [r1]; exact List.mem_append_right _ hy) k (by simpa using hk), fun y hy k hk => H.out.2.2.2.2.2.2.1 y (by rw [r1]; exact List.mem_append_right _ hy) k hk, Chg.refl _ _⟩
          have hMi : ∀ y ∈ L0, y ∈ M := fun y hy => by rw [r1]; exact List.mem_append_right _ hy
          have HJ0 := Lib.hid (And.intro hJ0 (And.intro hn4 r2))
          obtain ⟨Ak5, ck5, Av5, cv5, Ac5, cc5, bB5, sK5, -, sC5, -⟩ := hn4.at
          clear hn4 hb4 r1 r2 r3 hsL hJ0 hMi bB5 sK5 sC5
          have hcb := (HB.out.1.grew H4.out.1).cell 3
          go_wp2_with fail
          go_loopg [19, 134] (nd.kids.length) (fun n bl iv wr => ∃ (i : Nat) (L' : List KV) (P' S' : List Nat) (bv : Int), n = nd.kids.length - i ∧ i ≤ nd.kids.length ∧ bl = .int .i64 bv ∧ iv = .int .i64 i ∧ (i = 0 → bv = -1) ∧ (0 < i → bv = (d : Int) - 1) ∧ LkJ W4 wr t p root sb b q d nd F x lo hi S PM i L' P' S')
          case atStart => exact ⟨0, L0, P0, S ++ [q], -1, by simp, Nat.zero_le _, rfl, rfl, fun _ => rfl, fun h => by omega, HJ0.out.1⟩
          case round =>
            obtain ⟨i, L', P', S', bv, rfl, hil, rfl, rfl, hbv0, hbv1, hJ⟩ := hrel
            have HJ := Lib.hid hJ
            clear hJ hcb
            by_cases hlt : i < nd.kids.length
            · obtain ⟨d', rfl⟩ : ∃ d', d = d' + 1 := ⟨d - 1, by have hd0 : d ≠ 0 := (fun e => by have := HX.out.2.1.2 e; omega); omega⟩
              have hcl : nd.kids.length = nd.keys.length + 1 := H.out.2.2.2.2.2.2.2.2.2.2.2.2.1.1.kids.resolve_left (by omega)
              have hvl' := H.out.2.2.2.2.2.2.2.2.2.2.2.2.2.2.2.2.2.2
              have hk1 : 1 ≤ nd.keys.length := by
                obtain ⟨nd', P1, g1, -, -, g4, -⟩ := H.out.1
                rw [H.out.2.2.2.2.2.2.2.2.2.2.2.1] at g1
                cases g1
                exact g4
              by_cases hz : i = 0
              · obtain rfl : i = 0 := hz
                have hbv : bv = -1 := hbv0 rfl
                subst hbv
                clear hbv0 hbv1
                obtain ⟨c, M1, Q, a, v, L2, P2, hci, hTc, ha, hv, hmem, hL2, hP2, hrest2⟩ := HJ.out.rest.inner hvl' hcl (by omega)
                have hsr := HJ.out.srt
                rw [hL2] at hsr
                obtain ⟨q1, q2, q3⟩ := srt_app.1 hsr
                obtain ⟨q4, q5⟩ := List.pairwise_cons.1 q2
                have hsr2 : Srt L2 := q5
                have hlb2 : ∀ y ∈ L2, ∀ k, (if 0 + 1 = 0 then lo else nd.keys[0 + 1 - 1]?) = some k → k < y.1 := fun y hy k hk => by
                  rw [if_neg (by omega), Nat.add_sub_cancel, ha] at hk
                  cases hk
                  exact q4 y hy
                have hub2 : ∀ y ∈ L2, ∀ k, hi = some k → y.1 < k := fun y hy k hk => HJ.out.ub y (by rw [hL2]; exact List.mem_append_right _ (List.mem_cons_of_mem _ hy)) k hk
                have hup : ∀ y ∈ M1, ∀ k, some a = some k → y.1 < k := fun y hy k hk => by cases hk; exact q3 y hy (a, v) List.mem_cons_self
                have hsM1 : Srt M1 := q1
                have hmm1 : ∀ y ∈ M1, y ∈ L' := fun y hy => by rw [hL2]; exact List.mem_append_left _ hy
                clear hsr q1 q2 q3 q4 q5 hmem hv
                have hNc : ∀ j, N j → ¬ (F j ∨ j = sb) := fun j hj e => e.elim (H3.out.2.2.2.1 j hj).1 (H3.out.2.2.2.1 j hj).2.1
                have hWc : Chg (fun j => F j ∨ j = sb) W3 wr := Grew.then H4.out.1 HJ.out.chg
                have hb5 := HB.out.1.chg hWc (hNc _ HB.out.2.2.2.1)
                obtain ⟨gc, oc, rfl, hgc, hxc⟩ := HB.out.2.2.1.2 (by omega)
                have hcc : wr.cell? ⟨gc, oc + 0, none⟩ = some (.int .i64 c) := (hWc.cell (p := ⟨gc, oc + 0, none⟩) hgc (hNc _ (HB.out.2.2.2.2.2 ⟨gc, oc, none⟩ rfl))).trans (hxc (0) _ (by simp [nv, hci]))
                obtain ⟨gk, ok, rfl, hgk, hxk⟩ := HB.out.2.1.2 (by omega)
                have hNk := HB.out.2.2.2.2.1 ⟨gk, ok, none⟩ rfl
                have hkp : ∀ (m : Nat) (z : Int), nd.keys[m]? = some z → BP wr F sb (.pointer (some ⟨gk, ok + m, none⟩)) (some z) := fun m z hz => ⟨_, rfl, (hWc.cell (p := ⟨gk, ok + m, none⟩) hgk (hNc _ hNk)).trans (hxk m _ (by simp [iv, hz])), Nat.lt_of_lt_of_le hgk hWc.size, (H3.out.2.2.2.1 gk hNk).1, (H3.out.2.2.2.1 gk hNk).2.1⟩
                obtain ⟨Z, hZ⟩ := HJ.out.pre
                have hpg := HJ.out.pg
                have hPM : PM = q :: (Z ++ P') := by
                  rw [hZ] at hpg
                  have : S ++ PM = S ++ (q :: (Z ++ P')) := by rw [hpg]; simp
                  exact List.append_cancel_left this
                have hroot : root ∉ Q := fun e => by
                  have hin : root ∈ Z ++ P' := by rw [hP2]; simp [e]
                  rcases H.out.2.1 with h | h
                  · have h1 := (List.nodup_append.1 H.out.2.2.1).2.1
                    rw [hPM] at h1
                    exact (List.nodup_cons.1 h1).1 (h ▸ hin)
                  · exact h.1 (by rw [hPM]; exact List.mem_cons_of_mem _ hin)
                have hnp2 : (S' ++ Q).Nodup := by
                  have h1 := H.out.2.2.1
                  rw [hpg, hP2, ← List.append_assoc] at h1
                  exact List.Nodup.sublist (List.sublist_append_left _ _) h1
                have hsl2 : (S' ++ Q).length ≤ 100000 := by
                  have h1 := H.out.2.2.2.1
                  rw [hpg, hP2] at h1
                  simp only [List.length_append] at h1 ⊢
                  omega
                have hdp2 : deep + 1 + d' ≤ 40 := by omega
                have hrec := IH.out d' (by omega) c M1 Q S' lo (some a) vlo (.pointer (some ⟨gk, ok + 0, none⟩)) (deep + 1) wr hTc.1 (.inr ⟨hroot, hTc.2⟩) hnp2 hsl2 hsM1 (fun y hy k hk => HJ.out.lb y (hmm1 y hy) k (by simpa using hk)) hup (H4.out.2.2.2.1.chg HJ.out.chg) (hkp 0 a ha) hdp2 HJ.out.bt HJ.out.mp
                rw [Nat.add_zero] at hrec hcc
                have t5 : decide ((0 : Int) < (nd.keys.length : Int)) = true := decide_eq_true (by omega)
                have t5' : 0 < nd.keys.length := by omega
                clear hup hsM1 hmm1 ha hTc
                rw [show ((deep + 1 : Nat) : Int) = (deep : Int) + 1 from by omega] at hrec
                obtain ⟨c0, f0, s0⟩ := hb5.facts
                have hic : (0 : Int) < (nd.kids.length : Int) := by omega
                have hic2 : 0 < nd.kids.length := by omega
                have HR := Lib.hid (And.intro hrec (And.intro hrest2 (And.intro hpg (And.intro hP2 (And.intro hZ (And.intro hsr2 (And.intro hlb2 hub2)))))))
                clear hcl hvl'
                (try clear hje)
                clear hrec hrest2 hpg hP2 hZ hsr2 hlb2 hub2 hroot hnp2 hsl2 hkp hPM hxk hxc hgc hgk hNk hNc hWc hb5 hci
                go_wp2_with fail
                refine HR.out.1.mono ?_
                rintro e w5 ⟨rfl, hbt5, hm5, hc5⟩
                have H5 := Lib.hid (And.intro hbt5 (And.intro hm5 hc5))
                clear hbt5 hm5 hc5 c0 f0 s0 hcc
                go_wp2_with fail
                go_roundg (nd.kids.length - (0 + 1))
                case measure => omega
                case rel => exact ⟨0 + 1, L2, P2, S' ++ Q, (d' : Int), rfl, by omega, by simp, rfl, fun e => by omega, fun _ => by omega, H5.out.1, H5.out.2.1, HR.out.2.1, HR.out.2.2.2.2.2.1, by rw [HR.out.2.2.1, HR.out.2.2.2.1]; simp, by rw [HR.out.2.2.2.2.1]; exact ⟨Z ++ Q, by simp⟩, HR.out.2.2.2.2.2.2.1, HR.out.2.2.2.2.2.2.2, Chg.trans HJ.out.chg H5.out.2.2 fun _ _ e => e⟩
              · obtain ⟨j, rfl⟩ : ∃ j, i = j + 1 := ⟨i - 1, by omega⟩
                have hbv : bv = (d' : Int) := by have := hbv1 (by omega); omega
                subst hbv
                clear hbv0 hbv1
                obtain ⟨aj, haj⟩ : ∃ aj, nd.keys[j]? = some aj := ⟨_, List.getElem?_eq_getElem (by omega)⟩
                have hjl : j < nd.keys.length := by omega
                by_cases hlk : j + 1 < nd.keys.length
                · skip
                  obtain ⟨c, M1, Q, a, v, L2, P2, hci, hTc, ha, hv, hmem, hL2, hP2, hrest2⟩ := HJ.out.rest.inner hvl' hcl hlk
                  have hsr := HJ.out.srt
                  rw [hL2] at hsr
                  obtain ⟨q1, q2, q3⟩ := srt_app.1 hsr
                  obtain ⟨q4, q5⟩ := List.pairwise_cons.1 q2
                  have hsr2 : Srt L2 := q5
                  have hlb2 : ∀ y ∈ L2, ∀ k, (if (j + 1) + 1 = 0 then lo else nd.keys[(j + 1) + 1 - 1]?) = some k → k < y.1 := fun y hy k hk => by
                    rw [if_neg (by omega), Nat.add_sub_cancel, ha] at hk
                    cases hk
                    exact q4 y hy
                  have hub2 : ∀ y ∈ L2, ∀ k, hi = some k → y.1 < k := fun y hy k hk => HJ.out.ub y (by rw [hL2]; exact List.mem_append_right _ (List.mem_cons_of_mem _ hy)) k hk
                  have hup : ∀ y ∈ M1, ∀ k, some a = some k → y.1 < k := fun y hy k hk => by cases hk; exact q3 y hy (a, v) List.mem_cons_self
                  have hsM1 : Srt M1 := q1
                  have hmm1 : ∀ y ∈ M1, y ∈ L' := fun y hy => by rw [hL2]; exact List.mem_append_left _ hy
                  clear hsr q1 q2 q3 q4 q5 hmem hv
                  have hNc : ∀ j, N j → ¬ (F j ∨ j = sb) := fun j hj e => e.elim (H3.out.2.2.2.1 j hj).1 (H3.out.2.2.2.1 j hj).2.1
                  have hWc : Chg (fun j => F j ∨ j = sb) W3 wr := Grew.then H4.out.1 HJ.out.chg
                  have hb5 := HB.out.1.chg hWc (hNc _ HB.out.2.2.2.1)
                  obtain ⟨gc, oc, rfl, hgc, hxc⟩ := HB.out.2.2.1.2 (by omega)
                  have hcc : wr.cell? ⟨gc, oc + (j + 1), none⟩ = some (.int .i64 c) := (hWc.cell (p := ⟨gc, oc + (j + 1), none⟩) hgc (hNc _ (HB.out.2.2.2.2.2 ⟨gc, oc, none⟩ rfl))).trans (hxc ((j + 1)) _ (by simp [nv, hci]))
                  obtain ⟨gk, ok, rfl, hgk, hxk⟩ := HB.out.2.1.2 (by omega)
                  have hNk := HB.out.2.2.2.2.1 ⟨gk, ok, none⟩ rfl
                  have hkp : ∀ (m : Nat) (z : Int), nd.keys[m]? = some z → BP wr F sb (.pointer (some ⟨gk, ok + m, none⟩)) (some z) := fun m z hz => ⟨_, rfl, (hWc.cell (p := ⟨gk, ok + m, none⟩) hgk (hNc _ hNk)).trans (hxk m _ (by simp [iv, hz])), Nat.lt_of_lt_of_le hgk hWc.size, (H3.out.2.2.2.1 gk hNk).1, (H3.out.2.2.2.1 gk hNk).2.1⟩
                  obtain ⟨Z, hZ⟩ := HJ.out.pre
                  have hpg := HJ.out.pg
                  have hPM : PM = q :: (Z ++ P') := by
                    rw [hZ] at hpg
                    have : S ++ PM = S ++ (q :: (Z ++ P')) := by rw [hpg]; simp
                    exact List.append_cancel_left this
                  have hroot : root ∉ Q := fun e => by
                    have hin : root ∈ Z ++ P' := by rw [hP2]; simp [e]
                    rcases H.out.2.1 with h | h
                    · have h1 := (List.nodup_append.1 H.out.2.2.1).2.1
                      rw [hPM] at h1
                      exact (List.nodup_cons.1 h1).1 (h ▸ hin)
                    · exact h.1 (by rw [hPM]; exact List.mem_cons_of_mem _ hin)
                  have hnp2 : (S' ++ Q).Nodup := by
                    have h1 := H.out.2.2.1
                    rw [hpg, hP2, ← List.append_assoc] at h1
                    exact List.Nodup.sublist (List.sublist_append_left _ _) h1
                  have hsl2 : (S' ++ Q).length ≤ 100000 := by
                    have h1 := H.out.2.2.2.1
                    rw [hpg, hP2] at h1
                    simp only [List.length_append] at h1 ⊢
                    omega
                  have hdp2 : deep + 1 + d' ≤ 40 := by omega
                  have hrec := IH.out d' (by omega) c M1 Q S' (some aj) (some a) (.pointer (some ⟨gk, ok + j, none⟩)) (.pointer (some ⟨gk, ok + (j + 1), none⟩)) (deep + 1) wr hTc.1 (.inr ⟨hroot, hTc.2⟩) hnp2 hsl2 hsM1 (fun y hy k hk => HJ.out.lb y (hmm1 y hy) k (by rw [if_neg (by omega), Nat.add_sub_cancel, haj]; exact hk)) hup (hkp j aj haj) (hkp (j + 1) a ha) hdp2 HJ.out.bt HJ.out.mp
                  have t5 : decide (((j : Int) + 1) < (nd.keys.length : Int)) = true := decide_eq_true (by omega)
                  clear hup hsM1 hmm1 ha hTc haj
                  rw [show ((deep + 1 : Nat) : Int) = (deep : Int) + 1 from by omega] at hrec
                  obtain ⟨c0, f0, s0⟩ := hb5.facts
                  have hic : ((j : Int) + 1 : Int) < (nd.kids.length : Int) := by omega
                  have hic2 : (j + 1) < nd.kids.length := by omega
                  have HR := Lib.hid (And.intro hrec (And.intro hrest2 (And.intro hpg (And.intro hP2 (And.intro hZ (And.intro hsr2 (And.intro hlb2 hub2)))))))
                  clear hcl hvl'
                  (try clear hje)
                  clear hrec hrest2 hpg hP2 hZ hsr2 hlb2 hub2 hroot hnp2 hsl2 hkp hPM hxk hxc hgc hgk hNk hNc hWc hb5 hci
                  go_wp2_with fail
                  refine HR.out.1.mono ?_
                  rintro e w5 ⟨rfl, hbt5, hm5, hc5⟩
                  have H5 := Lib.hid (And.intro hbt5 (And.intro hm5 hc5))
                  clear hbt5 hm5 hc5 c0 f0 s0 hcc
                  go_wp2_with fail
                  go_roundg (nd.kids.length - ((j + 1) + 1))
                  case measure => omega
                  case rel => exact ⟨(j + 1) + 1, L2, P2, S' ++ Q, (d' : Int), rfl, by omega, by simp, rfl, fun e => by omega, fun _ => by omega, H5.out.1, H5.out.2.1, HR.out.2.1, HR.out.2.2.2.2.2.1, by rw [HR.out.2.2.1, HR.out.2.2.2.1]; simp, by rw [HR.out.2.2.2.2.1]; exact ⟨Z ++ Q, by simp⟩, HR.out.2.2.2.2.2.2.1, HR.out.2.2.2.2.2.2.2, Chg.trans HJ.out.chg H5.out.2.2 fun _ _ e => e⟩
                · have hje : nd.keys.length = j + 1 := by omega
                  obtain ⟨c, hci, hTc, hrest2⟩ := (show Rest x.nd (halfN x.sz) (d' + 1) nd nd.keys.length L' P' from hje ▸ HJ.out.rest).inner_end hvl' hcl
                  rw [hje] at hci hrest2
                  obtain ⟨Q, hQ⟩ : ∃ Q, P' = Q := ⟨_, rfl⟩
                  obtain ⟨P2, hP20⟩ : ∃ P2 : List Nat, P2 = [] := ⟨_, rfl⟩
                  obtain ⟨L2, hL20⟩ : ∃ L2 : List KV, L2 = [] := ⟨_, rfl⟩
                  have hP2 : P' = Q ++ P2 := by rw [hP20, List.append_nil]; exact hQ
                  rw [← hP20, ← hL20] at hrest2
                  rw [hQ] at hTc
                  have hsr2 : Srt L2 := by rw [hL20]; exact List.Pairwise.nil
                  have hlb2 : ∀ y ∈ L2, ∀ k, (if j + 1 + 1 = 0 then lo else nd.keys[j + 1 + 1 - 1]?) = some k → k < y.1 := fun y hy => by rw [hL20] at hy; cases hy
                  have hub2 : ∀ y ∈ L2, ∀ k, hi = some k → y.1 < k := fun y hy => by rw [hL20] at hy; cases hy
                  have hNc : ∀ j, N j → ¬ (F j ∨ j = sb) := fun j hj e => e.elim (H3.out.2.2.2.1 j hj).1 (H3.out.2.2.2.1 j hj).2.1
                  have hWc : Chg (fun j => F j ∨ j = sb) W3 wr := Grew.then H4.out.1 HJ.out.chg
                  have hb5 := HB.out.1.chg hWc (hNc _ HB.out.2.2.2.1)
                  obtain ⟨gc, oc, rfl, hgc, hxc⟩ := HB.out.2.2.1.2 (by omega)
                  have hcc : wr.cell? ⟨gc, oc + (j + 1), none⟩ = some (.int .i64 c) := (hWc.cell (p := ⟨gc, oc + (j + 1), none⟩) hgc (hNc _ (HB.out.2.2.2.2.2 ⟨gc, oc, none⟩ rfl))).trans (hxc ((j + 1)) _ (by simp [nv, hci]))
                  obtain ⟨gk, ok, rfl, hgk, hxk⟩ := HB.out.2.1.2 (by omega)
                  have hNk := HB.out.2.2.2.2.1 ⟨gk, ok, none⟩ rfl
                  have hkp : ∀ (m : Nat) (z : Int), nd.keys[m]? = some z → BP wr F sb (.pointer (some ⟨gk, ok + m, none⟩)) (some z) := fun m z hz => ⟨_, rfl, (hWc.cell (p := ⟨gk, ok + m, none⟩) hgk (hNc _ hNk)).trans (hxk m _ (by simp [iv, hz])), Nat.lt_of_lt_of_le hgk hWc.size, (H3.out.2.2.2.1 gk hNk).1, (H3.out.2.2.2.1 gk hNk).2.1⟩
                  obtain ⟨Z, hZ⟩ := HJ.out.pre
                  have hpg := HJ.out.pg
                  have hPM : PM = q :: (Z ++ P') := by
                    rw [hZ] at hpg
                    have : S ++ PM = S ++ (q :: (Z ++ P')) := by rw [hpg]; simp
                    exact List.append_cancel_left this
                  have hroot : root ∉ Q := fun e => by
                    have hin : root ∈ Z ++ P' := by rw [hP2]; simp [e]
                    rcases H.out.2.1 with h | h
                    · have h1 := (List.nodup_append.1 H.out.2.2.1).2.1
                      rw [hPM] at h1
                      exact (List.nodup_cons.1 h1).1 (h ▸ hin)
                    · exact h.1 (by rw [hPM]; exact List.mem_cons_of_mem _ hin)
                  have hnp2 : (S' ++ Q).Nodup := by
                    have h1 := H.out.2.2.1
                    rw [hpg, hP2, ← List.append_assoc] at h1
                    exact List.Nodup.sublist (List.sublist_append_left _ _) h1
                  have hsl2 : (S' ++ Q).length ≤ 100000 := by
                    have h1 := H.out.2.2.2.1
                    rw [hpg, hP2] at h1
                    simp only [List.length_append] at h1 ⊢
                    omega
                  have hdp2 : deep + 1 + d' ≤ 40 := by omega
                  have hrec := IH.out d' (by omega) c L' Q S' (some aj) hi (.pointer (some ⟨gk, ok + j, none⟩)) vhi (deep + 1) wr hTc.1 (.inr ⟨hroot, hTc.2⟩) hnp2 hsl2 HJ.out.srt (fun y hy k hk => HJ.out.lb y hy k (by rw [if_neg (by omega), Nat.add_sub_cancel, haj]; exact hk)) (fun y hy k hk => HJ.out.ub y hy k hk) (hkp j aj haj) (H4.out.2.2.2.2.chg HJ.out.chg) hdp2 HJ.out.bt HJ.out.mp
                  have t5 : decide (((j : Int) + 1) < (nd.keys.length : Int)) = false := decide_eq_false (by omega)
                  clear hTc haj hQ hP20 hL20
                  rw [show ((deep + 1 : Nat) : Int) = (deep : Int) + 1 from by omega] at hrec
                  obtain ⟨c0, f0, s0⟩ := hb5.facts
                  have hic : ((j : Int) + 1 : Int) < (nd.kids.length : Int) := by omega
                  have hic2 : (j + 1) < nd.kids.length := by omega
                  have HR := Lib.hid (And.intro hrec (And.intro hrest2 (And.intro hpg (And.intro hP2 (And.intro hZ (And.intro hsr2 (And.intro hlb2 hub2)))))))
                  clear hcl hvl'
                  (try clear hje)
                  clear hrec hrest2 hpg hP2 hZ hsr2 hlb2 hub2 hroot hnp2 hsl2 hkp hPM hxk hxc hgc hgk hNk hNc hWc hb5 hci
                  go_wp2_with fail
                  refine HR.out.1.mono ?_
                  rintro e w5 ⟨rfl, hbt5, hm5, hc5⟩
                  have H5 := Lib.hid (And.intro hbt5 (And.intro hm5 hc5))
                  clear hbt5 hm5 hc5 c0 f0 s0 hcc
                  go_wp2_with fail
                  go_roundg (nd.kids.length - ((j + 1) + 1))
                  case measure => omega
                  case rel => exact ⟨(j + 1) + 1, L2, P2, S' ++ Q, (d' : Int), rfl, by omega, by simp, rfl, fun e => by omega, fun _ => by omega, H5.out.1, H5.out.2.1, HR.out.2.1, HR.out.2.2.2.2.2.1, by rw [HR.out.2.2.1, HR.out.2.2.2.1]; simp, by rw [HR.out.2.2.2.2.1]; exact ⟨Z ++ Q, by simp⟩, HR.out.2.2.2.2.2.2.1, HR.out.2.2.2.2.2.2.2, Chg.trans HJ.out.chg H5.out.2.2 fun _ _ e => e⟩
            · obtain rfl : i = nd.kids.length := by omega
              have hfin : S' = S ++ PM := by
                have hpg := HJ.out.pg
                have : P' = [] := by
                  rcases HJ.out.rest with ⟨e1, e2, e3⟩ | ⟨-, -, e⟩
                  · cases d with
                    | zero => exact (e2 rfl).2
                    | succ d =>
                      have := H.out.2.2.2.2.2.2.2.2.2.2.2.2.1.1.kids.resolve_left (fun e => by have := HX.out.2.1.1 e; omega)
                      omega
                  · exact e
                rw [hpg, this, List.append_nil]
              have hbd : bv + 1 = (d : Int) := by
                by_cases hk0 : nd.kids.length = 0
                · have := hbv0 hk0; have := HX.out.2.1.1 hk0; omega
                · have := hbv1 (by omega); omega
              have HE := Lib.hid hfin
              have hbd2 : bv = (d : Int) - 1 := by omega
              subst hbd2
              clear hfin hbd hbv0 hbv1
              go_wp2_with fail
              go_ret2
              have h := HJ.out
              refine ⟨?_, h.bt, HE.out ▸ h.mp, Chg.trans H4.out.2.2.1 h.chg fun _ _ e => e⟩
              congr 4
    · have hl1 : 1 ≤ nd.keys.length := by
        cases d with
        | zero => exact absurd (HX.out.2.1.2 rfl) h0
        | succ d => obtain ⟨nd', P', g1, -, -, g4, -⟩ := H.out.1; rw [H.out.2.2.2.2.2.2.2.2.2.2.2.1] at g1; cases g1; exact g4
      have hk1 : 1 ≤ nd.kids.length := by omega
      have m1 : min (nd.kids.length : Int) 1 = 1 := by omega
      have u0 : decide ((nd.keys.length : Int) < min (nd.kids.length : Int) 1) = false := decide_eq_false (by omega)
      have u1 : decide ((nd.keys.length : Int) < (1 : Int)) = false := decide_eq_false (by omega)
      have u2 : decide (2 * (halfN x.sz : Int) - 1 < (nd.keys.length : Int)) = false := decide_eq_false (by omega)
      have Hq := Lib.hid (And.intro hqr h0)
      clear hqr h0
      go_wp2_with fail
      refine (H3.out.2.2.2.2.1 W3 H3.out.1).mono ?_
      rintro e w4 ⟨rfl, rfl⟩
      go_wp2_with fail
      go_quiet ((go_at_call 71; exact Calls.quiet_of_same ((H3.out.2.2.2.2.1 _ (H3.out.1.grew ((Chg.refl _ _).drewN _))).mono fun _ _ h => ⟨h.1, h.2.symm⟩)))
      go_wp2_with fail

      obtain ⟨W4, hW4⟩ : ∃ W, W3.drewN nq = W := ⟨_, rfl⟩
      rw [hW4]
      have hg4 : Grew W3 W4 := hW4 ▸ (Chg.refl NoF W3).drewN nq
      have hk4 := HB.out.2.1.grew hg4
      have hc4 : Chg (fun j => F j ∨ j = sb) w W4 := H3.out.2.2.1.grew hg4
      have H4 := Lib.hid (And.intro hg4 (And.intro hk4 (And.intro hc4 (And.intro (H.out.2.2.2.2.2.2.2.1.chg hc4) (H.out.2.2.2.2.2.2.2.2.1.chg hc4)))))
      clear hg4 hk4 hc4 hW4
      go_loopg [87] (nd.keys.length) (fun n iv wr => ∃ i : Nat, n = nd.keys.length - i ∧ i ≤ nd.keys.length ∧ iv = .int .i64 i ∧ wr = W4)
      case atStart => exact ⟨0, by simp, Nat.zero_le _, rfl, rfl⟩
      case round =>
        obtain ⟨i, rfl, hil, rfl, hwr⟩ := hrel
        replace hwr := hwr.symm
        subst hwr
        by_cases hlt : i < nd.keys.length
        · obtain ⟨a, ha⟩ : ∃ a, nd.keys[i]? = some a := ⟨_, List.getElem?_eq_getElem hlt⟩
          obtain ⟨gk, ok, rfl, hgk, hxk⟩ := H4.out.2.1.2 (by omega)
          have hck : W4.cell? ⟨gk, ok + i, none⟩ = some (.int .i64 a) := hxk i _ (by simp [iv, ha])
          have hall := H.out.2.2.2.2.2.2.2.2.2.2.2.2.2.2.2.2.1 a (List.mem_of_getElem? ha)
          have hahi := H.out.2.2.2.2.2.2.2.2.2.2.2.2.2.2.2.2.2.1 a (List.mem_of_getElem? ha)
          have hpl := H4.out.2.2.2.1
          have hph := H4.out.2.2.2.2
          have hcb := (HB.out.1.grew H4.out.1).cell 1
          have hi2 : (i : Int) < (nd.keys.length : Int) := by omega
          cases lo with
          | none =>
            obtain rfl : vlo = .pointer none := hpl
            cases hi with
            | none =>
              obtain rfl : vhi = .pointer none := hph
              by_cases hz : i = 0
              · obtain rfl : i = 0 := hz
                rw [Nat.add_zero] at hck
                clear hall hahi hxk hgk
                go_wp2_with fail
                go_roundg (nd.keys.length - (0 + 1))
                case measure => omega
                case rel => exact ⟨0 + 1, rfl, by omega, by simp, rfl⟩
              · obtain ⟨j, rfl⟩ : ∃ j, i = j + 1 := ⟨i - 1, by omega⟩
                obtain ⟨a', ha'⟩ : ∃ a', nd.keys[j]? = some a' := ⟨_, List.getElem?_eq_getElem (by omega)⟩
                have hck' : W4.cell? ⟨gk, ok + j, none⟩ = some (.int .i64 a') := hxk j _ (by simp [iv, ha'])
                have hlt' : a' < a := by
                  obtain ⟨p1, e1⟩ := List.getElem?_eq_some_iff.1 ha
                  obtain ⟨p2, e2⟩ := List.getElem?_eq_some_iff.1 ha'
                  have := List.pairwise_iff_getElem.1 H.out.2.2.2.2.2.2.2.2.2.2.2.2.2.1 j (j + 1) p2 p1 (by omega)
                  rw [e1, e2] at this
                  exact this
                have t9 : decide (a ≤ a') = false := decide_eq_false (by omega)
                clear hall hahi hxk hgk ha' hlt'
                go_wp2_with fail
                go_roundg (nd.keys.length - ((j + 1) + 1))
                case measure => omega
                case rel => exact ⟨(j + 1) + 1, rfl, by omega, by simp, rfl⟩
            | some kh =>
              obtain ⟨ah, rfl, hch, -⟩ := hph
              have t8 : decide (kh ≤ a) = false := decide_eq_false (by have := hahi kh rfl; omega)
              by_cases hz : i = 0
              · obtain rfl : i = 0 := hz
                rw [Nat.add_zero] at hck
                clear hall hahi hxk hgk
                go_wp2_with fail
                go_roundg (nd.keys.length - (0 + 1))
                case measure => omega
                case rel => exact ⟨0 + 1, rfl, by omega, by simp, rfl⟩
              · obtain ⟨j, rfl⟩ : ∃ j, i = j + 1 := ⟨i - 1, by omega⟩
                obtain ⟨a', ha'⟩ : ∃ a', nd.keys[j]? = some a' := ⟨_, List.getElem?_eq_getElem (by omega)⟩
                have hck' : W4.cell? ⟨gk, ok + j, none⟩ = some (.int .i64 a') := hxk j _ (by simp [iv, ha'])
                have hlt' : a' < a := by
                  obtain ⟨p1, e1⟩ := List.getElem?_eq_some_iff.1 ha
                  obtain ⟨p2, e2⟩ := List.getElem?_eq_some_iff.1 ha'
                  have := List.pairwise_iff_getElem.1 H.out.2.2.2.2.2.2.2.2.2.2.2.2.2.1 j (j + 1) p2 p1 (by omega)
                  rw [e1, e2] at this
                  exact this
                have t9 : decide (a ≤ a') = false := decide_eq_false (by omega)
                clear hall hahi hxk hgk ha' hlt'
                go_wp2_with fail
                go_roundg (nd.keys.length - ((j + 1) + 1))
                case measure => omega
                case rel => exact ⟨(j + 1) + 1, rfl, by omega, by simp, rfl⟩
          | some kl =>
            obtain ⟨al, rfl, hcl, -⟩ := hpl
            have t7 : decide (a ≤ kl) = false := decide_eq_false (by have := hall kl rfl; omega)
            cases hi with
            | none =>
              obtain rfl : vhi = .pointer none := hph
              by_cases hz : i = 0
              · obtain rfl : i = 0 := hz
                rw [Nat.add_zero] at hck
                clear hall hahi hxk hgk
                go_wp2_with fail
                go_roundg (nd.keys.length - (0 + 1))
                case measure => omega
                case rel => exact ⟨0 + 1, rfl, by omega, by simp, rfl⟩
              · obtain ⟨j, rfl⟩ : ∃ j, i = j + 1 := ⟨i - 1, by omega⟩
                obtain ⟨a', ha'⟩ : ∃ a', nd.keys[j]? = some a' := ⟨_, List.getElem?_eq_getElem (by omega)⟩
                have hck' : W4.cell? ⟨gk, ok + j, none⟩ = some (.int .i64 a') := hxk j _ (by simp [iv, ha'])
                have hlt' : a' < a := by
                  obtain ⟨p1, e1⟩ := List.getElem?_eq_some_iff.1 ha
                  obtain ⟨p2, e2⟩ := List.getElem?_eq_some_iff.1 ha'
                  have := List.pairwise_iff_getElem.1 H.out.2.2.2.2.2.2.2.2.2.2.2.2.2.1 j (j + 1) p2 p1 (by omega)
                  rw [e1, e2] at this
                  exact this
                have t9 : decide (a ≤ a') = false := decide_eq_false (by omega)
                clear hall hahi hxk hgk ha' hlt'
                go_wp2_with fail
                go_roundg (nd.keys.length - ((j + 1) + 1))
                case measure => omega
                case rel => exact ⟨(j + 1) + 1, rfl, by omega, by simp, rfl⟩
            | some kh =>
              obtain ⟨ah, rfl, hch, -⟩ := hph
              have t8 : decide (kh ≤ a) = false := decide_eq_false (by have := hahi kh rfl; omega)
              by_cases hz : i = 0
              · obtain rfl : i = 0 := hz
                rw [Nat.add_zero] at hck
                clear hall hahi hxk hgk
                go_wp2_with fail
                go_roundg (nd.keys.length - (0 + 1))
                case measure => omega
                case rel => exact ⟨0 + 1, rfl, by omega, by simp, rfl⟩
              · obtain ⟨j, rfl⟩ : ∃ j, i = j + 1 := ⟨i - 1, by omega⟩
                obtain ⟨a', ha'⟩ : ∃ a', nd.keys[j]? = some a' := ⟨_, List.getElem?_eq_getElem (by omega)⟩
                have hck' : W4.cell? ⟨gk, ok + j, none⟩ = some (.int .i64 a') := hxk j _ (by simp [iv, ha'])
                have hlt' : a' < a := by
                  obtain ⟨p1, e1⟩ := List.getElem?_eq_some_iff.1 ha
                  obtain ⟨p2, e2⟩ := List.getElem?_eq_some_iff.1 ha'
                  have := List.pairwise_iff_getElem.1 H.out.2.2.2.2.2.2.2.2.2.2.2.2.2.1 j (j + 1) p2 p1 (by omega)
                  rw [e1, e2] at this
                  exact this
                have t9 : decide (a ≤ a') = false := decide_eq_false (by omega)
                clear hall hahi hxk hgk ha' hlt'
                go_wp2_with fail
                go_roundg (nd.keys.length - ((j + 1) + 1))
                case measure => omega
                case rel => exact ⟨(j + 1) + 1, rfl, by omega, by simp, rfl⟩
        · obtain rfl : i = nd.keys.length := by omega
          obtain ⟨c1', c2', c3'⟩ : True ∧ True ∧ True := ⟨trivial, trivial, trivial⟩
          clear hlt c1' c2' c3'
          have hn4 := H3.out.2.1.grew H4.out.1
          have hb4 := H3.out.1.grew H4.out.1
          have hstart : ∃ A L0 P0, M = A ++ L0 ∧ PM = q :: P0 ∧ Rest x.nd (halfN x.sz) d nd 0 L0 P0 := by
            cases d with
            | zero =>
              obtain ⟨nd', g1, g2, g3, g4, g5, g6⟩ := H.out.1
              rw [H.out.2.2.2.2.2.2.2.2.2.2.2.1] at g1
              cases g1
              exact ⟨[], M, [], rfl, g6, .inl ⟨Nat.zero_le _, fun _ => ⟨by rw [g5]; rfl, rfl⟩, fun d' e => by omega⟩⟩
            | succ d =>
              obtain ⟨nd', P', g1, g2, g3, g4, g5, g6⟩ := H.out.1
              rw [H.out.2.2.2.2.2.2.2.2.2.2.2.1] at g1
              cases g1
              exact ⟨[], M, P', rfl, g6, .inl ⟨Nat.zero_le _, fun e => by omega, fun d' e => by cases e; exact g5⟩⟩
          obtain ⟨A0, L0, P0, r1, r2, r3⟩ := hstart
          have hsL : Srt L0 := H.out.2.2.2.2.1.sub (by rw [r1]; exact List.sublist_append_right _ _)
          have hJ0 : LkJ W4 W4 t p root sb b q d nd F x lo hi S PM 0 L0 P0 (S ++ [q]) := ⟨hb4, H3.out.2.2.2.2.2.chg H4.out.1 id, r3, hsL, by rw [r2]; simp, ⟨[], rfl⟩, fun y hy k hk => H.out.2.2.2.2.2.1 y (by rw [r1]; exact List.mem_append_right _ hy) k (by simpa using hk), fun y hy k hk => H.out.2.2.2.2.2.2.1 y (by rw [r1]; exact List.mem_append_right _ hy) k hk, Chg.refl _ _⟩
          have hMi : ∀ y ∈ L0, y ∈ M := fun y hy => by rw [r1]; exact List.mem_append_right _ hy
          have HJ0 := Lib.hid (And.intro hJ0 (And.intro hn4 r2))
          obtain ⟨Ak5, ck5, Av5, cv5, Ac5, cc5, bB5, sK5, -, sC5, -⟩ := hn4.at
          clear hn4 hb4 r1 r2 r3 hsL hJ0 hMi bB5 sK5 sC5
          have hcb := (HB.out.1.grew H4.out.1).cell 3
          go_wp2_with fail
          go_loopg [19, 134] (nd.kids.length) (fun n bl iv wr => ∃ (i : Nat) (L' : List KV) (P' S' : List Nat) (bv : Int), n = nd.kids.length - i ∧ i ≤ nd.kids.length ∧ bl = .int .i64 bv ∧ iv = .int .i64 i ∧ (i = 0 → bv = -1) ∧ (0 < i → bv = (d : Int) - 1) ∧ LkJ W4 wr t p root sb b q d nd F x lo hi S PM i L' P' S')
          case atStart => exact ⟨0, L0, P0, S ++ [q], -1, by simp, Nat.zero_le _, rfl, rfl, fun _ => rfl, fun h => by omega, HJ0.out.1⟩
          case round =>
            obtain ⟨i, L', P', S', bv, rfl, hil, rfl, rfl, hbv0, hbv1, hJ⟩ := hrel
            have HJ := Lib.hid hJ
            clear hJ hcb
            by_cases hlt : i < nd.kids.length
            · obtain ⟨d', rfl⟩ : ∃ d', d = d' + 1 := ⟨d - 1, by have hd0 : d ≠ 0 := (fun e => by have := HX.out.2.1.2 e; omega); omega⟩
              have hcl : nd.kids.length = nd.keys.length + 1 := H.out.2.2.2.2.2.2.2.2.2.2.2.2.1.1.kids.resolve_left (by omega)
              have hvl' := H.out.2.2.2.2.2.2.2.2.2.2.2.2.2.2.2.2.2.2
              have hk1 : 1 ≤ nd.keys.length := by
                obtain ⟨nd', P1, g1, -, -, g4, -⟩ := H.out.1
                rw [H.out.2.2.2.2.2.2.2.2.2.2.2.1] at g1
                cases g1
                exact g4
              by_cases hz : i = 0
              · obtain rfl : i = 0 := hz
                have hbv : bv = -1 := hbv0 rfl
                subst hbv
                clear hbv0 hbv1
                obtain ⟨c, M1, Q, a, v, L2, P2, hci, hTc, ha, hv, hmem, hL2, hP2, hrest2⟩ := HJ.out.rest.inner hvl' hcl (by omega)
                have hsr := HJ.out.srt
                rw [hL2] at hsr
                obtain ⟨q1, q2, q3⟩ := srt_app.1 hsr
                obtain ⟨q4, q5⟩ := List.pairwise_cons.1 q2
                have hsr2 : Srt L2 := q5
                have hlb2 : ∀ y ∈ L2, ∀ k, (if 0 + 1 = 0 then lo else nd.keys[0 + 1 - 1]?) = some k → k < y.1 := fun y hy k hk => by
                  rw [if_neg (by omega), Nat.add_sub_cancel, ha] at hk
                  cases hk
                  exact q4 y hy
                have hub2 : ∀ y ∈ L2, ∀ k, hi = some k → y.1 < k := fun y hy k hk => HJ.out.ub y (by rw [hL2]; exact List.mem_append_right _ (List.mem_cons_of_mem _ hy)) k hk
                have hup : ∀ y ∈ M1, ∀ k, some a = some k → y.1 < k := fun y hy k hk => by cases hk; exact q3 y hy (a, v) List.mem_cons_self
                have hsM1 : Srt M1 := q1
                have hmm1 : ∀ y ∈ M1, y ∈ L' := fun y hy => by rw [hL2]; exact List.mem_append_left _ hy
                clear hsr q1 q2 q3 q4 q5 hmem hv
                have hNc : ∀ j, N j → ¬ (F j ∨ j = sb) := fun j hj e => e.elim (H3.out.2.2.2.1 j hj).1 (H3.out.2.2.2.1 j hj).2.1
                have hWc : Chg (fun j => F j ∨ j = sb) W3 wr := Grew.then H4.out.1 HJ.out.chg
                have hb5 := HB.out.1.chg hWc (hNc _ HB.out.2.2.2.1)
                obtain ⟨gc, oc, rfl, hgc, hxc⟩ := HB.out.2.2.1.2 (by omega)
                have hcc : wr.cell? ⟨gc, oc + 0, none⟩ = some (.int .i64 c) := (hWc.cell (p := ⟨gc, oc + 0, none⟩) hgc (hNc _ (HB.out.2.2.2.2.2 ⟨gc, oc, none⟩ rfl))).trans (hxc (0) _ (by simp [nv, hci]))
                obtain ⟨gk, ok, rfl, hgk, hxk⟩ := HB.out.2.1.2 (by omega)
                have hNk := HB.out.2.2.2.2.1 ⟨gk, ok, none⟩ rfl
                have hkp : ∀ (m : Nat) (z : Int), nd.keys[m]? = some z → BP wr F sb (.pointer (some ⟨gk, ok + m, none⟩)) (some z) := fun m z hz => ⟨_, rfl, (hWc.cell (p := ⟨gk, ok + m, none⟩) hgk (hNc _ hNk)).trans (hxk m _ (by simp [iv, hz])), Nat.lt_of_lt_of_le hgk hWc.size, (H3.out.2.2.2.1 gk hNk).1, (H3.out.2.2.2.1 gk hNk).2.1⟩
                obtain ⟨Z, hZ⟩ := HJ.out.pre
                have hpg := HJ.out.pg
                have hPM : PM = q :: (Z ++ P') := by
                  rw [hZ] at hpg
                  have : S ++ PM = S ++ (q :: (Z ++ P')) := by rw [hpg]; simp
                  exact List.append_cancel_left this
                have hroot : root ∉ Q := fun e => by
                  have hin : root ∈ Z ++ P' := by rw [hP2]; simp [e]
                  rcases H.out.2.1 with h | h
                  · have h1 := (List.nodup_append.1 H.out.2.2.1).2.1
                    rw [hPM] at h1
                    exact (List.nodup_cons.1 h1).1 (h ▸ hin)
                  · exact h.1 (by rw [hPM]; exact List.mem_cons_of_mem _ hin)
                have hnp2 : (S' ++ Q).Nodup := by
                  have h1 := H.out.2.2.1
                  rw [hpg, hP2, ← List.append_assoc] at h1
                  exact List.Nodup.sublist (List.sublist_append_left _ _) h1
                have hsl2 : (S' ++ Q).length ≤ 100000 := by
                  have h1 := H.out.2.2.2.1
                  rw [hpg, hP2] at h1
                  simp only [List.length_append] at h1 ⊢
                  omega
                have hdp2 : deep + 1 + d' ≤ 40 := by omega
                have hrec := IH.out d' (by omega) c M1 Q S' lo (some a) vlo (.pointer (some ⟨gk, ok + 0, none⟩)) (deep + 1) wr hTc.1 (.inr ⟨hroot, hTc.2⟩) hnp2 hsl2 hsM1 (fun y hy k hk => HJ.out.lb y (hmm1 y hy) k (by simpa using hk)) hup (H4.out.2.2.2.1.chg HJ.out.chg) (hkp 0 a ha) hdp2 HJ.out.bt HJ.out.mp
                rw [Nat.add_zero] at hrec hcc
                have t5 : decide ((0 : Int) < (nd.keys.length : Int)) = true := decide_eq_true (by omega)
                have t5' : 0 < nd.keys.length := by omega
                clear hup hsM1 hmm1 ha hTc
                rw [show ((deep + 1 : Nat) : Int) = (deep : Int) + 1 from by omega] at hrec
                obtain ⟨c0, f0, s0⟩ := hb5.facts
                have hic : (0 : Int) < (nd.kids.length : Int) := by omega
                have hic2 : 0 < nd.kids.length := by omega
                have HR := Lib.hid (And.intro hrec (And.intro hrest2 (And.intro hpg (And.intro hP2 (And.intro hZ (And.intro hsr2 (And.intro hlb2 hub2)))))))
                clear hcl hvl'
                (try clear hje)
                clear hrec hrest2 hpg hP2 hZ hsr2 hlb2 hub2 hroot hnp2 hsl2 hkp hPM hxk hxc hgc hgk hNk hNc hWc hb5 hci
                go_wp2_with fail
                refine HR.out.1.mono ?_
                rintro e w5 ⟨rfl, hbt5, hm5, hc5⟩
                have H5 := Lib.hid (And.intro hbt5 (And.intro hm5 hc5))
                clear hbt5 hm5 hc5 c0 f0 s0 hcc
                go_wp2_with fail
                go_roundg (nd.kids.length - (0 + 1))
                case measure => omega
                case rel => exact ⟨0 + 1, L2, P2, S' ++ Q, (d' : Int), rfl, by omega, by simp, rfl, fun e => by omega, fun _ => by omega, H5.out.1, H5.out.2.1, HR.out.2.1, HR.out.2.2.2.2.2.1, by rw [HR.out.2.2.1, HR.out.2.2.2.1]; simp, by rw [HR.out.2.2.2.2.1]; exact ⟨Z ++ Q, by simp⟩, HR.out.2.2.2.2.2.2.1, HR.out.2.2.2.2.2.2.2, Chg.trans HJ.out.chg H5.out.2.2 fun _ _ e => e⟩
              · obtain ⟨j, rfl⟩ : ∃ j, i = j + 1 := ⟨i - 1, by omega⟩
                have hbv : bv = (d' : Int) := by have := hbv1 (by omega); omega
                subst hbv
                clear hbv0 hbv1
                obtain ⟨aj, haj⟩ : ∃ aj, nd.keys[j]? = some aj := ⟨_, List.getElem?_eq_getElem (by omega)⟩
                have hjl : j < nd.keys.length := by omega
                by_cases hlk : j + 1 < nd.keys.length
                · skip
                  obtain ⟨c, M1, Q, a, v, L2, P2, hci, hTc, ha, hv, hmem, hL2, hP2, hrest2⟩ := HJ.out.rest.inner hvl' hcl hlk
                  have hsr := HJ.out.srt
                  rw [hL2] at hsr
                  obtain ⟨q1, q2, q3⟩ := srt_app.1 hsr
                  obtain ⟨q4, q5⟩ := List.pairwise_cons.1 q2
                  have hsr2 : Srt L2 := q5
                  have hlb2 : ∀ y ∈ L2, ∀ k, (if (j + 1) + 1 = 0 then lo else nd.keys[(j + 1) + 1 - 1]?) = some k → k < y.1 := fun y hy k hk => by
                    rw [if_neg (by omega), Nat.add_sub_cancel, ha] at hk
                    cases hk
                    exact q4 y hy
                  have hub2 : ∀ y ∈ L2, ∀ k, hi = some k → y.1 < k := fun y hy k hk => HJ.out.ub y (by rw [hL2]; exact List.mem_append_right _ (List.mem_cons_of_mem _ hy)) k hk
                  have hup : ∀ y ∈ M1, ∀ k, some a = some k → y.1 < k := fun y hy k hk => by cases hk; exact q3 y hy (a, v) List.mem_cons_self
                  have hsM1 : Srt M1 := q1
                  have hmm1 : ∀ y ∈ M1, y ∈ L' := fun y hy => by rw [hL2]; exact List.mem_append_left _ hy
                  clear hsr q1 q2 q3 q4 q5 hmem hv
                  have hNc : ∀ j, N j → ¬ (F j ∨ j = sb) := fun j hj e => e.elim (H3.out.2.2.2.1 j hj).1 (H3.out.2.2.2.1 j hj).2.1
                  have hWc : Chg (fun j => F j ∨ j = sb) W3 wr := Grew.then H4.out.1 HJ.out.chg
                  have hb5 := HB.out.1.chg hWc (hNc _ HB.out.2.2.2.1)
                  obtain ⟨gc, oc, rfl, hgc, hxc⟩ := HB.out.2.2.1.2 (by omega)
                  have hcc : wr.cell? ⟨gc, oc + (j + 1), none⟩ = some (.int .i64 c) := (hWc.cell (p := ⟨gc, oc + (j + 1), none⟩) hgc (hNc _ (HB.out.2.2.2.2.2 ⟨gc, oc, none⟩ rfl))).trans (hxc ((j + 1)) _ (by simp [nv, hci]))
                  obtain ⟨gk, ok, rfl, hgk, hxk⟩ := HB.out.2.1.2 (by omega)
                  have hNk := HB.out.2.2.2.2.1 ⟨gk, ok, none⟩ rfl
                  have hkp : ∀ (m : Nat) (z : Int), nd.keys[m]? = some z → BP wr F sb (.pointer (some ⟨gk, ok + m, none⟩)) (some z) := fun m z hz => ⟨_, rfl, (hWc.cell (p := ⟨gk, ok + m, none⟩) hgk (hNc _ hNk)).trans (hxk m _ (by simp [iv, hz])), Nat.lt_of_lt_of_le hgk hWc.size, (H3.out.2.2.2.1 gk hNk).1, (H3.out.2.2.2.1 gk hNk).2.1⟩
                  obtain ⟨Z, hZ⟩ := HJ.out.pre
                  have hpg := HJ.out.pg
                  have hPM : PM = q :: (Z ++ P') := by
                    rw [hZ] at hpg
                    have : S ++ PM = S ++ (q :: (Z ++ P')) := by rw [hpg]; simp
                    exact List.append_cancel_left this
                  have hroot : root ∉ Q := fun e => by
                    have hin : root ∈ Z ++ P' := by rw [hP2]; simp [e]
                    rcases H.out.2.1 with h | h
                    · have h1 := (List.nodup_append.1 H.out.2.2.1).2.1
                      rw [hPM] at h1
                      exact (List.nodup_cons.1 h1).1 (h ▸ hin)
                    · exact h.1 (by rw [hPM]; exact List.mem_cons_of_mem _ hin)
                  have hnp2 : (S' ++ Q).Nodup := by
                    have h1 := H.out.2.2.1
                    rw [hpg, hP2, ← List.append_assoc] at h1
                    exact List.Nodup.sublist (List.sublist_append_left _ _) h1
                  have hsl2 : (S' ++ Q).length ≤ 100000 := by
                    have h1 := H.out.2.2.2.1
                    rw [hpg, hP2] at h1
                    simp only [List.length_append] at h1 ⊢
                    omega
                  have hdp2 : deep + 1 + d' ≤ 40 := by omega
                  have hrec := IH.out d' (by omega) c M1 Q S' (some aj) (some a) (.pointer (some ⟨gk, ok + j, none⟩)) (.pointer (some ⟨gk, ok + (j + 1), none⟩)) (deep + 1) wr hTc.1 (.inr ⟨hroot, hTc.2⟩) hnp2 hsl2 hsM1 (fun y hy k hk => HJ.out.lb y (hmm1 y hy) k (by rw [if_neg (by omega), Nat.add_sub_cancel, haj]; exact hk)) hup (hkp j aj haj) (hkp (j + 1) a ha) hdp2 HJ.out.bt HJ.out.mp
                  have t5 : decide (((j : Int) + 1) < (nd.keys.length : Int)) = true := decide_eq_true (by omega)
                  clear hup hsM1 hmm1 ha hTc haj
                  rw [show ((deep + 1 : Nat) : Int) = (deep : Int) + 1 from by omega] at hrec
                  obtain ⟨c0, f0, s0⟩ := hb5.facts
                  have hic : ((j : Int) + 1 : Int) < (nd.kids.length : Int) := by omega
                  have hic2 : (j + 1) < nd.kids.length := by omega
                  have HR := Lib.hid (And.intro hrec (And.intro hrest2 (And.intro hpg (And.intro hP2 (And.intro hZ (And.intro hsr2 (And.intro hlb2 hub2)))))))
                  clear hcl hvl'
                  (try clear hje)
                  clear hrec hrest2 hpg hP2 hZ hsr2 hlb2 hub2 hroot hnp2 hsl2 hkp hPM hxk hxc hgc hgk hNk hNc hWc hb5 hci
                  go_wp2_with fail
                  refine HR.out.1.mono ?_
                  rintro e w5 ⟨rfl, hbt5, hm5, hc5⟩
                  have H5 := Lib.hid (And.intro hbt5 (And.intro hm5 hc5))
                  clear hbt5 hm5 hc5 c0 f0 s0 hcc
                  go_wp2_with fail
                  go_roundg (nd.kids.length - ((j + 1) + 1))
                  case measure => omega
                  case rel => exact ⟨(j + 1) + 1, L2, P2, S' ++ Q, (d' : Int), rfl, by omega, by simp, rfl, fun e => by omega, fun _ => by omega, H5.out.1, H5.out.2.1, HR.out.2.1, HR.out.2.2.2.2.2.1, by rw [HR.out.2.2.1, HR.out.2.2.2.1]; simp, by rw [HR.out.2.2.2.2.1]; exact ⟨Z ++ Q, by simp⟩, HR.out.2.2.2.2.2.2.1, HR.out.2.2.2.2.2.2.2, Chg.trans HJ.out.chg H5.out.2.2 fun _ _ e => e⟩
                · have hje : nd.keys.length = j + 1 := by omega
                  obtain ⟨c, hci, hTc, hrest2⟩ := (show Rest x.nd (halfN x.sz) (d' + 1) nd nd.keys.length L' P' from hje ▸ HJ.out.rest).inner_end hvl' hcl
                  rw [hje] at hci hrest2
                  obtain ⟨Q, hQ⟩ : ∃ Q, P' = Q := ⟨_, rfl⟩
                  obtain ⟨P2, hP20⟩ : ∃ P2 : List Nat, P2 = [] := ⟨_, rfl⟩
                  obtain ⟨L2, hL20⟩ : ∃ L2 : List KV, L2 = [] := ⟨_, rfl⟩
                  have hP2 : P' = Q ++ P2 := by rw [hP20, List.append_nil]; exact hQ
                  rw [← hP20, ← hL20] at hrest2
                  rw [hQ] at hTc
                  have hsr2 : Srt L2 := by rw [hL20]; exact List.Pairwise.nil
                  have hlb2 : ∀ y ∈ L2, ∀ k, (if j + 1 + 1 = 0 then lo else nd.keys[j + 1 + 1 - 1]?) = some k → k < y.1 := fun y hy => by rw [hL20] at hy; cases hy
                  have hub2 : ∀ y ∈ L2, ∀ k, hi = some k → y.1 < k := fun y hy => by rw [hL20] at hy; cases hy
                  have hNc : ∀ j, N j → ¬ (F j ∨ j = sb) := fun j hj e => e.elim (H3.out.2.2.2.1 j hj).1 (H3.out.2.2.2.1 j hj).2.1
                  have hWc : Chg (fun j => F j ∨ j = sb) W3 wr := Grew.then H4.out.1 HJ.out.chg
                  have hb5 := HB.out.1.chg hWc (hNc _ HB.out.2.2.2.1)
                  obtain ⟨gc, oc, rfl, hgc, hxc⟩ := HB.out.2.2.1.2 (by omega)
                  have hcc : wr.cell? ⟨gc, oc + (j + 1), none⟩ = some (.int .i64 c) := (hWc.cell (p := ⟨gc, oc + (j + 1), none⟩) hgc (hNc _ (HB.out.2.2.2.2.2 ⟨gc, oc, none⟩ rfl))).trans (hxc ((j + 1)) _ (by simp [nv, hci]))
                  obtain ⟨gk, ok, rfl, hgk, hxk⟩ := HB.out.2.1.2 (by omega)
                  have hNk := HB.out.2.2.2.2.1 ⟨gk, ok, none⟩ rfl
                  have hkp : ∀ (m : Nat) (z : Int), nd.keys[m]? = some z → BP wr F sb (.pointer (some ⟨gk, ok + m, none⟩)) (some z) := fun m z hz => ⟨_, rfl, (hWc.cell (p := ⟨gk, ok + m, none⟩) hgk (hNc _ hNk)).trans (hxk m _ (by simp [iv, hz])), Nat.lt_of_lt_of_le hgk hWc.size, (H3.out.2.2.2.1 gk hNk).1, (H3.out.2.2.2.1 gk hNk).2.1⟩
                  obtain ⟨Z, hZ⟩ := HJ.out.pre
                  have hpg := HJ.out.pg
                  have hPM : PM = q :: (Z ++ P') := by
                    rw [hZ] at hpg
                    have : S ++ PM = S ++ (q :: (Z ++ P')) := by rw [hpg]; simp
                    exact List.append_cancel_left this
                  have hroot : root ∉ Q := fun e => by
                    have hin : root ∈ Z ++ P' := by rw [hP2]; simp [e]
                    rcases H.out.2.1 with h | h
                    · have h1 := (List.nodup_append.1 H.out.2.2.1).2.1
                      rw [hPM] at h1
                      exact (List.nodup_cons.1 h1).1 (h ▸ hin)
                    · exact h.1 (by rw [hPM]; exact List.mem_cons_of_mem _ hin)
                  have hnp2 : (S' ++ Q).Nodup := by
                    have h1 := H.out.2.2.1
                    rw [hpg, hP2, ← List.append_assoc] at h1
                    exact List.Nodup.sublist (List.sublist_append_left _ _) h1
                  have hsl2 : (S' ++ Q).length ≤ 100000 := by
                    have h1 := H.out.2.2.2.1
                    rw [hpg, hP2] at h1
                    simp only [List.length_append] at h1 ⊢
                    omega
                  have hdp2 : deep + 1 + d' ≤ 40 := by omega
                  have hrec := IH.out d' (by omega) c L' Q S' (some aj) hi (.pointer (some ⟨gk, ok + j, none⟩)) vhi (deep + 1) wr hTc.1 (.inr ⟨hroot, hTc.2⟩) hnp2 hsl2 HJ.out.srt (fun y hy k hk => HJ.out.lb y hy k (by rw [if_neg (by omega), Nat.add_sub_cancel, haj]; exact hk)) (fun y hy k hk => HJ.out.ub y hy k hk) (hkp j aj haj) (H4.out.2.2.2.2.chg HJ.out.chg) hdp2 HJ.out.bt HJ.out.mp
                  have t5 : decide (((j : Int) + 1) < (nd.keys.length : Int)) = false := decide_eq_false (by omega)
                  clear hTc haj hQ hP20 hL20
                  rw [show ((deep + 1 : Nat) : Int) = (deep : Int) + 1 from by omega] at hrec
                  obtain ⟨c0, f0, s0⟩ := hb5.facts
                  have hic : ((j : Int) + 1 : Int) < (nd.kids.length : Int) := by omega
                  have hic2 : (j + 1) < nd.kids.length := by omega
                  have HR := Lib.hid (And.intro hrec (And.intro hrest2 (And.intro hpg (And.intro hP2 (And.intro hZ (And.intro hsr2 (And.intro hlb2 hub2)))))))
                  clear hcl hvl'
                  (try clear hje)
                  clear hrec hrest2 hpg hP2 hZ hsr2 hlb2 hub2 hroot hnp2 hsl2 hkp hPM hxk hxc hgc hgk hNk hNc hWc hb5 hci
                  go_wp2_with fail
                  refine HR.out.1.mono ?_
                  rintro e w5 ⟨rfl, hbt5, hm5, hc5⟩
                  have H5 := Lib.hid (And.intro hbt5 (And.intro hm5 hc5))
                  clear hbt5 hm5 hc5 c0 f0 s0 hcc
                  go_wp2_with fail
                  go_roundg (nd.kids.length - ((j + 1) + 1))
                  case measure => omega
                  case rel => exact ⟨(j + 1) + 1, L2, P2, S' ++ Q, (d' : Int), rfl, by omega, by simp, rfl, fun e => by omega, fun _ => by omega, H5.out.1, H5.out.2.1, HR.out.2.1, HR.out.2.2.2.2.2.1, by rw [HR.out.2.2.1, HR.out.2.2.2.1]; simp, by rw [HR.out.2.2.2.2.1]; exact ⟨Z ++ Q, by simp⟩, HR.out.2.2.2.2.2.2.1, HR.out.2.2.2.2.2.2.2, Chg.trans HJ.out.chg H5.out.2.2 fun _ _ e => e⟩
            · obtain rfl : i = nd.kids.length := by omega
              have hfin : S' = S ++ PM := by
                have hpg := HJ.out.pg
                have : P' = [] := by
                  rcases HJ.out.rest with ⟨e1, e2, e3⟩ | ⟨-, -, e⟩
                  · cases d with
                    | zero => exact (e2 rfl).2
                    | succ d =>
                      have := H.out.2.2.2.2.2.2.2.2.2.2.2.2.1.1.kids.resolve_left (fun e => by have := HX.out.2.1.1 e; omega)
                      omega
                  · exact e
                rw [hpg, this, List.append_nil]
              have hbd : bv + 1 = (d : Int) := by
                by_cases hk0 : nd.kids.length = 0
                · have := hbv0 hk0; have := HX.out.2.1.1 hk0; omega
                · have := hbv1 (by omega); omega
              have HE := Lib.hid hfin
              have hbd2 : bv = (d : Int) - 1 := by omega
              subst hbd2
              clear hfin hbd hbv0 hbv1
              go_wp2_with fail
              go_ret2
              have h := HJ.out
              refine ⟨?_, h.bt, HE.out ▸ h.mp, Chg.trans H4.out.2.2.1 h.chg fun _ _ e => e⟩
              congr 4
  · have tq : ((q : Int) == (root : Int)) = false := by simp; omega
    have hnk : halfN x.sz - 1 ≤ nd.keys.length := by
      have := (H.out.2.1.resolve_left hqr).2
      rwa [nk_eq H.out.2.2.2.2.2.2.2.2.2.2.2.1] at this
    have u1 : decide ((nd.keys.length : Int) < (halfN x.sz : Int) - 1) = false := decide_eq_false (by omega)
    have u2 : decide (2 * (halfN x.sz : Int) - 1 < (nd.keys.length : Int)) = false := decide_eq_false (by omega)
    have Hq := Lib.hid hqr
    clear hqr
    go_wp2_with fail
    refine (H3.out.2.2.2.2.1 W3 H3.out.1).mono ?_
    rintro e w4 ⟨rfl, rfl⟩
    go_wp2_with fail
    go_quiet ((go_at_call 71; exact Calls.quiet_of_same ((H3.out.2.2.2.2.1 _ (H3.out.1.grew ((Chg.refl _ _).drewN _))).mono fun _ _ h => ⟨h.1, h.2.symm⟩)))
    go_wp2_with fail

    obtain ⟨W4, hW4⟩ : ∃ W, W3.drewN nq = W := ⟨_, rfl⟩
    rw [hW4]
    have hg4 : Grew W3 W4 := hW4 ▸ (Chg.refl NoF W3).drewN nq
    have hk4 := HB.out.2.1.grew hg4
    have hc4 : Chg (fun j => F j ∨ j = sb) w W4 := H3.out.2.2.1.grew hg4
    have H4 := Lib.hid (And.intro hg4 (And.intro hk4 (And.intro hc4 (And.intro (H.out.2.2.2.2.2.2.2.1.chg hc4) (H.out.2.2.2.2.2.2.2.2.1.chg hc4)))))
    clear hg4 hk4 hc4 hW4
    go_loopg [87] (nd.keys.length) (fun n iv wr => ∃ i : Nat, n = nd.keys.length - i ∧ i ≤ nd.keys.length ∧ iv = .int .i64 i ∧ wr = W4)
    case atStart => exact ⟨0, by simp, Nat.zero_le _, rfl, rfl⟩
    case round =>
      obtain ⟨i, rfl, hil, rfl, hwr⟩ := hrel
      replace hwr := hwr.symm
      subst hwr
      by_cases hlt : i < nd.keys.length
      · obtain ⟨a, ha⟩ : ∃ a, nd.keys[i]? = some a := ⟨_, List.getElem?_eq_getElem hlt⟩
        obtain ⟨gk, ok, rfl, hgk, hxk⟩ := H4.out.2.1.2 (by omega)
        have hck : W4.cell? ⟨gk, ok + i, none⟩ = some (.int .i64 a) := hxk i _ (by simp [iv, ha])
        have hall := H.out.2.2.2.2.2.2.2.2.2.2.2.2.2.2.2.2.1 a (List.mem_of_getElem? ha)
        have hahi := H.out.2.2.2.2.2.2.2.2.2.2.2.2.2.2.2.2.2.1 a (List.mem_of_getElem? ha)
        have hpl := H4.out.2.2.2.1
        have hph := H4.out.2.2.2.2
        have hcb := (HB.out.1.grew H4.out.1).cell 1
        have hi2 : (i : Int) < (nd.keys.length : Int) := by omega
        cases lo with
        | none =>
          obtain rfl : vlo = .pointer none := hpl
          cases hi with
          | none =>
            obtain rfl : vhi = .pointer none := hph
            by_cases hz : i = 0
            · obtain rfl : i = 0 := hz
              rw [Nat.add_zero] at hck
              clear hall hahi hxk hgk
              go_wp2_with fail
              go_roundg (nd.keys.length - (0 + 1))
              case measure => omega
              case rel => exact ⟨0 + 1, rfl, by omega, by simp, rfl⟩
            · obtain ⟨j, rfl⟩ : ∃ j, i = j + 1 := ⟨i - 1, by omega⟩
              obtain ⟨a', ha'⟩ : ∃ a', nd.keys[j]? = some a' := ⟨_, List.getElem?_eq_getElem (by omega)⟩
              have hck' : W4.cell? ⟨gk, ok + j, none⟩ = some (.int .i64 a') := hxk j _ (by simp [iv, ha'])
              have hlt' : a' < a := by
                obtain ⟨p1, e1⟩ := List.getElem?_eq_some_iff.1 ha
                obtain ⟨p2, e2⟩ := List.getElem?_eq_some_iff.1 ha'
                have := List.pairwise_iff_getElem.1 H.out.2.2.2.2.2.2.2.2.2.2.2.2.2.1 j (j + 1) p2 p1 (by omega)
                rw [e1, e2] at this
                exact this
              have t9 : decide (a ≤ a') = false := decide_eq_false (by omega)
              clear hall hahi hxk hgk ha' hlt'
              go_wp2_with fail
              go_roundg (nd.keys.length - ((j + 1) + 1))
              case measure => omega
              case rel => exact ⟨(j + 1) + 1, rfl, by omega, by simp, rfl⟩
          | some kh =>
            obtain ⟨ah, rfl, hch, -⟩ := hph
            have t8 : decide (kh ≤ a) = false := decide_eq_false (by have := hahi kh rfl; omega)
            by_cases hz : i = 0
            · obtain rfl : i = 0 := hz
              rw [Nat.add_zero] at hck
              clear hall hahi hxk hgk
              go_wp2_with fail
              go_roundg (nd.keys.length - (0 + 1))
              case measure => omega
              case rel => exact ⟨0 + 1, rfl, by omega, by simp, rfl⟩
            · obtain ⟨j, rfl⟩ : ∃ j, i = j + 1 := ⟨i - 1, by omega⟩
              obtain ⟨a', ha'⟩ : ∃ a', nd.keys[j]? = some a' := ⟨_, List.getElem?_eq_getElem (by omega)⟩
              have hck' : W4.cell? ⟨gk, ok + j, none⟩ = some (.int .i64 a') := hxk j _ (by simp [iv, ha'])
              have hlt' : a' < a := by
                obtain ⟨p1, e1⟩ := List.getElem?_eq_some_iff.1 ha
                obtain ⟨p2, e2⟩ := List.getElem?_eq_some_iff.1 ha'
                have := List.pairwise_iff_getElem.1 H.out.2.2.2.2.2.2.2.2.2.2.2.2.2.1 j (j + 1) p2 p1 (by omega)
                rw [e1, e2] at this
                exact this
              have t9 : decide (a ≤ a') = false := decide_eq_false (by omega)
              clear hall hahi hxk hgk ha' hlt'
              go_wp2_with fail
              go_roundg (nd.keys.length - ((j + 1) + 1))
              case measure => omega
              case rel => exact ⟨(j + 1) + 1, rfl, by omega, by simp, rfl⟩
        | some kl =>
          obtain ⟨al, rfl, hcl, -⟩ := hpl
          have t7 : decide (a ≤ kl) = false := decide_eq_false (by have := hall kl rfl; omega)
          cases hi with
          | none =>
            obtain rfl : vhi = .pointer none := hph
            by_cases hz : i = 0
            · obtain rfl : i = 0 := hz
              rw [Nat.add_zero] at hck
              clear hall hahi hxk hgk
              go_wp2_with fail
              go_roundg (nd.keys.length - (0 + 1))
              case measure => omega
              case rel => exact ⟨0 + 1, rfl, by omega, by simp, rfl⟩
            · obtain ⟨j, rfl⟩ : ∃ j, i = j + 1 := ⟨i - 1, by omega⟩
              obtain ⟨a', ha'⟩ : ∃ a', nd.keys[j]? = some a' := ⟨_, List.getElem?_eq_getElem (by omega)⟩
              have hck' : W4.cell? ⟨gk, ok + j, none⟩ = some (.int .i64 a') := hxk j _ (by simp [iv, ha'])
              have hlt' : a' < a := by
                obtain ⟨p1, e1⟩ := List.getElem?_eq_some_iff.1 ha
                obtain ⟨p2, e2⟩ := List.getElem?_eq_some_iff.1 ha'
                have := List.pairwise_iff_getElem.1 H.out.2.2.2.2.2.2.2.2.2.2.2.2.2.1 j (j + 1) p2 p1 (by omega)
                rw [e1, e2] at this
                exact this
              have t9 : decide (a ≤ a') = false := decide_eq_false (by omega)
              clear hall hahi hxk hgk ha' hlt'
              go_wp2_with fail
              go_roundg (nd.keys.length - ((j + 1) + 1))
              case measure => omega
              case rel => exact ⟨(j + 1) + 1, rfl, by omega, by simp, rfl⟩
          | some kh =>
            obtain ⟨ah, rfl, hch, -⟩ := hph
            have t8 : decide (kh ≤ a) = false := decide_eq_false (by have := hahi kh rfl; omega)
            by_cases hz : i = 0
            · obtain rfl : i = 0 := hz
              rw [Nat.add_zero] at hck
              clear hall hahi hxk hgk
              go_wp2_with fail
              go_roundg (nd.keys.length - (0 + 1))
              case measure => omega
              case rel => exact ⟨0 + 1, rfl, by omega, by simp, rfl⟩
            · obtain ⟨j, rfl⟩ : ∃ j, i = j + 1 := ⟨i - 1, by omega⟩
              obtain ⟨a', ha'⟩ : ∃ a', nd.keys[j]? = some a' := ⟨_, List.getElem?_eq_getElem (by omega)⟩
              have hck' : W4.cell? ⟨gk, ok + j, none⟩ = some (.int .i64 a') := hxk j _ (by simp [iv, ha'])
              have hlt' : a' < a := by
                obtain ⟨p1, e1⟩ := List.getElem?_eq_some_iff.1 ha
                obtain ⟨p2, e2⟩ := List.getElem?_eq_some_iff.1 ha'
                have := List.pairwise_iff_getElem.1 H.out.2.2.2.2.2.2.2.2.2.2.2.2.2.1 j (j + 1) p2 p1 (by omega)
                rw [e1, e2] at this
                exact this
              have t9 : decide (a ≤ a') = false := decide_eq_false (by omega)
              clear hall hahi hxk hgk ha' hlt'
              go_wp2_with fail
              go_roundg (nd.keys.length - ((j + 1) + 1))
              case measure => omega
              case rel => exact ⟨(j + 1) + 1, rfl, by omega, by simp, rfl⟩
      · obtain rfl : i = nd.keys.length := by omega
        obtain ⟨c1', c2', c3'⟩ : True ∧ True ∧ True := ⟨trivial, trivial, trivial⟩
        clear hlt c1' c2' c3'
        have hn4 := H3.out.2.1.grew H4.out.1
        have hb4 := H3.out.1.grew H4.out.1
        have hstart : ∃ A L0 P0, M = A ++ L0 ∧ PM = q :: P0 ∧ Rest x.nd (halfN x.sz) d nd 0 L0 P0 := by
          cases d with
          | zero =>
            obtain ⟨nd', g1, g2, g3, g4, g5, g6⟩ := H.out.1
            rw [H.out.2.2.2.2.2.2.2.2.2.2.2.1] at g1
            cases g1
            exact ⟨[], M, [], rfl, g6, .inl ⟨Nat.zero_le _, fun _ => ⟨by rw [g5]; rfl, rfl⟩, fun d' e => by omega⟩⟩
          | succ d =>
            obtain ⟨nd', P', g1, g2, g3, g4, g5, g6⟩ := H.out.1
            rw [H.out.2.2.2.2.2.2.2.2.2.2.2.1] at g1
            cases g1
            exact ⟨[], M, P', rfl, g6, .inl ⟨Nat.zero_le _, fun e => by omega, fun d' e => by cases e; exact g5⟩⟩
        obtain ⟨A0, L0, P0, r1, r2, r3⟩ := hstart
        have hsL : Srt L0 := H.out.2.2.2.2.1.sub (by rw [r1]; exact List.sublist_append_right _ _)
        have hJ0 : LkJ W4 W4 t p root sb b q d nd F x lo hi S PM 0 L0 P0 (S ++ [q]) := ⟨hb4, H3.out.2.2.2.2.2.chg H4.out.1 id, r3, hsL, by rw [r2]; simp, ⟨[], rfl⟩, fun y hy k hk => H.out.2.2.2.2.2.1 y (by rw [r1]; exact List.mem_append_right _ hy) k (by simpa using hk), fun y hy k hk => H.out.2.2.2.2.2.2.1 y (by rw [r1]; exact List.mem_append_right _ hy) k hk, Chg.refl _ _⟩
        have hMi : ∀ y ∈ L0, y ∈ M := fun y hy => by rw [r1]; exact List.mem_append_right _ hy
        have HJ0 := Lib.hid (And.intro hJ0 (And.intro hn4 r2))
        obtain ⟨Ak5, ck5, Av5, cv5, Ac5, cc5, bB5, sK5, -, sC5, -⟩ := hn4.at
        clear hn4 hb4 r1 r2 r3 hsL hJ0 hMi bB5 sK5 sC5
        have hcb := (HB.out.1.grew H4.out.1).cell 3
        go_wp2_with fail
        go_loopg [19, 134] (nd.kids.length) (fun n bl iv wr => ∃ (i : Nat) (L' : List KV) (P' S' : List Nat) (bv : Int), n = nd.kids.length - i ∧ i ≤ nd.kids.length ∧ bl = .int .i64 bv ∧ iv = .int .i64 i ∧ (i = 0 → bv = -1) ∧ (0 < i → bv = (d : Int) - 1) ∧ LkJ W4 wr t p root sb b q d nd F x lo hi S PM i L' P' S')
        case atStart => exact ⟨0, L0, P0, S ++ [q], -1, by simp, Nat.zero_le _, rfl, rfl, fun _ => rfl, fun h => by omega, HJ0.out.1⟩
        case round =>
          obtain ⟨i, L', P', S', bv, rfl, hil, rfl, rfl, hbv0, hbv1, hJ⟩ := hrel
          have HJ := Lib.hid hJ
          clear hJ hcb
          by_cases hlt : i < nd.kids.length
          · obtain ⟨d', rfl⟩ : ∃ d', d = d' + 1 := ⟨d - 1, by have hd0 : d ≠ 0 := (fun e => by have := HX.out.2.1.2 e; omega); omega⟩
            have hcl : nd.kids.length = nd.keys.length + 1 := H.out.2.2.2.2.2.2.2.2.2.2.2.2.1.1.kids.resolve_left (by omega)
            have hvl' := H.out.2.2.2.2.2.2.2.2.2.2.2.2.2.2.2.2.2.2
            have hk1 : 1 ≤ nd.keys.length := by
              obtain ⟨nd', P1, g1, -, -, g4, -⟩ := H.out.1
              rw [H.out.2.2.2.2.2.2.2.2.2.2.2.1] at g1
              cases g1
              exact g4
            by_cases hz : i = 0
            · obtain rfl : i = 0 := hz
              have hbv : bv = -1 := hbv0 rfl
              subst hbv
              clear hbv0 hbv1
              obtain ⟨c, M1, Q, a, v, L2, P2, hci, hTc, ha, hv, hmem, hL2, hP2, hrest2⟩ := HJ.out.rest.inner hvl' hcl (by omega)
              have hsr := HJ.out.srt
              rw [hL2] at hsr
              obtain ⟨q1, q2, q3⟩ := srt_app.1 hsr
              obtain ⟨q4, q5⟩ := List.pairwise_cons.1 q2
              have hsr2 : Srt L2 := q5
              have hlb2 : ∀ y ∈ L2, ∀ k, (if 0 + 1 = 0 then lo else nd.keys[0 + 1 - 1]?) = some k → k < y.1 := fun y hy k hk => by
                rw [if_neg (by omega), Nat.add_sub_cancel, ha] at hk
                cases hk
                exact q4 y hy
              have hub2 : ∀ y ∈ L2, ∀ k, hi = some k → y.1 < k := fun y hy k hk => HJ.out.ub y (by rw [hL2]; exact List.mem_append_right _ (List.mem_cons_of_mem _ hy)) k hk
              have hup : ∀ y ∈ M1, ∀ k, some a = some k → y.1 < k := fun y hy k hk => by cases hk; exact q3 y hy (a, v) List.mem_cons_self
              have hsM1 : Srt M1 := q1
              have hmm1 : ∀ y ∈ M1, y ∈ L' := fun y hy => by rw [hL2]; exact List.mem_append_left _ hy
              clear hsr q1 q2 q3 q4 q5 hmem hv
              have hNc : ∀ j, N j → ¬ (F j ∨ j = sb) := fun j hj e => e.elim (H3.out.2.2.2.1 j hj).1 (H3.out.2.2.2.1 j hj).2.1
              have hWc : Chg (fun j => F j ∨ j = sb) W3 wr := Grew.then H4.out.1 HJ.out.chg
              have hb5 := HB.out.1.chg hWc (hNc _ HB.out.2.2.2.1)
              obtain ⟨gc, oc, rfl, hgc, hxc⟩ := HB.out.2.2.1.2 (by omega)
              have hcc : wr.cell? ⟨gc, oc + 0, none⟩ = some (.int .i64 c) := (hWc.cell (p := ⟨gc, oc + 0, none⟩) hgc (hNc _ (HB.out.2.2.2.2.2 ⟨gc, oc, none⟩ rfl))).trans (hxc (0) _ (by simp [nv, hci]))
              obtain ⟨gk, ok, rfl, hgk, hxk⟩ := HB.out.2.1.2 (by omega)
              have hNk := HB.out.2.2.2.2.1 ⟨gk, ok, none⟩ rfl
              have hkp : ∀ (m : Nat) (z : Int), nd.keys[m]? = some z → BP wr F sb (.pointer (some ⟨gk, ok + m, none⟩)) (some z) := fun m z hz => ⟨_, rfl, (hWc.cell (p := ⟨gk, ok + m, none⟩) hgk (hNc _ hNk)).trans (hxk m _ (by simp [iv, hz])), Nat.lt_of_lt_of_le hgk hWc.size, (H3.out.2.2.2.1 gk hNk).1, (H3.out.2.2.2.1 gk hNk).2.1⟩
              obtain ⟨Z, hZ⟩ := HJ.out.pre
              have hpg := HJ.out.pg
              have hPM : PM = q :: (Z ++ P') := by
                rw [hZ] at hpg
                have : S ++ PM = S ++ (q :: (Z ++ P')) := by rw [hpg]; simp
                exact List.append_cancel_left this
              have hroot : root ∉ Q := fun e => by
                have hin : root ∈ Z ++ P' := by rw [hP2]; simp [e]
                rcases H.out.2.1 with h | h
                · have h1 := (List.nodup_append.1 H.out.2.2.1).2.1
                  rw [hPM] at h1
                  exact (List.nodup_cons.1 h1).1 (h ▸ hin)
                · exact h.1 (by rw [hPM]; exact List.mem_cons_of_mem _ hin)
              have hnp2 : (S' ++ Q).Nodup := by
                have h1 := H.out.2.2.1
                rw [hpg, hP2, ← List.append_assoc] at h1
                exact List.Nodup.sublist (List.sublist_append_left _ _) h1
              have hsl2 : (S' ++ Q).length ≤ 100000 := by
                have h1 := H.out.2.2.2.1
                rw [hpg, hP2] at h1
                simp only [List.length_append] at h1 ⊢
                omega
              have hdp2 : deep + 1 + d' ≤ 40 := by omega
              have hrec := IH.out d' (by omega) c M1 Q S' lo (some a) vlo (.pointer (some ⟨gk, ok + 0, none⟩)) (deep + 1) wr hTc.1 (.inr ⟨hroot, hTc.2⟩) hnp2 hsl2 hsM1 (fun y hy k hk => HJ.out.lb y (hmm1 y hy) k (by simpa using hk)) hup (H4.out.2.2.2.1.chg HJ.out.chg) (hkp 0 a ha) hdp2 HJ.out.bt HJ.out.mp
              rw [Nat.add_zero] at hrec hcc
              have t5 : decide ((0 : Int) < (nd.keys.length : Int)) = true := decide_eq_true (by omega)
              have t5' : 0 < nd.keys.length := by omega
              clear hup hsM1 hmm1 ha hTc
              rw [show ((deep + 1 : Nat) : Int) = (deep : Int) + 1 from by omega] at hrec
              obtain ⟨c0, f0, s0⟩ := hb5.facts
              have hic : (0 : Int) < (nd.kids.length : Int) := by omega
              have hic2 : 0 < nd.kids.length := by omega
              have HR := Lib.hid (And.intro hrec (And.intro hrest2 (And.intro hpg (And.intro hP2 (And.intro hZ (And.intro hsr2 (And.intro hlb2 hub2)))))))
              clear hcl hvl'
              (try clear hje)
              clear hrec hrest2 hpg hP2 hZ hsr2 hlb2 hub2 hroot hnp2 hsl2 hkp hPM hxk hxc hgc hgk hNk hNc hWc hb5 hci
              go_wp2_with fail
              refine HR.out.1.mono ?_
              rintro e w5 ⟨rfl, hbt5, hm5, hc5⟩
              have H5 := Lib.hid (And.intro hbt5 (And.intro hm5 hc5))
              clear hbt5 hm5 hc5 c0 f0 s0 hcc
              go_wp2_with fail
              go_roundg (nd.kids.length - (0 + 1))
              case measure => omega
              case rel => exact ⟨0 + 1, L2, P2, S' ++ Q, (d' : Int), rfl, by omega, by simp, rfl, fun e => by omega, fun _ => by omega, H5.out.1, H5.out.2.1, HR.out.2.1, HR.out.2.2.2.2.2.1, by rw [HR.out.2.2.1, HR.out.2.2.2.1]; simp, by rw [HR.out.2.2.2.2.1]; exact ⟨Z ++ Q, by simp⟩, HR.out.2.2.2.2.2.2.1, HR.out.2.2.2.2.2.2.2, Chg.trans HJ.out.chg H5.out.2.2 fun _ _ e => e⟩
            · obtain ⟨j, rfl⟩ : ∃ j, i = j + 1 := ⟨i - 1, by omega⟩
              have hbv : bv = (d' : Int) := by have := hbv1 (by omega); omega
              subst hbv
              clear hbv0 hbv1
              obtain ⟨aj, haj⟩ : ∃ aj, nd.keys[j]? = some aj := ⟨_, List.getElem?_eq_getElem (by omega)⟩
              have hjl : j < nd.keys.length := by omega
              by_cases hlk : j + 1 < nd.keys.length
              · skip
                obtain ⟨c, M1, Q, a, v, L2, P2, hci, hTc, ha, hv, hmem, hL2, hP2, hrest2⟩ := HJ.out.rest.inner hvl' hcl hlk
                have hsr := HJ.out.srt
                rw [hL2] at hsr
                obtain ⟨q1, q2, q3⟩ := srt_app.1 hsr
                obtain ⟨q4, q5⟩ := List.pairwise_cons.1 q2
                have hsr2 : Srt L2 := q5
                have hlb2 : ∀ y ∈ L2, ∀ k, (if (j + 1) + 1 = 0 then lo else nd.keys[(j + 1) + 1 - 1]?) = some k → k < y.1 := fun y hy k hk => by
                  rw [if_neg (by omega), Nat.add_sub_cancel, ha] at hk
                  cases hk
                  exact q4 y hy
                have hub2 : ∀ y ∈ L2, ∀ k, hi = some k → y.1 < k := fun y hy k hk => HJ.out.ub y (by rw [hL2]; exact List.mem_append_right _ (List.mem_cons_of_mem _ hy)) k hk
                have hup : ∀ y ∈ M1, ∀ k, some a = some k → y.1 < k := fun y hy k hk => by cases hk; exact q3 y hy (a, v) List.mem_cons_self
                have hsM1 : Srt M1 := q1
                have hmm1 : ∀ y ∈ M1, y ∈ L' := fun y hy => by rw [hL2]; exact List.mem_append_left _ hy
                clear hsr q1 q2 q3 q4 q5 hmem hv
                have hNc : ∀ j, N j → ¬ (F j ∨ j = sb) := fun j hj e => e.elim (H3.out.2.2.2.1 j hj).1 (H3.out.2.2.2.1 j hj).2.1
                have hWc : Chg (fun j => F j ∨ j = sb) W3 wr := Grew.then H4.out.1 HJ.out.chg
                have hb5 := HB.out.1.chg hWc (hNc _ HB.out.2.2.2.1)
                obtain ⟨gc, oc, rfl, hgc, hxc⟩ := HB.out.2.2.1.2 (by omega)
                have hcc : wr.cell? ⟨gc, oc + (j + 1), none⟩ = some (.int .i64 c) := (hWc.cell (p := ⟨gc, oc + (j + 1), none⟩) hgc (hNc _ (HB.out.2.2.2.2.2 ⟨gc, oc, none⟩ rfl))).trans (hxc ((j + 1)) _ (by simp [nv, hci]))
                obtain ⟨gk, ok, rfl, hgk, hxk⟩ := HB.out.2.1.2 (by omega)
                have hNk := HB.out.2.2.2.2.1 ⟨gk, ok, none⟩ rfl
                have hkp : ∀ (m : Nat) (z : Int), nd.keys[m]? = some z → BP wr F sb (.pointer (some ⟨gk, ok + m, none⟩)) (some z) := fun m z hz => ⟨_, rfl, (hWc.cell (p := ⟨gk, ok + m, none⟩) hgk (hNc _ hNk)).trans (hxk m _ (by simp [iv, hz])), Nat.lt_of_lt_of_le hgk hWc.size, (H3.out.2.2.2.1 gk hNk).1, (H3.out.2.2.2.1 gk hNk).2.1⟩
                obtain ⟨Z, hZ⟩ := HJ.out.pre
                have hpg := HJ.out.pg
                have hPM : PM = q :: (Z ++ P') := by
                  rw [hZ] at hpg
                  have : S ++ PM = S ++ (q :: (Z ++ P')) := by rw [hpg]; simp
                  exact List.append_cancel_left this
                have hroot : root ∉ Q := fun e => by
                  have hin : root ∈ Z ++ P' := by rw [hP2]; simp [e]
                  rcases H.out.2.1 with h | h
                  · have h1 := (List.nodup_append.1 H.out.2.2.1).2.1
                    rw [hPM] at h1
                    exact (List.nodup_cons.1 h1).1 (h ▸ hin)
                  · exact h.1 (by rw [hPM]; exact List.mem_cons_of_mem _ hin)
                have hnp2 : (S' ++ Q).Nodup := by
                  have h1 := H.out.2.2.1
                  rw [hpg, hP2, ← List.append_assoc] at h1
                  exact List.Nodup.sublist (List.sublist_append_left _ _) h1
                have hsl2 : (S' ++ Q).length ≤ 100000 := by
                  have h1 := H.out.2.2.2.1
                  rw [hpg, hP2] at h1
                  simp only [List.length_append] at h1 ⊢
                  omega
                have hdp2 : deep + 1 + d' ≤ 40 := by omega
                have hrec := IH.out d' (by omega) c M1 Q S' (some aj) (some a) (.pointer (some ⟨gk, ok + j, none⟩)) (.pointer (some ⟨gk, ok + (j + 1), none⟩)) (deep + 1) wr hTc.1 (.inr ⟨hroot, hTc.2⟩) hnp2 hsl2 hsM1 (fun y hy k hk => HJ.out.lb y (hmm1 y hy) k (by rw [if_neg (by omega), Nat.add_sub_cancel, haj]; exact hk)) hup (hkp j aj haj) (hkp (j + 1) a ha) hdp2 HJ.out.bt HJ.out.mp
                have t5 : decide (((j : Int) + 1) < (nd.keys.length : Int)) = true := decide_eq_true (by omega)
                clear hup hsM1 hmm1 ha hTc haj
                rw [show ((deep + 1 : Nat) : Int) = (deep : Int) + 1 from by omega] at hrec
                obtain ⟨c0, f0, s0⟩ := hb5.facts
                have hic : ((j : Int) + 1 : Int) < (nd.kids.length : Int) := by omega
                have hic2 : (j + 1) < nd.kids.length := by omega
                have HR := Lib.hid (And.intro hrec (And.intro hrest2 (And.intro hpg (And.intro hP2 (And.intro hZ (And.intro hsr2 (And.intro hlb2 hub2)))))))
                clear hcl hvl'
                (try clear hje)
                clear hrec hrest2 hpg hP2 hZ hsr2 hlb2 hub2 hroot hnp2 hsl2 hkp hPM hxk hxc hgc hgk hNk hNc hWc hb5 hci
                go_wp2_with fail
                refine HR.out.1.mono ?_
                rintro e w5 ⟨rfl, hbt5, hm5, hc5⟩
                have H5 := Lib.hid (And.intro hbt5 (And.intro hm5 hc5))
                clear hbt5 hm5 hc5 c0 f0 s0 hcc
                go_wp2_with fail
                go_roundg (nd.kids.length - ((j + 1) + 1))
                case measure => omega
                case rel => exact ⟨(j + 1) + 1, L2, P2, S' ++ Q, (d' : Int), rfl, by omega, by simp, rfl, fun e => by omega, fun _ => by omega, H5.out.1, H5.out.2.1, HR.out.2.1, HR.out.2.2.2.2.2.1, by rw [HR.out.2.2.1, HR.out.2.2.2.1]; simp, by rw [HR.out.2.2.2.2.1]; exact ⟨Z ++ Q, by simp⟩, HR.out.2.2.2.2.2.2.1, HR.out.2.2.2.2.2.2.2, Chg.trans HJ.out.chg H5.out.2.2 fun _ _ e => e⟩
              · have hje : nd.keys.length = j + 1 := by omega
                obtain ⟨c, hci, hTc, hrest2⟩ := (show Rest x.nd (halfN x.sz) (d' + 1) nd nd.keys.length L' P' from hje ▸ HJ.out.rest).inner_end hvl' hcl
                rw [hje] at hci hrest2
                obtain ⟨Q, hQ⟩ : ∃ Q, P' = Q := ⟨_, rfl⟩
                obtain ⟨P2, hP20⟩ : ∃ P2 : List Nat, P2 = [] := ⟨_, rfl⟩
                obtain ⟨L2, hL20⟩ : ∃ L2 : List KV, L2 = [] := ⟨_, rfl⟩
                have hP2 : P' = Q ++ P2 := by rw [hP20, List.append_nil]; exact hQ
                rw [← hP20, ← hL20] at hrest2
                rw [hQ] at hTc
                have hsr2 : Srt L2 := by rw [hL20]; exact List.Pairwise.nil
                have hlb2 : ∀ y ∈ L2, ∀ k, (if j + 1 + 1 = 0 then lo else nd.keys[j + 1 + 1 - 1]?) = some k → k < y.1 := fun y hy => by rw [hL20] at hy; cases hy
                have hub2 : ∀ y ∈ L2, ∀ k, hi = some k → y.1 < k := fun y hy => by rw [hL20] at hy; cases hy
                have hNc : ∀ j, N j → ¬ (F j ∨ j = sb) := fun j hj e => e.elim (H3.out.2.2.2.1 j hj).1 (H3.out.2.2.2.1 j hj).2.1
                have hWc : Chg (fun j => F j ∨ j = sb) W3 wr := Grew.then H4.out.1 HJ.out.chg
                have hb5 := HB.out.1.chg hWc (hNc _ HB.out.2.2.2.1)
                obtain ⟨gc, oc, rfl, hgc, hxc⟩ := HB.out.2.2.1.2 (by omega)
                have hcc : wr.cell? ⟨gc, oc + (j + 1), none⟩ = some (.int .i64 c) := (hWc.cell (p := ⟨gc, oc + (j + 1), none⟩) hgc (hNc _ (HB.out.2.2.2.2.2 ⟨gc, oc, none⟩ rfl))).trans (hxc ((j + 1)) _ (by simp [nv, hci]))
                obtain ⟨gk, ok, rfl, hgk, hxk⟩ := HB.out.2.1.2 (by omega)
                have hNk := HB.out.2.2.2.2.1 ⟨gk, ok, none⟩ rfl
                have hkp : ∀ (m : Nat) (z : Int), nd.keys[m]? = some z → BP wr F sb (.pointer (some ⟨gk, ok + m, none⟩)) (some z) := fun m z hz => ⟨_, rfl, (hWc.cell (p := ⟨gk, ok + m, none⟩) hgk (hNc _ hNk)).trans (hxk m _ (by simp [iv, hz])), Nat.lt_of_lt_of_le hgk hWc.size, (H3.out.2.2.2.1 gk hNk).1, (H3.out.2.2.2.1 gk hNk).2.1⟩
                obtain ⟨Z, hZ⟩ := HJ.out.pre
                have hpg := HJ.out.pg
                have hPM : PM = q :: (Z ++ P') := by
                  rw [hZ] at hpg
                  have : S ++ PM = S ++ (q :: (Z ++ P')) := by rw [hpg]; simp
                  exact List.append_cancel_left this
                have hroot : root ∉ Q := fun e => by
                  have hin : root ∈ Z ++ P' := by rw [hP2]; simp [e]
                  rcases H.out.2.1 with h | h
                  · have h1 := (List.nodup_append.1 H.out.2.2.1).2.1
                    rw [hPM] at h1
                    exact (List.nodup_cons.1 h1).1 (h ▸ hin)
                  · exact h.1 (by rw [hPM]; exact List.mem_cons_of_mem _ hin)
                have hnp2 : (S' ++ Q).Nodup := by
                  have h1 := H.out.2.2.1
                  rw [hpg, hP2, ← List.append_assoc] at h1
                  exact List.Nodup.sublist (List.sublist_append_left _ _) h1
                have hsl2 : (S' ++ Q).length ≤ 100000 := by
                  have h1 := H.out.2.2.2.1
                  rw [hpg, hP2] at h1
                  simp only [List.length_append] at h1 ⊢
                  omega
                have hdp2 : deep + 1 + d' ≤ 40 := by omega
                have hrec := IH.out d' (by omega) c L' Q S' (some aj) hi (.pointer (some ⟨gk, ok + j, none⟩)) vhi (deep + 1) wr hTc.1 (.inr ⟨hroot, hTc.2⟩) hnp2 hsl2 HJ.out.srt (fun y hy k hk => HJ.out.lb y hy k (by rw [if_neg (by omega), Nat.add_sub_cancel, haj]; exact hk)) (fun y hy k hk => HJ.out.ub y hy k hk) (hkp j aj haj) (H4.out.2.2.2.2.chg HJ.out.chg) hdp2 HJ.out.bt HJ.out.mp
                have t5 : decide (((j : Int) + 1) < (nd.keys.length : Int)) = false := decide_eq_false (by omega)
                clear hTc haj hQ hP20 hL20
                rw [show ((deep + 1 : Nat) : Int) = (deep : Int) + 1 from by omega] at hrec
                obtain ⟨c0, f0, s0⟩ := hb5.facts
                have hic : ((j : Int) + 1 : Int) < (nd.kids.length : Int) := by omega
                have hic2 : (j + 1) < nd.kids.length := by omega
                have HR := Lib.hid (And.intro hrec (And.intro hrest2 (And.intro hpg (And.intro hP2 (And.intro hZ (And.intro hsr2 (And.intro hlb2 hub2)))))))
                clear hcl hvl'
                (try clear hje)
                clear hrec hrest2 hpg hP2 hZ hsr2 hlb2 hub2 hroot hnp2 hsl2 hkp hPM hxk hxc hgc hgk hNk hNc hWc hb5 hci
                go_wp2_with fail
                refine HR.out.1.mono ?_
                rintro e w5 ⟨rfl, hbt5, hm5, hc5⟩
                have H5 := Lib.hid (And.intro hbt5 (And.intro hm5 hc5))
                clear hbt5 hm5 hc5 c0 f0 s0 hcc
                go_wp2_with fail
                go_roundg (nd.kids.length - ((j + 1) + 1))
                case measure => omega
                case rel => exact ⟨(j + 1) + 1, L2, P2, S' ++ Q, (d' : Int), rfl, by omega, by simp, rfl, fun e => by omega, fun _ => by omega, H5.out.1, H5.out.2.1, HR.out.2.1, HR.out.2.2.2.2.2.1, by rw [HR.out.2.2.1, HR.out.2.2.2.1]; simp, by rw [HR.out.2.2.2.2.1]; exact ⟨Z ++ Q, by simp⟩, HR.out.2.2.2.2.2.2.1, HR.out.2.2.2.2.2.2.2, Chg.trans HJ.out.chg H5.out.2.2 fun _ _ e => e⟩
          · obtain rfl : i = nd.kids.length := by omega
            have hfin : S' = S ++ PM := by
              have hpg := HJ.out.pg
              have : P' = [] := by
                rcases HJ.out.rest with ⟨e1, e2, e3⟩ | ⟨-, -, e⟩
                · cases d with
                  | zero => exact (e2 rfl).2
                  | succ d =>
                    have := H.out.2.2.2.2.2.2.2.2.2.2.2.2.1.1.kids.resolve_left (fun e => by have := HX.out.2.1.1 e; omega)
                    omega
                · exact e
              rw [hpg, this, List.append_nil]
            have hbd : bv + 1 = (d : Int) := by
              by_cases hk0 : nd.kids.length = 0
              · have := hbv0 hk0; have := HX.out.2.1.1 hk0; omega
              · have := hbv1 (by omega); omega
            have HE := Lib.hid hfin
            have hbd2 : bv = (d : Int) - 1 := by omega
            subst hbd2
            clear hfin hbd hbv0 hbv1
            go_wp2_with fail
            go_ret2
            have h := HJ.out
            refine ⟨?_, h.bt, HE.out ▸ h.mp, Chg.trans H4.out.2.2.1 h.chg fun _ _ e => e⟩
            congr 4
end Go.Proofs.YtpkkcicaeldodaaGreatDoor

/- The tree: Check. -/
namespace Go.Proofs.YtpkkcicaeldodaaGreatDoor
open Go.RowKit Go.Maps

set_option maxRecDepth 100000 in
set_option maxHeartbeats 1600000 in
theorem bcheck_any (t p root D : Nat) (L : List KV) (P : List Nat) (F : Nat → Prop) (x : Rp) (w : World) (hb : BT w t p root F x) (hs : TS x D root L P) (hD : D ≤ 40) (hl : P.length ≤ 100000) :
    Calls Tryz.prog 14 #[.pointer (some ⟨t, 0, none⟩)] w fun e w' => e = .returned (.bool true) ∧ BT w' t p root F x ∧ Chg F w w' := by
  obtain ⟨W1, hW1⟩ : ∃ W, w.alloc (.map #[] 0) = W := ⟨_, rfl⟩
  have hg1 : Grew w W1 := hW1 ▸ (Chg.refl _ _).alloc _
  have hmp : IMap Tryz.prog 3 W1 w.heap.size (sM []) 0 := by
    rw [sM_nil, ← hW1]
    exact IMap.made _ _ _
  have hFl := hb.gp.lt
  have htl := hb.blk.lt
  have hpos := tab_pos hb.gp.tab
  have hlk := blook_any t p root w.heap.size F x ⟨fun e => by have := hFl _ e; omega, by omega, by omega⟩ D root L P [] none none (.pointer none) (.pointer none) 0 W1 hs.tr (.inl rfl) (by simpa using hs.nd) (by simpa using hl) hs.srt (fun _ _ k h => by cases h) (fun _ _ k h => by cases h) rfl rfl (by omega) (hb.grew hg1) hmp
  rw [show ((0 : Nat) : Int) = 0 from rfl] at hlk
  have hmm := @run_makeMap Tryz.prog
  obtain ⟨c0, f0, s0⟩ := (hb.grew hg1).blk.facts
  have c1 := hb.blk.cell 1
  have H := Lib.hid (And.intro hlk (And.intro hW1 (And.intro hg1 hFl)))
  clear hlk hmp hb hs hg1 hW1 hFl
  go_enter Tryz.func14, Tryz.ntmps14
  go_wp2_with (rw [H.out.2.1])
  refine H.out.1.mono ?_
  rintro e w2 ⟨rfl, hb2, -, hc2⟩
  have hc3 : Chg F w w2 := (Chg.trans (F := fun j => F j ∨ j = w.heap.size) H.out.2.2.1.chg hc2 fun j _ e => e).mono fun j hj e => e.resolve_right (by omega)
  have H2 := Lib.hid (And.intro hb2 hc3)
  clear hb2 hc2 hc3 c0 f0 s0
  go_wp2_with fail
  go_ret
  exact ⟨rfl, H2.out⟩
end Go.Proofs.YtpkkcicaeldodaaGreatDoor

/- The tree: At, New. -/
namespace Go.Proofs.YtpkkcicaeldodaaGreatDoor
open Go.RowKit Go.Maps

theorem bat_any (p r : Nat) (w W : World) (hW : w.alloc (.cells #[.pointer (some ⟨p, 0, none⟩), .int .i64 r] 78) = W) :
    Calls Tryz.prog 22 #[.pointer (some ⟨p, 0, none⟩), .int .i64 r] w fun e w' => e = .returned (.pointer (some ⟨w.heap.size, 0, none⟩)) ∧ W = w' := by
  subst hW
  go_enter Tryz.func22, Tryz.ntmps22
  go_wp2
  go_ret
  exact ⟨rfl, rfl⟩
def nd0 : Nd := ⟨[], [], []⟩
theorem nd0_fit (sz : Nat) : nd0.Fit sz := ⟨rfl, Nat.zero_le _, .inl rfl, fun k h => (by cases h), fun k h => (by cases h), fun k h => (by cases h)⟩
/-- What New leaves. -/
def NwOut (w w' : World) (p : Nat) (F : Nat → Prop) (x : Rp) (e : Ending) : Prop :=
  ∃ t r F', e = .returned (.tuple #[.pointer (some ⟨t, 0, none⟩), .int .i64 0]) ∧ x.now[r]? = some .no ∧ BT w' t p r F' ((x.put r .zero).put r (.new (ndL nd0 x.sz))) ∧ Chg F w w' ∧ (∀ j, F' j → F j ∨ w.heap.size ≤ j) ∧ w.heap.size ≤ t
set_option maxRecDepth 100000 in
set_option maxHeartbeats 1600000 in
theorem bnew_any (p : Nat) (F : Nat → Prop) (x : Rp) (w : World) (h : GP w p F x) (ho : x.was ≠ none) (hs : 1 ≤ x.slack) (hn : Pk.no ∈ x.now) :
    Calls Tryz.prog 35 #[.pointer (some ⟨p, 0, none⟩)] w fun e w' => NwOut w w' p F x e := by
  have hal := gp_alloc_any p F x w h ho
  have H := Lib.hid (And.intro hal (And.intro h (And.intro ho (And.intro hs hn))))
  clear hal h ho hs hn
  go_enter Tryz.func35, Tryz.ntmps35
  go_wp2_with fail
  refine H.out.1.mono ?_
  rintro e w1 (⟨r, hr, hrf, rfl, F1, h1, hc1, hn1⟩ | ⟨hno, rfl, -⟩)
  rotate_left
  · exact absurd ⟨by have := H.out.2.2.2.1; omega, H.out.2.2.2.2⟩ hno
  obtain ⟨W2, hW2⟩ : ∃ W, w1.alloc (.cells #[.pointer (some ⟨p, 0, none⟩), .int .i64 r] 78) = W := ⟨_, rfl⟩
  have hr4 : r < 4096 := by have := (List.getElem?_eq_some_iff.1 hr).1; have := H.out.2.1.szs; omega
  have H1 := Lib.hid (And.intro h1 (And.intro hc1 (And.intro hn1 hr)))
  clear h1 hc1 hn1 hr hrf
  go_wp2_with (go_at_call 22; (refine (bat_any p r w1 W2 hW2).mono ?_); rintro e w2 ⟨rfl, rfl⟩)
  have hb2 : Blk W2 w1.heap.size 78 #[.pointer (some ⟨p, 0, none⟩), .int .i64 r] := hW2 ▸ Blk.new _ _ _
  have hg2 : Grew w1 W2 := hW2 ▸ (Chg.refl _ _).alloc _
  have hz2 : W2.heap.size = w1.heap.size + 1 := by subst hW2; simp
  obtain ⟨W3, hW3⟩ : ∃ W, W2.alloc (.cells #[.int .i64 r, .slice none 0 0, .slice none 0 0, .slice none 0 0] 73) = W := ⟨_, rfl⟩
  rw [hW3]
  have hg3 : Grew w1 W3 := hW3 ▸ hg2.alloc _
  have hb3 : Blk W3 W2.heap.size 73 #[.int .i64 r, .slice none 0 0, .slice none 0 0, .slice none 0 0] := hW3 ▸ Blk.new _ _ _
  have hz3 : W3.heap.size = W2.heap.size + 1 := by subst hW3; simp
  have hbt : BT W3 w1.heap.size p r F1 (x.put r .zero) := ⟨H1.out.1.grew hg3, hb2.grew (hW3 ▸ (Chg.refl _ _).alloc _), fun e => by have := H1.out.1.lt _ e; omega⟩
  have hna : NdAt W3 (fun j => j = W2.heap.size) W2.heap.size r nd0 := ⟨none, 0, none, 0, none, 0, hb3, Sl.nil _ _ _, Sl.nil _ _ _, Sl.nil _ _ _, rfl, fun a h => (by cases h), fun a h => (by cases h), fun a h => (by cases h), fun j hj => by omega⟩
  have hil : r < x.now.length := (List.getElem?_eq_some_iff.1 H1.out.2.2.2).1
  have hsv := bsave_any w1.heap.size p r W2.heap.size r F1 (fun j => j = W2.heap.size) (x.put r .zero) .zero nd0 W3 hbt hna (nd0_fit _) H.out.2.2.1 (by rw [Rp.put_at hil, if_pos rfl]) rfl (fun e => by have := H1.out.1.lt _ e; omega)
  have H3 := Lib.hid (And.intro hsv (And.intro hg3 hz3))
  clear hsv hbt hna hb2 hb3 hg2 hg3 hW3 hW2 hz2 hz3 hil
  refine H3.out.1.mono ?_
  rintro e w4 (⟨rfl, F2, k1, k2, k3⟩ | ⟨hns, -, -, -⟩)
  rotate_left
  · have h9 := Rp.put_slack (c := .zero) H.out.2.2.1 H1.out.2.2.2
    simp [Pk.isNew] at h9
    have := H.out.2.2.2.1
    omega
  have H4 := Lib.hid (And.intro k1 (And.intro k2 k3))
  clear k1 k2 k3
  go_wp2_with fail
  go_ret2
  have hs1 := H1.out.2.1.size
  have hs3 := H3.out.2.1.size
  refine ⟨w1.heap.size, r, F2, rfl, H1.out.2.2.2, H4.out.1, Chg.trans (H1.out.2.1.grew H3.out.2.1) H4.out.2.1 fun i hi e => (H1.out.2.2.1 i e).resolve_right (by omega), fun j hj => (H4.out.2.2 j hj).elim (H1.out.2.2.1 j) fun e => .inr (by omega), hs1⟩
end Go.Proofs.YtpkkcicaeldodaaGreatDoor

/- The pager: Open on an empty disk. -/
namespace Go.Proofs.YtpkkcicaeldodaaGreatDoor
open Go.RowKit Go.Maps

set_option maxHeartbeats 800000 in
theorem gopen_range (d : Nat) (F : Nat → Prop) (D : Dk) (w : World) (h : DS w d F D) (hr : D.n < 8 ∨ D.sz < 64) :
    Calls Tryz.prog 33 #[.pointer (some ⟨d, 0, none⟩)] w fun e w' => e = .returned (.tuple #[.pointer none, .int .i64 11]) ∧ w = w' := by
  have H := Lib.hid h
  clear h
  by_cases h8 : D.n < 8
  · have a1 : decide ((D.n : Int) < 8) = true := decide_eq_true (by omega)
    clear hr h8
    go_enter Tryz.func33, Tryz.ntmps33
    go_wp2_with (first
      | (go_at_call 76; (refine (dsectors_any d F D _ H.out).mono ?_); rintro e w1 ⟨rfl, rfl⟩)
      | (go_at_call 77; (refine (dsize_any d F D _ H.out).mono ?_); rintro e w1 ⟨rfl, rfl⟩))
    go_ret2
    exact ⟨rfl, rfl⟩
  · have a1 : decide ((D.n : Int) < 8) = false := decide_eq_false (by omega)
    have a2 : decide ((D.sz : Int) < 64) = true := decide_eq_true (by omega)
    clear hr h8
    go_enter Tryz.func33, Tryz.ntmps33
    go_wp2_with (first
      | (go_at_call 76; (refine (dsectors_any d F D _ H.out).mono ?_); rintro e w1 ⟨rfl, rfl⟩)
      | (go_at_call 77; (refine (dsize_any d F D _ H.out).mono ?_); rintro e w1 ⟨rfl, rfl⟩))
    go_ret2
    exact ⟨rfl, rfl⟩

/-- A new pager. -/
def Gp.fresh (D : Dk) : Gp := { D := D, epoch := 0, row := D.sz / 2, pages := List.replicate (tabN D.n D.sz) 0, table := List.replicate (capN D.n D.sz) 0, free := trn (trn (full D.n) 0) 1, op := none, down := false }

/-- A row of noughts, new since w0. -/
structure NewInts (w0 w : World) (g n : Nat) : Prop where
  blk : Blk w g 3 (nv (List.replicate n 0)).toArray
  new : w0.heap.size ≤ g
structure NewPool (w0 w : World) (b n : Nat) (A : Option Addr) (c : Nat) : Prop where
  p : PIn w b (full n) A c
  new : ∀ j, PF b A j → w0.heap.size ≤ j
theorem NewInts.grew {w0 w w' : World} {g n : Nat} (h : NewInts w0 w g n) (hg : Grew w w') : NewInts w0 w' g n := ⟨h.blk.grew hg, h.new⟩
theorem NewPool.grew {w0 w w' : World} {b n c : Nat} {A : Option Addr} (h : NewPool w0 w b n A c) (hg : Grew w w') : NewPool w0 w' b n A c := ⟨h.p.grew hg, h.new⟩
/-- A new pager, as its parts lie. -/
structure OpenIn (w0 w : World) (p d row T C g1 g2 b n : Nat) (A : Option Addr) (c : Nat) : Prop where
  blk : Blk w p 101 #[.pointer (some ⟨d, 0, none⟩), .int .i64 0, .int .i64 row, .slice (some ⟨g1, 0, none⟩) T T, .slice (some ⟨g2, 0, none⟩) C C, .pointer (some ⟨b, 0, none⟩), .pointer none, .bool false]
  t1 : NewInts w0 w g1 T
  t2 : NewInts w0 w g2 C
  ne : g1 ≠ g2
  pool : NewPool w0 w b n A c
  grew : Grew w0 w
  new : w0.heap.size ≤ p
def OpenJ (w0 : World) (d row T C n : Nat) (v : Value) (w : World) : Prop := ∃ p g1 g2 b A c, v = .pointer (some ⟨p, 0, none⟩) ∧ OpenIn w0 w p d row T C g1 g2 b n A c
theorem openJ_mk {w0 w : World} {d row T C g1 g2 b n c : Nat} {A : Option Addr} {r : Int} (hr : r = (row : Int)) (h1 : NewInts w0 w g1 T) (h2 : NewInts w0 w g2 C) (hne : g1 ≠ g2) (hp : NewPool w0 w b n A c) (hg : Grew w0 w) :
    OpenJ w0 d row T C n (.pointer (some ⟨w.heap.size, 0, none⟩)) (w.alloc (.cells #[.pointer (some ⟨d, 0, none⟩), .int .i64 0, .int .i64 r, .slice (some ⟨g1, 0, none⟩) T T, .slice (some ⟨g2, 0, none⟩) C C, .pointer (some ⟨b, 0, none⟩), .pointer none, .bool false] 101)) := by
  subst hr
  exact ⟨_, g1, g2, b, A, c, rfl, Blk.new _ _ _, h1.grew ((Chg.refl _ _).alloc _), h2.grew ((Chg.refl _ _).alloc _), hne, hp.grew ((Chg.refl _ _).alloc _), hg.alloc _, hg.size⟩

/-- The pool of n sectors, when the first k are marked. -/
def mkd (n : Nat) : Nat → List Bool
  | 0 => full n
  | k + 1 => trn (mkd n k) k
theorem mkd_len (n : Nat) : ∀ k, (mkd n k).length = n
  | 0 => full_len n
  | k + 1 => by rw [mkd, trn, List.length_set]; exact mkd_len n k
theorem mkd_at (n : Nat) : ∀ k j, k ≤ n → (mkd n k).getD j false = (decide (k ≤ j) && decide (j < n))
  | 0, j, _ => by rw [mkd, full_at]; simp
  | k + 1, j, hk => by
    rw [mkd, trn, getD_set _ _ _ _ (by rw [mkd_len]; omega), mkd_at n k k (by omega), mkd_at n k j (by omega)]
    by_cases e : j = k
    · subst e; simp; omega
    · rw [if_neg e]
      by_cases h1 : k ≤ j
      · simp [h1, show k + 1 ≤ j by omega]
      · simp [h1, show ¬ k + 1 ≤ j by omega]
theorem mkd_mark (n k : Nat) (hk : k < n) : toL (mkd n k) (k : Int) false = (mkd n (k + 1), 0) := by
  unfold toL
  rw [if_neg (by rw [mkd_len]; omega), Int.toNat_natCast, mkd_at n k k (by omega), if_neg (by simp; omega)]
  rfl
theorem own_new {w : World} {g n : Nat} {t : TypeId} {cs : Array Value} (h : Blk w g t cs) (hn : cs.size = n) (hm : n ≤ maxLen) : w.ownsRow 0 t 1 (.slice (some ⟨g, 0, none⟩) n n) n cs.toList :=
  ⟨by simp [hn], .inr ⟨g, n, cs, rfl, Nat.zero_le _, h, Nat.le_refl _, hm, by simp [hn], by rw [Nat.mul_one, ← hn, ← Array.length_toList, List.take_length]⟩⟩
theorem blk_ne {w : World} {g g' : Nat} {t t' : TypeId} {cs cs' : Array Value} (h : Blk w g t cs) (h' : Blk w g' t' cs') (hne : t ≠ t') : g ≠ g' := by
  rintro rfl
  unfold Blk at h h'
  rw [h] at h'
  injection h' with h'
  injection h' with h1 h2
  exact hne h2
theorem pf_ne {w : World} {b c g : Nat} {x : List Bool} {A : Option Addr} {t : TypeId} {cs : Array Value} (h : PIn w b x A c) (hg : Blk w g t cs) (h1 : t ≠ 152) (h2 : t ≠ 153) : ¬ PF b A g := by
  rintro (rfl | ⟨a, rfl, rfl⟩)
  · have := h.blk
    unfold Blk at this hg
    rw [this] at hg
    cases hg
    exact h1 rfl
  · exact own_blk_ne h.own hg (Ne.symm h2) rfl
/-- A new pager stands. -/
theorem gfresh_mk {w0 w : World} {d p g1 g2 b c : Nat} {A : Option Addr} {F : Nat → Prop} {D : Dk} (hd : DS w d F D) (hF0 : ∀ j, F j → j < w0.heap.size) (h0 : ¬ F 0) (hpos : 0 < w0.heap.size) (hT : TabAt 0 tab w) (hn : D.n ≤ 4096)
    (hb : Blk w p 101 #[.pointer (some ⟨d, 0, none⟩), .int .i64 0, .int .i64 (D.sz / 2 : Nat), .slice (some ⟨g1, 0, none⟩) (tabN D.n D.sz) (tabN D.n D.sz), .slice (some ⟨g2, 0, none⟩) (capN D.n D.sz) (capN D.n D.sz), .pointer (some ⟨b, 0, none⟩), .pointer none, .bool false])
    (h1 : Blk w g1 3 (nv (List.replicate (tabN D.n D.sz) 0)).toArray) (h2 : Blk w g2 3 (nv (List.replicate (capN D.n D.sz) 0)).toArray) (hne : g1 ≠ g2) (hp : PIn w b (mkd D.n 2) A c)
    (n0 : w0.heap.size ≤ p) (n1 : w0.heap.size ≤ g1) (n2 : w0.heap.size ≤ g2) (n3 : ∀ j, PF b A j → w0.heap.size ≤ j) :
    ∃ F', GS w p F' (Gp.fresh D) ∧ ∀ j, F' j → F j ∨ w0.heap.size ≤ j := by
  classical
  have hC : capN D.n D.sz ≤ 4096 := by unfold capN; split <;> omega
  have hT64 : tabN D.n D.sz ≤ 64 := by have := tabs_le (D.sz / 2) (D.n - 2) D.sz 64 0; unfold tabN; omega
  have d1 : p ≠ g1 := blk_ne hb h1 (by decide)
  have d2 : p ≠ g2 := blk_ne hb h2 (by decide)
  have d3 := pf_ne hp hb (by decide) (by decide)
  have d4 := pf_ne hp h1 (by decide) (by decide)
  have d5 := pf_ne hp h2 (by decide) (by decide)
  obtain ⟨L, hL⟩ : ∃ L : Nat → Nat, L = fun j => if j = p then 1 else if j = g1 then 4 else if j = g2 then 5 else if PF b A j then 3 else if F j then 2 else 0 := ⟨_, rfl⟩
  have l1 : L p = 1 := by rw [hL]; simp
  have l4 : L g1 = 4 := by rw [hL]; simp [Ne.symm d1]
  have l5 : L g2 = 5 := by rw [hL]; simp [Ne.symm d2, Ne.symm hne]
  have l3 : ∀ j, PF b A j → L j = 3 := fun j hj => by
    have e1 : j ≠ p := fun e => d3 (e ▸ hj)
    have e2 : j ≠ g1 := fun e => d4 (e ▸ hj)
    have e3 : j ≠ g2 := fun e => d5 (e ▸ hj)
    rw [hL]; simp [e1, e2, e3, hj]
  have l2 : ∀ j, L j = 2 ↔ F j := fun j => by
    have hlt : F j → j < w0.heap.size := hF0 j
    by_cases e1 : j = p
    · subst e1; rw [l1]; exact ⟨fun e => by omega, fun e => by have := hlt e; omega⟩
    by_cases e2 : j = g1
    · subst e2; rw [l4]; exact ⟨fun e => by omega, fun e => by have := hlt e; omega⟩
    by_cases e3 : j = g2
    · subst e3; rw [l5]; exact ⟨fun e => by omega, fun e => by have := hlt e; omega⟩
    by_cases e4 : PF b A j
    · rw [l3 j e4]; exact ⟨fun e => by omega, fun e => by have := hlt e; have := n3 j e4; omega⟩
    · rw [hL]; by_cases e5 : F j <;> simp [e1, e2, e3, e4, e5]
  have l0 : ∀ j, L j ≠ 0 → F j ∨ (w0.heap.size ≤ j ∧ j < w.heap.size) := fun j hj => by
    by_cases e1 : j = p
    · subst e1; exact .inr ⟨n0, hb.lt⟩
    by_cases e2 : j = g1
    · subst e2; exact .inr ⟨n1, h1.lt⟩
    by_cases e3 : j = g2
    · subst e3; exact .inr ⟨n2, h2.lt⟩
    by_cases e4 : PF b A j
    · exact .inr ⟨n3 j e4, hp.lt j e4⟩
    by_cases e5 : F j
    · exact .inl e5
    · rw [hL] at hj; simp [e1, e2, e3, e4, e5] at hj
  refine ⟨fun j => L j ≠ 0, ⟨L, d, b, A, c, _, _, none, ⟨hb, l1, ?_, hp, l3, ?_, fun j hj => ?_, ?_, fun j hj => ?_, rfl, fun j hj => ?_, ?_, hT⟩, fun _ => Iff.rfl⟩, fun j hj => (l0 j hj).imp id fun e => e.1⟩
  · rw [show (fun j => L j = 2) = F from funext fun j => propext (l2 j)]
    exact hd
  · have := own_new (n := tabN D.n D.sz) h1 (by simp [nv]) (by simp only [maxLen]; omega)
    simpa [Gp.fresh] using this
  · have : g1 = j := by simpa [Value.ownBlock] using hj
    rw [← this]; exact l4
  · have := own_new (n := capN D.n D.sz) h2 (by simp [nv]) (by simp only [maxLen]; omega)
    simpa [Gp.fresh] using this
  · have : g2 = j := by simpa [Value.ownBlock] using hj
    rw [← this]; exact l5
  · rcases l0 j hj with e | e
    · exact hd.lt j e
    · exact e.2
  · by_cases e : L 0 = 0
    · exact e
    · rcases l0 0 e with e | e
      · exact absurd e h0
      · omega

set_option maxRecDepth 100000 in
set_option maxHeartbeats 6400000 in
theorem gopen_new (d : Nat) (F : Nat → Prop) (D : Dk) (w : World) (h : DS w d F D) (hd : D.down = false) (hT : TabAt 0 tab w) (h0 : ¬ F 0) (hn : 8 ≤ D.n) (hz : 64 ≤ D.sz) (hp : ∀ i : Nat, i < 2 → partL ((D.rd i).take (D.sz - 8)) = none) (hby : ∀ i : Nat, i < 2 → ∀ x ∈ D.rd i, 0 ≤ x ∧ x ≤ 255) :
    Calls Tryz.prog 33 #[.pointer (some ⟨d, 0, none⟩)] w fun e w' => ∃ p F', e = .returned (.tuple #[.pointer (some ⟨p, 0, none⟩), .int .i64 0]) ∧ GS w' p F' (Gp.fresh D) ∧ Grew w w' ∧ ∀ j, F' j → F j ∨ w.heap.size ≤ j := by
  have hsm := h.sml
  have a1 : decide ((D.n : Int) < 8) = false := decide_eq_false (by omega)
  have a2 : decide ((D.sz : Int) < 64) = false := decide_eq_false (by omega)
  have H := Lib.hid (And.intro h (And.intro hT (And.intro hp hby)))
  clear h hT hp hby
  go_enter Tryz.func33, Tryz.ntmps33
  go_wp2_with (first
    | (go_at_call 76; (refine (dsectors_any d F D _ H.out.1).mono ?_); rintro e w1 ⟨rfl, rfl⟩)
    | (go_at_call 77; (refine (dsize_any d F D _ H.out.1).mono ?_); rintro e w1 ⟨rfl, rfl⟩)
    | (go_at_call 78; (refine (places_any D.n D.sz _ hn hsm.2.1 hz hsm.2.2.2).mono ?_); rintro e w1 ⟨rfl, hg1⟩; have HG1 := Lib.hid hg1; clear hg1))
  have hT := tabs_le (D.sz / 2) (D.n - 2) D.sz 64 0
  have hT64 : tabN D.n D.sz ≤ 64 := by unfold tabN; omega
  have hC : capN D.n D.sz ≤ 4096 := by unfold capN; split <;> omega
  have eq2 : (D.sz : Int).tdiv 2 = ((D.sz / 2 : Nat) : Int) := by simp
  have ew2 : IntKind.i64.wrap ((D.sz / 2 : Nat) : Int) = ((D.sz / 2 : Nat) : Int) := wrap_nat (by omega)
  have ew3 : IntKind.i64.wrap ((D.sz : Int) / 2) = ((D.sz / 2 : Nat) : Int) := by have := ew2; simpa using this
  have HG0 := Lib.hid (show Grew w1 w1.drew from (Chg.refl _ _).drew)
  clear hT
  go_cut [6] (fun v wx => OpenJ w1 d (D.sz / 2) (tabN D.n D.sz) (capN D.n D.sz) D.n v wx)
  case first =>
    refine wp_region_held_drew (S := fun _ => True) (by kernel_rfl) trivial (fun _ => ?_)
    refine wpAnyH_take (i := 0) (v := ?_) rfl (by kernel_rfl) (by kernel_rfl) (by kernel_rfl) (fun _ _ _ h => h) (Or.inl ⟨by rfl, ?_⟩) trivial ?_
    rotate_left
    · (intro w hSw; (try dsimp only at hSw); go_simp) <;> with_reducible rfl
    (try simp only [Act.put, List.setIfInBounds_toArray, List.set_cons_zero, List.set_cons_succ])
    refine wpAnyH_take (i := 1) (v := ?_) rfl (by kernel_rfl) (by kernel_rfl) (by kernel_rfl) (fun _ _ _ h => h) (Or.inl ⟨by rfl, ?_⟩) trivial ?_
    rotate_left
    · (intro w hSw; (try dsimp only at hSw); go_simp) <;> with_reducible rfl
    (try simp only [Act.put, List.setIfInBounds_toArray, List.set_cons_zero, List.set_cons_succ])
    refine wpAnyH_take (i := 4) (v := ?_) rfl (by kernel_rfl) (by kernel_rfl) (by kernel_rfl) (fun _ _ _ h => h) (Or.inl ⟨by rfl, ?_⟩) trivial ?_
    rotate_left
    · (intro w hSw; (try dsimp only at hSw); go_simp) <;> with_reducible rfl
    (try simp only [Act.put, List.setIfInBounds_toArray, List.set_cons_zero, List.set_cons_succ])
    refine wpAnyH_take (i := 6) (v := ?_) rfl (by kernel_rfl) (by kernel_rfl) (by kernel_rfl) (fun _ _ _ h => h) (Or.inl ⟨by rfl, ?_⟩) trivial ?_
    rotate_left
    · (intro w hSw; (try dsimp only at hSw); go_simp) <;> with_reducible rfl
    (try simp only [Act.put, List.setIfInBounds_toArray, List.set_cons_zero, List.set_cons_succ])
    refine wpAnyH_take (i := 8) (v := ?_) rfl (by kernel_rfl) (by kernel_rfl) (by kernel_rfl) (fun _ _ _ h => h) (Or.inl ⟨by rfl, ?_⟩) trivial ?_
    rotate_left
    · (intro w hSw; (try dsimp only at hSw); go_simp) <;> with_reducible rfl
    (try simp only [Act.put, List.setIfInBounds_toArray, List.set_cons_zero, List.set_cons_succ])
    obtain ⟨y5, hr5, hB5, hG5, hs5⟩ := make_ints (tabN D.n D.sz) (w1.drew) (by omega)
    obtain ⟨y7, hr7, hB7, hG7, hs7⟩ := make_ints (capN D.n D.sz) (w1.drew) (by omega)
    refine wpAnyH_ready (rs := [2, 5, 7]) (by kernel_rfl) (by simp) ?_
    refine (AllReadyH.cons rfl (fun K hK => ?_) (AllReadyH.cons rfl (fun K hK => ?_) (AllReadyH.cons rfl (fun K hK => ?_) AllReadyH.nil)))
    · go_simp
      refine (dsize_any d F D _ (H.out.1.grew (Grew.trans HG1.out HG0.out))).mono ?_
      rintro e u2 ⟨rfl, rfl⟩
      refine hK.out _ _ trivial (fun _ => ?_)
      clear hK K
      (try simp only [Act.put, List.setIfInBounds_toArray, List.set_cons_zero, List.set_cons_succ])
      clear hr5 hB5 hG5 hs5 y5 hr7 hB7 hG7 hs7 y7
      refine wpAnyH_take (i := 3) (v := ?_) rfl (by kernel_rfl) (by kernel_rfl) (by kernel_rfl) (fun _ _ _ h => h) (Or.inl ⟨by rfl, ?_⟩) trivial ?_
      rotate_left
      · (intro w hSw; (try dsimp only at hSw); go_simp) <;> with_reducible rfl
      (try simp only [Act.put, List.setIfInBounds_toArray, List.set_cons_zero, List.set_cons_succ])
      obtain ⟨y5, hr5, hB5, hG5, hs5⟩ := make_ints (tabN D.n D.sz) (w1.drew) (by omega)
      obtain ⟨y7, hr7, hB7, hG7, hs7⟩ := make_ints (capN D.n D.sz) (w1.drew) (by omega)
      refine wpAnyH_ready (rs := [5, 7, 9]) (by kernel_rfl) (by simp) ?_
      refine (AllReadyH.cons rfl (fun K hK => ?_) (AllReadyH.cons rfl (fun K hK => ?_) (AllReadyH.cons rfl (fun K hK => ?_) AllReadyH.nil)))
      · go_simp
        refine hK.out _ _ trivial (fun _ => ?_)
        clear hK K
        (try simp only [Act.put, List.setIfInBounds_toArray, List.set_cons_zero, List.set_cons_succ])
        have HQ5 := Lib.hid (show NewInts w1 y5 (w1.drew).heap.size (tabN D.n D.sz) from ⟨hB5, HG0.out.size⟩)
        have HLT5 := Lib.hid (show (w1.drew).heap.size < y5.heap.size from HQ5.out.1.lt)
        have HG5 := Lib.hid (Grew.trans HG0.out hG5)
        clear hr5 hB5 hG5 hs5 hr7 hB7 hG7 hs7 y7
        obtain ⟨y7, hr7, hB7, hG7, hs7⟩ := make_ints (capN D.n D.sz) (y5) (by omega)
        refine wpAnyH_ready (rs := [7, 9]) (by kernel_rfl) (by simp) ?_
        refine (AllReadyH.cons rfl (fun K hK => ?_) (AllReadyH.cons rfl (fun K hK => ?_) AllReadyH.nil))
        · go_simp
          refine hK.out _ _ trivial (fun _ => ?_)
          clear hK K
          (try simp only [Act.put, List.setIfInBounds_toArray, List.set_cons_zero, List.set_cons_succ])
          have HQ5 := Lib.hid (HQ5.out.grew hG7)
          have HQ7 := Lib.hid (show NewInts w1 y7 (y5).heap.size (capN D.n D.sz) from ⟨hB7, HG5.out.size⟩)
          have HD := Lib.hid (show (w1.drew).heap.size ≠ (y5).heap.size from Nat.ne_of_lt HLT5.out)
          have HG7 := Lib.hid (Grew.trans HG5.out hG7)
          clear hr7 hB7 hG7 hs7
          refine wpAnyH_ready (rs := [9]) (by kernel_rfl) (by simp) ?_
          refine (AllReadyH.cons rfl (fun K hK => ?_) AllReadyH.nil)
          · go_simp
            refine (dsectors_any d F D _ (H.out.1.grew (Grew.trans HG1.out HG7.out))).mono ?_
            rintro e u2 ⟨rfl, rfl⟩
            refine hK.out _ _ trivial (fun _ => ?_)
            clear hK K
            (try simp only [Act.put, List.setIfInBounds_toArray, List.set_cons_zero, List.set_cons_succ])
            refine wpAnyH_ready (rs := [10]) (by kernel_rfl) (by simp) ?_
            refine (AllReadyH.cons rfl (fun K hK => ?_) AllReadyH.nil)
            · go_simp
              refine (pnew_any D.n _ (by omega)).mono ?_
              rintro e y10 ⟨A10, c10, rfl, hp10, hg10, hn10⟩
              refine hK.out _ _ trivial (fun _ => ?_)
              clear hK K
              (try simp only [Act.put, List.setIfInBounds_toArray, List.set_cons_zero, List.set_cons_succ])
              have HQ5 := Lib.hid (HQ5.out.grew hg10)
              have HQ7 := Lib.hid (HQ7.out.grew hg10)
              have HQ10 := Lib.hid (show NewPool w1 y10 (y7).heap.size D.n A10 c10 from ⟨hp10, fun j hj => Nat.le_trans HG7.out.size (hn10 j hj)⟩)
              have HG10 := Lib.hid (Grew.trans HG7.out hg10)
              clear hp10 hg10 hn10
              refine wpAnyH_take (i := 11) (v := ?_) rfl (by kernel_rfl) (by kernel_rfl) (by kernel_rfl) (fun _ _ _ h => h) (Or.inl ⟨by rfl, ?_⟩) trivial ?_
              rotate_left
              · (intro w hSw; (try dsimp only at hSw); go_simp) <;> with_reducible rfl
              (try simp only [Act.put, List.setIfInBounds_toArray, List.set_cons_zero, List.set_cons_succ])
              refine wpAnyH_ready (rs := [12]) (by kernel_rfl) (by simp) ?_
              refine AllReadyH.cons rfl (fun K hK => ?_) AllReadyH.nil
              go_simp
              refine hK.out _ _ trivial (fun _ => ?_)
              clear hK K
              (try simp only [Act.put, List.setIfInBounds_toArray, List.set_cons_zero, List.set_cons_succ])
              refine wpAnyH_ready (rs := [13]) (by kernel_rfl) (by simp) ?_
              refine AllReadyH.cons rfl (fun K hK => ?_) AllReadyH.nil
              go_simp
              refine hK.out _ _ trivial (fun _ => ?_)
              clear hK K
              (try simp only [Act.put, List.setIfInBounds_toArray, List.set_cons_zero, List.set_cons_succ])
              refine wpAnyH_done (by kernel_rfl) ?_ _
              go_wp2
              go_meet
              exact openJ_mk (by first | exact ew3 | omega) HQ5.out HQ7.out HD.out HQ10.out HG10.out
        · go_simp
          refine (dsectors_any d F D _ (H.out.1.grew (Grew.trans HG1.out HG5.out))).mono ?_
          rintro e u2 ⟨rfl, rfl⟩
          refine hK.out _ _ trivial (fun _ => ?_)
          clear hK K
          (try simp only [Act.put, List.setIfInBounds_toArray, List.set_cons_zero, List.set_cons_succ])
          clear hr7 hB7 hG7 hs7 y7
          obtain ⟨y7, hr7, hB7, hG7, hs7⟩ := make_ints (capN D.n D.sz) (y5) (by omega)
          refine wpAnyH_ready (rs := [7, 10]) (by kernel_rfl) (by simp) ?_
          refine (AllReadyH.cons rfl (fun K hK => ?_) (AllReadyH.cons rfl (fun K hK => ?_) AllReadyH.nil))
          · go_simp
            refine hK.out _ _ trivial (fun _ => ?_)
            clear hK K
            (try simp only [Act.put, List.setIfInBounds_toArray, List.set_cons_zero, List.set_cons_succ])
            have HQ5 := Lib.hid (HQ5.out.grew hG7)
            have HQ7 := Lib.hid (show NewInts w1 y7 (y5).heap.size (capN D.n D.sz) from ⟨hB7, HG5.out.size⟩)
            have HD := Lib.hid (show (w1.drew).heap.size ≠ (y5).heap.size from Nat.ne_of_lt HLT5.out)
            have HG7 := Lib.hid (Grew.trans HG5.out hG7)
            clear hr7 hB7 hG7 hs7
            refine wpAnyH_ready (rs := [10]) (by kernel_rfl) (by simp) ?_
            refine (AllReadyH.cons rfl (fun K hK => ?_) AllReadyH.nil)
            · go_simp
              refine (pnew_any D.n _ (by omega)).mono ?_
              rintro e y10 ⟨A10, c10, rfl, hp10, hg10, hn10⟩
              refine hK.out _ _ trivial (fun _ => ?_)
              clear hK K
              (try simp only [Act.put, List.setIfInBounds_toArray, List.set_cons_zero, List.set_cons_succ])
              have HQ5 := Lib.hid (HQ5.out.grew hg10)
              have HQ7 := Lib.hid (HQ7.out.grew hg10)
              have HQ10 := Lib.hid (show NewPool w1 y10 (y7).heap.size D.n A10 c10 from ⟨hp10, fun j hj => Nat.le_trans HG7.out.size (hn10 j hj)⟩)
              have HG10 := Lib.hid (Grew.trans HG7.out hg10)
              clear hp10 hg10 hn10
              refine wpAnyH_take (i := 11) (v := ?_) rfl (by kernel_rfl) (by kernel_rfl) (by kernel_rfl) (fun _ _ _ h => h) (Or.inl ⟨by rfl, ?_⟩) trivial ?_
              rotate_left
              · (intro w hSw; (try dsimp only at hSw); go_simp) <;> with_reducible rfl
              (try simp only [Act.put, List.setIfInBounds_toArray, List.set_cons_zero, List.set_cons_succ])
              refine wpAnyH_ready (rs := [12]) (by kernel_rfl) (by simp) ?_
              refine AllReadyH.cons rfl (fun K hK => ?_) AllReadyH.nil
              go_simp
              refine hK.out _ _ trivial (fun _ => ?_)
              clear hK K
              (try simp only [Act.put, List.setIfInBounds_toArray, List.set_cons_zero, List.set_cons_succ])
              refine wpAnyH_ready (rs := [13]) (by kernel_rfl) (by simp) ?_
              refine AllReadyH.cons rfl (fun K hK => ?_) AllReadyH.nil
              go_simp
              refine hK.out _ _ trivial (fun _ => ?_)
              clear hK K
              (try simp only [Act.put, List.setIfInBounds_toArray, List.set_cons_zero, List.set_cons_succ])
              refine wpAnyH_done (by kernel_rfl) ?_ _
              go_wp2
              go_meet
              exact openJ_mk (by first | exact ew3 | omega) HQ5.out HQ7.out HD.out HQ10.out HG10.out
          · go_simp
            refine (pnew_any D.n _ (by omega)).mono ?_
            rintro e y10 ⟨A10, c10, rfl, hp10, hg10, hn10⟩
            refine hK.out _ _ trivial (fun _ => ?_)
            clear hK K
            (try simp only [Act.put, List.setIfInBounds_toArray, List.set_cons_zero, List.set_cons_succ])
            have HQ5 := Lib.hid (HQ5.out.grew hg10)
            have HLT5 := Lib.hid (Nat.lt_of_lt_of_le HLT5.out hg10.size)
            have HQ10 := Lib.hid (show NewPool w1 y10 (y5).heap.size D.n A10 c10 from ⟨hp10, fun j hj => Nat.le_trans HG5.out.size (hn10 j hj)⟩)
            have HG10 := Lib.hid (Grew.trans HG5.out hg10)
            clear hp10 hg10 hn10
            clear hr7 hB7 hG7 hs7 y7
            obtain ⟨y7, hr7, hB7, hG7, hs7⟩ := make_ints (capN D.n D.sz) (y10) (by omega)
            refine wpAnyH_ready (rs := [7]) (by kernel_rfl) (by simp) ?_
            refine (AllReadyH.cons rfl (fun K hK => ?_) AllReadyH.nil)
            · go_simp
              refine hK.out _ _ trivial (fun _ => ?_)
              clear hK K
              (try simp only [Act.put, List.setIfInBounds_toArray, List.set_cons_zero, List.set_cons_succ])
              have HQ5 := Lib.hid (HQ5.out.grew hG7)
              have HQ10 := Lib.hid (HQ10.out.grew hG7)
              have HQ7 := Lib.hid (show NewInts w1 y7 (y10).heap.size (capN D.n D.sz) from ⟨hB7, HG10.out.size⟩)
              have HD := Lib.hid (show (w1.drew).heap.size ≠ (y10).heap.size from Nat.ne_of_lt HLT5.out)
              have HG7 := Lib.hid (Grew.trans HG10.out hG7)
              clear hr7 hB7 hG7 hs7
              refine wpAnyH_take (i := 11) (v := ?_) rfl (by kernel_rfl) (by kernel_rfl) (by kernel_rfl) (fun _ _ _ h => h) (Or.inl ⟨by rfl, ?_⟩) trivial ?_
              rotate_left
              · (intro w hSw; (try dsimp only at hSw); go_simp) <;> with_reducible rfl
              (try simp only [Act.put, List.setIfInBounds_toArray, List.set_cons_zero, List.set_cons_succ])
              refine wpAnyH_ready (rs := [12]) (by kernel_rfl) (by simp) ?_
              refine AllReadyH.cons rfl (fun K hK => ?_) AllReadyH.nil
              go_simp
              refine hK.out _ _ trivial (fun _ => ?_)
              clear hK K
              (try simp only [Act.put, List.setIfInBounds_toArray, List.set_cons_zero, List.set_cons_succ])
              refine wpAnyH_ready (rs := [13]) (by kernel_rfl) (by simp) ?_
              refine AllReadyH.cons rfl (fun K hK => ?_) AllReadyH.nil
              go_simp
              refine hK.out _ _ trivial (fun _ => ?_)
              clear hK K
              (try simp only [Act.put, List.setIfInBounds_toArray, List.set_cons_zero, List.set_cons_succ])
              refine wpAnyH_done (by kernel_rfl) ?_ _
              go_wp2
              go_meet
              exact openJ_mk (by first | exact ew3 | omega) HQ5.out HQ7.out HD.out HQ10.out HG7.out
      · go_simp
        refine hK.out _ _ trivial (fun _ => ?_)
        clear hK K
        (try simp only [Act.put, List.setIfInBounds_toArray, List.set_cons_zero, List.set_cons_succ])
        have HQ7 := Lib.hid (show NewInts w1 y7 (w1.drew).heap.size (capN D.n D.sz) from ⟨hB7, HG0.out.size⟩)
        have HLT7 := Lib.hid (show (w1.drew).heap.size < y7.heap.size from HQ7.out.1.lt)
        have HG7 := Lib.hid (Grew.trans HG0.out hG7)
        clear hr7 hB7 hG7 hs7 hr5 hB5 hG5 hs5 y5
        obtain ⟨y5, hr5, hB5, hG5, hs5⟩ := make_ints (tabN D.n D.sz) (y7) (by omega)
        refine wpAnyH_ready (rs := [5, 9]) (by kernel_rfl) (by simp) ?_
        refine (AllReadyH.cons rfl (fun K hK => ?_) (AllReadyH.cons rfl (fun K hK => ?_) AllReadyH.nil))
        · go_simp
          refine hK.out _ _ trivial (fun _ => ?_)
          clear hK K
          (try simp only [Act.put, List.setIfInBounds_toArray, List.set_cons_zero, List.set_cons_succ])
          have HQ7 := Lib.hid (HQ7.out.grew hG5)
          have HQ5 := Lib.hid (show NewInts w1 y5 (y7).heap.size (tabN D.n D.sz) from ⟨hB5, HG7.out.size⟩)
          have HD := Lib.hid (show (y7).heap.size ≠ (w1.drew).heap.size from Ne.symm (Nat.ne_of_lt HLT7.out))
          have HG5 := Lib.hid (Grew.trans HG7.out hG5)
          clear hr5 hB5 hG5 hs5
          refine wpAnyH_ready (rs := [9]) (by kernel_rfl) (by simp) ?_
          refine (AllReadyH.cons rfl (fun K hK => ?_) AllReadyH.nil)
          · go_simp
            refine (dsectors_any d F D _ (H.out.1.grew (Grew.trans HG1.out HG5.out))).mono ?_
            rintro e u2 ⟨rfl, rfl⟩
            refine hK.out _ _ trivial (fun _ => ?_)
            clear hK K
            (try simp only [Act.put, List.setIfInBounds_toArray, List.set_cons_zero, List.set_cons_succ])
            refine wpAnyH_ready (rs := [10]) (by kernel_rfl) (by simp) ?_
            refine (AllReadyH.cons rfl (fun K hK => ?_) AllReadyH.nil)
            · go_simp
              refine (pnew_any D.n _ (by omega)).mono ?_
              rintro e y10 ⟨A10, c10, rfl, hp10, hg10, hn10⟩
              refine hK.out _ _ trivial (fun _ => ?_)
              clear hK K
              (try simp only [Act.put, List.setIfInBounds_toArray, List.set_cons_zero, List.set_cons_succ])
              have HQ7 := Lib.hid (HQ7.out.grew hg10)
              have HQ5 := Lib.hid (HQ5.out.grew hg10)
              have HQ10 := Lib.hid (show NewPool w1 y10 (y5).heap.size D.n A10 c10 from ⟨hp10, fun j hj => Nat.le_trans HG5.out.size (hn10 j hj)⟩)
              have HG10 := Lib.hid (Grew.trans HG5.out hg10)
              clear hp10 hg10 hn10
              refine wpAnyH_take (i := 11) (v := ?_) rfl (by kernel_rfl) (by kernel_rfl) (by kernel_rfl) (fun _ _ _ h => h) (Or.inl ⟨by rfl, ?_⟩) trivial ?_
              rotate_left
              · (intro w hSw; (try dsimp only at hSw); go_simp) <;> with_reducible rfl
              (try simp only [Act.put, List.setIfInBounds_toArray, List.set_cons_zero, List.set_cons_succ])
              refine wpAnyH_ready (rs := [12]) (by kernel_rfl) (by simp) ?_
              refine AllReadyH.cons rfl (fun K hK => ?_) AllReadyH.nil
              go_simp
              refine hK.out _ _ trivial (fun _ => ?_)
              clear hK K
              (try simp only [Act.put, List.setIfInBounds_toArray, List.set_cons_zero, List.set_cons_succ])
              refine wpAnyH_ready (rs := [13]) (by kernel_rfl) (by simp) ?_
              refine AllReadyH.cons rfl (fun K hK => ?_) AllReadyH.nil
              go_simp
              refine hK.out _ _ trivial (fun _ => ?_)
              clear hK K
              (try simp only [Act.put, List.setIfInBounds_toArray, List.set_cons_zero, List.set_cons_succ])
              refine wpAnyH_done (by kernel_rfl) ?_ _
              go_wp2
              go_meet
              exact openJ_mk (by first | exact ew3 | omega) HQ5.out HQ7.out HD.out HQ10.out HG10.out
        · go_simp
          refine (dsectors_any d F D _ (H.out.1.grew (Grew.trans HG1.out HG7.out))).mono ?_
          rintro e u2 ⟨rfl, rfl⟩
          refine hK.out _ _ trivial (fun _ => ?_)
          clear hK K
          (try simp only [Act.put, List.setIfInBounds_toArray, List.set_cons_zero, List.set_cons_succ])
          clear hr5 hB5 hG5 hs5 y5
          obtain ⟨y5, hr5, hB5, hG5, hs5⟩ := make_ints (tabN D.n D.sz) (y7) (by omega)
          refine wpAnyH_ready (rs := [5, 10]) (by kernel_rfl) (by simp) ?_
          refine (AllReadyH.cons rfl (fun K hK => ?_) (AllReadyH.cons rfl (fun K hK => ?_) AllReadyH.nil))
          · go_simp
            refine hK.out _ _ trivial (fun _ => ?_)
            clear hK K
            (try simp only [Act.put, List.setIfInBounds_toArray, List.set_cons_zero, List.set_cons_succ])
            have HQ7 := Lib.hid (HQ7.out.grew hG5)
            have HQ5 := Lib.hid (show NewInts w1 y5 (y7).heap.size (tabN D.n D.sz) from ⟨hB5, HG7.out.size⟩)
            have HD := Lib.hid (show (y7).heap.size ≠ (w1.drew).heap.size from Ne.symm (Nat.ne_of_lt HLT7.out))
            have HG5 := Lib.hid (Grew.trans HG7.out hG5)
            clear hr5 hB5 hG5 hs5
            refine wpAnyH_ready (rs := [10]) (by kernel_rfl) (by simp) ?_
            refine (AllReadyH.cons rfl (fun K hK => ?_) AllReadyH.nil)
            · go_simp
              refine (pnew_any D.n _ (by omega)).mono ?_
              rintro e y10 ⟨A10, c10, rfl, hp10, hg10, hn10⟩
              refine hK.out _ _ trivial (fun _ => ?_)
              clear hK K
              (try simp only [Act.put, List.setIfInBounds_toArray, List.set_cons_zero, List.set_cons_succ])
              have HQ7 := Lib.hid (HQ7.out.grew hg10)
              have HQ5 := Lib.hid (HQ5.out.grew hg10)
              have HQ10 := Lib.hid (show NewPool w1 y10 (y5).heap.size D.n A10 c10 from ⟨hp10, fun j hj => Nat.le_trans HG5.out.size (hn10 j hj)⟩)
              have HG10 := Lib.hid (Grew.trans HG5.out hg10)
              clear hp10 hg10 hn10
              refine wpAnyH_take (i := 11) (v := ?_) rfl (by kernel_rfl) (by kernel_rfl) (by kernel_rfl) (fun _ _ _ h => h) (Or.inl ⟨by rfl, ?_⟩) trivial ?_
              rotate_left
              · (intro w hSw; (try dsimp only at hSw); go_simp) <;> with_reducible rfl
              (try simp only [Act.put, List.setIfInBounds_toArray, List.set_cons_zero, List.set_cons_succ])
              refine wpAnyH_ready (rs := [12]) (by kernel_rfl) (by simp) ?_
              refine AllReadyH.cons rfl (fun K hK => ?_) AllReadyH.nil
              go_simp
              refine hK.out _ _ trivial (fun _ => ?_)
              clear hK K
              (try simp only [Act.put, List.setIfInBounds_toArray, List.set_cons_zero, List.set_cons_succ])
              refine wpAnyH_ready (rs := [13]) (by kernel_rfl) (by simp) ?_
              refine AllReadyH.cons rfl (fun K hK => ?_) AllReadyH.nil
              go_simp
              refine hK.out _ _ trivial (fun _ => ?_)
              clear hK K
              (try simp only [Act.put, List.setIfInBounds_toArray, List.set_cons_zero, List.set_cons_succ])
              refine wpAnyH_done (by kernel_rfl) ?_ _
              go_wp2
              go_meet
              exact openJ_mk (by first | exact ew3 | omega) HQ5.out HQ7.out HD.out HQ10.out HG10.out
          · go_simp
            refine (pnew_any D.n _ (by omega)).mono ?_
            rintro e y10 ⟨A10, c10, rfl, hp10, hg10, hn10⟩
            refine hK.out _ _ trivial (fun _ => ?_)
            clear hK K
            (try simp only [Act.put, List.setIfInBounds_toArray, List.set_cons_zero, List.set_cons_succ])
            have HQ7 := Lib.hid (HQ7.out.grew hg10)
            have HLT7 := Lib.hid (Nat.lt_of_lt_of_le HLT7.out hg10.size)
            have HQ10 := Lib.hid (show NewPool w1 y10 (y7).heap.size D.n A10 c10 from ⟨hp10, fun j hj => Nat.le_trans HG7.out.size (hn10 j hj)⟩)
            have HG10 := Lib.hid (Grew.trans HG7.out hg10)
            clear hp10 hg10 hn10
            clear hr5 hB5 hG5 hs5 y5
            obtain ⟨y5, hr5, hB5, hG5, hs5⟩ := make_ints (tabN D.n D.sz) (y10) (by omega)
            refine wpAnyH_ready (rs := [5]) (by kernel_rfl) (by simp) ?_
            refine (AllReadyH.cons rfl (fun K hK => ?_) AllReadyH.nil)
            · go_simp
              refine hK.out _ _ trivial (fun _ => ?_)
              clear hK K
              (try simp only [Act.put, List.setIfInBounds_toArray, List.set_cons_zero, List.set_cons_succ])
              have HQ7 := Lib.hid (HQ7.out.grew hG5)
              have HQ10 := Lib.hid (HQ10.out.grew hG5)
              have HQ5 := Lib.hid (show NewInts w1 y5 (y10).heap.size (tabN D.n D.sz) from ⟨hB5, HG10.out.size⟩)
              have HD := Lib.hid (show (y10).heap.size ≠ (w1.drew).heap.size from Ne.symm (Nat.ne_of_lt HLT7.out))
              have HG5 := Lib.hid (Grew.trans HG10.out hG5)
              clear hr5 hB5 hG5 hs5
              refine wpAnyH_take (i := 11) (v := ?_) rfl (by kernel_rfl) (by kernel_rfl) (by kernel_rfl) (fun _ _ _ h => h) (Or.inl ⟨by rfl, ?_⟩) trivial ?_
              rotate_left
              · (intro w hSw; (try dsimp only at hSw); go_simp) <;> with_reducible rfl
              (try simp only [Act.put, List.setIfInBounds_toArray, List.set_cons_zero, List.set_cons_succ])
              refine wpAnyH_ready (rs := [12]) (by kernel_rfl) (by simp) ?_
              refine AllReadyH.cons rfl (fun K hK => ?_) AllReadyH.nil
              go_simp
              refine hK.out _ _ trivial (fun _ => ?_)
              clear hK K
              (try simp only [Act.put, List.setIfInBounds_toArray, List.set_cons_zero, List.set_cons_succ])
              refine wpAnyH_ready (rs := [13]) (by kernel_rfl) (by simp) ?_
              refine AllReadyH.cons rfl (fun K hK => ?_) AllReadyH.nil
              go_simp
              refine hK.out _ _ trivial (fun _ => ?_)
              clear hK K
              (try simp only [Act.put, List.setIfInBounds_toArray, List.set_cons_zero, List.set_cons_succ])
              refine wpAnyH_done (by kernel_rfl) ?_ _
              go_wp2
              go_meet
              exact openJ_mk (by first | exact ew3 | omega) HQ5.out HQ7.out HD.out HQ10.out HG5.out
      · go_simp
        refine (dsectors_any d F D _ (H.out.1.grew (Grew.trans HG1.out HG0.out))).mono ?_
        rintro e u2 ⟨rfl, rfl⟩
        refine hK.out _ _ trivial (fun _ => ?_)
        clear hK K
        (try simp only [Act.put, List.setIfInBounds_toArray, List.set_cons_zero, List.set_cons_succ])
        clear hr5 hB5 hG5 hs5 y5 hr7 hB7 hG7 hs7 y7
        obtain ⟨y5, hr5, hB5, hG5, hs5⟩ := make_ints (tabN D.n D.sz) (w1.drew) (by omega)
        obtain ⟨y7, hr7, hB7, hG7, hs7⟩ := make_ints (capN D.n D.sz) (w1.drew) (by omega)
        refine wpAnyH_ready (rs := [5, 7, 10]) (by kernel_rfl) (by simp) ?_
        refine (AllReadyH.cons rfl (fun K hK => ?_) (AllReadyH.cons rfl (fun K hK => ?_) (AllReadyH.cons rfl (fun K hK => ?_) AllReadyH.nil)))
        · go_simp
          refine hK.out _ _ trivial (fun _ => ?_)
          clear hK K
          (try simp only [Act.put, List.setIfInBounds_toArray, List.set_cons_zero, List.set_cons_succ])
          have HQ5 := Lib.hid (show NewInts w1 y5 (w1.drew).heap.size (tabN D.n D.sz) from ⟨hB5, HG0.out.size⟩)
          have HLT5 := Lib.hid (show (w1.drew).heap.size < y5.heap.size from HQ5.out.1.lt)
          have HG5 := Lib.hid (Grew.trans HG0.out hG5)
          clear hr5 hB5 hG5 hs5 hr7 hB7 hG7 hs7 y7
          obtain ⟨y7, hr7, hB7, hG7, hs7⟩ := make_ints (capN D.n D.sz) (y5) (by omega)
          refine wpAnyH_ready (rs := [7, 10]) (by kernel_rfl) (by simp) ?_
          refine (AllReadyH.cons rfl (fun K hK => ?_) (AllReadyH.cons rfl (fun K hK => ?_) AllReadyH.nil))
          · go_simp
            refine hK.out _ _ trivial (fun _ => ?_)
            clear hK K
            (try simp only [Act.put, List.setIfInBounds_toArray, List.set_cons_zero, List.set_cons_succ])
            have HQ5 := Lib.hid (HQ5.out.grew hG7)
            have HQ7 := Lib.hid (show NewInts w1 y7 (y5).heap.size (capN D.n D.sz) from ⟨hB7, HG5.out.size⟩)
            have HD := Lib.hid (show (w1.drew).heap.size ≠ (y5).heap.size from Nat.ne_of_lt HLT5.out)
            have HG7 := Lib.hid (Grew.trans HG5.out hG7)
            clear hr7 hB7 hG7 hs7
            refine wpAnyH_ready (rs := [10]) (by kernel_rfl) (by simp) ?_
            refine (AllReadyH.cons rfl (fun K hK => ?_) AllReadyH.nil)
            · go_simp
              refine (pnew_any D.n _ (by omega)).mono ?_
              rintro e y10 ⟨A10, c10, rfl, hp10, hg10, hn10⟩
              refine hK.out _ _ trivial (fun _ => ?_)
              clear hK K
              (try simp only [Act.put, List.setIfInBounds_toArray, List.set_cons_zero, List.set_cons_succ])
              have HQ5 := Lib.hid (HQ5.out.grew hg10)
              have HQ7 := Lib.hid (HQ7.out.grew hg10)
              have HQ10 := Lib.hid (show NewPool w1 y10 (y7).heap.size D.n A10 c10 from ⟨hp10, fun j hj => Nat.le_trans HG7.out.size (hn10 j hj)⟩)
              have HG10 := Lib.hid (Grew.trans HG7.out hg10)
              clear hp10 hg10 hn10
              refine wpAnyH_take (i := 11) (v := ?_) rfl (by kernel_rfl) (by kernel_rfl) (by kernel_rfl) (fun _ _ _ h => h) (Or.inl ⟨by rfl, ?_⟩) trivial ?_
              rotate_left
              · (intro w hSw; (try dsimp only at hSw); go_simp) <;> with_reducible rfl
              (try simp only [Act.put, List.setIfInBounds_toArray, List.set_cons_zero, List.set_cons_succ])
              refine wpAnyH_ready (rs := [12]) (by kernel_rfl) (by simp) ?_
              refine AllReadyH.cons rfl (fun K hK => ?_) AllReadyH.nil
              go_simp
              refine hK.out _ _ trivial (fun _ => ?_)
              clear hK K
              (try simp only [Act.put, List.setIfInBounds_toArray, List.set_cons_zero, List.set_cons_succ])
              refine wpAnyH_ready (rs := [13]) (by kernel_rfl) (by simp) ?_
              refine AllReadyH.cons rfl (fun K hK => ?_) AllReadyH.nil
              go_simp
              refine hK.out _ _ trivial (fun _ => ?_)
              clear hK K
              (try simp only [Act.put, List.setIfInBounds_toArray, List.set_cons_zero, List.set_cons_succ])
              refine wpAnyH_done (by kernel_rfl) ?_ _
              go_wp2
              go_meet
              exact openJ_mk (by first | exact ew3 | omega) HQ5.out HQ7.out HD.out HQ10.out HG10.out
          · go_simp
            refine (pnew_any D.n _ (by omega)).mono ?_
            rintro e y10 ⟨A10, c10, rfl, hp10, hg10, hn10⟩
            refine hK.out _ _ trivial (fun _ => ?_)
            clear hK K
            (try simp only [Act.put, List.setIfInBounds_toArray, List.set_cons_zero, List.set_cons_succ])
            have HQ5 := Lib.hid (HQ5.out.grew hg10)
            have HLT5 := Lib.hid (Nat.lt_of_lt_of_le HLT5.out hg10.size)
            have HQ10 := Lib.hid (show NewPool w1 y10 (y5).heap.size D.n A10 c10 from ⟨hp10, fun j hj => Nat.le_trans HG5.out.size (hn10 j hj)⟩)
            have HG10 := Lib.hid (Grew.trans HG5.out hg10)
            clear hp10 hg10 hn10
            clear hr7 hB7 hG7 hs7 y7
            obtain ⟨y7, hr7, hB7, hG7, hs7⟩ := make_ints (capN D.n D.sz) (y10) (by omega)
            refine wpAnyH_ready (rs := [7]) (by kernel_rfl) (by simp) ?_
            refine (AllReadyH.cons rfl (fun K hK => ?_) AllReadyH.nil)
            · go_simp
              refine hK.out _ _ trivial (fun _ => ?_)
              clear hK K
              (try simp only [Act.put, List.setIfInBounds_toArray, List.set_cons_zero, List.set_cons_succ])
              have HQ5 := Lib.hid (HQ5.out.grew hG7)
              have HQ10 := Lib.hid (HQ10.out.grew hG7)
              have HQ7 := Lib.hid (show NewInts w1 y7 (y10).heap.size (capN D.n D.sz) from ⟨hB7, HG10.out.size⟩)
              have HD := Lib.hid (show (w1.drew).heap.size ≠ (y10).heap.size from Nat.ne_of_lt HLT5.out)
              have HG7 := Lib.hid (Grew.trans HG10.out hG7)
              clear hr7 hB7 hG7 hs7
              refine wpAnyH_take (i := 11) (v := ?_) rfl (by kernel_rfl) (by kernel_rfl) (by kernel_rfl) (fun _ _ _ h => h) (Or.inl ⟨by rfl, ?_⟩) trivial ?_
              rotate_left
              · (intro w hSw; (try dsimp only at hSw); go_simp) <;> with_reducible rfl
              (try simp only [Act.put, List.setIfInBounds_toArray, List.set_cons_zero, List.set_cons_succ])
              refine wpAnyH_ready (rs := [12]) (by kernel_rfl) (by simp) ?_
              refine AllReadyH.cons rfl (fun K hK => ?_) AllReadyH.nil
              go_simp
              refine hK.out _ _ trivial (fun _ => ?_)
              clear hK K
              (try simp only [Act.put, List.setIfInBounds_toArray, List.set_cons_zero, List.set_cons_succ])
              refine wpAnyH_ready (rs := [13]) (by kernel_rfl) (by simp) ?_
              refine AllReadyH.cons rfl (fun K hK => ?_) AllReadyH.nil
              go_simp
              refine hK.out _ _ trivial (fun _ => ?_)
              clear hK K
              (try simp only [Act.put, List.setIfInBounds_toArray, List.set_cons_zero, List.set_cons_succ])
              refine wpAnyH_done (by kernel_rfl) ?_ _
              go_wp2
              go_meet
              exact openJ_mk (by first | exact ew3 | omega) HQ5.out HQ7.out HD.out HQ10.out HG7.out
        · go_simp
          refine hK.out _ _ trivial (fun _ => ?_)
          clear hK K
          (try simp only [Act.put, List.setIfInBounds_toArray, List.set_cons_zero, List.set_cons_succ])
          have HQ7 := Lib.hid (show NewInts w1 y7 (w1.drew).heap.size (capN D.n D.sz) from ⟨hB7, HG0.out.size⟩)
          have HLT7 := Lib.hid (show (w1.drew).heap.size < y7.heap.size from HQ7.out.1.lt)
          have HG7 := Lib.hid (Grew.trans HG0.out hG7)
          clear hr7 hB7 hG7 hs7 hr5 hB5 hG5 hs5 y5
          obtain ⟨y5, hr5, hB5, hG5, hs5⟩ := make_ints (tabN D.n D.sz) (y7) (by omega)
          refine wpAnyH_ready (rs := [5, 10]) (by kernel_rfl) (by simp) ?_
          refine (AllReadyH.cons rfl (fun K hK => ?_) (AllReadyH.cons rfl (fun K hK => ?_) AllReadyH.nil))
          · go_simp
            refine hK.out _ _ trivial (fun _ => ?_)
            clear hK K
            (try simp only [Act.put, List.setIfInBounds_toArray, List.set_cons_zero, List.set_cons_succ])
            have HQ7 := Lib.hid (HQ7.out.grew hG5)
            have HQ5 := Lib.hid (show NewInts w1 y5 (y7).heap.size (tabN D.n D.sz) from ⟨hB5, HG7.out.size⟩)
            have HD := Lib.hid (show (y7).heap.size ≠ (w1.drew).heap.size from Ne.symm (Nat.ne_of_lt HLT7.out))
            have HG5 := Lib.hid (Grew.trans HG7.out hG5)
            clear hr5 hB5 hG5 hs5
            refine wpAnyH_ready (rs := [10]) (by kernel_rfl) (by simp) ?_
            refine (AllReadyH.cons rfl (fun K hK => ?_) AllReadyH.nil)
            · go_simp
              refine (pnew_any D.n _ (by omega)).mono ?_
              rintro e y10 ⟨A10, c10, rfl, hp10, hg10, hn10⟩
              refine hK.out _ _ trivial (fun _ => ?_)
              clear hK K
              (try simp only [Act.put, List.setIfInBounds_toArray, List.set_cons_zero, List.set_cons_succ])
              have HQ7 := Lib.hid (HQ7.out.grew hg10)
              have HQ5 := Lib.hid (HQ5.out.grew hg10)
              have HQ10 := Lib.hid (show NewPool w1 y10 (y5).heap.size D.n A10 c10 from ⟨hp10, fun j hj => Nat.le_trans HG5.out.size (hn10 j hj)⟩)
              have HG10 := Lib.hid (Grew.trans HG5.out hg10)
              clear hp10 hg10 hn10
              refine wpAnyH_take (i := 11) (v := ?_) rfl (by kernel_rfl) (by kernel_rfl) (by kernel_rfl) (fun _ _ _ h => h) (Or.inl ⟨by rfl, ?_⟩) trivial ?_
              rotate_left
              · (intro w hSw; (try dsimp only at hSw); go_simp) <;> with_reducible rfl
              (try simp only [Act.put, List.setIfInBounds_toArray, List.set_cons_zero, List.set_cons_succ])
              refine wpAnyH_ready (rs := [12]) (by kernel_rfl) (by simp) ?_
              refine AllReadyH.cons rfl (fun K hK => ?_) AllReadyH.nil
              go_simp
              refine hK.out _ _ trivial (fun _ => ?_)
              clear hK K
              (try simp only [Act.put, List.setIfInBounds_toArray, List.set_cons_zero, List.set_cons_succ])
              refine wpAnyH_ready (rs := [13]) (by kernel_rfl) (by simp) ?_
              refine AllReadyH.cons rfl (fun K hK => ?_) AllReadyH.nil
              go_simp
              refine hK.out _ _ trivial (fun _ => ?_)
              clear hK K
              (try simp only [Act.put, List.setIfInBounds_toArray, List.set_cons_zero, List.set_cons_succ])
              refine wpAnyH_done (by kernel_rfl) ?_ _
              go_wp2
              go_meet
              exact openJ_mk (by first | exact ew3 | omega) HQ5.out HQ7.out HD.out HQ10.out HG10.out
          · go_simp
            refine (pnew_any D.n _ (by omega)).mono ?_
            rintro e y10 ⟨A10, c10, rfl, hp10, hg10, hn10⟩
            refine hK.out _ _ trivial (fun _ => ?_)
            clear hK K
            (try simp only [Act.put, List.setIfInBounds_toArray, List.set_cons_zero, List.set_cons_succ])
            have HQ7 := Lib.hid (HQ7.out.grew hg10)
            have HLT7 := Lib.hid (Nat.lt_of_lt_of_le HLT7.out hg10.size)
            have HQ10 := Lib.hid (show NewPool w1 y10 (y7).heap.size D.n A10 c10 from ⟨hp10, fun j hj => Nat.le_trans HG7.out.size (hn10 j hj)⟩)
            have HG10 := Lib.hid (Grew.trans HG7.out hg10)
            clear hp10 hg10 hn10
            clear hr5 hB5 hG5 hs5 y5
            obtain ⟨y5, hr5, hB5, hG5, hs5⟩ := make_ints (tabN D.n D.sz) (y10) (by omega)
            refine wpAnyH_ready (rs := [5]) (by kernel_rfl) (by simp) ?_
            refine (AllReadyH.cons rfl (fun K hK => ?_) AllReadyH.nil)
            · go_simp
              refine hK.out _ _ trivial (fun _ => ?_)
              clear hK K
              (try simp only [Act.put, List.setIfInBounds_toArray, List.set_cons_zero, List.set_cons_succ])
              have HQ7 := Lib.hid (HQ7.out.grew hG5)
              have HQ10 := Lib.hid (HQ10.out.grew hG5)
              have HQ5 := Lib.hid (show NewInts w1 y5 (y10).heap.size (tabN D.n D.sz) from ⟨hB5, HG10.out.size⟩)
              have HD := Lib.hid (show (y10).heap.size ≠ (w1.drew).heap.size from Ne.symm (Nat.ne_of_lt HLT7.out))
              have HG5 := Lib.hid (Grew.trans HG10.out hG5)
              clear hr5 hB5 hG5 hs5
              refine wpAnyH_take (i := 11) (v := ?_) rfl (by kernel_rfl) (by kernel_rfl) (by kernel_rfl) (fun _ _ _ h => h) (Or.inl ⟨by rfl, ?_⟩) trivial ?_
              rotate_left
              · (intro w hSw; (try dsimp only at hSw); go_simp) <;> with_reducible rfl
              (try simp only [Act.put, List.setIfInBounds_toArray, List.set_cons_zero, List.set_cons_succ])
              refine wpAnyH_ready (rs := [12]) (by kernel_rfl) (by simp) ?_
              refine AllReadyH.cons rfl (fun K hK => ?_) AllReadyH.nil
              go_simp
              refine hK.out _ _ trivial (fun _ => ?_)
              clear hK K
              (try simp only [Act.put, List.setIfInBounds_toArray, List.set_cons_zero, List.set_cons_succ])
              refine wpAnyH_ready (rs := [13]) (by kernel_rfl) (by simp) ?_
              refine AllReadyH.cons rfl (fun K hK => ?_) AllReadyH.nil
              go_simp
              refine hK.out _ _ trivial (fun _ => ?_)
              clear hK K
              (try simp only [Act.put, List.setIfInBounds_toArray, List.set_cons_zero, List.set_cons_succ])
              refine wpAnyH_done (by kernel_rfl) ?_ _
              go_wp2
              go_meet
              exact openJ_mk (by first | exact ew3 | omega) HQ5.out HQ7.out HD.out HQ10.out HG5.out
        · go_simp
          refine (pnew_any D.n _ (by omega)).mono ?_
          rintro e y10 ⟨A10, c10, rfl, hp10, hg10, hn10⟩
          refine hK.out _ _ trivial (fun _ => ?_)
          clear hK K
          (try simp only [Act.put, List.setIfInBounds_toArray, List.set_cons_zero, List.set_cons_succ])
          have HQ10 := Lib.hid (show NewPool w1 y10 (w1.drew).heap.size D.n A10 c10 from ⟨hp10, fun j hj => Nat.le_trans HG0.out.size (hn10 j hj)⟩)
          have HG10 := Lib.hid (Grew.trans HG0.out hg10)
          clear hp10 hg10 hn10
          clear hr5 hB5 hG5 hs5 y5 hr7 hB7 hG7 hs7 y7
          obtain ⟨y5, hr5, hB5, hG5, hs5⟩ := make_ints (tabN D.n D.sz) (y10) (by omega)
          obtain ⟨y7, hr7, hB7, hG7, hs7⟩ := make_ints (capN D.n D.sz) (y10) (by omega)
          refine wpAnyH_ready (rs := [5, 7]) (by kernel_rfl) (by simp) ?_
          refine (AllReadyH.cons rfl (fun K hK => ?_) (AllReadyH.cons rfl (fun K hK => ?_) AllReadyH.nil))
          · go_simp
            refine hK.out _ _ trivial (fun _ => ?_)
            clear hK K
            (try simp only [Act.put, List.setIfInBounds_toArray, List.set_cons_zero, List.set_cons_succ])
            have HQ10 := Lib.hid (HQ10.out.grew hG5)
            have HQ5 := Lib.hid (show NewInts w1 y5 (y10).heap.size (tabN D.n D.sz) from ⟨hB5, HG10.out.size⟩)
            have HLT5 := Lib.hid (show (y10).heap.size < y5.heap.size from HQ5.out.1.lt)
            have HG5 := Lib.hid (Grew.trans HG10.out hG5)
            clear hr5 hB5 hG5 hs5 hr7 hB7 hG7 hs7 y7
            obtain ⟨y7, hr7, hB7, hG7, hs7⟩ := make_ints (capN D.n D.sz) (y5) (by omega)
            refine wpAnyH_ready (rs := [7]) (by kernel_rfl) (by simp) ?_
            refine (AllReadyH.cons rfl (fun K hK => ?_) AllReadyH.nil)
            · go_simp
              refine hK.out _ _ trivial (fun _ => ?_)
              clear hK K
              (try simp only [Act.put, List.setIfInBounds_toArray, List.set_cons_zero, List.set_cons_succ])
              have HQ10 := Lib.hid (HQ10.out.grew hG7)
              have HQ5 := Lib.hid (HQ5.out.grew hG7)
              have HQ7 := Lib.hid (show NewInts w1 y7 (y5).heap.size (capN D.n D.sz) from ⟨hB7, HG5.out.size⟩)
              have HD := Lib.hid (show (y10).heap.size ≠ (y5).heap.size from Nat.ne_of_lt HLT5.out)
              have HG7 := Lib.hid (Grew.trans HG5.out hG7)
              clear hr7 hB7 hG7 hs7
              refine wpAnyH_take (i := 11) (v := ?_) rfl (by kernel_rfl) (by kernel_rfl) (by kernel_rfl) (fun _ _ _ h => h) (Or.inl ⟨by rfl, ?_⟩) trivial ?_
              rotate_left
              · (intro w hSw; (try dsimp only at hSw); go_simp) <;> with_reducible rfl
              (try simp only [Act.put, List.setIfInBounds_toArray, List.set_cons_zero, List.set_cons_succ])
              refine wpAnyH_ready (rs := [12]) (by kernel_rfl) (by simp) ?_
              refine AllReadyH.cons rfl (fun K hK => ?_) AllReadyH.nil
              go_simp
              refine hK.out _ _ trivial (fun _ => ?_)
              clear hK K
              (try simp only [Act.put, List.setIfInBounds_toArray, List.set_cons_zero, List.set_cons_succ])
              refine wpAnyH_ready (rs := [13]) (by kernel_rfl) (by simp) ?_
              refine AllReadyH.cons rfl (fun K hK => ?_) AllReadyH.nil
              go_simp
              refine hK.out _ _ trivial (fun _ => ?_)
              clear hK K
              (try simp only [Act.put, List.setIfInBounds_toArray, List.set_cons_zero, List.set_cons_succ])
              refine wpAnyH_done (by kernel_rfl) ?_ _
              go_wp2
              go_meet
              exact openJ_mk (by first | exact ew3 | omega) HQ5.out HQ7.out HD.out HQ10.out HG7.out
          · go_simp
            refine hK.out _ _ trivial (fun _ => ?_)
            clear hK K
            (try simp only [Act.put, List.setIfInBounds_toArray, List.set_cons_zero, List.set_cons_succ])
            have HQ10 := Lib.hid (HQ10.out.grew hG7)
            have HQ7 := Lib.hid (show NewInts w1 y7 (y10).heap.size (capN D.n D.sz) from ⟨hB7, HG10.out.size⟩)
            have HLT7 := Lib.hid (show (y10).heap.size < y7.heap.size from HQ7.out.1.lt)
            have HG7 := Lib.hid (Grew.trans HG10.out hG7)
            clear hr7 hB7 hG7 hs7 hr5 hB5 hG5 hs5 y5
            obtain ⟨y5, hr5, hB5, hG5, hs5⟩ := make_ints (tabN D.n D.sz) (y7) (by omega)
            refine wpAnyH_ready (rs := [5]) (by kernel_rfl) (by simp) ?_
            refine (AllReadyH.cons rfl (fun K hK => ?_) AllReadyH.nil)
            · go_simp
              refine hK.out _ _ trivial (fun _ => ?_)
              clear hK K
              (try simp only [Act.put, List.setIfInBounds_toArray, List.set_cons_zero, List.set_cons_succ])
              have HQ10 := Lib.hid (HQ10.out.grew hG5)
              have HQ7 := Lib.hid (HQ7.out.grew hG5)
              have HQ5 := Lib.hid (show NewInts w1 y5 (y7).heap.size (tabN D.n D.sz) from ⟨hB5, HG7.out.size⟩)
              have HD := Lib.hid (show (y7).heap.size ≠ (y10).heap.size from Ne.symm (Nat.ne_of_lt HLT7.out))
              have HG5 := Lib.hid (Grew.trans HG7.out hG5)
              clear hr5 hB5 hG5 hs5
              refine wpAnyH_take (i := 11) (v := ?_) rfl (by kernel_rfl) (by kernel_rfl) (by kernel_rfl) (fun _ _ _ h => h) (Or.inl ⟨by rfl, ?_⟩) trivial ?_
              rotate_left
              · (intro w hSw; (try dsimp only at hSw); go_simp) <;> with_reducible rfl
              (try simp only [Act.put, List.setIfInBounds_toArray, List.set_cons_zero, List.set_cons_succ])
              refine wpAnyH_ready (rs := [12]) (by kernel_rfl) (by simp) ?_
              refine AllReadyH.cons rfl (fun K hK => ?_) AllReadyH.nil
              go_simp
              refine hK.out _ _ trivial (fun _ => ?_)
              clear hK K
              (try simp only [Act.put, List.setIfInBounds_toArray, List.set_cons_zero, List.set_cons_succ])
              refine wpAnyH_ready (rs := [13]) (by kernel_rfl) (by simp) ?_
              refine AllReadyH.cons rfl (fun K hK => ?_) AllReadyH.nil
              go_simp
              refine hK.out _ _ trivial (fun _ => ?_)
              clear hK K
              (try simp only [Act.put, List.setIfInBounds_toArray, List.set_cons_zero, List.set_cons_succ])
              refine wpAnyH_done (by kernel_rfl) ?_ _
              go_wp2
              go_meet
              exact openJ_mk (by first | exact ew3 | omega) HQ5.out HQ7.out HD.out HQ10.out HG5.out
    · go_simp
      refine hK.out _ _ trivial (fun _ => ?_)
      clear hK K
      (try simp only [Act.put, List.setIfInBounds_toArray, List.set_cons_zero, List.set_cons_succ])
      have HQ5 := Lib.hid (show NewInts w1 y5 (w1.drew).heap.size (tabN D.n D.sz) from ⟨hB5, HG0.out.size⟩)
      have HLT5 := Lib.hid (show (w1.drew).heap.size < y5.heap.size from HQ5.out.1.lt)
      have HG5 := Lib.hid (Grew.trans HG0.out hG5)
      clear hr5 hB5 hG5 hs5 hr7 hB7 hG7 hs7 y7
      obtain ⟨y7, hr7, hB7, hG7, hs7⟩ := make_ints (capN D.n D.sz) (y5) (by omega)
      refine wpAnyH_ready (rs := [2, 7]) (by kernel_rfl) (by simp) ?_
      refine (AllReadyH.cons rfl (fun K hK => ?_) (AllReadyH.cons rfl (fun K hK => ?_) AllReadyH.nil))
      · go_simp
        refine (dsize_any d F D _ (H.out.1.grew (Grew.trans HG1.out HG5.out))).mono ?_
        rintro e u2 ⟨rfl, rfl⟩
        refine hK.out _ _ trivial (fun _ => ?_)
        clear hK K
        (try simp only [Act.put, List.setIfInBounds_toArray, List.set_cons_zero, List.set_cons_succ])
        clear hr7 hB7 hG7 hs7 y7
        refine wpAnyH_take (i := 3) (v := ?_) rfl (by kernel_rfl) (by kernel_rfl) (by kernel_rfl) (fun _ _ _ h => h) (Or.inl ⟨by rfl, ?_⟩) trivial ?_
        rotate_left
        · (intro w hSw; (try dsimp only at hSw); go_simp) <;> with_reducible rfl
        (try simp only [Act.put, List.setIfInBounds_toArray, List.set_cons_zero, List.set_cons_succ])
        obtain ⟨y7, hr7, hB7, hG7, hs7⟩ := make_ints (capN D.n D.sz) (y5) (by omega)
        refine wpAnyH_ready (rs := [7, 9]) (by kernel_rfl) (by simp) ?_
        refine (AllReadyH.cons rfl (fun K hK => ?_) (AllReadyH.cons rfl (fun K hK => ?_) AllReadyH.nil))
        · go_simp
          refine hK.out _ _ trivial (fun _ => ?_)
          clear hK K
          (try simp only [Act.put, List.setIfInBounds_toArray, List.set_cons_zero, List.set_cons_succ])
          have HQ5 := Lib.hid (HQ5.out.grew hG7)
          have HQ7 := Lib.hid (show NewInts w1 y7 (y5).heap.size (capN D.n D.sz) from ⟨hB7, HG5.out.size⟩)
          have HD := Lib.hid (show (w1.drew).heap.size ≠ (y5).heap.size from Nat.ne_of_lt HLT5.out)
          have HG7 := Lib.hid (Grew.trans HG5.out hG7)
          clear hr7 hB7 hG7 hs7
          refine wpAnyH_ready (rs := [9]) (by kernel_rfl) (by simp) ?_
          refine (AllReadyH.cons rfl (fun K hK => ?_) AllReadyH.nil)
          · go_simp
            refine (dsectors_any d F D _ (H.out.1.grew (Grew.trans HG1.out HG7.out))).mono ?_
            rintro e u2 ⟨rfl, rfl⟩
            refine hK.out _ _ trivial (fun _ => ?_)
            clear hK K
            (try simp only [Act.put, List.setIfInBounds_toArray, List.set_cons_zero, List.set_cons_succ])
            refine wpAnyH_ready (rs := [10]) (by kernel_rfl) (by simp) ?_
            refine (AllReadyH.cons rfl (fun K hK => ?_) AllReadyH.nil)
            · go_simp
              refine (pnew_any D.n _ (by omega)).mono ?_
              rintro e y10 ⟨A10, c10, rfl, hp10, hg10, hn10⟩
              refine hK.out _ _ trivial (fun _ => ?_)
              clear hK K
              (try simp only [Act.put, List.setIfInBounds_toArray, List.set_cons_zero, List.set_cons_succ])
              have HQ5 := Lib.hid (HQ5.out.grew hg10)
              have HQ7 := Lib.hid (HQ7.out.grew hg10)
              have HQ10 := Lib.hid (show NewPool w1 y10 (y7).heap.size D.n A10 c10 from ⟨hp10, fun j hj => Nat.le_trans HG7.out.size (hn10 j hj)⟩)
              have HG10 := Lib.hid (Grew.trans HG7.out hg10)
              clear hp10 hg10 hn10
              refine wpAnyH_take (i := 11) (v := ?_) rfl (by kernel_rfl) (by kernel_rfl) (by kernel_rfl) (fun _ _ _ h => h) (Or.inl ⟨by rfl, ?_⟩) trivial ?_
              rotate_left
              · (intro w hSw; (try dsimp only at hSw); go_simp) <;> with_reducible rfl
              (try simp only [Act.put, List.setIfInBounds_toArray, List.set_cons_zero, List.set_cons_succ])
              refine wpAnyH_ready (rs := [12]) (by kernel_rfl) (by simp) ?_
              refine AllReadyH.cons rfl (fun K hK => ?_) AllReadyH.nil
              go_simp
              refine hK.out _ _ trivial (fun _ => ?_)
              clear hK K
              (try simp only [Act.put, List.setIfInBounds_toArray, List.set_cons_zero, List.set_cons_succ])
              refine wpAnyH_ready (rs := [13]) (by kernel_rfl) (by simp) ?_
              refine AllReadyH.cons rfl (fun K hK => ?_) AllReadyH.nil
              go_simp
              refine hK.out _ _ trivial (fun _ => ?_)
              clear hK K
              (try simp only [Act.put, List.setIfInBounds_toArray, List.set_cons_zero, List.set_cons_succ])
              refine wpAnyH_done (by kernel_rfl) ?_ _
              go_wp2
              go_meet
              exact openJ_mk (by first | exact ew3 | omega) HQ5.out HQ7.out HD.out HQ10.out HG10.out
        · go_simp
          refine (dsectors_any d F D _ (H.out.1.grew (Grew.trans HG1.out HG5.out))).mono ?_
          rintro e u2 ⟨rfl, rfl⟩
          refine hK.out _ _ trivial (fun _ => ?_)
          clear hK K
          (try simp only [Act.put, List.setIfInBounds_toArray, List.set_cons_zero, List.set_cons_succ])
          clear hr7 hB7 hG7 hs7 y7
          obtain ⟨y7, hr7, hB7, hG7, hs7⟩ := make_ints (capN D.n D.sz) (y5) (by omega)
          refine wpAnyH_ready (rs := [7, 10]) (by kernel_rfl) (by simp) ?_
          refine (AllReadyH.cons rfl (fun K hK => ?_) (AllReadyH.cons rfl (fun K hK => ?_) AllReadyH.nil))
          · go_simp
            refine hK.out _ _ trivial (fun _ => ?_)
            clear hK K
            (try simp only [Act.put, List.setIfInBounds_toArray, List.set_cons_zero, List.set_cons_succ])
            have HQ5 := Lib.hid (HQ5.out.grew hG7)
            have HQ7 := Lib.hid (show NewInts w1 y7 (y5).heap.size (capN D.n D.sz) from ⟨hB7, HG5.out.size⟩)
            have HD := Lib.hid (show (w1.drew).heap.size ≠ (y5).heap.size from Nat.ne_of_lt HLT5.out)
            have HG7 := Lib.hid (Grew.trans HG5.out hG7)
            clear hr7 hB7 hG7 hs7
            refine wpAnyH_ready (rs := [10]) (by kernel_rfl) (by simp) ?_
            refine (AllReadyH.cons rfl (fun K hK => ?_) AllReadyH.nil)
            · go_simp
              refine (pnew_any D.n _ (by omega)).mono ?_
              rintro e y10 ⟨A10, c10, rfl, hp10, hg10, hn10⟩
              refine hK.out _ _ trivial (fun _ => ?_)
              clear hK K
              (try simp only [Act.put, List.setIfInBounds_toArray, List.set_cons_zero, List.set_cons_succ])
              have HQ5 := Lib.hid (HQ5.out.grew hg10)
              have HQ7 := Lib.hid (HQ7.out.grew hg10)
              have HQ10 := Lib.hid (show NewPool w1 y10 (y7).heap.size D.n A10 c10 from ⟨hp10, fun j hj => Nat.le_trans HG7.out.size (hn10 j hj)⟩)
              have HG10 := Lib.hid (Grew.trans HG7.out hg10)
              clear hp10 hg10 hn10
              refine wpAnyH_take (i := 11) (v := ?_) rfl (by kernel_rfl) (by kernel_rfl) (by kernel_rfl) (fun _ _ _ h => h) (Or.inl ⟨by rfl, ?_⟩) trivial ?_
              rotate_left
              · (intro w hSw; (try dsimp only at hSw); go_simp) <;> with_reducible rfl
              (try simp only [Act.put, List.setIfInBounds_toArray, List.set_cons_zero, List.set_cons_succ])
              refine wpAnyH_ready (rs := [12]) (by kernel_rfl) (by simp) ?_
              refine AllReadyH.cons rfl (fun K hK => ?_) AllReadyH.nil
              go_simp
              refine hK.out _ _ trivial (fun _ => ?_)
              clear hK K
              (try simp only [Act.put, List.setIfInBounds_toArray, List.set_cons_zero, List.set_cons_succ])
              refine wpAnyH_ready (rs := [13]) (by kernel_rfl) (by simp) ?_
              refine AllReadyH.cons rfl (fun K hK => ?_) AllReadyH.nil
              go_simp
              refine hK.out _ _ trivial (fun _ => ?_)
              clear hK K
              (try simp only [Act.put, List.setIfInBounds_toArray, List.set_cons_zero, List.set_cons_succ])
              refine wpAnyH_done (by kernel_rfl) ?_ _
              go_wp2
              go_meet
              exact openJ_mk (by first | exact ew3 | omega) HQ5.out HQ7.out HD.out HQ10.out HG10.out
          · go_simp
            refine (pnew_any D.n _ (by omega)).mono ?_
            rintro e y10 ⟨A10, c10, rfl, hp10, hg10, hn10⟩
            refine hK.out _ _ trivial (fun _ => ?_)
            clear hK K
            (try simp only [Act.put, List.setIfInBounds_toArray, List.set_cons_zero, List.set_cons_succ])
            have HQ5 := Lib.hid (HQ5.out.grew hg10)
            have HLT5 := Lib.hid (Nat.lt_of_lt_of_le HLT5.out hg10.size)
            have HQ10 := Lib.hid (show NewPool w1 y10 (y5).heap.size D.n A10 c10 from ⟨hp10, fun j hj => Nat.le_trans HG5.out.size (hn10 j hj)⟩)
            have HG10 := Lib.hid (Grew.trans HG5.out hg10)
            clear hp10 hg10 hn10
            clear hr7 hB7 hG7 hs7 y7
            obtain ⟨y7, hr7, hB7, hG7, hs7⟩ := make_ints (capN D.n D.sz) (y10) (by omega)
            refine wpAnyH_ready (rs := [7]) (by kernel_rfl) (by simp) ?_
            refine (AllReadyH.cons rfl (fun K hK => ?_) AllReadyH.nil)
            · go_simp
              refine hK.out _ _ trivial (fun _ => ?_)
              clear hK K
              (try simp only [Act.put, List.setIfInBounds_toArray, List.set_cons_zero, List.set_cons_succ])
              have HQ5 := Lib.hid (HQ5.out.grew hG7)
              have HQ10 := Lib.hid (HQ10.out.grew hG7)
              have HQ7 := Lib.hid (show NewInts w1 y7 (y10).heap.size (capN D.n D.sz) from ⟨hB7, HG10.out.size⟩)
              have HD := Lib.hid (show (w1.drew).heap.size ≠ (y10).heap.size from Nat.ne_of_lt HLT5.out)
              have HG7 := Lib.hid (Grew.trans HG10.out hG7)
              clear hr7 hB7 hG7 hs7
              refine wpAnyH_take (i := 11) (v := ?_) rfl (by kernel_rfl) (by kernel_rfl) (by kernel_rfl) (fun _ _ _ h => h) (Or.inl ⟨by rfl, ?_⟩) trivial ?_
              rotate_left
              · (intro w hSw; (try dsimp only at hSw); go_simp) <;> with_reducible rfl
              (try simp only [Act.put, List.setIfInBounds_toArray, List.set_cons_zero, List.set_cons_succ])
              refine wpAnyH_ready (rs := [12]) (by kernel_rfl) (by simp) ?_
              refine AllReadyH.cons rfl (fun K hK => ?_) AllReadyH.nil
              go_simp
              refine hK.out _ _ trivial (fun _ => ?_)
              clear hK K
              (try simp only [Act.put, List.setIfInBounds_toArray, List.set_cons_zero, List.set_cons_succ])
              refine wpAnyH_ready (rs := [13]) (by kernel_rfl) (by simp) ?_
              refine AllReadyH.cons rfl (fun K hK => ?_) AllReadyH.nil
              go_simp
              refine hK.out _ _ trivial (fun _ => ?_)
              clear hK K
              (try simp only [Act.put, List.setIfInBounds_toArray, List.set_cons_zero, List.set_cons_succ])
              refine wpAnyH_done (by kernel_rfl) ?_ _
              go_wp2
              go_meet
              exact openJ_mk (by first | exact ew3 | omega) HQ5.out HQ7.out HD.out HQ10.out HG7.out
      · go_simp
        refine hK.out _ _ trivial (fun _ => ?_)
        clear hK K
        (try simp only [Act.put, List.setIfInBounds_toArray, List.set_cons_zero, List.set_cons_succ])
        have HQ5 := Lib.hid (HQ5.out.grew hG7)
        have HQ7 := Lib.hid (show NewInts w1 y7 (y5).heap.size (capN D.n D.sz) from ⟨hB7, HG5.out.size⟩)
        have HD := Lib.hid (show (w1.drew).heap.size ≠ (y5).heap.size from Nat.ne_of_lt HLT5.out)
        have HG7 := Lib.hid (Grew.trans HG5.out hG7)
        clear hr7 hB7 hG7 hs7
        refine wpAnyH_ready (rs := [2]) (by kernel_rfl) (by simp) ?_
        refine (AllReadyH.cons rfl (fun K hK => ?_) AllReadyH.nil)
        · go_simp
          refine (dsize_any d F D _ (H.out.1.grew (Grew.trans HG1.out HG7.out))).mono ?_
          rintro e u2 ⟨rfl, rfl⟩
          refine hK.out _ _ trivial (fun _ => ?_)
          clear hK K
          (try simp only [Act.put, List.setIfInBounds_toArray, List.set_cons_zero, List.set_cons_succ])
          refine wpAnyH_take (i := 3) (v := ?_) rfl (by kernel_rfl) (by kernel_rfl) (by kernel_rfl) (fun _ _ _ h => h) (Or.inl ⟨by rfl, ?_⟩) trivial ?_
          rotate_left
          · (intro w hSw; (try dsimp only at hSw); go_simp) <;> with_reducible rfl
          (try simp only [Act.put, List.setIfInBounds_toArray, List.set_cons_zero, List.set_cons_succ])
          refine wpAnyH_ready (rs := [9]) (by kernel_rfl) (by simp) ?_
          refine (AllReadyH.cons rfl (fun K hK => ?_) AllReadyH.nil)
          · go_simp
            refine (dsectors_any d F D _ (H.out.1.grew (Grew.trans HG1.out HG7.out))).mono ?_
            rintro e u2 ⟨rfl, rfl⟩
            refine hK.out _ _ trivial (fun _ => ?_)
            clear hK K
            (try simp only [Act.put, List.setIfInBounds_toArray, List.set_cons_zero, List.set_cons_succ])
            refine wpAnyH_ready (rs := [10]) (by kernel_rfl) (by simp) ?_
            refine (AllReadyH.cons rfl (fun K hK => ?_) AllReadyH.nil)
            · go_simp
              refine (pnew_any D.n _ (by omega)).mono ?_
              rintro e y10 ⟨A10, c10, rfl, hp10, hg10, hn10⟩
              refine hK.out _ _ trivial (fun _ => ?_)
              clear hK K
              (try simp only [Act.put, List.setIfInBounds_toArray, List.set_cons_zero, List.set_cons_succ])
              have HQ5 := Lib.hid (HQ5.out.grew hg10)
              have HQ7 := Lib.hid (HQ7.out.grew hg10)
              have HQ10 := Lib.hid (show NewPool w1 y10 (y7).heap.size D.n A10 c10 from ⟨hp10, fun j hj => Nat.le_trans HG7.out.size (hn10 j hj)⟩)
              have HG10 := Lib.hid (Grew.trans HG7.out hg10)
              clear hp10 hg10 hn10
              refine wpAnyH_take (i := 11) (v := ?_) rfl (by kernel_rfl) (by kernel_rfl) (by kernel_rfl) (fun _ _ _ h => h) (Or.inl ⟨by rfl, ?_⟩) trivial ?_
              rotate_left
              · (intro w hSw; (try dsimp only at hSw); go_simp) <;> with_reducible rfl
              (try simp only [Act.put, List.setIfInBounds_toArray, List.set_cons_zero, List.set_cons_succ])
              refine wpAnyH_ready (rs := [12]) (by kernel_rfl) (by simp) ?_
              refine AllReadyH.cons rfl (fun K hK => ?_) AllReadyH.nil
              go_simp
              refine hK.out _ _ trivial (fun _ => ?_)
              clear hK K
              (try simp only [Act.put, List.setIfInBounds_toArray, List.set_cons_zero, List.set_cons_succ])
              refine wpAnyH_ready (rs := [13]) (by kernel_rfl) (by simp) ?_
              refine AllReadyH.cons rfl (fun K hK => ?_) AllReadyH.nil
              go_simp
              refine hK.out _ _ trivial (fun _ => ?_)
              clear hK K
              (try simp only [Act.put, List.setIfInBounds_toArray, List.set_cons_zero, List.set_cons_succ])
              refine wpAnyH_done (by kernel_rfl) ?_ _
              go_wp2
              go_meet
              exact openJ_mk (by first | exact ew3 | omega) HQ5.out HQ7.out HD.out HQ10.out HG10.out
    · go_simp
      refine hK.out _ _ trivial (fun _ => ?_)
      clear hK K
      (try simp only [Act.put, List.setIfInBounds_toArray, List.set_cons_zero, List.set_cons_succ])
      have HQ7 := Lib.hid (show NewInts w1 y7 (w1.drew).heap.size (capN D.n D.sz) from ⟨hB7, HG0.out.size⟩)
      have HLT7 := Lib.hid (show (w1.drew).heap.size < y7.heap.size from HQ7.out.1.lt)
      have HG7 := Lib.hid (Grew.trans HG0.out hG7)
      clear hr7 hB7 hG7 hs7 hr5 hB5 hG5 hs5 y5
      obtain ⟨y5, hr5, hB5, hG5, hs5⟩ := make_ints (tabN D.n D.sz) (y7) (by omega)
      refine wpAnyH_ready (rs := [2, 5]) (by kernel_rfl) (by simp) ?_
      refine (AllReadyH.cons rfl (fun K hK => ?_) (AllReadyH.cons rfl (fun K hK => ?_) AllReadyH.nil))
      · go_simp
        refine (dsize_any d F D _ (H.out.1.grew (Grew.trans HG1.out HG7.out))).mono ?_
        rintro e u2 ⟨rfl, rfl⟩
        refine hK.out _ _ trivial (fun _ => ?_)
        clear hK K
        (try simp only [Act.put, List.setIfInBounds_toArray, List.set_cons_zero, List.set_cons_succ])
        clear hr5 hB5 hG5 hs5 y5
        refine wpAnyH_take (i := 3) (v := ?_) rfl (by kernel_rfl) (by kernel_rfl) (by kernel_rfl) (fun _ _ _ h => h) (Or.inl ⟨by rfl, ?_⟩) trivial ?_
        rotate_left
        · (intro w hSw; (try dsimp only at hSw); go_simp) <;> with_reducible rfl
        (try simp only [Act.put, List.setIfInBounds_toArray, List.set_cons_zero, List.set_cons_succ])
        obtain ⟨y5, hr5, hB5, hG5, hs5⟩ := make_ints (tabN D.n D.sz) (y7) (by omega)
        refine wpAnyH_ready (rs := [5, 9]) (by kernel_rfl) (by simp) ?_
        refine (AllReadyH.cons rfl (fun K hK => ?_) (AllReadyH.cons rfl (fun K hK => ?_) AllReadyH.nil))
        · go_simp
          refine hK.out _ _ trivial (fun _ => ?_)
          clear hK K
          (try simp only [Act.put, List.setIfInBounds_toArray, List.set_cons_zero, List.set_cons_succ])
          have HQ7 := Lib.hid (HQ7.out.grew hG5)
          have HQ5 := Lib.hid (show NewInts w1 y5 (y7).heap.size (tabN D.n D.sz) from ⟨hB5, HG7.out.size⟩)
          have HD := Lib.hid (show (y7).heap.size ≠ (w1.drew).heap.size from Ne.symm (Nat.ne_of_lt HLT7.out))
          have HG5 := Lib.hid (Grew.trans HG7.out hG5)
          clear hr5 hB5 hG5 hs5
          refine wpAnyH_ready (rs := [9]) (by kernel_rfl) (by simp) ?_
          refine (AllReadyH.cons rfl (fun K hK => ?_) AllReadyH.nil)
          · go_simp
            refine (dsectors_any d F D _ (H.out.1.grew (Grew.trans HG1.out HG5.out))).mono ?_
            rintro e u2 ⟨rfl, rfl⟩
            refine hK.out _ _ trivial (fun _ => ?_)
            clear hK K
            (try simp only [Act.put, List.setIfInBounds_toArray, List.set_cons_zero, List.set_cons_succ])
            refine wpAnyH_ready (rs := [10]) (by kernel_rfl) (by simp) ?_
            refine (AllReadyH.cons rfl (fun K hK => ?_) AllReadyH.nil)
            · go_simp
              refine (pnew_any D.n _ (by omega)).mono ?_
              rintro e y10 ⟨A10, c10, rfl, hp10, hg10, hn10⟩
              refine hK.out _ _ trivial (fun _ => ?_)
              clear hK K
              (try simp only [Act.put, List.setIfInBounds_toArray, List.set_cons_zero, List.set_cons_succ])
              have HQ7 := Lib.hid (HQ7.out.grew hg10)
              have HQ5 := Lib.hid (HQ5.out.grew hg10)
              have HQ10 := Lib.hid (show NewPool w1 y10 (y5).heap.size D.n A10 c10 from ⟨hp10, fun j hj => Nat.le_trans HG5.out.size (hn10 j hj)⟩)
              have HG10 := Lib.hid (Grew.trans HG5.out hg10)
              clear hp10 hg10 hn10
              refine wpAnyH_take (i := 11) (v := ?_) rfl (by kernel_rfl) (by kernel_rfl) (by kernel_rfl) (fun _ _ _ h => h) (Or.inl ⟨by rfl, ?_⟩) trivial ?_
              rotate_left
              · (intro w hSw; (try dsimp only at hSw); go_simp) <;> with_reducible rfl
              (try simp only [Act.put, List.setIfInBounds_toArray, List.set_cons_zero, List.set_cons_succ])
              refine wpAnyH_ready (rs := [12]) (by kernel_rfl) (by simp) ?_
              refine AllReadyH.cons rfl (fun K hK => ?_) AllReadyH.nil
              go_simp
              refine hK.out _ _ trivial (fun _ => ?_)
              clear hK K
              (try simp only [Act.put, List.setIfInBounds_toArray, List.set_cons_zero, List.set_cons_succ])
              refine wpAnyH_ready (rs := [13]) (by kernel_rfl) (by simp) ?_
              refine AllReadyH.cons rfl (fun K hK => ?_) AllReadyH.nil
              go_simp
              refine hK.out _ _ trivial (fun _ => ?_)
              clear hK K
              (try simp only [Act.put, List.setIfInBounds_toArray, List.set_cons_zero, List.set_cons_succ])
              refine wpAnyH_done (by kernel_rfl) ?_ _
              go_wp2
              go_meet
              exact openJ_mk (by first | exact ew3 | omega) HQ5.out HQ7.out HD.out HQ10.out HG10.out
        · go_simp
          refine (dsectors_any d F D _ (H.out.1.grew (Grew.trans HG1.out HG7.out))).mono ?_
          rintro e u2 ⟨rfl, rfl⟩
          refine hK.out _ _ trivial (fun _ => ?_)
          clear hK K
          (try simp only [Act.put, List.setIfInBounds_toArray, List.set_cons_zero, List.set_cons_succ])
          clear hr5 hB5 hG5 hs5 y5
          obtain ⟨y5, hr5, hB5, hG5, hs5⟩ := make_ints (tabN D.n D.sz) (y7) (by omega)
          refine wpAnyH_ready (rs := [5, 10]) (by kernel_rfl) (by simp) ?_
          refine (AllReadyH.cons rfl (fun K hK => ?_) (AllReadyH.cons rfl (fun K hK => ?_) AllReadyH.nil))
          · go_simp
            refine hK.out _ _ trivial (fun _ => ?_)
            clear hK K
            (try simp only [Act.put, List.setIfInBounds_toArray, List.set_cons_zero, List.set_cons_succ])
            have HQ7 := Lib.hid (HQ7.out.grew hG5)
            have HQ5 := Lib.hid (show NewInts w1 y5 (y7).heap.size (tabN D.n D.sz) from ⟨hB5, HG7.out.size⟩)
            have HD := Lib.hid (show (y7).heap.size ≠ (w1.drew).heap.size from Ne.symm (Nat.ne_of_lt HLT7.out))
            have HG5 := Lib.hid (Grew.trans HG7.out hG5)
            clear hr5 hB5 hG5 hs5
            refine wpAnyH_ready (rs := [10]) (by kernel_rfl) (by simp) ?_
            refine (AllReadyH.cons rfl (fun K hK => ?_) AllReadyH.nil)
            · go_simp
              refine (pnew_any D.n _ (by omega)).mono ?_
              rintro e y10 ⟨A10, c10, rfl, hp10, hg10, hn10⟩
              refine hK.out _ _ trivial (fun _ => ?_)
              clear hK K
              (try simp only [Act.put, List.setIfInBounds_toArray, List.set_cons_zero, List.set_cons_succ])
              have HQ7 := Lib.hid (HQ7.out.grew hg10)
              have HQ5 := Lib.hid (HQ5.out.grew hg10)
              have HQ10 := Lib.hid (show NewPool w1 y10 (y5).heap.size D.n A10 c10 from ⟨hp10, fun j hj => Nat.le_trans HG5.out.size (hn10 j hj)⟩)
              have HG10 := Lib.hid (Grew.trans HG5.out hg10)
              clear hp10 hg10 hn10
              refine wpAnyH_take (i := 11) (v := ?_) rfl (by kernel_rfl) (by kernel_rfl) (by kernel_rfl) (fun _ _ _ h => h) (Or.inl ⟨by rfl, ?_⟩) trivial ?_
              rotate_left
              · (intro w hSw; (try dsimp only at hSw); go_simp) <;> with_reducible rfl
              (try simp only [Act.put, List.setIfInBounds_toArray, List.set_cons_zero, List.set_cons_succ])
              refine wpAnyH_ready (rs := [12]) (by kernel_rfl) (by simp) ?_
              refine AllReadyH.cons rfl (fun K hK => ?_) AllReadyH.nil
              go_simp
              refine hK.out _ _ trivial (fun _ => ?_)
              clear hK K
              (try simp only [Act.put, List.setIfInBounds_toArray, List.set_cons_zero, List.set_cons_succ])
              refine wpAnyH_ready (rs := [13]) (by kernel_rfl) (by simp) ?_
              refine AllReadyH.cons rfl (fun K hK => ?_) AllReadyH.nil
              go_simp
              refine hK.out _ _ trivial (fun _ => ?_)
              clear hK K
              (try simp only [Act.put, List.setIfInBounds_toArray, List.set_cons_zero, List.set_cons_succ])
              refine wpAnyH_done (by kernel_rfl) ?_ _
              go_wp2
              go_meet
              exact openJ_mk (by first | exact ew3 | omega) HQ5.out HQ7.out HD.out HQ10.out HG10.out
          · go_simp
            refine (pnew_any D.n _ (by omega)).mono ?_
            rintro e y10 ⟨A10, c10, rfl, hp10, hg10, hn10⟩
            refine hK.out _ _ trivial (fun _ => ?_)
            clear hK K
            (try simp only [Act.put, List.setIfInBounds_toArray, List.set_cons_zero, List.set_cons_succ])
            have HQ7 := Lib.hid (HQ7.out.grew hg10)
            have HLT7 := Lib.hid (Nat.lt_of_lt_of_le HLT7.out hg10.size)
            have HQ10 := Lib.hid (show NewPool w1 y10 (y7).heap.size D.n A10 c10 from ⟨hp10, fun j hj => Nat.le_trans HG7.out.size (hn10 j hj)⟩)
            have HG10 := Lib.hid (Grew.trans HG7.out hg10)
            clear hp10 hg10 hn10
            clear hr5 hB5 hG5 hs5 y5
            obtain ⟨y5, hr5, hB5, hG5, hs5⟩ := make_ints (tabN D.n D.sz) (y10) (by omega)
            refine wpAnyH_ready (rs := [5]) (by kernel_rfl) (by simp) ?_
            refine (AllReadyH.cons rfl (fun K hK => ?_) AllReadyH.nil)
            · go_simp
              refine hK.out _ _ trivial (fun _ => ?_)
              clear hK K
              (try simp only [Act.put, List.setIfInBounds_toArray, List.set_cons_zero, List.set_cons_succ])
              have HQ7 := Lib.hid (HQ7.out.grew hG5)
              have HQ10 := Lib.hid (HQ10.out.grew hG5)
              have HQ5 := Lib.hid (show NewInts w1 y5 (y10).heap.size (tabN D.n D.sz) from ⟨hB5, HG10.out.size⟩)
              have HD := Lib.hid (show (y10).heap.size ≠ (w1.drew).heap.size from Ne.symm (Nat.ne_of_lt HLT7.out))
              have HG5 := Lib.hid (Grew.trans HG10.out hG5)
              clear hr5 hB5 hG5 hs5
              refine wpAnyH_take (i := 11) (v := ?_) rfl (by kernel_rfl) (by kernel_rfl) (by kernel_rfl) (fun _ _ _ h => h) (Or.inl ⟨by rfl, ?_⟩) trivial ?_
              rotate_left
              · (intro w hSw; (try dsimp only at hSw); go_simp) <;> with_reducible rfl
              (try simp only [Act.put, List.setIfInBounds_toArray, List.set_cons_zero, List.set_cons_succ])
              refine wpAnyH_ready (rs := [12]) (by kernel_rfl) (by simp) ?_
              refine AllReadyH.cons rfl (fun K hK => ?_) AllReadyH.nil
              go_simp
              refine hK.out _ _ trivial (fun _ => ?_)
              clear hK K
              (try simp only [Act.put, List.setIfInBounds_toArray, List.set_cons_zero, List.set_cons_succ])
              refine wpAnyH_ready (rs := [13]) (by kernel_rfl) (by simp) ?_
              refine AllReadyH.cons rfl (fun K hK => ?_) AllReadyH.nil
              go_simp
              refine hK.out _ _ trivial (fun _ => ?_)
              clear hK K
              (try simp only [Act.put, List.setIfInBounds_toArray, List.set_cons_zero, List.set_cons_succ])
              refine wpAnyH_done (by kernel_rfl) ?_ _
              go_wp2
              go_meet
              exact openJ_mk (by first | exact ew3 | omega) HQ5.out HQ7.out HD.out HQ10.out HG5.out
      · go_simp
        refine hK.out _ _ trivial (fun _ => ?_)
        clear hK K
        (try simp only [Act.put, List.setIfInBounds_toArray, List.set_cons_zero, List.set_cons_succ])
        have HQ7 := Lib.hid (HQ7.out.grew hG5)
        have HQ5 := Lib.hid (show NewInts w1 y5 (y7).heap.size (tabN D.n D.sz) from ⟨hB5, HG7.out.size⟩)
        have HD := Lib.hid (show (y7).heap.size ≠ (w1.drew).heap.size from Ne.symm (Nat.ne_of_lt HLT7.out))
        have HG5 := Lib.hid (Grew.trans HG7.out hG5)
        clear hr5 hB5 hG5 hs5
        refine wpAnyH_ready (rs := [2]) (by kernel_rfl) (by simp) ?_
        refine (AllReadyH.cons rfl (fun K hK => ?_) AllReadyH.nil)
        · go_simp
          refine (dsize_any d F D _ (H.out.1.grew (Grew.trans HG1.out HG5.out))).mono ?_
          rintro e u2 ⟨rfl, rfl⟩
          refine hK.out _ _ trivial (fun _ => ?_)
          clear hK K
          (try simp only [Act.put, List.setIfInBounds_toArray, List.set_cons_zero, List.set_cons_succ])
          refine wpAnyH_take (i := 3) (v := ?_) rfl (by kernel_rfl) (by kernel_rfl) (by kernel_rfl) (fun _ _ _ h => h) (Or.inl ⟨by rfl, ?_⟩) trivial ?_
          rotate_left
          · (intro w hSw; (try dsimp only at hSw); go_simp) <;> with_reducible rfl
          (try simp only [Act.put, List.setIfInBounds_toArray, List.set_cons_zero, List.set_cons_succ])
          refine wpAnyH_ready (rs := [9]) (by kernel_rfl) (by simp) ?_
          refine (AllReadyH.cons rfl (fun K hK => ?_) AllReadyH.nil)
          · go_simp
            refine (dsectors_any d F D _ (H.out.1.grew (Grew.trans HG1.out HG5.out))).mono ?_
            rintro e u2 ⟨rfl, rfl⟩
            refine hK.out _ _ trivial (fun _ => ?_)
            clear hK K
            (try simp only [Act.put, List.setIfInBounds_toArray, List.set_cons_zero, List.set_cons_succ])
            refine wpAnyH_ready (rs := [10]) (by kernel_rfl) (by simp) ?_
            refine (AllReadyH.cons rfl (fun K hK => ?_) AllReadyH.nil)
            · go_simp
              refine (pnew_any D.n _ (by omega)).mono ?_
              rintro e y10 ⟨A10, c10, rfl, hp10, hg10, hn10⟩
              refine hK.out _ _ trivial (fun _ => ?_)
              clear hK K
              (try simp only [Act.put, List.setIfInBounds_toArray, List.set_cons_zero, List.set_cons_succ])
              have HQ7 := Lib.hid (HQ7.out.grew hg10)
              have HQ5 := Lib.hid (HQ5.out.grew hg10)
              have HQ10 := Lib.hid (show NewPool w1 y10 (y5).heap.size D.n A10 c10 from ⟨hp10, fun j hj => Nat.le_trans HG5.out.size (hn10 j hj)⟩)
              have HG10 := Lib.hid (Grew.trans HG5.out hg10)
              clear hp10 hg10 hn10
              refine wpAnyH_take (i := 11) (v := ?_) rfl (by kernel_rfl) (by kernel_rfl) (by kernel_rfl) (fun _ _ _ h => h) (Or.inl ⟨by rfl, ?_⟩) trivial ?_
              rotate_left
              · (intro w hSw; (try dsimp only at hSw); go_simp) <;> with_reducible rfl
              (try simp only [Act.put, List.setIfInBounds_toArray, List.set_cons_zero, List.set_cons_succ])
              refine wpAnyH_ready (rs := [12]) (by kernel_rfl) (by simp) ?_
              refine AllReadyH.cons rfl (fun K hK => ?_) AllReadyH.nil
              go_simp
              refine hK.out _ _ trivial (fun _ => ?_)
              clear hK K
              (try simp only [Act.put, List.setIfInBounds_toArray, List.set_cons_zero, List.set_cons_succ])
              refine wpAnyH_ready (rs := [13]) (by kernel_rfl) (by simp) ?_
              refine AllReadyH.cons rfl (fun K hK => ?_) AllReadyH.nil
              go_simp
              refine hK.out _ _ trivial (fun _ => ?_)
              clear hK K
              (try simp only [Act.put, List.setIfInBounds_toArray, List.set_cons_zero, List.set_cons_succ])
              refine wpAnyH_done (by kernel_rfl) ?_ _
              go_wp2
              go_meet
              exact openJ_mk (by first | exact ew3 | omega) HQ5.out HQ7.out HD.out HQ10.out HG10.out
  case rest =>
    obtain ⟨p, g1, g2, b, A, c, rfl, hO⟩ := hcut
    have HO := Lib.hid hO
    obtain ⟨c0, f0, s0⟩ := hO.blk.facts
    clear hO
    have hdF : ∀ u, Chg (PF b A) wc u → DS u d F D := fun u hu => ((H.out.1.grew HG1.out).grew HO.out.grew).chg hu fun j hj e => by
      have h1 := H.out.1.lt j hj
      have h2 := HO.out.pool.new j e
      have h3 := HG1.out.size
      omega
    have hkeep : ∀ u, Chg (PF b A) wc u → Blk u p 101 #[.pointer (some ⟨d, 0, none⟩), .int .i64 0, .int .i64 (D.sz / 2 : Nat), .slice (some ⟨g1, 0, none⟩) (tabN D.n D.sz) (tabN D.n D.sz), .slice (some ⟨g2, 0, none⟩) (capN D.n D.sz) (capN D.n D.sz), .pointer (some ⟨b, 0, none⟩), .pointer none, .bool false] := fun u hu =>
      HO.out.blk.chg hu (pf_ne HO.out.pool.p HO.out.blk (by decide) (by decide))
    have HD := Lib.hid hdF
    have HK := Lib.hid hkeep
    have HX := Lib.hid (show D.n ≤ 65536 by omega)
    clear hdF hkeep
    go_wp2
    go_loopw [41] (fun i wr => ∃ k : Nat, k ≤ 2 ∧ i = .int .i64 k ∧ PIn wr b (mkd D.n k) A c ∧ Chg (PF b A) wc wr) (fun i _ => 2 - (intOf i).toNat)
    case atStart => exact ⟨0, Nat.zero_le _, rfl, HO.out.pool.p, Chg.refl _ _⟩
    case round =>
      obtain ⟨k, hk, rfl, hp, hc⟩ := hrel
      have HP := Lib.hid (And.intro hp hc)
      obtain ⟨c1, f1, s1⟩ := (HK.out wr hc).facts
      clear c0 f0 s0 hp hc
      by_cases hlt : k < 2
      · go_wp2_with (go_at_call 80; (refine (pmark_any b k _ A c _ HP.out.1 (by rw [mkd_len]; exact HX.out)).mono ?_); rintro e w3 ⟨rfl, h3, h4⟩; have H3 := Lib.hid (And.intro h3 h4); clear h3 h4)
        have H4 := Lib.hid (show PIn w3 b (mkd D.n (k + 1)) A c from by have := H3.out.1; rw [mkd_mark D.n k (by omega)] at this; exact this)
        exact ⟨⟨k + 1, by omega, by simp, H4.out, Chg.trans HP.out.2 H3.out.2 fun _ _ e => e⟩, by simp [intOf]; omega⟩
      · obtain rfl : k = 2 := by omega
        go_wp2_with (go_at_call 81; (refine (load_none d F D _ (HD.out _ HP.out.2) hd (by omega) (by omega) H.out.2.2.1 H.out.2.2.2).mono ?_); rintro e w4 ⟨rfl, h4⟩; have H4 := Lib.hid h4; clear h4)
        go_ret2
        have hg : Grew w1 w4 := Grew.trans (Chg.trans HO.out.grew HP.out.2 fun i hi e => by have := HO.out.pool.new i e; omega) H4.out
        have hsz := HG1.out.size
        obtain ⟨F', hF, hnew⟩ := gfresh_mk (w0 := w1) ((H.out.1.grew HG1.out).grew hg) (fun j hj => Nat.lt_of_lt_of_le (H.out.1.lt j hj) hsz) h0 (Nat.lt_of_lt_of_le (tab_pos H.out.2.1) hsz) (tab_chg (tab_chg H.out.2.1 HG1.out id) hg id) hsm.2.1
          ((HK.out _ HP.out.2).grew H4.out) ((HO.out.t1.blk.chg HP.out.2 (pf_ne HO.out.pool.p HO.out.t1.blk (by decide) (by decide))).grew H4.out) ((HO.out.t2.blk.chg HP.out.2 (pf_ne HO.out.pool.p HO.out.t2.blk (by decide) (by decide))).grew H4.out) HO.out.ne (HP.out.1.grew H4.out)
          HO.out.new HO.out.t1.new HO.out.t2.new HO.out.pool.new
        exact ⟨p, F', rfl, hF.grew ((Chg.refl _ _).alloc _), (Grew.trans HG1.out hg).alloc _, fun j hj => (hnew j hj).imp id fun e => Nat.le_trans hsz e⟩

end Go.Proofs.YtpkkcicaeldodaaGreatDoor

/- The pager: a new one on a new disk, as its pages are. -/
namespace Go.Proofs.YtpkkcicaeldodaaGreatDoor
open Go.RowKit Go.Maps

/-- A pager without pages. -/
def Rp.fresh (n sz : Nat) : Rp := { n := n, sz := sz, now := List.replicate (capN n sz) .no, was := none, touched := fun _ => false, epoch := 0 }
theorem rootL_zeros {ep m : Nat} {pg : List Nat} {sz : Nat} (h1 : 1 ≤ ep) (h2 : ep ≤ 1099511627776) (he : List.replicate m 0 = rootL ep pg sz) : False := by
  have hz : ∀ x ∈ tail8 ep, x = 0 := fun x hx => by
    have : x ∈ rootL ep pg sz := List.mem_append_right _ hx
    rw [← he] at this
    exact (List.mem_replicate.1 this).2
  have e0 := hz ((ep / 1099511627776 % 256 : Nat) : Int) (by simp [tail8])
  have e1 := hz ((ep / 4294967296 % 256 : Nat) : Int) (by simp [tail8])
  have e2 := hz ((ep / 16777216 % 256 : Nat) : Int) (by simp [tail8])
  have e3 := hz ((ep / 65536 % 256 : Nat) : Int) (by simp [tail8])
  have e4 := hz ((ep / 256 % 256 : Nat) : Int) (by simp [tail8])
  have e5 := hz ((ep % 256 : Nat) : Int) (by simp [tail8])
  omega
theorem rep_at {n i s : Nat} (h : (List.replicate n 0)[i]? = some s) : s = 0 := by
  rw [List.getElem?_replicate] at h
  split at h <;> simp at h
  exact h.symm
theorem rep_getD (n i : Nat) : (List.replicate n 0).getD i 0 = 0 := by
  rw [List.getD_eq_getElem?_getD]
  cases h : (List.replicate n 0)[i]? with
  | none => rfl
  | some s => rw [rep_at h]; rfl
theorem Gp.fresh_ok (n sz : Nat) (D : Dk) (hD : D = ⟨n, sz, fun _ => List.replicate sz 0, fun _ => none, false, 0, false, 0⟩) (h : 8 ≤ n ∧ n ≤ 4096 ∧ 64 ≤ sz ∧ sz ≤ 4096) : (Gp.fresh D).Ok ∧ (Gp.fresh D).view = Rp.fresh n sz := by
  subst hD
  have hm : ∀ s, s < n → (mkd n 2).getD s false = decide (2 ≤ s) := fun s hs => by rw [mkd_at n 2 s (by omega)]; simp [hs]
  have hcap : capN n sz ≤ 4096 := by unfold capN; split <;> omega
  refine ⟨⟨⟨h, ⟨mkd_len n 2, by simp [Gp.fresh], by simp [Gp.fresh], by simp [Gp.fresh, Gp.old]⟩, fun i s hi => ?_, fun k s hk h0 => absurd (rep_at hk) h0, fun i j s hi _ h2 => ?_, fun i j s hi _ h0 => absurd (rep_at hi) h0, fun k i s hk _ => ?_, fun s hs => ?_, fun s hs => ?_, fun i s hi h2 => ?_, fun i j s hi _ h2 => ?_, ⟨List.nodup_nil, fun s => ?_⟩, fun i hi => absurd rfl hi, fun k hk => ?_, ?_, fun s _ _ => rfl, ⟨fun e => ?_, fun i e' pg' _ hg _ hr => ?_, fun _ s hs => (List.mem_replicate.1 hs).2, fun k _ i _ => rep_getD _ _, fun k s hk h0 => absurd (rep_at hk) h0, fun k s hk h0 => absurd (rep_at hk) h0⟩, fun s _ x hx => ?_, Nat.zero_le _⟩, rfl, ⟨rfl, rfl, rfl⟩⟩, ?_⟩
  · have := rep_at hi; show s < n; omega
  · have := rep_at hi; omega
  · have := rep_at hk; omega
  · show (mkd n 2).getD s false = false ↔ _
    rw [hm s hs]
    constructor
    · intro e; left; simpa using e
    · rintro (e | ⟨k, e⟩ | ⟨k, e⟩ | e)
      · simpa using e
      · have := rep_at e; simp; omega
      · have := rep_at e; simp; omega
      · simp [Gp.fresh, Gp.fr] at e
  · simp [Gp.fresh, Gp.fr] at hs
  · have := rep_at hi; omega
  · have := rep_at hi; omega
  · simp only [Gp.fresh, Gp.lf, List.not_mem_nil, false_iff, not_and, not_exists]
    rintro h2 i hi
    have := rep_at hi
    omega
  · simp [Gp.fresh, Gp.tc] at hk
  · rw [show (Gp.fresh _).tc = fun _ => false from rfl, show cntN (fun _ => false) 64 = 0 from cntN_false fun _ _ => rfl]
    exact Nat.zero_le _
  · simp [Gp.fresh] at e
  · exact (rootL_zeros hg.1 hg.2.1 (show List.replicate sz 0 = _ from hr)).elim
  · have : x = 0 := (List.mem_replicate.1 (show x ∈ List.replicate sz 0 from hx)).2
    omega
  · simp [Gp.view, Rp.fresh, Gp.fresh, Gp.fr, Gp.tc, pk]

theorem gp_open_new (n sz d : Nat) (F : Nat → Prop) (w : World) (h : DS w d F ⟨n, sz, fun _ => List.replicate sz 0, fun _ => none, false, 0, false, 0⟩) (hT : TabAt 0 tab w) (h0 : ¬ F 0) (hn : 8 ≤ n) (hz : 64 ≤ sz) :
    Calls Tryz.prog 33 #[.pointer (some ⟨d, 0, none⟩)] w fun e w' => ∃ p F', e = .returned (.tuple #[.pointer (some ⟨p, 0, none⟩), .int .i64 0]) ∧ GP w' p F' (Rp.fresh n sz) ∧ Grew w w' ∧ ∀ j, F' j → F j ∨ w.heap.size ≤ j := by
  have hs := h.sml
  have hsz : 64 ≤ sz ∧ sz ≤ 4096 := ⟨hz, hs.2.2.2⟩
  have hnn : n ≤ 4096 := hs.2.1
  have hfo := Gp.fresh_ok n sz _ rfl ⟨hn, hnn, hsz⟩
  refine (gopen_new d F _ w h rfl hT h0 hn hz (fun i _ => ?_) (fun i _ x hx => ?_)).mono ?_
  · show partL (List.take (sz - 8) (List.replicate sz 0)) = none
    rw [List.take_replicate, Nat.min_eq_left (by omega)]
    exact part_zeros _ (by omega) (by omega)
  · have : x = 0 := (List.mem_replicate.1 (show x ∈ List.replicate sz 0 from hx)).2
    omega
  · rintro e w' ⟨p, F', rfl, h1, h2, h3⟩
    exact ⟨p, F', rfl, ⟨_, h1, hfo.1, hfo.2⟩, h2, h3⟩

end Go.Proofs.YtpkkcicaeldodaaGreatDoor

/- The tree's laws: a tree on a new disk. -/
namespace Go.Proofs.YtpkkcicaeldodaaGreatDoor
open Go.RowKit Go.Maps

/-- The pages of a new pager in an open change. -/
def Rp.opened (n sz : Nat) : Rp := (Rp.fresh n sz).begun
/-- .. with a tree's page. -/
def Rp.tree0 (n sz r : Nat) : Rp := ((Rp.opened n sz).put r .zero).put r (.new (ndL nd0 sz))
/-- What fresh leaves. -/
def FrOut (w w' : World) (n sz : Nat) (e : Ending) : Prop :=
  ∃ t p d r F, e = .returned (.tuple #[.pointer (some ⟨t, 0, none⟩), .pointer (some ⟨p, 0, none⟩), .pointer (some ⟨d, 0, none⟩)]) ∧ r < capN n sz ∧ BT w' t p r F (Rp.tree0 n sz r) ∧ Grew w w' ∧ (∀ j, F j → w.heap.size ≤ j) ∧ w.heap.size ≤ t
set_option maxRecDepth 100000 in
set_option maxHeartbeats 1600000 in
theorem bfresh_any (n sz : Nat) (w : World) (hT : TabAt 0 tab w) (h1 : 8 ≤ n) (h2 : n ≤ 4096) (h3 : 64 ≤ sz) (h4 : sz ≤ 4096) (hs : 1 ≤ (Rp.opened n sz).slack) (hc : 0 < capN n sz) :
    Calls Tryz.prog 10 #[.int .i64 n, .int .i64 sz] w fun e w' => FrOut w w' n sz e := by
  have H := Lib.hid (And.intro hT (And.intro hs hc))
  clear hT hs hc
  go_enter Tryz.func10, Tryz.ntmps10
  go_wp2_with fail
  refine (dnew_any n sz _ (by omega) h2 (by omega) h4).mono ?_
  rintro e w1 ⟨d, F1, rfl, hd, hg1, hn1⟩
  have hT1 := tab_chg H.out.1 hg1 id
  have hF0 : ¬ F1 0 := fun e => by have := hn1 0 e; have := tab_pos H.out.1; omega
  have H1 := Lib.hid (And.intro hd (And.intro hg1 (And.intro hn1 (And.intro hT1 hF0))))
  clear hd hg1 hn1 hT1 hF0
  go_wp2_with fail
  refine (gp_open_new n sz d F1 w1 H1.out.1 H1.out.2.2.2.1 H1.out.2.2.2.2 h1 h3).mono ?_
  rintro e w2 ⟨p, F2, rfl, hp, hg2, hn2⟩
  have H2 := Lib.hid (And.intro hp (And.intro (Grew.trans H1.out.2.1 hg2) (fun j hj => show w.heap.size ≤ j from (hn2 j hj).elim (H1.out.2.2.1 j) fun e => Nat.le_trans H1.out.2.1.size e)))
  clear hp hg2 hn2
  go_wp2_with fail
  refine (gp_begin p F2 _ w2 H2.out.1 rfl).mono ?_
  rintro e w3 ⟨rfl, F3, k1, k2, k3⟩
  have hg3 : Grew w w3 := Chg.trans H2.out.2.1 k2 fun i hi e => by have := H2.out.2.2 i e; omega
  have hn3 : ∀ j, F3 j → w.heap.size ≤ j := fun j hj => (k3 j hj).elim (H2.out.2.2 j) fun e => Nat.le_trans H2.out.2.1.size e
  have hcap := H.out.2.2
  have hno : Pk.no ∈ (Rp.opened n sz).now := by
    simp only [Rp.opened, Rp.begun, Rp.fresh]
    exact List.mem_replicate.2 ⟨by omega, rfl⟩
  have hnw := bnew_any p F3 (Rp.opened n sz) w3 k1 (by simp [Rp.opened, Rp.begun]) H.out.2.1 hno
  have H3 := Lib.hid (And.intro hnw (And.intro hg3 hn3))
  clear k1 k2 k3 hg3 hn3 hno hnw hcap
  go_wp2_with fail
  refine H3.out.1.mono ?_
  rintro e w4 ⟨t, r, F4, rfl, hr, hb, hc4, hn4, ht⟩
  have hsz3 := H3.out.2.1.size
  have H4 := Lib.hid (And.intro hr (And.intro hb (And.intro (show Grew w w4 from Chg.trans H3.out.2.1 hc4 fun i hi e => by have := H3.out.2.2 i e; omega) (And.intro (fun j hj => show w.heap.size ≤ j from (hn4 j hj).elim (H3.out.2.2 j) fun e => by omega) (show w.heap.size ≤ t by omega)))))
  clear hr hb hc4 hn4 ht hsz3
  go_wp2_with fail
  refine bodyPost_ret (v := .tuple #[.pointer (some ⟨t, 0, none⟩), .pointer (some ⟨p, 0, none⟩), .pointer (some ⟨d, 0, none⟩)]) (by simp [results, Tryz.results10, go_sem]) rfl ?_
  refine ⟨t, p, d, r, F4, rfl, ?_, H4.out.2.1, H4.out.2.2.1, H4.out.2.2.2.1, H4.out.2.2.2.2⟩
  have := (List.getElem?_eq_some_iff.1 H4.out.1).1
  simpa [Rp.opened, Rp.begun, Rp.fresh] using this

/-- The tree of a new disk. -/
theorem tree0_tr {n sz r : Nat} (hr : r < capN n sz) (hz : sz ≤ 4096) : Tr (Rp.tree0 n sz r).nd (halfN sz) 0 r [] [r] := by
  refine ⟨nd0, ?_, rfl, rfl, Nat.zero_le _, rfl, rfl⟩
  have hl : r < ((Rp.opened n sz).put r .zero).now.length := by rw [Rp.put_len]; simpa [Rp.opened, Rp.begun, Rp.fresh] using hr
  exact Rp.nd_new (nd0_fit _) hl hz
theorem tree0_used {n sz r : Nat} (hr : r < capN n sz) : (Rp.tree0 n sz r).now.countP Pk.used = 1 := by
  have hl : r < (Rp.opened n sz).now.length := by simpa [Rp.opened, Rp.begun, Rp.fresh] using hr
  have h0 : (Rp.opened n sz).now[r]? = some .no := by
    simp only [Rp.opened, Rp.begun, Rp.fresh] at hl ⊢
    rw [List.getElem?_eq_getElem hl, List.getElem_replicate]
  have h1 := Rp.put_used (c := .zero) h0
  have h2 := Rp.put_used (x := (Rp.opened n sz).put r .zero) (c := .new (ndL nd0 sz)) (c0 := .zero) (i := r) (by rw [Rp.put_at hl, if_pos rfl])
  have h3 : (Rp.opened n sz).now.countP Pk.used = 0 := by
    simp only [Rp.opened, Rp.begun, Rp.fresh]
    rw [List.countP_replicate]
    simp [Pk.used]
  simp [Pk.used] at h1 h2
  unfold Rp.tree0
  rw [h2, h1, h3]
end Go.Proofs.YtpkkcicaeldodaaGreatDoor

/- The tree's laws: a disk with room is never full. -/
namespace Go.Proofs.YtpkkcicaeldodaaGreatDoor
open Go.RowKit Go.Maps

/-- K pages may be used. -/
def Rp.roomy (x : Rp) (K : Nat) : Prop := x.was ≠ none ∧ (K : Int) + 1 ≤ x.slack + x.now.countP Pk.isNew ∧ K < x.now.length
theorem Rp.like.vol {x y : Rp} (h : x.like y) (hw : x.was ≠ none) : y.slack + y.now.countP Pk.isNew = x.slack + x.now.countP Pk.isNew := by
  have hb : y.base = x.base := by
    unfold Rp.base
    rw [h.was]
    cases hx : x.was with
    | none => exact absurd hx hw
    | some b => rfl
  unfold Rp.slack Rp.free
  rw [hb, h.n, h.sz]
  omega
theorem new_used (l : List Pk) : l.countP Pk.isNew ≤ l.countP Pk.used := List.countP_mono_left fun c _ h => by cases c <;> simp_all [Pk.isNew, Pk.used]
theorem no_mem {l : List Pk} (h : l.countP Pk.used < l.length) : Pk.no ∈ l := by
  refine Classical.byContradiction fun hn => ?_
  have : l.countP Pk.used = l.length := List.countP_eq_length.2 fun c hc => by
    cases c with
    | no => exact absurd hc hn
    | _ => rfl
  omega
theorem never_full {x z : Rp} {K : Nat} (hr : x.roomy K) (hl : x.like z) (hu : z.now.countP Pk.used ≤ K) : 1 ≤ z.slack ∧ Pk.no ∈ z.now := by
  have h1 := hl.vol hr.1
  have h2 := new_used z.now
  have h3 := hl.len
  exact ⟨by have := hr.2.1; omega, no_mem (by have := hr.2.2; omega)⟩
/-- What Put leaves where there is room. -/
def PuOk (w w' : World) (t p root : Nat) (F : Nat → Prop) (x0 : Rp) (k v : Int) (L : List KV) (e : Ending) : Prop :=
  e = .returned (.int .i64 0) ∧ ∃ y F' D P, BT w' t p root F' y ∧ Rch F F' w w' ∧ x0.like y ∧ TS y D root (putL L k v) P
theorem put_sure {w w' : World} {t p root D K : Nat} {F : Nat → Prop} {x0 x : Rp} {k v : Int} {L : List KV} {P : List Nat} {e : Ending} (h : PuOut w w' t p root F x D k v L e) (hr : x0.roomy K) (hl : x0.like x) (hs : TS x D root L P) (hh : 2 ≤ halfN x.sz) (hK : L.length + D + 5 ≤ K) : PuOk w w' t p root F x0 k v L e := by
  rcases h with ⟨rfl, y, F', D', P', h1, h2, h3, h4⟩ | ⟨rfl, z, -, h2, h3, h4⟩
  · exact ⟨rfl, y, F', D', P', h1, h2, hl.trans h3, h4⟩
  · exact absurd (never_full hr (hl.trans h2) (by have := hs.used; have := hs.tr.pages hh; omega)) h4
theorem TS.depth2 {x : Rp} {D root : Nat} {L : List KV} {P : List Nat} (h : TS x D root L P) (hh : 2 ≤ halfN x.sz) (hl : L.length ≤ 2) : D = 0 := by
  rcases h.tr.deep hh with e | e
  · exact e
  · by_cases hD : D = 0
    · exact hD
    · have : 2 ^ 2 ≤ 2 ^ (D + 1) := Nat.pow_le_pow_right (by omega) (by omega)
      omega
theorem tree0_ts {n sz r : Nat} (hr : r < capN n sz) (hz : sz ≤ 4096) : TS (Rp.tree0 n sz r) 0 r [] [r] := ⟨tree0_tr hr hz, by simp, List.Pairwise.nil, tree0_used hr⟩
theorem tree0_like {n sz r : Nat} : (Rp.opened n sz).like (Rp.tree0 n sz r) := (Rp.put_like _ _ _).trans (Rp.put_like _ _ _)
theorem opened12 : (Rp.opened 12 64).slack = 9 ∧ capN 12 64 = 10 ∧ (Rp.opened 12 64).now.countP Pk.isNew = 0 := ⟨by kernel_rfl, by kernel_rfl, by kernel_rfl⟩
theorem opened400 : (Rp.opened 400 64).slack = 385 ∧ capN 400 64 = 398 ∧ (Rp.opened 400 64).now.countP Pk.isNew = 0 := ⟨by kernel_rfl, by kernel_rfl, by kernel_rfl⟩
theorem opened_len (n sz : Nat) : (Rp.opened n sz).now.length = capN n sz := by simp [Rp.opened, Rp.begun, Rp.fresh]
theorem roomy12 : (Rp.opened 12 64).roomy 7 := ⟨by simp [Rp.opened, Rp.begun], by rw [opened12.1, opened12.2.2]; omega, by rw [opened_len, opened12.2.1]; omega⟩
theorem roomy400 : (Rp.opened 400 64).roomy 380 := ⟨by simp [Rp.opened, Rp.begun], by rw [opened400.1, opened400.2.2]; omega, by rw [opened_len, opened400.2.1]; omega⟩
end Go.Proofs.YtpkkcicaeldodaaGreatDoor

/- The tree: a key, or a value, is inserted into a node's rows. -/
namespace Go.Proofs.YtpkkcicaeldodaaGreatDoor
open Go.RowKit Go.Maps

section
variable {W : World} {N : Nat → Prop} {vk vv vc : Value} {l : List Int} {lk lv lc : List Value} {i g : Nat} {a : Int}
def InK (W w' : World) (N : Nat → Prop) (vk vv vc : Value) (l : List Int) (lv lc : List Value) (i : Nat) (a : Int) (e : Ending) : Prop :=
  ∃ A c, e = .returned (.slice A (l.length + 1) c) ∧ Rws w' (fun j => N j ∨ (Value.slice A (l.length + 1) c).ownBlock = some j) (.slice A (l.length + 1) c) vv vc (iv (insI l i a)) lv lc ∧ Ap W w' vk (.slice A (l.length + 1) c)
def InV (W w' : World) (N : Nat → Prop) (vk vv vc : Value) (l : List Int) (lk lc : List Value) (i : Nat) (a : Int) (e : Ending) : Prop :=
  ∃ A c, e = .returned (.slice A (l.length + 1) c) ∧ Rws w' (fun j => N j ∨ (Value.slice A (l.length + 1) c).ownBlock = some j) vk (.slice A (l.length + 1) c) vc lk (iv (insI l i a)) lc ∧ Ap W w' vv (.slice A (l.length + 1) c)
theorem insK (h : Rws W N vk vv vc (iv l) lv lc) (hl : l.length ≤ 1000) (hi : i ≤ l.length) (hg : Blk W g 3 #[.int .i64 a]) (hne : vk.ownBlock ≠ some g) (hp : 1 ≤ W.heap.size) :
    Calls Tryz.prog 44 #[vk, .int .i64 i, .slice (some ⟨g, 0, none⟩) 1 1] W fun e w' => InK W w' N vk vv vc l lv lc i a e := by
  have hk := h.rk
  rw [iv_len] at hk
  refine (binsert_any 1 vk l i g a W hk (by omega) hi hg hne hp).mono ?_
  rintro e w' ⟨v', rfl, ho, ha⟩
  obtain ⟨A, c, rfl, -⟩ := own_shape ho
  exact ⟨A, c, rfl, h.setK ha (by rw [iv_len, insI_len a hi]; exact ho), ha⟩
theorem insV (h : Rws W N vk vv vc lk (iv l) lc) (hl : l.length ≤ 1000) (hi : i ≤ l.length) (hg : Blk W g 3 #[.int .i64 a]) (hne : vv.ownBlock ≠ some g) (hp : 1 ≤ W.heap.size) :
    Calls Tryz.prog 44 #[vv, .int .i64 i, .slice (some ⟨g, 0, none⟩) 1 1] W fun e w' => InV W w' N vk vv vc l lk lc i a e := by
  have hk := h.rv
  rw [iv_len] at hk
  refine (binsert_any 1 vv l i g a W hk (by omega) hi hg hne hp).mono ?_
  rintro e w' ⟨v', rfl, ho, ha⟩
  obtain ⟨A, c, rfl, -⟩ := own_shape ho
  exact ⟨A, c, rfl, h.setV ha (by rw [iv_len, insI_len a hi]; exact ho), ha⟩
end
end Go.Proofs.YtpkkcicaeldodaaGreatDoor
