/- The document's answer for the auctions: what it looks up. -/
import Derived.Test.YtbmogbbenfpmiaaBidC
namespace Go.Proofs.Ytbmogbbenfpmiaa
open Go.RowKit

set_option maxHeartbeats 400000 in
theorem rfind_any (id nx : Int) (l : List Auc) (A : Option Addr) (c : Nat) (w : World) (hs : Sl w 7 A l.length (l.flatMap Auc.vals)) (hl : l.length ≤ 1000000) :
    Calls Try.prog 16 #[.agg #[.slice A l.length c, .int .i64 nx], .int .i64 id] w fun e w' => e = .returned (.int .i64 (fidx (fun x : Auc => x.id == id) l)) ∧ Grew w w' := by
  have Hs := Lib.hid hs
  clear hs
  go_enter Try.func16, Try.ntmps16
  go_wp2
  go_loopw [5] (fun i wr => ∃ k : Nat, k ≤ l.length ∧ i = .int .i64 k ∧ (∀ j x, j < k → l[j]? = some x → (x.id == id) = false) ∧ Grew w wr ∧ Blk wr w.heap.size 39 #[.slice A l.length c, .int .i64 nx]) (fun i _ => l.length - (intOf i).toNat)
  case atStart => exact ⟨0, Nat.zero_le _, rfl, fun j x h => absurd h (by omega), (Chg.refl _ _).alloc _, Blk.new _ _ _⟩
  case round =>
    obtain ⟨k, hk, rfl, hno, hg, hb⟩ := hrel
    obtain ⟨c0, f0, s0⟩ := hb.facts
    have Hn := Lib.hid hno
    have Hb := Lib.hid hb
    clear hno hb
    by_cases hlt : k < l.length
    · obtain ⟨x, hx⟩ : ∃ x, l[k]? = some x := ⟨_, List.getElem?_eq_getElem hlt⟩
      obtain ⟨b, off, rfl, hb, d0, d1, d2, d3, d4, d5, d6⟩ := (Hs.out.grew hg).atAuc hx
      have Hx := Lib.hid hx
      clear hx
      rcases hq : (x.id == id) with _ | _
      · go_wp2
        refine ⟨⟨k + 1, by omega, by simp, fun j y hj hy => ?_, hg, Hb.out⟩, by simp [intOf]; omega⟩
        by_cases hjk : j = k
        · subst hjk
          have := Hx.out.symm.trans hy
          simp only [Option.some.injEq] at this
          rw [← this]; exact hq
        · exact Hn.out j y (by omega) hy
      · have Hq := Lib.hid hq
        go_wp2
        go_ret
        exact ⟨by rw [fidx_hit (p := fun x : Auc => x.id == id) Hn.out Hx.out Hq.out]; rfl, hg⟩
    · obtain rfl : k = l.length := by omega
      go_wp2
      go_ret
      exact ⟨by rw [fidx_none (p := fun x : Auc => x.id == id) Hn.out]; rfl, hg⟩

set_option maxHeartbeats 400000 in
theorem rof_any (id nx : Int) (l : List Auc) (A : Option Addr) (c : Nat) (w : World) (hs : Sl w 7 A l.length (l.flatMap Auc.vals)) (hl : l.length ≤ 1000000) :
    Calls Try.prog 17 #[.agg #[.slice A l.length c, .int .i64 nx], .int .i64 id] w fun e w' => e = .returned (.int .i64 (fidx (fun x : Auc => x.deed == id) l)) ∧ Grew w w' := by
  have Hs := Lib.hid hs
  clear hs
  go_enter Try.func17, Try.ntmps17
  go_wp2
  go_loopw [5] (fun i wr => ∃ k : Nat, k ≤ l.length ∧ i = .int .i64 k ∧ (∀ j x, j < k → l[j]? = some x → (x.deed == id) = false) ∧ Grew w wr ∧ Blk wr w.heap.size 39 #[.slice A l.length c, .int .i64 nx]) (fun i _ => l.length - (intOf i).toNat)
  case atStart => exact ⟨0, Nat.zero_le _, rfl, fun j x h => absurd h (by omega), (Chg.refl _ _).alloc _, Blk.new _ _ _⟩
  case round =>
    obtain ⟨k, hk, rfl, hno, hg, hb⟩ := hrel
    obtain ⟨c0, f0, s0⟩ := hb.facts
    have Hn := Lib.hid hno
    have Hb := Lib.hid hb
    clear hno hb
    by_cases hlt : k < l.length
    · obtain ⟨x, hx⟩ : ∃ x, l[k]? = some x := ⟨_, List.getElem?_eq_getElem hlt⟩
      obtain ⟨b, off, rfl, hb, d0, d1, d2, d3, d4, d5, d6⟩ := (Hs.out.grew hg).atAuc hx
      have Hx := Lib.hid hx
      clear hx
      rcases hq : (x.deed == id) with _ | _
      · go_wp2
        refine ⟨⟨k + 1, by omega, by simp, fun j y hj hy => ?_, hg, Hb.out⟩, by simp [intOf]; omega⟩
        by_cases hjk : j = k
        · subst hjk
          have := Hx.out.symm.trans hy
          simp only [Option.some.injEq] at this
          rw [← this]; exact hq
        · exact Hn.out j y (by omega) hy
      · have Hq := Lib.hid hq
        go_wp2
        go_ret
        exact ⟨by rw [fidx_hit (p := fun x : Auc => x.deed == id) Hn.out Hx.out Hq.out]; rfl, hg⟩
    · obtain rfl : k = l.length := by omega
      go_wp2
      go_ret
      exact ⟨by rw [fidx_none (p := fun x : Auc => x.deed == id) Hn.out]; rfl, hg⟩

set_option maxHeartbeats 400000 in
theorem amount_any (n : Int) (w : World) :
    Calls Try.prog 35 #[.int .i64 n] w fun e w' => e = .returned (.bool (amt n)) ∧ w = w' := by
  unfold amt
  by_cases h : 0 ≤ n
  all_goals
    go_enter Try.func35, Try.ntmps35
    go_wp2
    go_ret
    exact ⟨by simp; try omega, rfl⟩

/-- An error's number of opening. -/
def mayE (l : List Auc) (nx deed seller least ends : Int) : Int :=
  if Auc.chk ⟨nx, deed, seller, least, 0, 0, ends⟩ ≠ 0 then Auc.chk ⟨nx, deed, seller, least, 0, 0, ends⟩ else if fidx (fun x : Auc => x.deed == deed) l ≠ -1 then 13 else if 64 ≤ l.length then 12 else 0

set_option maxHeartbeats 800000 in
theorem may_any (nx deed seller least ends : Int) (l : List Auc) (A : Option Addr) (c : Nat) (w : World) (hs : Sl w 7 A l.length (l.flatMap Auc.vals)) (hl : l.length ≤ 1000000) :
    Calls Try.prog 44 #[.agg #[.slice A l.length c, .int .i64 nx], .int .i64 deed, .int .i64 seller, .int .i64 least, .int .i64 ends] w fun e w' => e = .returned (.int .i64 (mayE l nx deed seller least ends)) ∧ Grew w w' := by
  have Hs := Lib.hid (hs.grew ((Chg.refl NoF w).alloc (.cells #[.slice A l.length c, .int .i64 nx] 39)))
  have HB := Lib.hid (Blk.new w 39 #[.slice A l.length c, .int .i64 nx])
  clear hs
  have fin : ∀ r, mayE l nx deed seller least ends = r → ∀ (w' : World), Grew w w' → Ending.returned (.int .i64 r) = .returned (.int .i64 (mayE l nx deed seller least ends)) ∧ Grew w w' := fun r h w' hg => ⟨by rw [h], hg⟩
  have Fin := Lib.hid fin
  clear fin
  unfold mayE Auc.chk at Fin
  by_cases q1 : deed < 1 ∨ seller < 1
  · have h := Fin.out 10 (by simp [q1])
    have H := Lib.hid h
    clear h
    by_cases q2 : deed < 1
    all_goals try have q3 : seller < 1 := by omega
    all_goals
      clear q1
      go_enter Try.func44, Try.ntmps44
      go_wp2_with fail
      go_ret
      exact H.out _ ((Chg.refl _ _).alloc _)
  have q2 : ¬ deed < 1 := by omega
  have q3 : ¬ seller < 1 := by omega
  rcases q4 : amt least with _ | _
  · have H := Lib.hid (Fin.out 11 (by simp [q2, q3, q4]))
    have Q4 := Lib.hid q4
    clear q1 q4
    go_enter Try.func44, Try.ntmps44
    go_wp2_with (go_at_call 35; refine (amount_any _ _).mono ?_; rintro e w1 ⟨rfl, rfl⟩; rw [Q4.out])
    go_ret
    exact H.out _ ((Chg.refl _ _).alloc _)
  have Q4 := Lib.hid q4
  by_cases q5 : ends < 0 ∨ ends > 4398046511104
  · have H := Lib.hid (Fin.out 11 (by simp [q2, q3, q4, q5]))
    by_cases q6 : ends < 0
    all_goals try have q7 : ends > 4398046511104 := by omega
    all_goals
      clear q1 q5 q4
      go_enter Try.func44, Try.ntmps44
      go_wp2_with (go_at_call 35; refine (amount_any _ _).mono ?_; rintro e w1 ⟨rfl, rfl⟩; rw [Q4.out])
      go_ret
      exact H.out _ ((Chg.refl _ _).alloc _)
  have q6 : ¬ ends < 0 := by omega
  have q7 : ¬ ends > 4398046511104 := by omega
  rcases fidx_cases (fun x : Auc => x.deed == deed) l with ⟨hf, -⟩ | ⟨k, x, hf, -, -, hk⟩
  · have Hf := Lib.hid hf
    by_cases q8 : 64 ≤ l.length
    · have H := Lib.hid (Fin.out 12 (by simp [q2, q3, q4, q6, q7, hf, q8]))
      clear q1 q5 q4 hf
      go_enter Try.func44, Try.ntmps44
      go_wp2_with (first
        | (go_at_call 35; refine (amount_any _ _).mono ?_; rintro e w1 ⟨rfl, rfl⟩; rw [Q4.out])
        | (go_at_call 17; refine (rof_any deed nx l A c _ Hs.out hl).mono ?_; rintro e w1 ⟨rfl, hg1⟩; rw [Hf.out]; obtain ⟨c1, f1, s1⟩ := (HB.out.grew hg1).facts; have HG := Lib.hid (Grew.trans ((Chg.refl NoF w).alloc _) hg1); clear hg1))
      go_ret
      exact H.out _ HG.out
    · have H := Lib.hid (Fin.out 0 (by simp [q2, q3, q4, q6, q7, hf, q8]))
      clear q1 q5 q4 hf
      go_enter Try.func44, Try.ntmps44
      go_wp2_with (first
        | (go_at_call 35; refine (amount_any _ _).mono ?_; rintro e w1 ⟨rfl, rfl⟩; rw [Q4.out])
        | (go_at_call 17; refine (rof_any deed nx l A c _ Hs.out hl).mono ?_; rintro e w1 ⟨rfl, hg1⟩; rw [Hf.out]; obtain ⟨c1, f1, s1⟩ := (HB.out.grew hg1).facts; have HG := Lib.hid (Grew.trans ((Chg.refl NoF w).alloc _) hg1); clear hg1))
      go_ret
      exact H.out _ HG.out
  · have H := Lib.hid (Fin.out 13 (by simp [q2, q3, q4, q6, q7, hf]; try omega))
    have Hf := Lib.hid hf
    clear q1 q5 q4 hf
    go_enter Try.func44, Try.ntmps44
    go_wp2_with (first
      | (go_at_call 35; refine (amount_any _ _).mono ?_; rintro e w1 ⟨rfl, rfl⟩; rw [Q4.out])
      | (go_at_call 17; refine (rof_any deed nx l A c _ Hs.out hl).mono ?_; rintro e w1 ⟨rfl, hg1⟩; rw [Hf.out]; obtain ⟨c1, f1, s1⟩ := (HB.out.grew hg1).facts; have HG := Lib.hid (Grew.trans ((Chg.refl NoF w).alloc _) hg1); clear hg1))
    go_ret
    exact H.out _ HG.out

end Go.Proofs.Ytbmogbbenfpmiaa
