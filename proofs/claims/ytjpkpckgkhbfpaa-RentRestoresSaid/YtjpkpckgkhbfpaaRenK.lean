/- The document's answer for the rents: Add, Pay, Stage. -/
import Derived.Test.YtjpkpckgkhbfpaaRenE
import Derived.Test.YtjpkpckgkhbfpaaRenI
namespace Go.Proofs.Ytjpkpckgkhbfpaa
open Go.RowKit Go.Maps

theorem addL_same {l : List Rw} {h rate now : Int} (hv : (addL l h rate now).2 ≠ 0) : (addL l h rate now).1 = l := by
  unfold addL at hv ⊢
  split
  · rfl
  · split
    · rfl
    · split
      · rfl
      · rename_i h1 h2 _ h3
        rw [if_neg h1, if_neg h2, h3] at hv
        exact absurd rfl hv
theorem payL_same {l : List Rw} {h p now : Int} (hv : (payL l h p now).2 ≠ 0) : (payL l h p now).1 = l := by
  unfold payL at hv ⊢
  split
  · rfl
  · rename_i r hr
    rw [hr] at hv
    simp only [] at hv
    split
    · rfl
    · rename_i h1
      rw [if_neg h1] at hv
      split
      · rfl
      · rename_i h2
        rw [if_neg h2] at hv
        exact absurd rfl hv

set_option maxHeartbeats 800000 in
theorem xadd_same (l : List Rw) (h rate now : Int) (A : Option Addr) (c : Nat) (w : World) (hs : Sl w 3 A l.length (l.flatMap Rw.vals)) (hl : l.length ≤ 1000000) (hv : (addL l h rate now).2 ≠ 0) :
    Calls Try.prog 31 #[.slice A l.length c, .int .i64 h, .int .i64 rate, .int .i64 now] w fun e w' => e = .returned (.tuple #[.slice A (addL l h rate now).1.length c, .int .i64 (addL l h rate now).2]) ∧ w = w' := by
  by_cases h1 : h < 1
  · have hv : addL l h rate now = (l, 10) := by unfold addL; rw [if_pos h1]
    rw [hv]
    clear hv hs
    go_enter Try.func31, Try.ntmps31
    go_wp2
    go_ret2
    exact ⟨rfl, rfl⟩
  by_cases h2 : rate < 1 ∨ amt rate = false ∨ amt now = false
  · have hv : addL l h rate now = (l, 11) := by unfold addL; rw [if_neg h1, if_pos h2]
    rw [hv]
    have h3 : rate < 1 ∨ 1099511627776 < rate ∨ now < 0 ∨ 1099511627776 < now := by
      rcases h2 with h | h | h
      · exact .inl h
      · rcases amt_no h with h | h <;> omega
      · rcases amt_no h with h | h <;> omega
    clear hv hs h2
    by_cases h4 : rate < 1
    · go_enter Try.func31, Try.ntmps31
      go_wp2
      go_ret2
      exact ⟨rfl, rfl⟩
    by_cases h5 : 1099511627776 < rate
    · go_enter Try.func31, Try.ntmps31
      go_wp2
      go_ret2
      exact ⟨rfl, rfl⟩
    by_cases h6 : now < 0
    · go_enter Try.func31, Try.ntmps31
      go_wp2
      go_ret2
      exact ⟨rfl, rfl⟩
    · have h7 : 1099511627776 < now := by omega
      go_enter Try.func31, Try.ntmps31
      go_wp2
      go_ret2
      exact ⟨rfl, rfl⟩
  · have h3 : ¬ rate < 1 := fun e => h2 (.inl e)
    have h4 : amt rate = true := by cases e : amt rate with | true => rfl | false => exact absurd (.inr (.inl e)) h2
    have h5 : amt now = true := by cases e : amt now with | true => rfl | false => exact absurd (.inr (.inr e)) h2
    have b4 := amt_yes h4
    have b5 := amt_yes h5
    cases hf : fnd l h with
    | none => exact absurd (by unfold addL; rw [if_neg h1, if_neg h2, hf]) hv
    | some r =>
      have hv : addL l h rate now = (l, 13) := by unfold addL; rw [if_neg h1, if_neg h2, hf]
      rw [hv]
      obtain ⟨k, hk, -⟩ := fnd_idx_some hf
      have HK := Lib.hid hk
      have t1 : decide (0 ≤ (k : Int)) = true := decide_eq_true (by omega)
      have HS := Lib.hid hs
      clear hv hs h2 h4 h5 hf hk
      go_enter Try.func31, Try.ntmps31
      go_wp2_with (go_at_call 16; refine (xfind_any h l A c _ HS.out hl).mono ?_; rintro e w1 ⟨rfl, rfl⟩; rw [HK.out])
      go_ret2
      exact ⟨rfl, rfl⟩

set_option maxHeartbeats 800000 in
theorem xadd_new (l : List Rw) (h rate now : Int) (A : Option Addr) (c : Nat) (w : World) (hs : Sl w 3 A l.length (l.flatMap Rw.vals)) (hl : l.length ≤ 1000000) (hv : (addL l h rate now).2 = 0) :
    Calls Try.prog 31 #[.slice A l.length c, .int .i64 h, .int .i64 rate, .int .i64 now] w fun e w' => NewOut w w' 3 (addL l h rate now).1.length ((addL l h rate now).1.flatMap Rw.vals) (fun A c => .tuple #[.slice A (addL l h rate now).1.length c, .int .i64 0]) e := by
  by_cases h1 : h < 1
  · unfold addL at hv; rw [if_pos h1] at hv; simp at hv
  by_cases h2 : rate < 1 ∨ amt rate = false ∨ amt now = false
  · unfold addL at hv; rw [if_neg h1, if_pos h2] at hv; simp at hv
  · have h3 : ¬ rate < 1 := fun e => h2 (.inl e)
    have h4 : amt rate = true := by cases e : amt rate with | true => rfl | false => exact absurd (.inr (.inl e)) h2
    have h5 : amt now = true := by cases e : amt now with | true => rfl | false => exact absurd (.inr (.inr e)) h2
    have b4 := amt_yes h4
    have b5 := amt_yes h5
    cases hf : fnd l h with
    | some r => unfold addL at hv; rw [if_neg h1, if_neg h2, hf] at hv; simp at hv
    | none =>
      have hv : addL l h rate now = (putL l ⟨h, rate, now + 100⟩, 0) := by unfold addL; rw [if_neg h1, if_neg h2, hf]
      rw [hv]
      have HK := Lib.hid (fnd_idx_none hf)
      have HS := Lib.hid hs
      clear hv hs h2 h4 h5 hf
      go_enter Try.func31, Try.ntmps31
      go_wp2_with (first
        | (go_at_call 16; refine (xfind_any h l A c _ HS.out hl).mono ?_; rintro e w1 ⟨rfl, rfl⟩; rw [HK.out])
        | (go_at_call 45; refine (xput_any ⟨h, rate, now + 100⟩ l A c _ HS.out hl).mono ?_; rintro e w2 ⟨A2, c2, rfl, hs2, hg2, hn2⟩))
      go_ret2
      exact NewOut.mk A2 c2 rfl hs2 hg2 hn2

set_option maxRecDepth 100000 in
set_option maxHeartbeats 1600000 in
theorem xpay_same (l : List Rw) (h p now : Int) (A : Option Addr) (c : Nat) (w : World) (hs : Sl w 3 A l.length (l.flatMap Rw.vals)) (hl : l.length ≤ 1000000) (hfit : ∀ r ∈ l, r.fit) (hv : (payL l h p now).2 ≠ 0) :
    Calls Try.prog 32 #[.slice A l.length c, .int .i64 h, .int .i64 p, .int .i64 now] w fun e w' => e = .returned (.tuple #[.slice A (payL l h p now).1.length c, .int .i64 (payL l h p now).2]) ∧ Grew w w' := by
  cases hf : fnd l h with
  | none =>
    have hv : payL l h p now = (l, 14) := by unfold payL; rw [hf]
    rw [hv]
    have HK := Lib.hid (fnd_idx_none hf)
    have HS := Lib.hid hs
    clear hv hs hf
    go_enter Try.func32, Try.ntmps32
    go_wp2_with (go_at_call 16; refine (xfind_any h l A c _ HS.out hl).mono ?_; rintro e w1 ⟨rfl, rfl⟩; rw [HK.out])
    go_ret2
    exact ⟨rfl, Chg.refl _ _⟩
  | some r =>
    obtain ⟨k, hk, hat⟩ := fnd_idx_some hf
    obtain ⟨g, off, rfl, hb, d0, d1, d2⟩ := hs.atRw hat
    have hkl : k < l.length := (List.getElem?_eq_some_iff.1 hat).1
    have hfr := hfit r (fnd_some hf).1
    have r1 := hfr.2.2.2.2.1
    have r2 := hfr.2.2.2.2.2
    have HK := Lib.hid hk
    have t1 : decide ((k : Int) < 0) = false := decide_eq_false (by omega)
    have t0 : (0 : Int) ≤ (k : Int) := by omega
    have t2 : (k : Int) < (l.length : Int) := by omega
    have HS := Lib.hid hs
    by_cases h1 : p < 1 ∨ 12 < p ∨ amt now = false
    · have hv : payL l h p now = (l, 11) := by unfold payL; rw [hf]; exact if_pos h1
      rw [hv]
      have h3 : p < 1 ∨ 12 < p ∨ now < 0 ∨ 1099511627776 < now := by
        rcases h1 with h | h | h
        · exact .inl h
        · exact .inr (.inl h)
        · rcases amt_no h with h | h <;> omega
      clear hv hs hf h1 hat hfr hk
      by_cases h4 : p < 1
      · go_enter Try.func32, Try.ntmps32
        go_wp2_with (go_at_call 16; refine (xfind_any h l _ c _ HS.out hl).mono ?_; rintro e w1 ⟨rfl, rfl⟩; rw [HK.out])
        go_ret2
        exact ⟨rfl, Chg.refl _ _⟩
      by_cases h5 : 12 < p
      · go_enter Try.func32, Try.ntmps32
        go_wp2_with (go_at_call 16; refine (xfind_any h l _ c _ HS.out hl).mono ?_; rintro e w1 ⟨rfl, rfl⟩; rw [HK.out])
        go_ret2
        exact ⟨rfl, Chg.refl _ _⟩
      by_cases h6 : now < 0
      · go_enter Try.func32, Try.ntmps32
        go_wp2_with (go_at_call 16; refine (xfind_any h l _ c _ HS.out hl).mono ?_; rintro e w1 ⟨rfl, rfl⟩; rw [HK.out])
        go_ret2
        exact ⟨rfl, Chg.refl _ _⟩
      · have h7 : 1099511627776 < now := by omega
        go_enter Try.func32, Try.ntmps32
        go_wp2_with (go_at_call 16; refine (xfind_any h l _ c _ HS.out hl).mono ?_; rintro e w1 ⟨rfl, rfl⟩; rw [HK.out])
        go_ret2
        exact ⟨rfl, Chg.refl _ _⟩
    · have h2 : 1 ≤ p := by omega
      have h3 : p ≤ 12 := by omega
      have h5 : amt now = true := by cases e : amt now with | true => rfl | false => exact absurd (.inr (.inr e)) h1
      have b6 := (amt_yes h5).1
      have b7 := (amt_yes h5).2
      by_cases h4 : now + 1200 < r.due + p * 100
      · have hv : payL l h p now = (l, 34) := by unfold payL; rw [hf]; simp only [if_neg h1, if_pos h4]
        rw [hv]
        have t4 : decide (now + 1200 < r.due + 100 * p) = true := decide_eq_true (by omega)
        clear hv hs hf h1 h4 h5 hat hfr hk
        go_enter Try.func32, Try.ntmps32
        go_wp2_with (go_at_call 16; refine (xfind_any h l _ c _ HS.out hl).mono ?_; rintro e w1 ⟨rfl, rfl⟩; rw [HK.out])
        go_ret2
        exact ⟨rfl, (Chg.refl _ _).alloc _⟩
      · exact absurd (by unfold payL; rw [hf]; simp only [if_neg h1, if_neg h4]) hv

set_option maxRecDepth 100000 in
set_option maxHeartbeats 1600000 in
theorem xpay_new (l : List Rw) (h p now : Int) (A : Option Addr) (c : Nat) (w : World) (hs : Sl w 3 A l.length (l.flatMap Rw.vals)) (hl : l.length ≤ 1000000) (hfit : ∀ r ∈ l, r.fit) (hv : (payL l h p now).2 = 0) :
    Calls Try.prog 32 #[.slice A l.length c, .int .i64 h, .int .i64 p, .int .i64 now] w fun e w' => NewOut w w' 3 (payL l h p now).1.length ((payL l h p now).1.flatMap Rw.vals) (fun A c => .tuple #[.slice A (payL l h p now).1.length c, .int .i64 0]) e := by
  cases hf : fnd l h with
  | none => unfold payL at hv; rw [hf] at hv; simp at hv
  | some r =>
    by_cases h1 : p < 1 ∨ 12 < p ∨ amt now = false
    · unfold payL at hv; rw [hf] at hv; simp only [if_pos h1] at hv; simp at hv
    · by_cases h4 : now + 1200 < r.due + p * 100
      · unfold payL at hv; rw [hf] at hv; simp only [if_neg h1, if_pos h4] at hv; simp at hv
      · obtain ⟨k, hk, hat⟩ := fnd_idx_some hf
        obtain ⟨g, off, rfl, hb, d0, d1, d2⟩ := hs.atRw hat
        have hkl : k < l.length := (List.getElem?_eq_some_iff.1 hat).1
        have hfr := hfit r (fnd_some hf).1
        have r1 := hfr.2.2.2.2.1
        have r2 := hfr.2.2.2.2.2
        have HK := Lib.hid hk
        have t1 : decide ((k : Int) < 0) = false := decide_eq_false (by omega)
        have t0 : (0 : Int) ≤ (k : Int) := by omega
        have t2 : (k : Int) < (l.length : Int) := by omega
        have HS := Lib.hid hs
        have h2 : 1 ≤ p := by omega
        have h3 : p ≤ 12 := by omega
        have h5 : amt now = true := by cases e : amt now with | true => rfl | false => exact absurd (.inr (.inr e)) h1
        have b6 := (amt_yes h5).1
        have b7 := (amt_yes h5).2
        have hv : payL l h p now = (putL l { r with due := r.due + 100 * p }, 0) := by unfold payL; rw [hf]; simp only [if_neg h1, if_neg h4]; rw [Int.mul_comm]
        rw [hv]
        have t4 : decide (now + 1200 < r.due + 100 * p) = false := decide_eq_false (by omega)
        clear hv hs hf h1 h4 h5 hat hfr hk
        go_enter Try.func32, Try.ntmps32
        go_wp2_with (first
          | (go_at_call 16; refine (xfind_any h l _ c _ HS.out hl).mono ?_; rintro e w1 ⟨rfl, rfl⟩; rw [HK.out])
          | (go_at_call 45; refine (xput_any { r with due := r.due + 100 * p } l _ c _ (HS.out.grew ((Chg.refl _ _).alloc _)) hl).mono ?_; rintro e w2 ⟨A2, c2, rfl, hs2, hg2, hn2⟩))
        go_ret2
        exact NewOut.mk A2 c2 rfl hs2 (Grew.trans ((Chg.refl _ _).alloc _) hg2) (fun a ha => by have := hn2 a ha; simp at this; omega)

set_option maxHeartbeats 800000 in
theorem xstage_any (due now : Int) (w : World) (h0 : 0 ≤ due) (h1 : due ≤ 4398046511104) (h2 : -9223372036854775808 ≤ now) (h3 : now ≤ 9223372036854775807) :
    Calls Try.prog 17 #[.int .i64 due, .int .i64 now] w fun e w' => e = .returned (.int .i64 (stageI due now)) ∧ w = w' := by
  have hst := Lib.hid (rfl : stageI due now = stageI due now)
  go_enter Try.func17, Try.ntmps17
  go_wp2
  go_loop [5] (fun s => ∃ k : Nat, k ≤ 5 ∧ s = .int .i64 k ∧ (k = 0 ∨ due + 10 * ((k : Int) - 1) < now)) (fun s => 5 - (intOf s).toNat)
  case atStart => exact ⟨0, by omega, rfl, .inl rfl⟩
  case round =>
    obtain ⟨k, hk, rfl, hp⟩ := hrel
    have HP := Lib.hid hp
    clear hp
    by_cases hlt : k < 5
    · by_cases hn : due + 10 * (k : Int) < now
      · have t1 : decide (due + 10 * (k : Int) < now) = true := decide_eq_true hn
        go_wp2
        exact ⟨⟨k + 1, by omega, by simp, .inr (by omega)⟩, by simp [intOf]; omega⟩
      · have t1 : decide (due + 10 * (k : Int) < now) = false := decide_eq_false hn
        have hv : (k : Int) = stageI due now := by
          have := HP.out
          unfold stageI
          split
          · omega
          · rw [if_neg (by omega)]; omega
        have HV := Lib.hid hv
        clear hv
        go_wp2
        go_ret
        exact ⟨congrArg (fun n : Int => Ending.returned (.int .i64 n)) HV.out, rfl⟩
    · obtain rfl : k = 5 := by omega
      have hv : (5 : Int) = stageI due now := by
        have := HP.out
        unfold stageI
        rw [if_neg (by omega)]
        split
        · rfl
        · omega
      have HV := Lib.hid hv
      clear hv
      go_wp2
      go_ret
      exact ⟨congrArg (fun n : Int => Ending.returned (.int .i64 n)) HV.out, rfl⟩

end Go.Proofs.Ytjpkpckgkhbfpaa
