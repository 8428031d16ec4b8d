/- RentPays. -/
import Derived.Test.YtjpkpckgkhbfpaaRenI
namespace Go.Proofs.Ytjpkpckgkhbfpaa
open Go.RowKit Go.Maps

theorem fnd_one (h r d : Int) : fnd [⟨h, r, d⟩] h = some ⟨h, r, d⟩ := by simp [fnd]
theorem put_one (h r d d' : Int) : putL [⟨h, r, d⟩] ⟨h, r, d'⟩ = [⟨h, r, d'⟩] := by simp [putL]
theorem pay_one {h r d p now : Int} (h1 : 1 ≤ p) (h2 : p ≤ 12) (h3 : 0 ≤ now) (h4 : now ≤ 1099511627776) (h5 : d + p * 100 ≤ now + 1200) : payL [⟨h, r, d⟩] h p now = ([⟨h, r, d + p * 100⟩], 0) := by
  unfold payL
  rw [fnd_one]
  have ha : amt now = true := by simp [amt]; omega
  simp only []
  rw [if_neg (by rw [ha]; simp; omega), if_neg (by omega), put_one]
theorem pay_one_no {h r d p now : Int} (h1 : 1 ≤ p) (h2 : p ≤ 12) (h3 : 0 ≤ now) (h4 : now ≤ 1099511627776) (h5 : now + 1200 < d + p * 100) : payL [⟨h, r, d⟩] h p now = ([⟨h, r, d⟩], 34) := by
  unfold payL
  rw [fnd_one]
  have ha : amt now = true := by simp [amt]; omega
  simp only []
  rw [if_neg (by rw [ha]; simp; omega), if_pos (by omega)]
theorem cost_one {h r d p : Int} (h1 : 1 ≤ p) (h2 : p ≤ 12) (h3 : 1 ≤ r) (h4 : r ≤ 68719476736) : costL [⟨h, r, d⟩] h p = (r * p, 0) := by
  unfold costL
  rw [fnd_one]
  simp only []
  have : 12 ≤ 1099511627776 / r := by
    rw [Int.le_ediv_iff_mul_le (by omega)]; omega
  rw [if_neg (by omega), if_neg (by omega)]
theorem add_one {h r now : Int} (h1 : 1 ≤ h) (h2 : 1 ≤ r) (h3 : r ≤ 1099511627776) (h4 : 0 ≤ now) (h5 : now ≤ 1099511627776) : addL [] h r now = ([⟨h, r, now + 100⟩], 0) := by
  unfold addL
  have ha : amt now = true := by simp [amt]; omega
  have hb : amt r = true := by simp [amt]; omega
  rw [if_neg (by omega), if_neg (by rw [ha, hb]; simp; omega)]
  rfl

theorem padd {w W : World} {a b k : Nat} {y : List Rw} (rate now : Int) (ht : Two w W a b [] y k) (hk : k ≤ 900000) (h2 : 1 ≤ rate) (h3 : rate ≤ 1099511627776) (h4 : 0 ≤ now) (h5 : now ≤ 1099511627776) :
    Calls Try.prog 10 #[.pointer (some ⟨a, 0, none⟩), .int .i64 1, .int .i64 rate, .int .i64 now] W fun e w' => e = .returned (.int .i64 0) ∧ Two w w' a b [⟨1, rate, now + 100⟩] y (k + 1) := by
  obtain ⟨F, hs, nx⟩ := ht.at
  have := radd_any a F [] k 1 rate now W hs hk (by omega)
  rw [add_one (by omega) h2 h3 h4 h5] at this
  exact this.mono fun e w' ⟨he, ht⟩ => ⟨he, nx _ _ _ (by omega) ht⟩
theorem ppay {w W : World} {a b k : Nat} {x y : List Rw} (z : List Rw) (h p now e0 : Int) (ht : Two w W a b x y k) (hk : k ≤ 900000) (hh : (Lit.int .i64 h).wf = true) (hv : payL x h p now = (z, e0)) :
    Calls Try.prog 12 #[.pointer (some ⟨a, 0, none⟩), .int .i64 h, .int .i64 p, .int .i64 now] W fun e w' => e = .returned (.int .i64 e0) ∧ Two w w' a b z y k := by
  obtain ⟨F, hs, nx⟩ := ht.at
  have := rpay_any a F x k h p now W hs hk hh
  rw [hv] at this
  exact this.mono fun e w' ⟨he, ht⟩ => ⟨he, nx _ _ _ (by omega) ht⟩
theorem pcost {w W : World} {a b k : Nat} {x y : List Rw} (h p n e0 : Int) (ht : Two w W a b x y k) (hh : (Lit.int .i64 h).wf = true) (hv : costL x h p = (n, e0)) :
    Calls Try.prog 11 #[.pointer (some ⟨a, 0, none⟩), .int .i64 h, .int .i64 p] W fun e w' => e = .returned (.tuple #[.int .i64 n, .int .i64 e0]) ∧ Two w w' a b x y k := by
  obtain ⟨F, hs, nx⟩ := ht.at
  have := rcost_any a F x k h p W hs hh
  rw [hv] at this
  exact this.mono fun e w' ⟨he, hg⟩ => ⟨he, ht.on hg⟩
theorem pget {w W : World} {a b k : Nat} {x y : List Rw} (h : Int) (r : Rw) (ht : Two w W a b x y k) (hh : (Lit.int .i64 h).wf = true) (hf : fnd x h = some r) :
    Calls Try.prog 13 #[.pointer (some ⟨a, 0, none⟩), .int .i64 h] W fun e w' => e = .returned (.tuple #[(.agg #[.int .i64 r.house, .int .i64 r.rate, .int .i64 r.due]), .int .i64 0]) ∧ Two w w' a b x y k ∧ Grew W w' := by
  obtain ⟨F, hs, nx⟩ := ht.at
  exact (rget_some a F x k h r W hs hh hf).mono fun e w' ⟨he, hg⟩ => ⟨he, ht.on hg, hg⟩

set_option maxRecDepth 100000 in
set_option maxHeartbeats 1600000 in
theorem pays_out (rate p now : Int) (w : World) (h : rate < 1 ∨ 68719476736 < rate ∨ p < 1 ∨ 11 < p ∨ now < 0 ∨ 1099511627776 < now) :
    Calls Try.prog 3 #[.int .i64 rate, .int .i64 p, .int .i64 now] w fun e w' => e = .returned (.bool true) ∧ Grew w w' := by
  by_cases h1 : rate < 1
  · go_enter Try.func3, Try.ntmps3
    go_wp2_with (go_at_call 8; refine (rawake_any _).mono ?_; rintro e w2 ⟨rfl, hg2⟩)
    go_ret
    exact ⟨rfl, hg2⟩
  by_cases h2 : 68719476736 < rate
  · go_enter Try.func3, Try.ntmps3
    go_wp2_with (go_at_call 8; refine (rawake_any _).mono ?_; rintro e w2 ⟨rfl, hg2⟩)
    go_ret
    exact ⟨rfl, hg2⟩
  by_cases h3 : p < 1
  · go_enter Try.func3, Try.ntmps3
    go_wp2_with (go_at_call 8; refine (rawake_any _).mono ?_; rintro e w2 ⟨rfl, hg2⟩)
    go_ret
    exact ⟨rfl, hg2⟩
  by_cases h4 : 11 < p
  · go_enter Try.func3, Try.ntmps3
    go_wp2_with (go_at_call 8; refine (rawake_any _).mono ?_; rintro e w2 ⟨rfl, hg2⟩)
    go_ret
    exact ⟨rfl, hg2⟩
  by_cases h5 : now < 0
  · go_enter Try.func3, Try.ntmps3
    go_wp2_with (go_at_call 8; refine (rawake_any _).mono ?_; rintro e w2 ⟨rfl, hg2⟩)
    go_ret
    exact ⟨rfl, hg2⟩
  · have h6 : 1099511627776 < now := by omega
    go_enter Try.func3, Try.ntmps3
    go_wp2_with (go_at_call 8; refine (rawake_any _).mono ?_; rintro e w2 ⟨rfl, hg2⟩)
    go_ret
    exact ⟨rfl, hg2⟩

set_option maxRecDepth 100000 in
set_option maxHeartbeats 3200000 in
theorem pays_in (rate p now : Int) (w : World) (h1 : 1 ≤ rate) (h2 : rate ≤ 68719476736) (h3 : 1 ≤ p) (h4 : p ≤ 11) (h5 : 0 ≤ now) (h6 : now ≤ 1099511627776) :
    Calls Try.prog 3 #[.int .i64 rate, .int .i64 p, .int .i64 now] w fun e w' => e = .returned (.bool true) ∧ Grew w w' := by
  obtain ⟨P, rfl⟩ := Int.eq_ofNat_of_zero_le (show 0 ≤ p by omega)
  have hco := Lib.hid (cost_one (h := 1) (d := now + 100) (p := (P : Int)) h3 (by omega) h1 h2)
  have hpa := Lib.hid (pay_one (h := 1) (r := rate) (d := now + 100) (p := (P : Int)) (now := now) h3 (by omega) h5 h6 (by omega))
  go_enter Try.func3, Try.ntmps3
  go_wp2_with fail
  refine (rnew_any _).mono ?_
  rintro e w1 ⟨rfl, ht1⟩
  have HM1 := Lib.hid (RM.made (Chg.refl _ _) ht1)
  clear ht1
  go_wp2_with fail
  refine (rnew_any _).mono ?_
  rintro e w2 ⟨rfl, ht2⟩
  obtain ⟨a, ha⟩ : ∃ a, w.heap.size + 4 = a := ⟨_, rfl⟩
  obtain ⟨b, hb⟩ : ∃ b, w1.heap.size + 4 = b := ⟨_, rfl⟩
  have HT2 := Lib.hid (Two.made HM1.out ht2)
  rw [ha, hb] at HT2 ⊢
  clear ht2 HM1 ha hb
  go_wp2_with fail
  refine (padd rate now HT2.out (by omega) h1 (by omega) h5 h6).mono ?_
  rintro e w3 ⟨rfl, ht3⟩
  have HT3 := Lib.hid ht3
  clear ht3 HT2
  go_wp2_with fail
  refine (padd rate now HT3.out.swap (by omega) h1 (by omega) h5 h6).mono ?_
  rintro e w4 ⟨rfl, ht4⟩
  have HT4 := Lib.hid ht4.swap
  clear ht4 HT3
  go_wp2_with fail
  refine (pcost 1 P (rate * P) 0 HT4.out rfl hco.out).mono ?_
  rintro e w5 ⟨rfl, ht5⟩
  have HT5 := Lib.hid ht5
  clear ht5 HT4
  go_wp2_with fail
  refine (ppay _ 1 P now 0 HT5.out (by omega) rfl hpa.out).mono ?_
  rintro e w6 ⟨rfl, ht6⟩
  have HT6 := Lib.hid ht6
  clear ht6 HT5
  go_wp2_with fail
  have hc1 := Lib.hid (fun d => show costL [⟨1, rate, d⟩] 1 1 = (rate, 0) from by have := cost_one (h := 1) (r := rate) (d := d) (p := 1) (by omega) (by omega) h1 h2; simpa using this)
  go_loopw [11, 79] (fun s i wr => ∃ (k : Nat) (s0 : Int), k ≤ P ∧ i = .int .i64 k ∧ s = .int .i64 s0 ∧ s0 = rate * k ∧ (0 ≤ s0 ∧ s0 ≤ 68719476736 * 11) ∧ Two w wr a b [⟨1, rate, now + 100 + P * 100⟩] [⟨1, rate, now + 100 + k * 100⟩] (0 + 1 + 1)) (fun _ i _ => P - (intOf i).toNat)
  case atStart => exact ⟨0, 0, by omega, rfl, rfl, by simp, by omega, by simpa using HT6.out⟩
  case round =>
    obtain ⟨k, s0, hk, rfl, rfl, hs0, hb, ht⟩ := hrel
    have HS := Lib.hid hs0
    have HT := Lib.hid ht
    have b0 := hb.1
    have b1 := hb.2
    clear hs0 ht hb
    by_cases hlt : k < P
    · have hpk := Lib.hid (pay_one (h := 1) (r := rate) (d := now + 100 + k * 100) (p := 1) (now := now) (by omega) (by omega) h5 h6 (by omega))
      go_wp2_with (first
        | (go_at_call 11; refine (pcost 1 1 rate 0 HT.out.swap rfl (hc1.out _)).mono ?_; rintro e w7 ⟨rfl, ht7⟩; have HT7 := Lib.hid ht7; clear ht7)
        | (go_at_call 12; refine (ppay _ 1 1 now 0 HT7.out (by omega) rfl hpk.out).mono ?_; rintro e w8 ⟨rfl, ht8⟩; have HT8 := Lib.hid ht8.swap; clear ht8))
      have hm : rate * ((k + 1 : Nat) : Int) = rate * k + rate := by rw [Int.natCast_add, Int.mul_add]; simp
      have hm2 : rate * ((k + 1 : Nat) : Int) ≤ 68719476736 * 11 := Int.mul_le_mul h2 (by omega) (by omega) (by decide)
      have hs0 := HS.out
      refine ⟨⟨k + 1, s0 + rate, by omega, by simp, rfl, by rw [hm, hs0], by omega, ?_⟩, by simp [intOf]; omega⟩
      have := HT8.out
      rw [show now + 100 + ((k + 1 : Nat) : Int) * 100 = now + 100 + k * 100 + 1 * 100 by omega]
      exact this
    · obtain rfl : k = P := by omega
      have hpn := Lib.hid (pay_one_no (h := 1) (r := rate) (d := now + 100 + k * 100) (p := 12) (now := now) (by omega) (by omega) h5 h6 (by omega))
      have t1 : (rate * (k : Int) == s0) = true := by rw [HS.out]; simp
      have t2 : (now + 100 + (k : Int) * 100 == now + 100 + 100 * (k : Int)) = true := by rw [beq_iff_eq]; omega
      have m0 : 0 ≤ rate * (k : Int) := Int.mul_nonneg (by omega) (by omega)
      go_wp2_with fail
      refine (pget 1 ⟨1, rate, now + 100 + k * 100⟩ HT.out rfl (fnd_one _ _ _)).mono ?_
      rintro e w7 ⟨rfl, ht7, -⟩
      have HT7 := Lib.hid ht7
      clear ht7
      go_wp2_with fail
      refine (pget 1 ⟨1, rate, now + 100 + k * 100⟩ (HT7.out.on ((Chg.refl _ _).alloc _)).swap rfl (fnd_one _ _ _)).mono ?_
      rintro e w8 ⟨rfl, ht8, hg8⟩
      have HT8 := Lib.hid (ht8.on ((Chg.refl _ _).alloc (.cells #[.int .i64 1, .int .i64 rate, .int .i64 (now + 100 + k * 100)] 30))).swap
      have hc8 := fun i => hg8.cell (p := ⟨w7.heap.size, i, none⟩) (by simp) id
      have hz8 : w7.heap.size < w8.heap.size := by have := hg8.size; simp at this; omega
      clear ht8 hg8
      go_wp2_with fail
      refine (ppay _ 1 12 now 34 HT8.out (by omega) rfl hpn.out).mono ?_
      rintro e w9 ⟨rfl, ht9⟩
      have HT9 := Lib.hid ht9
      clear ht9 hc8 hz8
      go_wp2_with (go_at_call 8; refine (rawake_any _).mono ?_; rintro e w2 ⟨rfl, hg2⟩; have HG2 := Lib.hid hg2; clear hg2)
      go_ret
      exact ⟨rfl, Grew.trans HT9.out.grew HG2.out⟩

end Go.Proofs.Ytjpkpckgkhbfpaa
