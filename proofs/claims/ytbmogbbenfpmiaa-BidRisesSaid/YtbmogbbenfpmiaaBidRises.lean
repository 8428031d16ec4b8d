/- BidRises: along any bids of one auction each best one is above the one ahead by its step, and each that is not the last one is told again. -/
import Derived.Test.YtbmogbbenfpmiaaBidF
namespace Go.Proofs.Ytbmogbbenfpmiaa
open Go.RowKit

structure Bop where
  kind : Int
  a : Int
  b : Int
  n : Int
  ends : Int
  deriving DecidableEq
def Bop.vals (x : Bop) : List Value := [.int .i64 x.kind, .int .i64 x.a, .int .i64 x.b, .int .i64 x.n, .int .i64 x.ends]
def Bop.zero : Bop := ⟨0, 0, 0, 0, 0⟩
theorem Bop.vals_len (l : List Bop) : (l.flatMap Bop.vals).length = l.length * 5 := by
  induction l with
  | nil => rfl
  | cons x l ih => rw [List.flatMap_cons, List.length_append, ih, List.length_cons]; simp only [Bop.vals, List.length_cons, List.length_nil]; omega
theorem Bop.vals_at (l : List Bop) : ∀ (k : Nat) (x : Bop), l[k]? = some x → ∀ j, j < 5 → (l.flatMap Bop.vals)[k * 5 + j]? = x.vals[j]? := by
  induction l with
  | nil => intro k x h; simp at h
  | cons y l ih =>
    intro k x h j hj
    cases k with
    | zero =>
      simp only [List.getElem?_cons_zero, Option.some.injEq] at h
      subst h
      rw [List.flatMap_cons, Nat.zero_mul, Nat.zero_add, List.getElem?_append_left (by simp [Bop.vals]; omega)]
    | succ k =>
      simp only [List.getElem?_cons_succ] at h
      rw [List.flatMap_cons, List.getElem?_append_right (by simp [Bop.vals]; omega)]
      rw [← ih k x h j hj]
      congr 1
      simp [Bop.vals]
      omega
theorem Sl.atBop {w : World} {A : Option Addr} {l : List Bop} (h : Sl w 5 A l.length (l.flatMap Bop.vals)) {k : Nat} {x : Bop} (hx : l[k]? = some x) :
    ∃ b off, A = some ⟨b, off, none⟩ ∧ b < w.heap.size ∧ w.cell? ⟨b, off + k * 5, none⟩ = some (.int .i64 x.kind) ∧ w.cell? ⟨b, off + k * 5 + 1, none⟩ = some (.int .i64 x.a) ∧ w.cell? ⟨b, off + k * 5 + 2, none⟩ = some (.int .i64 x.b) ∧ w.cell? ⟨b, off + k * 5 + 3, none⟩ = some (.int .i64 x.n) ∧ w.cell? ⟨b, off + k * 5 + 4, none⟩ = some (.int .i64 x.ends) := by
  have hk : k < l.length := (List.getElem?_eq_some_iff.1 hx).1
  obtain ⟨b, off, hA, hb, hc⟩ := h.2 (by omega)
  have hv := Bop.vals_at l k x hx
  refine ⟨b, off, hA, hb, ?_, ?_, ?_, ?_, ?_⟩
  · have := hc (k * 5 + 0) (.int .i64 x.kind) ((hv 0 (by omega)).trans rfl)
    simpa [Nat.add_assoc] using this
  · have := hc (k * 5 + 1) (.int .i64 x.a) ((hv 1 (by omega)).trans rfl)
    simpa [Nat.add_assoc] using this
  · have := hc (k * 5 + 2) (.int .i64 x.b) ((hv 2 (by omega)).trans rfl)
    simpa [Nat.add_assoc] using this
  · have := hc (k * 5 + 3) (.int .i64 x.n) ((hv 3 (by omega)).trans rfl)
    simpa [Nat.add_assoc] using this
  · have := hc (k * 5 + 4) (.int .i64 x.ends) ((hv 4 (by omega)).trans rfl)
    simpa [Nat.add_assoc] using this
theorem Bop.sl_mk {w : World} {b off : Nat} {l : List Bop} (hb : b < w.heap.size) (h : ∀ i r, l[i]? = some r → ∀ j u, r.vals[j]? = some u → w.cell? ⟨b, off + (i * 5 + j), none⟩ = some u) : Sl w 5 (some ⟨b, off, none⟩) l.length (l.flatMap Bop.vals) := by
  refine ⟨Bop.vals_len l, fun _ => ⟨b, off, rfl, hb, fun j u hu => ?_⟩⟩
  have hj : j < l.length * 5 := by
    rw [← Bop.vals_len l]; exact (List.getElem?_eq_some_iff.1 hu).1
  have hi : j / 5 < l.length := by omega
  have hr : l[j / 5]? = some l[j / 5] := List.getElem?_eq_getElem hi
  have he : j = j / 5 * 5 + j % 5 := by omega
  have hv := Bop.vals_at l (j / 5) _ hr (j % 5) (by omega)
  rw [← he, hu] at hv
  have := h (j / 5) _ hr (j % 5) u hv.symm
  rwa [← he] at this
def Bop.ok (x : Bop) : Prop := -9223372036854775808 ≤ x.kind ∧ x.kind ≤ 9223372036854775807 ∧ -9223372036854775808 ≤ x.a ∧ x.a ≤ 9223372036854775807 ∧ -9223372036854775808 ≤ x.b ∧ x.b ≤ 9223372036854775807 ∧ -9223372036854775808 ≤ x.n ∧ x.n ≤ 9223372036854775807 ∧ -9223372036854775808 ≤ x.ends ∧ x.ends ≤ 9223372036854775807
theorem Bop.set_kind (l : List Bop) (v : Int) : ∀ (k : Nat) (x : Bop), l[k]? = some x → (l.flatMap Bop.vals).set (k * 5) (.int .i64 v) = (l.set k { x with kind := v }).flatMap Bop.vals := by
  induction l with
  | nil => intro k x h; simp at h
  | cons y l ih =>
    intro k x h
    cases k with
    | zero =>
      simp only [List.getElem?_cons_zero, Option.some.injEq] at h
      subst h
      simp [Bop.vals]
    | succ k =>
      simp only [List.getElem?_cons_succ] at h
      rw [List.flatMap_cons, List.set_cons_succ, List.flatMap_cons, ← ih k x h]
      have e : (k + 1) * 5 = (k * 5) + 5 := by omega
      rw [e]
      simp [Bop.vals]
theorem Bop.set_a (l : List Bop) (v : Int) : ∀ (k : Nat) (x : Bop), l[k]? = some x → (l.flatMap Bop.vals).set (k * 5 + 1) (.int .i64 v) = (l.set k { x with a := v }).flatMap Bop.vals := by
  induction l with
  | nil => intro k x h; simp at h
  | cons y l ih =>
    intro k x h
    cases k with
    | zero =>
      simp only [List.getElem?_cons_zero, Option.some.injEq] at h
      subst h
      simp [Bop.vals]
    | succ k =>
      simp only [List.getElem?_cons_succ] at h
      rw [List.flatMap_cons, List.set_cons_succ, List.flatMap_cons, ← ih k x h]
      have e : (k + 1) * 5 + 1 = (k * 5 + 1) + 5 := by omega
      rw [e]
      simp [Bop.vals]
theorem Bop.set_b (l : List Bop) (v : Int) : ∀ (k : Nat) (x : Bop), l[k]? = some x → (l.flatMap Bop.vals).set (k * 5 + 2) (.int .i64 v) = (l.set k { x with b := v }).flatMap Bop.vals := by
  induction l with
  | nil => intro k x h; simp at h
  | cons y l ih =>
    intro k x h
    cases k with
    | zero =>
      simp only [List.getElem?_cons_zero, Option.some.injEq] at h
      subst h
      simp [Bop.vals]
    | succ k =>
      simp only [List.getElem?_cons_succ] at h
      rw [List.flatMap_cons, List.set_cons_succ, List.flatMap_cons, ← ih k x h]
      have e : (k + 1) * 5 + 2 = (k * 5 + 2) + 5 := by omega
      rw [e]
      simp [Bop.vals]
theorem Bop.set_n (l : List Bop) (v : Int) : ∀ (k : Nat) (x : Bop), l[k]? = some x → (l.flatMap Bop.vals).set (k * 5 + 3) (.int .i64 v) = (l.set k { x with n := v }).flatMap Bop.vals := by
  induction l with
  | nil => intro k x h; simp at h
  | cons y l ih =>
    intro k x h
    cases k with
    | zero =>
      simp only [List.getElem?_cons_zero, Option.some.injEq] at h
      subst h
      simp [Bop.vals]
    | succ k =>
      simp only [List.getElem?_cons_succ] at h
      rw [List.flatMap_cons, List.set_cons_succ, List.flatMap_cons, ← ih k x h]
      have e : (k + 1) * 5 + 3 = (k * 5 + 3) + 5 := by omega
      rw [e]
      simp [Bop.vals]
theorem Bop.set_ends (l : List Bop) (v : Int) : ∀ (k : Nat) (x : Bop), l[k]? = some x → (l.flatMap Bop.vals).set (k * 5 + 4) (.int .i64 v) = (l.set k { x with ends := v }).flatMap Bop.vals := by
  induction l with
  | nil => intro k x h; simp at h
  | cons y l ih =>
    intro k x h
    cases k with
    | zero =>
      simp only [List.getElem?_cons_zero, Option.some.injEq] at h
      subst h
      simp [Bop.vals]
    | succ k =>
      simp only [List.getElem?_cons_succ] at h
      rw [List.flatMap_cons, List.set_cons_succ, List.flatMap_cons, ← ih k x h]
      have e : (k + 1) * 5 + 4 = (k * 5 + 4) + 5 := by omega
      rw [e]
      simp [Bop.vals]

theorem ask_zero {x : Auc} {who n : Int} (h : x.ask who n = 0) : 1 ≤ who ∧ 0 ≤ n ∧ n ≤ 1099511627776 ∧ x.flo ≤ n := by
  unfold Auc.ask at h
  by_cases q1 : who < 1
  · simp [q1] at h
  by_cases q2 : who = x.seller
  · rw [if_neg q1, if_pos q2] at h; omega
  rcases q3 : amt n with _ | _
  · simp [q1, q2, q3] at h
  by_cases q4 : n < x.flo
  · simp [q1, q2, q3, q4] at h
  · simp [amt] at q3
    omega

/-- What stands along the bids: the auction's best one, what was paid and what was told again. -/
def Rise (least : Int) (k : Nat) (last who paid back : Int) : Prop :=
  ((who = 0 ∧ last = 0) ∨ (1 ≤ who ∧ least ≤ last)) ∧ 0 ≤ last ∧ last ≤ 1099511627776 ∧ paid = back + last ∧ 0 ≤ back ∧ paid ≤ k * 1099511627776

set_option maxRecDepth 100000 in
set_option maxHeartbeats 400000 in
theorem rises_out (least : Int) (l : List Bop) (A : Option Addr) (c : Nat) (w : World) (hl : least < 0 ∨ least > 1099511627776 ∨ l.length > 60) (hln : (l.length : Int) ≤ 9223372036854775807) :
    Calls Try.prog 3 #[.int .i64 least, .slice A l.length c] w fun e w' => e = .returned (.bool true) ∧ Grew w w' := by
  by_cases q1 : least < 0
  all_goals try by_cases q2 : least > 1099511627776
  all_goals try by_cases q3 : l.length > 60
  all_goals first | (exfalso; omega) | skip
  all_goals
    go_enter Try.func3, Try.ntmps3
    go_wp2_with (first
      | (go_at_call 7; refine (new_any _).mono ?_; rintro e w1 ⟨rfl, rfl⟩)
      | (go_at_call 8; refine (awake_any _).mono ?_; rintro e w2 ⟨rfl, hg2⟩))
    go_ret
    exact ⟨rfl, Grew.trans ((Chg.refl _ _).alloc _) hg2⟩

set_option maxRecDepth 100000 in
set_option maxHeartbeats 1600000 in
theorem rises_in (least : Int) (l : List Bop) (A : Option Addr) (c : Nat) (w : World) (h0 : 0 ≤ least) (h1 : least ≤ 1099511627776) (hl : l.length ≤ 60) (hs : Sl w 5 A l.length (l.flatMap Bop.vals)) :
    Calls Try.prog 3 #[.int .i64 least, .slice A l.length c] w fun e w' => e = .returned (.bool true) ∧ Grew w w' := by
  have Hs := Lib.hid hs
  clear hs
  have hchk : Auc.chk ⟨1, 1, 1, least, 0, 0, 9⟩ = 0 := by simp [Auc.chk, amt, h0, h1]
  have Hc := Lib.hid hchk
  clear hchk
  go_enter Try.func3, Try.ntmps3
  go_wp2_with (go_at_call 7; refine (new_any _).mono ?_; rintro e w1 ⟨rfl, rfl⟩)
  refine (open_yes w.heap.size 1 1 1 least 9 [] none 0 _ (Mine.made w).isIn (by simp) Hc.out rfl (by omega) (by omega)).mono ?_
  rintro e w1 ⟨rfl, ht⟩
  obtain ⟨A1, c1, h1', -⟩ := (Mine.made w).to ht
  have H1 := Lib.hid h1'
  clear ht h1' Hc
  go_wp2
  go_loopw [8, 9, 10, 11, 47] (fun v8 v9 v10 v11 v47 wr => ∃ (k : Nat) (last who paid back : Int) (A2 : Option Addr) (c2 : Nat), k ≤ l.length ∧ v47 = .int .i64 k ∧ v8 = .int .i64 last ∧ v9 = .int .i64 who ∧ v10 = .int .i64 paid ∧ v11 = .int .i64 back
      ∧ Rise least k last who paid back ∧ Mine w wr w.heap.size 2 [⟨1, 1, 1, least, last, who, 9⟩] A2 c2) (fun _ _ _ _ i _ => l.length - (intOf i).toNat)
  case atStart => exact ⟨0, 0, 0, 0, 0, A1, c1, Nat.zero_le _, rfl, rfl, rfl, rfl, rfl, ⟨.inl ⟨rfl, rfl⟩, by omega, by omega, by omega, by omega, by omega⟩, H1.out⟩
  case round =>
    obtain ⟨k, last, who, paid, back, A2, c2, hk, rfl, rfl, rfl, rfl, rfl, hR, hM⟩ := hrel
    have HM := Lib.hid hM
    have HR := Lib.hid hR
    clear hM hR
    by_cases hlt : k < l.length
    · obtain ⟨o, ho⟩ : ∃ o, l[k]? = some o := ⟨_, List.getElem?_eq_getElem hlt⟩
      obtain ⟨g, off, rfl, hb, d0, d1, d2, d3, d4⟩ := (Hs.out.grew HM.out.grew).atBop ho
      by_cases hr : Auc.ask ⟨1, 1, 1, least, last, who, 9⟩ o.b o.n = 0
      · obtain ⟨a1, a2, a3, a4⟩ := ask_zero hr
        have hR := HR.out
        have hla0 : 0 ≤ last := hR.2.1
        have hla1 : last ≤ 1099511627776 := hR.2.2.1
        have hpb : paid = back + last := hR.2.2.2.1
        have hba : 0 ≤ back := hR.2.2.2.2.1
        have hpk : paid ≤ k * 1099511627776 := hR.2.2.2.2.2
        have hwho : 0 ≤ who := by rcases hR.1 with h | h <;> omega
        have b1 : least ≤ o.n := by
          rcases hR.1 with h | h
          · rw [Auc.flo, if_pos h.1] at a4; exact a4
          · rw [Auc.flo, if_neg (by simp only []; omega)] at a4; simp only [] at a4; omega
        have b2 : 1 ≤ who → last < o.n := by
          intro hw
          rw [Auc.flo, if_neg (by simp only []; omega)] at a4; simp only [] at a4; omega
        have b3 : 1 ≤ who → last - 19 ≤ 20 * (o.n - last) := by
          intro hw
          rw [Auc.flo, if_neg (by simp only []; omega)] at a4; simp only [] at a4; omega
        have hst : Rise least (k + 1) o.n o.b (paid + o.n) (back + last) := ⟨.inr ⟨a1, b1⟩, a2, a3, by omega, by omega, by push_cast; omega⟩
        have Hst := Lib.hid hst
        have Hpb := Lib.hid hpb
        have Hr := Lib.hid hr
        have HL0 := Lib.hid (Blk.new wr 30 #[.int .i64 o.kind, .int .i64 o.a, .int .i64 o.b, .int .i64 o.n, .int .i64 o.ends])
        have hnb : ¬ BF w.heap.size A2 wr.heap.size := fun h => absurd (HM.out.isIn.lt h) (by omega)
        have Hnb := Lib.hid hnb
        clear hst hpb hR hr a4 ho hnb
        by_cases hw : 1 ≤ who
        · have b2' := b2 hw
          have b3' := b3 hw
          clear b2 b3
          go_wp2_with fail
          refine (bid_yes w.heap.size 0 ⟨1, 1, 1, least, last, who, 9⟩ 2 1 o.b o.n _ A2 c2 _ (HM.out.isIn.grew ((Chg.refl _ _).alloc _)) (by simp) rfl rfl hla0 hla1 Hr.out).mono ?_
          rintro e w2 ⟨rfl, hi2, hc2⟩
          have HM2 := Lib.hid ((HM.out.more ((Chg.refl _ _).alloc _)).same hi2 hc2)
          obtain ⟨e0, e1, e2⟩ := (HL0.out.chg hc2 Hnb.out).facts
          clear hi2 hc2 d0 d1 d2 d3 d4
          go_wp2_with fail
          go_quiet (fail)
          go_wp2_with fail
          go_quiet (fail)
          go_wp2_with fail
          have Hh := Lib.hid (show held ([(⟨1, 1, 1, least, last, who, 9⟩ : Auc)].set 0 { (⟨1, 1, 1, least, last, who, 9⟩ : Auc) with best := o.n, bidder := o.b }) = o.n by simp [held])
          have hkl : (k : Int) ≤ 60 := by omega
          have hp1 : wrap64 (wrap64 (paid + o.n) - wrap64 (back + last)) = o.n := by
            have hpb := Hpb.out
            rw [IntWalk.wrap64_in (paid + o.n) ⟨by omega, by omega⟩, IntWalk.wrap64_in (back + last) ⟨by omega, by omega⟩, IntWalk.wrap64_in _ ⟨by omega, by omega⟩]
            omega
          have Hw := Lib.hid (show wrap64 (paid + o.n) = paid + o.n ∧ wrap64 (back + last) = back + last by
            have hpb := Hpb.out
            exact ⟨IntWalk.wrap64_in (paid + o.n) ⟨by omega, by omega⟩, IntWalk.wrap64_in (back + last) ⟨by omega, by omega⟩⟩)
          refine (held_any w.heap.size 2 _ A2 c2 _ (HM2.out.isIn.grew (((Chg.refl _ _).alloc _).drewN _)) (by simp) (by simp; omega)).mono ?_
          rintro e w3 ⟨rfl, hg3⟩
          rw [Hh.out]
          have HM3 := Lib.hid (HM2.out.more (Grew.trans (((Chg.refl _ _).alloc _).drewN _) hg3))
          clear hg3
          go_wp2_with fail
          refine (held_any w.heap.size 2 _ A2 c2 _ HM3.out.isIn (by simp) (by simp; omega)).mono ?_
          rintro e w4 ⟨rfl, hg4⟩
          rw [Hh.out]
          have HM4 := Lib.hid (HM3.out.more hg4)
          clear hg4
          go_wp2_with fail
          refine ⟨⟨k + 1, o.n, o.b, paid + o.n, back + last, A2, c2, by omega, by simp, rfl, rfl, by rw [Hw.out.1], by rw [Hw.out.2], Hst.out, HM4.out⟩, by simp [intOf]; omega⟩
        · obtain rfl : who = 0 := by omega
          clear b2 b3
          go_wp2_with fail
          refine (bid_yes w.heap.size 0 ⟨1, 1, 1, least, last, 0, 9⟩ 2 1 o.b o.n _ A2 c2 _ (HM.out.isIn.grew ((Chg.refl _ _).alloc _)) (by simp) rfl rfl hla0 hla1 Hr.out).mono ?_
          rintro e w2 ⟨rfl, hi2, hc2⟩
          have HM2 := Lib.hid ((HM.out.more ((Chg.refl _ _).alloc _)).same hi2 hc2)
          obtain ⟨e0, e1, e2⟩ := (HL0.out.chg hc2 Hnb.out).facts
          clear hi2 hc2 d0 d1 d2 d3 d4
          go_wp2_with fail
          go_quiet (fail)
          go_wp2_with fail
          go_quiet (fail)
          go_wp2_with fail
          have Hh := Lib.hid (show held ([(⟨1, 1, 1, least, last, 0, 9⟩ : Auc)].set 0 { (⟨1, 1, 1, least, last, 0, 9⟩ : Auc) with best := o.n, bidder := o.b }) = o.n by simp [held])
          have hkl : (k : Int) ≤ 60 := by omega
          have hp1 : wrap64 (wrap64 (paid + o.n) - wrap64 (back + last)) = o.n := by
            have hpb := Hpb.out
            rw [IntWalk.wrap64_in (paid + o.n) ⟨by omega, by omega⟩, IntWalk.wrap64_in (back + last) ⟨by omega, by omega⟩, IntWalk.wrap64_in _ ⟨by omega, by omega⟩]
            omega
          have Hw := Lib.hid (show wrap64 (paid + o.n) = paid + o.n ∧ wrap64 (back + last) = back + last by
            have hpb := Hpb.out
            exact ⟨IntWalk.wrap64_in (paid + o.n) ⟨by omega, by omega⟩, IntWalk.wrap64_in (back + last) ⟨by omega, by omega⟩⟩)
          refine (held_any w.heap.size 2 _ A2 c2 _ (HM2.out.isIn.grew (((Chg.refl _ _).alloc _).drewN _)) (by simp) (by simp; omega)).mono ?_
          rintro e w3 ⟨rfl, hg3⟩
          rw [Hh.out]
          have HM3 := Lib.hid (HM2.out.more (Grew.trans (((Chg.refl _ _).alloc _).drewN _) hg3))
          clear hg3
          go_wp2_with fail
          refine (held_any w.heap.size 2 _ A2 c2 _ HM3.out.isIn (by simp) (by simp; omega)).mono ?_
          rintro e w4 ⟨rfl, hg4⟩
          rw [Hh.out]
          have HM4 := Lib.hid (HM3.out.more hg4)
          clear hg4
          go_wp2_with fail
          refine ⟨⟨k + 1, o.n, o.b, paid + o.n, back + last, A2, c2, by omega, by simp, rfl, rfl, by rw [Hw.out.1], by rw [Hw.out.2], Hst.out, HM4.out⟩, by simp [intOf]; omega⟩
      · have Hr := Lib.hid hr
        clear ho hr
        have hR := HR.out
        have hla0 : 0 ≤ last := hR.2.1
        have hla1 : last ≤ 1099511627776 := hR.2.2.1
        clear hR
        go_wp2_with fail
        refine (bid_no w.heap.size 0 ⟨1, 1, 1, least, last, who, 9⟩ 2 1 o.b o.n _ _ A2 c2 _ (HM.out.isIn.grew ((Chg.refl _ _).alloc _)) (by simp) rfl rfl hla0 hla1 rfl Hr.out).mono ?_
        rintro e w2 ⟨rfl, hg2⟩
        have HM2 := Lib.hid (HM.out.more (Grew.trans ((Chg.refl _ _).alloc _) hg2))
        clear hg2
        have hr' : (Auc.ask ⟨1, 1, 1, least, last, who, 9⟩ o.b o.n != 0) = true := by rw [bne_iff_ne]; exact Hr.out
        generalize Auc.ask ⟨1, 1, 1, least, last, who, 9⟩ o.b o.n = r at hr'
        go_wp2_with fail
        refine ⟨⟨k + 1, last, who, paid, back, A2, c2, by omega, by simp, rfl, rfl, rfl, rfl, ?_, HM2.out.more ((Chg.refl _ _).alloc _)⟩, by simp [intOf]; omega⟩
        have := HR.out
        exact ⟨this.1, this.2.1, this.2.2.1, this.2.2.2.1, this.2.2.2.2.1, by have := this.2.2.2.2.2; push_cast; omega⟩
    · obtain rfl : k = l.length := by omega
      go_wp2_with (go_at_call 8; refine (awake_any _).mono ?_; rintro e w2 ⟨rfl, hg2⟩)
      go_ret
      exact ⟨rfl, Grew.trans HM.out.grew hg2⟩

end Go.Proofs.Ytbmogbbenfpmiaa
