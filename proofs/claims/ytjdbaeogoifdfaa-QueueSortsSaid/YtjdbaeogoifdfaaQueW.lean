/- QueueSorts: the two loops. -/
import Derived.Test.YtjdbaeogoifdfaaQueV
namespace Go.Proofs.Ytjdbaeogoifdfaa
open Go.RowKit Go.Maps

theorem undef_bool {b : Bool} : some undef = some (Value.bool b) → False := by
  intro h
  simp [undef] at h

theorem sorts_next {l : List Itm} {x : Itm} {ts : List Int} {cnt : Nat} (hn : (l.map Itm.n).Nodup) (hh : hp l) (hx : l[0]? = some x) (hin : ∀ y ∈ l, y ∈ its ts) (hc : l.length + cnt = ts.length) :
    (remL l 0).length + (cnt + 1) = ts.length ∧ (∀ y ∈ remL l 0, y ∈ its ts) ∧ ∀ y ∈ remL l 0, ¬ y.due < x.due ∧ (y.due = x.due → x.n < y.n) := by
  have hp := pop_perm hx
  have hlen := hp.length_eq
  have hnd : ((x :: remL l 0).map Itm.n).Nodup := ((hp.map Itm.n).nodup_iff).1 hn
  refine ⟨by simp at hlen; omega, fun y hy => hin y (hp.mem_iff.2 (by simp [hy])), fun y hy => ?_⟩
  obtain ⟨k, hk⟩ := List.mem_iff_getElem?.1 (hp.mem_iff.2 (show y ∈ x :: remL l 0 by simp [hy]))
  have h1 := hp_least hh hx k y hk
  have h2 : y.n ≠ x.n := by
    simp only [List.map_cons, List.nodup_cons] at hnd
    intro e
    exact hnd.1 (e ▸ List.mem_map.2 ⟨y, hy, rfl⟩)
  unfold Itm.lt at h1
  omega

set_option maxRecDepth 100000 in
set_option maxHeartbeats 3200000 in
theorem sorts_in (ts : List Int) (A : Option Addr) (c : Nat) (w : World) (hl : ts.length ≤ 150) (hs : Sl w 1 A ts.length (ts.map (Value.int .i64))) :
    Calls Try.prog 3 #[.slice A ts.length c] w fun e w' => e = .returned (.bool true) ∧ Grew w w' := by
  have Hs := Lib.hid hs
  have HM0 := Lib.hid (QMine.made w)
  clear hs
  go_enter Try.func3, Try.ntmps3
  go_wp2_with (go_at_call 8; refine (new_any _).mono ?_; rintro e w1 ⟨rfl, rfl⟩)
  go_loopw [32] (fun i wr => ∃ (k : Nat) (l : List Itm) (A2 : Option Addr) (c2 : Nat), k ≤ ts.length ∧ i = .int .i64 k ∧ QMine w wr (w.heap.size + 1) l A2 c2 w.heap.size k ∧ hp l ∧ l.Perm ((its ts).take k)) (fun i _ => ts.length - (intOf i).toNat)
  case atStart => exact ⟨0, [], none, 0, Nat.zero_le _, rfl, HM0.out, fun k x p _ h => by simp at h, by simp⟩
  case round =>
    obtain ⟨k, l, A2, c2, hk, rfl, hM, hh, hp⟩ := hrel
    have HM := Lib.hid (And.intro hM (And.intro hh hp))
    obtain ⟨wo, rfl⟩ : ∃ wo : World, wo = wr := ⟨_, rfl⟩
    have hlk : l.length = k := by rw [hp.length_eq, List.length_take, its_len]; omega
    clear hM hh hp
    by_cases hlt : k < ts.length
    · obtain ⟨t, ht⟩ : ∃ t, ts[k]? = some t := ⟨_, List.getElem?_eq_getElem hlt⟩
      obtain ⟨g, off, rfl, hb, d0⟩ := (Sl.grew Hs.out HM.out.1.grew).atInt ht
      have HT := Lib.hid ht
      have Hlk := Lib.hid hlk
      clear ht hlk
      go_wp2_with (go_at_call 10; refine (add_any (w.heap.size + 1) t ⟨#[118]⟩ l A2 c2 w.heap.size k _ HM.out.1.q (by rw [Hlk.out]; omega) (by omega) (by omega) (fun x hx => its_le (HM.out.2.2.mem_iff.1 hx))).mono ?_; rintro e w2 ⟨rfl, ht2⟩; have HT2 := Lib.hid ht2; clear ht2)
      obtain ⟨A3, c3, hM3⟩ := HM.out.1.to HT2.out
      refine ⟨⟨k + 1, _, A3, c3, by omega, by simp, by exact_mod_cast hM3, add_heap _ HM.out.2.1, ?_⟩, by simp [intOf]; omega⟩
      rw [its_take HT.out]
      exact (upL_perm _ _).trans (HM.out.2.2.append_right _)
    · obtain rfl : k = ts.length := by omega
      rw [List.take_of_length_le (by rw [its_len]; exact Nat.le_refl _)] at HM
      go_wp2_with fail
      go_loopw [6, 7, 8] (fun a b d wr => ∃ (d0 n0 : Int) (cnt : Nat) (l2 : List Itm) (A3 : Option Addr) (c3 : Nat), a = .int .i64 d0 ∧ b = .int .i64 n0 ∧ d = .int .i64 cnt ∧ QMine w wr (w.heap.size + 1) l2 A3 c3 w.heap.size ts.length ∧ hp l2 ∧ l2.length + cnt = ts.length ∧ (∀ x ∈ l2, x ∈ its ts) ∧ (0 < cnt → ∀ x ∈ l2, ¬ x.due < d0 ∧ (x.due = d0 → n0 < x.n))) (fun _ _ d _ => ts.length - (intOf d).toNat)
      case atStart => exact ⟨0, 0, 0, l, A2, c2, rfl, rfl, rfl, HM.out.1, HM.out.2.1, by omega, fun x hx => HM.out.2.2.mem_iff.1 hx, fun h => absurd h (by omega)⟩
      case round =>
        obtain ⟨d0, n0, cnt, l2, A3, c3, rfl, rfl, rfl, hM, hh, hlc, hin, hlast⟩ := hrel
        obtain ⟨w1, rfl⟩ : ∃ w1 : World, w1 = wr := ⟨_, rfl⟩
        have HN := Lib.hid (And.intro hM (And.intro hh (And.intro hin hlast)))
        clear hM hh hin hlast
        by_cases hn : 0 < l2.length
        · obtain ⟨x, hx⟩ : ∃ x, l2[0]? = some x := ⟨_, List.getElem?_eq_getElem hn⟩
          obtain ⟨n, t, v⟩ := x
          obtain ⟨j, rfl, hj2, rfl⟩ := its_mem (HN.out.2.2.1 _ (List.mem_of_getElem? hx))
          simp only [] at hj2
          obtain ⟨g, off, rfl, hb, q0⟩ := Hs.out.atInt hj2
          have Q0 := Lib.hid q0
          clear q0
          have hjl : j < ts.length := (List.getElem?_eq_some_iff.1 hj2).1
          have HX := Lib.hid (And.intro hx hj2)
          have hlast := HN.out.2.2.2
          have u1 : decide ((j : Int) + 1 < 1) = false := decide_eq_false (by omega)
          have u2 : decide ((ts.length : Int) < (j : Int) + 1) = false := decide_eq_false (by omega)
          have u3 : decide ((ts.length : Int) ≤ (cnt : Int)) = false := decide_eq_false (by omega)
          have u4 : (0 : Int) ≤ (j : Int) := Int.natCast_nonneg _
          have u5 : (j : Int) < (ts.length : Int) := by omega
          have u6 : decide (0 < (l2.length : Int)) = true := decide_eq_true (by omega)
          have e1 : IntKind.i64.wrap ((j : Int) + 1 - 1) = (j : Int) := by rw [show (j : Int) + 1 - 1 = ((j : Nat) : Int) by omega]; exact wrap_nat (by omega)
          have hl2 : l2.length ≤ 1000000 := by omega
          have HL := Lib.hid (And.intro hl2 hlc)
          have v3 : decide (ts.length ≤ cnt) = false := decide_eq_false (by omega)
          have v4 : cnt + 1 ≤ 150 := by omega
          clear hx hj2 hl2
          by_cases hc0 : cnt = 0
          · have u7 : decide ((0 : Int) < (cnt : Int)) = false := decide_eq_false (by omega)
            have v7 : decide (0 < cnt) = false := decide_eq_false (by omega)
            have HC0 := Lib.hid hc0
            clear hc0 hlast
            go_wp2_with (first
              | (go_at_call 11; refine (len_any (w.heap.size + 1) l2 A3 c3 w.heap.size _ _ HN.out.1.q).mono ?_; rintro e w6 ⟨rfl, rfl⟩)
              | (go_at_call 12; refine (first_some (w.heap.size + 1) ⟨(j : Int) + 1, t, ⟨#[118]⟩⟩ l2 A3 c3 w.heap.size _ _ HN.out.1.q HX.out.1).mono ?_; rintro e w4 ⟨rfl, hg4⟩; have HM4 := Lib.hid (HN.out.1.more hg4); clear hg4)
              | (go_at_call 13; refine (pop_due (w.heap.size + 1) t ⟨(j : Int) + 1, t, ⟨#[118]⟩⟩ l2 A3 c3 w.heap.size _ _ HM4.out.q HX.out.1 HL.out.1 (by simp)).mono ?_; rintro e w5 ⟨rfl, hq5, hc5⟩; have HM5 := Lib.hid (HM4.out.same hq5 hc5); have q1 := (HM5.out.grew.cell (p := ⟨g, off + j, none⟩) hb id).trans Q0.out; clear hq5 hc5))
            all_goals first | (exfalso; apply undef_bool; assumption) | exact ⟨⟨t, (j : Int) + 1, cnt + 1, remL l2 0, A3, c3, rfl, rfl, by simp, HM5.out, pop_heap HN.out.2.1 HX.out.1, (sorts_next HN.out.1.q.nd HN.out.2.1 HX.out.1 HN.out.2.2.1 HL.out.2).1, (sorts_next HN.out.1.q.nd HN.out.2.1 HX.out.1 HN.out.2.2.1 HL.out.2).2.1, fun _ => (sorts_next HN.out.1.q.nd HN.out.2.1 HX.out.1 HN.out.2.2.1 HL.out.2).2.2⟩, by simp [intOf]; omega⟩
          have hla := hlast (by omega) _ (List.mem_of_getElem? HX.out.1)
          simp only [] at hla
          have u7 : decide ((0 : Int) < (cnt : Int)) = true := decide_eq_true (by omega)
          have v7 : decide (0 < cnt) = true := decide_eq_true (by omega)
          have u8 : decide (t < d0) = false := decide_eq_false hla.1
          by_cases htd : t = d0
          · subst htd
            have u9 : decide ((j : Int) + 1 ≤ n0) = false := decide_eq_false (by have := hla.2 rfl; omega)
            clear hla hlast
            go_wp2_with (first
              | (go_at_call 11; refine (len_any (w.heap.size + 1) l2 A3 c3 w.heap.size _ _ HN.out.1.q).mono ?_; rintro e w6 ⟨rfl, rfl⟩)
              | (go_at_call 12; refine (first_some (w.heap.size + 1) ⟨(j : Int) + 1, t, ⟨#[118]⟩⟩ l2 A3 c3 w.heap.size _ _ HN.out.1.q HX.out.1).mono ?_; rintro e w4 ⟨rfl, hg4⟩; have HM4 := Lib.hid (HN.out.1.more hg4); clear hg4)
              | (go_at_call 13; refine (pop_due (w.heap.size + 1) t ⟨(j : Int) + 1, t, ⟨#[118]⟩⟩ l2 A3 c3 w.heap.size _ _ HM4.out.q HX.out.1 HL.out.1 (by simp)).mono ?_; rintro e w5 ⟨rfl, hq5, hc5⟩; have HM5 := Lib.hid (HM4.out.same hq5 hc5); have q1 := (HM5.out.grew.cell (p := ⟨g, off + j, none⟩) hb id).trans Q0.out; clear hq5 hc5))
            all_goals first | (exfalso; apply undef_bool; assumption) | exact ⟨⟨t, (j : Int) + 1, cnt + 1, remL l2 0, A3, c3, rfl, rfl, by simp, HM5.out, pop_heap HN.out.2.1 HX.out.1, (sorts_next HN.out.1.q.nd HN.out.2.1 HX.out.1 HN.out.2.2.1 HL.out.2).1, (sorts_next HN.out.1.q.nd HN.out.2.1 HX.out.1 HN.out.2.2.1 HL.out.2).2.1, fun _ => (sorts_next HN.out.1.q.nd HN.out.2.1 HX.out.1 HN.out.2.2.1 HL.out.2).2.2⟩, by simp [intOf]; omega⟩
          · have u9 : (t == d0) = false := by simpa using htd
            clear hla hlast
            go_wp2_with (first
              | (go_at_call 11; refine (len_any (w.heap.size + 1) l2 A3 c3 w.heap.size _ _ HN.out.1.q).mono ?_; rintro e w6 ⟨rfl, rfl⟩)
              | (go_at_call 12; refine (first_some (w.heap.size + 1) ⟨(j : Int) + 1, t, ⟨#[118]⟩⟩ l2 A3 c3 w.heap.size _ _ HN.out.1.q HX.out.1).mono ?_; rintro e w4 ⟨rfl, hg4⟩; have HM4 := Lib.hid (HN.out.1.more hg4); clear hg4)
              | (go_at_call 13; refine (pop_due (w.heap.size + 1) t ⟨(j : Int) + 1, t, ⟨#[118]⟩⟩ l2 A3 c3 w.heap.size _ _ HM4.out.q HX.out.1 HL.out.1 (by simp)).mono ?_; rintro e w5 ⟨rfl, hq5, hc5⟩; have HM5 := Lib.hid (HM4.out.same hq5 hc5); have q1 := (HM5.out.grew.cell (p := ⟨g, off + j, none⟩) hb id).trans Q0.out; clear hq5 hc5))
            all_goals first | (exfalso; apply undef_bool; assumption) | exact ⟨⟨t, (j : Int) + 1, cnt + 1, remL l2 0, A3, c3, rfl, rfl, by simp, HM5.out, pop_heap HN.out.2.1 HX.out.1, (sorts_next HN.out.1.q.nd HN.out.2.1 HX.out.1 HN.out.2.2.1 HL.out.2).1, (sorts_next HN.out.1.q.nd HN.out.2.1 HX.out.1 HN.out.2.2.1 HL.out.2).2.1, fun _ => (sorts_next HN.out.1.q.nd HN.out.2.1 HX.out.1 HN.out.2.2.1 HL.out.2).2.2⟩, by simp [intOf]; omega⟩
        · obtain rfl : l2 = [] := List.eq_nil_of_length_eq_zero (by omega)
          obtain rfl : cnt = ts.length := by simpa using hlc
          go_wp2_with (first
            | (go_at_call 11; refine (len_any (w.heap.size + 1) [] A3 c3 w.heap.size _ _ HN.out.1.q).mono ?_; rintro e w6 ⟨rfl, rfl⟩)
            | (go_at_call 9; refine (awake_any _).mono ?_; rintro e w2 ⟨rfl, hg2⟩))
          go_ret
          exact ⟨rfl, Grew.trans HN.out.1.grew hg2⟩

end Go.Proofs.Ytjdbaeogoifdfaa
