/- The document's Right: yes, where the list is right. -/
import Derived.Test.YtbmogbbenfpmiaaBidS
import Derived.Laws.BitsLemmas
import Derived.Deep.DeepCutAuto
namespace Go.Proofs.Ytbmogbbenfpmiaa
open Go.RowKit

theorem Rt.prev {l : List Auc} {nx : Int} {j k : Nat} {x y : Auc} (h : Rt l nx) (hx : l[k]? = some x) (hy : l[j]? = some y) (hj : j < k) : y.id < x.id ∧ y.deed ≠ x.deed := by
  have hp := h.pw
  rw [List.pairwise_iff_getElem] at hp
  obtain ⟨h1, rfl⟩ := List.getElem?_eq_some_iff.1 hx
  obtain ⟨h2, rfl⟩ := List.getElem?_eq_some_iff.1 hy
  exact hp j k h2 h1 hj

set_option maxRecDepth 100000 in
set_option maxHeartbeats 600000 in
theorem rright_yes (nx : Int) (l : List Auc) (A : Option Addr) (c : Nat) (w : World) (h : Rt l nx) (hn : nx ≤ 1000000) (hs : Sl w 7 A l.length (l.flatMap Auc.vals)) :
    Calls Try.prog 18 #[.slice A l.length c, .int .i64 nx] w fun e w' => e = .returned (.bool true) ∧ Grew w w' := by
  have Hs := Lib.hid hs
  have H := Lib.hid h
  have hl := h.len
  have hp := h.pos
  clear hs h
  go_enter Try.func18, Try.ntmps18
  go_wp2_with fail
  go_loopw [5] (fun i wr => ∃ k : Nat, k ≤ l.length ∧ i = .int .i64 k ∧ Grew w wr) (fun i _ => l.length - (intOf i).toNat)
  case atStart => exact ⟨0, Nat.zero_le _, rfl, Chg.refl _ _⟩
  case round =>
    obtain ⟨k, hk, rfl, hg⟩ := hrel
    by_cases hlt : k < l.length
    · obtain ⟨x, hx⟩ : ∃ x, l[k]? = some x := ⟨_, List.getElem?_eq_getElem hlt⟩
      obtain ⟨g, off, rfl, hb, d0, d1, d2, d3, d4, d5, d6⟩ := (Hs.out.grew hg).atAuc hx
      obtain ⟨o1, o2, o3, o4, o5, o6, o7, o8, o9⟩ := H.out.one x (List.mem_of_getElem? hx)
      have B0 := Lib.hid (Blk.new wr 53 #[.int .i64 x.id, .int .i64 x.deed, .int .i64 x.seller, .int .i64 x.least, .int .i64 x.best, .int .i64 x.bidder, .int .i64 x.ends])
      have Hx := Lib.hid hx
      have Hg := Lib.hid hg
      have Hq := Lib.hid (show amt x.least = true by simp [amt, o5, o6])
      have Hq2 := Lib.hid (show amt x.best = true by rcases o9 with ⟨_, q⟩ | ⟨_, _, q1, q2, _⟩ <;> simp [amt] <;> omega)
      clear hx hg
      go_upto_region 7 with fail
      go_cut [52] (fun v wx => v = .bool false ∧ Grew wr wx ∧ Blk wx wr.heap.size 53 #[.int .i64 x.id, .int .i64 x.deed, .int .i64 x.seller, .int .i64 x.least, .int .i64 x.best, .int .i64 x.bidder, .int .i64 x.ends])
      case first =>
        have hk2 : (k : Int) < (l.length : Int) := by omega
        have t1 : decide (x.id < 1) = false := by simp; omega
        have t2 : decide (nx ≤ x.id) = false := by simp; omega
        rcases Nat.eq_zero_or_pos k with hk0 | hk0
        · have hk1 : decide ((0 : Int) < (k : Int)) = false := by simp; omega
          go_big_quiet (fail)
          go_wp2
          go_meet
          exact ⟨rfl, ((Chg.refl _ _).alloc _).drewN _, B0.out⟩
        · obtain ⟨y, hy⟩ : ∃ y, l[k - 1]? = some y := ⟨_, List.getElem?_eq_getElem (by omega)⟩
          obtain ⟨g', off', hA', -, e0, -⟩ := (Hs.out.grew Hg.out).atAuc hy
          simp only [Option.some.injEq, Addr.mk.injEq, and_true] at hA'
          obtain ⟨rfl, rfl⟩ := hA'
          have hyx := (H.out.prev Hx.out hy (by omega)).1
          have hk1 : decide ((0 : Int) < (k : Int)) = true := by simp; omega
          have t3 : decide (x.id ≤ y.id) = false := by simp; omega
          have hw : IntKind.i64.wrap ((k : Int) - 1) = ((k - 1 : Nat) : Int) := by have e := IntWalk.wrap64_in ((k : Int) - 1) ⟨by omega, by omega⟩; rw [IntKind.wrap_i64]; unfold wrap64 at e; omega
          have hk3 : ((k - 1 : Nat) : Int) < (l.length : Int) := by omega
          have hk4 : (0 : Int) ≤ ((k - 1 : Nat) : Int) := by omega
          clear hy
          go_big_quiet (fail)
          go_wp2
          go_meet
          exact ⟨rfl, ((Chg.refl _ _).alloc _).drewN _, B0.out⟩
      case rest =>
        obtain ⟨rfl, hg1, hb1⟩ := hcut
        obtain ⟨c1, f1, s1⟩ := hb1.facts
        have Hg1 := Lib.hid hg1
        have Hb1 := Lib.hid hb1
        clear hg1 hb1 d0 d1 d2 d3 d4 d5 d6 B0
        go_upto_region 11 with (go_at_call 35; refine (amount_any _ _).mono ?_; rintro e w1 ⟨rfl, rfl⟩; rw [Hq.out])
        go_cut [114] (fun v wx => v = .bool false ∧ Grew wr wx ∧ Blk wx wr.heap.size 53 #[.int .i64 x.id, .int .i64 x.deed, .int .i64 x.seller, .int .i64 x.least, .int .i64 x.best, .int .i64 x.bidder, .int .i64 x.ends])
        case first =>
          rcases o9 with ⟨p1, p2⟩ | ⟨p1, p2, p3, p4, p5⟩
          all_goals
            go_wp2_with (go_at_call 35; refine (amount_any _ _).mono ?_; rintro e w1 ⟨rfl, rfl⟩; rw [Hq2.out])
            go_meet
            exact ⟨by simp <;> omega, Hg1.out, Hb1.out⟩
        case rest =>
          obtain ⟨rfl, hg2, hb2⟩ := hcut
          have Hg2 := Lib.hid hg2
          have Hb2 := Lib.hid hb2
          clear hg2 hb2 c1 f1 s1
          go_wp2_with fail
          go_loopw [7] (fun i wr' => ∃ j : Nat, j ≤ k ∧ i = .int .i64 j ∧ Grew wr wr' ∧ Blk wr' wr.heap.size 53 #[.int .i64 x.id, .int .i64 x.deed, .int .i64 x.seller, .int .i64 x.least, .int .i64 x.best, .int .i64 x.bidder, .int .i64 x.ends]) (fun i _ => k - (intOf i).toNat)
          case atStart => exact ⟨0, Nat.zero_le _, rfl, Hg2.out, Hb2.out⟩
          case round =>
            obtain ⟨j, hj, rfl, hg3, hb3⟩ := hrel
            by_cases hjk : j < k
            · obtain ⟨z, hz⟩ : ∃ z, l[j]? = some z := ⟨_, List.getElem?_eq_getElem (by omega)⟩
              obtain ⟨g3, off3, hA3, hb4, z0, z1, -⟩ := (Hs.out.grew (Grew.trans Hg.out hg3)).atAuc hz
              simp only [Option.some.injEq, Addr.mk.injEq, and_true] at hA3
              obtain ⟨rfl, rfl⟩ := hA3
              have hzx : (z.deed == x.deed) = false := by simpa using (H.out.prev Hx.out hz hjk).2
              obtain ⟨c2, f2, s2⟩ := hb3.facts
              have Hg3 := Lib.hid hg3
              have Hb3 := Lib.hid hb3
              have hj1 : (j : Int) < (l.length : Int) := by omega
              have hj2 : (j : Int) < (k : Int) := by omega
              clear hz hg3 hb3
              go_wp2_with fail
              go_quiet (fail)
              go_wp2_with fail
              go_roundw
              case rel => exact ⟨j + 1, by omega, by go_num, Chg.drewN Hg3.out _, Hb3.out⟩
              case measure => simp [intOf]; omega
            · obtain rfl : j = k := by omega
              have Hg3 := Lib.hid hg3
              clear hg3 hb3
              go_wp2_with fail
              go_roundw
              case rel => exact ⟨j + 1, by omega, by go_num, Grew.trans Hg.out Hg3.out⟩
              case measure => simp [intOf]; omega
    · obtain rfl : k = l.length := by omega
      go_wp2_with fail
      go_ret
      exact ⟨rfl, hg⟩

end Go.Proofs.Ytbmogbbenfpmiaa
