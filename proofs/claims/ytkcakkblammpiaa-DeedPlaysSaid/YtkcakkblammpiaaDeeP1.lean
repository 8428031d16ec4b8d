/- DeedPlays: deeds answer every sequence of calls as a list does. -/
import Derived.Test.YtkcakkblammpiaaDeeRt
namespace Go.Proofs.Ytkcakkblammpiaa
open Go.RowKit

theorem Rt.rgt {l : List Dee} {nx : Int} (h : Rt l nx) (hn : nx ≤ 1000000) : Rgt l nx := by
  have hl := h.len
  have hp := h.pw
  rw [List.pairwise_iff_getElem] at hp
  refine ⟨by omega, by omega, fun k x hx => ?_⟩
  obtain ⟨hk, rfl⟩ := List.getElem?_eq_some_iff.1 hx
  have ho := h.one _ (List.getElem_mem hk)
  refine ⟨⟨ho.1, ho.2.1, ho.2.2.1, ho.2.2.2, fun y hk0 hy => ?_⟩, fun y hy => ?_, ?_⟩
  · obtain ⟨hk1, rfl⟩ := List.getElem?_eq_some_iff.1 hy
    exact (hp (k - 1) k hk1 hk (by omega)).1
  · obtain ⟨j, hj, rfl⟩ := List.getElem_of_mem hy
    rw [List.length_take] at hj
    rw [List.getElem_take]
    exact (hp j k (by omega) hk (by omega)).2
  · have h1 := held_snoc l[k].holder hx
    have h2 : (heldOf (l.take (k + 1)) l[k].holder).length ≤ (heldOf l l[k].holder).length := by
      rw [heldOf_count, heldOf_count]
      exact (List.take_sublist (k + 1) l).countP_le
    have h3 := h.held l[k].holder
    rw [if_pos (by simp)] at h1
    omega

set_option maxRecDepth 100000 in
set_option maxHeartbeats 400000 in
theorem plays_out (l : List Dop) (A : Option Addr) (c : Nat) (w : World) (hl : l.length > 100) (hln : (l.length : Int) ≤ 9223372036854775807) :
    Calls Try.prog 4 #[.slice A l.length c] w fun e w' => e = .returned (.bool true) ∧ Grew w w' := by
  go_enter Try.func4, Try.ntmps4
  go_wp2_with (first
    | (go_at_call 7; refine (new_any _).mono ?_; rintro e w1 ⟨rfl, rfl⟩)
    | (go_at_call 8; refine (awake_any _).mono ?_; rintro e w2 ⟨rfl, hg2⟩))
  go_ret
  exact ⟨rfl, Grew.trans ((Chg.refl _ _).alloc _) hg2⟩

set_option maxRecDepth 100000 in
set_option maxHeartbeats 3200000 in
theorem plays_in (l : List Dop) (A : Option Addr) (c : Nat) (w : World) (hl : l.length ≤ 100) (hs : Sl w 3 A l.length (l.flatMap Dop.vals)) :
    Calls Try.prog 4 #[.slice A l.length c] w fun e w' => e = .returned (.bool true) ∧ Grew w w' := by
  have Hs := Lib.hid hs
  clear hs
  go_enter Try.func4, Try.ntmps4
  go_wp2_with (go_at_call 7; refine (new_any _).mono ?_; rintro e w1 ⟨rfl, rfl⟩)
  go_loopw [24] (fun i wr => ∃ (k : Nat) (nx : Int) (ls : List Dee) (A2 : Option Addr) (c2 : Nat) (Ar2 : Option Addr) (cr2 : Nat), k ≤ l.length ∧ i = .int .i64 k ∧ nx ≤ k + 1 ∧ Pair w wr w.heap.size (w.heap.size + 1) nx ls A2 c2 Ar2 cr2) (fun i _ => l.length - (intOf i).toNat)
  case atStart => exact ⟨0, 1, [], none, 0, none, 0, Nat.zero_le _, rfl, by simp, Pair.made w⟩
  case round =>
    obtain ⟨k, nx, ls, A2, c2, Ar2, cr2, hk, rfl, hnx, hM⟩ := hrel
    by_cases hlt : k < l.length
    · obtain ⟨o, ho⟩ : ∃ o, l[k]? = some o := ⟨_, List.getElem?_eq_getElem hlt⟩
      obtain ⟨g, off, rfl, hb, d0, d1, d2⟩ := (Hs.out.grew hM.grew).atDop ho
      obtain ⟨W, hW⟩ : ∃ W, wr.alloc (.cells #[.int .i64 o.kind, .int .i64 o.a, .int .i64 o.b] 30) = W := ⟨_, rfl⟩
      have hle := hM.len
      have B1 := Lib.hid (show Blk W wr.heap.size 30 #[.int .i64 o.kind, .int .i64 o.a, .int .i64 o.b] from hW ▸ Blk.new wr 30 #[.int .i64 o.kind, .int .i64 o.a, .int .i64 o.b])
      have HM1 := Lib.hid (show Pair w W w.heap.size (w.heap.size + 1) nx ls A2 c2 Ar2 cr2 from hW ▸ hM.more ((Chg.refl _ wr).alloc (.cells #[.int .i64 o.kind, .int .i64 o.a, .int .i64 o.b] 30)))
      have HMd := Lib.hid (HM1.out.more ((Chg.refl _ _).drew))
      obtain ⟨r, hr⟩ : ∃ r, mayE ls o.b = r := ⟨_, rfl⟩
      have Hr := Lib.hid hr
      have e0 := HM1.out.blk.cell 0
      have e1 := HM1.out.blk.cell 1
      have e2 := B1.out.cell 2
      simp only [List.getElem?_toArray, List.getElem?_cons_zero, List.getElem?_cons_succ] at e0 e1 e2
      have HW := Lib.hid hW
      clear hM ho hW hr
      go_upto_region 8 with (rw [HW.out])
      clear d0 d1 d2
      go_region_held3 (fun w' => w'.cell? ⟨w.heap.size + 1, 0, none⟩ = some (.slice Ar2 ls.length cr2) ∧ w'.cell? ⟨w.heap.size + 1, 1, none⟩ = some (.int .i64 nx) ∧ w'.cell? ⟨wr.heap.size, 2, none⟩ = some (.int .i64 o.b))
        ((first | exact ⟨e0, e1, e2⟩ | exact ⟨(HMa.out.1.blk.cell 0).trans rfl, (HMa.out.1.blk.cell 1).trans rfl, (HMa.out.2.cell 2).trans rfl⟩ | exact ⟨(HMb.out.1.blk.cell 0).trans rfl, (HMb.out.1.blk.cell 1).trans rfl, (HMb.out.2.cell 2).trans rfl⟩))
        (first
          | (go_at_call 16; refine (may_any w.heap.size nx o.b r ls A2 c2 _ (by first | (with_reducible exact HMd.out.both.isIn) | (with_reducible exact HMb.out.1.both.isIn)) hle Hr.out).mono ?_; rintro e wa ⟨rfl, hga⟩; have HMa := Lib.hid (show Pair w wa w.heap.size (w.heap.size + 1) nx ls A2 c2 Ar2 cr2 ∧ Blk wa wr.heap.size 30 #[.int .i64 o.kind, .int .i64 o.a, .int .i64 o.b] from by first | (with_reducible exact ⟨HMd.out.more hga, (B1.out.drew).grew hga⟩) | (with_reducible exact ⟨HMb.out.1.more hga, HMb.out.2.grew hga⟩)); clear hga)
          | (go_at_call 17; refine (rmay_any o.b nx r ls Ar2 cr2 _ (by first | (with_reducible exact HMd.out.both.sl) | (with_reducible exact HMa.out.1.both.sl)) hle Hr.out).mono ?_; rintro e wb ⟨rfl, hgb⟩; have HMb := Lib.hid (show Pair w wb w.heap.size (w.heap.size + 1) nx ls A2 c2 Ar2 cr2 ∧ Blk wb wr.heap.size 30 #[.int .i64 o.kind, .int .i64 o.a, .int .i64 o.b] from by first | (with_reducible exact ⟨HMd.out.more hgb, (B1.out.drew).grew hgb⟩) | (with_reducible exact ⟨HMa.out.1.more hgb, HMa.out.2.grew hgb⟩)); clear hgb))
      all_goals
        obtain ⟨nx', ls', hrt, hnx', hst⟩ := lawStep_any w.heap.size nx ls o A2 Ar2 c2 cr2 _ HMb.out.1.both
        have Hst := Lib.hid hst
        obtain ⟨c0, f0, s0⟩ := HMb.out.1.blk.facts
        obtain ⟨c1, f1, s1⟩ := HMb.out.2.facts
        clear hst e0 e1 e2
        go_wp2_with (first
          | (go_at_call 9; refine Hst.out.mono ?_; rintro e w2 hst2; obtain ⟨Ar', cr', A2', c2', rfl, hB2, hC2, hF2⟩ := hst2.both hrt (by omega); have H2 := Lib.hid (And.intro hB2 (And.intro hC2 hF2)); clear hst2 hB2 hC2 hF2 c0 f0 s0 c1 f1 s1; have HP := Lib.hid (HMb.out.1.step H2.out.1 H2.out.2.1 H2.out.2.2 (cr' := cr') rfl); obtain ⟨c0, f0, s0⟩ := (HMb.out.1.blk.chg H2.out.2.1 HMb.out.1.out).facts)
          | (go_at_call 18; refine (same_any w.heap.size nx' ls' A2' Ar' c2' cr' _ HP.out.both).mono ?_; rintro e w4 ⟨rfl, hg4⟩; have HP4 := Lib.hid (HP.out.more hg4); clear hg4))
        exact ⟨⟨k + 1, nx', ls', A2', c2', Ar', cr', by omega, by simp, by push_cast; omega, HP4.out⟩, by simp [intOf]; omega⟩
    · obtain rfl : k = l.length := by omega
      have HM := Lib.hid hM
      obtain ⟨c0, f0, s0⟩ := hM.blk.facts
      clear hM
      go_wp2_with (first
        | (go_at_call 19; refine (rright_any nx ls Ar2 cr2 _ HM.out.len HM.out.both.sl true ⟨fun _ => HM.out.both.rt.rgt HM.out.both.nb, fun _ => rfl⟩).mono ?_; rintro e w2 ⟨rfl, hg2⟩; have Hg2 := Lib.hid hg2; clear hg2)
        | (go_at_call 8; refine (awake_any _).mono ?_; rintro e w3 ⟨rfl, hg3⟩))
      go_ret
      exact ⟨rfl, Grew.trans HM.out.grew (Grew.trans Hg2.out hg3)⟩

end Go.Proofs.Ytkcakkblammpiaa
