/- DeedFinds: what is looked up. -/
import Derived.Test.YtkcakkblammpiaaDeeZ
import Derived.Deep.DeepCutAuto
import Derived.Laws.BitsLemmas
namespace Go.Proofs.Ytkcakkblammpiaa
open Go.RowKit

theorem get_cases (b : Nat) (nx id : Int) (l : List Dee) (A : Option Addr) (c : Nat) (hl : l.length ≤ 1000000) :
    ∃ (y : Dee) (r i : Int), fidx (fun x : Dee => x.id == id) l = i ∧ ((i = -1 ∧ r = 14 ∧ y = ⟨0, 0, 0⟩) ∨ ∃ k : Nat, i = k ∧ l[k]? = some y ∧ r = 0) ∧
      ∀ w, DeedsIn w b nx l A c → Calls Try.prog 10 #[.pointer (some ⟨b, 0, none⟩), .int .i64 id] w fun e w' => e = .returned (.tuple #[(.agg #[.int .i64 y.id, .int .i64 y.plot, .int .i64 y.holder]), .int .i64 r]) ∧ Grew w w' := by
  rcases fidx_cases (fun x : Dee => x.id == id) l with ⟨hf, -⟩ | ⟨k, x, hf, hx, hp, -, hno⟩
  · exact ⟨⟨0, 0, 0⟩, 14, -1, hf, .inl ⟨rfl, rfl, rfl⟩, fun w h => get_none b nx id l A c w h hl hf⟩
  · exact ⟨x, 0, k, hf, .inr ⟨k, rfl, hx, rfl⟩, fun w h => get_some b k x nx id l A c w h hl hf (find_of hx hp hno)⟩

theorem of_cases (b : Nat) (nx id : Int) (l : List Dee) (A : Option Addr) (c : Nat) (hl : l.length ≤ 1000000) :
    ∃ (y : Dee) (i : Int) (u : Bool), fidx (fun x : Dee => x.plot == id) l = i ∧ ((i = -1 ∧ y = ⟨0, 0, 0⟩ ∧ u = false) ∨ ∃ k : Nat, i = k ∧ l[k]? = some y ∧ u = true) ∧
      ∀ w, DeedsIn w b nx l A c → Calls Try.prog 12 #[.pointer (some ⟨b, 0, none⟩), .int .i64 id] w fun e w' => e = .returned (.tuple #[(.agg #[.int .i64 y.id, .int .i64 y.plot, .int .i64 y.holder]), .bool u]) ∧ Grew w w' := by
  rcases fidx_cases (fun x : Dee => x.plot == id) l with ⟨hf, hno⟩ | ⟨k, x, hf, hx, hp, -, hno⟩
  · refine ⟨⟨0, 0, 0⟩, -1, false, hf, .inl ⟨rfl, rfl, rfl⟩, fun w h => of_any b nx id l A c w h hl ⟨0, 0, 0⟩ (-1) ?_ hf⟩
    have : l.find? (fun x : Dee => x.plot == id) = none := List.find?_eq_none.2 (fun x hx => by simp [hno x hx] )
    unfold fnd
    rw [this]; rfl
  · refine ⟨x, k, true, hf, .inr ⟨k, rfl, hx, rfl⟩, fun w h => ?_⟩
    have := of_any b nx id l A c w h hl x k (find_of hx hp hno) hf
    rwa [show decide (0 ≤ (k : Int)) = true by simp] at this

theorem Sl.atInt {w : World} {A : Option Addr} {n : Nat} {xs : List Int} (h : Sl w 1 A n (xs.map (Value.int .i64))) {k : Nat} {v : Int} (hx : xs[k]? = some v) :
    ∃ b off, A = some ⟨b, off, none⟩ ∧ b < w.heap.size ∧ w.cell? ⟨b, off + k, none⟩ = some (.int .i64 v) := by
  have hk : k < xs.length := (List.getElem?_eq_some_iff.1 hx).1
  have hn : xs.length = n := by simpa using h.1
  obtain ⟨b, off, hA, hb, hc⟩ := h.2 (by omega)
  exact ⟨b, off, hA, hb, hc k _ (by rw [List.getElem?_map, hx]; rfl)⟩

set_option maxRecDepth 100000 in
set_option maxHeartbeats 400000 in
theorem finds_out (l : List Dop) (n : Int) (A : Option Addr) (c : Nat) (w : World) (hl : l.length > 100) (hln : (l.length : Int) ≤ 9223372036854775807) :
    Calls Try.prog 3 #[.slice A l.length c, .int .i64 n] w fun e w' => e = .returned (.bool true) ∧ Grew w w' := by
  go_enter Try.func3, Try.ntmps3
  go_wp2_with (first
    | (go_at_call 7; refine (new_any _).mono ?_; rintro e w1 ⟨rfl, rfl⟩)
    | (go_at_call 8; refine (awake_any _).mono ?_; rintro e w2 ⟨rfl, hg2⟩))
  go_ret
  exact ⟨rfl, Grew.trans ((Chg.refl _ _).alloc _) hg2⟩

set_option maxRecDepth 100000 in
set_option maxHeartbeats 3200000 in
theorem finds_in (l : List Dop) (n : Int) (A : Option Addr) (c : Nat) (w : World) (hl : l.length ≤ 100) (hs : Sl w 3 A l.length (l.flatMap Dop.vals)) :
    Calls Try.prog 3 #[.slice A l.length c, .int .i64 n] w fun e w' => e = .returned (.bool true) ∧ Grew w w' := by
  have Hs := Lib.hid hs
  clear hs
  go_enter Try.func3, Try.ntmps3
  go_wp2_with (go_at_call 7; refine (new_any _).mono ?_; rintro e w1 ⟨rfl, rfl⟩)
  go_loopw [34] (fun i wr => ∃ (k : Nat) (nx : Int) (ls : List Dee) (A2 : Option Addr) (c2 : Nat) (Ar2 : Option Addr) (cr2 : Nat), k ≤ l.length ∧ i = .int .i64 k ∧ nx ≤ k + 1 ∧ Pair w wr w.heap.size (w.heap.size + 1) nx ls A2 c2 Ar2 cr2) (fun i _ => l.length - (intOf i).toNat)
  case atStart => exact ⟨0, 1, [], none, 0, none, 0, Nat.zero_le _, rfl, by simp, Pair.made w⟩
  case round =>
    obtain ⟨k, nx, ls, A2, c2, Ar2, cr2, hk, rfl, hnx, hM⟩ := hrel
    by_cases hlt : k < l.length
    · obtain ⟨o, ho⟩ : ∃ o, l[k]? = some o := ⟨_, List.getElem?_eq_getElem hlt⟩
      obtain ⟨g, off, rfl, hb, d0, d1, d2⟩ := (Hs.out.grew hM.grew).atDop ho
      have B1 := Lib.hid (Blk.new wr 30 #[.int .i64 o.kind, .int .i64 o.a, .int .i64 o.b])
      have hM1 := hM.more ((Chg.refl _ wr).alloc (.cells #[.int .i64 o.kind, .int .i64 o.a, .int .i64 o.b] 30))
      obtain ⟨nx', ls', hrt, hnx', hst⟩ := lawStep_any w.heap.size nx ls o A2 Ar2 c2 cr2 _ hM1.both
      have Hst := Lib.hid hst
      have HM1 := Lib.hid hM1
      have hs0 := hM.blk.lt
      obtain ⟨c0, f0, s0⟩ := hM.blk.facts
      clear hst hM1 ho
      go_wp2_with (go_at_call 9; refine Hst.out.mono ?_; rintro e w2 hst2; obtain ⟨Ar', cr', A2', c2', rfl, hB2, hC2, hF2⟩ := hst2.both hrt (by omega); have H2 := Lib.hid (And.intro hB2 (And.intro hC2 hF2)); clear hst2 hB2 hC2 hF2 d0 d1 d2 c0 f0 s0; obtain ⟨c0, f0, s0⟩ := (HM1.out.blk.chg H2.out.2.1 HM1.out.out).facts)
      exact ⟨⟨k + 1, nx', ls', A2', c2', Ar', cr', by omega, by simp, by push_cast; omega, HM1.out.step H2.out.1 H2.out.2.1 H2.out.2.2 rfl⟩, by simp [intOf]; omega⟩
    · obtain rfl : k = l.length := by omega
      obtain ⟨wo, rfl⟩ : ∃ wo : World, wo = wr := ⟨_, rfl⟩
      have HM := Lib.hid hM
      obtain ⟨c0, f0, s0⟩ := hM.blk.facts
      have hle := hM.len
      obtain ⟨y, r, i, hyi, hyc, hget⟩ := get_cases w.heap.size nx n ls A2 c2 hle
      obtain ⟨z, j, u, hzj, hzc, hof⟩ := of_cases w.heap.size nx n ls A2 c2 hle
      have HY := Lib.hid hyc
      have HZ := Lib.hid hzc
      have HYi := Lib.hid hyi
      have HZj := Lib.hid hzj
      have Hget := Lib.hid hget
      have Hof := Lib.hid hof
      clear hM hyc hzc hyi hzj hget hof
      go_upto_region 14 with (first
        | (go_at_call 10; refine (Hget.out _ HM.out.both.isIn).mono ?_; rintro e w2 ⟨rfl, hg2⟩; have BA := Lib.hid (Blk.new w2 34 #[.int .i64 y.id, .int .i64 y.plot, .int .i64 y.holder]); have HM2 := Lib.hid ((HM.out.more hg2).more ((Chg.refl _ _).alloc (.cells #[.int .i64 y.id, .int .i64 y.plot, .int .i64 y.holder] 34))); clear c0 f0 s0 hg2; obtain ⟨c0, f0, s0⟩ := HM2.out.blk.facts)
        | (go_at_call 11; refine (rfind_any n nx ls Ar2 cr2 _ HM2.out.both.sl hle).mono ?_; rintro e w3 ⟨rfl, hg3⟩; rw [HYi.out]; have BA3 := Lib.hid (BA.out.grew hg3); have HM3 := Lib.hid (HM2.out.more hg3); clear c0 f0 s0 hg3; obtain ⟨c0, f0, s0⟩ := HM3.out.blk.facts)
        | (go_at_call 12; refine (Hof.out _ HM3.out.both.isIn).mono ?_; rintro e w4 ⟨rfl, hg4⟩; have BB := Lib.hid (Blk.new w4 34 #[.int .i64 z.id, .int .i64 z.plot, .int .i64 z.holder]); have BA4 := Lib.hid ((BA3.out.grew hg4).alloc (.cells #[.int .i64 z.id, .int .i64 z.plot, .int .i64 z.holder] 34)); have HM4 := Lib.hid ((HM3.out.more hg4).more ((Chg.refl _ _).alloc (.cells #[.int .i64 z.id, .int .i64 z.plot, .int .i64 z.holder] 34))); clear c0 f0 s0 hg4; obtain ⟨c0, f0, s0⟩ := HM4.out.blk.facts)
        | (go_at_call 13; refine (rof_any n nx ls Ar2 cr2 _ HM4.out.both.sl hle).mono ?_; rintro e w5 ⟨rfl, hg5⟩; rw [HZj.out]; have BA5 := Lib.hid (BA4.out.grew hg5); have BB5 := Lib.hid (BB.out.grew hg5); have HM5 := Lib.hid (HM4.out.more hg5); clear c0 f0 s0 hg5; obtain ⟨c0, f0, s0⟩ := HM5.out.blk.facts))
      go_cut [91] (fun v wx => v = .bool false ∧ Grew w5 wx)
      case first =>
        obtain ⟨c1, f1, s1⟩ := BA5.out.facts
        rcases HY.out with ⟨rfl, rfl, rfl⟩ | ⟨k, rfl, hk, rfl⟩
        · clear HY HZ
          go_big_quiet (fail)
          go_wp2
          go_meet
          exact ⟨rfl, Chg.drewN (Chg.refl _ _) _⟩
        · obtain ⟨g, off, rfl, hgb, d0, d1, d2⟩ := HM5.out.both.sl.atDee hk
          have hkl : k < ls.length := (List.getElem?_eq_some_iff.1 hk).1
          have t1 : decide ((0 : Int) ≤ (k : Int)) = true := by simp
          have t2 : decide ((k : Int) < 0) = false := by simp
          have t3 : (0 : Int) ≤ (k : Int) := Int.natCast_nonneg _
          have t4 : (k : Int) < (ls.length : Int) := by omega
          clear HY HZ hk
          go_big_quiet (fail)
          go_wp2
          go_meet
          exact ⟨rfl, Chg.drewN (Chg.refl _ _) _⟩
      case rest =>
        obtain ⟨rfl, hgx0⟩ := hcut
        obtain ⟨w6, hw6, hgx⟩ : ∃ w6, w6 = _ ∧ Grew w5 w6 := ⟨_, rfl, hgx0⟩
        subst hw6
        have HM6 := Lib.hid (HM5.out.more hgx)
        have BB6 := Lib.hid (BB5.out.grew hgx)
        clear c0 f0 s0 hgx
        obtain ⟨c0, f0, s0⟩ := HM6.out.blk.facts
        go_upto_region 16 with fail
        go_cut [116] (fun v wx => v = .bool false ∧ Grew w6 wx)
        case first =>
          obtain ⟨c1, f1, s1⟩ := BB6.out.facts
          rcases HZ.out with ⟨rfl, rfl, rfl⟩ | ⟨k, rfl, hk, rfl⟩
          · clear HY HZ
            go_big_quiet (fail)
            go_wp2
            go_meet
            exact ⟨rfl, Chg.drewN (Chg.refl _ _) _⟩
          · obtain ⟨g, off, rfl, hgb, d0, d1, d2⟩ := HM6.out.both.sl.atDee hk
            have hkl : k < ls.length := (List.getElem?_eq_some_iff.1 hk).1
            have t1 : decide ((0 : Int) ≤ (k : Int)) = true := by simp
            have t2 : decide ((k : Int) < 0) = false := by simp
            have t3 : (0 : Int) ≤ (k : Int) := Int.natCast_nonneg _
            have t4 : (k : Int) < (ls.length : Int) := by omega
            clear HY HZ hk
            go_big_quiet (fail)
            go_wp2
            go_meet
            exact ⟨rfl, Chg.drewN (Chg.refl _ _) _⟩
        case rest =>
          obtain ⟨rfl, hgx0⟩ := hcut
          obtain ⟨W, hW, hgx⟩ : ∃ W, W = _ ∧ Grew w6 W := ⟨_, rfl, hgx0⟩
          subst hW
          have HM7 := Lib.hid (HM6.out.more hgx)
          clear c0 f0 s0 hgx
          obtain ⟨c0, f0, s0⟩ := HM7.out.blk.facts
          have e0 := c0 0
          have e1 := c0 1
          simp only [List.getElem?_toArray, List.getElem?_cons_zero, List.getElem?_cons_succ] at e0 e1
          obtain ⟨xs, hxs⟩ : ∃ xs, heldOf ls n = xs := ⟨_, rfl⟩
          have Hxs := Lib.hid hxs
          have hxl : xs.length ≤ 1000000 := by rw [← hxs]; exact Nat.le_trans (heldOf_len ls n) hle
          have HMd := Lib.hid (HM7.out.more ((Chg.refl _ _).drew))
          clear hxs c0 f0
          go_upto_region 18 with fail
          go_region_held3 (fun w' => w'.cell? ⟨w.heap.size + 1, 0, none⟩ = some (.slice Ar2 ls.length cr2) ∧ w'.cell? ⟨w.heap.size + 1, 1, none⟩ = some (.int .i64 nx))
            ((first | exact ⟨e0, e1⟩ | exact ⟨(HMa.out.blk.cell 0).trans rfl, (HMa.out.blk.cell 1).trans rfl⟩ | exact ⟨(HMb.out.blk.cell 0).trans rfl, (HMb.out.blk.cell 1).trans rfl⟩))
            (first
              | (go_at_call 14; refine (held_any w.heap.size nx n ls A2 c2 _ (by first | (with_reducible exact HMd.out.both.isIn) | (with_reducible exact HMb.out.both.isIn)) hle xs Hxs.out).mono ?_; rintro e wa ⟨Aa, ca, rfl, hoa, hga⟩; have HMa := Lib.hid (show Pair w wa _ _ _ _ _ _ _ _ from by first | (with_reducible exact HMd.out.more hga) | (with_reducible exact HMb.out.more hga)); have HOa := Lib.hid hoa; have HGa := Lib.hid hga; clear hoa hga)
              | (go_at_call 15; refine (rheld_any n nx ls Ar2 cr2 _ (by first | (with_reducible exact HMd.out.both.sl) | (with_reducible exact HMa.out.both.sl)) hle xs Hxs.out).mono ?_; rintro e wb ⟨Ab, cb, rfl, hob, hgb⟩; have HMb := Lib.hid (show Pair w wb _ _ _ _ _ _ _ _ from by first | (with_reducible exact HMd.out.more hgb) | (with_reducible exact HMa.out.more hgb)); have HOb := Lib.hid hob; have HGb := Lib.hid hgb; clear hob hgb))
          all_goals
            have HSa := Lib.hid (Sl.of_own (own_grew HOa.out HGb.out))
            have HSb := Lib.hid (Sl.of_own HOb.out)
            clear e0 e1 s0
            go_wp2_with fail
            go_loopw [17, 130] (fun _ i wr => ∃ k : Nat, k ≤ xs.length ∧ i = .int .i64 k ∧ Grew wb wr) (fun _ i _ => xs.length - (intOf i).toNat)
            case atStart => exact ⟨0, Nat.zero_le _, rfl, Chg.refl _ _⟩
            case round =>
              obtain ⟨k, hk, rfl, hg⟩ := hrel
              have Hg := Lib.hid hg
              clear hg
              by_cases hlt : k < xs.length
              · obtain ⟨v, hv⟩ : ∃ v, xs[k]? = some v := ⟨_, List.getElem?_eq_getElem hlt⟩
                obtain ⟨g1, o1, rfl, hb1, q1⟩ := (HSa.out.grew Hg.out).atInt hv
                obtain ⟨g2, o2, rfl, hb2, q2⟩ := (HSb.out.grew Hg.out).atInt hv
                have t3 : (0 : Int) ≤ (k : Int) := Int.natCast_nonneg _
                have t4 : (k : Int) < (xs.length : Int) := by omega
                clear hv
                go_wp2_with fail
                go_quiet (fail)
                go_wp2
                go_roundw
                case rel => exact ⟨k + 1, by omega, by go_num, Chg.drewN Hg.out _⟩
                case measure => simp [intOf]; omega
              · obtain rfl : k = xs.length := by omega
                go_wp2_with (go_at_call 8; refine (awake_any _).mono ?_; rintro e w9 ⟨rfl, hg9⟩)
                go_ret
                exact ⟨rfl, Grew.trans HMb.out.grew (Grew.trans Hg.out hg9)⟩

end Go.Proofs.Ytkcakkblammpiaa
