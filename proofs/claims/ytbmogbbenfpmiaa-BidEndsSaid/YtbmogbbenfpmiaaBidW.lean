/- BidCopies: the walk. -/
import Derived.Test.YtbmogbbenfpmiaaBidV
namespace Go.Proofs.Ytbmogbbenfpmiaa
open Go.RowKit

set_option maxRecDepth 100000 in
set_option maxHeartbeats 400000 in
theorem copies_out (l m : List Bop) (A B : Option Addr) (c d : Nat) (w : World) (hl : l.length > 60 ∨ m.length > 60) (hln : (l.length : Int) ≤ 9223372036854775807) (hmn : (m.length : Int) ≤ 9223372036854775807) :
    Calls Try.prog 5 #[.slice A l.length c, .slice B m.length d] w fun e w' => e = .returned (.bool true) ∧ Grew w w' := by
  by_cases q1 : l.length > 60
  all_goals try have q2 : m.length > 60 := by omega
  all_goals clear hl
  all_goals
    go_enter Try.func5, Try.ntmps5
    go_wp2_with (first
      | (go_at_call 7; refine (new_any _).mono ?_; rintro e w1 ⟨rfl, rfl⟩)
      | (go_at_call 8; refine (awake_any _).mono ?_; rintro e w2 ⟨rfl, hg2⟩))
    go_ret
    exact ⟨rfl, Grew.trans ((Chg.refl _ _).alloc _) hg2⟩

set_option maxRecDepth 100000 in
set_option maxHeartbeats 1600000 in
theorem copies_in (l m : List Bop) (A B : Option Addr) (c d : Nat) (w : World) (hl : l.length ≤ 60) (hm : m.length ≤ 60) (hs : Sl w 5 A l.length (l.flatMap Bop.vals)) (ht : Sl w 5 B m.length (m.flatMap Bop.vals)) (ok : ∀ r ∈ l, r.ok) (om : ∀ r ∈ m, r.ok) :
    Calls Try.prog 5 #[.slice A l.length c, .slice B m.length d] w fun e w' => e = .returned (.bool true) ∧ Grew w w' := by
  have Hs := Lib.hid hs
  have Ht := Lib.hid ht
  have Hok := Lib.hid ok
  have Hom := Lib.hid om
  clear hs ht ok om
  go_enter Try.func5, Try.ntmps5
  go_wp2_with (go_at_call 7; refine (new_any _).mono ?_; rintro e w1 ⟨rfl, rfl⟩)
  go_loopw [35] (fun i wr => ∃ (k : Nat) (nx : Int) (ls : List Auc) (A2 : Option Addr) (c2 : Nat) (Ar2 : Option Addr) (cr2 : Nat), k ≤ l.length ∧ i = .int .i64 k ∧ nx ≤ k + 1 ∧ Pair w wr w.heap.size (w.heap.size + 1) nx ls A2 c2 Ar2 cr2) (fun i _ => l.length - (intOf i).toNat)
  case atStart => exact ⟨0, 1, [], none, 0, none, 0, Nat.zero_le _, rfl, by simp, Pair.made w⟩
  case round =>
    obtain ⟨k, nx, ls, A2, c2, Ar2, cr2, hk, rfl, hnx, hM⟩ := hrel
    by_cases hlt : k < l.length
    · skip
      obtain ⟨o, ho⟩ : ∃ o, l[k]? = some o := ⟨_, List.getElem?_eq_getElem hlt⟩
      obtain ⟨g, off, rfl, hb, d0, d1, d2, d3, d4⟩ := (Hs.out.grew hM.grew).atBop ho
      have B1 := Lib.hid (Blk.new wr 30 #[.int .i64 o.kind, .int .i64 o.a, .int .i64 o.b, .int .i64 o.n, .int .i64 o.ends])
      have hM1 := hM.more ((Chg.refl _ wr).alloc (.cells #[.int .i64 o.kind, .int .i64 o.a, .int .i64 o.b, .int .i64 o.n, .int .i64 o.ends] 30))
      obtain ⟨nx', ls', hrt, hnx', hst⟩ := lawStep_any w.heap.size nx ls o A2 Ar2 c2 cr2 _ hM1.both (Hok.out o (List.mem_of_getElem? ho))
      have Hst := Lib.hid hst
      have hBF := Lib.hid (show ∀ j, BF w.heap.size A2 j → j < wr.heap.size from fun j hj => hM.both.isIn.lt hj)
      have HM1 := Lib.hid hM1
      have hs0 := hM.blk.lt
      obtain ⟨c0, f0, s0⟩ := hM.blk.facts
      clear hst hM1 ho
      go_wp2_with (go_at_call 12; refine Hst.out.mono ?_; rintro e w2 hst2; obtain ⟨Ar', cr', A2', c2', rfl, hB2, hC2, hF2⟩ := hst2.both hrt (by omega); have H2 := Lib.hid (And.intro hB2 (And.intro hC2 hF2)); clear hst2 hB2 hC2 hF2 d0 d1 d2 d3 d4 c0 f0 s0; obtain ⟨c0, f0, s0⟩ := (HM1.out.blk.chg H2.out.2.1 HM1.out.out).facts)
      exact ⟨⟨k + 1, nx', ls', A2', c2', Ar', cr', by omega, by simp, by push_cast; omega, HM1.out.step H2.out.1 H2.out.2.1 H2.out.2.2 rfl⟩, by simp [intOf]; omega⟩
    · obtain rfl : k = l.length := by omega
      have HM := Lib.hid hM
      obtain ⟨c0, f0, s0⟩ := hM.blk.facts
      have hle := hM.both.rt.len
      clear hM
      go_wp2_with (go_at_call 19; refine (copy_any w.heap.size nx ls A2 c2 _ HM.out.both.isIn (by omega)).mono ?_; rintro e w2 ⟨b', A3, c3, rfl, hi3, hg3, hn3⟩; have HP := Lib.hid (HM.out.copied hi3 hg3 hn3); clear c0 f0 s0; obtain ⟨c0, f0, s0⟩ := (HM.out.more hg3).blk.facts; clear hi3 hg3 hn3)
      clear c0 f0 s0
      obtain ⟨wo, rfl⟩ : ∃ wo : World, wo = wr := ⟨_, rfl⟩
      go_loopw [54] (fun i wr => ∃ (k : Nat) (ny : Int) (ls2 : List Auc) (A2 : Option Addr) (c2 : Nat) (Ar2 : Option Addr) (cr2 : Nat), k ≤ m.length ∧ i = .int .i64 k ∧ ny ≤ nx + k ∧ Pair wo wr b' w2.heap.size ny ls2 A2 c2 Ar2 cr2) (fun i _ => m.length - (intOf i).toNat)
      case atStart => exact ⟨0, nx, ls, A3, c3, Ar2, cr2, Nat.zero_le _, rfl, by simp, HP.out⟩
      case round =>
        have HM0 := HM
        obtain ⟨k, ny, ls2, A4, c4, Ar4, cr4, hk, rfl, hny, hM⟩ := hrel
        by_cases hlt : k < m.length
        · skip
          obtain ⟨o, ho⟩ : ∃ o, m[k]? = some o := ⟨_, List.getElem?_eq_getElem hlt⟩
          obtain ⟨g, off, rfl, hb, d0, d1, d2, d3, d4⟩ := (Ht.out.grew (Grew.trans HM0.out.grew hM.grew)).atBop ho
          have B1 := Lib.hid (Blk.new wr 30 #[.int .i64 o.kind, .int .i64 o.a, .int .i64 o.b, .int .i64 o.n, .int .i64 o.ends])
          have hM1 := hM.more ((Chg.refl _ wr).alloc (.cells #[.int .i64 o.kind, .int .i64 o.a, .int .i64 o.b, .int .i64 o.n, .int .i64 o.ends] 30))
          obtain ⟨nx', ls', hrt, hnx', hst⟩ := lawStep_any b' ny ls2 o A4 Ar4 c4 cr4 _ hM1.both (Hom.out o (List.mem_of_getElem? ho))
          have Hst := Lib.hid hst
          have hBF := Lib.hid (show ∀ j, BF b' A4 j → j < wr.heap.size from fun j hj => hM.both.isIn.lt hj)
          have HM1 := Lib.hid hM1
          have hs0 := hM.blk.lt
          obtain ⟨c0, f0, s0⟩ := hM.blk.facts
          clear hst hM1 ho
          go_wp2_with (go_at_call 12; refine Hst.out.mono ?_; rintro e w2 hst2; obtain ⟨Ar', cr', A2', c2', rfl, hB2, hC2, hF2⟩ := hst2.both hrt (by omega); have H2 := Lib.hid (And.intro hB2 (And.intro hC2 hF2)); clear hst2 hB2 hC2 hF2 d0 d1 d2 d3 d4 c0 f0 s0; obtain ⟨c0, f0, s0⟩ := (HM1.out.blk.chg H2.out.2.1 HM1.out.out).facts)
          exact ⟨⟨k + 1, nx', ls', A2', c2', Ar', cr', by omega, by simp, by push_cast; omega, HM1.out.step H2.out.1 H2.out.2.1 H2.out.2.2 rfl⟩, by simp [intOf]; omega⟩
        · obtain rfl : k = m.length := by omega
          have HQ := Lib.hid (HM0.out.more hM.grew)
          have HN := Lib.hid hM
          obtain ⟨c0, f0, s0⟩ := hM.blk.facts
          obtain ⟨c1, f1, s1⟩ := HQ.out.blk.facts
          clear hM
          go_wp2_with (first
            | (go_at_call 13; refine (same_any w.heap.size nx ls A2 Ar2 c2 cr2 _ HQ.out.both).mono ?_; clear HQ; rintro e w4 ⟨rfl, hg4⟩; have HN4 := Lib.hid (HN.out.more hg4); clear c1 f1 s1; obtain ⟨c1, f1, s1⟩ := HN4.out.blk.facts; clear hg4 c0 f0 s0)
            | (go_at_call 13; refine (same_any b' ny ls2 A4 Ar4 c4 cr4 _ HN4.out.both).mono ?_; clear HN; rintro e w5 ⟨rfl, hg5⟩; have HN5 := Lib.hid (HN4.out.more hg5); clear HN4 hg5)
            | (go_at_call 8; refine (awake_any _).mono ?_; rintro e w6 ⟨rfl, hg6⟩))
          go_ret
          exact ⟨rfl, Grew.trans HM0.out.grew (Grew.trans HN5.out.grew hg6)⟩

end Go.Proofs.Ytbmogbbenfpmiaa
