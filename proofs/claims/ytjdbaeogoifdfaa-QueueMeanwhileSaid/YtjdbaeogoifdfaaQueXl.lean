/- QueuePlays. -/
import Derived.Test.YtjdbaeogoifdfaaQueXj
import Derived.Test.YtjdbaeogoifdfaaQueXk
import Derived.Test.YtjdbaeogoifdfaaQueU
namespace Go.Proofs.Ytjdbaeogoifdfaa
open Go.RowKit Go.Maps

theorem sq_start {w W1 W2 : World} (h1 : (w.alloc (.map #[] 0)).alloc (.cells #[.slice none 0 0, .map (some w.heap.size), .int .i64 0] 55) = W1) (h2 : W1.alloc (.cells #[.slice none 0 0, .int .i64 0] 37) = W2) :
    SQ (Bs.of w) W2 (w.heap.size + 1) W1.heap.size [] [] none 0 w.heap.size none 0 0 := by
  have hm := QMine.made w
  rw [h1] at hm
  have hg2 : Grew W1 W2 := h2 ▸ (Chg.refl _ _).alloc _
  have hz : W1.heap.size = w.heap.size + 1 + 1 := by rw [← h1]; simp
  refine ⟨⟨(QB.of hm).more hg2, h2 ▸ Blk.new _ _ _, Sl.nil _ _ _, (by show w.heap.size ≤ _; omega), fun hf => ?_, fun a ha => (by cases ha), (fun _ => rfl), fun a ha => (by cases ha)⟩, (fun k x p _ hx => by simp at hx), QL.nil, (fun x hx => by cases hx), ⟨by omega, by simp⟩⟩
  have := QF_old hm.q hf
  omega

/-- Somewhere along the calls. -/
def SQs (w : Bs) (W : World) (b S M : Nat) (added : Int) : Prop := ∃ l s A c As cs, SQ w W b S l s A c M As cs added
theorem SAny.sqs {w : Bs} {W : World} {b S M : Nat} {added : Int} (h : SAny w W b S M added) : ∃ added', SQs w W b S M added' ∧ added ≤ added' ∧ added' ≤ added + 1 := by
  obtain ⟨s', added', ⟨l', A', c', As', cs', h⟩, h1, h2⟩ := h
  exact ⟨added', ⟨_, _, _, _, _, _, h⟩, h1, h2⟩

set_option maxRecDepth 100000 in
set_option maxHeartbeats 1600000 in
theorem plays_out (l : List Qop) (A : Option Addr) (c : Nat) (w : World) (hl : l.length > 100) (hln : (l.length : Int) ≤ 9223372036854775807) :
    Calls Try.prog 4 #[.slice A l.length c] w fun e w' => e = .returned (.bool true) ∧ Grew w w' := by
  go_enter Try.func4, Try.ntmps4
  go_wp2_with (first
    | (go_at_call 8; refine (new_any _).mono ?_; rintro e w1 ⟨rfl, rfl⟩)
    | (go_at_call 9; refine (awake_any _).mono ?_; rintro e w2 ⟨rfl, hg2⟩))
  go_ret
  exact ⟨rfl, Grew.trans (((Chg.refl _ _).alloc _).alloc _) hg2⟩

set_option maxRecDepth 100000 in
set_option maxHeartbeats 400000 in
theorem plays_in (l : List Qop) (A : Option Addr) (c : Nat) (w : World) (hl : l.length ≤ 100) (hs : Sl w 4 A l.length (l.flatMap Qop.vals)) (hok : ∀ r ∈ l, r.ok) :
    Calls Try.prog 4 #[.slice A l.length c] w fun e w' => e = .returned (.bool true) ∧ Grew w w' := by
  have Hs := Lib.hid (And.intro hs hok)
  have hl' : (l.length : Int) ≤ 100 := by omega
  clear hs hok
  obtain ⟨W1, hW1⟩ : ∃ W1, (w.alloc (.map #[] 0)).alloc (.cells #[.slice none 0 0, .map (some w.heap.size), .int .i64 0] 55) = W1 := ⟨_, rfl⟩
  obtain ⟨W2, hW2⟩ : ∃ W2, W1.alloc (.cells #[.slice none 0 0, .int .i64 0] 37) = W2 := ⟨_, rfl⟩
  have H2 := Lib.hid (sq_start hW1 hW2)
  have HW1 := Lib.hid hW1
  have HW2 := Lib.hid hW2
  clear hW1 hW2
  obtain ⟨b, hb⟩ : ∃ b, w.heap.size + 1 = b := ⟨_, rfl⟩
  have Hb := Lib.hid hb
  have hz : W1.heap.size = b + 1 := by rw [← HW1.out, ← hb]; simp
  rw [hb, hz] at H2
  clear hb hz
  go_enter Try.func4, Try.ntmps4
  go_wp2_with (go_at_call 8; refine (new_any _).mono ?_; rintro e w1 ⟨rfl, rfl⟩)
  rw [HW1.out, HW2.out]
  rw [Hb.out]
  go_loopw [24] (fun i wr => ∃ (k : Nat) (added : Int), k ≤ l.length ∧ i = .int .i64 k ∧ SQs (Bs.of w) wr b (b + 1) w.heap.size added ∧ added ≤ k) (fun i _ => l.length - (intOf i).toNat)
  case atStart => exact ⟨0, 0, by omega, rfl, ⟨_, _, _, _, _, _, H2.out⟩, by omega⟩
  case round =>
    obtain ⟨k, added, hk, rfl, hq, had⟩ := hrel
    obtain ⟨lq, sq, Aq, cq, As, cs, hq⟩ := hq
    have HQ := Lib.hid hq
    have hgw := hq.grewOf
    have HG := Lib.hid hgw
    clear hq hgw
    by_cases hlt : k < l.length
    · obtain ⟨o, ho⟩ : ∃ o, l[k]? = some o := ⟨_, List.getElem?_eq_getElem hlt⟩
      obtain ⟨g, off, rfl, hb, d0, d1, d2, d3⟩ := (Hs.out.1.grew HG.out).atQop ho
      have HO := Lib.hid (Hs.out.2 o (List.mem_of_getElem? ho))
      clear ho
      go_wp2_with fail
      refine (sstep_any o HO.out (Bs.of w) _ b (b + 1) cq w.heap.size cs lq sq Aq As added (HQ.out.on ((Chg.refl _ _).alloc _)) (by omega)).mono ?_
      rintro e w5 ⟨rfl, hs5⟩
      obtain ⟨added', ⟨l5, s5', A5, c5, As5, cs5, hq5⟩, ha1, ha2⟩ := hs5.sqs
      have HQ5 := Lib.hid hq5
      clear hs5 hq5 d0 d1 d2 d3
      go_wp2_with fail
      refine (ssame_any (Bs.of w) _ b (b + 1) c5 w.heap.size cs5 l5 s5' A5 As5 added' HQ5.out (by have := HQ5.out.ad.2; omega)).mono ?_
      rintro e w6 ⟨rfl, hg6⟩
      have HG6 := Lib.hid hg6
      clear hg6
      go_wp2_with fail
      exact ⟨⟨k + 1, added', by omega, by simp, ⟨_, _, _, _, _, _, HQ5.out.on HG6.out⟩, by omega⟩, by simp [intOf]; omega⟩
    · obtain rfl : k = l.length := by omega
      go_wp2_with (go_at_call 9; refine (awake_any _).mono ?_; rintro e w7 ⟨rfl, hg7⟩)
      go_ret
      exact ⟨rfl, Grew.trans HG.out hg7⟩

end Go.Proofs.Ytjdbaeogoifdfaa
