/- The auctions in memory, and the contracts of the calls that only look. -/
import Derived.Test.YtbmogbbenfpmiaaBidA
namespace Go.Proofs.Ytbmogbbenfpmiaa
open Go.RowKit

/-- Block b is a Bids with these auctions, in the slice A, c, and this next number. -/
structure BidsIn (w : World) (b : Nat) (nx : Int) (l : List Auc) (A : Option Addr) (c : Nat) : Prop where
  blk : Blk w b 58 #[.slice A l.length c, .int .i64 nx]
  own : w.ownsRow 0 32 7 (.slice A l.length c) l.length (l.flatMap Auc.vals)

theorem BidsIn.chg {w w' : World} {b : Nat} {nx : Int} {l : List Auc} {A : Option Addr} {c : Nat} {G : Nat → Prop} (h : BidsIn w b nx l A c) (hc : Chg G w w') (hb : ¬ G b) (hA : ∀ a, A = some a → ¬ G a.block) : BidsIn w' b nx l A c := by
  refine ⟨h.blk.chg hc hb, own_chg h.own hc fun g hg => ?_⟩
  cases A with
  | none => simp [Value.ownBlock] at hg
  | some a => simp [Value.ownBlock] at hg; exact hg ▸ hA a rfl
theorem BidsIn.grew {w w' : World} {b : Nat} {nx : Int} {l : List Auc} {A : Option Addr} {c : Nat} (h : BidsIn w b nx l A c) (hc : Grew w w') : BidsIn w' b nx l A c := h.chg hc id fun _ _ => id
theorem BidsIn.sl {w : World} {b : Nat} {nx : Int} {l : List Auc} {A : Option Addr} {c : Nat} (h : BidsIn w b nx l A c) : Sl w 7 A l.length (l.flatMap Auc.vals) := Sl.of_own h.own

set_option maxHeartbeats 400000 in
theorem at_any (b : Nat) (nx id : Int) (l : List Auc) (A : Option Addr) (c : Nat) (w : World) (h : BidsIn w b nx l A c) (hl : l.length ≤ 1000000) :
    Calls Try.prog 27 #[.pointer (some ⟨b, 0, none⟩), .int .i64 id] w fun e w' => e = .returned (.int .i64 (fidx (fun x => x.id == id) l)) ∧ Grew w w' := by
  have c0 := (h.blk.alloc (.cells #[.int .i64 id] 3)).cell 0
  have hlt := h.blk.lt
  have Hp := Lib.hid (idPred w.heap.size id _ (Blk.new w 3 #[.int .i64 id]))
  have Hs := Lib.hid (h.sl.grew ((Chg.refl NoF w).alloc (.cells #[.int .i64 id] 3)))
  simp only [List.getElem?_toArray, List.getElem?_cons_zero] at c0
  clear h
  go_enter Try.func27, Try.ntmps27
  go_wp2_with (go_at_call 33; refine (indexFunc_any l (fun x => x.id == id) _ _ _ _ _ Hs.out Hp.out hl).mono ?_; rintro e w1 ⟨rfl, hg1⟩)
  go_ret
  exact ⟨rfl, Grew.trans ((Chg.refl _ _).alloc _) hg1⟩

theorem fidx_cases {α : Type} (p : α → Bool) (l : List α) : (fidx p l = -1 ∧ ∀ x ∈ l, p x = false) ∨ ∃ (k : Nat) (x : α), fidx p l = (k : Int) ∧ l[k]? = some x ∧ p x = true ∧ k < l.length := by
  unfold fidx
  cases h : l.findIdx? p with
  | none =>
    left
    exact ⟨rfl, List.findIdx?_eq_none_iff.1 h⟩
  | some k =>
    right
    obtain ⟨hk, hp, hj⟩ := List.findIdx?_eq_some_iff_getElem.1 h
    exact ⟨k, l[k], rfl, List.getElem?_eq_getElem hk, hp, hk⟩

set_option maxHeartbeats 400000 in
theorem get_none (b : Nat) (nx id : Int) (l : List Auc) (A : Option Addr) (c : Nat) (w : World) (h : BidsIn w b nx l A c) (hl : l.length ≤ 1000000) (hf : fidx (fun x : Auc => x.id == id) l = -1) :
    Calls Try.prog 14 #[.pointer (some ⟨b, 0, none⟩), .int .i64 id] w fun e w' => e = .returned (.tuple #[(.agg #[.int .i64 0, .int .i64 0, .int .i64 0, .int .i64 0, .int .i64 0, .int .i64 0, .int .i64 0]), .int .i64 14]) ∧ Grew w w' := by
  have Hn0 := Lib.hid (Blk.new w 32 #[.int .i64 0, .int .i64 0, .int .i64 0, .int .i64 0, .int .i64 0, .int .i64 0, .int .i64 0])
  have Hat := Lib.hid (at_any b nx id l A c _ (h.grew ((Chg.refl NoF w).alloc (.cells #[.int .i64 0, .int .i64 0, .int .i64 0, .int .i64 0, .int .i64 0, .int .i64 0, .int .i64 0] 32))) hl)
  rw [hf] at Hat
  clear hf h
  go_enter Try.func14, Try.ntmps14
  go_wp2_with (go_at_call 27; refine Hat.out.mono ?_; rintro e w1 ⟨rfl, hg1⟩; obtain ⟨c1, f1, s1⟩ := (Hn0.out.grew hg1).facts)
  refine bodyPost_ret (v := .tuple #[(.agg #[.int .i64 0, .int .i64 0, .int .i64 0, .int .i64 0, .int .i64 0, .int .i64 0, .int .i64 0]), .int .i64 14]) (by simp [results, Try.results14, go_sem, c1, s1]) rfl ⟨rfl, ?_⟩
  repeat (refine Chg.setCell ?_ (by intro h; exfalso; simp at h; try omega) _)
  exact Grew.trans ((Chg.refl _ _).alloc _) hg1

set_option maxHeartbeats 400000 in
theorem get_some (b k : Nat) (x : Auc) (nx id : Int) (l : List Auc) (A : Option Addr) (c : Nat) (w : World) (h : BidsIn w b nx l A c) (hl : l.length ≤ 1000000) (hf : fidx (fun x : Auc => x.id == id) l = k) (hx : l[k]? = some x) :
    Calls Try.prog 14 #[.pointer (some ⟨b, 0, none⟩), .int .i64 id] w fun e w' => e = .returned (.tuple #[(.agg #[.int .i64 x.id, .int .i64 x.deed, .int .i64 x.seller, .int .i64 x.least, .int .i64 x.best, .int .i64 x.bidder, .int .i64 x.ends]), .int .i64 0]) ∧ Grew w w' := by
  have Hn0 := Lib.hid (Blk.new w 32 #[.int .i64 0, .int .i64 0, .int .i64 0, .int .i64 0, .int .i64 0, .int .i64 0, .int .i64 0])
  have h1 := h.grew ((Chg.refl NoF w).alloc (.cells #[.int .i64 0, .int .i64 0, .int .i64 0, .int .i64 0, .int .i64 0, .int .i64 0, .int .i64 0] 32))
  have Hat := Lib.hid (at_any b nx id l A c _ h1 hl)
  rw [hf] at Hat
  obtain ⟨g, off, rfl, hg, -⟩ := h1.sl.atAuc hx
  have Hx := Lib.hid hx
  have Hh := Lib.hid h1
  have hk : k < l.length := (List.getElem?_eq_some_iff.1 hx).1
  clear hf h h1 hx
  go_enter Try.func14, Try.ntmps14
  go_wp2_with (go_at_call 27; refine Hat.out.mono ?_; rintro e w1 ⟨rfl, hg1⟩; obtain ⟨c1, f1, s1⟩ := (Hn0.out.grew hg1).facts; obtain ⟨c2, f2, s2⟩ := (Hh.out.grew hg1).blk.facts; obtain ⟨g', off', hA', -, d0, d1, d2, d3, d4, d5, d6⟩ := (Hh.out.grew hg1).sl.atAuc Hx.out; simp only [Option.some.injEq, Addr.mk.injEq, and_true] at hA'; obtain ⟨rfl, rfl⟩ := hA')
  refine bodyPost_ret (v := .tuple #[(.agg #[.int .i64 x.id, .int .i64 x.deed, .int .i64 x.seller, .int .i64 x.least, .int .i64 x.best, .int .i64 x.bidder, .int .i64 x.ends]), .int .i64 0]) (by simp [results, Try.results14, go_sem, c1, s1]) rfl ⟨rfl, ?_⟩
  repeat (refine Chg.setCell ?_ (by intro h; exfalso; simp at h; try omega) _)
  exact Grew.trans ((Chg.refl _ _).alloc _) hg1

set_option maxHeartbeats 400000 in
theorem of_none (b : Nat) (nx id : Int) (l : List Auc) (A : Option Addr) (c : Nat) (w : World) (h : BidsIn w b nx l A c) (hl : l.length ≤ 1000000) (hf : fidx (fun x : Auc => x.deed == id) l = -1) :
    Calls Try.prog 15 #[.pointer (some ⟨b, 0, none⟩), .int .i64 id] w fun e w' => e = .returned (.tuple #[(.agg #[.int .i64 0, .int .i64 0, .int .i64 0, .int .i64 0, .int .i64 0, .int .i64 0, .int .i64 0]), .bool false]) ∧ Grew w w' := by
  have Hn0 := Lib.hid (Blk.new (w.alloc (.cells #[.int .i64 id] 3)) 32 #[.int .i64 0, .int .i64 0, .int .i64 0, .int .i64 0, .int .i64 0, .int .i64 0, .int .i64 0])
  have hg0 := ((Chg.refl NoF w).alloc (.cells #[.int .i64 id] 3)).alloc (.cells #[.int .i64 0, .int .i64 0, .int .i64 0, .int .i64 0, .int .i64 0, .int .i64 0, .int .i64 0] 32)
  have h1 := h.grew hg0
  have c0 := h1.blk.cell 0
  have hlt := h.blk.lt
  have Hp := Lib.hid (deedPred w.heap.size id _ ((Blk.new w 3 #[.int .i64 id]).alloc (.cells #[.int .i64 0, .int .i64 0, .int .i64 0, .int .i64 0, .int .i64 0, .int .i64 0, .int .i64 0] 32)))
  have Hs := Lib.hid h1.sl
  have Hg0 := Lib.hid hg0
  have Hf := Lib.hid hf
  simp only [List.getElem?_toArray, List.getElem?_cons_zero, World.size_alloc] at c0 Hn0
  clear h h1 hg0 hf
  go_enter Try.func15, Try.ntmps15
  go_wp2_with (go_at_call 33; refine (indexFunc_any l (fun x => x.deed == id) _ _ _ _ _ Hs.out Hp.out hl).mono ?_; rintro e w1 ⟨rfl, hg1⟩; rw [Hf.out]; obtain ⟨c1, f1, s1⟩ := (Hn0.out.grew hg1).facts)
  refine bodyPost_ret (v := .tuple #[(.agg #[.int .i64 0, .int .i64 0, .int .i64 0, .int .i64 0, .int .i64 0, .int .i64 0, .int .i64 0]), .bool false]) (by simp [results, Try.results15, go_sem, c1, s1]) rfl ⟨rfl, ?_⟩
  repeat (refine Chg.setCell ?_ (by intro h; exfalso; simp at h; try omega) _)
  exact Grew.trans Hg0.out hg1

set_option maxHeartbeats 400000 in
theorem of_some (b k : Nat) (x : Auc) (nx id : Int) (l : List Auc) (A : Option Addr) (c : Nat) (w : World) (h : BidsIn w b nx l A c) (hl : l.length ≤ 1000000) (hf : fidx (fun x : Auc => x.deed == id) l = k) (hx : l[k]? = some x) :
    Calls Try.prog 15 #[.pointer (some ⟨b, 0, none⟩), .int .i64 id] w fun e w' => e = .returned (.tuple #[(.agg #[.int .i64 x.id, .int .i64 x.deed, .int .i64 x.seller, .int .i64 x.least, .int .i64 x.best, .int .i64 x.bidder, .int .i64 x.ends]), .bool true]) ∧ Grew w w' := by
  have Hn0 := Lib.hid (Blk.new (w.alloc (.cells #[.int .i64 id] 3)) 32 #[.int .i64 0, .int .i64 0, .int .i64 0, .int .i64 0, .int .i64 0, .int .i64 0, .int .i64 0])
  have hg0 := ((Chg.refl NoF w).alloc (.cells #[.int .i64 id] 3)).alloc (.cells #[.int .i64 0, .int .i64 0, .int .i64 0, .int .i64 0, .int .i64 0, .int .i64 0, .int .i64 0] 32)
  have h1 := h.grew hg0
  have c0 := h1.blk.cell 0
  have hlt := h.blk.lt
  obtain ⟨g, off, rfl, hg, -⟩ := h1.sl.atAuc hx
  have Hp := Lib.hid (deedPred w.heap.size id _ ((Blk.new w 3 #[.int .i64 id]).alloc (.cells #[.int .i64 0, .int .i64 0, .int .i64 0, .int .i64 0, .int .i64 0, .int .i64 0, .int .i64 0] 32)))
  have Hs := Lib.hid h1.sl
  have Hx := Lib.hid hx
  have Hh := Lib.hid h1
  have Hg0 := Lib.hid hg0
  have Hf := Lib.hid hf
  have hk : k < l.length := (List.getElem?_eq_some_iff.1 hx).1
  simp only [List.getElem?_toArray, List.getElem?_cons_zero, World.size_alloc] at c0 Hn0
  clear h h1 hg0 hf hx
  go_enter Try.func15, Try.ntmps15
  go_wp2_with (go_at_call 33; refine (indexFunc_any l (fun x => x.deed == id) _ _ _ _ _ Hs.out Hp.out hl).mono ?_; rintro e w1 ⟨rfl, hg1⟩; rw [Hf.out]; obtain ⟨c1, f1, s1⟩ := (Hn0.out.grew hg1).facts; obtain ⟨c2, f2, s2⟩ := (Hh.out.grew hg1).blk.facts; obtain ⟨g', off', hA', -, d0, d1, d2, d3, d4, d5, d6⟩ := (Hh.out.grew hg1).sl.atAuc Hx.out; simp only [Option.some.injEq, Addr.mk.injEq, and_true] at hA'; obtain ⟨rfl, rfl⟩ := hA')
  refine bodyPost_ret (v := .tuple #[(.agg #[.int .i64 x.id, .int .i64 x.deed, .int .i64 x.seller, .int .i64 x.least, .int .i64 x.best, .int .i64 x.bidder, .int .i64 x.ends]), .bool true]) (by simp [results, Try.results15, go_sem, c1, s1]) rfl ⟨rfl, ?_⟩
  repeat (refine Chg.setCell ?_ (by intro h; exfalso; simp at h; try omega) _)
  exact Grew.trans Hg0.out hg1

theorem new_any (w : World) :
    Calls Try.prog 7 #[] w fun e w' => e = .returned (.pointer (some ⟨w.heap.size, 0, none⟩)) ∧ w.alloc (.cells #[.slice none 0 0, .int .i64 1] 58) = w' := by
  go_enter Try.func7, Try.ntmps7
  go_wp2
  go_ret
  exact ⟨rfl, rfl⟩

theorem len_any (b : Nat) (nx : Int) (l : List Auc) (A : Option Addr) (c : Nat) (w : World) (h : BidsIn w b nx l A c) :
    Calls Try.prog 24 #[.pointer (some ⟨b, 0, none⟩)] w fun e w' => e = .returned (.int .i64 l.length) ∧ w = w' := by
  obtain ⟨c2, f2, s2⟩ := h.blk.facts
  clear h
  go_enter Try.func24, Try.ntmps24
  go_wp2
  go_ret
  exact ⟨rfl, rfl⟩

theorem next_any (b : Nat) (nx : Int) (l : List Auc) (A : Option Addr) (c : Nat) (w : World) (h : BidsIn w b nx l A c) :
    Calls Try.prog 32 #[.pointer (some ⟨b, 0, none⟩)] w fun e w' => e = .returned (.int .i64 nx) ∧ w = w' := by
  obtain ⟨c2, f2, s2⟩ := h.blk.facts
  clear h
  go_enter Try.func32, Try.ntmps32
  go_wp2
  go_ret
  exact ⟨rfl, rfl⟩

def held (l : List Auc) : Int := (l.map Auc.best).sum

set_option maxHeartbeats 400000 in
theorem held_any (b : Nat) (nx : Int) (l : List Auc) (A : Option Addr) (c : Nat) (w : World) (h : BidsIn w b nx l A c) (hl : l.length ≤ 1000000) (hb : ∀ x ∈ l, 0 ≤ x.best ∧ x.best ≤ 1099511627776) :
    Calls Try.prog 11 #[.pointer (some ⟨b, 0, none⟩)] w fun e w' => e = .returned (.int .i64 (held l)) ∧ Grew w w' := by
  obtain ⟨c2, f2, s2⟩ := h.blk.facts
  have Hs := Lib.hid h.sl
  have Hb := Lib.hid hb
  clear h hb
  go_enter Try.func11, Try.ntmps11
  go_wp2
  go_loopw [3, 11] (fun v i wr => ∃ k : Nat, k ≤ l.length ∧ i = .int .i64 k ∧ v = .int .i64 (held (l.take k)) ∧ 0 ≤ held (l.take k) ∧ held (l.take k) ≤ k * 1099511627776 ∧ Grew w wr) (fun _ i _ => l.length - (intOf i).toNat)
  case atStart => exact ⟨0, Nat.zero_le _, rfl, rfl, by simp [held], by simp [held], Chg.refl _ _⟩
  case round =>
    obtain ⟨k, hk, rfl, rfl, h0, h1, hg⟩ := hrel
    by_cases hlt : k < l.length
    · obtain ⟨x, hx⟩ : ∃ x, l[k]? = some x := ⟨_, List.getElem?_eq_getElem hlt⟩
      obtain ⟨g, off, rfl, hb, d0, d1, d2, d3, d4, d5, d6⟩ := (Hs.out.grew hg).atAuc hx
      have hbx := Hb.out x (List.mem_of_getElem? hx)
      have hb1 := hbx.1
      have hb2 := hbx.2
      have Hst := Lib.hid (show held (l.take (k + 1)) = held (l.take k) + x.best by simp [held, List.take_add_one, hx])
      have Hx := Lib.hid hx
      clear hx hbx
      generalize held (l.take k) = s at *
      go_wp2
      go_roundw
      case rel => exact ⟨k + 1, by omega, by go_num, by rw [Hst.out], by rw [Hst.out]; omega, by rw [Hst.out]; omega, by
        repeat (refine Chg.setCell ?_ (by intro h; exfalso; have := hg.size; simp at h; try omega) _)
        exact hg.alloc _⟩
      case measure => simp [intOf]; omega
    · obtain rfl : k = l.length := by omega
      go_wp2
      go_ret
      exact ⟨by simp, hg⟩

end Go.Proofs.Ytbmogbbenfpmiaa
