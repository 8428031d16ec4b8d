/- The deeds: what a Deeds is in memory; by number, by plot. -/
import Derived.Test.YtkcakkblammpiaaDeeB
namespace Go.Proofs.Ytkcakkblammpiaa
open Go.RowKit

/-- Block b is a Deeds with these deeds, in the slice A, c, and this next number. -/
structure DeedsIn (w : World) (b : Nat) (nx : Int) (l : List Dee) (A : Option Addr) (c : Nat) : Prop where
  blk : Blk w b 58 #[.slice A l.length c, .int .i64 nx]
  own : w.ownsRow 0 34 3 (.slice A l.length c) l.length (l.flatMap Dee.vals)

section
variable {w w' : World} {b c : Nat} {nx : Int} {l : List Dee} {A : Option Addr}
theorem DeedsIn.chg {G : Nat → Prop} (h : DeedsIn w b nx l A c) (hc : Chg G w w') (hb : ¬ G b) (hA : ∀ a, A = some a → ¬ G a.block) : DeedsIn w' b nx l A c := by
  refine ⟨h.blk.chg hc hb, own_chg h.own hc fun g hg => ?_⟩
  cases A with
  | none => simp [Value.ownBlock] at hg
  | some a => simp [Value.ownBlock] at hg; exact hg ▸ hA a rfl
theorem DeedsIn.grew (h : DeedsIn w b nx l A c) (hc : Grew w w') : DeedsIn w' b nx l A c := h.chg hc id fun _ _ => id
theorem DeedsIn.kept {k : Nat} (h : DeedsIn w b nx l A c) (hk : Kept k w w') : DeedsIn w' b nx l A c := ⟨h.blk.kept hk, own_kept h.own hk⟩
theorem DeedsIn.sl (h : DeedsIn w b nx l A c) : Sl w 3 A l.length (l.flatMap Dee.vals) := Sl.of_own h.own
end

/-- What is told of the first of which something is so. -/
def fnd (p : Dee → Bool) (l : List Dee) : Dee := (l.find? p).getD Dee.zero

theorem find_of {p : Dee → Bool} {l : List Dee} {k : Nat} {x : Dee} (hx : l[k]? = some x) (hp : p x = true) (hno : ∀ j y, j < k → l[j]? = some y → p y = false) : fnd p l = x := by
  unfold fnd
  have : l.find? p = some x := by
    rw [List.find?_eq_some_iff_getElem]
    obtain ⟨hk, rfl⟩ := List.getElem?_eq_some_iff.1 hx
    refine ⟨hp, k, hk, rfl, fun j hj => ?_⟩
    have := hno j l[j] hj (List.getElem?_eq_getElem (by omega))
    simp [this]
  rw [this]; rfl

theorem first_any (bd bi b : Nat) (nx : Int) (l : List Dee) (A : Option Addr) (c : Nat) (f : FuncId) (lb : Array Value) (p : Dee → Bool) (pb : Nat) (pn : Int) (w : World) (h : WhereIn w bd bi b nx l A c f lb p pb pn) (hl : l.length ≤ 1000000) (y : Dee) (i : Int) (hy : fnd p l = y) (hi : fidx p l = i) :
    Calls Try.prog 32 #[.func (.func 40) #[] #[.pointer (some ⟨bd, 0, none⟩), .pointer (some ⟨bi, 0, none⟩)]] w fun e w' => e = .returned (.tuple #[.int .i64 i, (.agg #[.int .i64 y.id, .int .i64 y.plot, .int .i64 y.holder])]) ∧ Grew w w' := by
  subst hy hi
  rcases fidx_cases p l with ⟨hf, hno⟩ | ⟨k, x, hf, hx, hp, -, hno⟩
  · have : fnd p l = Dee.zero := by
      unfold fnd
      have : l.find? p = none := List.find?_eq_none.2 (fun x hx => by simp [hno x hx])
      rw [this]; rfl
    rw [this, hf]
    exact first_none bd bi b nx l A c f lb p pb pn w h hl hno
  · rw [find_of hx hp hno, hf]
    exact first_some bd bi b k x nx l A c f lb p pb pn w h hl hx hp hno

theorem where_any (b : Nat) (f : FuncId) (lb : Array Value) (w : World) (W : World) (hW : (w.alloc (.cells #[.pointer (some ⟨b, 0, none⟩)] 23)).alloc (.cells #[.func (.func f) #[] lb] 72) = W) :
    Calls Try.prog 33 #[.pointer (some ⟨b, 0, none⟩), .func (.func f) #[] lb] w fun e w' => e = .returned (.func (.func 40) #[] #[.pointer (some ⟨w.heap.size, 0, none⟩), .pointer (some ⟨w.heap.size + 1, 0, none⟩)]) ∧ W = w' := by
  subst hW
  go_enter Try.func33, Try.ntmps33
  go_wp2
  go_ret
  exact ⟨rfl, rfl⟩

theorem where_in {w W : World} {b c : Nat} {nx : Int} {l : List Dee} {A : Option Addr} {f : FuncId} {lb : Array Value} {p : Dee → Bool} {pb : Nat} {pn : Int} (h : DeedsIn w b nx l A c) (hp : DeePred f lb p pb pn w)
    (hW : (w.alloc (.cells #[.pointer (some ⟨b, 0, none⟩)] 23)).alloc (.cells #[.func (.func f) #[] lb] 72) = W) : WhereIn W w.heap.size (w.heap.size + 1) b nx l A c f lb p pb pn ∧ Grew w W := by
  subst hW
  have hg : Grew w ((w.alloc (.cells #[.pointer (some ⟨b, 0, none⟩)] 23)).alloc (.cells #[.func (.func f) #[] lb] 72)) := ((Chg.refl _ _).alloc _).alloc _
  refine ⟨⟨(Blk.new _ _ _).alloc _, ?_, (h.grew hg).blk, (h.grew hg).sl, hp.to (hp.blk.grew hg)⟩, hg⟩
  have := Blk.new (w.alloc (.cells #[.pointer (some ⟨b, 0, none⟩)] 23)) 72 #[.func (.func f) #[] lb]
  simpa using this

set_option maxHeartbeats 400000 in
theorem at_any (b : Nat) (nx id : Int) (l : List Dee) (A : Option Addr) (c : Nat) (w : World) (h : DeedsIn w b nx l A c) (hl : l.length ≤ 1000000) (y : Dee) (i : Int) (hy : fnd (fun x : Dee => x.id == id) l = y) (hi : fidx (fun x : Dee => x.id == id) l = i) :
    Calls Try.prog 31 #[.pointer (some ⟨b, 0, none⟩), .int .i64 id] w fun e w' => e = .returned (.tuple #[.int .i64 i, (.agg #[.int .i64 y.id, .int .i64 y.plot, .int .i64 y.holder])]) ∧ Grew w w' := by
  have H := Lib.hid h
  have Hy := Lib.hid hy
  have Hi := Lib.hid hi
  clear h hy hi
  go_enter Try.func31, Try.ntmps31
  go_wp2_with fail
  obtain ⟨W0, hW0⟩ : ∃ W0, (w.alloc (.cells #[.int .i64 id] 3)).alloc (.cells #[.int .i64 0, .int .i64 0, .int .i64 0] 34) = W0 := ⟨_, rfl⟩
  have HG0 := Lib.hid (show Grew w W0 from hW0 ▸ ((Chg.refl _ _).alloc _).alloc _)
  have HP := Lib.hid (idPred w.heap.size id W0 (hW0 ▸ (Blk.new _ _ _).alloc _))
  have HB := Lib.hid (show Blk W0 (w.heap.size + 1) 34 #[.int .i64 0, .int .i64 0, .int .i64 0] from hW0 ▸ (by have := Blk.new (w.alloc (.cells #[.int .i64 id] 3)) 34 #[.int .i64 0, .int .i64 0, .int .i64 0]; simpa using this))
  rw [hW0]
  clear hW0
  obtain ⟨W1, hW1⟩ : ∃ W1, (W0.alloc (.cells #[.pointer (some ⟨b, 0, none⟩)] 23)).alloc (.cells #[.func (.func 39) #[] #[.pointer (some ⟨w.heap.size, 0, none⟩)]] 72) = W1 := ⟨_, rfl⟩
  have H1 := Lib.hid (where_in (H.out.grew HG0.out) HP.out hW1)
  have HW1 := Lib.hid hW1
  clear hW1
  go_wp2_with (first
    | (go_at_call 33; refine (where_any b _ _ _ W1 HW1.out).mono ?_; rintro e w1 ⟨rfl, rfl⟩)
    | (go_at_call 32; refine (first_any _ _ b nx l A c _ _ _ _ _ _ H1.out.1 hl y i Hy.out Hi.out).mono ?_; rintro e w2 ⟨rfl, hg2⟩; have HG2 := Lib.hid (Grew.trans H1.out.2 hg2); clear hg2; obtain ⟨c1, f1, s1⟩ := (HB.out.grew HG2.out).facts))
  refine bodyPost_ret (v := .tuple #[.int .i64 i, (.agg #[.int .i64 y.id, .int .i64 y.plot, .int .i64 y.holder])]) (by simp [results, Try.results31, go_sem, c1, s1]) rfl ⟨rfl, ?_⟩
  (repeat (first | (with_reducible exact (Grew.trans HG0.out HG2.out)) | (with_reducible refine Chg.alloc ?_ _) | (with_reducible refine Chg.drew ?_) | (with_reducible refine Chg.drewN ?_ _) | ((with_reducible refine Chg.setCell ?_ ?hp _); (case hp => (intro h; exfalso; simp at h; try omega)))))

set_option maxHeartbeats 400000 in
theorem of_any (b : Nat) (nx id : Int) (l : List Dee) (A : Option Addr) (c : Nat) (w : World) (h : DeedsIn w b nx l A c) (hl : l.length ≤ 1000000) (y : Dee) (i : Int) (hy : fnd (fun x : Dee => x.plot == id) l = y) (hi : fidx (fun x : Dee => x.plot == id) l = i) :
    Calls Try.prog 12 #[.pointer (some ⟨b, 0, none⟩), .int .i64 id] w fun e w' => e = .returned (.tuple #[(.agg #[.int .i64 y.id, .int .i64 y.plot, .int .i64 y.holder]), .bool (decide (0 ≤ i))]) ∧ Grew w w' := by
  have H := Lib.hid h
  have Hy := Lib.hid hy
  have Hi := Lib.hid hi
  clear h hy hi
  go_enter Try.func12, Try.ntmps12
  go_wp2_with fail
  obtain ⟨W0, hW0⟩ : ∃ W0, (w.alloc (.cells #[.int .i64 id] 3)).alloc (.cells #[.int .i64 0, .int .i64 0, .int .i64 0] 34) = W0 := ⟨_, rfl⟩
  have HG0 := Lib.hid (show Grew w W0 from hW0 ▸ ((Chg.refl _ _).alloc _).alloc _)
  have HP := Lib.hid (plotPred w.heap.size id W0 (hW0 ▸ (Blk.new _ _ _).alloc _))
  have HB := Lib.hid (show Blk W0 (w.heap.size + 1) 34 #[.int .i64 0, .int .i64 0, .int .i64 0] from hW0 ▸ (by have := Blk.new (w.alloc (.cells #[.int .i64 id] 3)) 34 #[.int .i64 0, .int .i64 0, .int .i64 0]; simpa using this))
  rw [hW0]
  clear hW0
  obtain ⟨W1, hW1⟩ : ∃ W1, (W0.alloc (.cells #[.pointer (some ⟨b, 0, none⟩)] 23)).alloc (.cells #[.func (.func 34) #[] #[.pointer (some ⟨w.heap.size, 0, none⟩)]] 72) = W1 := ⟨_, rfl⟩
  have H1 := Lib.hid (where_in (H.out.grew HG0.out) HP.out hW1)
  have HW1 := Lib.hid hW1
  clear hW1
  go_wp2_with (first
    | (go_at_call 33; refine (where_any b _ _ _ W1 HW1.out).mono ?_; rintro e w1 ⟨rfl, rfl⟩)
    | (go_at_call 32; refine (first_any _ _ b nx l A c _ _ _ _ _ _ H1.out.1 hl y i Hy.out Hi.out).mono ?_; rintro e w2 ⟨rfl, hg2⟩; have HG2 := Lib.hid (Grew.trans H1.out.2 hg2); clear hg2; obtain ⟨c1, f1, s1⟩ := (HB.out.grew HG2.out).facts))
  refine bodyPost_ret (v := .tuple #[(.agg #[.int .i64 y.id, .int .i64 y.plot, .int .i64 y.holder]), .bool (decide (0 ≤ i))]) (by simp [results, Try.results12, go_sem, c1, s1]) rfl ⟨rfl, ?_⟩
  (repeat (first | (with_reducible exact (Grew.trans HG0.out HG2.out)) | (with_reducible refine Chg.alloc ?_ _) | (with_reducible refine Chg.drew ?_) | (with_reducible refine Chg.drewN ?_ _) | ((with_reducible refine Chg.setCell ?_ ?hp _); (case hp => (intro h; exfalso; simp at h; try omega)))))

end Go.Proofs.Ytkcakkblammpiaa
