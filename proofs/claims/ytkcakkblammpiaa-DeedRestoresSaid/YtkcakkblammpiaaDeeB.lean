/- The deeds: the first of some, by number, by plot. -/
import Derived.Test.YtkcakkblammpiaaDeeA
namespace Go.Proofs.Ytkcakkblammpiaa
open Go.RowKit
attribute [local go_sem] Oper.semAt_some

section
variable {W W' : World} {bd bi b c pb : Nat} {nx pn : Int} {l : List Dee} {A : Option Addr} {f : FuncId} {lb : Array Value} {p : Dee → Bool}
theorem WhereIn.by {F : Nat → Prop} (h : WhereIn W bd bi b nx l A c f lb p pb pn) (hc : Chg F W W') (h1 : ¬ F bd) (h2 : ¬ F bi) (h3 : ¬ F b) (h4 : ∀ a, A = some a → ¬ F a.block) (h5 : ¬ F pb) : WhereIn W' bd bi b nx l A c f lb p pb pn :=
  ⟨h.bd.chg hc h1, h.bi.chg hc h2, h.b.chg hc h3, h.sl.chg hc h4, h.pr.to (h.pr.blk.chg hc h5)⟩
theorem WhereIn.chg (h : WhereIn W bd bi b nx l A c f lb p pb pn) (hc : Grew W W') : WhereIn W' bd bi b nx l A c f lb p pb pn := h.by hc id id id (fun _ _ => id) id
theorem WhereIn.kept {k : Nat} (h : WhereIn W bd bi b nx l A c f lb p pb pn) (hk : Kept k W W') : WhereIn W' bd bi b nx l A c f lb p pb pn :=
  ⟨h.bd.kept hk, h.bi.kept hk, h.b.kept hk, h.sl.kept hk, h.pr.to (h.pr.blk.kept hk)⟩
end

theorem first_round {w W0 W2 X : World} {L D : Nat} {r : Loop} {J : World → Prop} {x : Dee} {k : Nat} {a : Act} (hD : w.heap.size + 2 ≤ D) (hL : w.heap.size + 2 ≤ L) (hDL : D ≠ L) (hg0 : Grew w W0) (hg : Grew w W2) (hR : Rec W2 L (Loop.at_ r .busy none)) (hDf : Dfr W2 D)
    (hC : Chg (fun j => j = w.heap.size ∨ j = w.heap.size + 1) W2 X) (h2 : Blk X w.heap.size 3 #[.int .i64 k]) (h3 : Blk X (w.heap.size + 1) 34 #[.int .i64 x.id, .int .i64 x.plot, .int .i64 x.holder]) :
    roundEnd L r (Rounded J fun W => Chg (fun j => w.heap.size ≤ j) w W ∧ Blk W w.heap.size 3 #[.int .i64 k] ∧ Blk W (w.heap.size + 1) 34 #[.int .i64 x.id, .int .i64 x.plot, .int .i64 x.holder] ∧ Dfr W D ∧ Rec W L (Loop.at_ r .done (some .ret))) .ret a X := by
  have hz := hg0.size
  have hz2 := h3.lt
  have hG : Grew w X := Chg.mono (Chg.trans (F := fun j => w.heap.size ≤ j) hg.chg hC fun i hi e => by omega) fun i hi e => absurd e (by omega)
  have hLX : ¬ (L = w.heap.size ∨ L = w.heap.size + 1) := by omega
  refine ⟨hR.chg hC hLX, fun w' hk hR' => .inr ⟨rfl, Chg.kept hG.chg hk (by omega), h2.kept hk, h3.kept hk, Dfr.kept (hDf.chg hC ?_) hk hDL, hR'⟩⟩
  show ¬ (D = w.heap.size ∨ D = w.heap.size + 1)
  omega

set_option maxHeartbeats 800000 in
theorem first_some (bd bi b k0 : Nat) (x0 : Dee) (nx : Int) (l : List Dee) (A : Option Addr) (c : Nat) (f : FuncId) (lb : Array Value) (p : Dee → Bool) (pb : Nat) (pn : Int) (w : World) (h : WhereIn w bd bi b nx l A c f lb p pb pn) (hl : l.length ≤ 1000000)
    (hx : l[k0]? = some x0) (hp : p x0 = true) (hno : ∀ j y, j < k0 → l[j]? = some y → p y = false) :
    Calls Try.prog 32 #[.func (.func 40) #[] #[.pointer (some ⟨bd, 0, none⟩), .pointer (some ⟨bi, 0, none⟩)]] w fun e w' => e = .returned (.tuple #[.int .i64 k0, (.agg #[.int .i64 x0.id, .int .i64 x0.plot, .int .i64 x0.holder])]) ∧ Grew w w' := by
  have H := Lib.hid h
  have Hx := Lib.hid hx
  have Hp := Lib.hid hp
  have Hno := Lib.hid hno
  clear h hx hp hno
  (refine calls_of_marks Try.func32 rfl ?_; simp only [Try.ntmps32, List.size_toArray, List.length_cons, List.length_nil, Nat.reduceAdd, Nat.reduceSub, Array.replicate_succ, Array.replicate_zero, List.push_toArray, List.append_toArray, List.nil_append, List.cons_append])
  go_wp2
  obtain ⟨W0, hW0⟩ : ∃ W0, (w.alloc (.cells #[.int .i64 0] 3)).alloc (.cells #[.int .i64 0, .int .i64 0, .int .i64 0] 34) = W0 := ⟨_, rfl⟩
  have HG0 := Lib.hid (show Grew w W0 from hW0 ▸ ((Chg.refl _ _).alloc _).alloc _)
  have hz0 : W0.heap.size = w.heap.size + 2 := by rw [← hW0]; simp
  have HB2 := Lib.hid (show Blk W0 w.heap.size 3 #[.int .i64 0] from hW0 ▸ (Blk.new _ _ _).alloc _)
  have HB3 := Lib.hid (show Blk W0 (w.heap.size + 1) 34 #[.int .i64 0, .int .i64 0, .int .i64 0] from hW0 ▸ (by have := Blk.new (w.alloc (.cells #[.int .i64 0] 3)) 34 #[.int .i64 0, .int .i64 0, .int .i64 0]; simpa using this))
  rw [hW0]
  clear hW0
  refine wp_range (gf := 40) (lb := #[.pointer (some ⟨bd, 0, none⟩), .pointer (some ⟨bi, 0, none⟩)]) rfl (enters_of Try.func40 (by kernel_rfl) rfl) ?_
  intro r W1 D L hr hg1 hDl hLl hD hR
  have HR1 := Lib.hid hr
  have HG1 := Lib.hid hg1
  have HD := Lib.hid hD
  have HR := Lib.hid hR
  have hne := hD.lt
  have hDL := Ne.symm (hR.ne_dfr hD)
  clear hr hg1 hD hR
  refine (where_iter bd bi b L nx l A c f lb p pb pn (fun k W => k ≤ k0 ∧ Grew W1 W)
    (fun W => Chg (fun j => w.heap.size ≤ j) w W ∧ Blk W w.heap.size 3 #[.int .i64 k0] ∧ Blk W (w.heap.size + 1) 34 #[.int .i64 x0.id, .int .i64 x0.plot, .int .i64 x0.holder] ∧ Dfr W D ∧ Rec W L (Loop.at_ r .done (some .ret))) W1
    (fun k W hJ => (H.out.chg (Grew.trans HG0.out (Grew.trans HG1.out hJ.2)))) (fun k W W' hJ hg => ⟨hJ.1, Grew.trans hJ.2 hg⟩) (fun k x W hJ hx hp => ⟨?skip, hJ.2⟩) (fun k x W hJ hx hp => ?yld) ⟨Nat.zero_le _, Chg.refl _ _⟩ hl).mono ?post
  case skip =>
    rcases Nat.lt_or_ge k k0 with h | h
    · omega
    · obtain rfl : k = k0 := by have := hJ.1; omega
      have := Hp.out
      rw [Hx.out] at hx
      cases hx
      rw [hp] at this
      cases this
  case yld =>
    obtain rfl : k = k0 := by
      rcases Nat.lt_or_ge k k0 with h | h
      · have := Hno.out k x h hx
        rw [hp] at this
        cases this
      · have := hJ.1; omega
    obtain rfl : x = x0 := by have := Hx.out; rw [hx] at this; cases this; rfl
    have HJ := Lib.hid hJ
    clear hJ hx hp
    obtain ⟨hr1, hr2, hr3, hr4⟩ := HR1.out
    have HRW := Lib.hid (HR.out.grew HJ.out.2)
    refine yield_wide HRW.out (by rw [hr2]; rfl) ?_
    rw [hr1, hr2, hr3, hr4]
    clear hr1 hr2 hr3 hr4
    intro K hK
    have HK := Lib.hid hK
    clear hK
    gi_wp2
    refine HK.out _ _ (HRW.out.alloc _) fun W2 Q hk hR2 hQ => ?_
    have HQ := Lib.hid hQ
    have HW2 := Lib.hid ((((HB2.out.grew HG1.out).grew HJ.out.2).alloc _).kept hk)
    have HW3 := Lib.hid ((((HB3.out.grew HG1.out).grew HJ.out.2).alloc _).kept hk)
    have HW4 := Lib.hid ((Blk.new W 34 #[.int .i64 x.id, .int .i64 x.plot, .int .i64 x.holder]).kept hk)
    have HW5 := Lib.hid hR2
    have HW6 := Lib.hid (((HD.out.grew HJ.out.2).alloc _).kept hk hDL)
    have HW7 := Lib.hid (Chg.kept (Grew.trans HG0.out (Grew.trans HG1.out (Chg.alloc HJ.out.2 _))) hk (by have := HG0.out.size; omega))
    have hws : w.heap.size + 1 < W.heap.size := by have := HB3.out.lt; have := HG1.out.size; have := HJ.out.2.size; omega
    clear hk hR2 hQ
    obtain ⟨c2, f2, s2⟩ := HW2.out.facts
    obtain ⟨c3, f3, s3⟩ := HW3.out.facts
    obtain ⟨c4, f4, s4⟩ := HW4.out.facts
    gi_wp2
    gi_region
    all_goals
      gi_wp2
      refine HQ.out _ _ _ (first_round (by omega) (by omega) hDL HG0.out HW7.out HW5.out HW6.out ?_ ?_ ?_)
      · (repeat (first | (with_reducible exact (Chg.refl _ _)) | (with_reducible refine Chg.alloc ?_ _) | (with_reducible refine Chg.drew ?_) | (with_reducible refine Chg.drewN ?_ _) | ((with_reducible refine Chg.setCell ?_ ?hp _); (case hp => (intro _; simp)))))
      · (repeat (first | (with_reducible exact HW2.out) | (with_reducible apply Blk.drew) | (with_reducible apply Blk.drewN) | (with_reducible apply Blk.alloc) | (with_reducible apply Blk.putTo) | (with_reducible apply Blk.far))); (all_goals first | rfl | (simp; done) | (simp; omega))
      · (repeat (first | (with_reducible exact HW3.out) | (with_reducible apply Blk.drew) | (with_reducible apply Blk.drewN) | (with_reducible apply Blk.alloc) | (with_reducible apply Blk.putTo) | (with_reducible apply Blk.far))); (all_goals first | rfl | (simp; done) | (simp; omega))
  case post =>
    rintro e w3 ⟨hv, hJ | hJ⟩
    · exact absurd hJ.1 (by have := (List.getElem?_eq_some_iff.1 Hx.out).1; omega)
    · refine ⟨hv, .inr ⟨.ret, hJ.2.2.2.2, fun w4 hk4 => ?_⟩⟩
      have HJ := Lib.hid hJ
      clear hJ
      go_wp2
      refine postM_ret1 (v := .tuple #[.int .i64 k0, (.agg #[.int .i64 x0.id, .int .i64 x0.plot, .int .i64 x0.holder])]) (HJ.out.2.2.2.1.kept hk4 hDL) rfl fun w5 hk5 => ?_
      obtain ⟨c2, f2, s2⟩ := ((HJ.out.2.1.kept hk4).kept hk5).facts
      obtain ⟨c3, f3, s3⟩ := ((HJ.out.2.2.1.kept hk4).kept hk5).facts
      refine ⟨by simp [results, Try.results32, go_sem, c2, s2, c3, s3], rfl, ?_⟩
      have := Chg.kept (Chg.kept HJ.out.1 hk4 (by have := HG0.out.size; omega)) hk5 (by have := HG0.out.size; omega)
      exact this.mono fun i hi h => absurd h (by omega)

set_option maxHeartbeats 800000 in
theorem first_none (bd bi b : Nat) (nx : Int) (l : List Dee) (A : Option Addr) (c : Nat) (f : FuncId) (lb : Array Value) (p : Dee → Bool) (pb : Nat) (pn : Int) (w : World) (h : WhereIn w bd bi b nx l A c f lb p pb pn) (hl : l.length ≤ 1000000)
    (hno : ∀ x ∈ l, p x = false) :
    Calls Try.prog 32 #[.func (.func 40) #[] #[.pointer (some ⟨bd, 0, none⟩), .pointer (some ⟨bi, 0, none⟩)]] w fun e w' => e = .returned (.tuple #[.int .i64 (-1), (.agg #[.int .i64 0, .int .i64 0, .int .i64 0])]) ∧ Grew w w' := by
  have H := Lib.hid h
  have Hno := Lib.hid hno
  clear h hno
  (refine calls_of_marks Try.func32 rfl ?_; simp only [Try.ntmps32, List.size_toArray, List.length_cons, List.length_nil, Nat.reduceAdd, Nat.reduceSub, Array.replicate_succ, Array.replicate_zero, List.push_toArray, List.append_toArray, List.nil_append, List.cons_append])
  go_wp2
  obtain ⟨W0, hW0⟩ : ∃ W0, (w.alloc (.cells #[.int .i64 0] 3)).alloc (.cells #[.int .i64 0, .int .i64 0, .int .i64 0] 34) = W0 := ⟨_, rfl⟩
  have HG0 := Lib.hid (show Grew w W0 from hW0 ▸ ((Chg.refl _ _).alloc _).alloc _)
  have hz0 : w.heap.size + 2 ≤ W0.heap.size := by rw [← hW0]; simp
  have HB2 := Lib.hid (show Blk W0 w.heap.size 3 #[.int .i64 0] from hW0 ▸ (Blk.new _ _ _).alloc _)
  have HB3 := Lib.hid (show Blk W0 (w.heap.size + 1) 34 #[.int .i64 0, .int .i64 0, .int .i64 0] from hW0 ▸ (by have := Blk.new (w.alloc (.cells #[.int .i64 0] 3)) 34 #[.int .i64 0, .int .i64 0, .int .i64 0]; simpa using this))
  rw [hW0]
  clear hW0
  refine wp_range (gf := 40) (lb := #[.pointer (some ⟨bd, 0, none⟩), .pointer (some ⟨bi, 0, none⟩)]) rfl (enters_of Try.func40 (by kernel_rfl) rfl) ?_
  intro r W1 D L hr hg1 hDl hLl hD hR
  have HG1 := Lib.hid hg1
  have HD := Lib.hid hD
  have HR := Lib.hid hR
  have hDL := Ne.symm (hR.ne_dfr hD)
  clear hr hg1 hD hR
  refine (where_iter bd bi b L nx l A c f lb p pb pn (fun k W => Grew W1 W) (fun W => False) W1
    (fun k W hJ => (H.out.chg (Grew.trans HG0.out (Grew.trans HG1.out hJ)))) (fun k W W' hJ hg => Grew.trans hJ hg) (fun k x W hJ hx hp => hJ) (fun k x W hJ hx hp => absurd hp (by rw [Hno.out x (List.mem_of_getElem? hx)]; simp)) (Chg.refl _ _) hl).mono ?post
  case post =>
    rintro e w3 ⟨hv, hJ | hJ⟩
    · refine ⟨hv, .inl ⟨HR.out.grew hJ, fun w4 hk4 => ?_⟩⟩
      have HJ := Lib.hid hJ
      have HK2 := Lib.hid (((HB2.out.grew HG1.out).grew hJ).kept hk4)
      have HK3 := Lib.hid (((HB3.out.grew HG1.out).grew hJ).kept hk4)
      have HD4 := Lib.hid (((HD.out).grew hJ).kept hk4 hDL)
      have HG4 := Lib.hid (Chg.kept (Grew.trans HG0.out (Grew.trans HG1.out hJ)) hk4 (by omega))
      clear hJ hk4
      obtain ⟨c2, f2, s2⟩ := HK2.out.facts
      obtain ⟨c3, f3, s3⟩ := HK3.out.facts
      go_wp2
      refine postM_ret1 (v := .tuple #[.int .i64 (-1), (.agg #[.int .i64 0, .int .i64 0, .int .i64 0])]) (D := D) ?_ rfl fun w5 hk5 => ?_
      · refine HD4.out.chg (F := fun j => j = w.heap.size ∨ j = w.heap.size + 1) ?_ ?_
        · (repeat (first | (with_reducible exact (Chg.refl _ _)) | (with_reducible refine Chg.alloc ?_ _) | (with_reducible refine Chg.drew ?_) | (with_reducible refine Chg.drewN ?_ _) | ((with_reducible refine Chg.setCell ?_ ?hp _); (case hp => (intro _; simp)))))
        · omega
      · clear c2 f2 s2 c3 f3 s3
        refine ⟨?_, rfl, ?_⟩
        · obtain ⟨c2, f2, s2⟩ : (∀ i, w5.cell? ⟨w.heap.size, i, none⟩ = #[Value.int .i64 (-1)][i]?) ∧ (∀ i, w5.frozen? ⟨w.heap.size, i, none⟩ = false) ∧ w.heap.size < w5.heap.size := (Blk.kept (t := 3) (by (repeat (first | (with_reducible exact HK2.out) | (with_reducible apply Blk.drew) | (with_reducible apply Blk.drewN) | (with_reducible apply Blk.alloc) | (with_reducible apply Blk.putTo) | (with_reducible apply Blk.far))); (all_goals first | rfl | (simp; done) | (simp; omega))) hk5).facts
          obtain ⟨c3, f3, s3⟩ : (∀ i, w5.cell? ⟨w.heap.size + 1, i, none⟩ = (#[.int .i64 0, .int .i64 0, .int .i64 0] : Array Value)[i]?) ∧ (∀ i, w5.frozen? ⟨w.heap.size + 1, i, none⟩ = false) ∧ w.heap.size + 1 < w5.heap.size := (Blk.kept (t := 34) (by (repeat (first | (with_reducible exact HK3.out) | (with_reducible apply Blk.drew) | (with_reducible apply Blk.drewN) | (with_reducible apply Blk.alloc) | (with_reducible apply Blk.putTo) | (with_reducible apply Blk.far))); (all_goals first | rfl | (simp; done) | (simp; omega))) hk5).facts
          simp [results, Try.results32, go_sem, c2, s2, c3, s3]
        · refine Chg.kept ?_ hk5 (by omega)
          (repeat (first | (with_reducible exact HG4.out) | (with_reducible refine Chg.alloc ?_ _) | (with_reducible refine Chg.drew ?_) | (with_reducible refine Chg.drewN ?_ _) | ((with_reducible refine Chg.setCell ?_ ?hp _); (case hp => (intro h; exfalso; simp at h; try omega)))))
    · exact hJ.elim

end Go.Proofs.Ytkcakkblammpiaa
