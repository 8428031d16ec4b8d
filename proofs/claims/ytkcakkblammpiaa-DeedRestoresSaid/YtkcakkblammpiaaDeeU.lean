/- The document's answer for the deeds: Move. -/
import Derived.Test.YtkcakkblammpiaaDeeT
namespace Go.Proofs.Ytkcakkblammpiaa
open Go.RowKit

set_option maxHeartbeats 1600000 in
theorem rmove_no (nx id to r : Int) (l : List Dee) (A : Option Addr) (c : Nat) (w : World) (hs : Sl w 3 A l.length (l.flatMap Dee.vals)) (hl : l.length ≤ 1000000) (hr : moveE l id to = r) (hr0 : r ≠ 0 ∨ to = (fnd (fun x : Dee => x.id == id) l).holder) :
    Calls Try.prog 28 #[.agg #[.slice A l.length c, .int .i64 nx], .int .i64 id, .int .i64 to] w fun e w' => e = .returned (.tuple #[.agg #[.slice A l.length c, .int .i64 nx], .int .i64 r]) ∧ Grew w w' := by
  obtain ⟨W, hW, hg, hz, hb0, hb1⟩ := two_boxes w #[.slice A l.length c, .int .i64 nx]
  obtain ⟨m, hm⟩ : ∃ m, mayE l to = m := ⟨_, rfl⟩
  have Hs := Lib.hid (hs.grew hg)
  have Hm := Lib.hid hm
  have HW := Lib.hid hW
  have HB := Lib.hid (And.intro hb0 hb1)
  have HG := Lib.hid hg
  obtain ⟨c0, f0, s0⟩ := hb0.facts
  obtain ⟨c1, f1, s1⟩ := hb1.facts
  unfold moveE at hr
  rcases fidx_cases (fun x : Dee => x.id == id) l with ⟨hf, -⟩ | ⟨k, x, hf, hx, hp, hk, hno⟩
  · have Hi := Lib.hid hf
    obtain rfl : (14 : Int) = r := by rw [hf] at hr; simpa using hr
    clear hs hr hm hW hg hb0 hb1 hr0 hf
    go_enter Try.func28, Try.ntmps28
    go_wp2_with (first
      | (rw [HW.out])
      | (go_at_call 11; refine (rfind_any id nx l A c _ Hs.out hl).mono ?_; rintro e w1 ⟨rfl, hg1⟩; rw [Hi.out]; have HG1 := Lib.hid hg1; clear hg1 c0 f0 s0 c1 f1 s1; obtain ⟨c0, f0, s0⟩ := (HB.out.1.grew HG1.out).facts; obtain ⟨c1, f1, s1⟩ := (HB.out.2.grew HG1.out).facts))
    refine bodyPost_ret (v := .tuple #[.agg #[.slice A l.length c, .int .i64 nx], .int .i64 14]) (by simp [results, Try.results28, go_sem, c1, s1]) rfl ⟨rfl, ?_⟩
    have hsz := HG.out.size
    have := HG1.out.size
    (repeat (first | (with_reducible exact (Grew.trans HG.out HG1.out)) | (with_reducible refine Chg.alloc ?_ _) | (with_reducible refine Chg.drew ?_) | (with_reducible refine Chg.drewN ?_ _) | ((with_reducible refine Chg.setCell ?_ ?hp _); (case hp => (intro h; exfalso; simp at h; try omega)))))
  · rw [find_of hx hp hno] at hr hr0
    rw [hf, if_neg (by omega), hm] at hr
    obtain ⟨g, off, rfl, hgb, -⟩ := hs.atDee hx
    have hk1 : (k : Int) < (l.length : Int) := by omega
    have hk0 : decide ((k : Int) < 0) = false := by simp
    have Hi := Lib.hid hf
    have Hx := Lib.hid hx
    have hgs : g < W.heap.size := by have := hg.size; omega
    by_cases h2 : to < 1 <;> by_cases h3 : to = x.holder
    all_goals try (have h4 : (m == 0) = false := by rw [beq_eq_false_iff_ne]; intro e; subst e; simp [h2, h3] at hr; rcases hr0 with h | h; exact h hr.symm; exact h3 h)
    all_goals try (have h5 : (m != 0) = true := by simp only [bne, h4, Bool.not_false])
    all_goals try (have h8 : (x.holder == to) = true := by simp [h3])
    all_goals try (have h8 : (x.holder == to) = false := by simp; omega)
    all_goals have HR := Lib.hid hr
    all_goals have H3 := Lib.hid h3
    all_goals clear hs hr hm hW hg hb0 hb1 hr0 hf hx hp hno h3
    all_goals
      go_enter Try.func28, Try.ntmps28
      go_wp2_with (first
        | (rw [HW.out])
        | (go_at_call 11; refine (rfind_any id nx l _ c _ Hs.out hl).mono ?_; rintro e w1 ⟨rfl, hg1⟩; rw [Hi.out]; have HG1 := Lib.hid hg1; clear hg1 c0 f0 s0 c1 f1 s1; obtain ⟨c0, f0, s0⟩ := (HB.out.1.grew HG1.out).facts; obtain ⟨c1, f1, s1⟩ := (HB.out.2.grew HG1.out).facts; obtain ⟨g', off', hA', -, d0, d1, d2⟩ := (Hs.out.grew HG1.out).atDee Hx.out; simp only [Option.some.injEq, Addr.mk.injEq, and_true] at hA'; obtain ⟨rfl, rfl⟩ := hA')
        | (go_at_call 17; refine (rmay_any to nx m l _ c _ (Hs.out.grew HG1.out) hl Hm.out).mono ?_; rintro e w2 ⟨rfl, hg2⟩; have HG2 := Lib.hid (Grew.trans HG1.out hg2); clear hg2 c0 f0 s0 c1 f1 s1; obtain ⟨c0, f0, s0⟩ := (HB.out.1.grew HG2.out).facts; obtain ⟨c1, f1, s1⟩ := (HB.out.2.grew HG2.out).facts))
      have e := HR.out
      have h3 := H3.out
      (first | rw [if_pos (by omega)] at e | (rw [if_neg (by omega)] at e; first | rw [if_pos h3] at e | rw [if_neg h3] at e))
      subst e
      refine bodyPost_ret (v := .tuple #[.agg #[.slice (some ⟨g, off, none⟩) l.length c, .int .i64 nx], .int .i64 _]) (by simp [results, Try.results28, go_sem, c1, s1]) rfl ⟨rfl, ?_⟩
      have hsz := HG.out.size
      have := HG1.out.size
      first
        | ((repeat (first | (with_reducible exact (Grew.trans HG.out HG1.out)) | (with_reducible refine Chg.alloc ?_ _) | (with_reducible refine Chg.drew ?_) | (with_reducible refine Chg.drewN ?_ _) | ((with_reducible refine Chg.setCell ?_ ?hp _); (case hp => (intro h; exfalso; simp at h; try omega))))); done)
        | (have := HG2.out.size; (repeat (first | (with_reducible exact (Grew.trans HG.out HG2.out)) | (with_reducible refine Chg.alloc ?_ _) | (with_reducible refine Chg.drew ?_) | (with_reducible refine Chg.drewN ?_ _) | ((with_reducible refine Chg.setCell ?_ ?hp _); (case hp => (intro h; exfalso; simp at h; try omega))))); done)

set_option maxHeartbeats 1600000 in
theorem rmove_yes (k0 : Nat) (x : Dee) (nx id to : Int) (l : List Dee) (A : Option Addr) (c : Nat) (w : World) (hs : Sl w 3 A l.length (l.flatMap Dee.vals)) (hl : l.length ≤ 1000000) (hf : fidx (fun x : Dee => x.id == id) l = k0) (hx : l[k0]? = some x) (h2 : ¬ to < 1) (h3 : to ≠ x.holder) (hm : mayE l to = 0) (l' : List Dee) (hl' : l.set k0 { x with holder := to } = l') :
    Calls Try.prog 28 #[.agg #[.slice A l.length c, .int .i64 nx], .int .i64 id, .int .i64 to] w fun e w' => NewOut w w' 3 l'.length (l'.flatMap Dee.vals) (fun A c => .tuple #[.agg #[.slice A l'.length c, .int .i64 nx], .int .i64 0]) e := by
  obtain ⟨W, hW, hg, hz, hb0, hb1⟩ := two_boxes w #[.slice A l.length c, .int .i64 nx]
  obtain ⟨i0, hi0, hz0, hz1, hz2⟩ := info_parts rdeeInfo
  obtain ⟨g, off, rfl, hgb, -⟩ := hs.atDee hx
  have hk : k0 < l.length := (List.getElem?_eq_some_iff.1 hx).1
  have hk1 : (k0 : Int) < (l.length : Int) := by omega
  have hk0 : decide ((k0 : Int) < 0) = false := by simp
  have h8 : (x.holder == to) = false := by simp; omega
  have hgs : g < W.heap.size := by have := hg.size; omega
  have Hs := Lib.hid (hs.grew hg)
  have Hi := Lib.hid hf
  have Hx := Lib.hid hx
  have Hm := Lib.hid hm
  have HW := Lib.hid hW
  have HB := Lib.hid (And.intro hb0 hb1)
  have HG := Lib.hid hg
  have Hl' := Lib.hid hl'
  have hln : l'.length = l.length := by rw [← hl']; simp
  have Hln := Lib.hid hln
  obtain ⟨c0, f0, s0⟩ := hb0.facts
  obtain ⟨c1, f1, s1⟩ := hb1.facts
  clear hs hf hx hm hW hg hb0 hb1 hl' hln h3
  go_enter Try.func28, Try.ntmps28
  go_wp2_with (first
    | (rw [HW.out])
    | (go_at_call 11; refine (rfind_any id nx l _ c _ Hs.out hl).mono ?_; rintro e w1 ⟨rfl, hg1⟩; rw [Hi.out]; have HG1 := Lib.hid hg1; clear hg1 c0 f0 s0 c1 f1 s1; obtain ⟨c0, f0, s0⟩ := (HB.out.1.grew HG1.out).facts; obtain ⟨c1, f1, s1⟩ := (HB.out.2.grew HG1.out).facts; obtain ⟨g', off', hA', -, d0, d1, d2⟩ := (Hs.out.grew HG1.out).atDee Hx.out; simp only [Option.some.injEq, Addr.mk.injEq, and_true] at hA'; obtain ⟨rfl, rfl⟩ := hA')
    | (go_at_call 17; refine (rmay_any to nx 0 l _ c _ (Hs.out.grew HG1.out) hl Hm.out).mono ?_; rintro e w2 ⟨rfl, hg2⟩; have HG2 := Lib.hid (Grew.trans HG1.out hg2); clear hg2 c0 f0 s0 c1 f1 s1 d0 d1 d2))
  go_loopw [10, 11] (fun v i wr => ∃ (k : Nat), k ≤ l.length ∧ i = .int .i64 k ∧ wr.ownsRow w2.heap.size 41 3 v k ((l'.take k).flatMap Dee.vals) ∧ Grew w2 wr) (fun _ i _ => l.length - (intOf i).toNat)
  case atStart => exact ⟨0, Nat.zero_le _, rfl, World.ownsRow_nil _ _ _ _, Chg.refl _ _⟩
  case round =>
    obtain ⟨k, hk2, rfl, ho, hg⟩ := hrel
    have Ho := Lib.hid ho
    have Hg := Lib.hid hg
    have hsz := hg.size
    obtain ⟨c0, f0, s0⟩ := ((HB.out.1.grew HG2.out).grew hg).facts
    clear ho hg
    by_cases hlt : k < l.length
    · obtain ⟨y, hy⟩ : ∃ y, l[k]? = some y := ⟨_, List.getElem?_eq_getElem hlt⟩
      obtain ⟨g', off', hA', hb, d0, d1, d2⟩ := ((Hs.out.grew HG2.out).grew Hg.out).atDee hy
      simp only [Option.some.injEq, Addr.mk.injEq, and_true] at hA'
      obtain ⟨rfl, rfl⟩ := hA'
      obtain ⟨z, hzl⟩ : ∃ z, l'[k]? = some z := ⟨_, List.getElem?_eq_getElem (by rw [Hln.out]; exact hlt)⟩
      have Hz := Lib.hid hzl
      by_cases hkk : k = k0
      · obtain rfl : z = { y with holder := to } := by
          have e := hzl
          rw [← Hl'.out, hkk, List.getElem?_set_self hk] at e
          have e2 := Hx.out
          rw [← hkk, hy] at e2
          cases e2
          cases e
          rfl
        have hkk' : ((k : Int) == (k0 : Int)) = true := by simp [hkk]
        have Hkk := Lib.hid hkk
        clear hy hzl hkk
        have Hoa := Lib.hid (own_grew Ho.out ((((Chg.refl NoF wr).alloc (.cells #[.int .i64 y.id, .int .i64 y.plot, .int .i64 to] 41)).alloc (.cells #[.int .i64 y.id, .int .i64 y.plot, .int .i64 to] 41))))
        go_wp2_with (at_builtin; refine wpList_append_own_at _ (by rfl) _ _ 26 (by rfl) w2.heap.size 41 i0 _ 3 24 Try.underlying26 hi0 hz0 hz1 hz2 rfl (by decide) _ k _ (by rfl) Hoa.out ⟨wr.heap.size + 1, 0, none⟩ 1 1 [.int .i64 y.id, .int .i64 y.plot, .int .i64 to] (by rfl) (by rfl) (by have := World.news_of_block (cs := #[.int .i64 y.id, .int .i64 y.plot, .int .i64 to]) (t := 41) (fr := (0, 0)) (heap_alloc_new (wr.alloc (.cells #[.int .i64 y.id, .int .i64 y.plot, .int .i64 to] 41)) _); simpa using this) (by simp [Value.oneCell']) (by simp only [maxLen]; omega) (by omega) (by simp; omega) ?_; intro v' w5 ho5 hg5 _ _; have HO5 := Lib.hid ho5; have HG5 := Lib.hid (grew_row ((Hg.out.alloc _).alloc _) Hoa.out hg5); clear ho5 hg5)
        exact ⟨⟨k + 1, by omega, by simp, by have := HO5.out; rw [← Dee.take_snoc Hz.out]; simpa [Dee.vals] using this, HG5.out⟩, by simp [intOf]; omega⟩
      · obtain rfl : z = y := by
          have e := hzl
          rw [← Hl'.out, List.getElem?_set_ne (by omega), hy] at e
          cases e
          rfl
        have hkk' : ((k : Int) == (k0 : Int)) = false := by simp; omega
        clear hy hzl hkk
        have Hoa := Lib.hid (own_grew Ho.out ((((Chg.refl NoF wr).alloc (.cells #[.int .i64 z.id, .int .i64 z.plot, .int .i64 z.holder] 41)).alloc (.cells #[.int .i64 z.id, .int .i64 z.plot, .int .i64 z.holder] 41))))
        go_wp2_with (at_builtin; refine wpList_append_own_at _ (by rfl) _ _ 26 (by rfl) w2.heap.size 41 i0 _ 3 24 Try.underlying26 hi0 hz0 hz1 hz2 rfl (by decide) _ k _ (by rfl) Hoa.out ⟨wr.heap.size + 1, 0, none⟩ 1 1 [.int .i64 z.id, .int .i64 z.plot, .int .i64 z.holder] (by rfl) (by rfl) (by have := World.news_of_block (cs := #[.int .i64 z.id, .int .i64 z.plot, .int .i64 z.holder]) (t := 41) (fr := (0, 0)) (heap_alloc_new (wr.alloc (.cells #[.int .i64 z.id, .int .i64 z.plot, .int .i64 z.holder] 41)) _); simpa using this) (by simp [Value.oneCell']) (by simp only [maxLen]; omega) (by omega) (by simp; omega) ?_; intro v' w5 ho5 hg5 _ _; have HO5 := Lib.hid ho5; have HG5 := Lib.hid (grew_row ((Hg.out.alloc _).alloc _) Hoa.out hg5); clear ho5 hg5)
        exact ⟨⟨k + 1, by omega, by simp, by have := HO5.out; rw [← Dee.take_snoc Hz.out]; simpa [Dee.vals] using this, HG5.out⟩, by simp [intOf]; omega⟩
    · obtain rfl : k = l.length := by omega
      obtain ⟨c1, f1, s1⟩ := ((HB.out.2.grew HG2.out).grew Hg.out).facts
      obtain ⟨A1, q1, rfl, -⟩ := own_shape Ho.out
      go_wp2
      refine bodyPost_ret (v := .tuple #[.agg #[.slice A1 l.length q1, .int .i64 nx], .int .i64 0]) (by simp [results, Try.results28, go_sem, c1, s1]) rfl ?_
      have hG : Grew w w2 := Grew.trans HG.out HG2.out
      have hsz2 := hG.size
      have hlo : ∀ a, A1 = some a → w2.heap.size ≤ a.block := fun a ha => by subst ha; exact (Ho.out.lt _ rfl).1
      refine NewOut.mk A1 q1 (by rw [Hln.out]) ?_ ?_ (fun a ha => by have := hlo a ha; omega)
      · have hO : Sl wr 3 A1 l'.length (l'.flatMap Dee.vals) := by
          have := Sl.of_own Ho.out
          rw [List.take_of_length_le (by rw [Hln.out]; omega)] at this
          rw [Hln.out]
          exact this
        have hzz := HG2.out.size
        refine hO.chg (F := fun j => j = w.heap.size + 1) ?_ (fun a ha e => by have := hlo a ha; have e1 : a.block = w.heap.size + 1 := e; omega)
        (repeat (first | (with_reducible exact Chg.refl _ _) | (with_reducible refine Chg.alloc ?_ _) | (with_reducible refine Chg.drew ?_) | (with_reducible refine Chg.drewN ?_ _) | ((with_reducible refine Chg.setCell ?_ ?hp _); (case hp => exact fun _ => rfl))))
      · (repeat (first | (with_reducible exact (Grew.trans hG Hg.out)) | (with_reducible refine Chg.alloc ?_ _) | (with_reducible refine Chg.drew ?_) | (with_reducible refine Chg.drewN ?_ _) | ((with_reducible refine Chg.setCell ?_ ?hp _); (case hp => (intro h; exfalso; simp at h; try omega)))))

end Go.Proofs.Ytkcakkblammpiaa
