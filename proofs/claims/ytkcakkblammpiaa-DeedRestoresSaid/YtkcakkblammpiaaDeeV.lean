/- The document's answer for the deeds: Void; and the plain law: what a list of deeds may be. -/
import Derived.Test.YtkcakkblammpiaaDeeU
namespace Go.Proofs.Ytkcakkblammpiaa
open Go.RowKit

set_option maxHeartbeats 1600000 in
theorem rvoid_no (nx id : Int) (l : List Dee) (A : Option Addr) (c : Nat) (w : World) (hs : Sl w 3 A l.length (l.flatMap Dee.vals)) (hl : l.length ≤ 1000000) (hf : fidx (fun x : Dee => x.id == id) l = -1) :
    Calls Try.prog 30 #[.agg #[.slice A l.length c, .int .i64 nx], .int .i64 id] w fun e w' => e = .returned (.tuple #[.agg #[.slice A l.length c, .int .i64 nx], .int .i64 14]) ∧ Grew w w' := by
  obtain ⟨W, hW, hg, hz, hb0, hb1⟩ := two_boxes w #[.slice A l.length c, .int .i64 nx]
  have Hs := Lib.hid (hs.grew hg)
  have HW := Lib.hid hW
  have HB := Lib.hid (And.intro hb0 hb1)
  have HG := Lib.hid hg
  have Hi := Lib.hid hf
  obtain ⟨c0, f0, s0⟩ := hb0.facts
  obtain ⟨c1, f1, s1⟩ := hb1.facts
  clear hs hW hg hb0 hb1 hf
  go_enter Try.func30, Try.ntmps30
  go_wp2_with (first
    | (rw [HW.out])
    | (go_at_call 11; refine (rfind_any id nx l A c _ Hs.out hl).mono ?_; rintro e w1 ⟨rfl, hg1⟩; rw [Hi.out]; have HG1 := Lib.hid hg1; clear hg1 c0 f0 s0 c1 f1 s1; obtain ⟨c0, f0, s0⟩ := (HB.out.1.grew HG1.out).facts; obtain ⟨c1, f1, s1⟩ := (HB.out.2.grew HG1.out).facts))
  refine bodyPost_ret (v := .tuple #[.agg #[.slice A l.length c, .int .i64 nx], .int .i64 14]) (by simp [results, Try.results30, go_sem, c1, s1]) rfl ⟨rfl, ?_⟩
  have hsz := HG.out.size
  have := HG1.out.size
  (repeat (first | (with_reducible exact (Grew.trans HG.out HG1.out)) | (with_reducible refine Chg.alloc ?_ _) | (with_reducible refine Chg.drew ?_) | (with_reducible refine Chg.drewN ?_ _) | ((with_reducible refine Chg.setCell ?_ ?hp _); (case hp => (intro h; exfalso; simp at h; try omega)))))

set_option maxHeartbeats 1600000 in
theorem rvoid_yes (k0 : Nat) (nx id : Int) (l : List Dee) (A : Option Addr) (c : Nat) (w : World) (hs : Sl w 3 A l.length (l.flatMap Dee.vals)) (hl : l.length ≤ 1000000) (hf : fidx (fun x : Dee => x.id == id) l = k0) (hk : k0 < l.length) (l' : List Dee) (hl' : l.eraseIdx k0 = l') :
    Calls Try.prog 30 #[.agg #[.slice A l.length c, .int .i64 nx], .int .i64 id] w fun e w' => NewOut w w' 3 l'.length (l'.flatMap Dee.vals) (fun A c => .tuple #[.agg #[.slice A l'.length c, .int .i64 nx], .int .i64 0]) e := by
  obtain ⟨W, hW, hg, hz, hb0, hb1⟩ := two_boxes w #[.slice A l.length c, .int .i64 nx]
  obtain ⟨i0, hi0, hz0, hz1, hz2⟩ := info_parts rdeeInfo
  have hk0 : decide ((k0 : Int) < 0) = false := by simp
  have Hs := Lib.hid (hs.grew hg)
  have Hi := Lib.hid hf
  have HW := Lib.hid hW
  have HB := Lib.hid (And.intro hb0 hb1)
  have HG := Lib.hid hg
  have Hl' := Lib.hid hl'
  obtain ⟨c0, f0, s0⟩ := hb0.facts
  obtain ⟨c1, f1, s1⟩ := hb1.facts
  clear hs hf hW hg hb0 hb1 hl'
  go_enter Try.func30, Try.ntmps30
  go_wp2_with (first
    | (rw [HW.out])
    | (go_at_call 11; refine (rfind_any id nx l _ c _ Hs.out hl).mono ?_; rintro e w2 ⟨rfl, hg1⟩; rw [Hi.out]; have HG2 := Lib.hid hg1; clear hg1 c0 f0 s0 c1 f1 s1))
  go_loopw [7, 8] (fun v i wr => ∃ (k n : Nat) (xs : List Dee), k ≤ l.length ∧ i = .int .i64 k ∧ xs = (l.take k).eraseIdx k0 ∧ n = xs.length ∧ wr.ownsRow w2.heap.size 41 3 v n (xs.flatMap Dee.vals) ∧ Grew w2 wr) (fun _ i _ => l.length - (intOf i).toNat)
  case atStart => exact ⟨0, 0, [], Nat.zero_le _, rfl, by simp, rfl, World.ownsRow_nil _ _ _ _, Chg.refl _ _⟩
  case round =>
    obtain ⟨k, n, xs, hk2, rfl, hxs, hn, ho, hg⟩ := hrel
    have hxl : n ≤ k := by
      have := List.length_eraseIdx_le (l.take k) k0
      rw [← hxs] at this
      have := List.length_take_le k l
      omega
    have Hxs := Lib.hid (And.intro hxs hn)
    have Ho := Lib.hid ho
    have Hg := Lib.hid hg
    have hsz := hg.size
    obtain ⟨c0, f0, s0⟩ := ((HB.out.1.grew HG2.out).grew hg).facts
    clear ho hg hxs hn
    by_cases hlt : k < l.length
    · obtain ⟨y, hy⟩ : ∃ y, l[k]? = some y := ⟨_, List.getElem?_eq_getElem hlt⟩
      obtain ⟨g', off', rfl, hb, d0, d1, d2⟩ := ((Hs.out.grew HG2.out).grew Hg.out).atDee hy
      have Hx := Lib.hid hy
      clear hy
      by_cases hkk : k = k0
      · have Hst := Lib.hid (show xs = (l.take (k + 1)).eraseIdx k0 by
          have hkl : k = (l.take k).length := by simp; omega
          rw [Hxs.out.1, List.take_add_one, Hx.out, List.eraseIdx_of_length_le (by simp; omega)]
          rw [show (some y).toList = [y] from rfl, List.eraseIdx_append_of_length_le (by simp; omega)]
          have : k0 - (l.take k).length = 0 := by simp; omega
          rw [this]; simp)
        have hkk' : ((k : Int) != (k0 : Int)) = false := by simp [hkk]
        have hkk2 : ((k : Int) == (k0 : Int)) = true := by simp [hkk]
        clear hkk
        go_wp2
        exact ⟨⟨k + 1, n, xs, by omega, by simp, Hst.out, Hxs.out.2, Ho.out, Hg.out⟩, by simp [intOf]; omega⟩
      · have Hst := Lib.hid (show xs ++ [y] = (l.take (k + 1)).eraseIdx k0 by
          rw [Hxs.out.1, List.take_add_one, Hx.out]
          rw [show (some y).toList = [y] from rfl]
          by_cases hle : k0 < (l.take k).length
          · rw [List.eraseIdx_append_of_lt_length hle]
          · have hkl : (l.take k).length = k := by simp; omega
            rw [List.eraseIdx_append_of_length_le (by omega), List.eraseIdx_of_length_le (by omega)]
            rw [List.eraseIdx_of_length_le (by simp; omega)])
        have hkk' : ((k : Int) != (k0 : Int)) = true := by rw [bne_iff_ne]; omega
        have hkk2 : ((k : Int) == (k0 : Int)) = false := by simp; omega
        clear hkk
        have Hoa := Lib.hid (own_grew Ho.out ((Chg.refl NoF wr).alloc (.cells #[.int .i64 y.id, .int .i64 y.plot, .int .i64 y.holder] 41)))
        go_wp2_with (at_builtin; refine wpList_append_own_at _ (by rfl) _ _ 26 (by rfl) w2.heap.size 41 i0 _ 3 24 Try.underlying26 hi0 hz0 hz1 hz2 rfl (by decide) _ n _ (by rfl) Hoa.out ⟨wr.heap.size, 0, none⟩ 1 1 [.int .i64 y.id, .int .i64 y.plot, .int .i64 y.holder] (by rfl) (by rfl) (World.news_of_block (cs := #[.int .i64 y.id, .int .i64 y.plot, .int .i64 y.holder]) (t := 41) (fr := (0, 0)) (heap_alloc_new wr _)) (by simp [Value.oneCell']) (by simp only [maxLen]; omega) (by omega) (by simp; omega) ?_; intro v' w5 ho5 hg5 _ _; have HO5 := Lib.hid ho5; have HG5 := Lib.hid (grew_row (Hg.out.alloc _) Hoa.out hg5); clear ho5 hg5)
        exact ⟨⟨k + 1, n + 1, xs ++ [y], by omega, by simp, Hst.out, by rw [Hxs.out.2]; simp, by have := HO5.out; simpa [Dee.vals] using this, HG5.out⟩, by simp [intOf]; omega⟩
    · obtain rfl : k = l.length := by omega
      obtain ⟨c1, f1, s1⟩ := ((HB.out.2.grew HG2.out).grew Hg.out).facts
      obtain ⟨A1, q1, rfl, -⟩ := own_shape Ho.out
      have Hn := Lib.hid (show n = l'.length ∧ xs = l' by
        have := Hxs.out.1
        rw [List.take_length, Hl'.out] at this
        exact ⟨by rw [Hxs.out.2, this], this⟩)
      go_wp2
      refine bodyPost_ret (v := .tuple #[.agg #[.slice A1 n q1, .int .i64 nx], .int .i64 0]) (by simp [results, Try.results30, go_sem, c1, s1]) rfl ?_
      have hG : Grew w w2 := Grew.trans HG.out HG2.out
      have hsz2 := hG.size
      have hlo : ∀ a, A1 = some a → w2.heap.size ≤ a.block := fun a ha => by subst ha; exact (Ho.out.lt _ rfl).1
      refine NewOut.mk A1 q1 (by rw [Hn.out.1]) ?_ ?_ (fun a ha => by have := hlo a ha; omega)
      · have hO : Sl wr 3 A1 l'.length (l'.flatMap Dee.vals) := by
          have := Sl.of_own Ho.out
          rwa [Hn.out.1, Hn.out.2] at this
        have hzz := HG2.out.size
        refine hO.chg (F := fun j => j = w.heap.size + 1) ?_ (fun a ha e => by have := hlo a ha; have e1 : a.block = w.heap.size + 1 := e; omega)
        (repeat (first | (with_reducible exact Chg.refl _ _) | (with_reducible refine Chg.alloc ?_ _) | (with_reducible refine Chg.drew ?_) | (with_reducible refine Chg.drewN ?_ _) | ((with_reducible refine Chg.setCell ?_ ?hp _); (case hp => exact fun _ => rfl))))
      · (repeat (first | (with_reducible exact (Grew.trans hG Hg.out)) | (with_reducible refine Chg.alloc ?_ _) | (with_reducible refine Chg.drew ?_) | (with_reducible refine Chg.drewN ?_ _) | ((with_reducible refine Chg.setCell ?_ ?hp _); (case hp => (intro h; exfalso; simp at h; try omega)))))

def Dee.one (x : Dee) (nx : Int) : Prop := 1 ≤ x.id ∧ x.id < nx ∧ 1 ≤ x.plot ∧ 1 ≤ x.holder
def Dee.apart (x y : Dee) : Prop := x.id < y.id ∧ x.plot ≠ y.plot

/-- What a list of deeds and a next number may be. -/
structure Rt (l : List Dee) (nx : Int) : Prop where
  len : (l.length : Int) < nx
  one : ∀ x ∈ l, x.one nx
  pw : l.Pairwise Dee.apart
  held : ∀ h, (heldOf l h).length ≤ 3

theorem Rt.nil : Rt [] 1 := ⟨by simp, by simp, List.Pairwise.nil, fun h => by simp [heldOf, ids]⟩

theorem heldOf_count (l : List Dee) (h : Int) : (heldOf l h).length = l.countP (fun x : Dee => x.holder == h) := by
  simp [heldOf, ids, List.countP_eq_length_filter]

theorem Rt.issued {l : List Dee} {nx plot id : Int} (h : Rt l nx) (hr : issueE l plot id = 0) : Rt (l ++ [⟨nx, plot, id⟩]) (nx + 1) := by
  obtain ⟨h1, h2, h3, hm⟩ : ¬ plot < 1 ∧ ¬ id < 1 ∧ ¬ 0 ≤ fidx (fun x : Dee => x.plot == plot) l ∧ mayE l id = 0 := by
    unfold issueE at hr
    split at hr
    · cases hr
    · split at hr
      · cases hr
      · exact ⟨by omega, by omega, by omega, hr⟩
  have hno : ∀ x ∈ l, (x.plot == plot) = false := by
    rcases fidx_cases (fun x : Dee => x.plot == plot) l with ⟨_, h⟩ | ⟨k, x, hf, _⟩
    · exact h
    · omega
  have h4 : (heldOf l id).length < 3 := by
    unfold mayE at hm
    rw [if_neg h2] at hm
    split at hm
    · cases hm
    · omega
  have hl := h.len
  refine ⟨by simp; omega, ?_, ?_, fun h' => ?_⟩
  · intro x hx
    rcases List.mem_append.1 hx with hx | hx
    · have := h.one x hx
      unfold Dee.one at this ⊢
      omega
    · simp only [List.mem_singleton] at hx
      subst hx
      exact ⟨by show 1 ≤ nx; omega, by show nx < nx + 1; omega, by show 1 ≤ plot; omega, by show 1 ≤ id; omega⟩
  · rw [List.pairwise_append]
    refine ⟨h.pw, List.pairwise_singleton _ _, fun x hx y hy => ?_⟩
    simp only [List.mem_singleton] at hy
    subst hy
    exact ⟨(h.one x hx).2.1, by have := hno x hx; simpa using this⟩
  · have := h.held h'
    rw [heldOf_count] at this ⊢
    rw [heldOf_count] at h4
    rw [List.countP_append]
    by_cases e : id = h'
    · subst e
      simp [List.countP_cons]
      omega
    · simp [List.countP_cons, e]
      omega

theorem Rt.moved {l : List Dee} {nx to : Int} {k : Nat} {x : Dee} (h : Rt l nx) (hx : l[k]? = some x) (h2 : ¬ to < 1) (hm : mayE l to = 0) : Rt (l.set k { x with holder := to }) nx := by
  obtain ⟨hk, rfl⟩ := List.getElem?_eq_some_iff.1 hx
  have h4 : (heldOf l to).length < 3 := by
    unfold mayE at hm
    rw [if_neg h2] at hm
    split at hm
    · cases hm
    · omega
  refine ⟨by simpa using h.len, ?_, ?_, fun h' => ?_⟩
  · intro y hy
    rcases List.mem_or_eq_of_mem_set hy with hy | rfl
    · exact h.one y hy
    · have := h.one _ (List.getElem_mem hk)
      exact ⟨this.1, this.2.1, this.2.2.1, by show 1 ≤ to; omega⟩
  · have hp := h.pw
    rw [List.pairwise_iff_getElem] at hp ⊢
    intro i j hi hj hij
    rw [List.length_set] at hi hj
    have := hp i j hi hj hij
    rw [List.getElem_set, List.getElem_set]
    unfold Dee.apart at this ⊢
    split <;> split <;> simp_all
  · have := h.held h'
    rw [heldOf_count] at this ⊢
    rw [heldOf_count] at h4
    rw [List.countP_set hk]
    by_cases e : to = h'
    · subst e
      simp
      split <;> omega
    · simp [e]
      split <;> omega

theorem Rt.voided {l : List Dee} {nx : Int} (h : Rt l nx) (k : Nat) : Rt (l.eraseIdx k) nx := by
  have hsub := List.eraseIdx_sublist l k
  refine ⟨by have := hsub.length_le; have := h.len; omega, fun x hx => h.one x (hsub.subset hx), h.pw.sublist hsub, fun h' => ?_⟩
  have := h.held h'
  rw [heldOf_count] at this ⊢
  exact Nat.le_trans (hsub.countP_le) this

end Go.Proofs.Ytkcakkblammpiaa
