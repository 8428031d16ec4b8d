/- The document's answer for the rents: Put. -/
import Derived.Test.YtjpkpckgkhbfpaaRenD
namespace Go.Proofs.Ytjpkpckgkhbfpaa
open Go.RowKit Go.Maps

def oneL (y : Rw) (h : Int) : List Rw := if y.house = h then [] else [y]

theorem putL_all {t : List Rw} {r : Rw} (h : ∀ z ∈ t, z.house < r.house) : putL t r = t ++ [r] := by
  induction t with
  | nil => rfl
  | cons y t ih =>
    unfold putL
    rw [if_pos (h y (by simp)), ih fun z hz => h z (by simp [hz])]
    rfl
theorem filter_one (y : Rw) (h : Int) : [y].filter (fun z => z.house != h) = oneL y h := by
  unfold oneL
  by_cases e : y.house = h <;> simp [e]
theorem putL_done {t : List Rw} {r y : Rw} (h : ∃ z ∈ t, ¬ z.house < r.house) : putL (t ++ [y]) r = putL t r ++ oneL y r.house := by
  induction t with
  | nil => obtain ⟨z, hz, -⟩ := h; cases hz
  | cons a t ih =>
    rw [List.cons_append]
    unfold putL
    by_cases ha : a.house < r.house
    · rw [if_pos ha, if_pos ha, ih]
      · rfl
      · obtain ⟨z, hz, hzr⟩ := h
        rcases List.mem_cons.1 hz with rfl | hz
        · exact absurd ha hzr
        · exact ⟨z, hz, hzr⟩
    · rw [if_neg ha, if_neg ha, ← List.cons_append, List.filter_append, filter_one]
      rfl
theorem putL_new {t : List Rw} {r y : Rw} (h : ∀ z ∈ t, z.house < r.house) (hy : ¬ y.house < r.house) : putL (t ++ [y]) r = t ++ [r] ++ oneL y r.house := by
  induction t with
  | nil => simp only [List.nil_append]; unfold putL; rw [if_neg hy, filter_one]; rfl
  | cons a t ih =>
    rw [List.cons_append]
    unfold putL
    rw [if_pos (h a (by simp)), ih fun z hz => h z (by simp [hz])]
    rfl
theorem putL_len (t : List Rw) (r : Rw) : (putL t r).length ≤ t.length + 1 := by
  induction t with
  | nil => simp [putL]
  | cons a t ih =>
    unfold putL
    split
    · simp; omega
    · have := List.length_filter_le (fun z : Rw => z.house != r.house) (a :: t)
      simp only [List.length_cons] at this ⊢
      omega

/-- What Put has made of the first rows. -/
def PutIs (r : Rw) (t xs : List Rw) (done : Bool) : Prop := (done = false ∧ xs = t ∧ ∀ z ∈ t, z.house < r.house) ∨ (done = true ∧ xs = putL t r ∧ ∃ z ∈ t, ¬ z.house < r.house)
theorem PutIs.len {r : Rw} {t xs : List Rw} {done : Bool} (h : PutIs r t xs done) : xs.length ≤ t.length + 1 := by
  rcases h with ⟨-, rfl, -⟩ | ⟨-, rfl, -⟩
  · omega
  · exact putL_len _ _
theorem PutIs.keep {r y : Rw} {t xs : List Rw} (h : PutIs r t xs false) (hy : y.house < r.house) : PutIs r (t ++ [y]) (xs ++ [y]) false := by
  rcases h with ⟨-, rfl, h⟩ | ⟨h, -⟩
  · refine .inl ⟨rfl, rfl, fun z hz => ?_⟩
    rcases List.mem_append.1 hz with hz | hz
    · exact h z hz
    · simp at hz; subst hz; exact hy
  · cases h
theorem PutIs.turn {r y : Rw} {t xs : List Rw} (h : PutIs r t xs false) (hy : ¬ y.house < r.house) : PutIs r (t ++ [y]) (xs ++ [r] ++ oneL y r.house) true := by
  rcases h with ⟨-, rfl, h⟩ | ⟨h, -⟩
  · exact .inr ⟨rfl, (putL_new h hy).symm, y, by simp, hy⟩
  · cases h
theorem PutIs.on {r y : Rw} {t xs : List Rw} (h : PutIs r t xs true) : PutIs r (t ++ [y]) (xs ++ oneL y r.house) true := by
  rcases h with ⟨h, -⟩ | ⟨-, rfl, h⟩
  · cases h
  · obtain ⟨z, hz, hzr⟩ := h
    exact .inr ⟨rfl, (putL_done ⟨z, hz, hzr⟩).symm, z, by simp [hz], hzr⟩
theorem PutIs.fin_no {r : Rw} {t xs : List Rw} (h : PutIs r t xs false) : xs ++ [r] = putL t r := by
  rcases h with ⟨-, rfl, h⟩ | ⟨h, -⟩
  · exact (putL_all h).symm
  · cases h
theorem PutIs.fin_yes {r : Rw} {t xs : List Rw} (h : PutIs r t xs true) : xs = putL t r := by
  rcases h with ⟨h, -⟩ | ⟨-, h, -⟩
  · cases h
  · exact h

set_option maxRecDepth 100000 in
set_option maxHeartbeats 3200000 in
theorem xput_any (r : Rw) (l : List Rw) (A : Option Addr) (c : Nat) (w : World) (hs : Sl w 3 A l.length (l.flatMap Rw.vals)) (hl : l.length ≤ 1000000) :
    Calls Try.prog 45 #[.slice A l.length c, (.agg #[.int .i64 r.house, .int .i64 r.rate, .int .i64 r.due])] w fun e w' => NewOut w w' 3 (putL l r).length ((putL l r).flatMap Rw.vals) (fun A c => .slice A (putL l r).length c) e := by
  obtain ⟨i0, hi0, hz0, hz1, hz2⟩ := info_parts rwInfo
  have Hs := Lib.hid hs
  clear hs
  have HB0 := Lib.hid (Blk.new w 42 #[.int .i64 r.house, .int .i64 r.rate, .int .i64 r.due])
  go_enter Try.func45, Try.ntmps45
  go_wp2
  go_loopw [5, 6, 7] (fun v d i wr => ∃ (k : Nat) (xs : List Rw) (A1 : Option Addr) (c1 : Nat) (done : Bool), k ≤ l.length ∧ i = .int .i64 k ∧ d = .bool done ∧ v = .slice A1 xs.length c1 ∧ PutIs r (l.take k) xs done ∧ wr.ownsRow (w.heap.size + 1) 42 3 (.slice A1 xs.length c1) xs.length (xs.flatMap Rw.vals) ∧ Grew w wr ∧ Blk wr w.heap.size 42 #[.int .i64 r.house, .int .i64 r.rate, .int .i64 r.due]) (fun _ _ i _ => l.length - (intOf i).toNat)
  case atStart => exact ⟨0, [], none, 0, false, Nat.zero_le _, rfl, rfl, rfl, .inl ⟨rfl, rfl, by simp⟩, World.ownsRow_nil _ _ _ _, (Chg.refl _ _).alloc _, HB0.out⟩
  case round =>
    obtain ⟨k, xs, A1, c1, done, hk, rfl, rfl, rfl, hxs, hown, hg, hb⟩ := hrel
    have hxl : xs.length ≤ k + 1 := by
      have := hxs.len
      have := List.length_take_le k l
      omega
    have Hxs := Lib.hid hxs
    have Hown := Lib.hid hown
    have hsz := hg.size
    have Hg := Lib.hid hg
    obtain ⟨x0, xf0, xs0⟩ := hb.facts
    have Hb := Lib.hid hb
    clear hxs hown hg hb
    by_cases hlt : k < l.length
    · obtain ⟨y, hy⟩ : ∃ y, l[k]? = some y := ⟨_, List.getElem?_eq_getElem hlt⟩
      obtain ⟨b, off, rfl, hb, d0, d1, d2⟩ := (Hs.out.grew Hg.out).atRw hy
      have Hst := Lib.hid (show l.take (k + 1) = l.take k ++ [y] by rw [List.take_add_one, hy]; rfl)
      have Hy := Lib.hid hy
      clear hy
      have Howr := Hown
      have Hgwr := Hg
      have Hbwr := Hb
      cases done with
      | true =>
        have t0 : (!true) = false := rfl
        by_cases hq : y.house = r.house
        · have hq' : (y.house != r.house) = false := by simp [hq]
          have Hq := Lib.hid hq
          clear hq
          go_wp2_with fail
          go_quiet (fail)
          obtain ⟨W1, eW1, gW1⟩ : ∃ V, wr.drewN nq = V ∧ Grew wr V := ⟨_, rfl, (Chg.refl _ _).drewN _⟩
          rw [eW1]
          have HgW1 := Lib.hid (Grew.trans Hgwr.out gW1)
          have HbW1 := Lib.hid (Hbwr.out.grew gW1)
          have HoW1 := Lib.hid (own_chg Howr.out gW1 fun _ _ h => h)
          have sW1 : w.heap.size + 1 ≤ W1.heap.size := Nat.le_trans (by have := Hbwr.out.lt; omega) gW1.size
          clear d0 d1 d2 x0 xf0 xs0 eW1 gW1
          obtain ⟨x0, xf0, xs0⟩ := HbW1.out.facts
          obtain ⟨b', off', hA', hb', d0, d1, d2⟩ := (Hs.out.grew HgW1.out).atRw Hy.out
          cases hA'
          go_wp2_with fail
          go_quiet (fail)
          obtain ⟨W2, eW2, gW2⟩ : ∃ V, W1.drewN nq = V ∧ Grew W1 V := ⟨_, rfl, (Chg.refl _ _).drewN _⟩
          rw [eW2]
          have HgW2 := Lib.hid (Grew.trans HgW1.out gW2)
          have HbW2 := Lib.hid (HbW1.out.grew gW2)
          have HoW2 := Lib.hid (own_chg HoW1.out gW2 fun _ _ h => h)
          have sW2 : w.heap.size + 1 ≤ W2.heap.size := Nat.le_trans (by have := HbW1.out.lt; omega) gW2.size
          clear d0 d1 d2 x0 xf0 xs0 eW2 gW2
          obtain ⟨x0, xf0, xs0⟩ := HbW2.out.facts
          obtain ⟨b', off', hA', hb', d0, d1, d2⟩ := (Hs.out.grew HgW2.out).atRw Hy.out
          cases hA'
          go_wp2_with fail
          exact ⟨⟨k + 1, xs, A1, c1, true, by omega, by simp, rfl, by simp, by rw [Hst.out]; have := Hxs.out.on (y := y); rw [oneL, if_pos Hq.out] at this; simpa using this, HoW2.out, HgW2.out, HbW2.out⟩, by simp [intOf]; omega⟩
        · have hq' : (y.house != r.house) = true := by simpa using hq
          have Hq := Lib.hid hq
          clear hq
          go_wp2_with fail
          go_quiet (fail)
          obtain ⟨W1, eW1, gW1⟩ : ∃ V, wr.drewN nq = V ∧ Grew wr V := ⟨_, rfl, (Chg.refl _ _).drewN _⟩
          rw [eW1]
          have HgW1 := Lib.hid (Grew.trans Hgwr.out gW1)
          have HbW1 := Lib.hid (Hbwr.out.grew gW1)
          have HoW1 := Lib.hid (own_chg Howr.out gW1 fun _ _ h => h)
          have sW1 : w.heap.size + 1 ≤ W1.heap.size := Nat.le_trans (by have := Hbwr.out.lt; omega) gW1.size
          clear d0 d1 d2 x0 xf0 xs0 eW1 gW1
          obtain ⟨x0, xf0, xs0⟩ := HbW1.out.facts
          obtain ⟨b', off', hA', hb', d0, d1, d2⟩ := (Hs.out.grew HgW1.out).atRw Hy.out
          cases hA'
          go_wp2_with fail
          go_quiet (fail)
          obtain ⟨W2, eW2, gW2⟩ : ∃ V, W1.drewN nq = V ∧ Grew W1 V := ⟨_, rfl, (Chg.refl _ _).drewN _⟩
          rw [eW2]
          have HgW2 := Lib.hid (Grew.trans HgW1.out gW2)
          have HbW2 := Lib.hid (HbW1.out.grew gW2)
          have HoW2 := Lib.hid (own_chg HoW1.out gW2 fun _ _ h => h)
          have sW2 : w.heap.size + 1 ≤ W2.heap.size := Nat.le_trans (by have := HbW1.out.lt; omega) gW2.size
          clear d0 d1 d2 x0 xf0 xs0 eW2 gW2
          obtain ⟨x0, xf0, xs0⟩ := HbW2.out.facts
          obtain ⟨b', off', hA', hb', d0, d1, d2⟩ := (Hs.out.grew HgW2.out).atRw Hy.out
          cases hA'
          go_wp2_with (at_builtin; refine wpList_append_lies _ rfl _ _ _ rfl (w.heap.size + 1) 42 i0 _ 3 24 Try.underlying37 hi0 hz0 hz1 hz2 rfl (by omega) (.slice A1 (xs).length c1) (xs).length ((xs).flatMap Rw.vals) rfl (HoW2.out.alloc _) ⟨W2.heap.size, 0, none⟩ 1 1 [.int .i64 y.house, .int .i64 y.rate, .int .i64 y.due] rfl rfl (World.news_of_block (cs := #[.int .i64 y.house, .int .i64 y.rate, .int .i64 y.due]) (t := 42) (fr := (0, 0)) (heap_alloc_new W2 _)) (by simp [Value.oneCell']) (by omega) (by (try simp only [List.length_append, List.length_cons, List.length_nil]); simp only [maxLen]; omega) (by (try simp only [List.length_append, List.length_cons, List.length_nil]); omega) (by simp; omega) (W2.heap.size + 1) (by simp) ?_; intro gbW3 capW3 W3 hown1 hgrow hat hlt1; have HO1 := Lib.hid hown1; have HG1 := Lib.hid (And.intro hgrow hat); clear hown1 hgrow hat)
          have HgW3 := Lib.hid (show Grew w W3 from (HgW2.out.alloc _).grown HG1.out.1 (fun j hj hlt => by have := (HoW2.out.lt j hj).1; omega))
          have HbW3 := Lib.hid (show Blk W3 w.heap.size 42 #[.int .i64 r.house, .int .i64 r.rate, .int .i64 r.due] from (HbW2.out.alloc _).grown HG1.out.1 (fun e => by have := (HoW2.out.lt _ e.symm).1; omega))
          have HoW3 := Lib.hid (show W3.ownsRow (w.heap.size + 1) 42 3 (.slice (some ⟨gbW3, 0, none⟩) (xs ++ [y]).length capW3) (xs ++ [y]).length ((xs ++ [y]).flatMap Rw.vals) from (by have := HO1.out; rw [Rw.snoc] at this; simpa using this))
          have sW3 : w.heap.size + 1 ≤ W3.heap.size := by have := HbW3.out.lt; omega
          clear HO1 HG1
          exact ⟨⟨k + 1, xs ++ [y], some ⟨gbW3, 0, none⟩, capW3, true, by omega, by simp, rfl, by simp, by rw [Hst.out]; have := Hxs.out.on (y := y); rw [oneL, if_neg Hq.out] at this; exact this, HoW3.out, HgW3.out, HbW3.out⟩, by simp [intOf]; omega⟩
      | false =>
        by_cases hlr : y.house < r.house
        · have t1 : decide (r.house ≤ y.house) = false := decide_eq_false (by omega)
          have hq' : (y.house != r.house) = true := by rw [bne_iff_ne]; omega
          go_wp2_with fail
          go_quiet (fail)
          obtain ⟨W1, eW1, gW1⟩ : ∃ V, wr.drewN nq = V ∧ Grew wr V := ⟨_, rfl, (Chg.refl _ _).drewN _⟩
          rw [eW1]
          have HgW1 := Lib.hid (Grew.trans Hgwr.out gW1)
          have HbW1 := Lib.hid (Hbwr.out.grew gW1)
          have HoW1 := Lib.hid (own_chg Howr.out gW1 fun _ _ h => h)
          have sW1 : w.heap.size + 1 ≤ W1.heap.size := Nat.le_trans (by have := Hbwr.out.lt; omega) gW1.size
          clear d0 d1 d2 x0 xf0 xs0 eW1 gW1
          obtain ⟨x0, xf0, xs0⟩ := HbW1.out.facts
          obtain ⟨b', off', hA', hb', d0, d1, d2⟩ := (Hs.out.grew HgW1.out).atRw Hy.out
          cases hA'
          go_wp2_with fail
          go_quiet (fail)
          obtain ⟨W2, eW2, gW2⟩ : ∃ V, W1.drewN nq = V ∧ Grew W1 V := ⟨_, rfl, (Chg.refl _ _).drewN _⟩
          rw [eW2]
          have HgW2 := Lib.hid (Grew.trans HgW1.out gW2)
          have HbW2 := Lib.hid (HbW1.out.grew gW2)
          have HoW2 := Lib.hid (own_chg HoW1.out gW2 fun _ _ h => h)
          have sW2 : w.heap.size + 1 ≤ W2.heap.size := Nat.le_trans (by have := HbW1.out.lt; omega) gW2.size
          clear d0 d1 d2 x0 xf0 xs0 eW2 gW2
          obtain ⟨x0, xf0, xs0⟩ := HbW2.out.facts
          obtain ⟨b', off', hA', hb', d0, d1, d2⟩ := (Hs.out.grew HgW2.out).atRw Hy.out
          cases hA'
          go_wp2_with (at_builtin; refine wpList_append_lies _ rfl _ _ _ rfl (w.heap.size + 1) 42 i0 _ 3 24 Try.underlying37 hi0 hz0 hz1 hz2 rfl (by omega) (.slice A1 (xs).length c1) (xs).length ((xs).flatMap Rw.vals) rfl (HoW2.out.alloc _) ⟨W2.heap.size, 0, none⟩ 1 1 [.int .i64 y.house, .int .i64 y.rate, .int .i64 y.due] rfl rfl (World.news_of_block (cs := #[.int .i64 y.house, .int .i64 y.rate, .int .i64 y.due]) (t := 42) (fr := (0, 0)) (heap_alloc_new W2 _)) (by simp [Value.oneCell']) (by omega) (by (try simp only [List.length_append, List.length_cons, List.length_nil]); simp only [maxLen]; omega) (by (try simp only [List.length_append, List.length_cons, List.length_nil]); omega) (by simp; omega) (W2.heap.size + 1) (by simp) ?_; intro gbW3 capW3 W3 hown1 hgrow hat hlt1; have HO1 := Lib.hid hown1; have HG1 := Lib.hid (And.intro hgrow hat); clear hown1 hgrow hat)
          have HgW3 := Lib.hid (show Grew w W3 from (HgW2.out.alloc _).grown HG1.out.1 (fun j hj hlt => by have := (HoW2.out.lt j hj).1; omega))
          have HbW3 := Lib.hid (show Blk W3 w.heap.size 42 #[.int .i64 r.house, .int .i64 r.rate, .int .i64 r.due] from (HbW2.out.alloc _).grown HG1.out.1 (fun e => by have := (HoW2.out.lt _ e.symm).1; omega))
          have HoW3 := Lib.hid (show W3.ownsRow (w.heap.size + 1) 42 3 (.slice (some ⟨gbW3, 0, none⟩) (xs ++ [y]).length capW3) (xs ++ [y]).length ((xs ++ [y]).flatMap Rw.vals) from (by have := HO1.out; rw [Rw.snoc] at this; simpa using this))
          have sW3 : w.heap.size + 1 ≤ W3.heap.size := by have := HbW3.out.lt; omega
          clear HO1 HG1
          exact ⟨⟨k + 1, xs ++ [y], some ⟨gbW3, 0, none⟩, capW3, false, by omega, by simp, rfl, by simp, by rw [Hst.out]; exact Hxs.out.keep hlr, HoW3.out, HgW3.out, HbW3.out⟩, by simp [intOf]; omega⟩
        · have t1 : decide (r.house ≤ y.house) = true := decide_eq_true (by omega)
          by_cases hq : y.house = r.house
          · have hq' : (y.house != r.house) = false := by simp [hq]
            have Hq := Lib.hid hq
            clear hq
            go_wp2_with fail
            go_quiet (fail)
            obtain ⟨W1, eW1, gW1⟩ : ∃ V, wr.drewN nq = V ∧ Grew wr V := ⟨_, rfl, (Chg.refl _ _).drewN _⟩
            rw [eW1]
            have HgW1 := Lib.hid (Grew.trans Hgwr.out gW1)
            have HbW1 := Lib.hid (Hbwr.out.grew gW1)
            have HoW1 := Lib.hid (own_chg Howr.out gW1 fun _ _ h => h)
            have sW1 : w.heap.size + 1 ≤ W1.heap.size := Nat.le_trans (by have := Hbwr.out.lt; omega) gW1.size
            clear d0 d1 d2 x0 xf0 xs0 eW1 gW1
            obtain ⟨x0, xf0, xs0⟩ := HbW1.out.facts
            obtain ⟨b', off', hA', hb', d0, d1, d2⟩ := (Hs.out.grew HgW1.out).atRw Hy.out
            cases hA'
            go_wp2_with (at_builtin; refine wpList_append_lies _ rfl _ _ _ rfl (w.heap.size + 1) 42 i0 _ 3 24 Try.underlying37 hi0 hz0 hz1 hz2 rfl (by omega) (.slice A1 (xs).length c1) (xs).length ((xs).flatMap Rw.vals) rfl (HoW1.out.alloc _) ⟨W1.heap.size, 0, none⟩ 1 1 [.int .i64 r.house, .int .i64 r.rate, .int .i64 r.due] rfl rfl (World.news_of_block (cs := #[.int .i64 r.house, .int .i64 r.rate, .int .i64 r.due]) (t := 42) (fr := (0, 0)) (heap_alloc_new W1 _)) (by simp [Value.oneCell']) (by omega) (by (try simp only [List.length_append, List.length_cons, List.length_nil]); simp only [maxLen]; omega) (by (try simp only [List.length_append, List.length_cons, List.length_nil]); omega) (by simp; omega) (W1.heap.size + 1) (by simp) ?_; intro gbW2 capW2 W2 hown1 hgrow hat hlt1; have HO1 := Lib.hid hown1; have HG1 := Lib.hid (And.intro hgrow hat); clear hown1 hgrow hat)
            have HgW2 := Lib.hid (show Grew w W2 from (HgW1.out.alloc _).grown HG1.out.1 (fun j hj hlt => by have := (HoW1.out.lt j hj).1; omega))
            have HbW2 := Lib.hid (show Blk W2 w.heap.size 42 #[.int .i64 r.house, .int .i64 r.rate, .int .i64 r.due] from (HbW1.out.alloc _).grown HG1.out.1 (fun e => by have := (HoW1.out.lt _ e.symm).1; omega))
            have HoW2 := Lib.hid (show W2.ownsRow (w.heap.size + 1) 42 3 (.slice (some ⟨gbW2, 0, none⟩) (xs ++ [r]).length capW2) (xs ++ [r]).length ((xs ++ [r]).flatMap Rw.vals) from (by have := HO1.out; rw [Rw.snoc] at this; simpa using this))
            have sW2 : w.heap.size + 1 ≤ W2.heap.size := by have := HbW2.out.lt; omega
            clear HO1 HG1
            clear d0 d1 d2 x0 xf0 xs0
            obtain ⟨x0, xf0, xs0⟩ := HbW2.out.facts
            obtain ⟨b', off', hA', hb', d0, d1, d2⟩ := (Hs.out.grew HgW2.out).atRw Hy.out
            cases hA'
            go_wp2_with fail
            go_quiet (fail)
            obtain ⟨W3, eW3, gW3⟩ : ∃ V, W2.drewN nq = V ∧ Grew W2 V := ⟨_, rfl, (Chg.refl _ _).drewN _⟩
            rw [eW3]
            have HgW3 := Lib.hid (Grew.trans HgW2.out gW3)
            have HbW3 := Lib.hid (HbW2.out.grew gW3)
            have HoW3 := Lib.hid (own_chg HoW2.out gW3 fun _ _ h => h)
            have sW3 : w.heap.size + 1 ≤ W3.heap.size := Nat.le_trans (by have := HbW2.out.lt; omega) gW3.size
            clear d0 d1 d2 x0 xf0 xs0 eW3 gW3
            obtain ⟨x0, xf0, xs0⟩ := HbW3.out.facts
            obtain ⟨b', off', hA', hb', d0, d1, d2⟩ := (Hs.out.grew HgW3.out).atRw Hy.out
            cases hA'
            go_wp2_with fail
            exact ⟨⟨k + 1, xs ++ [r], some ⟨gbW2, 0, none⟩, capW2, true, by omega, by simp, rfl, by simp, by rw [Hst.out]; have := Hxs.out.turn (Int.not_lt.2 hlr); rw [oneL, if_pos Hq.out] at this; simpa using this, HoW3.out, HgW3.out, HbW3.out⟩, by simp [intOf]; omega⟩
          · have hq' : (y.house != r.house) = true := by simpa using hq
            have Hq := Lib.hid hq
            clear hq
            go_wp2_with fail
            go_quiet (fail)
            obtain ⟨W1, eW1, gW1⟩ : ∃ V, wr.drewN nq = V ∧ Grew wr V := ⟨_, rfl, (Chg.refl _ _).drewN _⟩
            rw [eW1]
            have HgW1 := Lib.hid (Grew.trans Hgwr.out gW1)
            have HbW1 := Lib.hid (Hbwr.out.grew gW1)
            have HoW1 := Lib.hid (own_chg Howr.out gW1 fun _ _ h => h)
            have sW1 : w.heap.size + 1 ≤ W1.heap.size := Nat.le_trans (by have := Hbwr.out.lt; omega) gW1.size
            clear d0 d1 d2 x0 xf0 xs0 eW1 gW1
            obtain ⟨x0, xf0, xs0⟩ := HbW1.out.facts
            obtain ⟨b', off', hA', hb', d0, d1, d2⟩ := (Hs.out.grew HgW1.out).atRw Hy.out
            cases hA'
            go_wp2_with (at_builtin; refine wpList_append_lies _ rfl _ _ _ rfl (w.heap.size + 1) 42 i0 _ 3 24 Try.underlying37 hi0 hz0 hz1 hz2 rfl (by omega) (.slice A1 (xs).length c1) (xs).length ((xs).flatMap Rw.vals) rfl (HoW1.out.alloc _) ⟨W1.heap.size, 0, none⟩ 1 1 [.int .i64 r.house, .int .i64 r.rate, .int .i64 r.due] rfl rfl (World.news_of_block (cs := #[.int .i64 r.house, .int .i64 r.rate, .int .i64 r.due]) (t := 42) (fr := (0, 0)) (heap_alloc_new W1 _)) (by simp [Value.oneCell']) (by omega) (by (try simp only [List.length_append, List.length_cons, List.length_nil]); simp only [maxLen]; omega) (by (try simp only [List.length_append, List.length_cons, List.length_nil]); omega) (by simp; omega) (W1.heap.size + 1) (by simp) ?_; intro gbW2 capW2 W2 hown1 hgrow hat hlt1; have HO1 := Lib.hid hown1; have HG1 := Lib.hid (And.intro hgrow hat); clear hown1 hgrow hat)
            have HgW2 := Lib.hid (show Grew w W2 from (HgW1.out.alloc _).grown HG1.out.1 (fun j hj hlt => by have := (HoW1.out.lt j hj).1; omega))
            have HbW2 := Lib.hid (show Blk W2 w.heap.size 42 #[.int .i64 r.house, .int .i64 r.rate, .int .i64 r.due] from (HbW1.out.alloc _).grown HG1.out.1 (fun e => by have := (HoW1.out.lt _ e.symm).1; omega))
            have HoW2 := Lib.hid (show W2.ownsRow (w.heap.size + 1) 42 3 (.slice (some ⟨gbW2, 0, none⟩) (xs ++ [r]).length capW2) (xs ++ [r]).length ((xs ++ [r]).flatMap Rw.vals) from (by have := HO1.out; rw [Rw.snoc] at this; simpa using this))
            have sW2 : w.heap.size + 1 ≤ W2.heap.size := by have := HbW2.out.lt; omega
            clear HO1 HG1
            clear d0 d1 d2 x0 xf0 xs0
            obtain ⟨x0, xf0, xs0⟩ := HbW2.out.facts
            obtain ⟨b', off', hA', hb', d0, d1, d2⟩ := (Hs.out.grew HgW2.out).atRw Hy.out
            cases hA'
            go_wp2_with fail
            go_quiet (fail)
            obtain ⟨W3, eW3, gW3⟩ : ∃ V, W2.drewN nq = V ∧ Grew W2 V := ⟨_, rfl, (Chg.refl _ _).drewN _⟩
            rw [eW3]
            have HgW3 := Lib.hid (Grew.trans HgW2.out gW3)
            have HbW3 := Lib.hid (HbW2.out.grew gW3)
            have HoW3 := Lib.hid (own_chg HoW2.out gW3 fun _ _ h => h)
            have sW3 : w.heap.size + 1 ≤ W3.heap.size := Nat.le_trans (by have := HbW2.out.lt; omega) gW3.size
            clear d0 d1 d2 x0 xf0 xs0 eW3 gW3
            obtain ⟨x0, xf0, xs0⟩ := HbW3.out.facts
            obtain ⟨b', off', hA', hb', d0, d1, d2⟩ := (Hs.out.grew HgW3.out).atRw Hy.out
            cases hA'
            go_wp2_with (at_builtin; refine wpList_append_lies _ rfl _ _ _ rfl (w.heap.size + 1) 42 i0 _ 3 24 Try.underlying37 hi0 hz0 hz1 hz2 rfl (by omega) (.slice (some ⟨gbW2, 0, none⟩) (xs.length + 1) capW2) (xs.length + 1) ((xs ++ [r]).flatMap Rw.vals) rfl ((show W3.ownsRow (w.heap.size + 1) 42 3 (.slice (some ⟨gbW2, 0, none⟩) (xs.length + 1) capW2) (xs.length + 1) ((xs ++ [r]).flatMap Rw.vals) from (by have := HoW3.out; simpa using this)).alloc _) ⟨W3.heap.size, 0, none⟩ 1 1 [.int .i64 y.house, .int .i64 y.rate, .int .i64 y.due] rfl rfl (World.news_of_block (cs := #[.int .i64 y.house, .int .i64 y.rate, .int .i64 y.due]) (t := 42) (fr := (0, 0)) (heap_alloc_new W3 _)) (by simp [Value.oneCell']) (by omega) (by (try simp only [List.length_append, List.length_cons, List.length_nil]); simp only [maxLen]; omega) (by (try simp only [List.length_append, List.length_cons, List.length_nil]); omega) (by simp; omega) (W3.heap.size + 1) (by simp) ?_; intro gbW4 capW4 W4 hown1 hgrow hat hlt1; have HO1 := Lib.hid hown1; have HG1 := Lib.hid (And.intro hgrow hat); clear hown1 hgrow hat)
            have HgW4 := Lib.hid (show Grew w W4 from (HgW3.out.alloc _).grown HG1.out.1 (fun j hj hlt => by have := (HoW3.out.lt j hj).1; omega))
            have HbW4 := Lib.hid (show Blk W4 w.heap.size 42 #[.int .i64 r.house, .int .i64 r.rate, .int .i64 r.due] from (HbW3.out.alloc _).grown HG1.out.1 (fun e => by have := (HoW3.out.lt _ e.symm).1; omega))
            have HoW4 := Lib.hid (show W4.ownsRow (w.heap.size + 1) 42 3 (.slice (some ⟨gbW4, 0, none⟩) (xs ++ [r] ++ [y]).length capW4) (xs ++ [r] ++ [y]).length ((xs ++ [r] ++ [y]).flatMap Rw.vals) from (by have := HO1.out; rw [Rw.snoc] at this; simpa using this))
            have sW4 : w.heap.size + 1 ≤ W4.heap.size := by have := HbW4.out.lt; omega
            clear HO1 HG1
            exact ⟨⟨k + 1, xs ++ [r] ++ [y], some ⟨gbW4, 0, none⟩, capW4, true, by omega, by simp, rfl, by simp, by rw [Hst.out]; have := Hxs.out.turn (Int.not_lt.2 hlr); rw [oneL, if_neg Hq.out] at this; exact this, HoW4.out, HgW4.out, HbW4.out⟩, by simp [intOf]; omega⟩
    · obtain rfl : k = l.length := by omega
      have hxs := Hxs.out
      rw [List.take_length] at hxs
      have Howr := Hown
      have Hgwr := Hg
      have Hbwr := Hb
      cases done with
      | true =>
        have hxe := Lib.hid hxs.fin_yes
        clear hxs Hxs
        go_wp2_with fail
        go_ret
        rw [← hxe.out]
        exact NewOut.mk A1 c1 rfl (Sl.of_own Hown.out) Hg.out (fun a ha => by subst ha; have := (Hown.out.lt _ rfl).1; omega)
      | false =>
        have hxe := Lib.hid hxs.fin_no
        clear hxs Hxs
        go_wp2_with (at_builtin; refine wpList_append_lies _ rfl _ _ _ rfl (w.heap.size + 1) 42 i0 _ 3 24 Try.underlying37 hi0 hz0 hz1 hz2 rfl (by omega) (.slice A1 (xs).length c1) (xs).length ((xs).flatMap Rw.vals) rfl (Howr.out.alloc _) ⟨wr.heap.size, 0, none⟩ 1 1 [.int .i64 r.house, .int .i64 r.rate, .int .i64 r.due] rfl rfl (World.news_of_block (cs := #[.int .i64 r.house, .int .i64 r.rate, .int .i64 r.due]) (t := 42) (fr := (0, 0)) (heap_alloc_new wr _)) (by simp [Value.oneCell']) (by omega) (by (try simp only [List.length_append, List.length_cons, List.length_nil]); simp only [maxLen]; omega) (by (try simp only [List.length_append, List.length_cons, List.length_nil]); omega) (by simp; omega) (wr.heap.size + 1) (by simp) ?_; intro gbW2 capW2 W2 hown1 hgrow hat hlt1; have HO1 := Lib.hid hown1; have HG1 := Lib.hid (And.intro hgrow hat); clear hown1 hgrow hat)
        have HgW2 := Lib.hid (show Grew w W2 from (Hgwr.out.alloc _).grown HG1.out.1 (fun j hj hlt => by have := (Howr.out.lt j hj).1; omega))
        have HbW2 := Lib.hid (show Blk W2 w.heap.size 42 #[.int .i64 r.house, .int .i64 r.rate, .int .i64 r.due] from (Hbwr.out.alloc _).grown HG1.out.1 (fun e => by have := (Howr.out.lt _ e.symm).1; omega))
        have HoW2 := Lib.hid (show W2.ownsRow (w.heap.size + 1) 42 3 (.slice (some ⟨gbW2, 0, none⟩) (xs ++ [r]).length capW2) (xs ++ [r]).length ((xs ++ [r]).flatMap Rw.vals) from (by have := HO1.out; rw [Rw.snoc] at this; simpa using this))
        have sW2 : w.heap.size + 1 ≤ W2.heap.size := by have := HbW2.out.lt; omega
        clear HO1 HG1
        go_ret
        rw [← hxe.out]
        exact NewOut.mk (some ⟨gbW2, 0, none⟩) capW2 (by simp) (Sl.of_own HoW2.out) HgW2.out (fun a ha => by have := (HoW2.out.lt gbW2 rfl).1; simp only [Option.some.injEq] at ha; subst ha; simp only []; omega)

end Go.Proofs.Ytjpkpckgkhbfpaa
