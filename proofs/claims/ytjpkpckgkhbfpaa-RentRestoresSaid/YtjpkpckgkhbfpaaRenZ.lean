/- RentRestores. -/
import Derived.Test.YtjpkpckgkhbfpaaRenY
namespace Go.Proofs.Ytjpkpckgkhbfpaa
open Go.RowKit Go.Maps

set_option maxRecDepth 100000 in
theorem rres_out (l : List Rw) (m : List Rop) (A B : Option Addr) (c d : Nat) (w : World) (h : l.length > 60 ∨ m.length > 40) (hln : (l.length : Int) ≤ 9223372036854775807) (hmn : (m.length : Int) ≤ 9223372036854775807) :
    Calls Try.prog 7 #[.slice A l.length c, .slice B m.length d] w fun e w' => e = .returned (.bool true) ∧ Grew w w' := by
  by_cases h1 : l.length > 60
  · clear h
    go_enter Try.func7, Try.ntmps7
    go_wp2_with (go_at_call 8; refine (rawake_any _).mono ?_; rintro e w2 ⟨rfl, hg2⟩)
    go_ret
    exact ⟨rfl, hg2⟩
  · have h2 : m.length > 40 := by omega
    clear h
    go_enter Try.func7, Try.ntmps7
    go_wp2_with (go_at_call 8; refine (rawake_any _).mono ?_; rintro e w2 ⟨rfl, hg2⟩)
    go_ret
    exact ⟨rfl, hg2⟩

set_option maxRecDepth 100000 in
set_option maxHeartbeats 3200000 in
theorem rres_in (l : List Rw) (m : List Rop) (A B : Option Addr) (c d : Nat) (w : World) (hl : l.length ≤ 60) (hm : m.length ≤ 40) (hs : Sl w 3 A l.length (l.flatMap Rw.vals)) (hok : ∀ r ∈ l, r.ok) (hs2 : Sl w 4 B m.length (m.flatMap Rop.vals)) (hok2 : ∀ r ∈ m, r.ok) :
    Calls Try.prog 7 #[.slice A l.length c, .slice B m.length d] w fun e w' => e = .returned (.bool true) ∧ Grew w w' := by
  obtain ⟨i0, hi0, hz0, hz1, hz2⟩ := info_parts rwInfo
  have hl' : (l.length : Int) ≤ 60 := by omega
  have hm' : (m.length : Int) ≤ 40 := by omega
  have H := Lib.hid (And.intro hs hok)
  have H2 := Lib.hid (And.intro hs2 hok2)
  clear hs hok hs2 hok2
  go_enter Try.func7, Try.ntmps7
  go_wp2_with fail
  go_loopw [5, 6, 7, 27] (fun v z x i wr => ∃ (k : Nat) (A1 : Option Addr) (c1 : Nat), k ≤ l.length ∧ i = .int .i64 k ∧ v = .bool (okL (l.take k) 0) ∧ z = .int .i64 (lastL (l.take k) 0) ∧ x = .slice A1 k c1 ∧ wr.ownsRow w.heap.size 42 3 (.slice A1 k c1) k ((l.take k).flatMap Rw.vals) ∧ Grew w wr) (fun _ _ _ i _ => l.length - (intOf i).toNat)
  case atStart => exact ⟨0, none, 0, Nat.zero_le _, rfl, rfl, rfl, rfl, World.ownsRow_nil _ _ _ _, Chg.refl _ _⟩
  case round =>
    obtain ⟨k, A1, c1, hk, rfl, rfl, rfl, rfl, hown, hg⟩ := hrel
    have Hown := Lib.hid hown
    have Hg := Lib.hid hg
    have hsz := hg.size
    have hxl : k ≤ 60 := by omega
    clear hown hg
    by_cases hlt : k < l.length
    · obtain ⟨r, hr⟩ : ∃ r, l[k]? = some r := ⟨_, List.getElem?_eq_getElem hlt⟩
      obtain ⟨g, off, rfl, hb', d0, d1, d2⟩ := (H.out.1.grew Hg.out).atRw hr
      have HR := Lib.hid hr
      obtain ⟨e1, e2⟩ := okL_take hr 0
      have hX : ∀ cs t, ((wr.alloc (.cells #[.int .i64 r.house, .int .i64 r.rate, .int .i64 r.due] 30)).alloc (.cells cs t)).heap[wr.heap.size + 1]? = some (.cells cs t (0, 0)) := fun cs t => by have := heap_alloc_new (wr.alloc (.cells #[.int .i64 r.house, .int .i64 r.rate, .int .i64 r.due] 30)) (.cells cs t); simpa using this
      have HX := Lib.hid (fun (_ : Unit) => hX #[.int .i64 r.house, .int .i64 r.rate, .int .i64 r.due] 42)
      obtain ⟨last, hlast⟩ : ∃ last, lastL (l.take k) 0 = last := ⟨_, rfl⟩
      rw [hlast] at e1 ⊢
      have HL := Lib.hid hlast
      clear hr hX hlast
      cases hp : okL (l.take k) 0 with
      | false =>
        rw [hp, Bool.false_and] at e1
        have HV := Lib.hid e1
        have HE := Lib.hid (And.intro e1 e2)
        clear e1 e2 hp
        go_wp2_with (at_builtin; refine wpList_append_lies _ rfl _ _ _ rfl w.heap.size 42 i0 _ 3 24 Try.underlying37 hi0 hz0 hz1 hz2 rfl (by omega) (.slice A1 k c1) k ((l.take k).flatMap Rw.vals) rfl (own_grew Hown.out ((((Chg.refl NoF wr).alloc (.cells #[.int .i64 r.house, .int .i64 r.rate, .int .i64 r.due] 30)).alloc (.cells #[.int .i64 r.house, .int .i64 r.rate, .int .i64 r.due] 42)))) ⟨wr.heap.size + 1, 0, none⟩ 1 1 [.int .i64 r.house, .int .i64 r.rate, .int .i64 r.due] rfl rfl (World.news_of_block (cs := #[.int .i64 r.house, .int .i64 r.rate, .int .i64 r.due]) (t := 42) (fr := (0, 0)) (HX.out ())) (by simp [Value.oneCell']) (by omega) (by simp only [maxLen]; omega) (by omega) (by simp; omega) (wr.heap.size + 1 + 1) (by simp) ?_; intro g' cap w1 hown1 hgrow hat hlt1; have HO1 := Lib.hid hown1; have HG1 := Lib.hid (And.intro hgrow hat); clear hown1 hgrow hat)
        have hg1 : Grew w w1 := ((Hg.out.alloc _).alloc _).grown HG1.out.1 (fun j hj hlt => by have := (Hown.out.lt j hj).1; omega)
        have ho1 := HO1.out
        rw [Rw.snoc, show l.take k ++ [r] = l.take (k + 1) by rw [List.take_add_one, HR.out]; rfl] at ho1
        exact ⟨⟨k + 1, some ⟨g', 0, none⟩, cap, by omega, by simp, by rw [HV.out], by rw [HE.out.2], rfl, ho1, hg1⟩, by simp [intOf]; omega⟩
      | true =>
        have hl0 : 0 ≤ last := by have := (okL_le hp).1; rw [HL.out] at this; exact this
        rw [hp, Bool.true_and] at e1
        have HE := Lib.hid (And.intro e1 e2)
        clear e1 e2 hp
        by_cases ha : last < r.house
        rotate_left
        · have ta : decide (last < r.house) = false := decide_eq_false ha
          have hv : okL (l.take (k + 1)) 0 = false := by rw [HE.out.1, fitB]; unfold amt; simp [ta]
          have HV := Lib.hid hv
          clear hv
          go_wp2_with (at_builtin; refine wpList_append_lies _ rfl _ _ _ rfl w.heap.size 42 i0 _ 3 24 Try.underlying37 hi0 hz0 hz1 hz2 rfl (by omega) (.slice A1 k c1) k ((l.take k).flatMap Rw.vals) rfl (own_grew Hown.out ((((Chg.refl NoF wr).alloc (.cells #[.int .i64 r.house, .int .i64 r.rate, .int .i64 r.due] 30)).alloc (.cells #[.int .i64 r.house, .int .i64 r.rate, .int .i64 r.due] 42)))) ⟨wr.heap.size + 1, 0, none⟩ 1 1 [.int .i64 r.house, .int .i64 r.rate, .int .i64 r.due] rfl rfl (World.news_of_block (cs := #[.int .i64 r.house, .int .i64 r.rate, .int .i64 r.due]) (t := 42) (fr := (0, 0)) (HX.out ())) (by simp [Value.oneCell']) (by omega) (by simp only [maxLen]; omega) (by omega) (by simp; omega) (wr.heap.size + 1 + 1) (by simp) ?_; intro g' cap w1 hown1 hgrow hat hlt1; have HO1 := Lib.hid hown1; have HG1 := Lib.hid (And.intro hgrow hat); clear hown1 hgrow hat)
          have hg1 : Grew w w1 := ((Hg.out.alloc _).alloc _).grown HG1.out.1 (fun j hj hlt => by have := (Hown.out.lt j hj).1; omega)
          have ho1 := HO1.out
          rw [Rw.snoc, show l.take k ++ [r] = l.take (k + 1) by rw [List.take_add_one, HR.out]; rfl] at ho1
          exact ⟨⟨k + 1, some ⟨g', 0, none⟩, cap, by omega, by simp, by rw [HV.out], by rw [HE.out.2], rfl, ho1, hg1⟩, by simp [intOf]; omega⟩
        have ta : decide (last < r.house) = true := decide_eq_true ha
        by_cases hb : 1 ≤ r.rate
        rotate_left
        · have tb : decide (1 ≤ r.rate) = false := decide_eq_false hb
          have hv : okL (l.take (k + 1)) 0 = false := by rw [HE.out.1, fitB]; unfold amt; simp [ta, tb]
          have HV := Lib.hid hv
          clear hv
          go_wp2_with (at_builtin; refine wpList_append_lies _ rfl _ _ _ rfl w.heap.size 42 i0 _ 3 24 Try.underlying37 hi0 hz0 hz1 hz2 rfl (by omega) (.slice A1 k c1) k ((l.take k).flatMap Rw.vals) rfl (own_grew Hown.out ((((Chg.refl NoF wr).alloc (.cells #[.int .i64 r.house, .int .i64 r.rate, .int .i64 r.due] 30)).alloc (.cells #[.int .i64 r.house, .int .i64 r.rate, .int .i64 r.due] 42)))) ⟨wr.heap.size + 1, 0, none⟩ 1 1 [.int .i64 r.house, .int .i64 r.rate, .int .i64 r.due] rfl rfl (World.news_of_block (cs := #[.int .i64 r.house, .int .i64 r.rate, .int .i64 r.due]) (t := 42) (fr := (0, 0)) (HX.out ())) (by simp [Value.oneCell']) (by omega) (by simp only [maxLen]; omega) (by omega) (by simp; omega) (wr.heap.size + 1 + 1) (by simp) ?_; intro g' cap w1 hown1 hgrow hat hlt1; have HO1 := Lib.hid hown1; have HG1 := Lib.hid (And.intro hgrow hat); clear hown1 hgrow hat)
          have hg1 : Grew w w1 := ((Hg.out.alloc _).alloc _).grown HG1.out.1 (fun j hj hlt => by have := (Hown.out.lt j hj).1; omega)
          have ho1 := HO1.out
          rw [Rw.snoc, show l.take k ++ [r] = l.take (k + 1) by rw [List.take_add_one, HR.out]; rfl] at ho1
          exact ⟨⟨k + 1, some ⟨g', 0, none⟩, cap, by omega, by simp, by rw [HV.out], by rw [HE.out.2], rfl, ho1, hg1⟩, by simp [intOf]; omega⟩
        have tb : decide (1 ≤ r.rate) = true := decide_eq_true hb
        by_cases hc : r.rate ≤ 1099511627776
        rotate_left
        · have tc : decide (r.rate ≤ 1099511627776) = false := decide_eq_false hc
          have hv : okL (l.take (k + 1)) 0 = false := by rw [HE.out.1, fitB]; unfold amt; simp [ta, tb, tc]
          have HV := Lib.hid hv
          clear hv
          go_wp2_with (at_builtin; refine wpList_append_lies _ rfl _ _ _ rfl w.heap.size 42 i0 _ 3 24 Try.underlying37 hi0 hz0 hz1 hz2 rfl (by omega) (.slice A1 k c1) k ((l.take k).flatMap Rw.vals) rfl (own_grew Hown.out ((((Chg.refl NoF wr).alloc (.cells #[.int .i64 r.house, .int .i64 r.rate, .int .i64 r.due] 30)).alloc (.cells #[.int .i64 r.house, .int .i64 r.rate, .int .i64 r.due] 42)))) ⟨wr.heap.size + 1, 0, none⟩ 1 1 [.int .i64 r.house, .int .i64 r.rate, .int .i64 r.due] rfl rfl (World.news_of_block (cs := #[.int .i64 r.house, .int .i64 r.rate, .int .i64 r.due]) (t := 42) (fr := (0, 0)) (HX.out ())) (by simp [Value.oneCell']) (by omega) (by simp only [maxLen]; omega) (by omega) (by simp; omega) (wr.heap.size + 1 + 1) (by simp) ?_; intro g' cap w1 hown1 hgrow hat hlt1; have HO1 := Lib.hid hown1; have HG1 := Lib.hid (And.intro hgrow hat); clear hown1 hgrow hat)
          have hg1 : Grew w w1 := ((Hg.out.alloc _).alloc _).grown HG1.out.1 (fun j hj hlt => by have := (Hown.out.lt j hj).1; omega)
          have ho1 := HO1.out
          rw [Rw.snoc, show l.take k ++ [r] = l.take (k + 1) by rw [List.take_add_one, HR.out]; rfl] at ho1
          exact ⟨⟨k + 1, some ⟨g', 0, none⟩, cap, by omega, by simp, by rw [HV.out], by rw [HE.out.2], rfl, ho1, hg1⟩, by simp [intOf]; omega⟩
        have tc : decide (r.rate ≤ 1099511627776) = true := decide_eq_true hc
        by_cases hd : 0 ≤ r.due
        rotate_left
        · have td : decide (0 ≤ r.due) = false := decide_eq_false hd
          have hv : okL (l.take (k + 1)) 0 = false := by rw [HE.out.1, fitB]; unfold amt; simp [ta, tb, tc, td]
          have HV := Lib.hid hv
          clear hv
          go_wp2_with (at_builtin; refine wpList_append_lies _ rfl _ _ _ rfl w.heap.size 42 i0 _ 3 24 Try.underlying37 hi0 hz0 hz1 hz2 rfl (by omega) (.slice A1 k c1) k ((l.take k).flatMap Rw.vals) rfl (own_grew Hown.out ((((Chg.refl NoF wr).alloc (.cells #[.int .i64 r.house, .int .i64 r.rate, .int .i64 r.due] 30)).alloc (.cells #[.int .i64 r.house, .int .i64 r.rate, .int .i64 r.due] 42)))) ⟨wr.heap.size + 1, 0, none⟩ 1 1 [.int .i64 r.house, .int .i64 r.rate, .int .i64 r.due] rfl rfl (World.news_of_block (cs := #[.int .i64 r.house, .int .i64 r.rate, .int .i64 r.due]) (t := 42) (fr := (0, 0)) (HX.out ())) (by simp [Value.oneCell']) (by omega) (by simp only [maxLen]; omega) (by omega) (by simp; omega) (wr.heap.size + 1 + 1) (by simp) ?_; intro g' cap w1 hown1 hgrow hat hlt1; have HO1 := Lib.hid hown1; have HG1 := Lib.hid (And.intro hgrow hat); clear hown1 hgrow hat)
          have hg1 : Grew w w1 := ((Hg.out.alloc _).alloc _).grown HG1.out.1 (fun j hj hlt => by have := (Hown.out.lt j hj).1; omega)
          have ho1 := HO1.out
          rw [Rw.snoc, show l.take k ++ [r] = l.take (k + 1) by rw [List.take_add_one, HR.out]; rfl] at ho1
          exact ⟨⟨k + 1, some ⟨g', 0, none⟩, cap, by omega, by simp, by rw [HV.out], by rw [HE.out.2], rfl, ho1, hg1⟩, by simp [intOf]; omega⟩
        have td : decide (0 ≤ r.due) = true := decide_eq_true hd
        by_cases he : r.due ≤ 4398046511104
        rotate_left
        · have te : decide (r.due ≤ 4398046511104) = false := decide_eq_false he
          have hv : okL (l.take (k + 1)) 0 = false := by rw [HE.out.1, fitB]; unfold amt; simp [ta, tb, tc, td, te]
          have HV := Lib.hid hv
          clear hv
          go_wp2_with (at_builtin; refine wpList_append_lies _ rfl _ _ _ rfl w.heap.size 42 i0 _ 3 24 Try.underlying37 hi0 hz0 hz1 hz2 rfl (by omega) (.slice A1 k c1) k ((l.take k).flatMap Rw.vals) rfl (own_grew Hown.out ((((Chg.refl NoF wr).alloc (.cells #[.int .i64 r.house, .int .i64 r.rate, .int .i64 r.due] 30)).alloc (.cells #[.int .i64 r.house, .int .i64 r.rate, .int .i64 r.due] 42)))) ⟨wr.heap.size + 1, 0, none⟩ 1 1 [.int .i64 r.house, .int .i64 r.rate, .int .i64 r.due] rfl rfl (World.news_of_block (cs := #[.int .i64 r.house, .int .i64 r.rate, .int .i64 r.due]) (t := 42) (fr := (0, 0)) (HX.out ())) (by simp [Value.oneCell']) (by omega) (by simp only [maxLen]; omega) (by omega) (by simp; omega) (wr.heap.size + 1 + 1) (by simp) ?_; intro g' cap w1 hown1 hgrow hat hlt1; have HO1 := Lib.hid hown1; have HG1 := Lib.hid (And.intro hgrow hat); clear hown1 hgrow hat)
          have hg1 : Grew w w1 := ((Hg.out.alloc _).alloc _).grown HG1.out.1 (fun j hj hlt => by have := (Hown.out.lt j hj).1; omega)
          have ho1 := HO1.out
          rw [Rw.snoc, show l.take k ++ [r] = l.take (k + 1) by rw [List.take_add_one, HR.out]; rfl] at ho1
          exact ⟨⟨k + 1, some ⟨g', 0, none⟩, cap, by omega, by simp, by rw [HV.out], by rw [HE.out.2], rfl, ho1, hg1⟩, by simp [intOf]; omega⟩
        have te : decide (r.due ≤ 4398046511104) = true := decide_eq_true he
        have t0 : decide (1 ≤ r.house) = true := decide_eq_true (by omega)
        have t9 : decide (0 ≤ r.rate) = true := decide_eq_true (by omega)
        have hv : okL (l.take (k + 1)) 0 = true := by rw [HE.out.1, fitB]; unfold amt; simp [ta, tb, tc, td, te, t0, t9]
        have HV := Lib.hid hv
        clear hv t0 t9
        go_wp2_with (at_builtin; refine wpList_append_lies _ rfl _ _ _ rfl w.heap.size 42 i0 _ 3 24 Try.underlying37 hi0 hz0 hz1 hz2 rfl (by omega) (.slice A1 k c1) k ((l.take k).flatMap Rw.vals) rfl (own_grew Hown.out ((((Chg.refl NoF wr).alloc (.cells #[.int .i64 r.house, .int .i64 r.rate, .int .i64 r.due] 30)).alloc (.cells #[.int .i64 r.house, .int .i64 r.rate, .int .i64 r.due] 42)))) ⟨wr.heap.size + 1, 0, none⟩ 1 1 [.int .i64 r.house, .int .i64 r.rate, .int .i64 r.due] rfl rfl (World.news_of_block (cs := #[.int .i64 r.house, .int .i64 r.rate, .int .i64 r.due]) (t := 42) (fr := (0, 0)) (HX.out ())) (by simp [Value.oneCell']) (by omega) (by simp only [maxLen]; omega) (by omega) (by simp; omega) (wr.heap.size + 1 + 1) (by simp) ?_; intro g' cap w1 hown1 hgrow hat hlt1; have HO1 := Lib.hid hown1; have HG1 := Lib.hid (And.intro hgrow hat); clear hown1 hgrow hat)
        have hg1 : Grew w w1 := ((Hg.out.alloc _).alloc _).grown HG1.out.1 (fun j hj hlt => by have := (Hown.out.lt j hj).1; omega)
        have ho1 := HO1.out
        rw [Rw.snoc, show l.take k ++ [r] = l.take (k + 1) by rw [List.take_add_one, HR.out]; rfl] at ho1
        exact ⟨⟨k + 1, some ⟨g', 0, none⟩, cap, by omega, by simp, by rw [HV.out], by rw [HE.out.2], rfl, ho1, hg1⟩, by simp [intOf]; omega⟩
    · obtain rfl : k = l.length := by omega
      rw [List.take_length] at Hown ⊢
      have HSx := Lib.hid (Sl.of_own Hown.out)
      clear hk hlt hsz hxl
      cases hp : okL l 0 with
      | false =>
        have HPf := Lib.hid hp
        clear hp
        go_wp2_with fail
        refine (rrestore_any l A c _ hl (H.out.1.grew Hg.out) H.out.2).mono ?_
        rintro e w3 (⟨h3, -⟩ | ⟨-, rfl, hg3⟩)
        · rw [HPf.out] at h3; cases h3
        have HG3 := Lib.hid (Grew.trans Hg.out hg3)
        clear hg3
        go_wp2_with (go_at_call 8; refine (rawake_any _).mono ?_; rintro e w4 ⟨rfl, hg4⟩; have HG4 := Lib.hid (Grew.trans HG3.out hg4); clear hg4)
        go_ret
        exact ⟨rfl, HG4.out⟩
      | true =>
        have HPt := Lib.hid (okL_rising hp)
        have HPo := Lib.hid hp
        clear hp
        go_wp2_with fail
        refine (rrestore_any l A c _ hl (H.out.1.grew Hg.out) H.out.2).mono ?_
        rintro e w3 (⟨-, b, rfl, hm3⟩ | ⟨h3, -⟩)
        rotate_left
        · rw [HPo.out] at h3; cases h3
        obtain ⟨F, hrs⟩ := hm3.rs
        have HR3 := Lib.hid hrs
        have HG3 := Lib.hid (Grew.trans Hg.out hm3.grew)
        have HS3 := Lib.hid (HSx.out.grew hm3.grew)
        clear hm3 hrs
        go_wp2_with (first
          | (go_at_call 19; refine (rsame_any b F l _ A1 c1 _ HR3.out HPt.out (by omega) HS3.out).mono ?_; rintro e w4 ⟨rfl, hg4⟩; have HR4 := Lib.hid (HR3.out.grew hg4); have HG4 := Lib.hid (Grew.trans HG3.out hg4); have HS4 := Lib.hid (HS3.out.grew hg4); clear hg4)
          | (go_at_call 24; refine (rcopy_any b F l _ _ HR4.out (by omega)).mono ?_; rintro e w5 ⟨b5, F5, rfl, hr5, hg5, hn5⟩; have HC5 := Lib.hid (show SR (Bs.of w4) w5 b5 l l l.length A1 from ⟨F5, hr5, hg5.chg, hn5, HS4.out.grew hg5, fun hl0 a ha hf => by obtain ⟨g, off, e, hb, -⟩ := HS4.out.2 hl0; rw [ha] at e; cases e; exact absurd (hn5 _ hf) (by simp only []; omega)⟩); clear hr5 hg5 hn5))
        go_loopw [11, 13, 100] (fun _ v i wr => ∃ (k : Nat) (y : List Rw) (Ay : Option Addr) (cy : Nat), k ≤ m.length ∧ i = .int .i64 k ∧ v = .slice Ay y.length cy ∧ SR (Bs.of w4) wr b5 y y (l.length + k) Ay ∧ rising y) (fun _ _ i _ => m.length - (intOf i).toNat)
        case atStart => exact ⟨0, l, A1, c1, Nat.zero_le _, rfl, rfl, HC5.out, HPt.out⟩
        case round =>
          obtain ⟨k, y, Ay, cy, hk, rfl, rfl, hsr, hy⟩ := hrel
          have HSy := Lib.hid (And.intro hsr hy)
          clear hsr hy
          by_cases hlt : k < m.length
          · obtain ⟨o, ho⟩ : ∃ o, m[k]? = some o := ⟨_, List.getElem?_eq_getElem hlt⟩
            obtain ⟨g, off, rfl, hb', d0, d1, d2, d3⟩ := ((H2.out.1.grew HG4.out).grew HSy.out.1.grew).atRop ho
            have HO := Lib.hid (H2.out.2 o (List.mem_of_getElem? ho))
            clear ho
            go_wp2_with (go_at_call 14; refine (rstep_any o (Bs.of w4) _ b5 (l.length + k) y Ay cy (HSy.out.1.on ((Chg.refl _ _).alloc _)) (by omega) HO.out).mono ?_; rintro e w6 ⟨A6, c6, rfl, h6⟩; have H6 := Lib.hid h6; clear h6)
            exact ⟨⟨k + 1, stepL y o, A6, c6, by omega, by simp, rfl, H6.out, stepL_rising HSy.out.2 o⟩, by simp [intOf]; omega⟩
          · obtain rfl : k = m.length := by omega
            go_wp2_with fail
            refine (HSy.out.1.same HSy.out.2 (by omega)).mono ?_
            rintro e w7 ⟨rfl, hg7⟩
            have HG7 := Lib.hid (Grew.trans HSy.out.1.grew hg7)
            clear hg7
            go_wp2_with fail
            refine (rsame_any b F l _ A1 c1 _ (HR4.out.grew HG7.out) HPt.out (by omega) (HS4.out.grew HG7.out)).mono ?_
            rintro e w8 ⟨rfl, hg8⟩
            have HG8 := Lib.hid (Grew.trans HG7.out hg8)
            clear hg8
            go_wp2_with (go_at_call 8; refine (rawake_any _).mono ?_; rintro e w9 ⟨rfl, hg9⟩; have HG9 := Lib.hid (Grew.trans HG4.out (Grew.trans HG8.out hg9)); clear hg9)
            go_ret
            exact ⟨rfl, HG9.out⟩

end Go.Proofs.Ytjpkpckgkhbfpaa
