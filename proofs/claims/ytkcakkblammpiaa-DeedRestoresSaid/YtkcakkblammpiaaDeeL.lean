/- DeedRestores: deeds are told again from their list; a list is refused just if the document says so. -/
import Derived.Test.YtkcakkblammpiaaDeeO
namespace Go.Proofs.Ytkcakkblammpiaa
open Go.RowKit

theorem issueE_new {l : List Dee} {m n : Int} (hm : 1 ≤ m) (hn : 1 ≤ n) (h1 : ∀ x ∈ l, vof true x ≠ m) (h2 : ∀ x ∈ l, vof false x ≠ n) : issueE l m n = 0 := by
  have hf : fidx (fun z : Dee => z.plot == m) l = -1 := by
    rcases fidx_cases (fun z : Dee => z.plot == m) l with ⟨e, -⟩ | ⟨j, z, -, hz, hp, -⟩
    · exact e
    · have := h1 z (List.mem_of_getElem? hz)
      simp at hp
      exact absurd hp (by simpa [vof] using this)
  have hh : (heldOf l n).length = 0 := by
    rw [heldOf_count, List.countP_eq_zero]
    intro x hx
    have := h2 x hx
    simpa [vof] using this
  unfold issueE mayE
  rw [hf, hh, if_neg (by omega), if_neg (by omega), if_neg (by omega), if_neg (by omega)]

set_option maxRecDepth 100000 in
set_option maxHeartbeats 400000 in
theorem restores_out (l : List Dee) (nx : Int) (A : Option Addr) (c : Nat) (w : World) (hl : l.length > 60) (hln : (l.length : Int) ≤ 9223372036854775807) :
    Calls Try.prog 5 #[.slice A l.length c, .int .i64 nx] w fun e w' => e = .returned (.bool true) ∧ Grew w w' := by
  go_enter Try.func5, Try.ntmps5
  go_wp2_with (go_at_call 8; refine (awake_any _).mono ?_; rintro e w2 ⟨rfl, hg2⟩)
  go_ret
  exact ⟨rfl, hg2⟩

set_option maxRecDepth 100000 in
set_option maxHeartbeats 1600000 in
theorem restores_in (l : List Dee) (nx : Int) (A : Option Addr) (c : Nat) (w : World) (hl : l.length ≤ 60) (hnx : nx ≤ 9223372036854775807) (hs : Sl w 3 A l.length (l.flatMap Dee.vals)) :
    Calls Try.prog 5 #[.slice A l.length c, .int .i64 nx] w fun e w' => e = .returned (.bool true) ∧ Grew w w' := by
  obtain ⟨i0, hi0, hz0, hz1, hz2⟩ := info_parts rdeeInfo
  have Hs := Lib.hid hs
  clear hs
  go_enter Try.func5, Try.ntmps5
  go_wp2_with fail
  go_loopw [5, 18] (fun v i wr => ∃ (k : Nat), k ≤ l.length ∧ i = .int .i64 k ∧ wr.ownsRow w.heap.size 41 3 v k ((l.take k).flatMap Dee.vals) ∧ Grew w wr) (fun _ i _ => l.length - (intOf i).toNat)
  case atStart => exact ⟨0, Nat.zero_le _, rfl, World.ownsRow_nil _ _ _ _, Chg.refl _ _⟩
  case round =>
    obtain ⟨k, hk, rfl, ho, hg⟩ := hrel
    have Ho := Lib.hid ho
    have Hg := Lib.hid hg
    have hsz := hg.size
    clear ho hg
    by_cases hlt : k < l.length
    · obtain ⟨x, hx⟩ : ∃ x, l[k]? = some x := ⟨_, List.getElem?_eq_getElem hlt⟩
      obtain ⟨b, off, rfl, hb, d0, d1, d2⟩ := (Hs.out.grew Hg.out).atDee hx
      have Hx := Lib.hid hx
      clear hx
      have Hoa := Lib.hid (own_grew Ho.out (((Chg.refl NoF wr).alloc (.cells #[.int .i64 x.id, .int .i64 x.plot, .int .i64 x.holder] 34)).alloc (.cells #[.int .i64 x.id, .int .i64 x.plot, .int .i64 x.holder] 41)))
      go_wp2_with (at_builtin; refine wpList_append_own_at _ (by rfl) _ _ 26 (by rfl) w.heap.size 41 i0 _ 3 24 Try.underlying26 hi0 hz0 hz1 hz2 rfl (by decide) _ k _ (by rfl) Hoa.out ⟨wr.heap.size + 1, 0, none⟩ 1 1 [.int .i64 x.id, .int .i64 x.plot, .int .i64 x.holder] (by rfl) (by rfl) (World.news_of_block (cs := #[.int .i64 x.id, .int .i64 x.plot, .int .i64 x.holder]) (t := 41) (fr := (0, 0)) (by have := heap_alloc_new (wr.alloc (.cells #[.int .i64 x.id, .int .i64 x.plot, .int .i64 x.holder] 34)) (.cells #[.int .i64 x.id, .int .i64 x.plot, .int .i64 x.holder] 41); simpa using this)) (by simp [Value.oneCell']) (by simp only [maxLen]; omega) (by omega) (by simp; omega) ?_; intro v' w5 ho5 hg5 _ _; have HO5 := Lib.hid ho5; have HG5 := Lib.hid (grew_row ((Hg.out.alloc _).alloc _) Hoa.out hg5); clear ho5 hg5)
      exact ⟨⟨k + 1, by omega, by simp, by have := HO5.out; rw [← Dee.take_snoc Hx.out]; simpa [Dee.vals] using this, HG5.out⟩, by simp [intOf]; omega⟩
    · obtain rfl : k = l.length := by omega
      obtain ⟨A1, c1, rfl, -⟩ := own_shape Ho.out
      have HS := Lib.hid (show Sl wr 3 A1 l.length (l.flatMap Dee.vals) from by have := Sl.of_own Ho.out; simpa using this)
      obtain ⟨wo, rfl⟩ : ∃ wo : World, wo = wr := ⟨_, rfl⟩
      clear Ho
      by_cases hR : Rgt l nx
      · have HR := Lib.hid hR
        clear hR
        go_wp2_with (go_at_call 20; refine (restore_any nx l A c _ (by omega) (Hs.out.grew Hg.out) hnx).mono ?_; rintro e w2 (⟨hno, -, -⟩ | ⟨-, b, A2, c2, rfl, hM⟩) <;> first | exact absurd HR.out hno | skip)
        have HM := Lib.hid hM
        clear hM
        go_wp2_with (first
          | (go_at_call 19; refine (rright_any nx l A1 c1 _ (by omega) (HS.out.grew HM.out.grew) true ⟨fun _ => HR.out, fun _ => rfl⟩).mono ?_; rintro e w3 ⟨rfl, hg3⟩; have HM3 := Lib.hid (HM.out.more hg3); clear hg3)
          | (go_at_call 18; refine (same_core b nx l A2 A1 c2 c1 _ (by omega) HM3.out.isIn (HS.out.grew HM3.out.grew)).mono ?_; rintro e w4 ⟨rfl, hg4⟩; have HM4 := Lib.hid (HM3.out.more hg4); clear hg4))
        refine (other_any true l A c _ (by omega) (Hs.out.grew (Grew.trans Hg.out HM4.out.grew))).mono ?_
        rintro e w5 ⟨m, rfl, hm, hm2, hg5⟩
        have HM5 := Lib.hid (HM4.out.more hg5)
        have Hm2 := Lib.hid hm2
        clear hg5 hm2
        go_wp2_with fail
        refine (other_any false l A c _ (by omega) (Hs.out.grew (Grew.trans Hg.out HM5.out.grew))).mono ?_
        rintro e w6 ⟨n, rfl, hn, hn2, hg6⟩
        have HM6 := Lib.hid (HM5.out.more hg6)
        have Hn2 := Lib.hid hn2
        clear hg6 hn2
        go_wp2_with (first
          | (go_at_call 21; refine (issue_yes b nx m n l A2 c2 _ HM6.out.isIn (by omega) (issueE_new hm hn Hm2.out Hn2.out) (by have := HR.out.1; omega) (by have := HR.out.2.1; omega)).mono ?_; rintro e w7 ⟨rfl, hd7⟩; have HD7 := Lib.hid hd7; clear hd7)
          | (go_at_call 8; refine (awake_any _).mono ?_; rintro e w8 ⟨rfl, hg8⟩))
        go_ret
        obtain ⟨A7, c7, hM7⟩ := HM6.out.to HD7.out
        exact ⟨rfl, Grew.trans Hg.out (Grew.trans hM7.grew hg8)⟩
      · have HR := Lib.hid hR
        clear hR
        go_wp2_with (first
          | (go_at_call 20; refine (restore_any nx l A c _ (by omega) (Hs.out.grew Hg.out) hnx).mono ?_; rintro e w2 (⟨-, rfl, hg2⟩ | ⟨hyes, -⟩) <;> first | exact absurd hyes HR.out | skip; have Hg2 := Lib.hid hg2; clear hg2)
          | (go_at_call 19; refine (rright_any nx l A1 c1 _ (by omega) (HS.out.grew Hg2.out) false ⟨fun h => by (cases h), fun h => absurd h HR.out⟩).mono ?_; rintro e w3 ⟨rfl, hg3⟩; have Hg3 := Lib.hid (Grew.trans Hg2.out hg3); clear hg3)
          | (go_at_call 8; refine (awake_any _).mono ?_; rintro e w8 ⟨rfl, hg8⟩))
        go_ret
        exact ⟨rfl, Grew.trans Hg.out (Grew.trans Hg3.out hg8)⟩

end Go.Proofs.Ytkcakkblammpiaa
