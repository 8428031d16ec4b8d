/- The deeds: slices.Delete and slices.Clone over them; May. -/
import Derived.Test.YtkcakkblammpiaaDeeD
import Derived.Test.YtkcakkblammpiaaRow
namespace Go.Proofs.Ytkcakkblammpiaa
open Go.RowKit

theorem Dee.info : (Try.prog.info? 34).map (fun i => (i.zero, i.size, i.bytes)) = some (some (.agg #[.int .i64 0, .int .i64 0, .int .i64 0]), 3, 24) := by kernel_rfl

theorem Dee.delete_step (l : List Dee) (k cap g : Nat) (w : World) (h : w.ownsRow 0 34 3 (.slice (some ⟨g, 0, none⟩) l.length cap) l.length (l.flatMap Dee.vals)) (hk : k < l.length) (a : Addr) (c : Nat) (ha : a = ⟨g, (k + 1) * 3, none⟩ ∨ l.length = k + 1) :
    ∃ w1 w2, (Builtin.append_ #[49, 49] 49 #[.slice (some ⟨g, 0, none⟩) k cap, .slice (some a) (l.length - (k + 1)) c]).run Try.prog w.drew = .ok (.slice (some ⟨g, 0, none⟩) (l.length - 1) cap) w1 ∧
      (Builtin.clear_ #[49] 0 #[.slice (some ⟨g, (l.length - 1) * 3, none⟩) (l.length - (l.length - 1)) (cap - (l.length - 1))]).run Try.prog w1 = .ok (.tuple #[]) w2 ∧
      w2.ownsRow 0 34 3 (.slice (some ⟨g, 0, none⟩) (l.eraseIdx k).length cap) (l.eraseIdx k).length ((l.eraseIdx k).flatMap Dee.vals) ∧ Chg (fun j => j = g) w w2 := by
  obtain ⟨i0, hi0, hz0, hz1, hz2⟩ := info_parts Dee.info
  obtain ⟨cur, -, hg, hnc, hcm, -⟩ := own_row h
  have _hkk : ((k : Int) == (k : Int) + 1) = false := by rw [beq_eq_false_iff_ne]; omega
  have hcc : (cap : Int) ≤ 9223372036854775807 := by unfold maxLen at hcm; omega
  have hlen : (l.eraseIdx k).length = l.length - 1 := by rw [List.length_eraseIdx]; simp [hk]
  have hel : k + (l.length - (k + 1)) = l.length - 1 := by omega
  have hnews : ∀ a : Addr, (a = ⟨g, (k + 1) * 3, none⟩ ∨ l.length = k + 1) → ∀ j u, ((l.flatMap Dee.vals).drop ((k + 1) * 3))[j]? = some u → w.cell? (a.add j) = some u := by
    rintro a (rfl | hl) j u hu
    · rw [List.getElem?_drop] at hu
      have hc := h.cells (g := g) rfl ((k + 1) * 3 + j) u hu
      rw [Addr.add_lit] at hc ⊢
      simpa using hc
    · rw [List.drop_eq_nil_of_le (by rw [Dee.vals_len]; omega)] at hu
      simp at hu
  obtain ⟨w1, hr1, hown1, hg1⟩ := run_append_within (P := Try.prog) (w := w.drew) (ty := 49) (p := k) (m := l.length - (k + 1)) (c := c) (news := (l.flatMap Dee.vals).drop ((k + 1) * 3)) (a := a) Try.underlying49 hi0 hz1 h
    (by rw [List.length_drop, Dee.vals_len]; omega) (hnews a ha) (fun u hu => Dee.one_cell l u (List.mem_of_mem_drop hu)) (by omega)
  obtain ⟨w2, hr2, hown2, hg2⟩ := run_clear_within (P := Try.prog) (s := 3) (ty := 0) (p := l.length - 1) (m := l.length - (l.length - 1)) (c := cap - (l.length - 1)) Try.underlying49 hi0 hz0 rfl (by simp [Value.cells, Value.oneCell']) hown1 (by omega) (by omega)
  rw [hel] at hr1
  have hO := own_short hown2 (m := l.length - 1) (by omega)
  rw [del_row _ _ _ _ _ _ _ (Dee.vals_len l) hk, ← Dee.erase_vals, ← hlen] at hO
  exact ⟨w1, w2, hr1, hr2, hO, ((Chg.refl _ w).drew.grown hg1 (fun k h _ => by cases h; rfl)).grown hg2 (fun k h _ => by cases h; rfl)⟩

set_option maxHeartbeats 1600000 in
theorem Dee.delete_end (l : List Dee) (k cap g : Nat) (w : World) (h : w.ownsRow 0 34 3 (.slice (some ⟨g, 0, none⟩) l.length cap) l.length (l.flatMap Dee.vals)) (hk : k < l.length) (hn : l.length ≤ 1000000) (hc' : cap = k + 1) :
    Calls Try.prog 38 #[.slice (some ⟨g, 0, none⟩) l.length cap, .int .i64 k, .int .i64 (k + 1)] w fun e w' =>
      e = .returned (.slice (some ⟨g, 0, none⟩) (l.eraseIdx k).length cap) ∧ w'.ownsRow 0 34 3 (.slice (some ⟨g, 0, none⟩) (l.eraseIdx k).length cap) (l.eraseIdx k).length ((l.eraseIdx k).flatMap Dee.vals) ∧ Chg (fun j => j = g) w w' := by
  obtain ⟨cur, -, hg, hnc, hcm, -⟩ := own_row h
  have hkk : ((k : Int) == (k : Int) + 1) = false := by rw [beq_eq_false_iff_ne]; omega
  have hcc : (cap : Int) ≤ 9223372036854775807 := by unfold maxLen at hcm; omega
  have hlen : (l.eraseIdx k).length = l.length - 1 := by rw [List.length_eraseIdx]; simp [hk]
  have hk1 : k ≤ cap := by omega
  have hk2 : k + 1 ≤ l.length := by omega
  have hk3 : k + 1 ≤ cap := by omega
  have hk4 : (0 : Int) ≤ (k : Int) := by omega
  have hk7 : (0 : Int) ≤ (k : Int) + 1 := by omega
  have hk5 : (k : Int) ≤ (cap : Int) := by omega
  have hk6 : (k : Int) + 1 ≤ (l.length : Int) := by omega
  have Hlen := Lib.hid hlen
  obtain ⟨w1, w2, hr1, hr2, hO, hC⟩ := Dee.delete_step l k cap g w h hk ⟨g, 0, none⟩ 0 (.inr (by omega))
  rw [show l.length - (k + 1) = 0 by omega] at hr1
  subst hc'
  have hne : ¬ (k + 1 = l.length - 1) := by omega
  have hk8 : (k : Int) ≤ (k : Int) + 1 := by omega
  have hk9 : k ≤ k + 1 := by omega
  have Hr1 := Lib.hid hr1
  have Hr2 := Lib.hid hr2
  have H := Lib.hid (And.intro hO hC)
  clear h hlen hg hr1 hr2 hO hC
  go_enter Try.func38, Try.ntmps38
  go_wp2
  go_region_law ((refine step_append_run (by rfl) _ _ _ (by rfl) (by rfl) (by rfl) Hr1.out ?_))
  go_wp2_with (refine wpList_clear_run rfl _ _ rfl (by rfl) Hr2.out ?_)
  go_ret
  exact ⟨by rw [Hlen.out]; rfl, H.out.1, H.out.2⟩

set_option maxHeartbeats 1600000 in
theorem Dee.delete_mid (l : List Dee) (k cap g : Nat) (w : World) (h : w.ownsRow 0 34 3 (.slice (some ⟨g, 0, none⟩) l.length cap) l.length (l.flatMap Dee.vals)) (hk : k < l.length) (hn : l.length ≤ 1000000) (hc' : ¬ cap = k + 1) :
    Calls Try.prog 38 #[.slice (some ⟨g, 0, none⟩) l.length cap, .int .i64 k, .int .i64 (k + 1)] w fun e w' =>
      e = .returned (.slice (some ⟨g, 0, none⟩) (l.eraseIdx k).length cap) ∧ w'.ownsRow 0 34 3 (.slice (some ⟨g, 0, none⟩) (l.eraseIdx k).length cap) (l.eraseIdx k).length ((l.eraseIdx k).flatMap Dee.vals) ∧ Chg (fun j => j = g) w w' := by
  obtain ⟨cur, -, hg, hnc, hcm, -⟩ := own_row h
  have hkk : ((k : Int) == (k : Int) + 1) = false := by rw [beq_eq_false_iff_ne]; omega
  have hcc : (cap : Int) ≤ 9223372036854775807 := by unfold maxLen at hcm; omega
  have hlen : (l.eraseIdx k).length = l.length - 1 := by rw [List.length_eraseIdx]; simp [hk]
  have hk1 : k ≤ cap := by omega
  have hk2 : k + 1 ≤ l.length := by omega
  have hk3 : k + 1 ≤ cap := by omega
  have hk4 : (0 : Int) ≤ (k : Int) := by omega
  have hk7 : (0 : Int) ≤ (k : Int) + 1 := by omega
  have hk5 : (k : Int) ≤ (cap : Int) := by omega
  have hk6 : (k : Int) + 1 ≤ (l.length : Int) := by omega
  have Hlen := Lib.hid hlen
  obtain ⟨w1, w2, hr1, hr2, hO, hC⟩ := Dee.delete_step l k cap g w h hk ⟨g, (k + 1) * 3, none⟩ (cap - (k + 1)) (.inl rfl)
  have Hr1 := Lib.hid hr1
  have Hr2 := Lib.hid hr2
  have H := Lib.hid (And.intro hO hC)
  clear h hlen hg hr1 hr2 hO hC
  go_enter Try.func38, Try.ntmps38
  go_wp2
  go_region_law ((refine step_append_run (by rfl) _ _ _ (by rfl) (by rfl) (by rfl) Hr1.out ?_))
  go_wp2_with (refine wpList_clear_run rfl _ _ rfl (by rfl) Hr2.out ?_)
  go_ret
  exact ⟨by rw [Hlen.out]; rfl, H.out.1, H.out.2⟩

theorem Dee.delete_any (l : List Dee) (k cap g : Nat) (w : World) (h : w.ownsRow 0 34 3 (.slice (some ⟨g, 0, none⟩) l.length cap) l.length (l.flatMap Dee.vals)) (hk : k < l.length) (hn : l.length ≤ 1000000) :
    Calls Try.prog 38 #[.slice (some ⟨g, 0, none⟩) l.length cap, .int .i64 k, .int .i64 (k + 1)] w fun e w' =>
      e = .returned (.slice (some ⟨g, 0, none⟩) (l.eraseIdx k).length cap) ∧ w'.ownsRow 0 34 3 (.slice (some ⟨g, 0, none⟩) (l.eraseIdx k).length cap) (l.eraseIdx k).length ((l.eraseIdx k).flatMap Dee.vals) ∧ Chg (fun j => j = g) w w' := by
  by_cases hc : cap = k + 1
  · exact Dee.delete_end l k cap g w h hk hn hc
  · exact Dee.delete_mid l k cap g w h hk hn hc


set_option maxHeartbeats 800000 in
theorem Dee.clone_any (l : List Dee) (A : Option Addr) (c : Nat) (w : World) (h : w.ownsRow 0 34 3 (.slice A l.length c) l.length (l.flatMap Dee.vals)) (hn : l.length ≤ 1000000) :
    Calls Try.prog 37 #[.slice A l.length c] w fun e w' => OwnOut w w' 34 3 l.length (l.flatMap Dee.vals) (fun A c => .slice A l.length c) e := by
  obtain ⟨i0, hi0, hz0, hz1, hz2⟩ := info_parts Dee.info
  rcases A with _ | a
  · obtain ⟨hl0, rfl⟩ := own_none h
    obtain rfl : l = [] := List.eq_nil_of_length_eq_zero hl0
    have hsl := fun (w : World) => Lib.run_eql_slice_nil (P := Try.prog) w 49 34 none 0 0 0 0 Try.underlying49
    go_enter Try.func37, Try.ntmps37
    go_wp2
    go_ret
    exact OwnOut.mk none 0 rfl (World.ownsRow_nil _ _ _ _) (Chg.refl _ _)
  · obtain ⟨g, rfl, hg⟩ := own_some h
    have hsl := fun (w : World) => Lib.run_eql_slice_nil (P := Try.prog) w 49 34 (some ⟨g, 0, none⟩) l.length c 0 0 Try.underlying49
    have H := Lib.hid h
    clear h
    go_enter Try.func37, Try.ntmps37
    go_wp2_with (at_builtin; refine wpList_append_own _ rfl _ _ _ rfl w.heap.size 34 i0 _ 3 24 Try.underlying49 hi0 hz0 hz1 hz2 rfl (by omega) (.slice (some ⟨w.heap.size, 0, none⟩) 0 0) 0 [] rfl (World.ownsRow_lit w #[] 0 (Nat.le_refl _) (by simp [maxLen]) (by simp)) ⟨g, 0, none⟩ l.length c (l.flatMap Dee.vals) rfl (Dee.vals_len l) ((H.out.alloc _).cells (g := g) rfl) (Dee.one_cell l) (by simp only [maxLen]; omega) (by omega) (by simp) ?_; intro v1 w1 hown1 hgrow hnil; have HO := Lib.hid hown1; have HG := Lib.hid hgrow; clear hown1 hgrow hnil)
    go_ret
    obtain ⟨A', c', rfl, -⟩ := own_shape HO.out
    refine OwnOut.mk A' c' ?_ ?_ ?_
    · have := HO.out; simp
    · simpa using HO.out
    · exact ((Chg.refl NoF w).alloc _).grown HG.out (fun k hk hlt => by simp [Value.ownBlock] at hk; omega)



end Go.Proofs.Ytkcakkblammpiaa
