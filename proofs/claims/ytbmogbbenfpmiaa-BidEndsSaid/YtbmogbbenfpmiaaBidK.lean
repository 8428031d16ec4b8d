/- slices.Delete of one element, slices.Clone, over the auctions' records. -/
import Derived.Test.YtbmogbbenfpmiaaBidE
import Derived.Test.YtbmogbbenfpmiaaRow
namespace Go.Proofs.Ytbmogbbenfpmiaa
open Go.RowKit

theorem del_list {α : Type} (xs q z r : List α) (k n s : Nat) (hx : xs.length = n * s) (hk : k < n) :
    ((xs.take (k * s) ++ xs.drop ((k + 1) * s) ++ q).take ((n - 1) * s) ++ z ++ r).take ((n - 1) * s) = xs.take (k * s) ++ xs.drop ((k + 1) * s) := by
  have hA : (xs.take (k * s) ++ xs.drop ((k + 1) * s)).length = (n - 1) * s := by
    obtain ⟨m, rfl⟩ : ∃ m, n = k + 1 + m := ⟨n - (k + 1), by omega⟩
    have e : k + 1 + m - 1 = k + m := by omega
    have e2 : (k + 1 + m) * s = k * s + s + m * s := by rw [Nat.add_mul, Nat.add_mul, Nat.one_mul]
    have e3 : (k + 1) * s = k * s + s := by rw [Nat.add_mul, Nat.one_mul]
    have e4 : (k + m) * s = k * s + m * s := by rw [Nat.add_mul]
    rw [e, List.length_append, List.length_take, List.length_drop, hx, e2, e3, e4]
    omega
  rw [List.take_left' hA, List.append_assoc, List.take_left' hA]

theorem delete_step (l : List Auc) (k cap g : Nat) (w : World) (h : w.ownsRow 0 32 7 (.slice (some ⟨g, 0, none⟩) l.length cap) l.length (l.flatMap Auc.vals)) (hk : k < l.length) (a : Addr) (c : Nat) (ha : a = ⟨g, (k + 1) * 7, none⟩ ∨ l.length = k + 1) :
    ∃ w1 w2, (Builtin.append_ #[56, 56] 56 #[.slice (some ⟨g, 0, none⟩) k cap, .slice (some a) (l.length - (k + 1)) c]).run Try.prog w.drew = .ok (.slice (some ⟨g, 0, none⟩) (l.length - 1) cap) w1 ∧
      (Builtin.clear_ #[56] 0 #[.slice (some ⟨g, (l.length - 1) * 7, none⟩) (l.length - (l.length - 1)) (cap - (l.length - 1))]).run Try.prog w1 = .ok (.tuple #[]) w2 ∧
      w2.ownsRow 0 32 7 (.slice (some ⟨g, 0, none⟩) (l.eraseIdx k).length cap) (l.eraseIdx k).length ((l.eraseIdx k).flatMap Auc.vals) ∧ Chg (fun j => j = g) w w2 := by
  obtain ⟨i0, hi0, hz0, hz1, hz2⟩ := info_parts aucInfo
  obtain ⟨cur, -, hg, hnc, hcm, -⟩ := own_row h
  have _hkk : ((k : Int) == (k : Int) + 1) = false := by rw [beq_eq_false_iff_ne]; omega
  have hcc : (cap : Int) ≤ 9223372036854775807 := by unfold maxLen at hcm; omega
  have hlen : (l.eraseIdx k).length = l.length - 1 := by rw [List.length_eraseIdx]; simp [hk]
  have hel : k + (l.length - (k + 1)) = l.length - 1 := by omega
  have hnews : ∀ a : Addr, (a = ⟨g, (k + 1) * 7, none⟩ ∨ l.length = k + 1) → ∀ j u, ((l.flatMap Auc.vals).drop ((k + 1) * 7))[j]? = some u → w.cell? (a.add j) = some u := by
    rintro a (rfl | hl) j u hu
    · rw [List.getElem?_drop] at hu
      have hc := h.cells (g := g) rfl ((k + 1) * 7 + j) u hu
      rw [Addr.add_lit] at hc ⊢
      simpa using hc
    · rw [List.drop_eq_nil_of_le (by rw [Auc.vals_len]; omega)] at hu
      simp at hu
  obtain ⟨w1, hr1, hown1, hg1⟩ := run_append_within (P := Try.prog) (w := w.drew) (ty := 56) (p := k) (m := l.length - (k + 1)) (c := c) (news := (l.flatMap Auc.vals).drop ((k + 1) * 7)) (a := a) Try.underlying56 hi0 hz1 h
    (by rw [List.length_drop, Auc.vals_len]; omega) (hnews a ha) (fun u hu => Auc.one_cell l u (List.mem_of_mem_drop hu)) (by omega)
  obtain ⟨w2, hr2, hown2, hg2⟩ := run_clear_within (P := Try.prog) (s := 7) (ty := 0) (p := l.length - 1) (m := l.length - (l.length - 1)) (c := cap - (l.length - 1)) Try.underlying56 hi0 hz0 rfl (by simp [Value.cells, Value.oneCell']) hown1 (by omega) (by omega)
  rw [hel] at hr1
  have hO := own_short hown2 (m := l.length - 1) (by omega)
  rw [del_list _ _ _ _ _ _ _ (Auc.vals_len l) hk, ← Auc.erase_vals, ← hlen] at hO
  exact ⟨w1, w2, hr1, hr2, hO, ((Chg.refl _ w).drew.grown hg1 (fun k h _ => by cases h; rfl)).grown hg2 (fun k h _ => by cases h; rfl)⟩

set_option maxHeartbeats 1600000 in
theorem delete_end (l : List Auc) (k cap g : Nat) (w : World) (h : w.ownsRow 0 32 7 (.slice (some ⟨g, 0, none⟩) l.length cap) l.length (l.flatMap Auc.vals)) (hk : k < l.length) (hn : l.length ≤ 1000000) (hc' : cap = k + 1) :
    Calls Try.prog 45 #[.slice (some ⟨g, 0, none⟩) l.length cap, .int .i64 k, .int .i64 (k + 1)] w fun e w' =>
      e = .returned (.slice (some ⟨g, 0, none⟩) (l.eraseIdx k).length cap) ∧ w'.ownsRow 0 32 7 (.slice (some ⟨g, 0, none⟩) (l.eraseIdx k).length cap) (l.eraseIdx k).length ((l.eraseIdx k).flatMap Auc.vals) ∧ Chg (fun j => j = g) w w' := by
  obtain ⟨cur, -, hg, hnc, hcm, -⟩ := own_row h
  have hkk : ((k : Int) == (k : Int) + 1) = false := by rw [beq_eq_false_iff_ne]; omega
  have hcc : (cap : Int) ≤ 9223372036854775807 := by unfold maxLen at hcm; omega
  have hlen : (l.eraseIdx k).length = l.length - 1 := by rw [List.length_eraseIdx]; simp [hk]
  have hk1 : k ≤ cap := by omega
  have hk2 : k + 1 ≤ l.length := by omega
  have hk3 : k + 1 ≤ cap := by omega
  have hk4 : (0 : Int) ≤ (k : Int) := by omega
  have hk7 : (0 : Int) ≤ (k : Int) + 1 := by omega
  have hk5 : (k : Int) ≤ (cap : Int) := by omega
  have hk6 : (k : Int) + 1 ≤ (l.length : Int) := by omega
  have Hlen := Lib.hid hlen
  obtain ⟨w1, w2, hr1, hr2, hO, hC⟩ := delete_step l k cap g w h hk ⟨g, 0, none⟩ 0 (.inr (by omega))
  rw [show l.length - (k + 1) = 0 by omega] at hr1
  subst hc'
  have hne : ¬ (k + 1 = l.length - 1) := by omega
  have hk8 : (k : Int) ≤ (k : Int) + 1 := by omega
  have hk9 : k ≤ k + 1 := by omega
  have Hr1 := Lib.hid hr1
  have Hr2 := Lib.hid hr2
  have H := Lib.hid (And.intro hO hC)
  clear h hlen hg hr1 hr2 hO hC
  go_enter Try.func45, Try.ntmps45
  go_wp2
  go_region_law ((refine step_append_run (by rfl) _ _ _ (by rfl) (by rfl) (by rfl) Hr1.out ?_))
  go_wp2_with (refine wpList_clear_run rfl _ _ rfl (by rfl) Hr2.out ?_)
  go_ret
  exact ⟨by rw [Hlen.out]; rfl, H.out.1, H.out.2⟩

set_option maxHeartbeats 1600000 in
theorem delete_mid (l : List Auc) (k cap g : Nat) (w : World) (h : w.ownsRow 0 32 7 (.slice (some ⟨g, 0, none⟩) l.length cap) l.length (l.flatMap Auc.vals)) (hk : k < l.length) (hn : l.length ≤ 1000000) (hc' : ¬ cap = k + 1) :
    Calls Try.prog 45 #[.slice (some ⟨g, 0, none⟩) l.length cap, .int .i64 k, .int .i64 (k + 1)] w fun e w' =>
      e = .returned (.slice (some ⟨g, 0, none⟩) (l.eraseIdx k).length cap) ∧ w'.ownsRow 0 32 7 (.slice (some ⟨g, 0, none⟩) (l.eraseIdx k).length cap) (l.eraseIdx k).length ((l.eraseIdx k).flatMap Auc.vals) ∧ Chg (fun j => j = g) w w' := by
  obtain ⟨cur, -, hg, hnc, hcm, -⟩ := own_row h
  have hkk : ((k : Int) == (k : Int) + 1) = false := by rw [beq_eq_false_iff_ne]; omega
  have hcc : (cap : Int) ≤ 9223372036854775807 := by unfold maxLen at hcm; omega
  have hlen : (l.eraseIdx k).length = l.length - 1 := by rw [List.length_eraseIdx]; simp [hk]
  have hk1 : k ≤ cap := by omega
  have hk2 : k + 1 ≤ l.length := by omega
  have hk3 : k + 1 ≤ cap := by omega
  have hk4 : (0 : Int) ≤ (k : Int) := by omega
  have hk7 : (0 : Int) ≤ (k : Int) + 1 := by omega
  have hk5 : (k : Int) ≤ (cap : Int) := by omega
  have hk6 : (k : Int) + 1 ≤ (l.length : Int) := by omega
  have Hlen := Lib.hid hlen
  obtain ⟨w1, w2, hr1, hr2, hO, hC⟩ := delete_step l k cap g w h hk ⟨g, (k + 1) * 7, none⟩ (cap - (k + 1)) (.inl rfl)
  have Hr1 := Lib.hid hr1
  have Hr2 := Lib.hid hr2
  have H := Lib.hid (And.intro hO hC)
  clear h hlen hg hr1 hr2 hO hC
  go_enter Try.func45, Try.ntmps45
  go_wp2
  go_region_law ((refine step_append_run (by rfl) _ _ _ (by rfl) (by rfl) (by rfl) Hr1.out ?_))
  go_wp2_with (refine wpList_clear_run rfl _ _ rfl (by rfl) Hr2.out ?_)
  go_ret
  exact ⟨by rw [Hlen.out]; rfl, H.out.1, H.out.2⟩

theorem delete_any (l : List Auc) (k cap g : Nat) (w : World) (h : w.ownsRow 0 32 7 (.slice (some ⟨g, 0, none⟩) l.length cap) l.length (l.flatMap Auc.vals)) (hk : k < l.length) (hn : l.length ≤ 1000000) :
    Calls Try.prog 45 #[.slice (some ⟨g, 0, none⟩) l.length cap, .int .i64 k, .int .i64 (k + 1)] w fun e w' =>
      e = .returned (.slice (some ⟨g, 0, none⟩) (l.eraseIdx k).length cap) ∧ w'.ownsRow 0 32 7 (.slice (some ⟨g, 0, none⟩) (l.eraseIdx k).length cap) (l.eraseIdx k).length ((l.eraseIdx k).flatMap Auc.vals) ∧ Chg (fun j => j = g) w w' := by
  by_cases hc : cap = k + 1
  · exact delete_end l k cap g w h hk hn hc
  · exact delete_mid l k cap g w h hk hn hc

end Go.Proofs.Ytbmogbbenfpmiaa
