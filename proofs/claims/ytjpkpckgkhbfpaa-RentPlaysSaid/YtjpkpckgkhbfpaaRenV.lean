/- RentPlays: its walk. -/
import Derived.Test.YtjpkpckgkhbfpaaRenU
import Derived.Test.YtjpkpckgkhbfpaaRenN
namespace Go.Proofs.Ytjpkpckgkhbfpaa
open Go.RowKit Go.Maps

theorem stepL_rising {x : List Rw} (h : rising x) (o : Rop) : rising (stepL x o) := by
  unfold stepL
  split
  · unfold addL
    repeat' split
    all_goals first | exact h | exact h.putL _
  · split
    · unfold payL
      repeat' split
      all_goals first | exact h | exact h.putL _
    · split
      · exact h.dropL _
      · exact h
theorem SR.same {w W : World} {b k : Nat} {x : List Rw} {A : Option Addr} {c : Nat} (h : SR w W b x x k A) (hx : rising x) (hk : k ≤ 900000) :
    Calls Try.prog 19 #[.pointer (some ⟨b, 0, none⟩), .slice A x.length c] W fun e w' => e = .returned (.bool true) ∧ Grew W w' := by
  obtain ⟨F, hs⟩ := h.rs
  exact rsame_any b F x k A c W hs hx hk h.sl

set_option maxRecDepth 100000 in
theorem rplays_out (l : List Rop) (A : Option Addr) (c : Nat) (w : World) (hl : l.length > 80) (hln : (l.length : Int) ≤ 9223372036854775807) :
    Calls Try.prog 5 #[.slice A l.length c] w fun e w' => e = .returned (.bool true) ∧ Grew w w' := by
  go_enter Try.func5, Try.ntmps5
  go_wp2_with (first
    | (go_at_call 9; refine (rnew_any _).mono ?_; rintro e w1 ⟨rfl, h1⟩; have H1 := Lib.hid (RM.made (Chg.refl _ _) h1); clear h1)
    | (go_at_call 8; refine (rawake_any _).mono ?_; rintro e w2 ⟨rfl, hg2⟩))
  go_ret
  exact ⟨rfl, Grew.trans H1.out.grew hg2⟩

set_option maxRecDepth 100000 in
set_option maxHeartbeats 800000 in
theorem rplays_in (l : List Rop) (A : Option Addr) (c : Nat) (w : World) (hl : l.length ≤ 80) (hs : Sl w 4 A l.length (l.flatMap Rop.vals)) (hok : ∀ r ∈ l, r.ok) :
    Calls Try.prog 5 #[.slice A l.length c] w fun e w' => e = .returned (.bool true) ∧ Grew w w' := by
  have Hs := Lib.hid (And.intro hs hok)
  have hl' : (l.length : Int) ≤ 80 := by omega
  obtain ⟨b, hb⟩ : ∃ b, w.heap.size + 4 = b := ⟨_, rfl⟩
  clear hs hok
  go_enter Try.func5, Try.ntmps5
  go_wp2_with (go_at_call 9; refine (rnew_any _).mono ?_; rintro e w1 ⟨rfl, h1⟩; have H1 := Lib.hid (SR.made (RM.made (Chg.refl _ _) h1)); clear h1; rw [hb] at H1 ⊢)
  go_loopw [4, 7, 23] (fun xv _ i wr => ∃ (k : Nat) (x : List Rw) (Ax : Option Addr) (cx : Nat), k ≤ l.length ∧ i = .int .i64 k ∧ xv = .slice Ax x.length cx ∧ SR w wr b x x k Ax ∧ rising x) (fun _ _ i _ => l.length - (intOf i).toNat)
  case atStart => exact ⟨0, [], none, 0, by omega, rfl, rfl, H1.out, List.Pairwise.nil⟩
  case round =>
    obtain ⟨k, x, Ax, cx, hk, rfl, rfl, hsr, hx⟩ := hrel
    have HS := Lib.hid (And.intro hsr hx)
    clear hsr hx
    by_cases hlt : k < l.length
    · obtain ⟨o, ho⟩ : ∃ o, l[k]? = some o := ⟨_, List.getElem?_eq_getElem hlt⟩
      obtain ⟨g, off, rfl, hb, d0, d1, d2, d3⟩ := (Hs.out.1.grew HS.out.1.grew).atRop ho
      have HO := Lib.hid (Hs.out.2 o (List.mem_of_getElem? ho))
      clear ho
      go_wp2_with (first
        | (go_at_call 14; refine (rstep_any o w _ b k x Ax cx (HS.out.1.on ((Chg.refl _ _).alloc _)) (by omega) HO.out).mono ?_; rintro e w5 ⟨A5, c5, rfl, h5⟩; have H5 := Lib.hid h5; clear h5)
        | (go_at_call 19; refine (H5.out.same (stepL_rising HS.out.2 o) (by omega)).mono ?_; rintro e w6 ⟨rfl, hg6⟩; have H6 := Lib.hid (H5.out.on hg6); clear hg6))
      exact ⟨⟨k + 1, stepL x o, A5, c5, by omega, by simp, rfl, H6.out, stepL_rising HS.out.2 o⟩, by simp [intOf]; omega⟩
    · obtain rfl : k = l.length := by omega
      go_wp2_with (go_at_call 8; refine (rawake_any _).mono ?_; rintro e w2 ⟨rfl, hg2⟩)
      go_ret
      exact ⟨rfl, Grew.trans HS.out.1.grew hg2⟩

end Go.Proofs.Ytjpkpckgkhbfpaa
