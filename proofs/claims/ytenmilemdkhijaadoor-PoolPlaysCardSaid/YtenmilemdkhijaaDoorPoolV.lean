/- PoolPlays: a pool answers as a list of bools does. -/
import Derived.Test.YtenmilemdkhijaaDoorPoolU
namespace Go.Proofs.YtenmilemdkhijaaDoor
open Go.RowKit

set_option maxRecDepth 100000 in
set_option maxHeartbeats 1600000 in
theorem pplays_out (n : Int) (l : List Pop) (A : Option Addr) (c : Nat) (w : World) (hT : TabAt 0 tab w) (hl : (l.length : Int) ≤ 9223372036854775807) (h : (300 < n ∧ n ≤ 65536) ∨ 200 < l.length) :
    Calls Tryd.prog 5 #[.int .i64 n, .slice A l.length c] w fun e w' => e = .returned (.bool true) ∧ Grew w w' := by
  have HT := Lib.hid hT
  clear hT
  by_cases h1 : n ≤ 300
  · have h3 : 200 < l.length := by omega
    clear h
    go_enter Tryd.func5, Tryd.ntmps5
    go_wp2_with (go_at_call 8; refine (pawake_any _ HT.out).mono ?_; rintro e w2 ⟨rfl, hg2⟩)
    go_ret
    exact ⟨rfl, hg2⟩
  have h1' : 300 < n := by omega
  by_cases h2 : n ≤ 65536
  · clear h h1
    go_enter Tryd.func5, Tryd.ntmps5
    go_wp2_with (go_at_call 8; refine (pawake_any _ HT.out).mono ?_; rintro e w2 ⟨rfl, hg2⟩)
    go_ret
    exact ⟨rfl, hg2⟩
  · have h2' : 65536 < n := by omega
    have h3 : 200 < l.length := by omega
    clear h h1 h2
    go_enter Tryd.func5, Tryd.ntmps5
    go_wp2_with (go_at_call 8; refine (pawake_any _ HT.out).mono ?_; rintro e w2 ⟨rfl, hg2⟩)
    go_ret
    exact ⟨rfl, hg2⟩

set_option maxRecDepth 100000 in
set_option maxHeartbeats 1600000 in
theorem pplays_nil (n : Int) (l : List Pop) (A : Option Addr) (c : Nat) (w : World) (hT : TabAt 0 tab w) (hl : l.length ≤ 200) (h : n < 0 ∨ 65536 < n) :
    Calls Tryd.prog 5 #[.int .i64 n, .slice A l.length c] w fun e w' => e = .returned (.bool true) ∧ Grew w w' := by
  have HT := Lib.hid hT
  have HN := Lib.hid h
  clear hT
  have hl' : (l.length : Int) ≤ 200 := by omega
  rcases h with h1 | h1
  · go_enter Tryd.func5, Tryd.ntmps5
    go_wp2_with (first
      | (go_at_call 9; refine (pnew_nil n w HN.out).mono ?_; rintro e w1 ⟨rfl, rfl⟩)
      | (go_at_call 8; refine (pawake_any _ HT.out).mono ?_; rintro e w2 ⟨rfl, hg2⟩))
    go_ret
    exact ⟨rfl, hg2⟩
  · have h2 : 300 < n := by omega
    go_enter Tryd.func5, Tryd.ntmps5
    go_wp2_with (first
      | (go_at_call 9; refine (pnew_nil n w HN.out).mono ?_; rintro e w1 ⟨rfl, rfl⟩)
      | (go_at_call 8; refine (pawake_any _ HT.out).mono ?_; rintro e w2 ⟨rfl, hg2⟩))
    go_ret
    exact ⟨rfl, hg2⟩

set_option maxRecDepth 100000 in
set_option maxHeartbeats 3200000 in
theorem pplays_in (n : Nat) (l : List Pop) (A0 : Option Addr) (c0' : Nat) (w : World) (hT : TabAt 0 tab w) (hn : n ≤ 300) (hl : l.length ≤ 200) (hs : Sl w 2 A0 l.length (l.flatMap Pop.vals)) :
    Calls Tryd.prog 5 #[.int .i64 n, .slice A0 l.length c0'] w fun e w' => e = .returned (.bool true) ∧ Grew w w' := by
  have HT := Lib.hid (And.intro hT hs)
  have t1 : (0 : Int) ≤ (n : Int) := by omega
  have t2 : (n : Int) ≤ 300 := by omega
  have t3 : (l.length : Int) ≤ 200 := by omega
  clear hT hs
  go_enter Tryd.func5, Tryd.ntmps5
  go_wp2_with fail
  refine (pnew_any n w (by omega)).mono ?_
  rintro e w1 ⟨A, c, rfl, hp1, hg1, hn1⟩
  have H1 := Lib.hid (show PM w w1 w.heap.size (full n) A c from ⟨hp1, hg1, hn1, HT.out.1⟩)
  clear hp1 hg1 hn1
  go_wp2_with fail
  refine (xnew_any n w1 (by omega)).mono ?_
  rintro e w2 ⟨Ax, cx, rfl, hown2, hg2⟩
  have H2 := Lib.hid (show PS w w2 w.heap.size (full n) (full n) A c Ax cx from ⟨H1.out.on hg2, by rw [full_len]; exact own_base hown2 H1.out.grew.size, fun a ha hf => by
    subst ha
    obtain ⟨g, rfl, -⟩ := own_some hown2
    have h1 := (hown2.lt g rfl).1
    have h2 := H1.out.p.lt _ hf
    simp only [] at h2
    omega⟩)
  obtain ⟨b, hb⟩ : ∃ b, w.heap.size = b := ⟨_, rfl⟩
  rw [hb] at H2 ⊢
  clear hb hown2 hg2
  go_wp2_with fail
  go_loopw [40] (fun i wr => ∃ (k : Nat) (y : List Bool), k ≤ l.length ∧ i = .int .i64 k ∧ y.length = n ∧ PS w wr b y y A c Ax cx) (fun i _ => l.length - (intOf i).toNat)
  case atStart => exact ⟨0, _, by omega, rfl, full_len n, H2.out⟩
  case round =>
    obtain ⟨k, y, hk, rfl, hyl, hps⟩ := hrel
    have HY := Lib.hid (And.intro hyl hps)
    clear hyl hps
    by_cases hlt : k < l.length
    · obtain ⟨o, ho⟩ : ∃ o, l[k]? = some o := ⟨_, List.getElem?_eq_getElem hlt⟩
      obtain ⟨g, off, rfl, hb, d0, d1⟩ := (HT.out.2.grew HY.out.2.p.grew).atPop ho
      have hstep := Lib.hid (fun W => by have := pstep_any o w W b c cx y A Ax; rw [HY.out.1] at this; exact this)
      clear ho
      go_wp2_with (go_at_call 18; refine (hstep.out _ (HY.out.2.on ((Chg.refl _ _).alloc _)) (by omega)).mono ?_; rintro e w5 ⟨rfl, hs5⟩; have H5 := Lib.hid hs5; clear hs5)
      exact ⟨⟨k + 1, stpL y o, by omega, by simp, by rw [stpL_len]; exact HY.out.1, H5.out⟩, by simp [intOf]; omega⟩
    · obtain rfl : k = l.length := by omega
      have hsame := Lib.hid (by have := psame_any b y A Ax c cx wr HY.out.2.p.p HY.out.2.sl HY.out.2.p.tab (by have := HY.out.1; omega); rw [HY.out.1] at this; exact this)
      go_wp2_with (first
        | (go_at_call 19; refine hsame.out.mono ?_; rintro e w7 ⟨rfl, hg7⟩; have HG7 := Lib.hid hg7; clear hg7)
        | (go_at_call 8; refine (pawake_any _ (tab_chg HY.out.2.p.tab HG7.out id)).mono ?_; rintro e w8 ⟨rfl, hg8⟩; have HG8 := Lib.hid (Grew.trans HG7.out hg8); clear hg8))
      go_ret
      exact ⟨rfl, Grew.trans HY.out.2.p.grew HG8.out⟩

end Go.Proofs.YtenmilemdkhijaaDoor
