/- The pool and its list behind some calls. -/
import Derived.Test.YtenmilemdkhijaaDoorPoolL
namespace Go.Proofs.YtenmilemdkhijaaDoor
open Go.RowKit

theorem pstep_any (o : Pop) (w W : World) (b c cx : Nat) (x : List Bool) (A Ax : Option Addr) (h : PS w W b x x A c Ax cx) (hl : x.length ≤ 65536) :
    Calls Tryd.prog 18 #[.pointer (some ⟨b, 0, none⟩), .slice Ax x.length cx, (.agg #[.int .i64 o.kind, .int .i64 o.n])] W fun e w' => e = .returned (.bool true) ∧ PS w w' b (stpL x o) (stpL x o) A c Ax cx := by
  by_cases h1 : o.kind = 1
  · exact pstep_take o w W b c cx x A Ax h hl h1
  by_cases h2 : o.kind = 2
  · exact pstep_mark o w W b c cx x A Ax h hl h2
  by_cases h3 : o.kind = 3
  · exact pstep_give o w W b c cx x A Ax h hl h3
  · exact pstep_other o w W b c cx x A Ax h hl h1 h2 h3

theorem pfold_take {α β : Type} (f : β → α → β) (l : List α) (k : Nat) (x : α) (b : β) (h : l[k]? = some x) : (l.take (k + 1)).foldl f b = f ((l.take k).foldl f b) x := by
  rw [List.take_add_one, h]
  simp
theorem fold_len (l : List Pop) : ∀ x : List Bool, (l.foldl stpL x).length = x.length := by
  induction l with
  | nil => intro x; rfl
  | cons o l ih => intro x; rw [List.foldl_cons, ih, stpL_len]

/-- What some calls leave. -/
def Played (w w' : World) (n : Nat) (y : List Bool) (e : Ending) : Prop := ∃ A c Ax cx, e = .returned (.tuple #[.pointer (some ⟨w.heap.size, 0, none⟩), .slice Ax n cx]) ∧ PS w w' w.heap.size y y A c Ax cx ∧ y.length = n

set_option maxRecDepth 100000 in
set_option maxHeartbeats 1600000 in
theorem played_any (n : Nat) (l : List Pop) (A0 : Option Addr) (c0' : Nat) (w : World) (hT : TabAt 0 tab w) (hn : n ≤ 300) (hl : l.length ≤ 200) (hs : Sl w 2 A0 l.length (l.flatMap Pop.vals)) :
    Calls Tryd.prog 13 #[.int .i64 n, .slice A0 l.length c0'] w fun e w' => Played w w' n (l.foldl stpL (full n)) e := by
  have HT := Lib.hid (And.intro hT hs)
  clear hT hs
  go_enter Tryd.func13, Tryd.ntmps13
  go_wp2_with fail
  refine (pnew_any n w (by omega)).mono ?_
  rintro e w1 ⟨A, c, rfl, hp1, hg1, hn1⟩
  have H1 := Lib.hid (show PM w w1 w.heap.size (full n) A c from ⟨hp1, hg1, hn1, HT.out.1⟩)
  clear hp1 hg1 hn1
  go_wp2_with fail
  refine (xnew_any n w1 (by omega)).mono ?_
  rintro e w2 ⟨Ax, cx, rfl, hown2, hg2⟩
  have H2 := Lib.hid (show PS w w2 w.heap.size (full n) (full n) A c Ax cx from ⟨H1.out.on hg2, by rw [full_len]; exact own_base hown2 H1.out.grew.size, fun a ha hf => by
    subst ha
    obtain ⟨g, rfl, -⟩ := own_some hown2
    have h1 := (hown2.lt g rfl).1
    have h2 := H1.out.p.lt _ hf
    simp only [] at h2
    omega⟩)
  obtain ⟨b, hb⟩ : ∃ b, w.heap.size = b := ⟨_, rfl⟩
  have hb0 := Lib.hid hb
  rw [hb] at H2 ⊢
  clear hb hown2 hg2
  go_wp2_with fail
  go_loopw [18] (fun i wr => ∃ (k : Nat) (y : List Bool), k ≤ l.length ∧ i = .int .i64 k ∧ y = (l.take k).foldl stpL (full n) ∧ y.length = n ∧ PS w wr b y y A c Ax cx) (fun i _ => l.length - (intOf i).toNat)
  case atStart => exact ⟨0, _, by omega, rfl, rfl, full_len n, H2.out⟩
  case round =>
    obtain ⟨k, y, hk, rfl, hy, hyl, hps⟩ := hrel
    have HY := Lib.hid (And.intro hy (And.intro hyl hps))
    clear hy hyl hps
    by_cases hlt : k < l.length
    · obtain ⟨o, ho⟩ : ∃ o, l[k]? = some o := ⟨_, List.getElem?_eq_getElem hlt⟩
      obtain ⟨g, off, rfl, hb, d0, d1⟩ := (HT.out.2.grew HY.out.2.2.p.grew).atPop ho
      have HO := Lib.hid ho
      have hstep := Lib.hid (fun W => by have := pstep_any o w W b c cx y A Ax; rw [HY.out.2.1] at this; exact this)
      clear ho
      go_wp2_with (go_at_call 18; refine (hstep.out _ (HY.out.2.2.on ((Chg.refl _ _).alloc _)) (by omega)).mono ?_; rintro e w5 ⟨rfl, hs5⟩; have H5 := Lib.hid hs5; clear hs5)
      exact ⟨⟨k + 1, stpL y o, by omega, by simp, by rw [pfold_take stpL l k o _ HO.out, ← HY.out.1], by rw [stpL_len]; exact HY.out.2.1, H5.out⟩, by simp [intOf]; omega⟩
    · obtain rfl : k = l.length := by omega
      have hy := HY.out.1
      rw [List.take_length] at hy
      go_wp2_with fail
      go_ret2
      refine ⟨A, c, Ax, cx, ?_, ?_, ?_⟩
      · rw [hb0.out]; rfl
      · rw [← hy, hb0.out]; exact HY.out.2.2
      · rw [← hy]; exact HY.out.2.1

end Go.Proofs.YtenmilemdkhijaaDoor
