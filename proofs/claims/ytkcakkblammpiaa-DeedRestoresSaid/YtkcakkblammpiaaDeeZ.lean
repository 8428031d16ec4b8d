/- The deeds: the fixed answer; what stands along a law's calls. -/
import Derived.Test.YtkcakkblammpiaaDeeY
namespace Go.Proofs.Ytkcakkblammpiaa
open Go.RowKit

/-- A Deeds that lies wholly in blocks that are new since w. -/
structure Mine (w W : World) (b : Nat) (nx : Int) (l : List Dee) (A : Option Addr) (c : Nat) : Prop where
  isIn : DeedsIn W b nx l A c
  grew : Grew w W
  new : ∀ k, BF b A k → w.heap.size ≤ k

theorem Mine.more {w W W' : World} {b c : Nat} {nx : Int} {l : List Dee} {A : Option Addr} (h : Mine w W b nx l A c) (hg : Grew W W') : Mine w W' b nx l A c := ⟨h.isIn.grew hg, Grew.trans h.grew hg, h.new⟩
theorem Mine.to {w W W' : World} {b c : Nat} {nx nx' : Int} {l l' : List Dee} {A : Option Addr} (h : Mine w W b nx l A c) (ht : DeedsTo W W' b A nx' l') : ∃ A' c', Mine w W' b nx' l' A' c' := by
  obtain ⟨A', c', hi, hc, hn⟩ := ht
  refine ⟨A', c', hi, Chg.trans h.grew hc fun i hi hb => absurd (h.new i hb) (by omega), fun k hk => ?_⟩
  rcases hn k hk with h1 | h1
  · exact h.new k h1
  · have := h.grew.size; omega
theorem Mine.made (w : World) : Mine w (w.alloc (.cells #[.slice none 0 0, .int .i64 1] 58)) w.heap.size 1 [] none 0 := by
  refine ⟨⟨Blk.new w _ _, World.ownsRow_nil _ _ _ _⟩, (Chg.refl _ _).alloc _, fun k hk => ?_⟩
  rcases hk with rfl | ⟨a, ha, _⟩
  · exact Nat.le_refl _
  · cases ha

set_option maxHeartbeats 800000 in
theorem awake_any (w : World) :
    Calls Try.prog 8 #[] w fun e w' => e = .returned (.bool true) ∧ Grew w w' := by
  have HM := Lib.hid (Mine.made w)
  go_enter Try.func8, Try.ntmps8
  go_wp2_with (go_at_call 7; refine (new_any _).mono ?_; rintro e w1 ⟨rfl, rfl⟩)
  refine (issue_yes w.heap.size 1 7 1 [] none 0 _ HM.out.isIn (by simp) (by decide) (by omega) (by omega)).mono ?_
  rintro e w1 ⟨rfl, ht⟩
  obtain ⟨A1, c1, h1⟩ := HM.out.to ht
  have H1 := Lib.hid h1
  clear ht h1 HM
  go_wp2_with fail
  refine (issue_no w.heap.size 2 7 2 13 [⟨1, 7, 1⟩] A1 c1 _ H1.out.isIn (by simp) (by decide) (by decide)).mono ?_
  rintro e w2 ⟨rfl, hg2⟩
  have H2 := Lib.hid (H1.out.more hg2)
  clear hg2 H1
  go_wp2_with fail
  refine (void_yes w.heap.size 0 ⟨1, 7, 1⟩ 2 1 [⟨1, 7, 1⟩] A1 c1 _ H2.out.isIn (by simp) (by decide) rfl).mono ?_
  rintro e w3 ⟨rfl, ht⟩
  obtain ⟨A3, c3, h3⟩ := H2.out.to ht
  have H3 := Lib.hid h3
  clear ht h3 H2
  go_wp2_with fail
  refine (issue_yes w.heap.size 2 7 2 [] A3 c3 _ H3.out.isIn (by simp) (by decide) (by omega) (by omega)).mono ?_
  rintro e w4 ⟨rfl, ht⟩
  obtain ⟨A4, c4, h4⟩ := H3.out.to ht
  have H4 := Lib.hid h4
  clear ht h4 H3
  go_wp2_with (first
    | (go_at_call 25; refine (len_any w.heap.size 3 [⟨2, 7, 2⟩] A4 c4 _ H4.out.isIn).mono ?_; rintro e w5 ⟨rfl, rfl⟩)
    | (go_at_call 26; refine (next_any w.heap.size 3 [⟨2, 7, 2⟩] A4 c4 _ H4.out.isIn).mono ?_; rintro e w5 ⟨rfl, rfl⟩))
  go_ret
  exact ⟨rfl, H4.out.grew⟩

theorem Both.grew {w w' : World} {b c : Nat} {nx : Int} {l : List Dee} {A Ar : Option Addr} (h : Both w b nx l A c Ar) (hg : Grew w w') : Both w' b nx l A c Ar := ⟨h.isIn.grew hg, h.sl.grew hg, h.far, h.rt, h.nb⟩

theorem Sl.apart {w : World} {g : Nat} {t : TypeId} {u v : Value} {l : List Dee} {A : Option Addr} (h : Sl w 3 A l.length (l.flatMap Dee.vals)) (hb : Blk w g t #[u, v]) (hn : 0 < l.length) : ∀ a, A = some a → a.block ≠ g := by
  intro a ha e
  obtain ⟨x, hx⟩ : ∃ x, l[0]? = some x := ⟨_, List.getElem?_eq_getElem hn⟩
  obtain ⟨g', off, hA, -, -, -, d2⟩ := h.atDee hx
  rw [hA] at ha
  injection ha with ha
  subst ha
  simp only [] at e
  subst e
  have := hb.cell (off + 0 * 3 + 2)
  rw [d2] at this
  simp at this

theorem Both.chg {w w' : World} {b c N : Nat} {t : TypeId} {u v : Value} {nx : Int} {l : List Dee} {A Ar : Option Addr} (h : Both w b nx l A c Ar) (hN : ¬ BF b A N) (hb : Blk w N t #[u, v]) (hc : Chg (fun j => j = N) w w') : Both w' b nx l A c Ar :=
  ⟨h.isIn.chg hc (fun e => hN (.inl e.symm)) (fun a ha e => hN (.inr ⟨a, ha, e.symm⟩)), h.sl.keep hc (fun hn a ha => h.sl.apart hb hn a ha), h.far, h.rt, h.nb⟩

/-- What stands along calls of both: the object at b, the document's list at N, all new since w. -/
structure Pair (w wr : World) (b N : Nat) (nx : Int) (ls : List Dee) (A : Option Addr) (c : Nat) (Ar : Option Addr) (cr : Nat) : Prop where
  both : Both wr b nx ls A c Ar
  grew : Grew w wr
  new : ∀ j, BF b A j → w.heap.size ≤ j
  newN : w.heap.size ≤ N
  blk : Blk wr N 28 #[.slice Ar ls.length cr, .int .i64 nx]
  out : ¬ BF b A N

theorem Pair.more {w wr wr' : World} {b N c cr : Nat} {nx : Int} {ls : List Dee} {A Ar : Option Addr} (h : Pair w wr b N nx ls A c Ar cr) (hg : Grew wr wr') : Pair w wr' b N nx ls A c Ar cr :=
  ⟨h.both.grew hg, Grew.trans h.grew hg, h.new, h.newN, h.blk.grew hg, h.out⟩

theorem Pair.len {w wr : World} {b N c cr : Nat} {nx : Int} {ls : List Dee} {A Ar : Option Addr} (h : Pair w wr b N nx ls A c Ar cr) : ls.length ≤ 1000000 := by
  have := h.both.rt.len; have := h.both.nb; omega

theorem Pair.step {w wr w2 w3 : World} {b N c c' cr cr' : Nat} {nx nx' : Int} {ls ls' : List Dee} {A A' Ar Ar' : Option Addr} (h : Pair w wr b N nx ls A c Ar cr) (hB : Both w2 b nx' ls' A' c' Ar') (hC : Chg (BF b A) wr w2)
    (hF : ∀ k, BF b A' k → BF b A k ∨ wr.heap.size ≤ k) (h3 : (w2.setCell ⟨N, 0, none⟩ (.slice Ar' ls'.length cr')).setCell ⟨N, 1, none⟩ (.int .i64 nx') = w3) : Pair w w3 b N nx' ls' A' c' Ar' cr' := by
  have hb2 : Blk w2 N 28 #[.slice Ar ls.length cr, .int .i64 nx] := h.blk.chg hC h.out
  have hs := h.blk.lt
  have hN := h.newN
  have ho : ¬ BF b A' N := fun q => by
    rcases hF _ q with q | q
    · exact h.out q
    · omega
  have hc3 : Chg (fun j => j = N) w2 w3 := by
    rw [← h3]
    exact ((Chg.refl (fun j => j = N) _).setCell (p := ⟨N, 0, none⟩) (fun _ => rfl) _).setCell (p := ⟨N, 1, none⟩) (fun _ => rfl) _
  refine ⟨hB.chg ho hb2 hc3, ?_, fun j hj => ?_, hN, ?_, ho⟩
  · refine Chg.trans (Chg.trans h.grew hC fun i hi hb => absurd (h.new i hb) (by omega)) hc3 fun i hi e => by omega
  · rcases hF j hj with q | q
    · exact h.new j q
    · have := h.grew.size; omega
  · rw [← h3]
    have := (hb2.put 0 (.slice Ar' ls'.length cr')).put 1 (.int .i64 nx')
    simpa using this

theorem Pair.copied {w wr w2 : World} {b b' N c c' cr : Nat} {nx : Int} {ls : List Dee} {A A' Ar : Option Addr} (h : Pair w wr b N nx ls A c Ar cr) (hi : DeedsIn w2 b' nx ls A' c') (hg : Grew wr w2) (hn : ∀ k, BF b' A' k → wr.heap.size ≤ k) :
    Pair wr (w2.alloc (.cells #[.slice Ar ls.length cr, .int .i64 nx] 28)) b' w2.heap.size nx ls A' c' Ar cr := by
  have hg' := hg.alloc (.cells #[.slice Ar ls.length cr, .int .i64 nx] 28)
  refine ⟨⟨hi.grew ((Chg.refl _ _).alloc _), h.both.sl.grew hg', fun hp a ha hb => ?_, h.both.rt, h.both.nb⟩, hg', hn, hg.size, Blk.new _ _ _, fun hb => ?_⟩
  · have := hn _ hb; have := h.both.sl.lt hp a ha; omega
  · have := BF_lt hi hb; omega

theorem Pair.made (w : World) : Pair w ((w.alloc (.cells #[.slice none 0 0, .int .i64 1] 58)).alloc (.cells #[.slice none 0 0, .int .i64 1] 28)) w.heap.size (w.heap.size + 1) 1 [] none 0 none 0 := by
  refine ⟨⟨?_, Sl.nil _ _ _, fun h => absurd h (by simp), Rt.nil, by omega⟩, ((Chg.refl _ _).alloc _).alloc _, fun j hj => ?_, by omega, ?_, fun hb => ?_⟩
  · exact (Mine.made w).isIn.grew ((Chg.refl _ _).alloc _)
  · exact (Mine.made w).new j hj
  · have := Blk.new (w.alloc (.cells #[.slice none 0 0, .int .i64 1] 58)) 28 #[.slice none 0 0, .int .i64 1]
    simpa using this
  · rcases hb with hb | ⟨a, ha, -⟩
    · omega
    · cases ha

end Go.Proofs.Ytkcakkblammpiaa
