/- BidCopies: a copy tells the same, and goes on by itself: the copy, and what stands along the calls. -/
import Derived.Test.YtbmogbbenfpmiaaBidU
namespace Go.Proofs.Ytbmogbbenfpmiaa
open Go.RowKit

/-- A copy's answer: new blocks alone. -/
def CopyTo (w w' : World) (nx : Int) (l : List Auc) (e : Ending) : Prop :=
  ∃ b A c, e = .returned (.pointer (some ⟨b, 0, none⟩)) ∧ BidsIn w' b nx l A c ∧ Grew w w' ∧ ∀ k, BF b A k → w.heap.size ≤ k

theorem own_new {w : World} {base : Nat} {e : TypeId} {s n c : Nat} {a : Addr} {xs : List Value} (h : w.ownsRow base e s (.slice (some a) n c) n xs) : ∃ g, a = ⟨g, 0, none⟩ ∧ base ≤ g := by
  rcases h.2 with ⟨h', _⟩ | ⟨g, cap, cur, h', hb, _⟩
  · cases h'
  · simp at h'; exact ⟨g, h'.1, hb⟩

set_option maxHeartbeats 800000 in
theorem copy_any (b : Nat) (nx : Int) (l : List Auc) (A : Option Addr) (c : Nat) (w : World) (h : BidsIn w b nx l A c) (hl : l.length ≤ 1000000) :
    Calls Try.prog 19 #[.pointer (some ⟨b, 0, none⟩)] w fun e w' => CopyTo w w' nx l e := by
  obtain ⟨c2, f2, s2⟩ := h.blk.facts
  have H := Lib.hid h
  have c20 := c2 0
  have c21 := c2 1
  have hb := h.blk.lt
  simp only [List.getElem?_toArray, List.getElem?_cons_zero, List.getElem?_cons_succ] at c20 c21
  clear h c2 f2
  go_enter Try.func19, Try.ntmps19
  go_wp2_with fail
  go_region_held3 (fun w' => ∀ (B i : Nat), B < w.heap.size → w'.cell? ⟨B, i, none⟩ = w.cell? ⟨B, i, none⟩)
    ((intro B i hB1; first | rfl | exact hg4.cell (p := ⟨B, i, none⟩) (by simp; omega) id | exact (hg4.alloc _).cell (p := ⟨B, i, none⟩) (by simp; omega) id))
    ((go_at_call 36; refine (clone_any l A c _ (H.out.grew ((Chg.refl _ _).drew)).own hl).mono ?_; rintro e w4 ⟨A4, c4, rfl, ho4, hg4⟩; have HO4 := Lib.hid ho4; clear ho4))
  all_goals
    go_wp2
    refine bodyPost_ret (v := .pointer (some ⟨w4.heap.size, 0, none⟩)) (by simp [results, Try.results19, go_sem]) rfl ⟨w4.heap.size, A4, c4, rfl, ⟨Blk.new _ _ _, own_base (own_chg HO4.out ((Chg.refl NoF _).alloc _) fun _ _ => id) (Nat.zero_le _)⟩, Grew.trans (Chg.drew (Chg.refl _ _)) (hg4.alloc _), fun k hk => ?_⟩
    have hsz := hg4.size
    simp only [World.size_drew] at hsz
    rcases hk with rfl | ⟨a, rfl, rfl⟩
    · exact hsz
    · obtain ⟨g, rfl, hg⟩ := own_new HO4.out
      simpa using hg

/-- What stands along calls of both: the object at b, the document's list at N, all new since w. -/
structure Pair (w wr : World) (b N : Nat) (nx : Int) (ls : List Auc) (A : Option Addr) (c : Nat) (Ar : Option Addr) (cr : Nat) : Prop where
  both : Both wr b nx ls A c Ar
  grew : Grew w wr
  new : ∀ j, BF b A j → w.heap.size ≤ j
  newN : w.heap.size ≤ N
  blk : Blk wr N 39 #[.slice Ar ls.length cr, .int .i64 nx]
  out : ¬ BF b A N

theorem Pair.more {w wr wr' : World} {b N c cr : Nat} {nx : Int} {ls : List Auc} {A Ar : Option Addr} (h : Pair w wr b N nx ls A c Ar cr) (hg : Grew wr wr') : Pair w wr' b N nx ls A c Ar cr :=
  ⟨h.both.grew hg, Grew.trans h.grew hg, h.new, h.newN, h.blk.grew hg, h.out⟩

theorem Pair.step {w wr w2 w3 : World} {b N c c' cr cr' : Nat} {nx nx' : Int} {ls ls' : List Auc} {A A' Ar Ar' : Option Addr} (h : Pair w wr b N nx ls A c Ar cr) (hB : Both w2 b nx' ls' A' c' Ar') (hC : Chg (BF b A) wr w2)
    (hF : ∀ k, BF b A' k → BF b A k ∨ wr.heap.size ≤ k) (h3 : (w2.setCell ⟨N, 0, none⟩ (.slice Ar' ls'.length cr')).setCell ⟨N, 1, none⟩ (.int .i64 nx') = w3) : Pair w w3 b N nx' ls' A' c' Ar' cr' := by
  have hb2 : Blk w2 N 39 #[.slice Ar ls.length cr, .int .i64 nx] := h.blk.chg hC h.out
  have hs := h.blk.lt
  have hN := h.newN
  have ho : ¬ BF b A' N := fun q => by
    rcases hF _ q with q | q
    · exact h.out q
    · omega
  have hc3 : Chg (fun j => j = N) w2 w3 := by
    rw [← h3]
    exact ((Chg.refl (fun j => j = N) _).setCell (p := ⟨N, 0, none⟩) (fun _ => rfl) _).setCell (p := ⟨N, 1, none⟩) (fun _ => rfl) _
  refine ⟨hB.chg ho hb2 hc3, ?_, fun j hj => ?_, hN, ?_, ho⟩
  · refine Chg.trans (Chg.trans h.grew hC fun i hi hb => absurd (h.new i hb) (by omega)) hc3 fun i hi e => by omega
  · rcases hF j hj with q | q
    · exact h.new j q
    · have := h.grew.size; omega
  · rw [← h3]
    have := (hb2.put 0 (.slice Ar' ls'.length cr')).put 1 (.int .i64 nx')
    simpa using this

theorem Pair.copied {w wr w2 : World} {b b' N c c' cr : Nat} {nx : Int} {ls : List Auc} {A A' Ar : Option Addr} (h : Pair w wr b N nx ls A c Ar cr) (hi : BidsIn w2 b' nx ls A' c') (hg : Grew wr w2) (hn : ∀ k, BF b' A' k → wr.heap.size ≤ k) :
    Pair wr (w2.alloc (.cells #[.slice Ar ls.length cr, .int .i64 nx] 39)) b' w2.heap.size nx ls A' c' Ar cr := by
  have hg' := hg.alloc (.cells #[.slice Ar ls.length cr, .int .i64 nx] 39)
  refine ⟨⟨hi.grew ((Chg.refl _ _).alloc _), h.both.sl.grew hg', fun hp a ha hb => ?_, h.both.rt, h.both.nb⟩, hg', hn, hg.size, Blk.new _ _ _, fun hb => ?_⟩
  · have := hn _ hb; have := h.both.sl.lt hp a ha; omega
  · have := hi.lt hb; omega

theorem Pair.made (w : World) : Pair w ((w.alloc (.cells #[.slice none 0 0, .int .i64 1] 58)).alloc (.cells #[.slice none 0 0, .int .i64 1] 39)) w.heap.size (w.heap.size + 1) 1 [] none 0 none 0 := by
  refine ⟨⟨?_, Sl.nil _ _ _, fun h => absurd h (by simp), Rt.nil, by omega⟩, ((Chg.refl _ _).alloc _).alloc _, fun j hj => ?_, by omega, ?_, fun hb => ?_⟩
  · exact (Mine.made w).isIn.grew ((Chg.refl _ _).alloc _)
  · exact (Mine.made w).new j hj
  · have := Blk.new (w.alloc (.cells #[.slice none 0 0, .int .i64 1] 58)) 39 #[.slice none 0 0, .int .i64 1]
    simpa using this
  · rcases hb with hb | ⟨a, ha, -⟩
    · omega
    · cases ha

end Go.Proofs.Ytbmogbbenfpmiaa
