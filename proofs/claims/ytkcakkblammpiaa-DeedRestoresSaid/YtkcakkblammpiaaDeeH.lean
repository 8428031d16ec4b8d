/- The deeds: Move, Void, Copy. -/
import Derived.Test.YtkcakkblammpiaaDeeG
namespace Go.Proofs.Ytkcakkblammpiaa
open Go.RowKit

/-- What a move is refused for; 0: it stands. -/
def moveE (l : List Dee) (id to : Int) : Int := if fidx (fun x : Dee => x.id == id) l < 0 then 14 else if to < 1 then 10 else if to = (fnd (fun x : Dee => x.id == id) l).holder then 0 else mayE l to

set_option maxHeartbeats 800000 in
theorem move_no (b : Nat) (nx id to r : Int) (l : List Dee) (A : Option Addr) (c : Nat) (w : World) (h : DeedsIn w b nx l A c) (hl : l.length ≤ 1000000) (hr : moveE l id to = r) (hr0 : r ≠ 0 ∨ to = (fnd (fun x : Dee => x.id == id) l).holder) :
    Calls Try.prog 29 #[.pointer (some ⟨b, 0, none⟩), .int .i64 id, .int .i64 to] w fun e w' => e = .returned (.int .i64 r) ∧ Grew w w' := by
  obtain ⟨y, hy⟩ : ∃ y, fnd (fun x : Dee => x.id == id) l = y := ⟨_, rfl⟩
  obtain ⟨i, hi⟩ : ∃ i, fidx (fun x : Dee => x.id == id) l = i := ⟨_, rfl⟩
  obtain ⟨m, hm⟩ : ∃ m, mayE l to = m := ⟨_, rfl⟩
  have H := Lib.hid h
  have Hyi := Lib.hid (And.intro hy hi)
  have Hm := Lib.hid hm
  have Hr : r = if i < 0 then 14 else if to < 1 then 10 else if to = y.holder then 0 else m := by rw [← hr, ← hi, ← hm, ← hy]; rfl
  rw [hy] at hr0
  clear h hr hy hi hm
  by_cases h1 : i < 0 <;> by_cases h2 : to < 1 <;> by_cases h3 : to = y.holder
  all_goals try (have h4 : (m == 0) = false := by rw [beq_eq_false_iff_ne]; intro e; subst e; simp [h1, h2, h3] at Hr; rcases hr0 with h | h; exact h Hr; exact h3 h)
  all_goals try (have h5 : (m != 0) = true := by simp only [bne, h4, Bool.not_false])
  all_goals have h7 : (to == y.holder) = decide (to = y.holder) := by rfl
  all_goals try (have h8 : (to == y.holder) = true := by simp [h3])
  all_goals try (have h8 : (to == y.holder) = false := by simp [h3])
  all_goals clear hr0 h7
  all_goals have HR := Lib.hid Hr
  all_goals have H3 := Lib.hid h3
  all_goals clear Hr h3
  all_goals
    go_enter Try.func29, Try.ntmps29
    go_wp2_with (first
      | (go_at_call 31; refine (at_any b nx id l A c _ H.out hl y i Hyi.out.1 Hyi.out.2).mono ?_; rintro e w1 ⟨rfl, hg1⟩; have HG1 := Lib.hid hg1; clear hg1)
      | (go_at_call 16; refine (may_any b nx to m l A c _ (H.out.grew (HG1.out.alloc _)) hl Hm.out).mono ?_; rintro e w2 ⟨rfl, hg2⟩))
    go_ret
    have e := HR.out
    have h3 := H3.out
    (first | rw [if_pos (by omega)] at e | (rw [if_neg (by omega)] at e; first | rw [if_pos (by omega)] at e | (rw [if_neg (by omega)] at e; first | rw [if_pos h3] at e | rw [if_neg h3] at e)))
    refine ⟨by rw [e]; rfl, ?_⟩
    first | exact HG1.out.alloc _ | exact Grew.trans (HG1.out.alloc _) hg2

theorem move_after {w W X : World} {b c k : Nat} {nx to : Int} {l : List Dee} {x : Dee} {A : Option Addr} (hD : Grew w W) (hW : DeedsIn W b nx l A c) (hx : l[k]? = some x) (a : Addr) (hA : A = some a) (hX : W.setCell ⟨a.block, k * 3 + 2, none⟩ (.int .i64 to) = X) :
    DeedsTo w X b A nx (l.set k { x with holder := to }) := by
  subst hA
  obtain ⟨g, rfl, hg⟩ := own_some hW.own
  simp only [] at hX
  have hne : b ≠ g := fun e => own_blk_ne hW.own hW.blk (by decide) (by simp [Value.ownBlock, e])
  obtain ⟨cur, hb, hgc, hnc, hcm, hcs, htake, hxl⟩ := own_row hW.own
  have hk : k < l.length := (List.getElem?_eq_some_iff.1 hx).1
  refine ⟨some ⟨g, 0, none⟩, c, ⟨?_, ?_⟩, ?_, fun _ => .inl⟩
  · rw [← hX, List.length_set]
    exact hW.blk.far (p := ⟨g, k * 3 + 2, none⟩) hne _
  · have hv := Dee.set_holder l to k x hx
    refine ⟨by rw [← hv, List.length_set, List.length_set, Dee.vals_len], .inr ⟨g, c, cur.setIfInBounds (k * 3 + 2) (.int .i64 to), by rw [List.length_set], hb, ?_, by rw [List.length_set]; exact hnc, hcm, by simpa using hcs, ?_⟩⟩
    · rw [← hX]
      simp [World.setCell, Array.getElem?_modify, hgc]
    · rw [← hv, ← htake, List.length_set]
      simp [List.take_set]
  · rw [← hX]
    exact hD.chg.setCell (p := ⟨g, k * 3 + 2, none⟩) (fun _ => .inr ⟨_, rfl, rfl⟩) _

set_option maxHeartbeats 800000 in
theorem move_yes (b k : Nat) (x : Dee) (nx id to : Int) (l : List Dee) (A : Option Addr) (c : Nat) (w : World) (h : DeedsIn w b nx l A c) (hl : l.length ≤ 1000000) (hi : fidx (fun x : Dee => x.id == id) l = k) (hx : l[k]? = some x) (hy : fnd (fun x : Dee => x.id == id) l = x) (h2 : ¬ to < 1) (h3 : to ≠ x.holder) (hm : mayE l to = 0) :
    Calls Try.prog 29 #[.pointer (some ⟨b, 0, none⟩), .int .i64 id, .int .i64 to] w fun e w' => e = .returned (.int .i64 0) ∧ DeedsTo w w' b A nx (l.set k { x with holder := to }) := by
  have hk : k < l.length := (List.getElem?_eq_some_iff.1 hx).1
  have hk1 : (k : Int) < (l.length : Int) := by omega
  obtain ⟨g, off, rfl, hg, -⟩ := h.sl.atDee hx
  obtain ⟨g', e', -⟩ := own_some h.own
  simp only [Addr.mk.injEq, and_true] at e'
  obtain ⟨rfl, rfl⟩ := e'
  have H := Lib.hid h
  have Hx := Lib.hid hx
  have Hyi := Lib.hid (And.intro hy hi)
  have Hm := Lib.hid hm
  have h1 : decide ((k : Int) < 0) = false := by simp
  have h8 : (to == x.holder) = false := by simp [h3]
  clear h hx hy hi hm h3
  go_enter Try.func29, Try.ntmps29
  go_wp2_with (first
    | (go_at_call 31; refine (at_any b nx id l _ c _ H.out hl x k Hyi.out.1 Hyi.out.2).mono ?_; rintro e w1 ⟨rfl, hg1⟩; have HG1 := Lib.hid hg1; clear hg1)
    | (go_at_call 16; refine (may_any b nx to 0 l _ c _ (H.out.grew (HG1.out.alloc _)) hl Hm.out).mono ?_; rintro e w2 ⟨rfl, hg2⟩; have HG2 := Lib.hid (Grew.trans (HG1.out.alloc _) hg2); clear hg2; have HD := Lib.hid (H.out.grew HG2.out); obtain ⟨c2, f2, s2⟩ := HD.out.blk.facts; obtain ⟨g3, off3, hA3, hb3, z0, z1, z2⟩ := HD.out.sl.atDee Hx.out; obtain ⟨cur3, -, hc3, -⟩ := own_row HD.out.own; have hf3 : ∀ i, w2.frozen? ⟨g, i, none⟩ = false := (show Blk w2 g _ cur3 from hc3).frozen; have hs3 := (show Blk w2 g _ cur3 from hc3).lt; clear hc3; simp only [Option.some.injEq, Addr.mk.injEq, and_true] at hA3; obtain ⟨rfl, rfl⟩ := hA3; simp only [Nat.zero_add] at z0 z1 z2))
  go_ret
  exact ⟨rfl, move_after HG2.out HD.out Hx.out ⟨g, 0, none⟩ rfl (by simp)⟩

set_option maxHeartbeats 800000 in
theorem void_no (b : Nat) (nx id : Int) (l : List Dee) (A : Option Addr) (c : Nat) (w : World) (h : DeedsIn w b nx l A c) (hl : l.length ≤ 1000000) (hi : fidx (fun x : Dee => x.id == id) l = -1) :
    Calls Try.prog 24 #[.pointer (some ⟨b, 0, none⟩), .int .i64 id] w fun e w' => e = .returned (.int .i64 14) ∧ Grew w w' := by
  obtain ⟨y, hy⟩ : ∃ y, fnd (fun x : Dee => x.id == id) l = y := ⟨_, rfl⟩
  have H := Lib.hid h
  have Hyi := Lib.hid (And.intro hy hi)
  clear h hy hi
  go_enter Try.func24, Try.ntmps24
  go_wp2_with (go_at_call 31; refine (at_any b nx id l A c _ H.out hl y (-1) Hyi.out.1 Hyi.out.2).mono ?_; rintro e w1 ⟨rfl, hg1⟩; have HG1 := Lib.hid hg1; clear hg1)
  go_ret
  exact ⟨rfl, HG1.out.alloc _⟩

theorem void_after {w W w3 X : World} {b c g : Nat} {nx : Int} {l l' : List Dee} (hD : Grew w W) (hW : DeedsIn W b nx l (some ⟨g, 0, none⟩) c) (hown : w3.ownsRow 0 34 3 (.slice (some ⟨g, 0, none⟩) l'.length c) l'.length (l'.flatMap Dee.vals)) (hg : Chg (fun j => j = g) W w3)
    (hX : w3.setCell ⟨b, 0, none⟩ (.slice (some ⟨g, 0, none⟩) l'.length c) = X) : Blk w3 b 58 #[.slice (some ⟨g, 0, none⟩) l.length c, .int .i64 nx] ∧ DeedsTo w X b (some ⟨g, 0, none⟩) nx l' := by
  have hne : b ≠ g := fun e => own_blk_ne hW.own hW.blk (by decide) (by simp [Value.ownBlock, e])
  have hB : Blk w3 b 58 #[.slice (some ⟨g, 0, none⟩) l.length c, .int .i64 nx] := hW.blk.chg hg hne
  refine ⟨hB, some ⟨g, 0, none⟩, c, ⟨?_, ?_⟩, ?_, fun _ => .inl⟩
  · rw [← hX]
    have := hB.put 0 (.slice (some ⟨g, 0, none⟩) l'.length c)
    simpa using this
  · have h1 : Chg (fun k => k = b) w3 X := by
      rw [← hX]
      exact Chg.setCell (Chg.refl (fun k => k = b) w3) (p := ⟨b, 0, none⟩) (fun _ => rfl) _
    exact own_chg hown h1 (fun g' hg e => hne (by simp [Value.ownBlock] at hg; omega))
  · rw [← hX]
    exact (Chg.trans (F := BF b (some ⟨g, 0, none⟩)) hD.chg hg fun i _ e => .inr ⟨_, rfl, e⟩).setCell (p := ⟨b, 0, none⟩) (fun _ => .inl rfl) _

set_option maxHeartbeats 800000 in
theorem void_yes (b k : Nat) (x : Dee) (nx id : Int) (l : List Dee) (A : Option Addr) (c : Nat) (w : World) (h : DeedsIn w b nx l A c) (hl : l.length ≤ 1000000) (hi : fidx (fun x : Dee => x.id == id) l = k) (hx : l[k]? = some x) :
    Calls Try.prog 24 #[.pointer (some ⟨b, 0, none⟩), .int .i64 id] w fun e w' => e = .returned (.int .i64 0) ∧ DeedsTo w w' b A nx (l.eraseIdx k) := by
  obtain ⟨y, hy⟩ : ∃ y, fnd (fun x : Dee => x.id == id) l = y := ⟨_, rfl⟩
  have hk : k < l.length := (List.getElem?_eq_some_iff.1 hx).1
  obtain ⟨g, off, rfl, hg, -⟩ := h.sl.atDee hx
  obtain ⟨g', e', -⟩ := own_some h.own
  simp only [Addr.mk.injEq, and_true] at e'
  obtain ⟨rfl, rfl⟩ := e'
  have H := Lib.hid h
  have Hyi := Lib.hid (And.intro hy hi)
  have h1 : decide ((k : Int) < 0) = false := by simp
  clear h hx hy hi
  go_enter Try.func24, Try.ntmps24
  go_wp2_with (first
    | (go_at_call 31; refine (at_any b nx id l _ c _ H.out hl y k Hyi.out.1 Hyi.out.2).mono ?_; rintro e w1 ⟨rfl, hg1⟩; have HD := Lib.hid (H.out.grew (hg1.alloc (.cells #[.int .i64 y.id, .int .i64 y.plot, .int .i64 y.holder] 34))); have HG1 := Lib.hid hg1; clear hg1; obtain ⟨c2, f2, s2⟩ := HD.out.blk.facts)
    | (go_at_call 38; refine (Dee.delete_any l k c g _ HD.out.own hk hl).mono ?_; rintro e w3 ⟨rfl, ho3, hc3⟩; have HE := Lib.hid (void_after (HG1.out.alloc _) HD.out ho3 hc3 rfl); clear ho3 hc3 c2 f2 s2; obtain ⟨c5, f5, s5⟩ := HE.out.1.facts))
  go_ret
  exact ⟨rfl, HE.out.2⟩

/-- A copy's answer: new blocks alone. -/
def CopyTo (w w' : World) (nx : Int) (l : List Dee) (e : Ending) : Prop :=
  ∃ b A c, e = .returned (.pointer (some ⟨b, 0, none⟩)) ∧ DeedsIn w' b nx l A c ∧ Grew w w' ∧ ∀ k, BF b A k → w.heap.size ≤ k

theorem own_new {w : World} {base : Nat} {e : TypeId} {s n c : Nat} {a : Addr} {xs : List Value} (h : w.ownsRow base e s (.slice (some a) n c) n xs) : ∃ g, a = ⟨g, 0, none⟩ ∧ base ≤ g := by
  rcases h.2 with ⟨h', _⟩ | ⟨g, cap, cur, h', hb, _⟩
  · cases h'
  · simp at h'; exact ⟨g, h'.1, hb⟩

set_option maxHeartbeats 800000 in
theorem copy_any (b : Nat) (nx : Int) (l : List Dee) (A : Option Addr) (c : Nat) (w : World) (h : DeedsIn w b nx l A c) (hl : l.length ≤ 1000000) :
    Calls Try.prog 23 #[.pointer (some ⟨b, 0, none⟩)] w fun e w' => CopyTo w w' nx l e := by
  obtain ⟨c2, f2, s2⟩ := h.blk.facts
  have H := Lib.hid h
  have c20 := c2 0
  have c21 := c2 1
  have hb := h.blk.lt
  simp only [List.getElem?_toArray, List.getElem?_cons_zero, List.getElem?_cons_succ] at c20 c21
  clear h c2 f2
  go_enter Try.func23, Try.ntmps23
  go_wp2_with fail
  go_region_held3 (fun w' => ∀ (B i : Nat), B < w.heap.size → w'.cell? ⟨B, i, none⟩ = w.cell? ⟨B, i, none⟩)
    ((intro B i hB1; first | rfl | exact hg4.cell (p := ⟨B, i, none⟩) (by simp; omega) id | exact (hg4.alloc _).cell (p := ⟨B, i, none⟩) (by simp; omega) id))
    ((go_at_call 37; refine (Dee.clone_any l A c _ (H.out.grew ((Chg.refl _ _).drew)).own hl).mono ?_; rintro e w4 ⟨A4, c4, rfl, ho4, hg4⟩; have HO4 := Lib.hid ho4; clear ho4))
  all_goals
    go_wp2
    refine bodyPost_ret (v := .pointer (some ⟨w4.heap.size, 0, none⟩)) (by simp [results, Try.results23, go_sem]) rfl ⟨w4.heap.size, A4, c4, rfl, ⟨Blk.new _ _ _, own_base (own_grew HO4.out ((Chg.refl NoF _).alloc _)) (Nat.zero_le _)⟩, Grew.trans (Chg.drew (Chg.refl _ _)) (hg4.alloc _), fun k hk => ?_⟩
    have hsz := hg4.size
    simp only [World.size_drew] at hsz
    rcases hk with rfl | ⟨a, rfl, rfl⟩
    · exact hsz
    · obtain ⟨g, rfl, hg⟩ := own_new HO4.out
      simpa using hg

end Go.Proofs.Ytkcakkblammpiaa
