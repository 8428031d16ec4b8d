/- HeapFull returns true, for every input. It has no condition; the table of math/bits that its row lists is tied to the program. -/
import Derived.Test.YtjkkoogfaibhiaaGreatDoorMgFull7
import Derived.Test.YtjkkoogfaibhiaaGreatDoorRows
import Derived.Shelf.SlMaps.Clone
import Derived.Lib.SlBytesConst
import Derived.Test.YtjkkoogfaibhiaaGreatDoorTie
import Derived.Test.YtjkkoogfaibhiaaGreatDoorCards
import Derived.Lib.LaidTab
import Derived.LaidLaws
import Derived.LaidHandle
import Derived.SevenTiedAt
set_option linter.unusedSimpArgs false
set_option linter.unusedVariables false

/- The pager: a table page's bytes. -/
namespace Go.Proofs.YtjkkoogfaibhiaaGreatDoor
open Go.RowKit Go.Maps

theorem own_apart {w : World} {b1 b2 n1 n2 s1 s2 : Nat} {e1 e2 : TypeId} {v1 v2 : Value} {xs ys : List Value} (h : w.ownsRow b1 e1 s1 v1 n1 xs) (k : w.ownsRow b2 e2 s2 v2 n2 ys) (he : e1 ≠ e2) : ∀ g, v2.ownBlock = some g → v1.ownBlock ≠ some g := by
  intro g hg h1
  rcases h.2 with ⟨rfl, _⟩ | ⟨g1, c1, cur1, rfl, _, hh, _⟩
  · simp [Value.ownBlock] at h1
  · have e : g1 = g := by simpa [Value.ownBlock] using h1
    subst e
    exact own_blk_ne k (show Blk w g1 e1 cur1 from hh) (Ne.symm he) hg

theorem pairs_eq {α : Type} (a b : Nat → α) : ∀ r, ((List.range r).flatMap fun i => [a i, b i]) = (List.range (2 * r)).map fun q => if q % 2 = 0 then a (q / 2) else b (q / 2)
  | 0 => rfl
  | r + 1 => by
    rw [List.range_succ, List.flatMap_append, pairs_eq a b r, show 2 * (r + 1) = 2 * r + 1 + 1 by omega, List.range_succ, List.range_succ, List.map_append, List.map_append]
    simp only [List.flatMap_cons, List.flatMap_nil, List.append_nil, List.map_cons, List.map_nil, List.append_assoc, List.cons_append, List.nil_append]
    rw [if_pos (by omega), if_neg (by omega), show 2 * r / 2 = r by omega, show (2 * r + 1) / 2 = r by omega]
/-- A table page's bytes, its first i entries laid. -/
def secL (tb : List Nat) (row sz k i : Nat) : List Int :=
  (List.range sz).map fun q => if q / 2 < i ∧ q / 2 < row then (if q % 2 = 0 then ((tb.getD (k * row + q / 2) 0 % 256 : Nat) : Int) else ((tb.getD (k * row + q / 2) 0 / 256 % 256 : Nat) : Int)) else 0
theorem secL_len (tb : List Nat) (row sz k i : Nat) : (secL tb row sz k i).length = sz := by simp [secL]
theorem secL_zero (tb : List Nat) (row sz k : Nat) : secL tb row sz k 0 = List.replicate sz 0 := by
  apply List.ext_getElem (by simp [secL])
  intro q h1 h2
  simp [secL]
theorem secL_step (tb : List Nat) {row sz k i v : Nat} (hi : i < row) (hz : 2 * row ≤ sz) (hv : tb[k * row + i]? = some v) : ((secL tb row sz k i).set (2 * i) ((v % 256 : Nat) : Int)).set (2 * i + 1) ((v / 256 % 256 : Nat) : Int) = secL tb row sz k (i + 1) := by
  have hg : tb.getD (k * row + i) 0 = v := by rw [List.getD_eq_getElem?_getD, hv]; rfl
  apply List.ext_getElem (by simp [secL])
  intro q h1 h2
  have hq : q < sz := by simpa [secL] using h2
  rw [List.getElem_set, List.getElem_set]
  simp only [secL, List.getElem_map, List.getElem_range]
  by_cases e1 : 2 * i + 1 = q
  · subst e1
    rw [if_pos rfl, if_pos ⟨by omega, by omega⟩, if_neg (by omega), show (2 * i + 1) / 2 = i by omega, hg]
  · rw [if_neg e1]
    by_cases e2 : 2 * i = q
    · subst e2
      rw [if_pos rfl, if_pos ⟨by omega, by omega⟩, if_pos (by omega), show 2 * i / 2 = i by omega, hg]
    · rw [if_neg e2]
      have e3 : (q / 2 < i ∧ q / 2 < row) ↔ (q / 2 < i + 1 ∧ q / 2 < row) := by omega
      simp only [e3]
theorem secL_full {tb : List Nat} {row sz k m : Nat} (hz : 2 * row ≤ sz) (hm : m ≤ row) (hl : m < row → tb.length ≤ k * row + m) : secL tb row sz k m = tabL tb row sz k := by
  unfold tabL
  rw [pairs_eq]
  apply List.ext_getElem (by simp [secL]; omega)
  intro q h1 h2
  have hq : q < sz := by simpa [secL] using h1
  simp only [secL, List.getElem_map, List.getElem_range]
  by_cases e1 : q < 2 * row
  · rw [List.getElem_append_left (by simpa using e1)]
    simp only [List.getElem_map, List.getElem_range]
    by_cases e2 : q / 2 < m
    · rw [if_pos ⟨e2, by omega⟩]
    · rw [if_neg (by omega)]
      have e3 : tb.getD (k * row + q / 2) 0 = 0 := by
        rw [List.getD_eq_getElem?_getD, List.getElem?_eq_none (by have := hl (by omega); omega)]; rfl
      rw [e3]
      split <;> rfl
  · rw [List.getElem_append_right (by simpa using e1), if_neg (by omega)]
    simp
/-- Has a table page used pages so far? -/
def someB (tb : List Nat) (row k i : Nat) : Bool := (List.range i).any fun j => tb.getD (k * row + j) 0 != 0
theorem someB_step {tb : List Nat} {row k i v : Nat} (hv : tb[k * row + i]? = some v) : someB tb row k (i + 1) = (someB tb row k i || v != 0) := by
  unfold someB
  rw [List.range_succ, List.any_append]
  simp [List.getD_eq_getElem?_getD, hv]
theorem someB_full {tb : List Nat} {row k m : Nat} (hm : m ≤ row) (hl : m < row → tb.length ≤ k * row + m) : someB tb row k m = someB tb row k row := by
  unfold someB
  rw [Bool.eq_iff_iff]
  simp only [List.any_eq_true, List.mem_range, bne_iff_ne]
  constructor
  · rintro ⟨j, hj, e⟩; exact ⟨j, by omega, e⟩
  · rintro ⟨j, hj, e⟩
    refine ⟨j, ?_, e⟩
    by_cases h : j < m
    · exact h
    · exfalso
      apply e
      rw [List.getD_eq_getElem?_getD, List.getElem?_eq_none (by have := hl (by omega); omega)]
      rfl

set_option maxRecDepth 100000 in
set_option maxHeartbeats 1600000 in
theorem gsector_any (p k : Nat) (F : Nat → Prop) (X : Gp) (w : World) (h : GS w p F X) (hrow : X.row = X.D.sz / 2) (hk : k < 64) (hkr : k * X.row < X.table.length) (hl : X.table.length ≤ 4096) (ht : ∀ s ∈ X.table, s < 4096) :
    Calls Tryz.prog 80 #[.pointer (some ⟨p, 0, none⟩), .int .i64 k] w fun e w' =>
      ∃ A c, e = .returned (.tuple #[.slice A X.D.sz c, .bool (someB X.table X.row k X.row)]) ∧ w'.ownsRow w.heap.size 5 1 (.slice A X.D.sz c) X.D.sz (bv (tabL X.table X.row X.D.sz k)) ∧ Grew w w' := by
  have hsz := gsize_any p F X w h
  obtain ⟨L, d, b, A, ca, vp, vt, vo, h, hF⟩ := h
  have hsm := h.dsk.sml
  obtain ⟨T, hT⟩ : ∃ T, X.table.length = T := ⟨_, rfl⟩
  obtain ⟨row, hr⟩ : ∃ r, X.row = r := ⟨_, rfl⟩
  obtain ⟨sz, hs⟩ : ∃ r, X.D.sz = r := ⟨_, rfl⟩
  obtain ⟨lo, hlo⟩ : ∃ lo, k * row = lo := ⟨_, rfl⟩
  obtain ⟨hi, hhi⟩ : ∃ hi, (if lo + row ≤ T then lo + row else T) = hi := ⟨_, rfl⟩
  have hown := h.tbl
  obtain ⟨At, ct, rfl, hct⟩ := own_shape hown
  obtain ⟨gt, rfl, hgt⟩ := own_block hown (by omega)
  rw [hT] at hct hl hkr hown
  rw [hr] at hrow hkr
  rw [hs] at hsm hsz hrow
  rw [hlo] at hkr
  have hB := h.blk
  rw [hr, hT] at hB
  have hlh : lo ≤ hi ∧ hi ≤ T ∧ hi ≤ lo + row := by rw [← hhi]; split <;> omega
  obtain ⟨h1, h2, h3⟩ := hlh
  have q1 : (k : Int) * (row : Int) = (lo : Int) := by rw [← hlo]; simp
  have q2 : ((k : Int) + 1) * (row : Int) = ((lo + row : Nat) : Int) := by rw [Int.add_mul, q1]; simp
  have v1 : hi ≤ ct := by omega
  have v2 : ¬ (ct = lo) := by omega
  have w1 : IntKind.i64.wrap (lo : Int) = (lo : Int) := wrap_nat (by omega)
  have w3 : IntKind.i64.wrap ((k : Int) + 1) = (k : Int) + 1 := by have := wrap_nat (n := k + 1) (by omega); simpa using this
  have w4 : IntKind.i64.wrap ((lo + row : Nat) : Int) = ((lo + row : Nat) : Int) := wrap_nat (by omega)
  have w5 : min ((lo + row : Nat) : Int) (T : Int) = (hi : Int) := by rw [← hhi]; split <;> omega
  have w6 : min ((lo : Int) + (row : Int)) (T : Int) = (hi : Int) := by rw [← w5]; simp
  have w7 : IntKind.i64.wrap ((lo : Int) + (row : Int)) = (lo : Int) + (row : Int) := by rw [← Int.natCast_add]; exact w4
  obtain ⟨w2, hmk0, ho2, hg2, hz2⟩ := make_bytes sz w (by omega)
  obtain ⟨g, hg⟩ : ∃ g, w.heap.size = g := ⟨_, rfl⟩
  rw [hg] at hmk0 ho2
  have hmk : (Instr.makeSlice 34 (.int .i64 sz) (.int .i64 sz)).run Tryz.prog w = .ok (.slice (some ⟨g, 0, none⟩) sz sz) w2 := hmk0
  have hB2 := hB.grew hg2
  obtain ⟨c0, f0, s0⟩ := hB2.facts
  have H := Lib.hid (And.intro hsz (And.intro (own_grew hown hg2) (And.intro ho2 (And.intro hg2 (And.intro ht (And.intro hhi (And.intro hrow (And.intro hlo (And.intro hT hg)))))))))
  rw [hs, hr]
  clear h hF hsz hown hB hB2 ho2 hg2 hz2 hmk0 ht hhi hrow hr hs hlo hT hg
  go_enter Tryz.func80, Tryz.ntmps80
  go_wp2_with (go_at_call 26; (refine H.out.1.mono ?_); rintro e w1 ⟨rfl, rfl⟩)
  have c2 := c0 2
  have c4 := c0 4
  simp only [List.getElem?_toArray, List.getElem?_cons_zero, List.getElem?_cons_succ] at c2 c4
  clear hmk c0 f0
  refine wp_region_held_drew (S := fun W' => W'.cell? ⟨p, 2, none⟩ = some (.int .i64 row) ∧ W'.cell? ⟨p, 4, none⟩ = some (.slice (some ⟨gt, 0, none⟩) T ct)) (by kernel_rfl) ⟨c2, c4⟩ (fun hHeld => ?_)
  refine wpAnyH_take (i := 0) (v := ?_) rfl (by kernel_rfl) (by kernel_rfl) (by kernel_rfl) (fun _ _ _ h => h) (Or.inl ⟨by rfl, ?_⟩) hHeld ?_
  rotate_left
  · (intro w hSw; (try dsimp only at hSw); go_simp) <;> with_reducible rfl
  (try simp only [Act.put, List.setIfInBounds_toArray, List.set_cons_zero, List.set_cons_succ, List.getElem_toArray, List.getElem_cons_zero, List.getElem_cons_succ])
  refine wpAnyH_take (i := 1) (v := ?_) rfl (by kernel_rfl) (by kernel_rfl) (by kernel_rfl) (fun _ _ _ h => h) (Or.inl ⟨by rfl, ?_⟩) hHeld ?_
  rotate_left
  · (intro w hSw; (try dsimp only at hSw); go_simp) <;> with_reducible rfl
  (try simp only [Act.put, List.setIfInBounds_toArray, List.set_cons_zero, List.set_cons_succ, List.getElem_toArray, List.getElem_cons_zero, List.getElem_cons_succ])
  refine wpAnyH_take (i := 2) (v := ?_) rfl (by kernel_rfl) (by kernel_rfl) (by kernel_rfl) (fun _ _ _ h => h) (Or.inl ⟨by rfl, ?_⟩) hHeld ?_
  rotate_left
  · (intro w hSw; (try dsimp only at hSw); go_simp) <;> with_reducible rfl
  (try simp only [Act.put, List.setIfInBounds_toArray, List.set_cons_zero, List.set_cons_succ, List.getElem_toArray, List.getElem_cons_zero, List.getElem_cons_succ])
  refine wpAnyH_take (i := 3) (v := ?_) rfl (by kernel_rfl) (by kernel_rfl) (by kernel_rfl) (fun _ _ _ h => h) (Or.inl ⟨by rfl, ?_⟩) hHeld ?_
  rotate_left
  · (intro w hSw; (try dsimp only at hSw); go_simp) <;> with_reducible rfl
  (try simp only [Act.put, List.setIfInBounds_toArray, List.set_cons_zero, List.set_cons_succ, List.getElem_toArray, List.getElem_cons_zero, List.getElem_cons_succ])
  refine wpAnyH_take (i := 4) (v := ?_) rfl (by kernel_rfl) (by kernel_rfl) (by kernel_rfl) (fun _ _ _ h => h) (Or.inl ⟨by rfl, ?_⟩) hHeld ?_
  rotate_left
  · (intro w hSw; (try dsimp only at hSw); go_simp) <;> with_reducible rfl
  (try simp only [Act.put, List.setIfInBounds_toArray, List.set_cons_zero, List.set_cons_succ, List.getElem_toArray, List.getElem_cons_zero, List.getElem_cons_succ])
  refine wpAnyH_take (i := 5) (v := ?_) rfl (by kernel_rfl) (by kernel_rfl) (by kernel_rfl) (fun _ _ _ h => h) (Or.inl ⟨by rfl, ?_⟩) hHeld ?_
  rotate_left
  · (intro w hSw; (try dsimp only at hSw); go_simp) <;> with_reducible rfl
  (try simp only [Act.put, List.setIfInBounds_toArray, List.set_cons_zero, List.set_cons_succ, List.getElem_toArray, List.getElem_cons_zero, List.getElem_cons_succ])
  refine wpAnyH_take (i := 6) (v := ?_) rfl (by kernel_rfl) (by kernel_rfl) (by kernel_rfl) (fun _ _ _ h => h) (Or.inl ⟨by rfl, ?_⟩) hHeld ?_
  rotate_left
  · (intro w hSw; (try dsimp only at hSw); go_simp) <;> with_reducible rfl
  (try simp only [Act.put, List.setIfInBounds_toArray, List.set_cons_zero, List.set_cons_succ, List.getElem_toArray, List.getElem_cons_zero, List.getElem_cons_succ])
  refine wpAnyH_take (i := 7) (v := ?_) rfl (by kernel_rfl) (by kernel_rfl) (by kernel_rfl) (fun _ _ _ h => h) (Or.inl ⟨by rfl, ?_⟩) hHeld ?_
  rotate_left
  · (intro w hSw; (try dsimp only at hSw); go_simp) <;> with_reducible rfl
  (try simp only [Act.put, List.setIfInBounds_toArray, List.set_cons_zero, List.set_cons_succ, List.getElem_toArray, List.getElem_cons_zero, List.getElem_cons_succ])
  refine wpAnyH_take (i := 8) (v := ?_) rfl (by kernel_rfl) (by kernel_rfl) (by kernel_rfl) (fun _ _ _ h => h) (Or.inl ⟨by rfl, ?_⟩) hHeld ?_
  rotate_left
  · (intro w hSw; (try dsimp only at hSw); go_simp) <;> with_reducible rfl
  (try simp only [Act.put, List.setIfInBounds_toArray, List.set_cons_zero, List.set_cons_succ, List.getElem_toArray, List.getElem_cons_zero, List.getElem_cons_succ])
  refine wpAnyH_take (i := 9) (v := ?_) rfl (by kernel_rfl) (by kernel_rfl) (by kernel_rfl) (fun _ _ _ h => h) (Or.inl ⟨by rfl, ?_⟩) hHeld ?_
  rotate_left
  · (intro w hSw; (try dsimp only at hSw); go_simp) <;> with_reducible rfl
  (try simp only [Act.put, List.setIfInBounds_toArray, List.set_cons_zero, List.set_cons_succ, List.getElem_toArray, List.getElem_cons_zero, List.getElem_cons_succ])
  refine wpAnyH_take (i := 10) (v := ?_) rfl (by kernel_rfl) (by kernel_rfl) (by kernel_rfl) (fun _ _ _ h => h) (Or.inl ⟨by rfl, ?_⟩) hHeld ?_
  rotate_left
  · (intro w hSw; (try dsimp only at hSw); go_simp) <;> with_reducible rfl
  (try simp only [Act.put, List.setIfInBounds_toArray, List.set_cons_zero, List.set_cons_succ, List.getElem_toArray, List.getElem_cons_zero, List.getElem_cons_succ])
  refine wpAnyH_take (i := 11) (v := ?_) rfl (by kernel_rfl) (by kernel_rfl) (by kernel_rfl) (fun _ _ _ h => h) (Or.inl ⟨by rfl, ?_⟩) hHeld ?_
  rotate_left
  · (intro w hSw; (try dsimp only at hSw); go_simp) <;> with_reducible rfl
  (try simp only [Act.put, List.setIfInBounds_toArray, List.set_cons_zero, List.set_cons_succ, List.getElem_toArray, List.getElem_cons_zero, List.getElem_cons_succ])
  refine wpAnyH_take (i := 12) (v := ?_) rfl (by kernel_rfl) (by kernel_rfl) (by kernel_rfl) (fun _ _ _ h => h) (Or.inl ⟨by rfl, ?_⟩) hHeld ?_
  rotate_left
  · (intro w hSw; (try dsimp only at hSw); go_simp) <;> with_reducible rfl
  (try simp only [Act.put, List.setIfInBounds_toArray, List.set_cons_zero, List.set_cons_succ, List.getElem_toArray, List.getElem_cons_zero, List.getElem_cons_succ])
  refine wpAnyH_take (i := 13) (v := ?_) rfl (by kernel_rfl) (by kernel_rfl) (by kernel_rfl) (fun _ _ _ h => h) (Or.inl ⟨by rfl, ?_⟩) hHeld ?_
  rotate_left
  · (intro w hSw; (try dsimp only at hSw); go_simp) <;> with_reducible rfl
  (try simp only [Act.put, List.setIfInBounds_toArray, List.set_cons_zero, List.set_cons_succ, List.getElem_toArray, List.getElem_cons_zero, List.getElem_cons_succ])
  refine wpAnyH_take (i := 14) (v := ?_) rfl (by kernel_rfl) (by kernel_rfl) (by kernel_rfl) (fun _ _ _ h => h) (Or.inl ⟨by rfl, ?_⟩) hHeld ?_
  rotate_left
  · (intro w hSw; (try dsimp only at hSw); go_simp) <;> with_reducible rfl
  (try simp only [Act.put, List.setIfInBounds_toArray, List.set_cons_zero, List.set_cons_succ, List.getElem_toArray, List.getElem_cons_zero, List.getElem_cons_succ])
  refine wpAnyH_take (i := 15) (v := ?_) rfl (by kernel_rfl) (by kernel_rfl) (by kernel_rfl) (fun _ _ _ h => h) (Or.inl ⟨by rfl, ?_⟩) hHeld ?_
  rotate_left
  · (intro w hSw; (try dsimp only at hSw); go_simp) <;> with_reducible rfl
  (try simp only [Act.put, List.setIfInBounds_toArray, List.set_cons_zero, List.set_cons_succ, List.getElem_toArray, List.getElem_cons_zero, List.getElem_cons_succ])
  refine wpAnyH_take (i := 16) (v := ?_) rfl (by kernel_rfl) (by kernel_rfl) (by kernel_rfl) (fun _ _ _ h => h) (Or.inl ⟨by rfl, ?_⟩) hHeld ?_
  rotate_left
  · (intro w hSw; (try dsimp only at hSw); go_simp) <;> with_reducible rfl
  (try simp only [Act.put, List.setIfInBounds_toArray, List.set_cons_zero, List.set_cons_succ, List.getElem_toArray, List.getElem_cons_zero, List.getElem_cons_succ])
  refine wpAnyH_take (i := 17) (v := ?_) rfl (by kernel_rfl) (by kernel_rfl) (by kernel_rfl) (fun _ _ _ h => h) (Or.inl ⟨by rfl, ?_⟩) hHeld ?_
  rotate_left
  · (intro w hSw; (try dsimp only at hSw); go_simp) <;> with_reducible rfl
  (try simp only [Act.put, List.setIfInBounds_toArray, List.set_cons_zero, List.set_cons_succ, List.getElem_toArray, List.getElem_cons_zero, List.getElem_cons_succ])
  refine wpAnyH_take (i := 18) (v := ?_) rfl (by kernel_rfl) (by kernel_rfl) (by kernel_rfl) (fun _ _ _ h => h) (Or.inl ⟨by rfl, ?_⟩) hHeld ?_
  rotate_left
  · (intro w hSw; (try dsimp only at hSw); go_simp) <;> with_reducible rfl
  (try simp only [Act.put, List.setIfInBounds_toArray, List.set_cons_zero, List.set_cons_succ, List.getElem_toArray, List.getElem_cons_zero, List.getElem_cons_succ])
  refine wpAnyH_take (i := 19) (v := ?_) rfl (by kernel_rfl) (by kernel_rfl) (by kernel_rfl) (fun _ _ _ h => h) (Or.inl ⟨by rfl, ?_⟩) hHeld ?_
  rotate_left
  · (intro w hSw; (try dsimp only at hSw); go_simp) <;> with_reducible rfl
  (try simp only [Act.put, List.setIfInBounds_toArray, List.set_cons_zero, List.set_cons_succ, List.getElem_toArray, List.getElem_cons_zero, List.getElem_cons_succ])
  refine wpAnyH_take (i := 20) (v := ?_) rfl (by kernel_rfl) (by kernel_rfl) (by kernel_rfl) (fun _ _ _ h => h) (Or.inl ⟨by rfl, ?_⟩) hHeld ?_
  rotate_left
  · (intro w hSw; (try dsimp only at hSw); go_simp) <;> with_reducible rfl
  (try simp only [Act.put, List.setIfInBounds_toArray, List.set_cons_zero, List.set_cons_succ, List.getElem_toArray, List.getElem_cons_zero, List.getElem_cons_succ])
  refine wpAnyH_take (i := 21) (v := ?_) rfl (by kernel_rfl) (by kernel_rfl) (by kernel_rfl) (fun _ _ _ h => h) (Or.inl ⟨by rfl, ?_⟩) hHeld ?_
  rotate_left
  · (intro w hSw; (try dsimp only at hSw); go_simp) <;> with_reducible rfl
  (try simp only [Act.put, List.setIfInBounds_toArray, List.set_cons_zero, List.set_cons_succ, List.getElem_toArray, List.getElem_cons_zero, List.getElem_cons_succ])
  refine wpAnyH_take (i := 22) (v := ?_) rfl (by kernel_rfl) (by kernel_rfl) (by kernel_rfl) (fun _ _ _ h => h) (Or.inl ⟨by rfl, ?_⟩) hHeld ?_
  rotate_left
  · (intro w hSw; (try dsimp only at hSw); go_simp) <;> with_reducible rfl
  (try simp only [Act.put, List.setIfInBounds_toArray, List.set_cons_zero, List.set_cons_succ, List.getElem_toArray, List.getElem_cons_zero, List.getElem_cons_succ])
  refine wpAnyH_take (i := 23) (v := ?_) rfl (by kernel_rfl) (by kernel_rfl) (by kernel_rfl) (fun _ _ _ h => h) (Or.inl ⟨by rfl, ?_⟩) hHeld ?_
  rotate_left
  · (intro w hSw; (try dsimp only at hSw); go_simp) <;> with_reducible rfl
  (try simp only [Act.put, List.setIfInBounds_toArray, List.set_cons_zero, List.set_cons_succ, List.getElem_toArray, List.getElem_cons_zero, List.getElem_cons_succ])
  refine wpAnyH_take (i := 24) (v := ?_) rfl (by kernel_rfl) (by kernel_rfl) (by kernel_rfl) (fun _ _ _ h => h) (Or.inl ⟨by rfl, ?_⟩) hHeld ?_
  rotate_left
  · (intro w hSw; (try dsimp only at hSw); go_simp) <;> with_reducible rfl
  (try simp only [Act.put, List.setIfInBounds_toArray, List.set_cons_zero, List.set_cons_succ, List.getElem_toArray, List.getElem_cons_zero, List.getElem_cons_succ])
  refine wpAnyH_take (i := 25) (v := ?_) rfl (by kernel_rfl) (by kernel_rfl) (by kernel_rfl) (fun _ _ _ h => h) (Or.inl ⟨by rfl, ?_⟩) hHeld ?_
  rotate_left
  · (intro w hSw; (try dsimp only at hSw); go_simp) <;> with_reducible rfl
  (try simp only [Act.put, List.setIfInBounds_toArray, List.set_cons_zero, List.set_cons_succ, List.getElem_toArray, List.getElem_cons_zero, List.getElem_cons_succ])
  refine wpAnyH_done (by kernel_rfl) ?_ _
  clear hHeld
  obtain ⟨m, hm⟩ : ∃ m, hi - lo = m := ⟨_, rfl⟩
  rw [hm]
  obtain ⟨W9, hw9⟩ : ∃ W9, w2.drew = W9 := ⟨_, rfl⟩
  have HJ0 := Lib.hid (show W9.ownsRow g 5 1 (.slice (some ⟨g, 0, none⟩) sz sz) sz (bv (secL X.table row sz k 0)) ∧ W9.ownsRow 0 3 1 (.slice (some ⟨gt, 0, none⟩) T ct) T (nv X.table) ∧ Grew w W9 from by
    subst hw9
    rw [secL_zero]
    exact ⟨H.out.2.2.1, H.out.2.1, H.out.2.2.2.1.drew⟩)
  have HM := Lib.hid hm
  rw [hw9]
  clear hm hw9 w1 w3 w4 w5 w6 w7 v1 v2 c2 c4
  have hm1 : m ≤ row := by have := HM.out; omega
  have hm2 : lo + m ≤ T := by have := HM.out; omega
  have hrz : 2 * row ≤ sz := by have := H.out.2.2.2.2.2.2.1; omega
  go_wp2_with fail
  go_loopg [7, 38] m (fun q sb v wr => ∃ i : Nat, q = m - i ∧ i ≤ m ∧ sb = .bool (someB X.table row k i) ∧ v = .int .i64 i ∧ wr.ownsRow g 5 1 (.slice (some ⟨g, 0, none⟩) sz sz) sz (bv (secL X.table row sz k i)) ∧ wr.ownsRow 0 3 1 (.slice (some ⟨gt, 0, none⟩) T ct) T (nv X.table) ∧ Grew w wr)
  case atStart => exact ⟨0, rfl, Nat.zero_le _, rfl, rfl, HJ0.out.1, HJ0.out.2.1, HJ0.out.2.2⟩
  case round =>
    obtain ⟨i, rfl, hi2, rfl, rfl, ho, ht, hg⟩ := hrel
    by_cases hlt : i < m
    · obtain ⟨s, hs⟩ : ∃ s, X.table[lo + i]? = some s := ⟨_, List.getElem?_eq_getElem (by rw [H.out.2.2.2.2.2.2.2.2.1]; omega)⟩
      have hs4 := H.out.2.2.2.2.1 s (List.mem_of_getElem? hs)
      have ce : wr.cell? ⟨gt, lo + i, none⟩ = some (.int .i64 s) := by
        have := ht.cells (g := gt) rfl (lo + i) (.int .i64 s) (by simp [nv, hs])
        rwa [Addr.add_lit, Nat.zero_add] at this
      obtain ⟨u0, hu0⟩ : ∃ u, wr.cell? ⟨g, 2 * i, none⟩ = some u := by
        rw [ho.cellAt (2 * i) (by omega)]
        exact ⟨_, List.getElem?_eq_getElem (by rw [bv_len, secL_len]; omega)⟩
      obtain ⟨u1, hu1⟩ : ∃ u, wr.cell? ⟨g, 2 * i + 1, none⟩ = some u := by
        rw [ho.cellAt (2 * i + 1) (by omega)]
        exact ⟨_, List.getElem?_eq_getElem (by rw [bv_len, secL_len]; omega)⟩
      have fr0 := ho.frozenAt (2 * i)
      have fr1 := ho.frozenAt (2 * i + 1)
      have sg : g < wr.heap.size := (ho.lt g rfl).2
      have hsm2 : s / 256 ≤ 255 := by omega
      have b1 : 2 * (i : Int) < (sz : Int) := by omega
      have b2 : 2 * (i : Int) + 1 < (sz : Int) := by omega
      have hst := (((ho.stored (2 * i) (.int .u8 ((s : Int) % 256))).1).stored (2 * i + 1) (.int .u8 ((s : Int) / 256))).1
      have hs2 : X.table[k * row + i]? = some s := by rw [H.out.2.2.2.2.2.2.2.1]; exact hs
      have hsb := someB_step (row := row) hs2
      have hn0 : ((s : Int) != 0) = (s != 0) := by cases s <;> simp <;> omega
      obtain ⟨sb, hsbv⟩ : ∃ sb, someB X.table row k i = sb := ⟨_, rfl⟩
      have hwr : Grew w ((wr.setCell ⟨g, 2 * i, none⟩ (.int .u8 ((s : Int) % 256))).setCell ⟨g, 2 * i + 1, none⟩ (.int .u8 ((s : Int) / 256))) := by
        have h9 := H.out.2.2.2.2.2.2.2.2.2
        exact (hg.setCell (p := ⟨g, 2 * i, none⟩) (fun e => absurd e (by simp only; omega)) _).setCell (p := ⟨g, 2 * i + 1, none⟩) (fun e => absurd e (by simp only; omega)) _
      have htt : ((wr.setCell ⟨g, 2 * i, none⟩ (.int .u8 ((s : Int) % 256))).setCell ⟨g, 2 * i + 1, none⟩ (.int .u8 ((s : Int) / 256))).ownsRow 0 3 1 (.slice (some ⟨gt, 0, none⟩) T ct) T (nv X.table) := by
        have hgg : gt ≠ g := fun e => own_apart ho ht (by decide) gt rfl (by simp [Value.ownBlock, e])
        refine own_chg ht (((Chg.refl (fun j => j = g) wr).setCell (p := ⟨g, 2 * i, none⟩) (fun _ => rfl) _).setCell (p := ⟨g, 2 * i + 1, none⟩) (fun _ => rfl) _) (fun q hq e => ?_)
        simp [Value.ownBlock] at hq
        omega
      have hrow : ((bv (secL X.table row sz k i)).set (2 * i) (.int .u8 ((s : Int) % 256))).set (2 * i + 1) (.int .u8 ((s : Int) / 256)) = bv (secL X.table row sz k (i + 1)) := by
        rw [← secL_step X.table (show i < row by omega) hrz hs2]
        unfold bv
        rw [List.map_set, List.map_set, show ((s % 256 : Nat) : Int) = (s : Int) % 256 by omega, show ((s / 256 % 256 : Nat) : Int) = (s : Int) / 256 by omega]
      rw [hrow] at hst
      have HR := Lib.hid (And.intro hst (And.intro htt (And.intro hwr (And.intro hsb hsbv))))
      rw [hsbv]
      clear hs hs2 hst ho ht hg hsb hsbv hwr htt hrow
      cases sb with
      | true =>
        go_wp2
        go_roundg (m - (i + 1))
        case measure => omega
        case rel => exact ⟨i + 1, rfl, by omega, by rw [HR.out.2.2.2.1, HR.out.2.2.2.2]; rfl, by simp, HR.out.1, HR.out.2.1, HR.out.2.2.1⟩
      | false =>
        go_wp2
        go_roundg (m - (i + 1))
        case measure => omega
        case rel => exact ⟨i + 1, rfl, by omega, by rw [HR.out.2.2.2.1, HR.out.2.2.2.2, ← hn0]; rfl, by simp, HR.out.1, HR.out.2.1, HR.out.2.2.1⟩
    · obtain rfl : i = m := by omega
      have hfull := secL_full (tb := X.table) (k := k) hrz hm1 (fun h => by have h1 := HM.out; have h2 := H.out.2.2.2.2.2.1; have h3 := H.out.2.2.2.2.2.2.2.1; have h4 := H.out.2.2.2.2.2.2.2.2.1; split at h2 <;> omega)
      have hsome := someB_full (tb := X.table) (row := row) (k := k) hm1 (fun h => by have h1 := HM.out; have h2 := H.out.2.2.2.2.2.1; have h3 := H.out.2.2.2.2.2.2.2.1; have h4 := H.out.2.2.2.2.2.2.2.2.1; split at h2 <;> omega)
      have HD := Lib.hid (And.intro ho (And.intro hg (And.intro hfull hsome)))
      clear ho ht hg hfull hsome
      go_wp2
      go_ret2
      refine ⟨some ⟨g, 0, none⟩, sz, by rw [← HD.out.2.2.2]; rfl, ?_, HD.out.2.1⟩
      rw [H.out.2.2.2.2.2.2.2.2.2, ← HD.out.2.2.1]
      exact HD.out.1

end Go.Proofs.YtjkkoogfaibhiaaGreatDoor

/- The pager: the table pages are written, one by one (plain). -/
namespace Go.Proofs.YtjkkoogfaibhiaaGreatDoor
open Go.RowKit Go.Maps

theorem tabL_byte (tb : List Nat) (row sz k : Nat) : ∀ x ∈ tabL tb row sz k, 0 ≤ x ∧ x ≤ 255 := by
  intro x hx
  unfold tabL at hx
  rcases List.mem_append.1 hx with e | e
  · obtain ⟨i, -, e⟩ := List.mem_flatMap.1 e
    simp only [List.mem_cons, List.not_mem_nil, or_false] at e
    rcases e with rfl | rfl <;> omega
  · have := (List.mem_replicate.1 e).2; omega
theorem tabL_len {tb : List Nat} {row sz k : Nat} (h : 2 * row ≤ sz) : (tabL tb row sz k).length = sz := by
  unfold tabL
  rw [pairs_eq]
  simp
  omega
theorem tabL_congr {tb tb' : List Nat} {row sz k : Nat} (h : ∀ i, i < row → tb.getD (k * row + i) 0 = tb'.getD (k * row + i) 0) : tabL tb row sz k = tabL tb' row sz k := by
  unfold tabL
  rw [List.flatMap_def, List.flatMap_def, List.map_congr_left fun i hi => by rw [h i (List.mem_range.1 hi)]]

/-- What turns while the table pages are written. -/
structure TbS where
  D : Dk
  fe : List Bool
  fr : Nat → Bool
  lf : List Nat
  pg : List Nat
def TbS.left (S : TbS) (k s : Nat) : TbS := { S with lf := if s ≤ 1 then S.lf else S.lf ++ [s], pg := S.pg.set k 0 }
def TbS.lay (S : TbS) (k s j : Nat) (bs : List Int) : TbS := { D := S.D.wr j bs, fe := trn S.fe j, fr := setB S.fr j true, lf := if s ≤ 1 then S.lf else S.lf ++ [s], pg := S.pg.set k j }
/-- What holds behind some table pages. -/
structure TInv (D0 : Dk) (pg0 tb old : List Nat) (fr0 : Nat → Bool) (S : TbS) (dn : Nat → Bool) (rem : Nat) : Prop where
  n : S.D.n = D0.n ∧ S.D.sz = D0.sz ∧ S.D.down = D0.down ∧ S.D.armed = D0.armed ∧ S.D.id = D0.id
  byt : ∀ s : Nat, s < D0.n → ∀ x ∈ S.D.rd (s : Int), 0 ≤ x ∧ x ≤ 255
  fel : S.fe.length = D0.n
  pgl : S.pg.length = pg0.length
  keep : ∀ k : Nat, dn k = false → S.pg[k]? = pg0[k]?
  new : ∀ k s : Nat, dn k = true → S.pg[k]? = some s → (s = 0 ∧ someB tb (D0.sz / 2) k (D0.sz / 2) = false) ∨ (2 ≤ s ∧ S.fr s = true ∧ fr0 s = false ∧ S.D.rd (s : Int) = tabL tb (D0.sz / 2) D0.sz k ∧ someB tb (D0.sz / 2) k (D0.sz / 2) = true)
  frr : ∀ s, S.fr s = true → fr0 s = true ∨ ∃ k : Nat, dn k = true ∧ S.pg[k]? = some s
  frk : ∀ s, fr0 s = true → S.fr s = true
  frn : ∀ s, S.fr s = true → 2 ≤ s ∧ s < D0.n ∧ (∀ k : Nat, pg0[k]? ≠ some s) ∧ ∀ i : Nat, old[i]? ≠ some s
  jP : ∀ i j s : Nat, S.pg[i]? = some s → S.pg[j]? = some s → s ≠ 0 → i = j
  acct : ∀ s, s < D0.n → (S.fe.getD s false = false ↔ s < 2 ∨ (∃ k : Nat, pg0[k]? = some s) ∨ (∃ i : Nat, old[i]? = some s) ∨ S.fr s = true)
  lf : S.lf.Nodup ∧ ∀ s, s ∈ S.lf ↔ (2 ≤ s ∧ ∃ i : Nat, old[i]? = some s ∧ tb[i]? ≠ some s) ∨ (s ≠ 0 ∧ ∃ k : Nat, dn k = true ∧ pg0[k]? = some s)
  rd : ∀ s : Nat, (S.fr s = true → fr0 s = true) → S.D.rd (s : Int) = D0.rd (s : Int)
  room : rem ≤ cnt S.fe

section
variable {D0 : Dk} {ep : Nat} {pg0 tb old lf0 : List Nat} {fe0 : List Bool} {fr0 tc dn : Nat → Bool} {S : TbS} {k s j rem : Nat}
theorem TInv.start (h : Inv D0 ep pg0 tb old fe0 fr0 lf0 tc) : TInv D0 pg0 tb old fr0 ⟨D0, fe0, fr0, lf0, pg0⟩ (fun _ => false) (cntN tc 64) :=
  ⟨⟨rfl, rfl, rfl, rfl, rfl⟩, h.byt, h.lens.1, rfl, fun _ _ => rfl, (fun _ _ e => by cases e), fun _ e => .inl e, fun _ e => e, fun s e => ⟨(h.frr s e).1, (h.frr s e).2.1, (h.frr s e).2.2.1, (h.frr s e).2.2.2.1⟩, h.jP, h.acct,
    ⟨h.lf.1, fun s => by rw [h.lf.2 s]; simp⟩, fun _ _ => rfl, h.room⟩
theorem setB_at (f : Nat → Bool) (k : Nat) (v : Bool) (j : Nat) : setB f k v j = if j = k then v else f j := rfl
/-- The old sectors that a table page had. -/
theorem TInv.lfstep (h0 : Inv D0 ep pg0 tb old fe0 fr0 lf0 tc) (h : TInv D0 pg0 tb old fr0 S dn (rem + 1)) (hk : dn k = false) (hs : pg0[k]? = some s) :
    (if s ≤ 1 then S.lf else S.lf ++ [s]).Nodup ∧ ∀ q, q ∈ (if s ≤ 1 then S.lf else S.lf ++ [s]) ↔ (2 ≤ q ∧ ∃ i : Nat, old[i]? = some q ∧ tb[i]? ≠ some q) ∨ (q ≠ 0 ∧ ∃ m : Nat, setB dn k true m = true ∧ pg0[m]? = some q) := by
  have hr : s ≠ 0 → 2 ≤ s := fun e => (h0.rP k s hs e).1
  have hsn : s ≠ 0 → s ∉ S.lf := fun e hm => by
    rcases (h.lf.2 s).1 hm with ⟨h2, i, hi, -⟩ | ⟨-, m, hm1, hm2⟩
    · have := h0.dis k i s hs hi; omega
    · have := h0.jP k m s hs hm2 e
      subst this
      rw [hk] at hm1
      cases hm1
  have key : ∀ q, (q ≠ 0 ∧ ∃ m : Nat, setB dn k true m = true ∧ pg0[m]? = some q) ↔ (q ≠ 0 ∧ ∃ m : Nat, dn m = true ∧ pg0[m]? = some q) ∨ (q ≠ 0 ∧ q = s) := fun q => by
    constructor
    · rintro ⟨e, m, h1, h2⟩
      rw [setB_at] at h1
      by_cases e2 : m = k
      · subst e2; rw [hs] at h2; injection h2 with h2; exact .inr ⟨e, h2.symm⟩
      · rw [if_neg e2] at h1; exact .inl ⟨e, m, h1, h2⟩
    · rintro (⟨e, m, h1, h2⟩ | ⟨e, rfl⟩)
      · refine ⟨e, m, ?_, h2⟩
        rw [setB_at]
        split
        · rfl
        · exact h1
      · exact ⟨e, k, by rw [setB_at, if_pos rfl], hs⟩
  by_cases h1 : s ≤ 1
  · have h00 : s = 0 := by
      by_cases e : s = 0
      · exact e
      · have := hr e; omega
    rw [if_pos h1]
    refine ⟨h.lf.1, fun q => ?_⟩
    rw [h.lf.2 q, key q]
    constructor
    · rintro (e | e)
      · exact .inl e
      · exact .inr (.inl e)
    · rintro (e | e | ⟨e1, e2⟩)
      · exact .inl e
      · exact .inr e
      · omega
  · rw [if_neg h1]
    refine ⟨List.nodup_append.2 ⟨h.lf.1, by simp, fun a ha b hb e => ?_⟩, fun q => ?_⟩
    · simp only [List.mem_singleton] at hb; subst hb; subst e; exact hsn (by omega) ha
    · rw [List.mem_append, List.mem_singleton, h.lf.2 q, key q]
      constructor
      · rintro ((e | e) | e)
        · exact .inl e
        · exact .inr (.inl e)
        · exact .inr (.inr ⟨by omega, e⟩)
      · rintro (e | e | ⟨-, e⟩)
        · exact .inl (.inl e)
        · exact .inl (.inr e)
        · exact .inr e
theorem TInv.skip (h0 : Inv D0 ep pg0 tb old fe0 fr0 lf0 tc) (h : TInv D0 pg0 tb old fr0 S dn (rem + 1)) (hk : dn k = false) (hs : pg0[k]? = some s) (hb : someB tb (D0.sz / 2) k (D0.sz / 2) = false) :
    TInv D0 pg0 tb old fr0 (S.left k s) (setB dn k true) rem := by
  have hkl : k < S.pg.length := by rw [h.pgl]; exact (List.getElem?_eq_some_iff.1 hs).1
  have hpg : S.pg[k]? = some s := by rw [h.keep k hk]; exact hs
  refine ⟨h.n, h.byt, h.fel, by simp [TbS.left, h.pgl], fun m hm => ?_, fun m q hm hq => ?_, fun q hq => ?_, h.frk, h.frn, fun a b q ha hb2 hq => ?_, h.acct, h.lfstep h0 hk hs, h.rd, by have := h.room; show rem ≤ cnt S.fe; omega⟩
  · rw [setB_at] at hm
    have hmk : m ≠ k := fun e => by rw [if_pos e] at hm; cases hm
    rw [if_neg hmk] at hm
    simp only [TbS.left]
    rw [set_at hkl, if_neg hmk]
    exact h.keep m hm
  · simp only [TbS.left] at hq ⊢
    rw [set_at hkl] at hq
    rw [setB_at] at hm
    by_cases e : m = k
    · subst e
      rw [if_pos rfl] at hq
      injection hq with hq
      exact .inl ⟨hq.symm, hb⟩
    · rw [if_neg e] at hm hq
      exact h.new m q hm hq
  · rcases h.frr q hq with e | ⟨m, h1, h2⟩
    · exact .inl e
    · refine .inr ⟨m, ?_, ?_⟩
      · rw [setB_at]; split; rfl; exact h1
      · simp only [TbS.left]
        rw [set_at hkl, if_neg (fun e => by subst e; rw [hk] at h1; cases h1)]
        exact h2
  · simp only [TbS.left] at ha hb2
    rw [set_at hkl] at ha hb2
    split at ha
    · injection ha with ha; omega
    · split at hb2
      · injection hb2 with hb2; omega
      · exact h.jP a b q ha hb2 hq
/-- A sector that is free is none that counts. -/
theorem TInv.free (h : TInv D0 pg0 tb old fr0 S dn rem) (hj : S.fe.getD j false = true) : 2 ≤ j ∧ j < D0.n ∧ (∀ k : Nat, pg0[k]? ≠ some j) ∧ (∀ i : Nat, old[i]? ≠ some j) ∧ S.fr j = false := by
  have hjn : j < D0.n := by
    by_cases e : j < S.fe.length
    · have := h.fel; omega
    · rw [List.getD_eq_getElem?_getD, List.getElem?_eq_none (by omega)] at hj; simp at hj
  have hn : ¬ (j < 2 ∨ (∃ k : Nat, pg0[k]? = some j) ∨ (∃ i : Nat, old[i]? = some j) ∨ S.fr j = true) := fun e => by
    have := (h.acct j hjn).2 e
    rw [hj] at this
    cases this
  simp only [not_or, not_exists] at hn
  exact ⟨by omega, hjn, hn.2.1, hn.2.2.1, by cases e : S.fr j with | false => rfl | true => exact absurd e hn.2.2.2⟩
theorem TInv.lay (h0 : Inv D0 ep pg0 tb old fe0 fr0 lf0 tc) (h : TInv D0 pg0 tb old fr0 S dn (rem + 1)) (hk : dn k = false) (hs : pg0[k]? = some s) (hb : someB tb (D0.sz / 2) k (D0.sz / 2) = true) (hj : S.fe.getD j false = true) :
    TInv D0 pg0 tb old fr0 (S.lay k s j (tabL tb (D0.sz / 2) D0.sz k)) (setB dn k true) rem := by
  have hkl : k < S.pg.length := by rw [h.pgl]; exact (List.getElem?_eq_some_iff.1 hs).1
  obtain ⟨j2, jn, jp, jo, jf⟩ := h.free hj
  have hjl : j < S.fe.length := by rw [h.fel]; exact jn
  have hf0 : fr0 j = false := by cases e : fr0 j with | false => rfl | true => rw [h.frk j e] at jf; cases jf
  have hjpg : ∀ m : Nat, S.pg[m]? ≠ some j := fun m hm => by
    cases hd : dn m with
    | false => rw [h.keep m hd] at hm; exact jp m hm
    | true =>
      rcases h.new m j hd hm with ⟨e, -⟩ | ⟨-, e, -⟩
      · omega
      · rw [jf] at e; cases e
  refine ⟨h.n, fun q hq x hx => ?_, by simp [TbS.lay, trn, h.fel], by simp [TbS.lay, h.pgl], fun m hm => ?_, fun m q hm hq => ?_, fun q hq => ?_, fun q hq => ?_, fun q hq => ?_, fun a b q ha hb2 hq => ?_, fun q hq => ?_, h.lfstep h0 hk hs, fun q hq => ?_, ?_⟩
  · simp only [TbS.lay] at hx
    rw [Dk.wr_rd] at hx
    split at hx
    · exact tabL_byte _ _ _ _ x hx
    · exact h.byt q hq x hx
  · rw [setB_at] at hm
    have hmk : m ≠ k := fun e => by rw [if_pos e] at hm; cases hm
    rw [if_neg hmk] at hm
    simp only [TbS.lay]
    rw [set_at hkl, if_neg hmk]
    exact h.keep m hm
  · simp only [TbS.lay] at hq ⊢
    rw [set_at hkl] at hq
    rw [setB_at] at hm
    by_cases e : m = k
    · subst e
      rw [if_pos rfl] at hq
      injection hq with hq
      subst hq
      exact .inr ⟨j2, by rw [setB_at, if_pos rfl], hf0, by rw [Dk.wr_rd, if_pos rfl], hb⟩
    · rw [if_neg e] at hm hq
      rcases h.new m q hm hq with e1 | ⟨e1, e2, e3, e4, e5⟩
      · exact .inl e1
      · have hqj : q ≠ j := by rintro rfl; rw [jf] at e2; cases e2
        exact .inr ⟨e1, by rw [setB_at, if_neg hqj]; exact e2, e3, by rw [Dk.wr_rd, if_neg hqj]; exact e4, e5⟩
  · simp only [TbS.lay] at hq ⊢
    rw [setB_at] at hq
    by_cases e : q = j
    · subst e
      exact .inr ⟨k, by rw [setB_at, if_pos rfl], by rw [set_at hkl, if_pos rfl]⟩
    · rw [if_neg e] at hq
      rcases h.frr q hq with e1 | ⟨m, h1, h2⟩
      · exact .inl e1
      · refine .inr ⟨m, by rw [setB_at]; split; rfl; exact h1, ?_⟩
        rw [set_at hkl, if_neg (fun e => by subst e; rw [hk] at h1; cases h1)]
        exact h2
  · simp only [TbS.lay]
    rw [setB_at]
    split
    · rfl
    · exact h.frk q hq
  · simp only [TbS.lay] at hq
    rw [setB_at] at hq
    by_cases e : q = j
    · subst e; exact ⟨j2, jn, jp, jo⟩
    · rw [if_neg e] at hq; exact h.frn q hq
  · simp only [TbS.lay] at ha hb2
    rw [set_at hkl] at ha hb2
    split at ha
    · split at hb2
      · omega
      · injection ha with ha; subst ha; exact absurd hb2 (hjpg b)
    · split at hb2
      · injection hb2 with hb2; subst hb2; exact absurd ha (hjpg a)
      · exact h.jP a b q ha hb2 hq
  · simp only [TbS.lay]
    rw [trn_getD hjl, setB_at]
    by_cases e : q = j
    · subst e; rw [if_pos rfl, hj]; simp
    · simp only [e, if_false]
      exact h.acct q hq
  · simp only [TbS.lay] at hq ⊢
    have hqj : q ≠ j := by
      rintro rfl
      have := hq (by rw [setB_at, if_pos rfl])
      rw [hf0] at this
      cases this
    rw [Dk.wr_rd, if_neg hqj]
    exact h.rd q fun e => hq (by rw [setB_at, if_neg hqj]; exact e)
  · have h1 := cnt_trn_no hj
    have h2 := h.room
    show rem ≤ cnt (trn S.fe j)
    omega
end

end Go.Proofs.YtjkkoogfaibhiaaGreatDoor

/- The pager: the table pages are written, one by one. -/
namespace Go.Proofs.YtjkkoogfaibhiaaGreatDoor
open Go.RowKit Go.Maps
open Go.ChangeMaps (setBlock)

/-- A row of the call's own, outside of F. -/
structure OutR (b0 : Nat) (W : World) (F : Nat → Prop) (e : TypeId) (v : Value) (n : Nat) (xs : List Value) : Prop where
  own : W.ownsRow b0 e 1 v n xs
  out : ∀ g, v.ownBlock = some g → ¬ F g
section
variable {b0 n : Nat} {W W' : World} {F F' G : Nat → Prop} {e : TypeId} {v : Value} {xs : List Value}
theorem OutR.rch (h : OutR b0 W F e v n xs) (k : Rch F F' W W') : OutR b0 W' F' e v n xs :=
  ⟨own_chg h.own k.chg h.out, fun g hg q => (k.new g q).elim (h.out g hg) fun q => by have := (h.own.lt g hg).2; omega⟩
theorem OutR.grew (h : OutR b0 W F e v n xs) (hg : Grew W W') : OutR b0 W' F e v n xs := ⟨own_grew h.own hg, h.out⟩
theorem OutR.chg (h : OutR b0 W F e v n xs) (hc : Chg G W W') (hG : ∀ g, v.ownBlock = some g → ¬ G g) : OutR b0 W' F e v n xs := ⟨own_chg h.own hc hG, h.out⟩
end

theorem ChIn.past {w w' : World} {L : Nat → Nat} {o : Cg} {c M1 s1 M2 s2 : Nat} {vw vl : Value} {G : Nat → Prop} (h : ChIn w L o c vw M1 s1 vl M2 s2) (hc : Chg G w w') (hG : ∀ j, L j ≠ 0 → ¬ G j) : ChIn w' L o c vw M1 s1 vl M2 s2 :=
  ⟨h.blk.chg hc (hG _ (by rw [h.lc]; omega)), h.lc, own_chg h.was hc (fun j hj => hG j (by rw [h.lw j hj]; omega)), h.lw, h.fr.chg hc (hG _ (by rw [h.lf]; omega)), h.lf, own_chg h.lft hc (fun j hj => hG j (by rw [h.ll j hj]; omega)), h.ll, h.tch.chg hc (hG _ (by rw [h.lt]; omega)), h.lt, h.n1, h.n2⟩
def Gp.at_ (X : Gp) (o : Cg) (S : TbS) : Gp := { X with D := S.D, free := S.fe, op := some { o with fresh := S.fr, left := S.lf } }
theorem mem_keysL {f : Nat → Bool} {N k : Nat} : k ∈ keysL f N ↔ k < N ∧ f k = true := by
  unfold keysL
  rw [List.mem_filter, List.mem_range]
theorem keysL_len (f : Nat → Bool) (N : Nat) : (keysL f N).length = cntN f N := by
  unfold keysL
  rw [cntN_countP, List.countP_eq_length_filter]
theorem keysL_nd (f : Nat → Bool) (N : Nat) : (keysL f N).Nodup := List.nodup_range.filter _
/-- The first i of them are done. -/
def dnOf (ks : List Nat) (i : Nat) : Nat → Bool := fun k => decide (k ∈ ks.take i)
theorem dnOf_zero (ks : List Nat) : dnOf ks 0 = fun _ => false := by funext k; simp [dnOf]
theorem dnOf_step {ks : List Nat} {i k : Nat} (h : ks[i]? = some k) : dnOf ks (i + 1) = setB (dnOf ks i) k true := by
  funext m
  rw [setB_at]
  unfold dnOf
  rw [List.take_add_one, h]
  by_cases e : m = k
  · subst e; simp
  · simp [e]
theorem dnOf_new {ks : List Nat} {i k : Nat} (hn : ks.Nodup) (h : ks[i]? = some k) : dnOf ks i k = false := by
  unfold dnOf
  refine decide_eq_false fun hm => ?_
  obtain ⟨q, hq, e⟩ := List.mem_iff_getElem.1 hm
  rw [List.getElem_take] at e
  rw [List.length_take] at hq
  have h9 : ks[q]? = ks[i]? := by rw [List.getElem?_eq_getElem (show q < ks.length by omega), h, e]
  have := (List.getElem?_inj (by omega) hn).1 h9
  omega
theorem TInv.lfle {D0 : Dk} {ep : Nat} {pg0 tb old lf0 : List Nat} {fe0 : List Bool} {fr0 tc dn : Nat → Bool} {S : TbS} {rem : Nat} (h0 : Inv D0 ep pg0 tb old fe0 fr0 lf0 tc) (h : TInv D0 pg0 tb old fr0 S dn rem) : S.lf.length ≤ 4096 := by
  have h1 := List.Nodup.length_le_of_subset h.lf.1 (l₂ := List.range D0.n) fun s hs => List.mem_range.2 (by
    rcases (h.lf.2 s).1 hs with ⟨-, i, hi, -⟩ | ⟨e, k, -, hk⟩
    · exact h0.rO i s hi
    · exact (h0.rP k s hk e).2)
  have := h0.sz
  rw [List.length_range] at h1
  omega

theorem tabs_lt (row need sz : Nat) : ∀ f k0, (∀ j, j < k0 → j * row < need) → ∀ j, j < tabs row need sz f k0 → j * row < need
  | 0, k0, h, j, hj => h j hj
  | f + 1, k0, h, j, hj => by
    unfold tabs at hj
    split at hj
    · rename_i hc
      refine tabs_lt row need sz f (k0 + 1) (fun q hq => ?_) j hj
      by_cases e : q = k0
      · subst e; exact hc.2
      · exact h q (by omega)
    · exact h j hj
theorem cap_lt {n sz k : Nat} (hz : 64 ≤ sz) (hk : k < tabN n sz) : k * (sz / 2) < capN n sz := by
  have h1 := tabs_lt (sz / 2) (n - 2) sz 64 0 (fun j hj => by omega) k hk
  have h2 : (k + 1) * (sz / 2) ≤ tabN n sz * (sz / 2) := Nat.mul_le_mul_right _ hk
  rw [Nat.add_mul, Nat.one_mul] at h2
  unfold capN
  split <;> omega

/-- Between two table pages. -/
structure TabsJ (w wr : World) (p : Nat) (F F' : Nat → Prop) (X : Gp) (o : Cg) (S : TbS) (ks : List Nat) (vp vk : Value) : Prop where
  gs : GS wr p F' (X.at_ o S)
  rch : Rch F F' w wr
  row : OutR w.heap.size wr F' 3 vp X.pages.length (nv S.pg)
  keys : OutR w.heap.size wr F' 3 vk ks.length (nv ks)
  ne : ∀ g, vp.ownBlock = some g → vk.ownBlock ≠ some g
/-- What tables leaves. -/
def TabsO (w w' : World) (p : Nat) (F : Nat → Prop) (X : Gp) (o : Cg) (e : Ending) : Prop :=
  ∃ S F' v, e = .returned (.tuple #[v, .int .i64 0]) ∧ TInv X.D X.pages X.table o.was o.fresh S (dnOf (keysL o.touched 64) (keysL o.touched 64).length) 0 ∧ GS w' p F' (X.at_ o S) ∧ Rch F F' w w' ∧ OutR w.heap.size w' F' 3 v X.pages.length (nv S.pg)

section
variable {w wr w' : World} {p : Nat} {F F' F2 : Nat → Prop} {X : Gp} {o : Cg} {S S' : TbS} {ks : List Nat} {vp vk : Value}
theorem TabsJ.step (h : TabsJ w wr p F F' X o S ks vp vk) (hg : GS w' p F2 (X.at_ o S')) (hr : Rch F' F2 wr w') (hp : S'.pg = S.pg) : TabsJ w w' p F F2 X o S' ks vp vk :=
  ⟨hg, h.rch.trans hr, by rw [hp]; exact h.row.rch hr, h.keys.rch hr, h.ne⟩
theorem TabsJ.grew (h : TabsJ w wr p F F' X o S ks vp vk) (hg : Grew wr w') : TabsJ w w' p F F' X o S ks vp vk :=
  ⟨h.gs.grew hg, h.rch.trans (Rch.grew hg), h.row.grew hg, h.keys.grew hg, h.ne⟩
/-- An entry of the new table is laid. -/
theorem TabsJ.put {g c : Nat} (h : TabsJ w wr p F F' X o S ks (.slice (some ⟨g, 0, none⟩) X.pages.length c) vk) (h0 : 0 < w.heap.size) (k j : Nat) :
    TabsJ w (wr.setCell ⟨g, k, none⟩ (.int .i64 j)) p F F' X o { S with pg := S.pg.set k j } ks (.slice (some ⟨g, 0, none⟩) X.pages.length c) vk := by
  have hc : Chg (fun q => q = g) wr (wr.setCell ⟨g, k, none⟩ (.int .i64 j)) := (Chg.refl (fun q => q = g) wr).setCell (p := ⟨g, k, none⟩) (fun _ => rfl) _
  have hgF : ¬ F' g := h.row.out g rfl
  have hgw := (h.row.own.lt g rfl).1
  refine ⟨h.gs.chg hc (fun q hq e => hgF (e ▸ hq)) (by omega), ⟨Chg.trans h.rch.chg hc fun i hi e => by omega, fun q hq => h.rch.new q hq⟩, ⟨?_, fun q hq => h.row.out q hq⟩, h.keys.chg hc fun q hq e => h.ne q (by rw [e]; rfl) hq, fun q hq => h.ne q hq⟩
  have := (h.row.own.stored k (.int .i64 j)).1
  have e : nv (S.pg.set k j) = (nv S.pg).set k (.int .i64 (j : Int)) := by simp [nv, List.map_set]
  show (wr.setCell ⟨g, k, none⟩ (.int .i64 (j : Int))).ownsRow _ _ _ _ _ (nv (S.pg.set k j))
  rw [e]
  exact this
end

set_option maxRecDepth 100000 in
set_option maxHeartbeats 6400000 in
theorem gtables_ok (p : Nat) (F : Nat → Prop) (X : Gp) (o : Cg) (w : World) (h : GS w p F X) (hok : X.Ok) (hx : X.op = some o) (hne : 0 < (keysL o.touched 64).length) :
    Calls Tryz.prog 44 #[.pointer (some ⟨p, 0, none⟩)] w fun e w' => TabsO w w' p F X o e := by
  have hv := hok.inv
  simp only [Gp.old, Gp.fr, Gp.lf, Gp.tc, hx] at hv
  have hup := hok.up
  have hrow := hok.row
  have hsz := hv.sz
  have HGS := Lib.hid h
  have hpos := tab_pos h.tab
  obtain ⟨L, d, b, A, ca, vp, vt, vo, h, hF⟩ := h
  have ho := h.opn
  rw [hx] at ho
  obtain ⟨c, vw, M1, s1, vl, M2, s2, rfl, hi2⟩ := ho
  obtain ⟨Ap, cp, rfl, -⟩ := own_shape h.pgs
  have hcl := clone_ints X.pages Ap cp w h.pgs (by have := hv.pg64; omega)
  obtain ⟨c0, f0, s0⟩ := h.blk.facts
  have hn64 : ∀ k, o.touched k = true → k < 64 := hi2.n2.2
  have hopt : X.op = some { o with fresh := o.fresh, left := o.left } := hx
  have H := Lib.hid (And.intro h (And.intro hi2 (And.intro hF (And.intro hcl (And.intro hv (And.intro hup (And.intro hrow (And.intro hsz (And.intro hx hne)))))))))
  clear h hi2 hF hcl hv hup hrow hsz hx hok hopt
  go_enter Tryz.func44, Tryz.ntmps44
  go_wp2_with fail
  refine H.out.2.2.2.1.mono ?_
  rintro e w1 ⟨A1, c1, rfl, ho1, hg1⟩
  have hB1 := H.out.1.blk.grew hg1
  have hB2 := H.out.2.1.blk.grew hg1
  obtain ⟨d0, e0, s0'⟩ := hB1.facts
  obtain ⟨d1, e1, s1'⟩ := hB2.facts
  have H1 := Lib.hid (And.intro ho1 hg1)
  clear ho1 hg1 hB1 hB2 c0 f0 s0
  obtain ⟨W2, hW2⟩ : ∃ W, w1.alloc (.cells #[.map (some M2)] 58) = W := ⟨_, rfl⟩
  go_wp2_with (go_at_call 40; (refine (mkeys_any M2 _ W2 hW2).mono ?_); rintro e w2 ⟨rfl, rfl⟩)
  have hg2 : Grew w1 W2 := hW2 ▸ (Chg.refl _ _).alloc _
  have hbb : Blk W2 w1.heap.size 58 #[.map (some M2)] := hW2 ▸ Blk.new _ _ _
  have hks := ksorted_any w1.heap.size M2 s2 64 o.touched W2 hbb (H.out.2.1.tch.grew (Grew.trans H1.out.2 hg2)) hn64 (by omega) H.out.2.2.2.2.2.2.2.2.2
  have HK := Lib.hid (And.intro hks hg2)
  clear hks hg2 hbb hW2 d0 e0 s0' d1 e1 s1'
  refine HK.out.1.mono ?_
  rintro e w3 ⟨A3, c3, rfl, ho3, hg3⟩
  obtain ⟨ks, hks⟩ : ∃ ks, keysL o.touched 64 = ks := ⟨_, rfl⟩
  have hGw3 : Grew w w3 := Grew.trans H1.out.2 (Grew.trans HK.out.2 hg3)
  have hAt : X.at_ o ⟨X.D, X.free, o.fresh, o.left, X.pages⟩ = X := by
    unfold Gp.at_
    rw [show ({ o with fresh := o.fresh, left := o.left } : Cg) = o from rfl, ← H.out.2.2.2.2.2.2.2.2.1]
  rw [hks] at ho3
  have hJ0 : TabsJ w w3 p F F X o ⟨X.D, X.free, o.fresh, o.left, X.pages⟩ ks (.slice A1 X.pages.length c1) (.slice A3 ks.length c3) := by
    have hl1 := H1.out.1.lt
    have hl3 := ho3.lt
    have hz2 := H1.out.2.size
    have hz3 := HK.out.2.size
    refine ⟨by rw [hAt]; exact HGS.out.grew hGw3, Rch.grew hGw3, ⟨own_grew H1.out.1 (Grew.trans HK.out.2 hg3), fun g hg e => ?_⟩, ⟨own_base ho3 (by omega), fun g hg e => ?_⟩, fun g hg1 hg3' => ?_⟩
    · have h8 := (hl1 g hg).1; have h9 := HGS.out.lt g e; omega
    · have h8 := (hl3 g hg).1; have h9 := HGS.out.lt g e; omega
    · have h8 := (hl1 g hg1).2; have h9 := (hl3 g hg3').1; omega
  have hT0 := TInv.start H.out.2.2.2.2.1
  rw [← keysL_len, hks, ← dnOf_zero ks] at hT0
  have hrm : ks.length - 0 = ks.length := rfl
  have HJ0 := Lib.hid (And.intro hJ0 hT0)
  have HKs := Lib.hid hks
  have hkl : ks.length ≤ 64 := by rw [← hks, keysL_len]; exact cntN_le _ _
  simp only [hks]
  clear ho3 hg3 hGw3 hAt hJ0 hT0 hks hrm hne
  obtain ⟨row, hrw⟩ : ∃ r, X.row = r := ⟨_, rfl⟩
  have HRw := Lib.hid hrw
  go_wp2_with fail
  go_loopg [27] ks.length (fun q v wr => ∃ (i : Nat) (S : TbS) (F' : Nat → Prop), q = ks.length - i ∧ i ≤ ks.length ∧ v = .int .i64 i ∧ TabsJ w wr p F F' X o S ks (.slice A1 X.pages.length c1) (.slice A3 ks.length c3) ∧ TInv X.D X.pages X.table o.was o.fresh S (dnOf ks i) (ks.length - i))
  case atStart => exact ⟨0, ⟨X.D, X.free, o.fresh, o.left, X.pages⟩, F, rfl, Nat.zero_le _, rfl, HJ0.out.1, HJ0.out.2⟩
  case round =>
    obtain ⟨i, S, F', rfl, hi, rfl, hJ, hT⟩ := hrel
    have HJ := Lib.hid (And.intro hJ hT)
    clear hJ hT
    by_cases hlt : i < ks.length
    · obtain ⟨k, hk⟩ : ∃ k, ks[i]? = some k := ⟨_, List.getElem?_eq_getElem hlt⟩
      have hkm : k ∈ keysL o.touched 64 := by rw [HKs.out]; exact List.mem_of_getElem? hk
      obtain ⟨hk64, hkt⟩ := mem_keysL.1 hkm
      have hkp : k < X.pages.length := H.out.2.2.2.2.1.tc6 k hkt
      have hkS : k < S.pg.length := by rw [HJ.out.2.pgl]; exact hkp
      have hdn : dnOf ks i k = false := dnOf_new (HKs.out ▸ keysL_nd _ _) hk
      obtain ⟨s, hs⟩ : ∃ s, X.pages[k]? = some s := ⟨_, List.getElem?_eq_getElem hkp⟩
      have hsS : S.pg[k]? = some s := by rw [HJ.out.2.keep k hdn]; exact hs
      obtain ⟨gq, rfl, hgq⟩ := own_block HJ.out.1.row.own (by omega)
      obtain ⟨g3, rfl, hg3⟩ := own_block HJ.out.1.keys.own (by omega)
      have ck : wr.cell? ⟨g3, i, none⟩ = some (.int .i64 k) := by
        have := HJ.out.1.keys.own.cells (g := g3) rfl i (.int .i64 k) (by simp [nv, hk])
        rwa [Addr.add_lit, Nat.zero_add] at this
      have cs : wr.cell? ⟨gq, k, none⟩ = some (.int .i64 s) := by
        have := HJ.out.1.row.own.cells (g := gq) rfl k (.int .i64 s) (by simp [nv, hsS])
        rwa [Addr.add_lit, Nat.zero_add] at this
      have hfs : S.fr s = false := by
        cases e : S.fr s with
        | false => rfl
        | true => exact absurd hs ((HJ.out.2.frn s e).2.2.1 k)
      have hsn : s ≠ 0 → s < X.D.n := fun e => (H.out.2.2.2.2.1.rP k s hs e).2
      have hfl : S.fe.length ≤ 4096 := by have := HJ.out.2.fel; have := H.out.2.2.2.2.2.2.2.1; omega
      have hlv := gleave_any p s F' (X.at_ o S) { o with fresh := S.fr, left := S.lf } wr HJ.out.1.gs rfl hfl (fun h2 => ⟨by have h8 := HJ.out.2.fel; have h9 := hsn (by omega); show s < S.fe.length; omega, fun e => by rw [show ({ o with fresh := S.fr, left := S.lf } : Cg).fresh s = S.fr s from rfl, hfs] at e; cases e⟩) (by have := TInv.lfle H.out.2.2.2.2.1 HJ.out.2; show S.lf.length ≤ 100000; omega)
      have hle : (X.at_ o S).leave { o with fresh := S.fr, left := S.lf } s = X.at_ o { S with lf := if s ≤ 1 then S.lf else S.lf ++ [s] } := by
        unfold Gp.leave Gp.left Gp.at_
        by_cases h1 : s ≤ 1
        · rw [if_pos h1, if_pos h1]
        · rw [if_neg h1, if_neg h1]
          simp only [hfs]
          rfl
      rw [hle] at hlv
      obtain ⟨lf', hlf⟩ : ∃ lf', (if s ≤ 1 then S.lf else S.lf ++ [s]) = lf' := ⟨_, rfl⟩
      rw [hlf] at hlv
      have HLf := Lib.hid hlf
      have HLv := Lib.hid (And.intro hlv (And.intro hk (And.intro hdn (And.intro hs (And.intro hfs hkt)))))
      clear hlv hle hlf hk hkm hkt hdn hs hsS hfs hsn
      go_wp2_with fail
      refine HLv.out.1.mono ?_
      rintro e w4 ⟨rfl, F4, hg4, hc4, hn4⟩
      have hJ4 := HJ.out.1.step (S' := { S with lf := lf' }) hg4 ⟨hc4, hn4⟩ rfl
      have hJ5 := hJ4.put hpos k 0
      have H4 := Lib.hid (And.intro hJ4 hJ5)
      obtain ⟨u0, hu0⟩ : ∃ u, w4.cell? ⟨gq, k, none⟩ = some u := by
        rw [hJ4.row.own.cellAt k (by omega)]
        exact ⟨_, List.getElem?_eq_getElem (by rw [nv_len]; exact hkS)⟩
      have fr0 := hJ4.row.own.frozenAt k
      have sgq := (hJ4.row.own.lt gq rfl).2
      clear hg4 hc4 hn4 hJ4 hJ5 cs ck
      go_wp2_with fail
      have hat5 : X.at_ o { S with lf := lf', pg := S.pg.set k 0 } = X.at_ o { S with lf := lf' } := rfl
      have hsec := gsector_any p k F4 (X.at_ o { S with lf := lf', pg := S.pg.set k 0 }) _ H4.out.2.gs (by show X.row = S.D.sz / 2; rw [HJ.out.2.n.2.1]; exact H.out.2.2.2.2.2.2.1) hk64 (by
        show k * X.row < X.table.length
        rw [H.out.2.2.2.2.2.2.1, H.out.2.2.2.2.1.lens.2.2.1]
        exact cap_lt H.out.2.2.2.2.2.2.2.1.2.2.1 (by rw [← H.out.2.2.2.2.1.lens.2.1]; exact hkp)) H.out.2.2.2.2.1.tb4.1 (fun q hq => by
        obtain ⟨m, hm⟩ := List.mem_iff_getElem?.1 hq
        by_cases e : q < 2
        · omega
        · have h9 := H.out.2.2.2.2.2.2.2.1
          rcases H.out.2.2.2.2.1.cur m q hm (by omega) with e1 | e1
          · have := (H.out.2.2.2.2.1.frr q e1).2.1; omega
          · have := H.out.2.2.2.2.1.rO m q e1; omega)
      have hsb : someB X.table X.row k X.row = someB X.table (X.D.sz / 2) k (X.D.sz / 2) := by rw [H.out.2.2.2.2.2.2.1]
      have htl : tabL X.table X.row S.D.sz k = tabL X.table (X.D.sz / 2) X.D.sz k := by rw [H.out.2.2.2.2.2.2.1, HJ.out.2.n.2.1]
      have hsec2 : Calls Tryz.prog 80 #[.pointer (some ⟨p, 0, none⟩), .int .i64 k] (w4.setCell ⟨gq, k, none⟩ (.int .i64 ((0 : Nat) : Int))) fun e w' =>
          ∃ A c, e = .returned (.tuple #[.slice A S.D.sz c, .bool (someB X.table X.row k X.row)]) ∧ w'.ownsRow (w4.setCell ⟨gq, k, none⟩ (.int .i64 ((0 : Nat) : Int))).heap.size 5 1 (.slice A S.D.sz c) S.D.sz (bv (tabL X.table X.row S.D.sz k)) ∧ Grew (w4.setCell ⟨gq, k, none⟩ (.int .i64 ((0 : Nat) : Int))) w' := hsec
      have HSe := Lib.hid (And.intro hsec2 (And.intro hsb htl))
      clear hsec hsec2 hsb htl hat5 hu0 fr0 sgq
      refine HSe.out.1.mono ?_
      rintro e w6 ⟨A6, c6, rfl, ho6, hg6⟩
      have hJ6 := H4.out.2.grew hg6
      have hT := HJ.out.2
      rw [show ks.length - i = (ks.length - (i + 1)) + 1 by omega] at hT
      obtain ⟨sb, hsb⟩ : ∃ sb, someB X.table X.row k X.row = sb := ⟨_, rfl⟩
      have hsb2 := HSe.out.2.1
      rw [hsb] at hsb2
      have H6 := Lib.hid (And.intro hJ6 (And.intro hT (And.intro ho6 (And.intro hg6 hsb2))))
      rw [hsb]
      clear hJ6 hT ho6 hg6 hsb hsb2
      cases sb with
      | false =>
        go_wp2_with fail
        go_roundg (ks.length - (i + 1))
        case measure => omega
        case rel => exact ⟨i + 1, S.left k s, F4, rfl, by omega, by simp, by unfold TbS.left; rw [HLf.out]; exact H6.out.1, by rw [dnOf_step HLv.out.2.1]; exact TInv.skip H.out.2.2.2.2.1 H6.out.2.1 HLv.out.2.2.1 HLv.out.2.2.2.1 H6.out.2.2.2.2.symm⟩
      | true =>
        obtain ⟨L6, d6, b6, A6p, ca6, vp6, vt6, vo6, hG6, hF6⟩ := H6.out.1.gs
        obtain rfl : F4 = fun j => L6 j ≠ 0 := funext fun j => propext (hF6 j)
        have ho6 : OpnIn w6 L6 vo6 (some { o with fresh := S.fr, left := lf' }) := hG6.opn
        obtain ⟨c', vw', M1', s1', vl', M2', s2', rfl, hi6⟩ := ho6
        obtain ⟨j, hj, hjl, hjt⟩ := take_there (fe := S.fe) (by have := H6.out.2.1.room; omega)
        obtain ⟨j2, jn, jp, jo, jf⟩ := H6.out.2.1.free hjt
        obtain ⟨gb, rfl, hgb⟩ := own_block H6.out.2.2.1 (by have := HJ.out.2.n.2.1; have := H.out.2.2.2.2.2.2.2.1; omega)
        have hgb4 := (H6.out.2.2.1.lt gb rfl).1
        have hbO : OutR w.heap.size w6 (fun j => L6 j ≠ 0) 5 (.slice (some ⟨gb, 0, none⟩) S.D.sz c6) S.D.sz (bv (tabL X.table X.row S.D.sz k)) := by
          have hz5 := H4.out.2.rch.chg.size
          refine ⟨own_base H6.out.2.2.1 (by omega), fun q hq e => ?_⟩
          simp [Value.ownBlock] at hq
          subst hq
          have h8 : gb < (w4.setCell ⟨gq, k, none⟩ (.int .i64 ((0 : Nat) : Int))).heap.size := H4.out.2.gs.lt gb e
          omega
        obtain ⟨x0, y0, z0⟩ := hG6.blk.facts
        have hptk := ptake_some b6 j S.fe A6p ca6 w6 hG6.pol (by omega) hG6.tab hj
        have H7 := Lib.hid (And.intro hG6 (And.intro hi6 (And.intro hbO (And.intro hptk (And.intro hj (And.intro hjt (And.intro (And.intro j2 (And.intro jn (And.intro jp jo))) jf)))))))
        have hgqb : gq ≠ gb := fun e => by
          have h8 : gq < (w4.setCell ⟨gq, k, none⟩ (.int .i64 ((0 : Nat) : Int))).heap.size := by have := (H4.out.2.row.own.lt gq rfl).2; exact this
          omega
        clear hG6 hi6 hbO hptk hj hjt jp jo jf hF6 hgb4
        go_wp2_with fail
        refine H7.out.2.2.2.1.mono ?_
        rintro e w7 ⟨rfl, h71, h72⟩
        obtain ⟨hG7, ht7⟩ := H7.out.1.pool h71 h72
        have hr7 := (ht7.s (K := fun m => m = 3) H7.out.1.lt rfl (by omega)).rch (by omega) (fun j => Iff.rfl)
        have hJ7 := H6.out.1.step (S' := { S with fe := trn S.fe j, lf := lf', pg := S.pg.set k 0 }) hG7.gs hr7 rfl
        have hb7 := H7.out.2.2.1.rch hr7
        have hi7 := H7.out.2.1.keep ht7 (by omega)
        have hJ8 := hJ7.put hpos k j
        have hc8 : Chg (fun q => q = gq) w7 (w7.setCell ⟨gq, k, none⟩ (.int .i64 j)) := (Chg.refl (fun q => q = gq) w7).setCell (p := ⟨gq, k, none⟩) (fun _ => rfl) _
        have hgqF : ∀ q, L6 q ≠ 0 → q ≠ gq := fun q hq e => hJ7.row.out gq rfl (e ▸ hq)
        have hgw := (hJ7.row.own.lt gq rfl).1
        have hG8 := hG7.chg hc8 hgqF (by omega)
        have hi8 : ChIn (w7.setCell ⟨gq, k, none⟩ (.int .i64 j)) L6 { o with fresh := S.fr, left := lf' } c' vw' M1' s1' vl' M2' s2' := hi7.past hc8 hgqF
        have hb8 := hb7.chg hc8 (fun q hq e => hgqb (by simp [Value.ownBlock] at hq; omega))
        obtain ⟨v0, st, o1, o2, hr1, hr2, hG9, ht9⟩ := hG8.frput hi8 (by have := H.out.2.2.2.2.2.2.2.1; omega) H7.out.2.2.2.2.2.2.2
        simp only [goInt] at hr1 hr2
        have hr9 := (ht9.s (K := fun m => m = 8) hG8.lt rfl (by omega)).rch (by omega) (fun j => Iff.rfl)
        have hJ9 := hJ8.step (S' := { S with fe := trn S.fe j, lf := lf', pg := (S.pg.set k 0).set k j, fr := setB S.fr j true }) hG9.gs hr9 rfl
        have hb9 := hb8.rch hr9
        obtain ⟨u0, hu0⟩ : ∃ u, w7.cell? ⟨gq, k, none⟩ = some u := by
          rw [hJ7.row.own.cellAt k (by omega)]
          exact ⟨_, List.getElem?_eq_getElem (by rw [nv_len, List.length_set]; exact hkS)⟩
        have fr0 := hJ7.row.own.frozenAt k
        have sgq := (hJ7.row.own.lt gq rfl).2
        clear x0 y0 z0
        obtain ⟨x0, y0, z0⟩ := hG7.blk.facts
        obtain ⟨x1, y1, z1⟩ := hi7.blk.facts
        have x9 := hG9.blk.cell 0
        simp only [List.getElem?_toArray, List.getElem?_cons_zero] at x9
        have H9 := Lib.hid (And.intro hG9 (And.intro hJ9 hb9))
        clear hG7 ht7 hr7 hJ7 hb7 hi7 hJ8 hc8 hgqF hG8 hi8 hb8 hG9 ht9 hr9 hJ9 hb9 h71 h72
        go_wp2_with fail
        obtain ⟨W9, hW9⟩ : ∃ W, setBlock (setBlock (w7.setCell ⟨gq, k, none⟩ (.int .i64 j)) M1' o1) M1' o2 = W := ⟨_, rfl⟩
        rw [hW9] at H9 ⊢
        clear hr1 hr2 hu0 fr0 sgq x0 y0 z0 x1 y1 z1 x9 hW9
        have hdw := dwrite_ok d6 j (tabL X.table X.row S.D.sz k) (some ⟨gb, 0, none⟩) (by simp) c6 (fun q => L6 q = 2) S.D W9 H9.out.1.dsk (by rw [HJ.out.2.n.2.2.1]; exact H.out.2.2.2.2.2.1.2.1) (by rw [HJ.out.2.n.2.2.2.1]; exact H.out.2.2.2.2.2.1.2.2) (by omega) (by have := HJ.out.2.n.1; omega)
          (tabL_len (by rw [HJ.out.2.n.2.1, H.out.2.2.2.2.2.2.1]; omega)) (by have := Sl.of_own (own_base H9.out.2.2.own (Nat.zero_le _)); rw [tabL_len (by rw [HJ.out.2.n.2.1, H.out.2.2.2.2.2.2.1]; omega)]; exact this)
        rw [tabL_len (by rw [HJ.out.2.n.2.1, H.out.2.2.2.2.2.2.1]; omega)] at hdw
        have HDw := Lib.hid hdw
        clear hdw
        refine HDw.out.mono ?_
        rintro e w10 ⟨rfl, h10⟩
        obtain ⟨L10, hG10, ht10⟩ := H9.out.1.disk h10
        have hr10 := (ht10.s (K := fun m => m = 2) H9.out.1.lt rfl (by omega)).rch (by omega) (fun j => Iff.rfl)
        have hJ10 := H9.out.2.1.step (S' := S.lay k s j (tabL X.table X.row S.D.sz k)) (show GS w10 p (fun j => L10 j ≠ 0) (X.at_ o (S.lay k s j (tabL X.table X.row S.D.sz k))) from by
          have e1 : X.at_ o (S.lay k s j (tabL X.table X.row S.D.sz k)) = { X with D := S.D.wr j (tabL X.table X.row S.D.sz k), free := trn S.fe j, op := some { o with fresh := setB S.fr j true, left := lf' } } := by
            unfold Gp.at_ TbS.lay
            rw [HLf.out]
          rw [e1]
          exact hG10.gs) hr10 (by unfold TbS.lay; simp)
        have hT10 := TInv.lay H.out.2.2.2.2.1 H6.out.2.1 HLv.out.2.2.1 HLv.out.2.2.2.1 H6.out.2.2.2.2.symm H7.out.2.2.2.2.2.1
        rw [← HSe.out.2.2] at hT10
        have H10 := Lib.hid (And.intro hJ10 hT10)
        clear h10 hG10 ht10 hr10 hJ10 hT10
        go_wp2_with fail
        go_roundg (ks.length - (i + 1))
        case measure => omega
        case rel => exact ⟨i + 1, S.lay k s j (tabL X.table X.row S.D.sz k), _, rfl, by omega, by simp, H10.out.1, by rw [dnOf_step HLv.out.2.1]; exact H10.out.2⟩
    · obtain rfl : i = ks.length := by omega
      go_wp2_with fail
      go_ret2
      refine ⟨S, F', _, rfl, ?_, HJ.out.1.gs, HJ.out.1.rch, HJ.out.1.row⟩
      have := HJ.out.2
      rw [Nat.sub_self] at this
      rw [HKs.out]
      exact this

end Go.Proofs.YtjkkoogfaibhiaaGreatDoor

/- The pager: what holds behind a commit (plain). -/
namespace Go.Proofs.YtjkkoogfaibhiaaGreatDoor
open Go.RowKit Go.Maps

theorem grp_inj : ∀ (m a b : Nat) (x y : List Int), a ≤ m → grp a ++ x = grp b ++ y → a = b ∧ x = y := by
  intro m
  induction m with
  | zero =>
    intro a b x y ha h
    obtain rfl : a = 0 := by omega
    rw [grp_small (u := 0) (by omega)] at h
    by_cases hb : b < 128
    · rw [grp_small hb] at h
      simp only [List.cons_append, List.nil_append, List.cons.injEq] at h
      exact ⟨by omega, h.2⟩
    · rw [grp_more (u := b) (by omega)] at h
      simp only [List.cons_append, List.nil_append, List.cons.injEq] at h
      omega
  | succ m ih =>
    intro a b x y ha h
    by_cases h1 : a < 128
    · rw [grp_small h1] at h
      by_cases hb : b < 128
      · rw [grp_small hb] at h
        simp only [List.cons_append, List.nil_append, List.cons.injEq] at h
        exact ⟨by omega, h.2⟩
      · rw [grp_more (u := b) (by omega)] at h
        simp only [List.cons_append, List.nil_append, List.cons.injEq] at h
        omega
    · rw [grp_more (u := a) (by omega)] at h
      by_cases hb : b < 128
      · rw [grp_small hb] at h
        simp only [List.cons_append, List.nil_append, List.cons.injEq] at h
        omega
      · rw [grp_more (u := b) (by omega)] at h
        simp only [List.cons_append, List.cons.injEq] at h
        obtain ⟨e1, e2⟩ := ih (a / 128) (b / 128) x y (by omega) h.2
        exact ⟨by omega, e2⟩
theorem grps_inj : ∀ (l l' : List Nat), l.length = l'.length → grps l = grps l' → l = l'
  | [], [], _, _ => rfl
  | [], b :: l', h, _ => by simp at h
  | a :: l, [], h, _ => by simp at h
  | a :: l, b :: l', h, e => by
    unfold grps at e
    rw [List.flatMap_cons, List.flatMap_cons] at e
    obtain ⟨e1, e2⟩ := grp_inj _ _ _ _ _ (Nat.le_refl _) e
    obtain rfl := grps_inj l l' (by simpa using h) e2
    obtain rfl : a = b := by omega
    rfl
theorem bodyL_inj {ep ep' : Nat} {l l' : List Nat} (h : bodyL ep l = bodyL ep' l') : ep = ep' ∧ l = l' := by
  unfold bodyL at h
  rw [List.append_assoc, List.append_assoc] at h
  obtain ⟨e1, e2⟩ := grp_inj _ _ _ _ _ (Nat.le_refl _) h
  obtain ⟨e3, e4⟩ := grp_inj _ _ _ _ _ (Nat.le_refl _) e2
  exact ⟨by omega, grps_inj _ _ (by omega) e4⟩

theorem rootL_inj {ep ep' sz : Nat} {l l' : List Nat} (hf : (bodyL ep l).length + 14 ≤ sz) (hz : sz ≤ 4096) (h : rootL ep l sz = rootL ep' l' sz) : ep = ep' ∧ l = l' := by
  refine bodyL_inj ?_
  obtain ⟨B, hB⟩ : ∃ B, bodyL ep l = B := ⟨_, rfl⟩
  obtain ⟨B', hB'⟩ : ∃ B, bodyL ep' l' = B := ⟨_, rfl⟩
  unfold rootL at h
  rw [hB, hB'] at h
  rw [hB] at hf
  rw [hB, hB']
  have hl := congrArg List.length h
  have h8 : ∀ e, (tail8 e).length = 8 := fun e => rfl
  have h4 : ∀ x, (lowB x).length = 4 := fun x => rfl
  have hfl : ∀ (b : List Int) (m : Nat), (fitL b m).length = b.length + (m - 2 - b.length) + 2 := fun b m => by simp [fitL]
  simp only [sealL, List.length_append, h8, h4, hfl] at hl
  have hs : (sealL B (sz - 12)).length = (sealL B' (sz - 12)).length := by simp only [sealL, List.length_append, h4, hfl]; omega
  obtain ⟨h1, -⟩ := List.append_inj h hs
  unfold sealL at h1
  obtain ⟨h2, -⟩ := List.append_inj h1 (by rw [hfl, hfl]; omega)
  unfold fitL at h2
  simp only [List.cons.injEq] at h2
  obtain ⟨e1, e2, e3⟩ := h2
  have hle : B.length = B'.length := by omega
  exact (List.append_inj e3 hle).1

section
variable {D0 : Dk} {ep : Nat} {pg0 tb old lf0 : List Nat} {fe0 : List Bool} {fr0 tc dn : Nat → Bool} {S : TbS} {k s j rem : Nat}
theorem getD_some {tb : List Nat} {m s : Nat} (h : tb[m]? = some s) : tb.getD m 0 = s := by rw [List.getD_eq_getElem?_getD, h]; rfl
/-- Where a table page was not touched, its entries are as they were. -/
theorem Inv.same_tab (h0 : Inv D0 ep pg0 tb old fe0 fr0 lf0 tc) {k i : Nat} (hk : tc k = false) (hi : i < D0.sz / 2) : tb.getD (k * (D0.sz / 2) + i) 0 = old.getD (k * (D0.sz / 2) + i) 0 := by
  have hr := h0.row
  have e : (k * (D0.sz / 2) + i) / (D0.sz / 2) = k := by
    rw [Nat.mul_comm, Nat.mul_add_div (by omega), Nat.div_eq_of_lt hi]; rfl
  by_cases h : tb[k * (D0.sz / 2) + i]? = old[k * (D0.sz / 2) + i]?
  · rw [List.getD_eq_getElem?_getD, List.getD_eq_getElem?_getD, h]
  · have := h0.tcd _ h
    rw [e, hk] at this
    cases this
/-- The disk behind the commit: the root is written. -/
def Dk.rooted (D : Dk) (ep : Nat) (pg : List Nat) : Dk := (D.flushed.wr ((ep % 2 : Nat) : Int) (rootL ep pg D.sz)).flushed
theorem Dk.rooted_rd (D : Dk) (ep : Nat) (pg : List Nat) (s : Nat) : (D.rooted ep pg).rd (s : Int) = if s = ep % 2 then rootL ep pg D.sz else D.rd (s : Int) := by
  unfold Dk.rooted
  rw [Dk.flushed_rd, Dk.wr_rd, Dk.flushed_rd]
theorem rootL_byte {ep sz : Nat} {l : List Nat} : ∀ x ∈ rootL ep l sz, 0 ≤ x ∧ x ≤ 255 := by
  intro x hx
  unfold rootL at hx
  rcases List.mem_append.1 hx with e | e
  · unfold sealL at e
    rcases List.mem_append.1 e with e | e
    · exact fitL_byte (bodyL_byte _ _) x e
    · exact lowB_byte (crc_lt (fitL_byte (bodyL_byte _ _))) x e
  · simp only [tail8, List.mem_cons, List.not_mem_nil, or_false] at e
    rcases e with rfl | rfl | rfl | rfl | rfl | rfl | rfl | rfl <;> omega
/-- What holds behind a commit. -/
theorem TInv.commit (h0 : Inv D0 ep pg0 tb old fe0 fr0 lf0 tc) (h : TInv D0 pg0 tb old fr0 S tc rem) (he : ep < 1099511627776) (hf : fitsN pg0.length D0.sz = true) :
    Inv (S.D.rooted (ep + 1) S.pg) (ep + 1) S.pg tb tb (gvn S.fe fun s => decide (s ∈ S.lf)) (fun _ => false) [] (fun _ => false) := by
  have hz := h0.sz
  have hn := h.n
  have hlf2 : ∀ s, s ∈ S.lf → 2 ≤ s := fun s hs => by
    rcases (h.lf.2 s).1 hs with ⟨e, -⟩ | ⟨e, k, -, hk⟩
    · exact e
    · exact (h0.rP k s hk e).1
  have hpg : ∀ (k s : Nat), S.pg[k]? = some s → s ≠ 0 → 2 ≤ s ∧ s < D0.n ∧ (∀ i : Nat, old[i]? ≠ some s) ∧ fr0 s = false := fun k s hk hs => by
    cases hd : tc k with
    | false =>
      rw [h.keep k hd] at hk
      have h1 := h0.rP k s hk hs
      refine ⟨h1.1, h1.2, fun i hi => by have := h0.dis k i s hk hi; omega, ?_⟩
      cases e : fr0 s with
      | false => rfl
      | true => exact absurd hk ((h0.frr s e).2.2.1 k)
    | true =>
      rcases h.new k s hd hk with ⟨e, -⟩ | ⟨e1, e2, e3, -⟩
      · exact absurd e hs
      · have := h.frn s e2; exact ⟨e1, this.2.1, this.2.2.2, e3⟩
  have htb : ∀ (i s : Nat), tb[i]? = some s → s < D0.n := fun i s hi => by
    by_cases e : s < 2
    · omega
    · rcases h0.cur i s hi (by omega) with e1 | e1
      · exact (h0.frr s e1).2.1
      · exact h0.rO i s e1
  have hs4 : ∀ s ∈ S.pg, s < 4096 := fun s hs => by
    obtain ⟨k, hk⟩ := List.mem_iff_getElem?.1 hs
    by_cases e : s = 0
    · omega
    · have := (hpg k s hk e).2.1; omega
  have hfit : (bodyL (ep + 1) S.pg).length + 14 ≤ D0.sz := body_fits (by rw [h.pgl]; exact hf) (by omega) hs4
  have hrd : ∀ (k s : Nat), S.pg[k]? = some s → s ≠ 0 → (S.D.rooted (ep + 1) S.pg).rd (s : Int) = tabL tb (D0.sz / 2) D0.sz k ∧ ∃ i, i < D0.sz / 2 ∧ tb.getD (k * (D0.sz / 2) + i) 0 ≠ 0 := fun k s hk hs => by
    have h1 := hpg k s hk hs
    rw [Dk.rooted_rd, if_neg (by omega)]
    cases hd : tc k with
    | false =>
      have hk0 := hk
      rw [h.keep k hd] at hk0
      have e1 : S.D.rd (s : Int) = D0.rd (s : Int) := h.rd s fun e => absurd hk0 ((h.frn s e).2.2.1 k)
      rw [e1, h0.dur.tabs k s hk0 hs, tabL_congr (fun i hi => (h0.same_tab hd hi).symm)]
      obtain ⟨i, hi, e⟩ := h0.dur.tab1 k s hk0 hs
      exact ⟨rfl, i, hi, by rw [h0.same_tab hd hi]; exact e⟩
    | true =>
      rcases h.new k s hd hk with ⟨e, -⟩ | ⟨e1, e2, e3, e4, e5⟩
      · exact absurd e hs
      · refine ⟨e4, ?_⟩
        unfold someB at e5
        simp only [List.any_eq_true, List.mem_range, bne_iff_ne] at e5
        exact e5
  refine ⟨by rw [show (S.D.rooted (ep + 1) S.pg).n = S.D.n from rfl, show (S.D.rooted (ep + 1) S.pg).sz = S.D.sz from rfl, hn.1, hn.2.1]; exact hz, ?_, ?_, ?_, fun i j s hi hj h2 => h0.jT i j s hi hj h2, h.jP, fun k i s hk hi => ?_, fun s hs => ?_, fun s hs => (by cases hs), fun i s hi _ => .inr hi, fun i j s hi hj h2 => h0.jT i j s hi hj h2, ⟨List.nodup_nil, fun s => ⟨fun e => (by cases e), fun e => by obtain ⟨-, i, h1, h2⟩ := e; exact absurd h1 h2⟩⟩, fun i hi => absurd rfl hi, fun k hk => (by cases hk), ?_, fun s _ _ => rfl, ⟨fun _ => ?_, fun i e' pg' hi hg hp hr => ?_, fun e => (by omega), fun k hk i hi => ?_, fun k s hk hs => ?_, fun k s hk hs => ?_⟩, fun s hs x hx => ?_, by omega, fun s hs x hx => ?_⟩
  · refine ⟨by rw [gvn_len, h.fel]; exact hn.1.symm, ?_, ?_, ?_⟩
    · show S.pg.length = tabN S.D.n S.D.sz
      rw [hn.1, hn.2.1, h.pgl]; exact h0.lens.2.1
    · show tb.length = capN S.D.n S.D.sz
      rw [hn.1, hn.2.1]; exact h0.lens.2.2.1
    · show tb.length = capN S.D.n S.D.sz
      rw [hn.1, hn.2.1]; exact h0.lens.2.2.1
  · intro i s hi
    show s < S.D.n
    rw [hn.1]; exact htb i s hi
  · intro k s hk hs
    show 2 ≤ s ∧ s < S.D.n
    rw [hn.1]
    have := hpg k s hk hs
    exact ⟨this.1, this.2.1⟩
  · by_cases e : s = 0
    · omega
    · have h1 := hpg k s hk e
      by_cases e2 : s < 2
      · exact e2
      · rcases h0.cur i s hi (by omega) with e3 | e3
        · rw [h1.2.2.2] at e3; cases e3
        · exact absurd e3 (h1.2.2.1 i)
  · have hsn : s < D0.n := by have : s < S.D.n := hs; omega
    rw [gvn_at, h.fel]
    simp only [hsn, decide_true, Bool.true_and, Bool.or_eq_false_iff, decide_eq_false_iff_not]
    constructor
    · rintro ⟨e1, e2⟩
      rcases (h.acct s hsn).1 e1 with e | ⟨k, hk⟩ | ⟨i, hi⟩ | e
      · exact .inl e
      · by_cases e3 : s = 0
        · exact .inl (by omega)
        · cases hd : tc k with
          | false => exact .inr (.inl ⟨k, by rw [h.keep k hd]; exact hk⟩)
          | true => exact absurd ((h.lf.2 s).2 (.inr ⟨e3, k, hd, hk⟩)) e2
      · by_cases e3 : s < 2
        · exact .inl e3
        · by_cases e4 : tb[i]? = some s
          · exact .inr (.inr (.inl ⟨i, e4⟩))
          · exact absurd ((h.lf.2 s).2 (.inl ⟨by omega, i, hi, e4⟩)) e2
      · rcases h.frr s e with e3 | ⟨k, e3, e4⟩
        · obtain ⟨i, hi⟩ := (h0.frr s e3).2.2.2.2
          exact .inr (.inr (.inl ⟨i, hi⟩))
        · exact .inr (.inl ⟨k, e4⟩)
    · rintro (e | ⟨k, hk⟩ | ⟨i, hi⟩ | e)
      · exact ⟨(h.acct s hsn).2 (.inl e), fun hm => by have := hlf2 s hm; omega⟩
      · by_cases e3 : s = 0
        · exact ⟨(h.acct s hsn).2 (.inl (by omega)), fun hm => by have := hlf2 s hm; omega⟩
        · have h1 := hpg k s hk e3
          cases hd : tc k with
          | false =>
            have hk0 := hk
            rw [h.keep k hd] at hk0
            refine ⟨(h.acct s hsn).2 (.inr (.inl ⟨k, hk0⟩)), fun hm => ?_⟩
            rcases (h.lf.2 s).1 hm with ⟨-, i, hi, -⟩ | ⟨-, m, hm1, hm2⟩
            · exact h1.2.2.1 i hi
            · have := h0.jP k m s hk0 hm2 e3
              subst this
              rw [hd] at hm1
              cases hm1
          | true =>
            rcases h.new k s hd hk with ⟨e, -⟩ | ⟨e1, e2, -⟩
            · exact absurd e e3
            · refine ⟨(h.acct s hsn).2 (.inr (.inr (.inr e2))), fun hm => ?_⟩
              have h9 := h.frn s e2
              rcases (h.lf.2 s).1 hm with ⟨-, i, hi, -⟩ | ⟨-, m, -, hm2⟩
              · exact h9.2.2.2 i hi
              · exact h9.2.2.1 m hm2
      · by_cases e3 : s < 2
        · exact ⟨(h.acct s hsn).2 (.inl e3), fun hm => by have := hlf2 s hm; omega⟩
        · rcases h0.cur i s hi (by omega) with e | e
          · have h9 := h.frn s (h.frk s e)
            refine ⟨(h.acct s hsn).2 (.inr (.inr (.inr (h.frk s e)))), fun hm => ?_⟩
            rcases (h.lf.2 s).1 hm with ⟨-, i', hi', -⟩ | ⟨-, m, -, hm2⟩
            · exact h9.2.2.2 i' hi'
            · exact h9.2.2.1 m hm2
          · refine ⟨(h.acct s hsn).2 (.inr (.inr (.inl ⟨i, e⟩))), fun hm => ?_⟩
            rcases (h.lf.2 s).1 hm with ⟨-, i', hi', hn'⟩ | ⟨-, m, -, hm2⟩
            · have := h0.jO i i' s e hi' (by omega)
              subst this
              exact hn' hi
            · have := h0.dis m i s hm2 e; omega
      · cases e
  · rw [show cntN (fun _ => false) 64 = 0 from cntN_false fun _ _ => rfl]
    exact Nat.zero_le _
  · rw [Dk.rooted_rd, if_pos rfl]; rfl
  · rw [Dk.rooted_rd] at hr
    by_cases e : i = (ep + 1) % 2
    · rw [if_pos e] at hr
      have hr' : rootL (ep + 1) S.pg D0.sz = rootL e' pg' D0.sz := by
        have h9 : (S.D.rooted (ep + 1) S.pg).sz = D0.sz := hn.2.1
        rw [h9] at hr
        rw [← hr, hn.2.1]
      obtain ⟨e1, e2⟩ := rootL_inj hfit hz.2.2.2 hr'
      exact ⟨by omega, fun _ => e2.symm⟩
    · rw [if_neg e] at hr
      have e1 : S.D.rd (i : Int) = D0.rd (i : Int) := h.rd i fun e => by have := (h.frn i e).1; omega
      rw [e1] at hr
      have h9 : (S.D.rooted (ep + 1) S.pg).sz = D0.sz := hn.2.1
      rw [h9] at hr
      obtain ⟨e2, -⟩ := h0.dur.other i e' pg' hi hg hp hr
      exact ⟨by omega, fun e3 => by omega⟩
  · have h9 : (S.D.rooted (ep + 1) S.pg).sz = D0.sz := hn.2.1
    rw [h9] at hi ⊢
    cases hd : tc k with
    | false =>
      rw [h0.same_tab hd hi]
      rw [h.keep k hd] at hk
      exact h0.dur.tab0 k hk i hi
    | true =>
      rcases h.new k 0 hd hk with ⟨-, e⟩ | ⟨e, -⟩
      · unfold someB at e
        have := List.any_eq_false.1 e i (List.mem_range.2 hi)
        simpa using this
      · omega
  · have h9 : (S.D.rooted (ep + 1) S.pg).sz = D0.sz := hn.2.1
    rw [h9]
    exact (hrd k s hk hs).1
  · have h9 : (S.D.rooted (ep + 1) S.pg).sz = D0.sz := hn.2.1
    rw [h9]
    exact (hrd k s hk hs).2
  · rw [Dk.rooted_rd] at hx
    split at hx
    · exact rootL_byte x hx
    · exact h.byt s (by have : s < S.D.n := hs; omega) x hx
  · have hx2 : x ∈ (S.D.rooted (ep + 1) S.pg).rd (s : Int) := hx
    rw [Dk.rooted_rd] at hx2
    split at hx2
    · exact rootL_byte x hx2
    · exact h.byt s (by have : s < S.D.n := hs; omega) x hx2
end

end Go.Proofs.YtjkkoogfaibhiaaGreatDoor

/- The pager: Commit. -/
namespace Go.Proofs.YtjkkoogfaibhiaaGreatDoor
open Go.RowKit Go.Maps

section
variable {w w' : World} {L : Nat → Nat} {p d b ca c M1 s1 M2 s2 : Nat} {X : Gp} {o : Cg} {A : Option Addr} {vp vt vw vl v : Value} {vo : Option Addr} {F : Nat → Prop}
/-- No change is open any more. -/
theorem GIn.close (h : GIn w L p X d b A ca vp vt vo) :
    ∃ L', GIn (w.setCell ⟨p, 6, none⟩ (.pointer none)) L' p { X with op := none } d b A ca vp vt none ∧ Rch (fun j => L j ≠ 0) (fun j => L' j ≠ 0) w (w.setCell ⟨p, 6, none⟩ (.pointer none)) := by
  have hc : Chg (fun j => j = p) w (w.setCell ⟨p, 6, none⟩ (.pointer none)) := (Chg.refl (fun j => j = p) w).setCell (p := ⟨p, 6, none⟩) (fun _ => rfl) _
  have hcL : Chg (fun j => L j = 1) w (w.setCell ⟨p, 6, none⟩ (.pointer none)) := hc.mono fun i _ e => e ▸ h.lp
  obtain ⟨L', hL'⟩ : ∃ L' : Nat → Nat, L' = fun j => if L j ≤ 5 then L j else 0 := ⟨_, rfl⟩
  have lo : ∀ j m, m ≠ 0 → m ≤ 5 → (L' j = m ↔ L j = m) := fun j m h0 h4 => by
    rw [hL']
    dsimp only
    split <;> omega
  have hset : ∀ m, m ≠ 0 → m ≤ 5 → (fun j => L' j = m) = (fun j => L j = m) := fun m h1 h2 => funext fun j => propext (lo j m h1 h2)
  have lz : ∀ j, L' j ≠ 0 → L j ≠ 0 := fun j hj e => by rw [hL'] at hj; simp [e] at hj
  refine ⟨L', ⟨?_, (lo p 1 (by omega) (by omega)).2 h.lp, ?_, h.pol.chg hcL fun j hj e => by have := h.lo j hj; omega, fun j hj => (lo j 3 (by omega) (by omega)).2 (h.lo j hj), own_lab h.pgs h.lg hcL (by omega), fun j hj => (lo j 4 (by omega) (by omega)).2 (h.lg j hj),
      own_lab h.tbl h.lb hcL (by omega), fun j hj => (lo j 5 (by omega) (by omega)).2 (h.lb j hj), rfl, fun j hj => Nat.lt_of_lt_of_le (h.lt j (lz j hj)) hc.size, ?_, tab_chg h.tab hcL (by rw [h.l0]; omega)⟩, hc.mono fun i _ e => by rw [e, h.lp]; omega, fun j hj => .inl (lz j hj)⟩
  · have := h.blk.put 6 (.pointer none)
    simpa using this
  · rw [hset 2 (by omega) (by omega)]
    exact h.dsk.chg hcL fun j hj e => by omega
  · rw [hL']; simp [h.l0]
/-- Other table pages, and the next epoch. -/
theorem GIn.pgset {l : List Nat} {b0 e : Nat} (h : GIn w L p X d b A ca vp vt vo) (ho : OutR b0 w (fun j => L j ≠ 0) 3 v l.length (nv l)) (h0 : 0 < b0) (he : (e : Int) = (X.epoch : Int) + 1) :
    ∃ L', GIn ((w.setCell ⟨p, 3, none⟩ v).setCell ⟨p, 1, none⟩ (.int .i64 ((X.epoch : Int) + 1))) L' p { X with pages := l, epoch := e } d b A ca v vt vo ∧ Chg (fun j => L j ≠ 0) w ((w.setCell ⟨p, 3, none⟩ v).setCell ⟨p, 1, none⟩ (.int .i64 ((X.epoch : Int) + 1))) ∧ ∀ j, L' j ≠ 0 → L j ≠ 0 ∨ b0 ≤ j := by
  have hc : Chg (fun j => j = p) w ((w.setCell ⟨p, 3, none⟩ v).setCell ⟨p, 1, none⟩ (.int .i64 ((X.epoch : Int) + 1))) := ((Chg.refl (fun j => j = p) w).setCell (p := ⟨p, 3, none⟩) (fun _ => rfl) _).setCell (p := ⟨p, 1, none⟩) (fun _ => rfl) _
  have hcL : Chg (fun j => L j = 1) w ((w.setCell ⟨p, 3, none⟩ v).setCell ⟨p, 1, none⟩ (.int .i64 ((X.epoch : Int) + 1))) := hc.mono fun i _ e => e ▸ h.lp
  classical
  obtain ⟨L', hL'⟩ : ∃ L' : Nat → Nat, L' = fun j => if v.ownBlock = some j then 4 else if L j = 4 then 0 else L j := ⟨_, rfl⟩
  have hv0 : ∀ j, v.ownBlock = some j → L j = 0 := fun j hj => by
    by_cases e : L j = 0
    · exact e
    · exact absurd e (ho.out j hj)
  have lo : ∀ j m, m ≠ 0 → m ≠ 4 → (L' j = m ↔ L j = m) := fun j m h1 h2 => by
    rw [hL']
    dsimp only
    split
    · rename_i e
      have := hv0 j e
      omega
    · split <;> omega
  have hset : ∀ m, m ≠ 0 → m ≠ 4 → (fun j => L' j = m) = (fun j => L j = m) := fun m h1 h2 => funext fun j => propext (lo j m h1 h2)
  have l4 : ∀ j, v.ownBlock = some j → L' j = 4 := fun j hj => by rw [hL']; dsimp only; rw [if_pos hj]
  have lz : ∀ j, L' j ≠ 0 → L j ≠ 0 ∨ v.ownBlock = some j := fun j hj => by
    by_cases e : v.ownBlock = some j
    · exact .inr e
    · left
      intro e2
      rw [hL'] at hj
      simp [e, e2] at hj
  refine ⟨L', ⟨?_, (lo p 1 (by omega) (by omega)).2 h.lp, ?_, h.pol.chg hcL fun j hj e => by have := h.lo j hj; omega, fun j hj => (lo j 3 (by omega) (by omega)).2 (h.lo j hj), own_base (own_chg ho.own hcL fun j hj e => by have := hv0 j hj; omega) (Nat.zero_le _), l4,
      own_lab h.tbl h.lb hcL (by omega), fun j hj => (lo j 5 (by omega) (by omega)).2 (h.lb j hj), ?_, fun j hj => ?_, ?_, tab_chg h.tab hcL (by rw [h.l0]; omega)⟩, hc.mono fun i _ e => by rw [e, h.lp]; omega, fun j hj => (lz j hj).imp id fun e => (ho.own.lt j e).1⟩
  · have := (h.blk.put 3 v).put 1 (.int .i64 ((X.epoch : Int) + 1))
    rw [he]
    simpa using this
  · rw [hset 2 (by omega) (by omega)]
    exact h.dsk.chg hcL fun j hj e => by omega
  · have hop := h.opn
    show OpnIn _ L' vo X.op
    cases hx : X.op with
    | none => rw [hx] at hop; exact hop
    | some o =>
      rw [hx] at hop
      obtain ⟨c, vw, M1, s1, vl, M2, s2, rfl, hi⟩ := hop
      refine ⟨c, vw, M1, s1, vl, M2, s2, rfl, ⟨hi.blk.chg hcL (by rw [hi.lc]; omega), (lo _ 6 (by omega) (by omega)).2 hi.lc, own_lab hi.was hi.lw hcL (by omega), fun j hj => (lo j 7 (by omega) (by omega)).2 (hi.lw j hj), hi.fr.chg hcL (by rw [hi.lf]; omega), (lo _ 8 (by omega) (by omega)).2 hi.lf,
        own_lab hi.lft hi.ll hcL (by omega), fun j hj => (lo j 9 (by omega) (by omega)).2 (hi.ll j hj), hi.tch.chg hcL (by rw [hi.lt]; omega), (lo _ 10 (by omega) (by omega)).2 hi.lt, hi.n1, hi.n2⟩⟩
  · rcases lz j hj with e | e
    · exact Nat.lt_of_lt_of_le (h.lt j e) hc.size
    · exact Nat.lt_of_lt_of_le (ho.own.lt j e).2 hc.size
  · rw [hL']
    dsimp only
    rw [if_neg (fun e => by have := (ho.own.lt 0 e).1; omega), h.l0]
    simp
end

end Go.Proofs.YtjkkoogfaibhiaaGreatDoor

/- The pager: Commit, walked. -/
namespace Go.Proofs.YtjkkoogfaibhiaaGreatDoor
open Go.RowKit Go.Maps

/-- A change committed that touched no table page. -/
def Gp.done (X : Gp) (o : Cg) : Gp := { X with free := gvn X.free fun s => decide (s ∈ o.left), op := none }
/-- A change committed. -/
def Gp.comm (X : Gp) (S : TbS) : Gp := { X with D := S.D.rooted (X.epoch + 1) S.pg, epoch := X.epoch + 1, pages := S.pg, free := gvn S.fe fun s => decide (s ∈ S.lf), op := none }

theorem TInv.pg4 {D0 : Dk} {ep : Nat} {pg0 tb old lf0 : List Nat} {fe0 : List Bool} {fr0 tc dn : Nat → Bool} {S : TbS} {rem : Nat} (h0 : Inv D0 ep pg0 tb old fe0 fr0 lf0 tc) (h : TInv D0 pg0 tb old fr0 S dn rem) : ∀ s ∈ S.pg, s < 4096 := fun s hs => by
  have hz := h0.sz
  obtain ⟨k, hk⟩ := List.mem_iff_getElem?.1 hs
  by_cases e : s = 0
  · omega
  · cases hd : dn k with
    | false =>
      rw [h.keep k hd] at hk
      have := (h0.rP k s hk e).2; omega
    | true =>
      rcases h.new k s hd hk with ⟨e1, -⟩ | ⟨e1, e2, -⟩
      · omega
      · have := (h.frn s e2).2.1; omega
theorem dnOf_all (ks : List Nat) : dnOf ks ks.length = fun s => decide (s ∈ ks) := by funext s; unfold dnOf; rw [List.take_length]

set_option maxRecDepth 100000 in
set_option maxHeartbeats 3200000 in
theorem gcommit_touched (p : Nat) (F : Nat → Prop) (X : Gp) (o : Cg) (w : World) (h : GS w p F X) (hok : X.Ok) (hx : X.op = some o) (hne : 0 < (keysL o.touched 64).length) (hep : X.epoch < 1099511627776) (hfit : fitsN X.pages.length X.D.sz = true) :
    Calls Tryz.prog 19 #[.pointer (some ⟨p, 0, none⟩)] w fun e w' => e = .returned (.int .i64 0) ∧ ∃ S, TInv X.D X.pages X.table o.was o.fresh S o.touched 0 ∧ GTo w w' p F (X.comm S) := by
  have hrd := gready_any p F X w h
  rw [hok.rdy hx] at hrd
  have htb := gtables_ok p F X o w h hok hx hne
  have hv := hok.inv
  simp only [Gp.old, Gp.fr, Gp.lf, Gp.tc, hx] at hv
  have hup := hok.up
  have hpos := tab_pos h.tab
  obtain ⟨L, d, b, A, ca, vp, vt, vo, h, hF⟩ := h
  have ho := h.opn
  rw [hx] at ho
  obtain ⟨c, vw, M1, s1, vl, M2, s2, rfl, hi2⟩ := ho
  obtain ⟨c0, f0, s0⟩ := h.blk.facts
  obtain ⟨c1, f1, s1'⟩ := hi2.blk.facts
  have hlen := hi2.tch.len (t := 58) Tryz.underlying58 3
  have hs2 : 0 < s2 := by rw [hi2.n2.1, ← keysL_len]; exact hne
  have hs2' : s2 ≤ 64 := by rw [hi2.n2.1]; exact cntN_le _ _
  have hdn : dnOf (keysL o.touched 64) (keysL o.touched 64).length = o.touched := by
    rw [dnOf_all]
    funext k
    by_cases e : o.touched k = true
    · rw [e]; exact decide_eq_true (mem_keysL.2 ⟨hi2.n2.2 k e, e⟩)
    · rw [decide_eq_false (fun q => e (mem_keysL.1 q).2)]
      exact (by simpa using e : o.touched k = false).symm
  have t1 : decide ((0 : Int) < (s2 : Int)) = true := decide_eq_true (by omega)
  have H := Lib.hid (And.intro hrd (And.intro htb (And.intro hv (And.intro hup (And.intro hdn (And.intro hx hfit))))))
  clear h hi2 hrd htb hv hup hdn hok hx hfit hF hne
  go_enter Tryz.func19, Tryz.ntmps19
  go_wp2_with (go_at_call 43; (refine H.out.1.mono ?_); rintro e w1 ⟨rfl, rfl⟩)
  clear c0 f0 s0 c1 f1 s1' hlen
  refine H.out.2.1.mono ?_
  rintro e w1 ⟨S, F1, v, rfl, hT, ⟨L1, d1, b1, A1, ca1, vp1, vt1, vo1, hG, hF1⟩, hr1, hO⟩
  obtain rfl : F1 = fun j => L1 j ≠ 0 := funext fun j => propext (hF1 j)
  obtain ⟨Av, cv, rfl, -⟩ := own_shape hO.own
  obtain ⟨cc, vwc, M1c, s1c, vlc, M2c, s2c, rfl, -⟩ := (show OpnIn w1 L1 vo1 (some { o with fresh := S.fr, left := S.lf }) from hG.opn)
  rw [H.out.2.2.2.2.1] at hT
  have hSn := hT.n
  have hpl := hT.pgl
  obtain ⟨x0, y0, z0⟩ := hG.blk.facts
  have hfl := dflush_ok d1 _ S.D w1 hG.dsk (by rw [hSn.2.2.1]; exact H.out.2.2.2.1.2.1) (by rw [hSn.2.2.2.1]; exact H.out.2.2.2.1.2.2)
  have H1 := Lib.hid (And.intro hG (And.intro hT (And.intro hr1 (And.intro hO (And.intro hfl (And.intro hSn hpl))))))
  clear hG hT hr1 hO hfl hSn hpl hF1
  go_wp2_with fail
  refine H1.out.2.2.2.2.1.mono ?_
  rintro e w2 ⟨rfl, h2⟩
  obtain ⟨L2, hG2, ht2⟩ := H1.out.1.disk h2
  have hr2 := (ht2.s (K := fun m => m = 2) H1.out.1.lt rfl (by omega)).rch (by omega) (fun j => Iff.rfl)
  have hO2 := H1.out.2.2.2.1.rch hr2
  clear x0 y0 z0
  have x0 := (hG2.blk.drew).cell 0
  have x1 := (hG2.blk.drew).cell 1
  have H2 := Lib.hid (And.intro hG2 (And.intro hr2 hO2))
  clear h2 hG2 ht2 hr2 hO2
  have w9 : IntKind.i64.wrap ((X.epoch : Int) + 1) = (X.epoch : Int) + 1 := by have := wrap_nat (n := X.epoch + 1) (by omega); simpa using this
  have x1' : w2.drew.cell? ⟨p, 1, none⟩ = some (.int .i64 X.epoch) := x1
  have x0' : w2.drew.cell? ⟨p, 0, none⟩ = some (.pointer (some ⟨d1, 0, none⟩)) := x0
  clear x0 x1
  go_wp2_with fail
  have hS : w2.drew.cell? ⟨p, 0, none⟩ = some (.pointer (some ⟨d1, 0, none⟩)) ∧ w2.drew.cell? ⟨p, 1, none⟩ = some (.int .i64 X.epoch) := ⟨x0', x1'⟩
  refine wp_region_held_drew (S := fun W' => W'.cell? ⟨p, 0, none⟩ = some (.pointer (some ⟨d1, 0, none⟩)) ∧ W'.cell? ⟨p, 1, none⟩ = some (.int .i64 X.epoch)) (by kernel_rfl) hS (fun hHeld => ?_)
  refine wpAnyH_take (i := 0) (v := ?_) rfl (by kernel_rfl) (by kernel_rfl) (by kernel_rfl) (fun _ _ _ h => h) (Or.inl ⟨by rfl, ?_⟩) hHeld ?_
  rotate_left
  · (intro w hSw; (try dsimp only at hSw); go_simp) <;> with_reducible rfl
  (try simp only [Act.put, List.setIfInBounds_toArray, List.set_cons_zero, List.set_cons_succ, List.getElem_toArray, List.getElem_cons_zero, List.getElem_cons_succ])
  refine wpAnyH_take (i := 1) (v := ?_) rfl (by kernel_rfl) (by kernel_rfl) (by kernel_rfl) (fun _ _ _ h => h) (Or.inl ⟨by rfl, ?_⟩) hHeld ?_
  rotate_left
  · (intro w hSw; (try dsimp only at hSw); go_simp) <;> with_reducible rfl
  (try simp only [Act.put, List.setIfInBounds_toArray, List.set_cons_zero, List.set_cons_succ, List.getElem_toArray, List.getElem_cons_zero, List.getElem_cons_succ])
  refine wpAnyH_take (i := 2) (v := ?_) rfl (by kernel_rfl) (by kernel_rfl) (by kernel_rfl) (fun _ _ _ h => h) (Or.inl ⟨by rfl, ?_⟩) hHeld ?_
  rotate_left
  · (intro w hSw; (try dsimp only at hSw); go_simp) <;> with_reducible rfl
  (try simp only [Act.put, List.setIfInBounds_toArray, List.set_cons_zero, List.set_cons_succ, List.getElem_toArray, List.getElem_cons_zero, List.getElem_cons_succ])
  refine wpAnyH_take (i := 3) (v := ?_) rfl (by kernel_rfl) (by kernel_rfl) (by kernel_rfl) (fun _ _ _ h => h) (Or.inl ⟨by rfl, ?_⟩) hHeld ?_
  rotate_left
  · (intro w hSw; (try dsimp only at hSw); go_simp) <;> with_reducible rfl
  (try simp only [Act.put, List.setIfInBounds_toArray, List.set_cons_zero, List.set_cons_succ, List.getElem_toArray, List.getElem_cons_zero, List.getElem_cons_succ])
  refine wpAnyH_take (i := 4) (v := ?_) rfl (by kernel_rfl) (by kernel_rfl) (by kernel_rfl) (fun _ _ _ h => h) (Or.inl ⟨by rfl, ?_⟩) hHeld ?_
  rotate_left
  · (intro w hSw; (try dsimp only at hSw); go_simp) <;> with_reducible rfl
  (try simp only [Act.put, List.setIfInBounds_toArray, List.set_cons_zero, List.set_cons_succ, List.getElem_toArray, List.getElem_cons_zero, List.getElem_cons_succ])
  refine wpAnyH_take (i := 5) (v := ?_) rfl (by kernel_rfl) (by kernel_rfl) (by kernel_rfl) (fun _ _ _ h => h) (Or.inl ⟨by rfl, ?_⟩) hHeld ?_
  rotate_left
  · (intro w hSw; (try dsimp only at hSw); go_simp) <;> with_reducible rfl
  (try simp only [Act.put, List.setIfInBounds_toArray, List.set_cons_zero, List.set_cons_succ, List.getElem_toArray, List.getElem_cons_zero, List.getElem_cons_succ])
  refine wpAnyH_take (i := 6) (v := ?_) rfl (by kernel_rfl) (by kernel_rfl) (by kernel_rfl) (fun _ _ _ h => h) (Or.inl ⟨by rfl, ?_⟩) hHeld ?_
  rotate_left
  · (intro w hSw; (try dsimp only at hSw); go_simp) <;> with_reducible rfl
  (try simp only [Act.put, List.setIfInBounds_toArray, List.set_cons_zero, List.set_cons_succ, List.getElem_toArray, List.getElem_cons_zero, List.getElem_cons_succ])
  refine wpAnyH_take (i := 7) (v := ?_) rfl (by kernel_rfl) (by kernel_rfl) (by kernel_rfl) (fun _ _ _ h => h) (Or.inl ⟨by rfl, ?_⟩) hHeld ?_
  rotate_left
  · (intro w hSw; (try dsimp only at hSw); go_simp) <;> with_reducible rfl
  (try simp only [Act.put, List.setIfInBounds_toArray, List.set_cons_zero, List.set_cons_succ, List.getElem_toArray, List.getElem_cons_zero, List.getElem_cons_succ])
  refine wpAnyH_take (i := 8) (v := ?_) rfl (by kernel_rfl) (by kernel_rfl) (by kernel_rfl) (fun _ _ _ h => h) (Or.inl ⟨by rfl, ?_⟩) hHeld ?_
  rotate_left
  · (intro w hSw; (try dsimp only at hSw); go_simp) <;> with_reducible rfl
  (try simp only [Act.put, List.setIfInBounds_toArray, List.set_cons_zero, List.set_cons_succ, List.getElem_toArray, List.getElem_cons_zero, List.getElem_cons_succ])
  refine wpAnyH_take (i := 9) (v := ?_) rfl (by kernel_rfl) (by kernel_rfl) (by kernel_rfl) (fun _ _ _ h => h) (Or.inl ⟨by rfl, ?_⟩) hHeld ?_
  rotate_left
  · (intro w hSw; (try dsimp only at hSw); go_simp) <;> with_reducible rfl
  (try simp only [Act.put, List.setIfInBounds_toArray, List.set_cons_zero, List.set_cons_succ, List.getElem_toArray, List.getElem_cons_zero, List.getElem_cons_succ])
  refine wpAnyH_take (i := 10) (v := ?_) rfl (by kernel_rfl) (by kernel_rfl) (by kernel_rfl) (fun _ _ _ h => h) (Or.inl ⟨by rfl, ?_⟩) hHeld ?_
  rotate_left
  · (intro w hSw; (try dsimp only at hSw); go_simp) <;> with_reducible rfl
  (try simp only [Act.put, List.setIfInBounds_toArray, List.set_cons_zero, List.set_cons_succ, List.getElem_toArray, List.getElem_cons_zero, List.getElem_cons_succ])
  refine wpAnyH_ready (rs := [11]) (by kernel_rfl) (by simp) ?_
  refine AllReadyH.cons rfl (fun K hK => ?_) AllReadyH.nil
  go_simp
  have hsv := save_ok d1 (fun q => L2 q = 2) S.D.flushed (X.epoch + 1) S.pg Av cv w2.drew (H2.out.1.dsk.grew ((Chg.refl _ _).drew)) (by rw [← H.out.2.2.2.1.2.1]; exact H1.out.2.2.2.2.2.1.2.2.1) (by rw [← H.out.2.2.2.1.2.2]; exact H1.out.2.2.2.2.2.1.2.2.2.1) (by have h8 := H.out.2.2.1.sz; have h9 := H1.out.2.2.2.2.2.1.1; show 2 ≤ S.D.n; omega)
    (by have := Sl.of_own (own_base H2.out.2.2.own (Nat.zero_le _)); rw [H1.out.2.2.2.2.2.2]; exact this.grew ((Chg.refl _ _).drew)) (by omega) (by omega) (by rw [H1.out.2.2.2.2.2.2]; exact H.out.2.2.1.pg64) (TInv.pg4 H.out.2.2.1 H1.out.2.1) (by
      show (bodyL (X.epoch + 1) S.pg).length + 14 ≤ S.D.sz
      rw [H1.out.2.2.2.2.2.1.2.1]
      exact body_fits (by rw [H1.out.2.2.2.2.2.2]; exact H.out.2.2.2.2.2.2) (by omega) (TInv.pg4 H.out.2.2.1 H1.out.2.1))
  rw [H1.out.2.2.2.2.2.2, show (((X.epoch + 1 : Nat)) : Int) = (X.epoch : Int) + 1 from by simp] at hsv
  refine hsv.mono ?_
  clear hsv
  rintro e w3 ⟨rfl, h3⟩
  obtain ⟨L3, hG3, ht3⟩ := (H2.out.1.grew ((Chg.refl _ _).drew)).disk h3
  have hr3 := (ht3.s (K := fun m => m = 2) (H2.out.1.grew ((Chg.refl _ _).drew)).lt rfl (by omega)).rch (by omega) (fun j => Iff.rfl)
  have hO3 := (H2.out.2.2.grew ((Chg.refl _ _).drew)).rch hr3
  have hH3 : w3.cell? ⟨p, 0, none⟩ = some (.pointer (some ⟨d1, 0, none⟩)) ∧ w3.cell? ⟨p, 1, none⟩ = some (.int .i64 X.epoch) := ⟨hG3.blk.cell 0, hG3.blk.cell 1⟩
  refine hK.out _ _ hH3 (fun hHeld => ?_)
  clear hK K
  (try simp only [Act.put, List.setIfInBounds_toArray, List.set_cons_zero, List.set_cons_succ, List.getElem_toArray, List.getElem_cons_zero, List.getElem_cons_succ])
  refine wpAnyH_ready (rs := [12]) (by kernel_rfl) (by simp) ?_
  refine AllReadyH.cons rfl (fun K hK => ?_) AllReadyH.nil
  go_simp
  refine hK.out _ _ hH3 (fun hHeld => ?_)
  clear hK K
  (try simp only [Act.put, List.setIfInBounds_toArray, List.set_cons_zero, List.set_cons_succ, List.getElem_toArray, List.getElem_cons_zero, List.getElem_cons_succ])
  refine wpAnyH_done (by kernel_rfl) ?_ _
  clear hHeld hH3 hS x0' x1'
  obtain ⟨L4, hG4, hc4, hn4⟩ := hG3.pgset (e := X.epoch + 1) (l := S.pg) (by rw [H1.out.2.2.2.2.2.2]; exact hO3) hpos (by simp; rfl)
  have hr3F := H1.out.2.2.1.trans (H2.out.2.1.trans ((Rch.grew ((Chg.refl _ _).drew)).trans hr3))
  obtain ⟨y0, y1, y2⟩ := hG3.blk.facts
  obtain ⟨W4, hW4⟩ : ∃ W, (w3.setCell ⟨p, 3, none⟩ (.slice Av X.pages.length cv)).setCell ⟨p, 1, none⟩ (.int .i64 ((X.epoch : Int) + 1)) = W := ⟨_, rfl⟩
  obtain ⟨XC4, hXC⟩ : ∃ Y : Gp, ({ X.comm S with free := S.fe, op := some { o with fresh := S.fr, left := S.lf } } : Gp) = Y := ⟨_, rfl⟩
  have hXop : XC4.op = some { o with fresh := S.fr, left := S.lf } := by rw [← hXC]
  obtain ⟨vp4, hvp4⟩ : ∃ v, Value.slice Av X.pages.length cv = v := ⟨_, rfl⟩
  have hG4' : GIn W4 L4 p XC4 d1 b1 A1 ca1 vp4 vt1 (some ⟨cc, 0, none⟩) := by rw [← hXC, ← hvp4]; exact hW4 ▸ hG4
  have hG4f : GIn W4 L4 p { XC4 with free := S.fe } d1 b1 A1 ca1 vp4 vt1 (some ⟨cc, 0, none⟩) := by rw [show ({ XC4 with free := S.fe } : Gp) = XC4 from by rw [← hXC]]; exact hG4'
  have HXC := Lib.hid hXC
  have hr4 : Rch F (fun j => L4 j ≠ 0) w W4 := ⟨Chg.trans hr3F.chg (hW4 ▸ hc4) fun i hi e => (hr3F.new i e).resolve_right (by omega), fun j hj => (hn4 j hj).elim (hr3F.new j) .inr⟩
  have HW4 := Lib.hid hW4
  obtain ⟨cc', vw4, M14, s14, vl4, M24, s24, e4, hi4⟩ := (show OpnIn W4 L4 (some ⟨cc, 0, none⟩) (some { o with fresh := S.fr, left := S.lf }) from hXop ▸ hG4'.opn)
  obtain rfl : cc = cc' := by injection e4 with e; injection e
  obtain ⟨Al, cl, rfl, -⟩ := own_shape hi4.lft
  obtain ⟨z0, z1, z2⟩ := hG4'.blk.facts
  obtain ⟨z3, z4, z5⟩ := hi4.blk.facts
  have hlf4 := TInv.lfle H.out.2.2.1 H1.out.2.1
  have hfe4 : S.fe.length ≤ 4096 := by have h8 := H1.out.2.1.fel; have h9 := H.out.2.2.1.sz; omega
  have hlff : ∀ s ∈ S.lf, s < S.fe.length ∧ S.fe.getD s false = false := fun s hs => by
    have h8 := H1.out.2.1.fel
    rcases (H1.out.2.1.lf.2 s).1 hs with ⟨-, i, hi, -⟩ | ⟨e, k, -, hk⟩
    · have := H.out.2.2.1.rO i s hi
      exact ⟨by omega, (H1.out.2.1.acct s this).2 (.inr (.inr (.inl ⟨i, hi⟩)))⟩
    · have := (H.out.2.2.1.rP k s hk e).2
      exact ⟨by omega, (H1.out.2.1.acct s this).2 (.inr (.inl ⟨k, hk⟩))⟩
  have HL := Lib.hid (And.intro hG4f (And.intro hi4 (And.intro H1.out.2.1.lf.1 (And.intro hlff (And.intro hr4 hfe4)))))
  clear h3 hG3 ht3 hr3 hO3 hG4 hc4 hn4 hr3F hW4 hG4' hG4f hi4 hr4 e4 hlff hvp4 hXop hXC
  go_wp2_with (rw [HW4.out])
  clear z0 z1 z2 z3 z4 z5 y0 y1 y2
  go_loopg [72] S.lf.length (fun q v wr => ∃ i : Nat, q = S.lf.length - i ∧ i ≤ S.lf.length ∧ v = .int .i64 i ∧ GIn wr L4 p { XC4 with free := gvn S.fe (dnOf S.lf i) } d1 b1 A1 ca1 vp4 vt1 (some ⟨cc, 0, none⟩) ∧ Chg (fun j => L4 j = 3) W4 wr)
  case atStart =>
    refine ⟨0, rfl, Nat.zero_le _, rfl, ?_, Chg.refl _ _⟩
    rw [dnOf_zero, gvn_none]
    exact HL.out.1
  case round =>
    obtain ⟨i, rfl, hi, rfl, hG, hC⟩ := hrel
    by_cases hlt : i < S.lf.length
    · obtain ⟨s, hs⟩ : ∃ s, S.lf[i]? = some s := ⟨_, List.getElem?_eq_getElem hlt⟩
      have hl3 := own_lab HL.out.2.1.lft HL.out.2.1.ll hC (by omega)
      have hl3' : wr.ownsRow 0 3 1 (.slice Al S.lf.length cl) S.lf.length (nv S.lf) := hl3
      obtain ⟨gl, rfl, hgl⟩ := own_block hl3' (by omega)
      have cs : wr.cell? ⟨gl, i, none⟩ = some (.int .i64 s) := by
        have := hl3'.cells (g := gl) rfl i (.int .i64 s) (by simp [nv, hs])
        rwa [Addr.add_lit, Nat.zero_add] at this
      obtain ⟨hfs1, hfs2⟩ := HL.out.2.2.2.1 s (List.mem_of_getElem? hs)
      have hs4 : s < 4096 := by have := HL.out.2.2.2.2.2; omega
      have hgv := pgive_any b1 s _ A1 ca1 wr hG.pol (by show (gvn S.fe _).length ≤ 65536; rw [gvn_len]; have := HL.out.2.2.2.2.2; omega)
      have htl := gvn_give S.fe (dnOf S.lf i) s hfs1 hfs2 (dnOf_new HL.out.2.2.1 hs)
      have hgv2 : Calls Tryz.prog 48 #[.pointer (some ⟨b1, 0, none⟩), .int .i64 (s : Int)] wr fun e w' => e = .returned (.int .i64 0) ∧ PIn w' b1 (gvn S.fe (setB (dnOf S.lf i) s true)) A1 ca1 ∧ Chg (PF b1 A1) wr w' := by
        rw [← show (toL (gvn S.fe (dnOf S.lf i)) (s : Int) true).1 = gvn S.fe (setB (dnOf S.lf i) s true) from by rw [htl]]
        refine hgv.mono fun e w' h => ?_
        rw [show (toL ({ XC4 with free := gvn S.fe (dnOf S.lf i) } : Gp).free (s : Int) true) = (gvn S.fe (setB (dnOf S.lf i) s true), 0) from htl] at h
        rw [htl]
        exact h
      have HR := Lib.hid (And.intro hG (And.intro hgv2 (And.intro hs hC)))
      obtain ⟨z0, z1, z2⟩ := hG.blk.facts
      clear hG hgv hgv2 htl hfs1 hfs2 hs hC hl3 hl3'
      go_wp2_with (go_at_call 48; (refine HR.out.2.1.mono ?_); rintro e w5 ⟨rfl, h4, h5⟩; have H5 := Lib.hid (And.intro h4 h5); clear h4 h5 z0 z1 z2)
      obtain ⟨hG5, ht5⟩ := HR.out.1.pool H5.out.1 H5.out.2
      go_roundg (S.lf.length - (i + 1))
      case measure => omega
      case rel =>
        refine ⟨i + 1, rfl, by omega, by simp, ?_, Chg.trans HR.out.2.2.2 ht5.chg fun j _ e => e⟩
        rw [dnOf_step HR.out.2.2.1]
        exact hG5
    · obtain rfl : i = S.lf.length := by omega
      have HD := Lib.hid (And.intro hG hC)
      obtain ⟨z0, z1, z2⟩ := hG.blk.facts
      clear hG hC
      go_wp2
      go_ret
      obtain ⟨L9, hG9, hr9⟩ := HD.out.1.close
      have hr8 : Rch (fun j => L4 j ≠ 0) (fun j => L4 j ≠ 0) W4 wr := ⟨HD.out.2.mono fun j _ e => by omega, fun j hj => .inl hj⟩
      rw [dnOf_all] at hG9

      refine ⟨rfl, S, H1.out.2.1, fun j => L9 j ≠ 0, ?_, (HL.out.2.2.2.2.1.trans (hr8.trans hr9)).chg, (HL.out.2.2.2.2.1.trans (hr8.trans hr9)).new⟩
      rw [← HXC.out] at hG9
      exact hG9.gs

end Go.Proofs.YtjkkoogfaibhiaaGreatDoor

/- The pager, as its pages are: Commit. -/
namespace Go.Proofs.YtjkkoogfaibhiaaGreatDoor
open Go.RowKit Go.Maps

set_option maxRecDepth 100000 in
set_option maxHeartbeats 3200000 in
theorem gcommit_same (p : Nat) (F : Nat → Prop) (X : Gp) (o : Cg) (w : World) (h : GS w p F X) (hok : X.Ok) (hx : X.op = some o) (hno : ∀ k, o.touched k = false) :
    Calls Tryz.prog 19 #[.pointer (some ⟨p, 0, none⟩)] w fun e w' => e = .returned (.int .i64 0) ∧ GTo w w' p F (X.done o) := by
  have hrd := gready_any p F X w h
  rw [hok.rdy hx] at hrd
  have hv := hok.inv
  simp only [Gp.old, Gp.fr, Gp.lf, Gp.tc, hx] at hv
  obtain ⟨L, d, b, A, ca, vp, vt, vo, h, hF⟩ := h
  have ho := h.opn
  rw [hx] at ho
  obtain ⟨cc, vw, M1, s1, vl, M2, s2, rfl, hi2⟩ := ho
  obtain ⟨Al, cl, rfl, -⟩ := own_shape hi2.lft
  obtain ⟨c0, f0, s0⟩ := h.blk.facts
  obtain ⟨c1, f1, s1'⟩ := hi2.blk.facts
  have hlen := hi2.tch.len (t := 58) Tryz.underlying58 3
  have hs2 : s2 = 0 := by rw [hi2.n2.1]; exact cntN_false fun k _ => hno k
  rw [hs2] at hlen
  have hlff : ∀ s ∈ o.left, s < X.free.length ∧ X.free.getD s false = false := fun s hs => by
    obtain ⟨-, i, hi, -⟩ := (hv.lf.2 s).1 hs
    have := hv.rO i s hi
    exact ⟨by rw [hv.lens.1]; exact this, (hv.acct s this).2 (.inr (.inr (.inl ⟨i, hi⟩)))⟩
  have hfe : X.free.length ≤ 4096 := by rw [hv.lens.1]; exact hv.sz.2.1
  have hlle : o.left.length ≤ 4096 := by
    have h1 := List.Nodup.length_le_of_subset hv.lf.1 (l₂ := List.range X.D.n) fun s hs => List.mem_range.2 (by have := (hlff s hs).1; rw [hv.lens.1] at this; exact this)
    rw [List.length_range] at h1
    have := hv.sz
    omega
  obtain rfl : F = fun j => L j ≠ 0 := funext fun j => propext (hF j)
  have HL := Lib.hid (And.intro (show GIn w L p { X with free := X.free } d b A ca vp vt (some ⟨cc, 0, none⟩) from h) (And.intro hi2 (And.intro hv.lf.1 (And.intro hlff (And.intro (show Rch (fun j => L j ≠ 0) (fun j => L j ≠ 0) w w from Rch.grew (Chg.refl _ _)) hfe)))))
  have H := Lib.hid hrd
  clear h hi2 hrd hv hlff hok hx hF hs2 hno hfe
  go_enter Tryz.func19, Tryz.ntmps19
  go_wp2_with (go_at_call 43; (refine H.out.mono ?_); rintro e w1 ⟨rfl, rfl⟩)
  clear c0 f0 s0 c1 f1 s1' hlen
  go_loopg [72] o.left.length (fun q v wr => ∃ i : Nat, q = o.left.length - i ∧ i ≤ o.left.length ∧ v = .int .i64 i ∧ GIn wr L p { X with free := gvn X.free (dnOf o.left i) } d b A ca vp vt (some ⟨cc, 0, none⟩) ∧ Chg (fun j => L j = 3) w wr)
  case atStart =>
    refine ⟨0, rfl, Nat.zero_le _, rfl, ?_, Chg.refl _ _⟩
    rw [dnOf_zero, gvn_none]
    exact HL.out.1
  case round =>
    obtain ⟨i, rfl, hi, rfl, hG, hC⟩ := hrel
    by_cases hlt : i < o.left.length
    · obtain ⟨s, hs⟩ : ∃ s, o.left[i]? = some s := ⟨_, List.getElem?_eq_getElem hlt⟩
      have hl3 := own_lab HL.out.2.1.lft HL.out.2.1.ll hC (by omega)
      have hl3' : wr.ownsRow 0 3 1 (.slice Al o.left.length cl) o.left.length (nv o.left) := hl3
      obtain ⟨gl, rfl, hgl⟩ := own_block hl3' (by omega)
      have cs : wr.cell? ⟨gl, i, none⟩ = some (.int .i64 s) := by
        have := hl3'.cells (g := gl) rfl i (.int .i64 s) (by simp [nv, hs])
        rwa [Addr.add_lit, Nat.zero_add] at this
      obtain ⟨hfs1, hfs2⟩ := HL.out.2.2.2.1 s (List.mem_of_getElem? hs)
      have hs4 : s < 4096 := by have := HL.out.2.2.2.2.2; omega
      have hgv := pgive_any b s _ A ca wr hG.pol (by show (gvn X.free _).length ≤ 65536; rw [gvn_len]; have := HL.out.2.2.2.2.2; omega)
      have htl := gvn_give X.free (dnOf o.left i) s hfs1 hfs2 (dnOf_new HL.out.2.2.1 hs)
      have hgv2 : Calls Tryz.prog 48 #[.pointer (some ⟨b, 0, none⟩), .int .i64 (s : Int)] wr fun e w' => e = .returned (.int .i64 0) ∧ PIn w' b (gvn X.free (setB (dnOf o.left i) s true)) A ca ∧ Chg (PF b A) wr w' := by
        rw [← show (toL (gvn X.free (dnOf o.left i)) (s : Int) true).1 = gvn X.free (setB (dnOf o.left i) s true) from by rw [htl]]
        refine hgv.mono fun e w' h => ?_
        rw [show (toL ({ X with free := gvn X.free (dnOf o.left i) } : Gp).free (s : Int) true) = (gvn X.free (setB (dnOf o.left i) s true), 0) from htl] at h
        rw [htl]
        exact h
      have HR := Lib.hid (And.intro hG (And.intro hgv2 (And.intro hs hC)))
      obtain ⟨z0, z1, z2⟩ := hG.blk.facts
      clear hG hgv hgv2 htl hfs1 hfs2 hs hC hl3 hl3'
      go_wp2_with (go_at_call 48; (refine HR.out.2.1.mono ?_); rintro e w5 ⟨rfl, h4, h5⟩; have H5 := Lib.hid (And.intro h4 h5); clear h4 h5 z0 z1 z2)
      obtain ⟨hG5, ht5⟩ := HR.out.1.pool H5.out.1 H5.out.2
      go_roundg (o.left.length - (i + 1))
      case measure => omega
      case rel =>
        refine ⟨i + 1, rfl, by omega, by simp, ?_, Chg.trans HR.out.2.2.2 ht5.chg fun j _ e => e⟩
        rw [dnOf_step HR.out.2.2.1]
        exact hG5
    · obtain rfl : i = o.left.length := by omega
      have HD := Lib.hid (And.intro hG hC)
      obtain ⟨z0, z1, z2⟩ := hG.blk.facts
      clear hG hC
      go_wp2
      go_ret
      obtain ⟨L9, hG9, hr9⟩ := HD.out.1.close
      have hr8 : Rch (fun j => L j ≠ 0) (fun j => L j ≠ 0) w wr := ⟨HD.out.2.mono fun j _ e => by omega, fun j hj => .inl hj⟩
      rw [dnOf_all] at hG9

      refine ⟨rfl, fun j => L9 j ≠ 0, ?_, (HL.out.2.2.2.2.1.trans (hr8.trans hr9)).chg, (HL.out.2.2.2.2.1.trans (hr8.trans hr9)).new⟩
      exact hG9.gs

end Go.Proofs.YtjkkoogfaibhiaaGreatDoor

/- The pager, as its pages are: Commit, Abort. -/
namespace Go.Proofs.YtjkkoogfaibhiaaGreatDoor
open Go.RowKit Go.Maps

def Pk.kept : Pk → Pk
  | .new bs => .old bs
  | c => c
/-- The pages behind a commit. -/
def Rp.comm (x : Rp) : Rp := { x with now := x.now.map Pk.kept, was := none, touched := fun _ => false, epoch := if cntN x.touched 64 = 0 then x.epoch else x.epoch + 1 }
/-- The pages behind a change that was given up. -/
def Rp.abort (x : Rp) : Rp := { x with now := x.was.getD [], was := none, touched := fun _ => false }
theorem pk_kept (D : Dk) (fr : Nat → Bool) (s : Nat) (h : fr s = true → 2 ≤ s) : (pk D fr s).kept = pk D (fun _ => false) s := by
  unfold pk
  by_cases h0 : s = 0
  · rw [if_pos h0, if_pos h0]; rfl
  · rw [if_neg h0, if_neg h0]
    by_cases h1 : s = 1
    · rw [if_pos h1, if_pos h1]; rfl
    · rw [if_neg h1, if_neg h1]
      cases fr s <;> rfl
theorem tabs_fit (row need sz : Nat) : ∀ f k0, tabs row need sz f k0 = k0 ∨ fitsN (tabs row need sz f k0) sz = true
  | 0, k0 => .inl rfl
  | f + 1, k0 => by
    unfold tabs
    split
    · rename_i hc
      rcases tabs_fit row need sz f (k0 + 1) with e | e
      · right; rw [e]; exact hc.1
      · exact .inr e
    · exact .inl rfl
theorem tabN_fit {n sz : Nat} (h : 0 < tabN n sz) : fitsN (tabN n sz) sz = true := by
  rcases tabs_fit (sz / 2) (n - 2) sz 64 0 with e | e
  · unfold tabN at h; rw [e] at h; omega
  · exact e
section
variable {D : Dk} {ep : Nat} {pg tb old lf : List Nat} {fe : List Bool} {fr tc : Nat → Bool}
/-- Nothing was touched: nothing is other. -/
theorem Inv.none_touched (h : Inv D ep pg tb old fe fr lf tc) (hn : ∀ k, tc k = false) : tb = old ∧ (∀ s, fr s = false) ∧ lf = [] := by
  have e : tb = old := List.ext_getElem? fun i => by
    by_cases e : tb[i]? = old[i]?
    · exact e
    · have := h.tcd i e; rw [hn] at this; cases this
  subst e
  refine ⟨rfl, fun s => ?_, ?_⟩
  · cases e : fr s with
    | false => rfl
    | true =>
      obtain ⟨-, -, -, h4, i, hi⟩ := h.frr s e
      exact absurd hi (h4 i)
  · cases lf with
    | nil => rfl
    | cons s t =>
      obtain ⟨-, i, h1, h2⟩ := (h.lf.2 s).1 (List.mem_cons_self)
      exact absurd h1 h2
/-- The change is given up. -/
theorem Inv.abort (h : Inv D ep pg tb old fe fr lf tc) : Inv D ep pg old old (gvn fe fr) (fun _ => false) [] (fun _ => false) := by
  refine ⟨h.sz, ⟨by rw [gvn_len]; exact h.lens.1, h.lens.2.1, h.lens.2.2.2, h.lens.2.2.2⟩, h.rO, h.rP, h.jO, h.jP, h.dis, fun s hs => ?_, fun s e => (by cases e), fun i s hi _ => .inr hi, h.jO, ⟨List.nodup_nil, fun s => ⟨fun e => (by cases e), fun e => by obtain ⟨-, i, h1, h2⟩ := e; exact absurd h1 h2⟩⟩, fun i hi => absurd rfl hi, fun k e => (by cases e), ?_, h.cln, h.dur, h.byt, h.epo, h.byd⟩
  · rw [gvn_at, h.lens.1]
    simp only [hs, decide_true, Bool.true_and, Bool.or_eq_false_iff]
    constructor
    · rintro ⟨e1, e2⟩
      rcases (h.acct s hs).1 e1 with e | e | e | e
      · exact .inl e
      · exact .inr (.inl e)
      · exact .inr (.inr (.inl e))
      · rw [e2] at e; cases e
    · rintro (e | ⟨k, e⟩ | ⟨i, e⟩ | e)
      · refine ⟨(h.acct s hs).2 (.inl e), h.fr0 e⟩
      · refine ⟨(h.acct s hs).2 (.inr (.inl ⟨k, e⟩)), ?_⟩
        cases q : fr s with
        | false => rfl
        | true => exact absurd e ((h.frr s q).2.2.1 k)
      · refine ⟨(h.acct s hs).2 (.inr (.inr (.inl ⟨i, e⟩))), ?_⟩
        cases q : fr s with
        | false => rfl
        | true => exact absurd e ((h.frr s q).2.2.2.1 i)
      · cases e
  · rw [show cntN (fun _ => false) 64 = 0 from cntN_false fun _ _ => rfl]
    exact Nat.zero_le _
end

section
variable (p : Nat) (F : Nat → Prop) (x : Rp) (w : World)
theorem gp_commit (h : GP w p F x) (ho : x.was ≠ none) (hep : x.epoch < 1099511627776) :
    Calls Tryz.prog 19 #[.pointer (some ⟨p, 0, none⟩)] w fun e' w' => e' = .returned (.int .i64 0) ∧ GPTo w w' p F x.comm := by
  obtain ⟨X, h1, h2, rfl⟩ := h
  obtain ⟨o, hx⟩ := Gp.view_op ho
  have hv := h2.inv
  simp only [Gp.old, Gp.fr, Gp.lf, Gp.tc, hx] at hv
  have htc : X.view.touched = o.touched := by show X.tc = _; simp only [Gp.tc, hx]
  have hfr : X.fr = o.fresh := by simp only [Gp.fr, hx]
  have h64 : ∀ k, o.touched k = true → k < 64 := fun k hk => Nat.lt_of_lt_of_le (hv.tc6 k hk) hv.pg64
  have hnow : X.view.now.map Pk.kept = X.table.map (pk X.D fun _ => false) := by
    show (X.table.map (pk X.D X.fr)).map Pk.kept = _
    rw [List.map_map, hfr]
    exact List.map_congr_left fun s _ => pk_kept X.D o.fresh s fun e => (hv.frr s e).1
  by_cases hc : cntN o.touched 64 = 0
  · have hno : ∀ k, o.touched k = false := fun k => by
      cases e : o.touched k with
      | false => rfl
      | true =>
        have h9 : k ∈ keysL o.touched 64 := mem_keysL.2 ⟨h64 k e, e⟩
        have h8 := keysL_len o.touched 64
        rw [hc] at h8
        rw [List.eq_nil_of_length_eq_zero h8] at h9
        cases h9
    obtain ⟨e1, e2, e3⟩ := hv.none_touched hno
    refine (gcommit_same p F X o w h1 h2 hx hno).mono ?_
    rintro e w1 ⟨rfl, h3⟩
    refine ⟨rfl, h3.gp ⟨?_, h2.row, h2.up⟩ ?_⟩
    · have hgv : (gvn X.free fun s => decide (s ∈ o.left)) = X.free := by rw [e3]; simpa using gvn_none X.free
      show Inv X.D X.epoch X.pages X.table X.table (gvn X.free fun s => decide (s ∈ o.left)) (fun _ => false) [] (fun _ => false)
      rw [hgv]
      have h9 := hv
      rw [← e1, e3, show o.fresh = fun _ => false from funext e2, show o.touched = fun _ => false from funext hno] at h9
      exact h9
    · show Gp.view (X.done o) = Rp.comm X.view
      unfold Rp.comm
      rw [hnow, htc, if_pos hc]
      simp [Gp.view, Gp.done, Gp.fr, Gp.tc]
  · have hne : 0 < (keysL o.touched 64).length := by rw [keysL_len]; omega
    have hpl : 0 < X.pages.length := by
      obtain ⟨k, hk⟩ := List.exists_mem_of_length_pos hne
      have := hv.tc6 k (mem_keysL.1 hk).2
      omega
    have hfit : fitsN X.pages.length X.D.sz = true := by
      rw [hv.lens.2.1] at hpl ⊢
      exact tabN_fit hpl
    refine (gcommit_touched p F X o w h1 h2 hx hne hep hfit).mono ?_
    rintro e w1 ⟨rfl, S, hT, h3⟩
    have hI := TInv.commit hv hT hep hfit
    refine ⟨rfl, h3.gp ⟨hI, ?_, ?_⟩ ?_⟩
    · show X.row = S.D.sz / 2
      rw [hT.n.2.1]; exact h2.row
    · exact ⟨h2.up.1, by show S.D.down = false; rw [hT.n.2.2.1]; exact h2.up.2.1, by show S.D.armed = false; rw [hT.n.2.2.2.1]; exact h2.up.2.2⟩
    · show Gp.view (X.comm S) = Rp.comm X.view
      unfold Rp.comm
      rw [hnow, htc, if_neg hc]
      have e1 : X.table.map (pk (S.D.rooted (X.epoch + 1) S.pg) fun _ => false) = X.table.map (pk X.D fun _ => false) := List.map_congr_left fun s hs => by
        obtain ⟨i, hi⟩ := List.mem_iff_getElem?.1 hs
        unfold pk
        by_cases h0 : s = 0
        · rw [if_pos h0, if_pos h0]
        · by_cases h1 : s = 1
          · rw [if_neg h0, if_pos h1, if_neg h0, if_pos h1]
          · have hm2 := Nat.mod_lt (X.epoch + 1) (show 0 < 2 by omega)
            rw [if_neg h0, if_neg h1, if_neg h0, if_neg h1, Dk.rooted_rd, if_neg (show ¬ s = (X.epoch + 1) % 2 by omega)]
            rw [hT.rd s fun e => by
              rcases hv.cur i s hi (by omega) with e2 | e2
              · exact e2
              · exact absurd e2 ((hT.frn s e).2.2.2 i)]
      have hn := hT.n
      unfold Gp.view Gp.comm
      simp only [Gp.fr, Gp.tc, Option.map_none]
      rw [e1]
      show Rp.mk S.D.n S.D.sz _ _ _ _ S.D.id = Rp.mk X.D.n X.D.sz _ _ _ _ X.D.id
      rw [hn.1, hn.2.1, hn.2.2.2.2]
theorem gp_abort (h : GP w p F x) (ho : x.was ≠ none) :
    Calls Tryz.prog 23 #[.pointer (some ⟨p, 0, none⟩)] w fun e' w' => e' = .returned (.int .i64 0) ∧ GPTo w w' p F x.abort := by
  obtain ⟨X, h1, h2, rfl⟩ := h
  obtain ⟨o, hx⟩ := Gp.view_op ho
  have hv := h2.inv
  simp only [Gp.old, Gp.fr, Gp.lf, Gp.tc, hx] at hv
  refine (gabort_ok p F X o w h1 h2 hx).mono ?_
  rintro e w1 ⟨rfl, h3⟩
  refine ⟨rfl, h3.gp ⟨hv.abort, h2.row, h2.up⟩ ?_⟩
  show Gp.view (X.abort o) = Rp.abort X.view
  unfold Rp.abort
  rw [Gp.view_was hx]
  simp [Gp.view, Gp.abort, Gp.fr, Gp.tc]
end

end Go.Proofs.YtjkkoogfaibhiaaGreatDoor

/- Contracts of the library that the kit has proved once, laid at this seat (printed by the kit's lay-plain through lay.py). -/
namespace Go.Proofs.YtjkkoogfaibhiaaGreatDoor
open Go.Shelf
def cloneH_ren : Go.Shelf.Ren := ⟨fun | 5 => 50 | 7 => 85 | n => n, fun | 23 => 58 | 25 => 3 | 3 => 4 | 4 => 4 | 20 => 20 | n => n, fun | n => n⟩
theorem cloneH : Go.Proofs.SlLaysW.n5 Tryz.prog cloneH_ren := {
  mixed := by kernel_rfl
  f5 := ⟨Tryz.f50.name, by decide, Tryz.func50.trans (congrArg some (by kernel_rfl))⟩
  f7 := Tryz.func85.trans (congrArg some (by kernel_rfl))
  t4 := Tryz.underlying4
  a4 := Tryz.isAgg4
  z4 := Tryz.sizeOf4
  v4 := Tryz.zeroValue4
  t20 := Tryz.underlying20
  a20 := Tryz.isAgg20
  z20 := Tryz.sizeOf20
  v20 := Tryz.zeroValue20
  t23 := Tryz.underlying58
  a23 := Tryz.isAgg58
  z23 := Tryz.sizeOf58
  v23 := Tryz.zeroValue58 }
end Go.Proofs.YtjkkoogfaibhiaaGreatDoor

/- The heap's laws: a heap over commits, aborts and copies. -/
namespace Go.Proofs.YtjkkoogfaibhiaaGreatDoor
open Go.RowKit Go.Maps

theorem Pk.kept_used (c : Pk) : c.kept.used = c.used := by cases c <;> rfl
theorem Pk.kept_bytes (c : Pk) (sz : Nat) : c.kept.bytes sz = c.bytes sz := by cases c <;> rfl
/-- The pages have the same bytes. -/
theorem HeapIn.alike {x y : Rp} {P : Nat → Bool} {L : List HR} {E : List Nat} (h : HeapIn x P L E) (hz : y.sz = x.sz) (hn : y.now.length = x.now.length)
    (hk : ∀ (i : Nat) (c : Pk), x.now[i]? = some c → ∃ c', y.now[i]? = some c' ∧ c'.used = c.used ∧ c'.bytes x.sz = c.bytes x.sz) (hu : y.now.countP Pk.used = x.now.countP Pk.used) : HeapIn y P L E := by
  refine ⟨fun i hi => ?_, fun r hr => ⟨(h.at_ r hr).1, (h.at_ r hr).2.base, ?_⟩, h.nd, h.own, h.far, by rw [hu, hn]; exact h.used⟩
  · obtain ⟨s, ⟨c, h1, h2, h3⟩, q2, q3, q4⟩ := h.pg i hi
    obtain ⟨c', k1, k2, k3⟩ := hk i c h1
    exact ⟨s, ⟨c', k1, by rw [k2]; exact h2, by rw [hz, k3]; exact h3⟩, by rw [hz]; exact q2, q3, q4⟩
  · rcases (h.at_ r hr).2.shape with ⟨e1, e2⟩ | ⟨e1, e2⟩
    · exact .inl ⟨e1, by rw [hz]; exact e2⟩
    · refine .inr ⟨e1, by rw [hz]; exact e2.len, e2.nd, fun k i hi => ?_⟩
      obtain ⟨c, h1, h2, h3⟩ := e2.at_ k i hi
      obtain ⟨c', k1, k2, k3⟩ := hk i c h1
      exact ⟨c', k1, by rw [k2]; exact h2, by rw [hz, k3]; exact h3⟩
section
variable {x z : Rp} {P : Nat → Bool} {L : List HR} {E : List Nat}
theorem HeapIn.comm (h : HeapIn x P L E) : HeapIn x.comm P L E := by
  refine h.alike rfl (List.length_map _) (fun i c hc => ⟨c.kept, ?_, c.kept_used, c.kept_bytes _⟩) ?_
  · show (x.now.map Pk.kept)[i]? = _
    rw [List.getElem?_map, hc]
    rfl
  · show (x.now.map Pk.kept).countP Pk.used = _
    rw [List.countP_map, show Pk.used ∘ Pk.kept = Pk.used from funext Pk.kept_used]
theorem HeapIn.begun (h : HeapIn x P L E) : HeapIn x.begun P L E := h.alike rfl rfl (fun _ c hc => ⟨c, hc, rfl, rfl⟩) rfl
theorem like_abort_now (hl : x.begun.like z) : z.abort.now = x.now ∧ z.abort.sz = x.sz ∧ z.abort.was = none ∧ z.abort.epoch = x.epoch := by
  refine ⟨?_, hl.sz, rfl, hl.epoch⟩
  show z.was.getD [] = x.now
  rw [hl.was]
  rfl
theorem HeapIn.abort (h : HeapIn x P L E) (hl : x.begun.like z) : HeapIn z.abort P L E := by
  obtain ⟨h1, h2, -, -⟩ := like_abort_now hl
  exact h.alike h2 (by rw [h1]) (fun i c hc => ⟨c, by rw [h1]; exact hc, rfl, rfl⟩) (by rw [h1])
theorem Rp.comm_epoch (x : Rp) : x.comm.epoch ≤ x.epoch + 1 := by
  show (if cntN x.touched 64 = 0 then x.epoch else x.epoch + 1) ≤ x.epoch + 1
  split
  · exact Nat.le_succ _
  · exact Nat.le_refl _
end
/-- A heap of the law's own, and the list beside it. -/
structure FuJ (w W : World) (h m p : Nat) (x : Rp) (L : List HR) (F : Nat → Prop) (P : Nat → Bool) (A : Option Addr) : Prop where
  hm : HM w W h m p F x P
  hn : w.heap.size ≤ h
  xs : XS W A L F m
section
variable {w W W1 W2 : World} {h m p g gm : Nat} {x y : Rp} {L L' : List HR} {F F' : Nat → Prop} {P P' : Nat → Bool} {A A' : Option Addr}
theorem FuJ.grew (j : FuJ w W h m p x L F P A) (hg : Grew W W1) : FuJ w W1 h m p x L F P A := ⟨j.hm.grew hg, j.hn, j.xs.grew hg⟩
theorem FuJ.kept (j : FuJ w W h m p x L F P A) (hk : HH W1 h m p F x P) (hc : Chg F W W1) : FuJ w W1 h m p x L F P A := ⟨j.hm.far hc hk, j.hn, j.xs.far hc⟩
/-- The heap has turned. -/
theorem FuJ.turn (j : FuJ w W h m p x L F P A) (hk : HH W1 h m p F' y P') (hc : Chg (fun i => F i ∨ i = m) W W1) (hn : ∀ i, F' i → F i ∨ W.heap.size ≤ i) : FuJ w W1 h m p y L F' P' A :=
  ⟨j.hm.to hc hk hn, j.hn, j.xs.to hc hn⟩
/-- The pager has turned. -/
theorem FuJ.to (j : FuJ w W h m p x L F P A) (ht : GPTo W W1 p F y) : ∃ F', FuJ w W1 h m p y L F' P A ∧ Chg F W W1 ∧ ∀ i, F' i → F i ∨ W.heap.size ≤ i := by
  obtain ⟨F', hk, hr⟩ := j.hm.k.to ht
  exact ⟨F', j.turn hk (hr.chg.mono fun _ _ e => .inl e) hr.new, hr.chg, hr.new⟩
/-- A row of the call's own. -/
theorem FuJ.row (j : FuJ w W h m p x L F P A) {b c : Nat} (hb : W.heap.size ≤ b) (hg : Grew W W1) (ho : W1.ownsRow b 53 2 (.slice A' L'.length c) L'.length ((L'.map HR.rw).flatMap Hrw.vals)) : FuJ w W1 h m p x L' F P A' :=
  ⟨j.hm.grew hg, j.hn, XS.new (fun i e => Nat.lt_of_lt_of_le (j.hm.k.gp.lt i e) hb) (Nat.lt_of_lt_of_le j.hm.k.lt hb) ho⟩
/-- A copy. -/
theorem FuJ.copy (j : FuJ w W h m p x L F P A) (hg : Grew W W1) (hk : HH W1 g gm p F x P) (h1 : W.heap.size ≤ g) (h2 : W.heap.size ≤ gm) : FuJ w W1 g gm p x L F P A :=
  ⟨⟨hk, Grew.trans j.hm.gr hg, j.hm.fn, Nat.le_trans j.hm.gr.size h2⟩, Nat.le_trans j.hm.gr.size h1, (j.xs.grew hg).sl, fun a ha => ⟨(j.xs.ap a ha).1, by have := (j.xs.ap a ha).2.2; omega, ((j.xs.grew hg).ap a ha).2.2⟩⟩
/-- Another heap has turned. -/
theorem FuJ.beside (j : FuJ w W h m p x L F P A) (hg : GP W1 p F' y) (hc : Chg (fun i => F i ∨ i = gm) W W1) (hn : ∀ i, F' i → F i ∨ W.heap.size ≤ i) (h0 : 0 < gm) (h1 : h ≠ gm) (h2 : m ≠ gm) (h3 : ∀ a, A = some a → a.block ≠ gm) (h4 : w.heap.size ≤ gm) : FuJ w W1 h m p y L F' P A := by
  have hh := j.hm.k.blk.facts.2.2
  have hl := j.hm.k.lt
  refine ⟨⟨⟨hg, j.hm.k.blk.chg hc fun e => e.elim j.hm.k.nh h1, j.hm.k.mp.chg hc fun e => e.elim j.hm.k.nm h2, j.hm.k.pb, fun e => (hn _ e).elim j.hm.k.nh fun e => by omega, fun e => (hn _ e).elim j.hm.k.nm fun e => by omega, j.hm.k.ne⟩, Chg.trans j.hm.gr hc fun i hi e => ?_, fun i e => (hn i e).elim (j.hm.fn i) fun e => Nat.le_trans j.hm.gr.size e, j.hm.mn⟩, j.hn, ?_⟩
  · rcases e with e | e
    · have := j.hm.fn i e; omega
    · omega
  · exact ⟨j.xs.sl.chg hc fun a ha e => e.elim (j.xs.ap a ha).1 (h3 a ha), fun a ha => ⟨fun e => (hn _ e).elim (j.xs.ap a ha).1 fun e => by have := (j.xs.ap a ha).2.2; omega, (j.xs.ap a ha).2.1, Nat.lt_of_lt_of_le (j.xs.ap a ha).2.2 hc.size⟩⟩
end
theorem hclone_any (M : Nat) (m : Int → Option Value) (s : Nat) (w : World) (h : IMap Tryz.prog 3 w M m s) :
    Calls Tryz.prog 50 #[.map (some M)] w fun e w' => e = .returned (.map (some w.heap.size)) ∧ IMap Tryz.prog 3 w' w.heap.size m s ∧ Grew w w' := by
  obtain ⟨D, ho, hr⟩ := h
  refine Calls.mono (show Calls Tryz.prog 50 _ _ _ from AnyW.maps_Clone_owns cloneH 3 rdV M s D w ho) ?_
  rintro e w' ⟨he, h1, h2, h3⟩
  exact ⟨he, ⟨D, h1, hr⟩, Grew.of_below h3⟩
set_option maxRecDepth 100000 in
set_option maxHeartbeats 1600000 in
theorem hcopy_any (h m p : Nat) (F : Nat → Prop) (x : Rp) (P : Nat → Bool) (w : World) (k : HH w h m p F x P) :
    Calls Tryz.prog 21 #[.pointer (some ⟨h, 0, none⟩)] w fun e w' => ∃ g gm, e = .returned (.pointer (some ⟨g, 0, none⟩)) ∧ HH w' g gm p F x P ∧ Grew w w' ∧ w.heap.size ≤ g ∧ w.heap.size ≤ gm := by
  obtain ⟨c0, f0, s0⟩ := k.blk.facts
  have H := Lib.hid k
  have hS : ∀ u, Grew w u → u.cell? ⟨h, 0, none⟩ = some (.pointer (some ⟨p, 0, none⟩)) ∧ u.cell? ⟨h, 1, none⟩ = some (.map (some m)) := fun u hu => ⟨(H.out.blk.grew hu).cell 0, (H.out.blk.grew hu).cell 1⟩
  have HS := Lib.hid hS
  clear k hS
  go_enter Tryz.func21, Tryz.ntmps21
  go_wp2_with fail
  refine wp_region_held_drew (S := fun u => u.cell? ⟨h, 0, none⟩ = some (.pointer (some ⟨p, 0, none⟩)) ∧ u.cell? ⟨h, 1, none⟩ = some (.map (some m))) (by kernel_rfl) (HS.out _ ((Chg.refl NoF w).drew)) (fun hHeld => ?_)
  refine wpAnyH_take (i := 0) (v := ?_) rfl (by kernel_rfl) (by kernel_rfl) (by kernel_rfl) (fun _ _ _ h => h) (Or.inl ⟨by rfl, ?_⟩) hHeld ?_
  rotate_left
  · (intro w hSw; (try dsimp only at hSw); go_simp) <;> with_reducible rfl
  (try simp only [Act.put, List.setIfInBounds_toArray, List.set_cons_zero, List.set_cons_succ, List.getElem_toArray, List.getElem_cons_zero, List.getElem_cons_succ])
  refine wpAnyH_take (i := 1) (v := ?_) rfl (by kernel_rfl) (by kernel_rfl) (by kernel_rfl) (fun _ _ _ h => h) (Or.inl ⟨by rfl, ?_⟩) hHeld ?_
  rotate_left
  · (intro w hSw; (try dsimp only at hSw); go_simp) <;> with_reducible rfl
  (try simp only [Act.put, List.setIfInBounds_toArray, List.set_cons_zero, List.set_cons_succ, List.getElem_toArray, List.getElem_cons_zero, List.getElem_cons_succ])
  refine wpAnyH_take (i := 2) (v := ?_) rfl (by kernel_rfl) (by kernel_rfl) (by kernel_rfl) (fun _ _ _ h => h) (Or.inl ⟨by rfl, ?_⟩) hHeld ?_
  rotate_left
  · (intro w hSw; (try dsimp only at hSw); go_simp) <;> with_reducible rfl
  (try simp only [Act.put, List.setIfInBounds_toArray, List.set_cons_zero, List.set_cons_succ, List.getElem_toArray, List.getElem_cons_zero, List.getElem_cons_succ])
  refine wpAnyH_take (i := 3) (v := ?_) rfl (by kernel_rfl) (by kernel_rfl) (by kernel_rfl) (fun _ _ _ h => h) (Or.inl ⟨by rfl, ?_⟩) hHeld ?_
  rotate_left
  · (intro w hSw; (try dsimp only at hSw); go_simp) <;> with_reducible rfl
  (try simp only [Act.put, List.setIfInBounds_toArray, List.set_cons_zero, List.set_cons_succ, List.getElem_toArray, List.getElem_cons_zero, List.getElem_cons_succ])
  refine wpAnyH_take (i := 4) (v := ?_) rfl (by kernel_rfl) (by kernel_rfl) (by kernel_rfl) (fun _ _ _ h => h) (Or.inl ⟨by rfl, ?_⟩) hHeld ?_
  rotate_left
  · (intro w hSw; (try dsimp only at hSw); go_simp) <;> with_reducible rfl
  (try simp only [Act.put, List.setIfInBounds_toArray, List.set_cons_zero, List.set_cons_succ, List.getElem_toArray, List.getElem_cons_zero, List.getElem_cons_succ])
  refine wpAnyH_take (i := 5) (v := ?_) rfl (by kernel_rfl) (by kernel_rfl) (by kernel_rfl) (fun _ _ _ h => h) (Or.inl ⟨by rfl, ?_⟩) hHeld ?_
  rotate_left
  · (intro w hSw; (try dsimp only at hSw); go_simp) <;> with_reducible rfl
  (try simp only [Act.put, List.setIfInBounds_toArray, List.set_cons_zero, List.set_cons_succ, List.getElem_toArray, List.getElem_cons_zero, List.getElem_cons_succ])
  refine wpAnyH_take (i := 6) (v := ?_) rfl (by kernel_rfl) (by kernel_rfl) (by kernel_rfl) (fun _ _ _ h => h) (Or.inl ⟨by rfl, ?_⟩) hHeld ?_
  rotate_left
  · (intro w hSw; (try dsimp only at hSw); go_simp) <;> with_reducible rfl
  (try simp only [Act.put, List.setIfInBounds_toArray, List.set_cons_zero, List.set_cons_succ, List.getElem_toArray, List.getElem_cons_zero, List.getElem_cons_succ])
  refine wpAnyH_take (i := 7) (v := ?_) rfl (by kernel_rfl) (by kernel_rfl) (by kernel_rfl) (fun _ _ _ h => h) (Or.inl ⟨by rfl, ?_⟩) hHeld ?_
  rotate_left
  · (intro w hSw; (try dsimp only at hSw); go_simp) <;> with_reducible rfl
  (try simp only [Act.put, List.setIfInBounds_toArray, List.set_cons_zero, List.set_cons_succ, List.getElem_toArray, List.getElem_cons_zero, List.getElem_cons_succ])
  refine wpAnyH_ready (rs := [8]) (by kernel_rfl) (by simp) ?_
  refine AllReadyH.cons rfl (fun K hK => ?_) AllReadyH.nil
  go_simp
  have hcl := hclone_any m _ _ _ (H.out.mp.grew ((Chg.refl NoF w).drew))
  obtain ⟨gm, hgm⟩ : ∃ q, w.drew.heap.size = q := ⟨_, rfl⟩
  have hgs : w.heap.size ≤ gm := hgm ▸ ((Chg.refl NoF w).drew).size
  rw [hgm] at hcl
  clear hgm
  refine hcl.mono ?_
  clear hcl
  rintro e w2 ⟨rfl, hm2, hg2⟩
  have H2 := Lib.hid (And.intro hm2 (Grew.trans ((Chg.refl NoF w).drew) hg2))
  clear hm2 hg2
  refine hK.out _ _ (HS.out _ H2.out.2) (fun _ => ?_)
  clear hK K
  (try simp only [Act.put, List.setIfInBounds_toArray, List.set_cons_zero, List.set_cons_succ, List.getElem_toArray, List.getElem_cons_zero, List.getElem_cons_succ])
  refine wpAnyH_take (i := 9) (v := ?_) rfl (by kernel_rfl) (by kernel_rfl) (by kernel_rfl) (fun _ _ _ h => h) (Or.inl ⟨by rfl, ?_⟩) (HS.out _ H2.out.2) ?_
  rotate_left
  · (intro w hSw; (try dsimp only at hSw); go_simp) <;> with_reducible rfl
  (try simp only [Act.put, List.setIfInBounds_toArray, List.set_cons_zero, List.set_cons_succ, List.getElem_toArray, List.getElem_cons_zero, List.getElem_cons_succ])
  refine wpAnyH_ready (rs := [10]) (by kernel_rfl) (by simp) ?_
  refine AllReadyH.cons rfl (fun K hK => ?_) AllReadyH.nil
  go_simp
  obtain ⟨w3, hw3⟩ : ∃ u, w2.alloc (.cells #[.pointer (some ⟨p, 0, none⟩), .map (some gm)] 60) = u := ⟨_, rfl⟩
  rw [hw3]
  have hg3 : Grew w2 w3 := by rw [← hw3]; exact (Chg.refl _ _).alloc _
  have hb3 : Blk w3 w2.heap.size 60 #[.pointer (some ⟨p, 0, none⟩), .map (some gm)] := by rw [← hw3]; exact Blk.new _ _ _
  have hgg := Grew.trans H2.out.2 hg3
  have hz := H2.out.2.size
  have hml := H2.out.1.lt
  have hwl := H.out.lt
  have H3 := Lib.hid (And.intro (show HH w3 w2.heap.size gm p F x P from ⟨(H.out.grew hgg).gp, hb3, H2.out.1.grew hg3, H.out.pb, fun e => by have := H.out.gp.lt _ e; omega, fun e => by have := H.out.gp.lt _ e; omega, by omega, by omega⟩) (And.intro hgg hz))
  clear hg3 hb3 hw3 hgg hz hml hwl
  refine hK.out _ _ (HS.out _ H3.out.2.1) (fun _ => ?_)
  clear hK K
  (try simp only [Act.put, List.setIfInBounds_toArray, List.set_cons_zero, List.set_cons_succ, List.getElem_toArray, List.getElem_cons_zero, List.getElem_cons_succ])
  refine wpAnyH_take (i := 11) (v := ?_) rfl (by kernel_rfl) (by kernel_rfl) (by kernel_rfl) (fun _ _ _ h => h) (Or.inl ⟨by rfl, ?_⟩) (HS.out _ H3.out.2.1) ?_
  rotate_left
  · (intro w hSw; (try dsimp only at hSw); go_simp) <;> with_reducible rfl
  (try simp only [Act.put, List.setIfInBounds_toArray, List.set_cons_zero, List.set_cons_succ, List.getElem_toArray, List.getElem_cons_zero, List.getElem_cons_succ])
  refine wpAnyH_done (by kernel_rfl) ?_ _
  clear hHeld
  go_wp2_with fail
  go_ret
  exact ⟨_, gm, rfl, H3.out.1, H3.out.2.1, H3.out.2.2, hgs⟩
end Go.Proofs.YtjkkoogfaibhiaaGreatDoor

/- The document's list: a copy, one record more. -/
namespace Go.Proofs.YtjkkoogfaibhiaaGreatDoor
open Go.RowKit Go.Maps

theorem xrec_copy {W : World} {base n c : Nat} {v0 : Value} {A : Option Addr} {xs : List Value} (h0 : W.ownsRow base 53 2 v0 0 []) (hb : base ≤ W.heap.size) (hs : Sl W 2 A n xs) (h1 : ∀ u ∈ xs, u.oneCell' = true) (hn : n ≤ 1000000) (ty : TypeId) :
    ∃ v' W', (Builtin.append_ #[43, 43] ty #[v0, .slice A n c]).run Tryz.prog W = .ok v' W' ∧ W'.ownsRow base 53 2 v' n xs ∧ Ap W W' v0 v' := by
  obtain ⟨i0, hi0, hz0, hz1, hz2⟩ := info_parts xhrInfo
  by_cases h : n = 0
  · subst h
    obtain ⟨A0, c0, rfl, -⟩ := own_shape h0
    obtain rfl : xs = [] := List.eq_nil_of_length_eq_zero (by have := hs.1; omega)
    exact ⟨_, _, run_append_nought8 Tryz.underlying43 hi0 ty A0 A 0 c0 c (Nat.zero_le _), h0, Ap.refl _ _⟩
  · obtain ⟨b, off, rfl, -, hc⟩ := hs.2 (by omega)
    obtain ⟨v1, w1, hr, h2, h3, -, h4⟩ := run_append_own_at (P := Tryz.prog) W base 43 ty 53 i0 _ 2 24 Tryz.underlying43 hi0 hz0 hz1 hz2 rfl (by omega) v0 0 [] h0 ⟨b, off, none⟩ n c xs hs.1 (fun j u hu => by rw [Addr.add_lit]; exact hc j u hu) h1 (by simp only [maxLen]; omega) (by omega) hb
    rw [Nat.zero_add, List.nil_append] at h2
    exact ⟨v1, w1, hr, h2, (Ap.refl _ _).push (Chg.refl _ _) h3 h4⟩
theorem xrec_snoc {W : World} {base n q : Nat} {v : Value} {xs : List Value} {x : Hrw} (h0 : W.ownsRow base 53 2 v n xs) (hb : base ≤ W.heap.size) (hq : Blk W q 53 #[.int .i64 x.place, .string x.text]) (hn : n ≤ 1000000) (ty : TypeId) :
    ∃ v' W', (Builtin.append_ #[43, 43] ty #[v, .slice (some ⟨q, 0, none⟩) 1 1]).run Tryz.prog W = .ok v' W' ∧ W'.ownsRow base 53 2 v' (n + 1) (xs ++ x.vals) ∧ Ap W W' v v' := by
  obtain ⟨i0, hi0, hz0, hz1, hz2⟩ := info_parts xhrInfo
  obtain ⟨v1, w1, hr, h2, h3, -, h4⟩ := run_append_own_at (P := Tryz.prog) W base 43 ty 53 i0 _ 2 24 Tryz.underlying43 hi0 hz0 hz1 hz2 rfl (by omega) v n xs h0 ⟨q, 0, none⟩ 1 1 x.vals (by simp [Hrw.vals])
    (fun j u hu => by rw [Addr.add_lit, Nat.zero_add, hq.cell j]; simpa [Hrw.vals] using hu) (by simp [Hrw.vals, Value.oneCell']) (by simp only [maxLen]; omega) (by omega) hb
  exact ⟨v1, w1, hr, h2, (Ap.refl _ _).push (Chg.refl _ _) h3 h4⟩
theorem Hrw.one {l : List Hrw} : ∀ u ∈ l.flatMap Hrw.vals, u.oneCell' = true := by
  intro u hu
  obtain ⟨x, -, hx⟩ := List.mem_flatMap.1 hu
  simp only [Hrw.vals, List.mem_cons, List.not_mem_nil, or_false] at hx
  rcases hx with rfl | rfl <;> rfl
theorem noRec_new {L : List HR} {r : HR} (h : ((L ++ [r]).map HR.place).Nodup) : NoRec L (r.place : Int) := .inr fun q hq e => by
  rw [List.map_append, List.nodup_append] at h
  exact h.2.2 _ (List.mem_map_of_mem hq) r.place (by simp) (by omega)
/-- Where a record's place lies in the document's list. -/
theorem XS.at_ {w : World} {A : Option Addr} {L : List HR} {F : Nat → Prop} {m j : Nat} {r : HR} (hX : XS w A L F m) (hj : L[j]? = some r) :
    ∃ gx ox, A = some ⟨gx, ox, none⟩ ∧ w.cell? ⟨gx, ox + j * 2, none⟩ = some (.int .i64 r.place) ∧ w.cell? ⟨gx, ox + j * 2 + 1, none⟩ = some (.string (strOfNums r.text)) := by
  have hsl : Sl w 2 A (L.map HR.rw).length ((L.map HR.rw).flatMap Hrw.vals) := by rw [List.length_map]; exact hX.sl
  obtain ⟨gx, ox, rfl, hgx, d0, d1⟩ := hsl.atHrw (x := r.rw) (by rw [List.getElem?_map, hj]; rfl)
  exact ⟨gx, ox, rfl, d0, d1⟩
theorem xhwithout_rw (j : Nat) (L : List HR) (A : Option Addr) (c : Nat) (w : World) (hs : Sl w 2 A L.length ((L.map HR.rw).flatMap Hrw.vals)) (hl : L.length ≤ 1000000) (hj : j < L.length) :
    Calls Tryz.prog 22 #[.slice A L.length c, .int .i64 j] w fun e w' => OwnOut w w' 53 2 (L.eraseIdx j).length (((L.eraseIdx j).map HR.rw).flatMap Hrw.vals) (fun A c => .slice A (L.eraseIdx j).length c) e := by
  have hwi := xhwithout_any j (L.map HR.rw) A c w (by rw [List.length_map]; exact hs) (by rw [List.length_map]; exact hl) (by rw [List.length_map]; exact hj)
  rw [← rw_erase] at hwi
  simp only [List.length_map] at hwi
  exact hwi
end Go.Proofs.YtjkkoogfaibhiaaGreatDoor

/- The heap's laws: awake. -/
namespace Go.Proofs.YtjkkoogfaibhiaaGreatDoor
open Go.RowKit Go.Maps

theorem roomy12h {d : Nat} : (Rp.opened 12 64 d).roomy 7 := opened_roomy (T := 1) (C := 10) (Nat.le_of_eq (by kernel_rfl)) (Nat.le_of_eq (by kernel_rfl)) (by omega) (by omega)
theorem opened_used (n sz d : Nat) : (Rp.opened n sz d).now.countP Pk.used = 0 := rep_count (capN n sz) _ rfl
theorem opened_was (n sz d : Nat) : (Rp.opened n sz d).was ≠ none := by simp [Rp.opened, Rp.begun]
set_option maxRecDepth 100000 in
set_option maxHeartbeats 3200000 in
theorem hawake_any (w : World) (hT : TabAt 0 tab w) :
    Calls Tryz.prog 6 #[] w fun e w' => e = .returned (.bool true) ∧ Grew w w' := by
  have H := Lib.hid hT
  have kc := fun (w : World) (C : Array Value) (n c : Nat) => Lib.run_convert_bytes_const (P := Tryz.prog) w 34 5 C n c Tryz.underlying34 Tryz.underlying5
  clear hT
  go_enter Tryz.func6, Tryz.ntmps6
  go_wp2_with fail
  refine (hfresh_any 12 64 _ H.out (by omega) (by omega) (by omega) (by omega)).mono ?_
  rintro e w1 ⟨p, d, F, rfl, hp, hg1, hn1⟩
  have HN := Lib.hid (hnew_any p F _ w1 hp)
  have H1 := Lib.hid (And.intro hg1 hn1)
  clear hp hg1 hn1
  go_wp2_with fail
  refine HN.out.mono ?_
  rintro e w2 ⟨h, m, rfl, hk2, hg2, hh, hm, -⟩
  have hsz := H1.out.1.size
  have hM2 : HM w w2 h m p F (Rp.opened 12 64 d) (fun _ => false) := ⟨hk2, Grew.trans H1.out.1 hg2, H1.out.2, by omega⟩
  have HL := Lib.hid (fun n => hlong_any h m p n F (Rp.opened 12 64 d) (fun _ => false) w2 hk2)
  have HM2 := Lib.hid hM2
  clear hk2 hg2 hM2 hh hm
  have hl28 := HL.out 28
  have hl29 := HL.out 29
  rw [show longB 28 (Rp.opened 12 64 d).sz = false from (by decide : longB 28 64 = false)] at hl28
  rw [show longB 29 (Rp.opened 12 64 d).sz = true from (by decide : longB 29 64 = true)] at hl29
  have HLL := Lib.hid (And.intro hl28 hl29)
  clear hl28 hl29 HL
  go_wp2_with fail
  refine HLL.out.1.mono ?_
  rintro e w3 ⟨rfl, rfl⟩
  go_wp2_with fail
  refine HLL.out.2.mono ?_
  rintro e w3 ⟨rfl, rfl⟩
  go_wp2_with fail
  obtain ⟨W3, hW3⟩ : ∃ W, w2.alloc (.cells #[.int .u8 97, .int .u8 98, .int .u8 99] 5 (3, 4)) = W := ⟨_, rfl⟩
  have hg3 : Grew w2 W3 := hW3 ▸ (Chg.refl _ _).alloc _
  have hz3 : W3.heap.size = w2.heap.size + 1 := by subst hW3; exact Array.size_push _
  have hsl3 : Sl W3 1 (some ⟨w2.heap.size, 0, none⟩) [97, 98, 99].length (bv [97, 98, 99]) := by
    refine ⟨by simp [bv], fun _ => ⟨w2.heap.size, 0, rfl, by omega, fun j u hu => ?_⟩⟩
    rw [Nat.zero_add, ← hW3]
    have e : (w2.alloc (.cells #[.int .u8 97, .int .u8 98, .int .u8 99] 5 (3, 4))).cell? ⟨w2.heap.size, j, none⟩ = (#[.int .u8 97, .int .u8 98, .int .u8 99] : Array Value)[j]? := by
      exact cell_of_row _ _ _ _ _ _ (heap_alloc_new w2 _)
    rw [e]
    simpa [bv] using hu
  have hM3 := HM2.out.grew hg3
  have hpt := hput_any h m p w2.heap.size 0 3 F (Rp.opened 12 64 d) (fun _ => false) [] [97, 98, 99] W3 hM3.k (HeapIn.start (opened_used 12 64 d)) (opened_was 12 64 d) (by simp) (by simp) (by simp) (by simp) hsl3 (fun e => by have := HM2.out.k.gp.lt _ e; omega) (by omega)
  rw [hW3]
  have H3 := Lib.hid (And.intro hM3 hpt)
  clear hM3 hpt hsl3 hg3 hW3
  refine H3.out.2.mono ?_
  rintro e w4 (⟨pl, y, F4, P4, pg, rfl, hk4, hin4, hlk4, hpg4, hu4, hc4, hn4⟩ | ⟨rfl, y, F', -, -, -, -, ht⟩)
  rotate_left
  · exact absurd ht (not_tight roomy12h (.refl _) (by rw [opened_used]; show 0 + (1 + ownN 3 64) ≤ 7; decide))
  have hM4 : HM w w4 h m p F4 y P4 := H3.out.1.to hc4 hk4 hn4
  have hin4' : HeapIn y P4 [⟨pl, [97, 98, 99], pg⟩] [] := hin4
  have hpl : pl < 262144 := by
    obtain ⟨s, hs, -⟩ := hin4'.slot (r := ⟨pl, [97, 98, 99], pg⟩) List.mem_cons_self
    have h1 := hs.lt
    have h2 := hk4.gp.szs.2.2.2.2.2
    simp only at h1
    omega
  have H4 := Lib.hid (And.intro hM4 hin4')
  clear hk4 hin4 hlk4 hpg4 hu4 hc4 hn4 hM4 hin4' H3
  go_wp2_with fail
  refine (hget_any h m p F4 y P4 _ [] ⟨pl, [97, 98, 99], pg⟩ w4 H4.out.1.k H4.out.2 List.mem_cons_self).mono ?_
  rintro e w5 ⟨A5, c5, rfl, hs5, -, hn5, hk5, hc5⟩
  have hM5 := H4.out.1.far hc5 hk5
  have H5 := Lib.hid (And.intro hM5 hs5)
  have hA5 : ∀ a, A5 = some a → ¬ F4 a.block ∧ a.block < w5.heap.size := fun a ha => by
    obtain ⟨g, off, e, hgl, -⟩ := hs5.2 (by simp)
    rw [ha] at e
    cases e
    exact ⟨fun e => by have h1 := hn5 _ ha; have h2 := H4.out.1.k.gp.lt _ e; omega, hgl⟩
  have HA5 := Lib.hid hA5
  clear hs5 hn5 hk5 hc5 hM5 hA5
  go_wp2_with fail
  have hgn := hget_none h m p F4 y P4 _ [] ((pl : Int) + 1) w5 H5.out.1.k H4.out.2 (by omega) (.inr fun r hr => by simp at hr; subst hr; simp only; omega)
  refine hgn.mono ?_
  clear hgn
  rintro e w6 ⟨rfl, hk6, hc6⟩
  have hM6 := H5.out.1.far hc6 hk6
  have hs6 := H5.out.2.chg hc6 fun a ha => (HA5.out a ha).1
  have hcv0 := conv_sl (c := c5) hs6 (by simp)
  have hpa := hpages_any h m p y.now.length F4 y P4 w6 hk6 (fun s hs => H4.out.2.lt hs) (by have := hk6.gp.szs.2.2.2.2.2; omega)
  have hkl : (keysL P4 y.now.length).length = 1 := by
    have h1 := H4.out.2.bnd
    have h2 := cntN_pos (H4.out.2.at_ _ List.mem_cons_self).1 (H4.out.2.lt (H4.out.2.at_ _ List.mem_cons_self).1)
    unfold keysL
    rw [← List.countP_eq_length_filter, ← cntN_countP]
    simp only [List.length_cons, List.length_nil] at h1
    omega
  rw [hkl] at hpa
  have HPa := Lib.hid hpa
  have H6 := Lib.hid hM6
  have hstr : strOfNums [97, 98, 99] = ⟨#[97, 98, 99]⟩ := by rfl
  rw [hstr] at hcv0
  have hcv : (convert 34 9 (.slice A5 3 c5)).run Tryz.prog w6 = .ok (.string ⟨#[97, 98, 99]⟩) w6 := hcv0
  clear hcv0
  clear hk6 hc6 hM6 hs6 hpa hkl hstr
  go_wp2_with fail
  refine HPa.out.mono ?_
  rintro e w7 ⟨A7, c7, rfl, ho7, hg7⟩
  have H7 := Lib.hid (H6.out.grew hg7)
  clear ho7 hg7
  go_wp2_with fail
  go_ret
  exact ⟨rfl, H7.out.gr⟩
end Go.Proofs.YtjkkoogfaibhiaaGreatDoor

/- The heap's laws: HeapFull, walked (printed by genHpFb.py). -/
namespace Go.Proofs.YtjkkoogfaibhiaaGreatDoor
open Go.RowKit Go.Maps

theorem hfull_out (w : World) (hT : TabAt 0 tab w) (A : Option Addr) (c : Nat) (l : List Hop) (n : Int) (hz : -9223372036854775808 ≤ n ∧ n ≤ 9223372036854775807) (hm : l.length ≤ 9223372036854775807) (hs : Sl w 3 A l.length (l.flatMap Hop.vals)) (ok : ∀ r ∈ l, r.ok w)
    (ho : n < 8 ∨ 40 < n ∨ smallB l 50 = false) :
    Calls Tryz.prog 5 #[.int .i64 n, .slice A l.length c] w fun e w' => e = .returned (.bool true) ∧ Grew w w' := by
  have HA := Lib.hid (fun u (hg : Grew w u) => hawake_any u (tab_chg hT hg id))
  have t0 : (decide (n < 8) = true) ∨ (decide (n < 8) = false ∧ decide (40 < n) = true) ∨ (decide (n < 8) = false ∧ decide (40 < n) = false ∧ smallB l 50 = false) := by
    by_cases a : n < 8
    · exact .inl (decide_eq_true a)
    · by_cases b : 40 < n
      · exact .inr (.inl ⟨decide_eq_false a, decide_eq_true b⟩)
      · exact .inr (.inr ⟨decide_eq_false a, decide_eq_false b, (ho.resolve_left a).resolve_left b⟩)
  have hsm := small_any l A c 50 w hs ok hm
  obtain ⟨ht1, ht2⟩ := hz
  clear ho hT hs ok
  rcases t0 with t1 | ⟨t1, t2⟩ | ⟨t1, t2, t3⟩
  rotate_right
  · rw [t3] at hsm
    have HS := Lib.hid hsm
    clear hsm
    go_enter Tryz.func5, Tryz.ntmps5
    go_wp2_with fail
    refine HS.out.mono ?_
    rintro e w1 ⟨rfl, hg1⟩
    have HG := Lib.hid hg1
    clear hg1
    go_wp2_with fail
    refine (HA.out _ HG.out).mono ?_
    rintro e w2 ⟨rfl, hg⟩
    have HG2 := Lib.hid (Grew.trans HG.out hg)
    clear hg
    go_wp2_with fail
    go_ret
    exact ⟨rfl, HG2.out⟩
  all_goals
    go_enter Tryz.func5, Tryz.ntmps5
    go_wp2_with fail
    refine (HA.out _ (Chg.refl _ _)).mono ?_
    rintro e w1 ⟨rfl, hg⟩
    have HG := Lib.hid hg
    clear hg
    go_wp2_with fail
    go_ret
    exact ⟨rfl, HG.out⟩
set_option maxRecDepth 100000 in
set_option maxHeartbeats 12800000 in
theorem hfull_in (w : World) (hT : TabAt 0 tab w) (A0 : Option Addr) (c0' : Nat) (l : List Hop) (sn : Nat) (h1 : 8 ≤ sn) (h2 : sn ≤ 40) (hm : l.length ≤ 9223372036854775807) (hs : Sl w 3 A0 l.length (l.flatMap Hop.vals)) (ok : ∀ r ∈ l, r.ok w) (hsm : smallB l 50 = true) :
    Calls Tryz.prog 5 #[.int .i64 sn, .slice A0 l.length c0'] w fun e w' => e = .returned (.bool true) ∧ Grew w w' := by
  have t1 : decide ((sn : Int) < 8) = false := decide_eq_false (by omega)
  have t2 : decide ((40 : Int) < (sn : Int)) = false := decide_eq_false (by omega)
  have hsa := small_any l A0 c0' 50 w hs ok hm
  rw [hsm] at hsa
  simp only [smallB, Bool.and_eq_true, decide_eq_true_eq, List.all_eq_true] at hsm
  obtain ⟨hd, hll⟩ := hsm
  have hl : l.length ≤ 50 := by omega
  have H := Lib.hid (And.intro hT (And.intro hs (And.intro ok hd)))
  have HS := Lib.hid hsa
  have HA := Lib.hid (fun u (hg : Grew w u) => hawake_any u (tab_chg hT hg id))
  clear hT hs ok hsa hd
  go_enter Tryz.func5, Tryz.ntmps5
  go_wp2_with fail
  refine HS.out.mono ?_
  rintro e w0 ⟨rfl, hg0⟩
  have H0 := Lib.hid hg0
  clear hg0
  go_wp2_with fail
  refine (hfresh_any sn 64 w0 (tab_chg H.out.1 H0.out id) (by omega) (by omega) (by omega) (by omega)).mono ?_
  rintro e w1 ⟨p, d, F, rfl, hp, hg1, hn1⟩
  have HC := Lib.hid (gp_commit p F _ w1 hp (opened_was _ _ _) (by simp [Rp.opened, Rp.begun, Rp.fresh]))
  have H1 := Lib.hid (And.intro hg1 hn1)
  clear hp hg1 hn1
  go_wp2_with fail
  refine HC.out.mono ?_
  rintro e w2 ⟨rfl, F1, hp, hc1, hn1⟩
  have he0 := Rp.comm_epoch (Rp.opened sn 64 d)
  have hes : (Rp.opened sn 64 d).comm.epoch ≤ 1 ∧ (Rp.opened sn 64 d).comm.was = none ∧ (Rp.opened sn 64 d).comm.sz = 64 := ⟨by rw [show (Rp.opened sn 64 d).epoch = 0 from rfl] at he0; exact he0, rfl, rfl⟩
  have hh0 := (HeapIn.start (opened_used sn 64 d)).comm
  obtain ⟨y0, hy0⟩ : ∃ y, (Rp.opened sn 64 d).comm = y := ⟨_, rfl⟩
  rw [hy0] at hp hes hh0
  clear hy0 he0
  have HN := Lib.hid (hnew_any p F1 _ w2 hp)
  have H2 := Lib.hid (And.intro (Grew.trans H0.out (Chg.trans H1.out.1 hc1 fun i hi e => by have := H1.out.2 i e; omega)) (And.intro (fun i (e : F1 i) => (hn1 i e).elim (H1.out.2 i) fun e => Nat.le_trans H1.out.1.size e) (And.intro hes hh0)))
  clear hp hc1 hn1 hes hh0
  go_wp2_with fail
  refine HN.out.mono ?_
  rintro e w3 ⟨h, m, rfl, hk2, hg2, hh, hmm, -⟩
  have hz2 := H2.out.1.size
  have hz0 := H0.out.size
  have hJ0 : FuJ w w3 h m p y0 [] F1 (fun _ => false) none :=
    ⟨⟨hk2, Grew.trans H2.out.1 hg2, fun j hj => by have := H2.out.2.1 j hj; omega, by omega⟩, by omega, ⟨Sl.nil _ _ _, fun a ha => by cases ha⟩⟩
  have HJ0 := Lib.hid hJ0
  clear hk2 hg2 hh hmm hJ0
  go_wp2_with fail
  go_loopg [7, 8, 45] (l.length) (fun q hv xv iv wr => ∃ (k h m : Nat) (L : List HR) (F : Nat → Prop) (x : Rp) (P : Nat → Bool) (A : Option Addr) (c : Nat), q = l.length - k ∧ k ≤ l.length ∧ iv = .int .i64 k ∧ hv = .pointer (some ⟨h, 0, none⟩) ∧ xv = .slice A L.length c ∧ L.length ≤ k ∧ FuJ w wr h m p x L F P A ∧ HeapIn x P L [] ∧ x.was = none ∧ x.sz = 64 ∧ x.epoch ≤ k + 1)
  case atStart => exact ⟨0, _, _, [], _, _, _, none, 0, by simp, Nat.zero_le _, rfl, rfl, rfl, Nat.zero_le _, HJ0.out, H2.out.2.2.2, H2.out.2.2.1.2.1, H2.out.2.2.1.2.2, H2.out.2.2.1.1⟩
  case round =>
    obtain ⟨k, h, m, L, F, x, P, A, c, rfl, hk, rfl, rfl, rfl, hLk, hJ, hx, hwas, hsz, hep⟩ := hrel
    by_cases hlt : k < l.length
    · obtain ⟨o, ho⟩ : ∃ o, l[k]? = some o := ⟨_, List.getElem?_eq_getElem hlt⟩
      have hmem := List.mem_of_getElem? ho
      obtain ⟨g0, off, rfl, hb, d0, d1, d2⟩ := (H.out.2.1.grew hJ.hm.gr).atHop ho
      have hok := H.out.2.2.1 o hmem
      have h200 := H.out.2.2.2 o hmem
      obtain ⟨kd, at_, A2, c2, t⟩ := o
      simp only [SB.val] at d2
      obtain ⟨n, hn⟩ : ∃ n, t.length = n := ⟨_, rfl⟩
      rw [hn] at d2
      obtain ⟨W1, hW1⟩ : ∃ W, wr.alloc (.cells #[.int .i64 kd, .int .i64 at_, .slice A2 n c2] 45) = W := ⟨_, rfl⟩
      have hg1 : Grew wr W1 := hW1 ▸ (Chg.refl _ _).alloc _
      have hb1 : Blk W1 wr.heap.size 45 #[.int .i64 kd, .int .i64 at_, .slice A2 n c2] := hW1 ▸ Blk.new _ _ _
      have hJ1 := hJ.grew hg1
      have hwF : ¬ F wr.heap.size := fun e => by have := hJ.hm.k.gp.lt _ e; omega
      have hwl : wr.heap.size < W1.heap.size := hb1.lt
      have HB := Lib.hid (gp_begin p F x W1 hJ1.hm.k.gp hwas)
      have hkI : (k : Int) < (l.length : Int) := by omega
      have H3 := Lib.hid (And.intro hJ1 (And.intro hx (And.intro hb1 (And.intro hok (And.intro h200 (And.intro hn (And.intro hwF (And.intro hwl (And.intro hwas (And.intro hsz (And.intro hep hJ.hm.mn)))))))))))
      clear hJ hx hb1 hok h200 hn hwF hwl hwas hsz hep hJ1 ho hb hmem hg1
      go_wp2_with fail
      refine HB.out.mono ?_
      rintro e w4 ⟨rfl, hto⟩
      obtain ⟨F2, hJ4, hc4, hn4⟩ := H3.out.1.to hto
      have HCp := Lib.hid (hcopy_any h m p F2 x.begun P w4 hJ4.hm.k)
      have H4 := Lib.hid (And.intro hJ4 (And.intro (H3.out.2.2.1.chg hc4 H3.out.2.2.2.2.2.2.1) hn4))
      clear hto hJ4 hc4 hn4 d0 d1 d2
      go_wp2_with fail
      refine HCp.out.mono ?_
      rintro e w5 ⟨g, gm, rfl, hk5, hg5, hgs, hgms⟩
      have hb5 := H4.out.2.1.grew hg5
      obtain ⟨c5, f5, s5⟩ := hb5.facts
      have hjl := H4.out.1.hm.k.lt
      have hhl := H4.out.1.hm.k.blk.lt
      have H5 := Lib.hid (And.intro (H4.out.1.grew hg5) (And.intro (H4.out.1.copy hg5 hk5 hgs hgms) (And.intro hb5 (And.intro (show h ≠ gm ∧ m ≠ gm by omega) (And.intro (show ∀ a, A = some a → a.block ≠ gm from fun a ha => by have := (H4.out.1.xs.ap a ha).2.2; omega) (show wr.heap.size ≠ gm ∧ ¬ F2 wr.heap.size from ⟨by have := H4.out.2.1.lt; omega, fun e => (H4.out.2.2 _ e).elim H3.out.2.2.2.2.2.2.1 fun e => by have := H3.out.2.2.2.2.2.2.2.1; omega⟩))))))
      clear hk5 hg5 hgs hgms hb5 hjl hhl
      have cs : (kd = 1 ∧ 0 < n) ∨ (∃ (j : Nat) (r : HR), kd = 3 ∧ at_ = j ∧ L[j]? = some r) ∨ (kd = 1 ∧ n = 0) ∨ ((kd == 1) = false ∧ (kd == 3) = false) ∨ (kd = 3 ∧ decide ((0 : Int) ≤ at_) = false) ∨ (kd = 3 ∧ decide ((0 : Int) ≤ at_) = true ∧ decide (at_ < (L.length : Int)) = false) := by
        by_cases a1 : kd = 1
        · by_cases a2 : n = 0
          · exact .inr (.inr (.inl ⟨a1, a2⟩))
          · exact .inl ⟨a1, by omega⟩
        · by_cases a3 : kd = 3
          · by_cases a4 : (0 : Int) ≤ at_
            · by_cases a5 : at_ < (L.length : Int)
              · exact .inr (.inl ⟨at_.toNat, L[at_.toNat]'(by omega), a3, by omega, List.getElem?_eq_getElem _⟩)
              · exact .inr (.inr (.inr (.inr (.inr ⟨a3, decide_eq_true a4, decide_eq_false a5⟩))))
            · exact .inr (.inr (.inr (.inr (.inl ⟨a3, decide_eq_false a4⟩))))
          · exact .inr (.inr (.inr (.inl ⟨beq_eq_false_iff_ne.2 a1, beq_eq_false_iff_ne.2 a3⟩)))
      rcases cs with ⟨rfl, hn0⟩ | ⟨j, r, rfl, rfl, hjr⟩ | ⟨rfl, rfl⟩ | ⟨e1, e3⟩ | ⟨rfl, e3⟩ | ⟨rfl, e3, e4⟩
      · have hok := H3.out.2.2.2.1
        have hn := H3.out.2.2.2.2.2.1
        have hmn := H3.out.2.2.2.2.2.2.2.2.2.2.2
        obtain ⟨gd, od, e9, hgl, -⟩ := hok.2.2.1.2 (by show 0 < t.length; omega)
        dsimp only at e9
        subst e9
        have hfn := H5.out.2.1.hm.fn
        have hgw := H5.out.2.1.hm.gr.size
        have hgmn := H5.out.2.1.hm.mn
        have hpt := hput_any g gm p gd od c2 F2 x.begun P L t w5 H5.out.2.1.hm.k H3.out.2.1.begun (by simp [Rp.begun]) (by omega) (by have := H3.out.2.2.2.2.1; omega) hok.2.2.2.2.2 hok.2.2.2.1 (hok.2.2.1.grew H5.out.2.1.hm.gr) (fun e => by have := hfn _ e; omega) (by omega)
        have HT := Lib.hid (fun (u : World) (hg : Grew w u) => hok.2.2.1.grew hg)
        rw [hn] at hpt
        have HP := Lib.hid hpt
        have HN := Lib.hid (And.intro hn (show n ≤ 200 by have := H3.out.2.2.2.2.1; omega))
        clear hok hn hmn hgl hfn hgw hgmn hpt
        go_wp2_with fail
        refine HP.out.mono ?_
        rintro e w6 (⟨pl, z, F3, P3, pg, rfl, hk6, hin6, hlk6, -, -, hc6, hn6⟩ | ⟨rfl, z, F3, hg6, hlk6, hc6, hn6, -⟩)
        · have hb6 := H5.out.2.2.1.chg hc6 fun e => e.elim H5.out.2.2.2.2.2.2 H5.out.2.2.2.2.2.1
          obtain ⟨c6, f6, s6⟩ := hb6.facts
          have j6 := H5.out.2.1.turn hk6 hc6 hn6
          have H6 := Lib.hid (And.intro j6 (And.intro hin6 (And.intro hlk6 hb6)))
          clear hk6 hin6 hlk6 hc6 hn6 hb6 j6 c5 f5 s5
          have HS := Lib.hid (show ∀ u, Grew w6 u → u.cell? ⟨wr.heap.size, 2, none⟩ = some (.slice (some ⟨gd, od, none⟩) n c2) ∧ (convert 34 9 (.slice (some ⟨gd, od, none⟩) n c2)).run Tryz.prog u = .ok (.string (strOfNums t)) u from fun u hu => by
            refine ⟨(H6.out.2.2.2.grew hu).cell 2, ?_⟩
            have := conv_sl (c := c2) (HT.out u (Grew.trans H6.out.1.hm.gr hu)) (by have := HN.out; show 0 < t.length; omega)
            simp only [HN.out.1] at this
            exact this)
          go_wp2_with fail
          refine wp_region_held_drew (S := fun u => u.cell? ⟨wr.heap.size, 2, none⟩ = some (.slice (some ⟨gd, od, none⟩) n c2) ∧ (convert 34 9 (.slice (some ⟨gd, od, none⟩) n c2)).run Tryz.prog u = .ok (.string (strOfNums t)) u) (by kernel_rfl) (HS.out _ ((Chg.refl NoF w6).drew)) (fun hHeld => ?_)
          refine wpAnyH_take (i := 1) (v := ?_) rfl (by kernel_rfl) (by kernel_rfl) (by kernel_rfl) (fun _ _ _ h => h) (Or.inl ⟨by rfl, ?_⟩) hHeld ?_
          rotate_left
          · (intro w hSw; (try dsimp only at hSw); go_simp) <;> with_reducible rfl
          (try simp only [Act.put, List.setIfInBounds_toArray, List.set_cons_zero, List.set_cons_succ, List.getElem_toArray, List.getElem_cons_zero, List.getElem_cons_succ])
          refine wpAnyH_take (i := 3) (v := ?_) rfl (by kernel_rfl) (by kernel_rfl) (by kernel_rfl) (fun _ _ _ h => h) (Or.inl ⟨by rfl, ?_⟩) hHeld ?_
          rotate_left
          · (intro w hSw; (try dsimp only at hSw); go_simp) <;> with_reducible rfl
          (try simp only [Act.put, List.setIfInBounds_toArray, List.set_cons_zero, List.set_cons_succ, List.getElem_toArray, List.getElem_cons_zero, List.getElem_cons_succ])
          refine wpAnyH_take (i := 4) (v := ?_) rfl (by kernel_rfl) (by kernel_rfl) (by kernel_rfl) (fun _ _ _ h => h) (Or.inl ⟨by rfl, ?_⟩) hHeld ?_
          rotate_left
          · (intro w hSw; (try dsimp only at hSw); go_simp) <;> with_reducible rfl
          (try simp only [Act.put, List.setIfInBounds_toArray, List.set_cons_zero, List.set_cons_succ, List.getElem_toArray, List.getElem_cons_zero, List.getElem_cons_succ])
          refine wpAnyH_take (i := 5) (v := ?_) rfl (by kernel_rfl) (by kernel_rfl) (by kernel_rfl) (fun _ _ _ h => h) (Or.inl ⟨by rfl, ?_⟩) hHeld ?_
          rotate_left
          · (intro w hSw; (try dsimp only at hSw); go_simp) <;> with_reducible rfl
          (try simp only [Act.put, List.setIfInBounds_toArray, List.set_cons_zero, List.set_cons_succ, List.getElem_toArray, List.getElem_cons_zero, List.getElem_cons_succ])
          refine wpAnyH_take (i := 6) (v := ?_) rfl (by kernel_rfl) (by kernel_rfl) (by kernel_rfl) (fun _ _ _ h => h) (Or.inl ⟨by rfl, ?_⟩) hHeld ?_
          rotate_left
          · (intro w hSw; (try dsimp only at hSw); go_simp) <;> with_reducible rfl
          (try simp only [Act.put, List.setIfInBounds_toArray, List.set_cons_zero, List.set_cons_succ, List.getElem_toArray, List.getElem_cons_zero, List.getElem_cons_succ])
          refine wpAnyH_take (i := 7) (v := ?_) rfl (by kernel_rfl) (by kernel_rfl) (by kernel_rfl) (fun _ _ _ h => h) (Or.inl ⟨by rfl, ?_⟩) hHeld ?_
          rotate_left
          · (intro w hSw; (try dsimp only at hSw); go_simp) <;> with_reducible rfl
          (try simp only [Act.put, List.setIfInBounds_toArray, List.set_cons_zero, List.set_cons_succ, List.getElem_toArray, List.getElem_cons_zero, List.getElem_cons_succ])
          refine wpAnyH_ready (rs := [0, 8]) (by kernel_rfl) (by simp) ?_
          refine AllReadyH.cons rfl (fun K hK => ?_) (AllReadyH.cons rfl (fun K hK => ?_) AllReadyH.nil)
          focus
            go_simp
            obtain ⟨u1, hu1⟩ : ∃ u, (w6.alloc (.cells #[] 53)).drew = u := ⟨_, rfl⟩
            rw [hu1]
            have gu1 : Grew w6 u1 := by rw [← hu1]; exact ((Chg.refl NoF w6).alloc _).drew
            have Gu1 := Lib.hid gu1
            have oe : u1.ownsRow w6.heap.size 53 2 (.slice (some ⟨w6.heap.size, 0, none⟩) 0 0) 0 [] := by rw [← hu1]; exact own_grew (World.ownsRow_lit w6 #[] 0 (Nat.le_refl _) (by simp [maxLen]) (by simp)) ((Chg.refl NoF _).drew)
            have Ou1 := Lib.hid oe
            clear gu1 oe hu1
            refine hK _ _ (HS.out _ Gu1.out) (fun _ => ?_)
            clear hK K
            (try simp only [Act.put, List.setIfInBounds_toArray, List.set_cons_zero, List.set_cons_succ, List.getElem_toArray, List.getElem_cons_zero, List.getElem_cons_succ])
            refine wpAnyH_ready (rs := [2, 8]) (by kernel_rfl) (by simp) ?_
            refine AllReadyH.cons rfl (fun K hK => ?_) (AllReadyH.cons rfl (fun K hK => ?_) AllReadyH.nil)
            focus
              obtain ⟨v, u2, hr, ho, ha⟩ := xrec_copy (A := A) (n := L.length) (c := c) (xs := (L.map HR.rw).flatMap Hrw.vals) Ou1.out Gu1.out.size (H6.out.1.grew Gu1.out).xs.sl Hrw.one (by omega) 43
              have HR2 := Lib.hid hr
              have Ou2 := Lib.hid ho
              have Gu2 := Lib.hid (ha.grow Gu1.out fun j hj => (Ou1.out.lt j hj).1)
              clear hr ho ha
              refine step_append_run (by rfl) (.tmp 76) (.tmp 77) 43 (by rfl) (by rfl) (by rfl) HR2.out ?_
              refine hK _ _ (HS.out _ Gu2.out) (fun _ => ?_)
              clear hK K
              (try simp only [Act.put, List.setIfInBounds_toArray, List.set_cons_zero, List.set_cons_succ, List.getElem_toArray, List.getElem_cons_zero, List.getElem_cons_succ])
              refine wpAnyH_ready (rs := [8]) (by kernel_rfl) (by simp) ?_
              refine AllReadyH.cons rfl (fun K hK => ?_) AllReadyH.nil
              go_simp
              obtain ⟨u3, hu3⟩ : ∃ u, (u2.alloc (.cells #[.int .i64 pl, .string (strOfNums t)] 53)) = u := ⟨_, rfl⟩
              rw [hu3]
              have gu3 : Grew u2 u3 := by rw [← hu3]; exact (Chg.refl _ _).alloc _
              have be : Blk u3 u2.heap.size 53 #[.int .i64 pl, .string (strOfNums t)] := by rw [← hu3]; exact Blk.new _ _ _
              have Bu3 := Lib.hid be
              have Gu3 := Lib.hid (Grew.trans Gu2.out gu3)
              have Ou3 := Lib.hid (own_grew Ou2.out gu3)
              clear gu3 be hu3
              refine hK _ _ (HS.out _ Gu3.out) (fun _ => ?_)
              clear hK K
              (try simp only [Act.put, List.setIfInBounds_toArray, List.set_cons_zero, List.set_cons_succ, List.getElem_toArray, List.getElem_cons_zero, List.getElem_cons_succ])
            rotate_left
            focus
              go_simp
              obtain ⟨u2, hu2⟩ : ∃ u, (u1.alloc (.cells #[.int .i64 pl, .string (strOfNums t)] 53)) = u := ⟨_, rfl⟩
              rw [hu2]
              have gu2 : Grew u1 u2 := by rw [← hu2]; exact (Chg.refl _ _).alloc _
              have be : Blk u2 u1.heap.size 53 #[.int .i64 pl, .string (strOfNums t)] := by rw [← hu2]; exact Blk.new _ _ _
              have Bu2 := Lib.hid be
              have Gu2 := Lib.hid (Grew.trans Gu1.out gu2)
              have Ou2 := Lib.hid (own_grew Ou1.out gu2)
              clear gu2 be hu2
              refine hK _ _ (HS.out _ Gu2.out) (fun _ => ?_)
              clear hK K
              (try simp only [Act.put, List.setIfInBounds_toArray, List.set_cons_zero, List.set_cons_succ, List.getElem_toArray, List.getElem_cons_zero, List.getElem_cons_succ])
              refine wpAnyH_ready (rs := [2]) (by kernel_rfl) (by simp) ?_
              refine AllReadyH.cons rfl (fun K hK => ?_) AllReadyH.nil
              obtain ⟨v, u3, hr, ho, ha⟩ := xrec_copy (A := A) (n := L.length) (c := c) (xs := (L.map HR.rw).flatMap Hrw.vals) Ou2.out Gu2.out.size (H6.out.1.grew Gu2.out).xs.sl Hrw.one (by omega) 43
              have HR2 := Lib.hid hr
              have Ou3 := Lib.hid ho
              have Gu3 := Lib.hid (ha.grow Gu2.out fun j hj => (Ou2.out.lt j hj).1)
              have Bu3 := Lib.hid (Bu2.out.chg ha.chg fun e => by simp [Value.ownBlock] at e; have := (Ou1.out.lt w6.heap.size rfl).2; omega)
              clear hr ho ha
              refine step_append_run (by rfl) (.tmp 76) (.tmp 77) 43 (by rfl) (by rfl) (by rfl) HR2.out ?_
              refine hK _ _ (HS.out _ Gu3.out) (fun _ => ?_)
              clear hK K
              (try simp only [Act.put, List.setIfInBounds_toArray, List.set_cons_zero, List.set_cons_succ, List.getElem_toArray, List.getElem_cons_zero, List.getElem_cons_succ])
            rotate_left
          rotate_right
          focus
            go_simp
            obtain ⟨u1, hu1⟩ : ∃ u, (w6.alloc (.cells #[.int .i64 pl, .string (strOfNums t)] 53)).drew = u := ⟨_, rfl⟩
            rw [hu1]
            have gu1 : Grew w6 u1 := by rw [← hu1]; exact ((Chg.refl NoF w6).alloc _).drew
            have be : Blk u1 w6.heap.size 53 #[.int .i64 pl, .string (strOfNums t)] := by rw [← hu1]; exact (Blk.new _ _ _).grew ((Chg.refl NoF _).drew)
            have Bu1 := Lib.hid be
            have Gu1 := Lib.hid gu1
            clear gu1 be hu1
            refine hK _ _ (HS.out _ Gu1.out) (fun _ => ?_)
            clear hK K
            (try simp only [Act.put, List.setIfInBounds_toArray, List.set_cons_zero, List.set_cons_succ, List.getElem_toArray, List.getElem_cons_zero, List.getElem_cons_succ])
            refine wpAnyH_ready (rs := [0]) (by kernel_rfl) (by simp) ?_
            refine AllReadyH.cons rfl (fun K hK => ?_) AllReadyH.nil
            go_simp
            obtain ⟨u2, hu2⟩ : ∃ u, (u1.alloc (.cells #[] 53)) = u := ⟨_, rfl⟩
            rw [hu2]
            have gu2 : Grew u1 u2 := by rw [← hu2]; exact (Chg.refl _ _).alloc _
            have Gu2 := Lib.hid (Grew.trans Gu1.out gu2)
            have oe : u2.ownsRow w6.heap.size 53 2 (.slice (some ⟨u1.heap.size, 0, none⟩) 0 0) 0 [] := by rw [← hu2]; exact World.ownsRow_lit u1 #[] 0 Gu1.out.size (by simp [maxLen]) (by simp)
            have Ou2 := Lib.hid oe
            have Bu2 := Lib.hid (Bu1.out.grew gu2)
            clear gu2 oe hu2
            refine hK _ _ (HS.out _ Gu2.out) (fun _ => ?_)
            clear hK K
            (try simp only [Act.put, List.setIfInBounds_toArray, List.set_cons_zero, List.set_cons_succ, List.getElem_toArray, List.getElem_cons_zero, List.getElem_cons_succ])
            refine wpAnyH_ready (rs := [2]) (by kernel_rfl) (by simp) ?_
            refine AllReadyH.cons rfl (fun K hK => ?_) AllReadyH.nil
            obtain ⟨v, u3, hr, ho, ha⟩ := xrec_copy (A := A) (n := L.length) (c := c) (xs := (L.map HR.rw).flatMap Hrw.vals) Ou2.out Gu2.out.size (H6.out.1.grew Gu2.out).xs.sl Hrw.one (by omega) 43
            have HR2 := Lib.hid hr
            have Ou3 := Lib.hid ho
            have Gu3 := Lib.hid (ha.grow Gu2.out fun j hj => (Ou2.out.lt j hj).1)
            have Bu3 := Lib.hid (Bu2.out.chg ha.chg fun e => by simp [Value.ownBlock] at e; have := Bu1.out.facts.2.2; omega)
            clear hr ho ha
            refine step_append_run (by rfl) (.tmp 76) (.tmp 77) 43 (by rfl) (by rfl) (by rfl) HR2.out ?_
            refine hK _ _ (HS.out _ Gu3.out) (fun _ => ?_)
            clear hK K
            (try simp only [Act.put, List.setIfInBounds_toArray, List.set_cons_zero, List.set_cons_succ, List.getElem_toArray, List.getElem_cons_zero, List.getElem_cons_succ])
          all_goals
            obtain ⟨v4, u4, hr, ho, ha⟩ := xrec_snoc (x := ⟨(pl : Int), strOfNums t⟩) Ou3.out Gu3.out.size Bu3.out (by omega) 43
            obtain ⟨A4, c4, rfl, -⟩ := own_shape ho
            have HR4 := Lib.hid hr
            have G4 := Lib.hid (ha.grow Gu3.out fun j hj => (Ou3.out.lt j hj).1)
            have O4 := Lib.hid ho
            clear hr ho ha
            refine wpAnyH_ready (rs := [9]) (by kernel_rfl) (by simp) ?_
            refine AllReadyH.cons rfl (fun K hK => ?_) AllReadyH.nil
            refine step_append_run (by rfl) (.tmp 78) (.tmp 84) 43 (by rfl) (by rfl) (by rfl) HR4.out ?_
            refine hK _ _ (HS.out _ G4.out) (fun _ => ?_)
            clear hK K
            (try simp only [Act.put, List.setIfInBounds_toArray, List.set_cons_zero, List.set_cons_succ, List.getElem_toArray, List.getElem_cons_zero, List.getElem_cons_succ])
            refine wpAnyH_take (i := 10) (v := ?_) rfl (by kernel_rfl) (by kernel_rfl) (by kernel_rfl) (fun _ _ _ h => h) (Or.inl ⟨by rfl, ?_⟩) (HS.out _ G4.out) ?_
            rotate_left
            · (intro w hSw; (try dsimp only at hSw); go_simp) <;> with_reducible rfl
            (try simp only [Act.put, List.setIfInBounds_toArray, List.set_cons_zero, List.set_cons_succ, List.getElem_toArray, List.getElem_cons_zero, List.getElem_cons_succ])
            refine wpAnyH_done (by kernel_rfl) ?_ _
            have HE := Lib.hid (show FuJ w u4 g gm p z (L ++ [⟨pl, t, pg⟩]) F3 P3 A4 ∧ HeapIn z P3 (L ++ [⟨pl, t, pg⟩]) [] ∧ x.begun.like z from ⟨H6.out.1.row (b := w6.heap.size) (c := c4) (L' := L ++ [⟨pl, t, pg⟩]) (Nat.le_refl _) G4.out (by
              rw [rw_app, List.flatMap_append, List.length_append]; simpa [HR.rw] using O4.out), H6.out.2.1, H6.out.2.2.1⟩)
            clear hHeld
            have HCm := Lib.hid (gp_commit p F3 z u4 HE.out.1.hm.k.gp (by rw [HE.out.2.2.was]; simp [Rp.begun]) (by rw [HE.out.2.2.epoch]; show x.epoch < 1099511627776; have := H3.out.2.2.2.2.2.2.2.2.2.2.1; omega))
            go_wp2_with fail
            refine HCm.out.mono ?_
            rintro e u8 ⟨rfl, hto⟩
            obtain ⟨F8, j8, -, -⟩ := HE.out.1.to hto
            have hsa := hsame_any g gm p F8 z.comm P3 (L ++ [⟨pl, t, pg⟩]) A4 c4 u8 j8.hm.k HE.out.2.1.comm (by simp; omega) j8.xs.sl (fun a ha => (j8.xs.ap a ha).1)
            simp only [List.length_append, List.length_cons, List.length_nil, Nat.zero_add] at hsa
            have H8 := Lib.hid (And.intro hsa j8)
            clear hto j8 hsa
            go_wp2_with fail
            refine H8.out.1.mono ?_
            rintro e u9 ⟨rfl, hk9, hc9⟩
            have H9 := Lib.hid (H8.out.2.kept hk9 hc9)
            clear hk9 hc9
            go_wp2_with fail
            go_roundg (l.length - (k + 1))
            case measure => omega
            case rel =>
              have q1 := Rp.comm_epoch z
              have q2 : z.epoch = x.epoch := HE.out.2.2.epoch
              have q3 := H3.out.2.2.2.2.2.2.2.2.2.2.1
              have q4 : z.sz = x.sz := HE.out.2.2.sz
              exact ⟨k + 1, g, gm, (L ++ [⟨pl, t, pg⟩]), F8, z.comm, P3, A4, c4, rfl, by omega, by simp, rfl, by simp, by simp; omega, H9.out, HE.out.2.1.comm, rfl, by show z.sz = 64; rw [q4]; exact H3.out.2.2.2.2.2.2.2.2.2.1, by omega⟩
        · have HE := Lib.hid (And.intro (H5.out.1.beside hg6 hc6 hn6 (by have := H5.out.2.1.hm.k.ne; omega) H5.out.2.2.2.1.1 H5.out.2.2.2.1.2 H5.out.2.2.2.2.1 H5.out.2.1.hm.mn) hlk6)
          clear hg6 hlk6 hc6 hn6 c5 f5 s5
          have HAb := Lib.hid (gp_abort p F3 z w6 HE.out.1.hm.k.gp (by rw [HE.out.2.was]; simp [Rp.begun]))
          go_wp2_with fail
          refine HAb.out.mono ?_
          rintro e u8 ⟨rfl, hto⟩
          obtain ⟨F8, j8, -, -⟩ := HE.out.1.to hto
          have hsa := hsame_any h m p F8 z.abort P L A c u8 j8.hm.k (H3.out.2.1.abort HE.out.2) (by omega) j8.xs.sl (fun a ha => (j8.xs.ap a ha).1)
          have H8 := Lib.hid (And.intro hsa j8)
          clear hto j8 hsa
          go_wp2_with fail
          refine H8.out.1.mono ?_
          rintro e u9 ⟨rfl, hk9, hc9⟩
          have H9 := Lib.hid (H8.out.2.kept hk9 hc9)
          clear hk9 hc9
          go_wp2_with fail
          go_roundg (l.length - (k + 1))
          case measure => omega
          case rel =>
            have q1 := like_abort_now HE.out.2
            have q3 := H3.out.2.2.2.2.2.2.2.2.2.2.1
            exact ⟨k + 1, h, m, L, F8, z.abort, P, A, c, rfl, by omega, by simp, rfl, rfl, by omega, H9.out, H3.out.2.1.abort HE.out.2, rfl, by rw [q1.2.1]; exact H3.out.2.2.2.2.2.2.2.2.2.1, by rw [q1.2.2.2]; omega⟩
      · have hjl := (List.getElem?_eq_some_iff.1 hjr).1
        obtain ⟨gx, ox, rfl, d0, -⟩ := H5.out.1.xs.at_ hjr
        have hd5 : w5.cell? ⟨wr.heap.size, 1, none⟩ = some (.int .i64 j) ∧ w5.cell? ⟨gx, ox + j * 2, none⟩ = some (.int .i64 r.place) := ⟨H5.out.2.2.1.cell 1, d0⟩
        have e3 : decide ((0 : Int) ≤ (j : Int)) = true := decide_eq_true (by omega)
        have e4 : decide ((j : Int) < (L.length : Int)) = true := decide_eq_true (by omega)
        have HJ := Lib.hid hjr
        clear d0 hjr
        go_wp2_with fail
        refine wp_region_held_drew (S := fun u => u.cell? ⟨wr.heap.size, 1, none⟩ = some (.int .i64 j) ∧ u.cell? ⟨gx, ox + j * 2, none⟩ = some (.int .i64 r.place)) (by kernel_rfl) hd5 (fun hHeld => ?_)
        refine wpAnyH_take (i := 0) (v := ?_) rfl (by kernel_rfl) (by kernel_rfl) (by kernel_rfl) (fun _ _ _ h => h) (Or.inl ⟨by rfl, ?_⟩) hHeld ?_
        rotate_left
        · (intro w hSw; (try dsimp only at hSw); go_simp) <;> with_reducible rfl
        (try simp only [Act.put, List.setIfInBounds_toArray, List.set_cons_zero, List.set_cons_succ, List.getElem_toArray, List.getElem_cons_zero, List.getElem_cons_succ])
        refine wpAnyH_take (i := 1) (v := ?_) rfl (by kernel_rfl) (by kernel_rfl) (by kernel_rfl) (fun _ _ _ h => h) (Or.inl ⟨by rfl, ?_⟩) hHeld ?_
        rotate_left
        · (intro w hSw; (try dsimp only at hSw); go_simp) <;> with_reducible rfl
        (try simp only [Act.put, List.setIfInBounds_toArray, List.set_cons_zero, List.set_cons_succ, List.getElem_toArray, List.getElem_cons_zero, List.getElem_cons_succ])
        refine wpAnyH_take (i := 2) (v := ?_) rfl (by kernel_rfl) (by kernel_rfl) (by kernel_rfl) (fun _ _ _ h => h) (Or.inl ⟨by rfl, ?_⟩) hHeld ?_
        rotate_left
        · (intro w hSw; (try dsimp only at hSw); go_simp) <;> with_reducible rfl
        (try simp only [Act.put, List.setIfInBounds_toArray, List.set_cons_zero, List.set_cons_succ, List.getElem_toArray, List.getElem_cons_zero, List.getElem_cons_succ])
        refine wpAnyH_take (i := 4) (v := ?_) rfl (by kernel_rfl) (by kernel_rfl) (by kernel_rfl) (fun _ _ _ h => h) (Or.inl ⟨by rfl, ?_⟩) hHeld ?_
        rotate_left
        · (intro w hSw; (try dsimp only at hSw); go_simp) <;> with_reducible rfl
        (try simp only [Act.put, List.setIfInBounds_toArray, List.set_cons_zero, List.set_cons_succ, List.getElem_toArray, List.getElem_cons_zero, List.getElem_cons_succ])
        refine wpAnyH_take (i := 5) (v := ?_) rfl (by kernel_rfl) (by kernel_rfl) (by kernel_rfl) (fun _ _ _ h => h) (Or.inl ⟨by rfl, ?_⟩) hHeld ?_
        rotate_left
        · (intro w hSw; (try dsimp only at hSw); go_simp) <;> with_reducible rfl
        (try simp only [Act.put, List.setIfInBounds_toArray, List.set_cons_zero, List.set_cons_succ, List.getElem_toArray, List.getElem_cons_zero, List.getElem_cons_succ])
        refine wpAnyH_take (i := 6) (v := ?_) rfl (by kernel_rfl) (by kernel_rfl) (by kernel_rfl) (fun _ _ _ h => h) (Or.inl ⟨by rfl, ?_⟩) hHeld ?_
        rotate_left
        · (intro w hSw; (try dsimp only at hSw); go_simp) <;> with_reducible rfl
        (try simp only [Act.put, List.setIfInBounds_toArray, List.set_cons_zero, List.set_cons_succ, List.getElem_toArray, List.getElem_cons_zero, List.getElem_cons_succ])
        refine wpAnyH_take (i := 7) (v := ?_) rfl (by kernel_rfl) (by kernel_rfl) (by kernel_rfl) (fun _ _ _ h => h) (Or.inl ⟨by rfl, ?_⟩) hHeld ?_
        rotate_left
        · (intro w hSw; (try dsimp only at hSw); go_simp) <;> with_reducible rfl
        (try simp only [Act.put, List.setIfInBounds_toArray, List.set_cons_zero, List.set_cons_succ, List.getElem_toArray, List.getElem_cons_zero, List.getElem_cons_succ])
        refine wpAnyH_take (i := 8) (v := ?_) rfl (by kernel_rfl) (by kernel_rfl) (by kernel_rfl) (fun _ _ _ h => h) (Or.inl ⟨by rfl, ?_⟩) hHeld ?_
        rotate_left
        · (intro w hSw; (try dsimp only at hSw); go_simp) <;> with_reducible rfl
        (try simp only [Act.put, List.setIfInBounds_toArray, List.set_cons_zero, List.set_cons_succ, List.getElem_toArray, List.getElem_cons_zero, List.getElem_cons_succ])
        refine wpAnyH_take (i := 9) (v := ?_) rfl (by kernel_rfl) (by kernel_rfl) (by kernel_rfl) (fun _ _ _ h => h) (Or.inl ⟨by rfl, ?_⟩) hHeld ?_
        rotate_left
        · (intro w hSw; (try dsimp only at hSw); go_simp) <;> with_reducible rfl
        (try simp only [Act.put, List.setIfInBounds_toArray, List.set_cons_zero, List.set_cons_succ, List.getElem_toArray, List.getElem_cons_zero, List.getElem_cons_succ])
        refine wpAnyH_take (i := 10) (v := ?_) rfl (by kernel_rfl) (by kernel_rfl) (by kernel_rfl) (fun _ _ _ h => h) (Or.inl ⟨by rfl, ?_⟩) hHeld ?_
        rotate_left
        · (intro w hSw; (try dsimp only at hSw); go_simp) <;> with_reducible rfl
        (try simp only [Act.put, List.setIfInBounds_toArray, List.set_cons_zero, List.set_cons_succ, List.getElem_toArray, List.getElem_cons_zero, List.getElem_cons_succ])
        refine wpAnyH_ready (rs := [3]) (by kernel_rfl) (by simp) ?_
        refine AllReadyH.cons rfl (fun K hK => ?_) AllReadyH.nil
        go_simp
        have hgd := (Chg.refl NoF w5).drew
        refine (xhwithout_rw j L _ c w5.drew (H5.out.1.xs.grew hgd).sl (by omega) hjl).mono ?_
        rintro e w6 ⟨A6, c6, rfl, ho6, hg6⟩
        have hg56 : Grew w5 w6 := Grew.trans hgd hg6
        have j6 := H5.out.1.grew hg56
        have jr := (H5.out.2.1.grew hgd).row (Nat.le_refl _) hg6 ho6
        have hd6 : w6.cell? ⟨wr.heap.size, 1, none⟩ = some (.int .i64 j) ∧ w6.cell? ⟨gx, ox + j * 2, none⟩ = some (.int .i64 r.place) := by
          refine ⟨(H5.out.2.2.1.grew hg56).cell 1, ?_⟩
          obtain ⟨_, _, e1, e2, -⟩ := j6.xs.at_ HJ.out
          cases e1
          exact e2
        have HDl := Lib.hid (hdel_any g gm p j F2 x.begun P L r w6 jr.hm.k H3.out.2.1.begun (by simp [Rp.begun]) HJ.out)
        have H6 := Lib.hid (And.intro j6 (And.intro jr (H5.out.2.2.1.grew hg56)))
        clear ho6 hg6 hg56 j6 jr hgd
        refine hK.out _ _ hd6 (fun _ => ?_)
        clear hK K
        (try simp only [Act.put, List.setIfInBounds_toArray, List.set_cons_zero, List.set_cons_succ, List.getElem_toArray, List.getElem_cons_zero, List.getElem_cons_succ])
        refine wpAnyH_ready (rs := [11]) (by kernel_rfl) (by simp) ?_
        refine AllReadyH.cons rfl (fun K hK => ?_) AllReadyH.nil
        go_simp
        refine HDl.out.mono ?_
        rintro e w7 (⟨z, F7, P7, rfl, hk7, hin7, hlk7, -, hc7, hn7⟩ | ⟨rfl, z, F7, hg7, hlk7, hc7, hn7, -⟩)
        · have jo := H6.out.1.beside hk7.gp hc7 hn7 (by have := H5.out.2.1.hm.k.ne; omega) H5.out.2.2.2.1.1 H5.out.2.2.2.1.2 H5.out.2.2.2.2.1 H5.out.2.1.hm.mn
          have hd7 : w7.cell? ⟨wr.heap.size, 1, none⟩ = some (.int .i64 j) ∧ w7.cell? ⟨gx, ox + j * 2, none⟩ = some (.int .i64 r.place) := by
            refine ⟨(H6.out.2.2.chg hc7 fun e => e.elim H5.out.2.2.2.2.2.2 H5.out.2.2.2.2.2.1).cell 1, ?_⟩
            obtain ⟨_, _, e1, e2, -⟩ := jo.xs.at_ HJ.out
            cases e1
            exact e2
          have HE := Lib.hid (And.intro (H6.out.2.1.turn hk7 hc7 hn7) (And.intro hin7 hlk7))
          clear hk7 hin7 hlk7 hc7 hn7 jo c5 f5 s5
          refine hK.out _ _ hd7 (fun _ => ?_)
          clear hK K
          (try simp only [Act.put, List.setIfInBounds_toArray, List.set_cons_zero, List.set_cons_succ, List.getElem_toArray, List.getElem_cons_zero, List.getElem_cons_succ])
          refine wpAnyH_take (i := 12) (v := ?_) rfl (by kernel_rfl) (by kernel_rfl) (by kernel_rfl) (fun _ _ _ h => h) (Or.inl ⟨by rfl, ?_⟩) hd7 ?_
          rotate_left
          · (intro w hSw; (try dsimp only at hSw); go_simp) <;> with_reducible rfl
          (try simp only [Act.put, List.setIfInBounds_toArray, List.set_cons_zero, List.set_cons_succ, List.getElem_toArray, List.getElem_cons_zero, List.getElem_cons_succ])
          refine wpAnyH_take (i := 13) (v := ?_) rfl (by kernel_rfl) (by kernel_rfl) (by kernel_rfl) (fun _ _ _ h => h) (Or.inl ⟨by rfl, ?_⟩) hd7 ?_
          rotate_left
          · (intro w hSw; (try dsimp only at hSw); go_simp) <;> with_reducible rfl
          (try simp only [Act.put, List.setIfInBounds_toArray, List.set_cons_zero, List.set_cons_succ, List.getElem_toArray, List.getElem_cons_zero, List.getElem_cons_succ])
          refine wpAnyH_done (by kernel_rfl) ?_ _
          clear hHeld hd5 hd6 hd7
          have HCm := Lib.hid (gp_commit p F7 z w7 HE.out.1.hm.k.gp (by rw [HE.out.2.2.was]; simp [Rp.begun]) (by rw [HE.out.2.2.epoch]; show x.epoch < 1099511627776; have := H3.out.2.2.2.2.2.2.2.2.2.2.1; omega))
          go_wp2_with fail
          refine HCm.out.mono ?_
          rintro e u8 ⟨rfl, hto⟩
          obtain ⟨F8, j8, -, -⟩ := HE.out.1.to hto
          have hsa := hsame_any g gm p F8 z.comm P7 (L.eraseIdx j) A6 c6 u8 j8.hm.k HE.out.2.1.comm (by have := List.length_eraseIdx_le L j; omega) j8.xs.sl (fun a ha => (j8.xs.ap a ha).1)
          clear HDl
          have H8 := Lib.hid (And.intro hsa j8)
          clear hto j8 hsa
          go_wp2_with fail
          refine H8.out.1.mono ?_
          rintro e u9 ⟨rfl, hk9, hc9⟩
          have H9 := Lib.hid (H8.out.2.kept hk9 hc9)
          clear hk9 hc9
          go_wp2_with fail
          go_roundg (l.length - (k + 1))
          case measure => omega
          case rel =>
            have q1 := Rp.comm_epoch z
            have q2 : z.epoch = x.epoch := HE.out.2.2.epoch
            have q3 := H3.out.2.2.2.2.2.2.2.2.2.2.1
            have q4 : z.sz = x.sz := HE.out.2.2.sz
            exact ⟨k + 1, g, gm, (L.eraseIdx j), F8, z.comm, P7, A6, c6, rfl, by omega, by simp, rfl, rfl, by have := List.length_eraseIdx_le L j; omega, H9.out, HE.out.2.1.comm, rfl, by show z.sz = 64; rw [q4]; exact H3.out.2.2.2.2.2.2.2.2.2.1, by omega⟩
        · have jo := H6.out.1.beside hg7 hc7 hn7 (by have := H5.out.2.1.hm.k.ne; omega) H5.out.2.2.2.1.1 H5.out.2.2.2.1.2 H5.out.2.2.2.2.1 H5.out.2.1.hm.mn
          have hd7 : w7.cell? ⟨wr.heap.size, 1, none⟩ = some (.int .i64 j) ∧ w7.cell? ⟨gx, ox + j * 2, none⟩ = some (.int .i64 r.place) := by
            refine ⟨(H6.out.2.2.chg hc7 fun e => e.elim H5.out.2.2.2.2.2.2 H5.out.2.2.2.2.2.1).cell 1, ?_⟩
            obtain ⟨_, _, e1, e2, -⟩ := jo.xs.at_ HJ.out
            cases e1
            exact e2
          have HE := Lib.hid (And.intro jo hlk7)
          clear hg7 hlk7 hc7 hn7 jo c5 f5 s5
          refine hK.out _ _ hd7 (fun _ => ?_)
          clear hK K
          (try simp only [Act.put, List.setIfInBounds_toArray, List.set_cons_zero, List.set_cons_succ, List.getElem_toArray, List.getElem_cons_zero, List.getElem_cons_succ])
          refine wpAnyH_take (i := 12) (v := ?_) rfl (by kernel_rfl) (by kernel_rfl) (by kernel_rfl) (fun _ _ _ h => h) (Or.inl ⟨by rfl, ?_⟩) hd7 ?_
          rotate_left
          · (intro w hSw; (try dsimp only at hSw); go_simp) <;> with_reducible rfl
          (try simp only [Act.put, List.setIfInBounds_toArray, List.set_cons_zero, List.set_cons_succ, List.getElem_toArray, List.getElem_cons_zero, List.getElem_cons_succ])
          refine wpAnyH_take (i := 13) (v := ?_) rfl (by kernel_rfl) (by kernel_rfl) (by kernel_rfl) (fun _ _ _ h => h) (Or.inl ⟨by rfl, ?_⟩) hd7 ?_
          rotate_left
          · (intro w hSw; (try dsimp only at hSw); go_simp) <;> with_reducible rfl
          (try simp only [Act.put, List.setIfInBounds_toArray, List.set_cons_zero, List.set_cons_succ, List.getElem_toArray, List.getElem_cons_zero, List.getElem_cons_succ])
          refine wpAnyH_done (by kernel_rfl) ?_ _
          clear hHeld hd5 hd6 hd7
          have HAb := Lib.hid (gp_abort p F7 z w7 HE.out.1.hm.k.gp (by rw [HE.out.2.was]; simp [Rp.begun]))
          go_wp2_with fail
          refine HAb.out.mono ?_
          rintro e u8 ⟨rfl, hto⟩
          obtain ⟨F8, j8, -, -⟩ := HE.out.1.to hto
          have hsa := hsame_any h m p F8 z.abort P L (some ⟨gx, ox, none⟩) c u8 j8.hm.k (H3.out.2.1.abort HE.out.2) (by omega) j8.xs.sl (fun a ha => (j8.xs.ap a ha).1)
          have H8 := Lib.hid (And.intro hsa j8)
          clear hto j8 hsa
          go_wp2_with fail
          refine H8.out.1.mono ?_
          rintro e u9 ⟨rfl, hk9, hc9⟩
          have H9 := Lib.hid (H8.out.2.kept hk9 hc9)
          clear hk9 hc9
          go_wp2_with fail
          go_roundg (l.length - (k + 1))
          case measure => omega
          case rel =>
            have q1 := like_abort_now HE.out.2
            have q3 := H3.out.2.2.2.2.2.2.2.2.2.2.1
            exact ⟨k + 1, h, m, L, F8, z.abort, P, (some ⟨gx, ox, none⟩), c, rfl, by omega, by simp, rfl, rfl, by omega, H9.out, H3.out.2.1.abort HE.out.2, rfl, by rw [q1.2.1]; exact H3.out.2.2.2.2.2.2.2.2.2.1, by rw [q1.2.2.2]; omega⟩
      all_goals
        have HE := Lib.hid (show FuJ w w5 g gm p x.begun L F2 P A ∧ HeapIn x.begun P L [] ∧ x.begun.like x.begun from ⟨H5.out.2.1, H3.out.2.1.begun, .refl _⟩)
        have HCm := Lib.hid (gp_commit p F2 x.begun w5 HE.out.1.hm.k.gp (by rw [HE.out.2.2.was]; simp [Rp.begun]) (by rw [HE.out.2.2.epoch]; show x.epoch < 1099511627776; have := H3.out.2.2.2.2.2.2.2.2.2.2.1; omega))
        go_wp2_with fail
        refine HCm.out.mono ?_
        rintro e u8 ⟨rfl, hto⟩
        obtain ⟨F8, j8, -, -⟩ := HE.out.1.to hto
        have hsa := hsame_any g gm p F8 x.begun.comm P L A c u8 j8.hm.k HE.out.2.1.comm (by omega) j8.xs.sl (fun a ha => (j8.xs.ap a ha).1)
        clear c5 f5 s5
        have H8 := Lib.hid (And.intro hsa j8)
        clear hto j8 hsa
        go_wp2_with fail
        refine H8.out.1.mono ?_
        rintro e u9 ⟨rfl, hk9, hc9⟩
        have H9 := Lib.hid (H8.out.2.kept hk9 hc9)
        clear hk9 hc9
        go_wp2_with fail
        go_roundg (l.length - (k + 1))
        case measure => omega
        case rel =>
          have q1 := Rp.comm_epoch x.begun
          have q2 : x.begun.epoch = x.epoch := HE.out.2.2.epoch
          have q3 := H3.out.2.2.2.2.2.2.2.2.2.2.1
          have q4 : x.begun.sz = x.sz := HE.out.2.2.sz
          exact ⟨k + 1, g, gm, L, F8, x.begun.comm, P, A, c, rfl, by omega, by simp, rfl, rfl, by omega, H9.out, HE.out.2.1.comm, rfl, by show x.begun.sz = 64; rw [q4]; exact H3.out.2.2.2.2.2.2.2.2.2.1, by omega⟩
    · obtain rfl : k = l.length := by omega
      have hsa := hsame_any h m p F x P L A c wr hJ.hm.k hx (by omega) hJ.xs.sl (fun a ha => (hJ.xs.ap a ha).1)
      have HJ := Lib.hid (And.intro hsa hJ)
      clear hsa hJ hlt hk hx hwas hsz hep
      go_wp2_with fail
      refine HJ.out.1.mono ?_
      rintro e w5 ⟨rfl, hk5, hc5⟩
      have H6 := Lib.hid (HJ.out.2.kept hk5 hc5).hm.gr
      clear hk5 hc5
      go_wp2_with fail
      refine (HA.out _ H6.out).mono ?_
      rintro e w7 ⟨rfl, hg7⟩
      have H7 := Lib.hid (Grew.trans H6.out hg7)
      clear hg7
      go_wp2_with fail
      go_ret
      exact ⟨rfl, H7.out⟩
end Go.Proofs.YtjkkoogfaibhiaaGreatDoor

/- The laws: the table that the rows list, in a walk's words; a world that meets it. -/
namespace Go.Proofs.YtjkkoogfaibhiaaGreatDoor
open Go.RowKit

def tabI : List Int := tab.map Int.ofNat
/-- The listed variable's name. -/
def laidName : String := Rows.heapLongRow.named.headD (toString 0)
theorem laid_is {H : Type} : (Rows.laid_math_bits_deBruijn64tab : DataW H) = Lib.tabData .u8 tabI := rfl
theorem tab_of_laid {W : World} (h : laidMetH Tryz.prog Rows.heapLongRow.laid W) : TabAt 0 tab W := by
  have h' : laidMet Tryz.prog [(laidName, Lib.tabData .u8 tabI)] W := h
  have hg : Tryz.prog.globalNamed laidName = some 0 := by kernel_rfl
  have ht := Lib.tabIs_of_head (t := 183) (e := 5) (n := 64) hg (by kernel_rfl) Tryz.underlying183 Tryz.underlying5 (by kernel_rfl) (by kernel_rfl) h'
  intro j hj
  have := ht.cell hg j (by simpa [tabI] using hj)
  rw [this]
  congr 2
  unfold tabI
  rw [List.getD_eq_getElem?_getD, List.getElem?_map, List.getD_eq_getElem?_getD]
  cases tab[j]? <;> rfl

noncomputable def laidWorld (os : Os) : World :=
  { World.holding Tryz.prog os ⟨#[], #[], []⟩ with heap := (World.holding Tryz.prog os ⟨#[], #[], []⟩).heap.modify 0 fun
      | .cells _ t frozen => .cells (tabI.map fun z => Value.int .u8 z).toArray t frozen
      | o => o }
theorem laidWorld_met (os : Os) (args : Array Value) : laidMetH Tryz.prog Rows.heapLongRow.laid ((laidWorld os).forCall (fun _ _ => 0) ⟨#[], args, []⟩).memory :=
  laidMetH_of_parts (laidMet_of_run' 8 (by kernel_rfl) (by kernel_rfl)) (by kernel_rfl)

end Go.Proofs.YtjkkoogfaibhiaaGreatDoor

namespace Go.Proofs.YtjkkoogfaibhiaaGreatDoor
open Go.ChangeShapes Go.WideShapes Go.ChangeAt Go.RowKit
set_option linter.unusedVariables false

theorem hfull_walk (w : World) (hT : TabAt 0 tab w) (size : Int) (hz : -9223372036854775808 ≤ size ∧ size ≤ 9223372036854775807) (A : Option Addr) (c : Nat) (l : List Hop) (hm : l.length ≤ maxLen) (hs : Sl w 3 A l.length (l.flatMap Hop.vals)) (ok : ∀ r ∈ l, r.ok w) :
    Calls Tryz.prog 5 #[.int .i64 size, .slice A l.length c] w fun e w' => e = .returned (.bool true) ∧ Grew w w' := by
  unfold maxLen at hm
  by_cases h : size < 8 ∨ 40 < size ∨ smallB l 50 = false
  · exact hfull_out w hT A c l size hz (by omega) hs ok h
  · obtain ⟨sz, rfl⟩ : ∃ sz : Nat, size = sz := ⟨size.toNat, by omega⟩
    exact hfull_in w hT A c l sz (by omega) (by omega) (by omega) hs ok (by
      cases hb : smallB l 50 with
      | true => rfl
      | false => exact (h (.inr (.inr hb))).elim)

namespace lawHeapFull
theorem own : ownKnob Tryz.prog.godebug = none := by kernel_rfl
theorem laidOut : laidOutB Tryz.prog = true := by kernel_rfl
set_option maxRecDepth 100000 in
theorem lifted (os : Os) (started : os.Started) (H : Type) (enc : TypeId × Value → H) :
    ReturnsInHanded {} Tryz.checked os 5 .any (fun w args => (Rows.heapFullSpec.pre enc Tryz.prog Tryz.f5 [] false w args ∧ laidMetH Tryz.prog Rows.heapFullRow.laid w) ∧ sizedMet enc Tryz.prog Tryz.f5 (OpenSpec.ofChange Rows.heapFullSpec) false w args) (Rows.heapFullSpec.post enc Tryz.prog Tryz.f5 false true false false) := by
  refine returnsInHanded_of_change_and (C := Tryz.checked) (X := fun w _ => laidMetH Tryz.prog Rows.heapFullRow.laid w) (fun _ _ _ hh h => h.of_heap hh) own started (by kernel_rfl) Tryz.func5
    (ChangeSpec.witness_at (enc := enc) (C := Tryz.checked) (os := os) (X := fun w _ => laidMetH Tryz.prog Rows.heapFullRow.laid w) false (laidWorld os) #[.int .i64 0, .slice none 0 0] 8 rfl (by kernel_rfl) (by kernel_rfl) (by kernel_rfl) (by kernel_rfl) (by kernel_rfl) (laidWorld_met os _)) ?_
  intro W base args ds gs before hval0 hW _ _ hL0 _
  have hL : laidMetH Tryz.prog Rows.heapFullRow.laid W := hL0
  have hT0 := tab_of_laid hL
  have hval : ∀ (j : Nat) t v, Tryz.f5.params[j]? = some t → args[j]? = some v → Value.okWide Tryz.prog W .any base t v := hval0
  have hW1 := hW
  obtain ⟨p, q, hA0, hV, rfl, hfz, hnd⟩ := hW
  have hA : DataW.TrodAll enc Tryz.prog W 0 (fun _ => true) true Tryz.f5.params.toList args.toList ds p := hA0
  rw [Tryz.params5] at hA hval
  obtain ⟨v0, vs0, d0, ds0, p0, q0, hargs, rfl, rfl, h0, r0⟩ := trodAll_cons hA
  obtain ⟨v1, vs1, d1, ds1, p1, q1, rfl, rfl, rfl, h1, r1⟩ := trodAll_cons r0
  obtain ⟨rfl, rfl, rfl⟩ := trodAll_nil r1
  obtain rfl : args = #[v0, v1] := by cases args; simp_all
  obtain ⟨rfl, rfl⟩ := trodVars_none hV
  obtain ⟨a0, rfl, rfl, rfl, w0⟩ := open_int Tryz.underlying3 (hval 0 3 v0 rfl rfl) h0
  obtain ⟨A1, n1, c1, rfl⟩ := okWide_slice Tryz.underlying41 (hval 1 41 v1 rfl rfl)
  have k1 := h1
  have lt1 : ∀ x ∈ p1, x.block < W.heap.size := by obtain ⟨m, hm⟩ := k1; exact DataW.trod_lt m _ _ _ hm
  obtain ⟨fu1, hf1⟩ := h1
  obtain ⟨l1, rfl, hm1, hs1, ok1⟩ := Hop.opened (by simpa [Value.cells] using hf1)
  clear hA0 hval0
  refine (hfull_walk W hT0 a0 (wf_bounds w0) A1 c1 l1 hm1 hs1 ok1).mono fun e W1 ⟨he, hg⟩ => ?_
  subst he
  have bel := hg.below
  exact ⟨_, rfl, _, _, _, [], _, [], hW1, trodAll_mk1 (shut_bool Tryz.underlying4 _), (trodAll_cons_mk (shut_int Tryz.underlying3 w0) (trodAll_cons_mk (Below.trod laidOut (by kernel_rfl) (of_decide_eq_true (by kernel_rfl)) k1 bel lt1) trodAll_mk0)), rfl, bel.frame _, fun h => by cases h⟩
theorem over : Rows.heapFullRow.holds Tryz.pinned (OpenSpec.ofChange Rows.heapFullSpec) :=
  OpenClaim.holds_of_wide 5 Tryz.f5 rfl rfl rfl rfl rfl rfl rfl ⟨rfl, rfl, rfl, rfl, rfl⟩ rfl rfl rfl rfl rfl (by kernel_rfl) Tryz.func5 (by kernel_rfl)
    (of_decide_eq_true (by kernel_rfl)) (by unfold Func.isWrapper; first | (rw [if_pos (by decide +kernel)]; kernel_rfl) | (rw [if_neg (by decide +kernel)]; exact ⟨rfl, rfl⟩))
    (fun os started H enc _ => lifted os started H enc)
/-- The statement, a card whose listed variable is tied to the program. -/
theorem proved : Rows.HeapFullCardSaid :=
  Claim7.holds_tied_plain_at .later [] [.data] true Rows.heapFullCard.stood.harness Rows.heapFullCard.stood.looks over (fun _ h => by cases h) (by kernel_rfl) (fun _ h => by cases h) heapFull_row_tie rfl ⟨rfl, rfl⟩ (by kernel_rfl) rfl
    (fun f fn hf hfn => by
      obtain rfl : f = 5 := Option.some.inj ((show Tryz.prog.funcNamed Rows.heapFullRow.func = some 5 by kernel_rfl).symm.trans hf) |>.symm
      obtain rfl : fn = Tryz.f5 := (Option.some.inj (Tryz.func5.symm.trans hfn)).symm
      refine ⟨by kernel_rfl, fun j t ht => ?_⟩
      have hall : ∀ t ∈ Tryz.f5.params.toList, Tryz.prog.wantsStandIn t = false := by
        rw [Tryz.params5]
        intro t ht
        simp only [List.mem_cons, List.not_mem_nil, or_false] at ht
        rcases ht with rfl | rfl <;> kernel_rfl
      exact hall t (by rw [Array.mem_toList_iff]; exact Array.mem_of_getElem? ht))
    (by kernel_rfl)
#print axioms proved
end lawHeapFull

end Go.Proofs.YtjkkoogfaibhiaaGreatDoor
