/- The queue: its items sorted by the library. -/
import Derived.Test.YtjpkpckgkhbfpaaQueXa
import Derived.Test.YtjpkpckgkhbfpaaQueLay
namespace Go.Proofs.Ytjpkpckgkhbfpaa
open Go.RowKit Go.Maps Go.Shelf Go.Sort

instance : Inhabited Itm := ⟨Itm.zero⟩

theorem flat_itm (l : List Itm) : (flatK Itm.vals 3 l.toArray).toList = l.flatMap Itm.vals := by
  apply List.ext_getElem?
  intro t
  by_cases ht : t < l.length * 3
  · have hk : t / 3 < l.length := by omega
    obtain ⟨x, hx⟩ : ∃ x, l[t / 3]? = some x := ⟨_, List.getElem?_eq_getElem hk⟩
    have h1 := Itm.vals_at l (t / 3) x hx (t % 3) (by omega)
    rw [show t / 3 * 3 + t % 3 = t by omega] at h1
    rw [h1]
    have hxe : l.toArray[t / 3]! = x := by
      rw [getElem!_pos l.toArray (t / 3) (by simpa using hk)]
      simpa using (List.getElem?_eq_some_iff.1 hx).2
    rw [Array.getElem?_toList]
    simp only [flatK, Array.getElem?_map, List.size_toArray]
    rw [Array.getElem?_range, if_pos ht]
    simp only [Option.map_some, hxe]
    have h3 : t % 3 < x.vals.length := by simp [Itm.vals]; omega
    rw [List.getElem?_eq_getElem h3, getElem!_pos x.vals _ h3]
  · rw [List.getElem?_eq_none (by simp; omega), List.getElem?_eq_none (by rw [Itm.vals_len]; omega)]

/-- What a row of items holds is held, as the library's sort asks it. -/
theorem holds_itm {w : World} {base g cap : Nat} {e : TypeId} {l : List Itm} (h : w.ownsRow base e 3 (.slice (some ⟨g, 0, none⟩) l.length cap) l.length (l.flatMap Itm.vals)) : HoldsK Itm.vals 3 w g 0 l.toArray := by
  obtain ⟨cur, hb, hg, hnc, hcm, hcs, htake, hxl⟩ := own_row h
  intro j hj
  have hj' : j < l.length * 3 := by simpa using hj
  have h1 : (flatK Itm.vals 3 l.toArray)[j]? = (l.flatMap Itm.vals)[j]? := by rw [← flat_itm, Array.getElem?_toList]
  have h2 : cur[j]? = (l.flatMap Itm.vals)[j]? := by rw [← htake, List.getElem?_take_of_lt hj', Array.getElem?_toList]
  refine ⟨?_, by simp [World.frozen?, hg]⟩
  rw [Nat.zero_add, (show Blk w g e cur from hg).cell, h2, ← h1, getElem!_pos _ j hj]
  simp [hj]

theorem putCells_take {cur F : Array Value} (h : F.size ≤ cur.size) : (putCells id 0 F cur).toList.take F.size = F.toList := by
  apply List.ext_getElem?
  intro j
  by_cases hj : j < F.size
  · rw [List.getElem?_take_of_lt hj, Array.getElem?_toList]
    simp [putCells, hj, show j < cur.size by omega]
  · rw [List.getElem?_take_eq_none (by omega), List.getElem?_eq_none (by simp; omega)]

/-- Behind the sort the same slice owns what it laid there. -/
theorem own_sorted {w : World} {base g cap n : Nat} {e : TypeId} {os : Array Obj} {l s : List Itm} (h : w.ownsRow base e 3 (.slice (some ⟨g, 0, none⟩) l.length cap) l.length (l.flatMap Itm.vals)) (hl : s.length = l.length) :
    (sortWorldK Itm.vals 3 w g 0 n s.toArray os).ownsRow base e 3 (.slice (some ⟨g, 0, none⟩) l.length cap) l.length (s.flatMap Itm.vals) ∧ w.grownBy (sortWorldK Itm.vals 3 w g 0 n s.toArray os) (some g) := by
  obtain ⟨cur, hb, hg, hnc, hcm, hcs, htake, hxl⟩ := own_row h
  have hgl : g < w.heap.size := (Array.getElem?_eq_some_iff.1 hg).1
  have hns : l.length * 3 ≤ cap * 3 := Nat.mul_le_mul_right _ hnc
  have hF : (flatK Itm.vals 3 s.toArray).size = l.length * 3 := by simp [hl]
  have hh : (sortWorldK Itm.vals 3 w g 0 n s.toArray os).heap[g]? = some (.cells (putCells id 0 (flatK Itm.vals 3 s.toArray) cur) e (0, 0)) := by
    unfold sortWorldK putRowK
    rw [heap_grow_old _ _ (by simpa [putRow, mapBlock, Sort.ahead] using hgl)]
    simp [putRow, mapBlock, Sort.ahead, Array.getElem?_modify, hg, onCells]
  refine ⟨⟨by rw [Itm.vals_len, hl], .inr ⟨g, cap, _, rfl, hb, hh, hnc, hcm, by simp [putCells, hcs], ?_⟩⟩, rfl, rfl, rfl, by simp [sortWorldK, putRowK, putRow, mapBlock, Sort.ahead, grow], fun k hk hne => ?_⟩
  · rw [← hF, putCells_take (by rw [hF]; omega), flat_itm]
  · unfold sortWorldK putRowK
    rw [heap_grow_old _ _ (by simpa [putRow, mapBlock, Sort.ahead] using hk)]
    have : g ≠ k := fun e => hne (by rw [e])
    simp [putRow, mapBlock, Sort.ahead, Array.getElem?_modify, this]

theorem lt_ord (x y : Itm) : ltOf Itm.ord x y = decide (x.lt y) := by
  unfold ltOf
  exact decide_eq_decide.2 (ord_iff x y)
theorem swo_ord : SWO (ltOf Itm.ord) where
  irrefl x := by rw [lt_ord]; exact decide_eq_false (Itm.lt_irrefl x)
  trans x y z h1 h2 := by
    rw [lt_ord] at *
    exact decide_eq_true (Itm.lt_trans (of_decide_eq_true h1) (of_decide_eq_true h2))
  ntrans x y z h1 h2 := by
    rw [lt_ord] at *
    exact decide_eq_false (Itm.le_trans (of_decide_eq_false h2) (of_decide_eq_false h1))

set_option maxHeartbeats 800000 in
/-- The closure that All hands to the sort. -/
theorem less_any (x y : Itm) (w : World) : Calls Try.prog 66 #[(.agg #[.int .i64 x.n, .int .i64 x.due, .int .i64 x.v]), (.agg #[.int .i64 y.n, .int .i64 y.due, .int .i64 y.v])] w fun e w' => e = .returned (.int .i64 (x.ord y)) ∧ ∃ q os', w' = grow (w.drewN q) os' := by
  obtain ⟨W, hW⟩ : ∃ W, (w.alloc (.cells #[.int .i64 x.n, .int .i64 x.due, .int .i64 x.v] 97)).alloc (.cells #[.int .i64 y.n, .int .i64 y.due, .int .i64 y.v] 97) = W := ⟨_, rfl⟩
  have HG := Lib.hid (show Grew w W from hW ▸ ((Chg.refl _ _).alloc _).alloc _)
  have B0 := Lib.hid (show Blk W w.heap.size 97 #[.int .i64 x.n, .int .i64 x.due, .int .i64 x.v] from hW ▸ (Blk.new _ _ _).alloc _)
  have B1 := Lib.hid (show Blk W (w.heap.size + 1) 97 #[.int .i64 y.n, .int .i64 y.due, .int .i64 y.v] from hW ▸ (by have := Blk.new (w.alloc (.cells #[.int .i64 x.n, .int .i64 x.due, .int .i64 x.v] 97)) 97 #[.int .i64 y.n, .int .i64 y.due, .int .i64 y.v]; simpa using this))
  have HW := Lib.hid hW
  have x0 := B0.out.cell 0
  have x6 := B0.out.cell 1
  have y0 := B1.out.cell 0
  have y6 := B1.out.cell 1
  simp only [List.getElem?_toArray, List.getElem?_cons_zero, List.getElem?_cons_succ] at x0 x6 y0 y6
  clear hW
  go_enter Try.func66, Try.ntmps66
  go_wp2_with (rw [HW.out])
  have s1 := B1.out.lt
  have s0 := B0.out.lt
  go_region_held3 (fun w' => ∀ (B i : Nat), B < W.heap.size → w'.cell? ⟨B, i, none⟩ = W.cell? ⟨B, i, none⟩)
    ((intro B i hB; first | rfl | exact (((Chg.refl NoF W).drew).alloc _).cell (p := ⟨B, i, none⟩) hB id))
    (first
      | (go_at_call 50; refine (compare_any _ _ _).mono ?_; rintro e w' ⟨rfl, rfl⟩)
      | (go_at_call 67; refine (or_any (cmpI x.due y.due) (cmpI x.n y.n) (Itm.ord x y) W.heap.size _ ((Blk.new W _ _).drew) rfl).mono ?_; rintro e w' ⟨rfl, rfl⟩))
  all_goals
    go_wp2
    go_ret
    refine ⟨rfl, 1, #[.cells #[.int .i64 x.n, .int .i64 x.due, .int .i64 x.v] 97, .cells #[.int .i64 y.n, .int .i64 y.due, .int .i64 y.v] 97, .cells #[.int .i64 (cmpI x.due y.due), .int .i64 (cmpI x.n y.n)] 3], ?_⟩
    rw [← HW.out]
    rfl

theorem less_lays (blk size : Nat) (w : World) : CmpLays Try.prog 66 #[] Itm.vals 3 Itm.ord blk 0 size w :=
  fun _ _ _ _ x y => less_any x y _

/-- What the sort leaves is the list in order. -/
theorem sorted_is {l s : List Itm} {d : Array Itm} (hq : QL l s) (hnd : (l.map Itm.n).Nodup) (hp : PermIn 0 l.toArray.size l.toArray d) (hs : SortedIn (ltOf Itm.ord) 0 l.toArray.size d) : d = s.toArray := by
  obtain ⟨h1, -, h3⟩ := hp
  have h3' : d.toList.Perm l := by
    have e1 : d.extract 0 l.toArray.size = d := by rw [← h1]; simp
    have e2 : l.toArray.extract 0 l.toArray.size = l.toArray := by simp
    rw [e1, e2] at h3
    simpa using h3
  have hnd2 : (d.toList.map Itm.n).Nodup := (h3'.map Itm.n).nodup_iff.2 hnd
  have ho : ordd d.toList := by
    unfold ordd
    rw [List.pairwise_iff_getElem]
    intro i j hi hj hij
    have hi' : i < d.size := by simpa using hi
    have hj' : j < d.size := by simpa using hj
    have h4 := hs i j (Nat.zero_le _) hij (by omega)
    rw [lt_ord, getElem!_pos d j hj', getElem!_pos d i hi'] at h4
    have hne := n_ne hnd2 (List.getElem?_eq_getElem hi) (List.getElem?_eq_getElem hj) (by omega)
    exact Itm.lt_total (of_decide_eq_false h4) (by simpa using hne)
  have := ordd_uniq ho hq.o (h3'.trans hq.p.symm)
  rw [← this]

set_option maxHeartbeats 400000 in
theorem sort_any {l s : List Itm} {g cap base : Nat} {w : World} (h : w.ownsRow base 97 3 (.slice (some ⟨g, 0, none⟩) l.length cap) l.length (l.flatMap Itm.vals)) (hq : QL l s) (hnd : (l.map Itm.n).Nodup) (hl : l.length ≤ 1000000) :
    Calls Try.prog 74 #[.slice (some ⟨g, 0, none⟩) l.length cap, .func (.func 66) #[] #[]] w fun e w' =>
      e = .returned (.tuple #[]) ∧ w'.ownsRow base 97 3 (.slice (some ⟨g, 0, none⟩) l.length cap) l.length (s.flatMap Itm.vals) ∧ Chg (fun j => j = g) w w' := by
  have eg : ∀ args w, (callFunc 66 args).run Try.prog w = .ok (.enter 66 args) w := enters_of Try.func66 (by kernel_rfl) rfl
  have hg := (own_row h).choose_spec.2.1 |> fun h => (Array.getElem?_eq_some_iff.1 h).1
  have hcon := AnyQ.slices_SortFunc sortItm 3 Try.isAgg97 Try.sizeOf97 Itm.vals (fun _ => rfl) (fun x v hv => by simp [Itm.vals] at hv; rcases hv with rfl | rfl | rfl <;> rfl) Itm.ord swo_ord 66 #[] g 0 cap l.toArray w eg (less_lays g l.toArray.size w) (holds_itm h) hg (by simp; omega)
  rw [show l.toArray.size = l.length from by simp] at hcon
  refine Calls.mono (show Calls Try.prog 74 _ _ _ from hcon) ?_
  rintro e w' ⟨rfl, d', n, os, hp, hs, rfl⟩
  have hd := sorted_is hq hnd (by simpa using hp) (by simpa using hs)
  subst hd
  obtain ⟨h1, h2⟩ := own_sorted (n := n) (os := os) h hq.len
  exact ⟨rfl, h1, (Chg.refl (fun j => j = g) w).grown h2 fun k hk _ => by cases hk; rfl⟩

end Go.Proofs.Ytjpkpckgkhbfpaa
