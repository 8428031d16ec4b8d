/- The rent: its rows sorted by the library. -/
import Derived.Test.YtjpkpckgkhbfpaaQueXe
import Derived.Test.YtjpkpckgkhbfpaaRenA
namespace Go.Proofs.Ytjpkpckgkhbfpaa
open Go.RowKit Go.Maps Go.Shelf Go.Sort

instance : Inhabited Rw := ⟨Rw.zero⟩

theorem flat_rw (l : List Rw) : (flatK Rw.vals 3 l.toArray).toList = l.flatMap Rw.vals := by
  apply List.ext_getElem?
  intro t
  by_cases ht : t < l.length * 3
  · have hk : t / 3 < l.length := by omega
    obtain ⟨x, hx⟩ : ∃ x, l[t / 3]? = some x := ⟨_, List.getElem?_eq_getElem hk⟩
    have h1 := Rw.vals_at l (t / 3) x hx (t % 3) (by omega)
    rw [show t / 3 * 3 + t % 3 = t by omega] at h1
    rw [h1]
    have hxe : l.toArray[t / 3]! = x := by
      rw [getElem!_pos l.toArray (t / 3) (by simpa using hk)]
      simpa using (List.getElem?_eq_some_iff.1 hx).2
    rw [Array.getElem?_toList]
    simp only [flatK, Array.getElem?_map, List.size_toArray]
    rw [Array.getElem?_range, if_pos ht]
    simp only [Option.map_some, hxe]
    have h3 : t % 3 < x.vals.length := by simp [Rw.vals]; omega
    rw [List.getElem?_eq_getElem h3, getElem!_pos x.vals _ h3]
  · rw [List.getElem?_eq_none (by simp; omega), List.getElem?_eq_none (by rw [Rw.vals_len]; omega)]

/-- What a row of items holds is held, as the library's sort asks it. -/
theorem holds_rw {w : World} {base g cap : Nat} {e : TypeId} {l : List Rw} (h : w.ownsRow base e 3 (.slice (some ⟨g, 0, none⟩) l.length cap) l.length (l.flatMap Rw.vals)) : HoldsK Rw.vals 3 w g 0 l.toArray := by
  obtain ⟨cur, hb, hg, hnc, hcm, hcs, htake, hxl⟩ := own_row h
  intro j hj
  have hj' : j < l.length * 3 := by simpa using hj
  have h1 : (flatK Rw.vals 3 l.toArray)[j]? = (l.flatMap Rw.vals)[j]? := by rw [← flat_rw, Array.getElem?_toList]
  have h2 : cur[j]? = (l.flatMap Rw.vals)[j]? := by rw [← htake, List.getElem?_take_of_lt hj', Array.getElem?_toList]
  refine ⟨?_, by simp [World.frozen?, hg]⟩
  rw [Nat.zero_add, (show Blk w g e cur from hg).cell, h2, ← h1, getElem!_pos _ j hj]
  simp [hj]

/-- Behind the sort the same slice owns what it laid there. -/
theorem own_sorted_rw {w : World} {base g cap n : Nat} {e : TypeId} {os : Array Obj} {l s : List Rw} (h : w.ownsRow base e 3 (.slice (some ⟨g, 0, none⟩) l.length cap) l.length (l.flatMap Rw.vals)) (hl : s.length = l.length) :
    (sortWorldK Rw.vals 3 w g 0 n s.toArray os).ownsRow base e 3 (.slice (some ⟨g, 0, none⟩) l.length cap) l.length (s.flatMap Rw.vals) ∧ w.grownBy (sortWorldK Rw.vals 3 w g 0 n s.toArray os) (some g) := by
  obtain ⟨cur, hb, hg, hnc, hcm, hcs, htake, hxl⟩ := own_row h
  have hgl : g < w.heap.size := (Array.getElem?_eq_some_iff.1 hg).1
  have hns : l.length * 3 ≤ cap * 3 := Nat.mul_le_mul_right _ hnc
  have hF : (flatK Rw.vals 3 s.toArray).size = l.length * 3 := by simp [hl]
  have hh : (sortWorldK Rw.vals 3 w g 0 n s.toArray os).heap[g]? = some (.cells (putCells id 0 (flatK Rw.vals 3 s.toArray) cur) e (0, 0)) := by
    unfold sortWorldK putRowK
    rw [heap_grow_old _ _ (by simpa [putRow, mapBlock, Sort.ahead] using hgl)]
    simp [putRow, mapBlock, Sort.ahead, Array.getElem?_modify, hg, onCells]
  refine ⟨⟨by rw [Rw.vals_len, hl], .inr ⟨g, cap, _, rfl, hb, hh, hnc, hcm, by simp [putCells, hcs], ?_⟩⟩, rfl, rfl, rfl, by simp [sortWorldK, putRowK, putRow, mapBlock, Sort.ahead, grow], fun k hk hne => ?_⟩
  · rw [← hF, putCells_take (by rw [hF]; omega), flat_rw]
  · unfold sortWorldK putRowK
    rw [heap_grow_old _ _ (by simpa [putRow, mapBlock, Sort.ahead] using hk)]
    have : g ≠ k := fun e => hne (by rw [e])
    simp [putRow, mapBlock, Sort.ahead, Array.getElem?_modify, this]


def Rw.ord (x y : Rw) : Int := cmpI x.house y.house
/-- Rising by houses. -/
def rising (l : List Rw) : Prop := l.Pairwise fun a b => a.house < b.house
theorem Rw.ord_iff (x y : Rw) : x.ord y < 0 ↔ x.house < y.house := by
  unfold Rw.ord cmpI
  by_cases h : x.house < y.house
  · simp [h]
  · by_cases h2 : y.house < x.house
    · simp [h, h2]
    · simp [h, h2]
theorem rw_ord (x y : Rw) : ltOf Rw.ord x y = decide (x.house < y.house) := by
  unfold ltOf
  exact decide_eq_decide.2 (Rw.ord_iff x y)
theorem swo_rw : SWO (ltOf Rw.ord) where
  irrefl x := by rw [rw_ord]; exact decide_eq_false (by omega)
  trans x y z h1 h2 := by
    rw [rw_ord] at *
    have := of_decide_eq_true h1
    have := of_decide_eq_true h2
    exact decide_eq_true (by omega)
  ntrans x y z h1 h2 := by
    rw [rw_ord] at *
    have := of_decide_eq_false h1
    have := of_decide_eq_false h2
    exact decide_eq_false (by omega)
theorem rising_uniq : ∀ {a b : List Rw}, rising a → rising b → a.Perm b → a = b
  | [], b, _, _, h => by rw [h.nil_eq]
  | x :: a, [], _, _, h => by simpa using h.length_eq
  | x :: a, y :: b, ha, hb, h => by
    unfold rising at ha hb
    rw [List.pairwise_cons] at ha hb
    have hxy : x = y := by
      rcases List.mem_cons.1 (h.mem_iff.1 (List.mem_cons_self ..)) with e | hx
      · exact e
      · rcases List.mem_cons.1 (h.symm.mem_iff.1 (List.mem_cons_self ..)) with e | hy
        · exact e.symm
        · have h1 := hb.1 _ hx
          have h2 := ha.1 _ hy
          omega
    subst hxy
    rw [rising_uniq ha.2 hb.2 (h.cons_inv)]
theorem rising.nodup {x : List Rw} (h : rising x) : (x.map Rw.house).Nodup := by
  unfold rising at h
  rw [List.nodup_iff_pairwise_ne, List.pairwise_map]
  exact h.imp fun h => by omega
theorem rising.putL {x : List Rw} (h : rising x) (r : Rw) : rising (putL x r) := by
  induction x with
  | nil => simp [Go.Proofs.Ytjpkpckgkhbfpaa.putL, rising]
  | cons y x ih =>
    unfold rising at h ih ⊢
    rw [List.pairwise_cons] at h
    unfold Go.Proofs.Ytjpkpckgkhbfpaa.putL
    split
    · rename_i hy
      refine List.pairwise_cons.2 ⟨fun z hz => ?_, ih h.2⟩
      rcases mem_putL.1 hz with rfl | ⟨hz, _⟩
      · exact hy
      · exact h.1 z hz
    · rename_i hy
      refine List.pairwise_cons.2 ⟨fun z hz => ?_, List.Pairwise.sublist List.filter_sublist (List.pairwise_cons.2 h)⟩
      obtain ⟨hz1, hz2⟩ := List.mem_filter.1 hz
      have hz2 : z.house ≠ r.house := by simpa using hz2
      rcases List.mem_cons.1 hz1 with rfl | hz1
      · omega
      · have := h.1 z hz1; omega
theorem rising.dropL {x : List Rw} (h : rising x) (k : Int) : rising (dropL x k) := List.Pairwise.sublist List.filter_sublist h

set_option maxHeartbeats 800000 in
/-- The closure that Rows hands to the sort. -/
theorem rless_any (x y : Rw) (w : World) : Calls Try.prog 49 #[(.agg #[.int .i64 x.house, .int .i64 x.rate, .int .i64 x.due]), (.agg #[.int .i64 y.house, .int .i64 y.rate, .int .i64 y.due])] w fun e w' => e = .returned (.int .i64 (x.ord y)) ∧ ∃ q os', w' = grow (w.drewN q) os' := by
  obtain ⟨W, hW⟩ : ∃ W, (w.alloc (.cells #[.int .i64 x.house, .int .i64 x.rate, .int .i64 x.due] 30)).alloc (.cells #[.int .i64 y.house, .int .i64 y.rate, .int .i64 y.due] 30) = W := ⟨_, rfl⟩
  have B0 := Lib.hid (show Blk W w.heap.size 30 #[.int .i64 x.house, .int .i64 x.rate, .int .i64 x.due] from hW ▸ (Blk.new _ _ _).alloc _)
  have B1 := Lib.hid (show Blk W (w.heap.size + 1) 30 #[.int .i64 y.house, .int .i64 y.rate, .int .i64 y.due] from hW ▸ (by have := Blk.new (w.alloc (.cells #[.int .i64 x.house, .int .i64 x.rate, .int .i64 x.due] 30)) 30 #[.int .i64 y.house, .int .i64 y.rate, .int .i64 y.due]; simpa using this))
  have HW := Lib.hid hW
  have x0 := B0.out.cell 0
  have y0 := B1.out.cell 0
  simp only [List.getElem?_toArray, List.getElem?_cons_zero, List.getElem?_cons_succ] at x0 y0
  clear hW
  go_enter Try.func49, Try.ntmps49
  go_wp2_with (first
    | (rw [HW.out])
    | (go_at_call 50; refine (compare_any _ _ _).mono ?_; rintro e w' ⟨rfl, rfl⟩))
  go_ret
  refine ⟨rfl, 0, #[.cells #[.int .i64 x.house, .int .i64 x.rate, .int .i64 x.due] 30, .cells #[.int .i64 y.house, .int .i64 y.rate, .int .i64 y.due] 30], ?_⟩
  rw [← HW.out]
  rfl

theorem rless_lays (blk size : Nat) (w : World) : CmpLays Try.prog 49 #[] Rw.vals 3 Rw.ord blk 0 size w :=
  fun _ _ _ _ x y => rless_any x y _

/-- What the sort leaves is the list in order. -/
theorem rsorted_is {l s : List Rw} {d : Array Rw} (hq : rising s) (hls : l.Perm s) (hp : PermIn 0 l.toArray.size l.toArray d) (hs : SortedIn (ltOf Rw.ord) 0 l.toArray.size d) : d = s.toArray := by
  obtain ⟨h1, -, h3⟩ := hp
  have h3' : d.toList.Perm l := by
    have e1 : d.extract 0 l.toArray.size = d := by rw [← h1]; simp
    have e2 : l.toArray.extract 0 l.toArray.size = l.toArray := by simp
    rw [e1, e2] at h3
    simpa using h3
  have hnd2 : (d.toList.map Rw.house).Nodup := ((h3'.trans hls).map Rw.house).nodup_iff.2 hq.nodup
  have ho : rising d.toList := by
    unfold rising
    rw [List.pairwise_iff_getElem]
    intro i j hi hj hij
    have hi' : i < d.size := by simpa using hi
    have hj' : j < d.size := by simpa using hj
    have h4 := hs i j (Nat.zero_le _) hij (by omega)
    rw [rw_ord, getElem!_pos d j hj', getElem!_pos d i hi'] at h4
    have h5 := of_decide_eq_false h4
    have hne : d.toList[i].house ≠ d.toList[j].house := by
      rw [List.nodup_iff_pairwise_ne, List.pairwise_map, List.pairwise_iff_getElem] at hnd2
      exact hnd2 i j hi hj hij
    simp only [Array.getElem_toList] at hne ⊢
    omega
  have := rising_uniq ho hq (h3'.trans hls)
  rw [← this]

set_option maxHeartbeats 400000 in
theorem rsort_any {l s : List Rw} {g cap base : Nat} {w : World} (h : w.ownsRow base 30 3 (.slice (some ⟨g, 0, none⟩) l.length cap) l.length (l.flatMap Rw.vals)) (hq : rising s) (hls : l.Perm s) (hl : l.length ≤ 1000000) :
    Calls Try.prog 60 #[.slice (some ⟨g, 0, none⟩) l.length cap, .func (.func 49) #[] #[]] w fun e w' =>
      e = .returned (.tuple #[]) ∧ w'.ownsRow base 30 3 (.slice (some ⟨g, 0, none⟩) l.length cap) l.length (s.flatMap Rw.vals) ∧ Chg (fun j => j = g) w w' := by
  have eg : ∀ args w, (callFunc 49 args).run Try.prog w = .ok (.enter 49 args) w := enters_of Try.func49 (by kernel_rfl) rfl
  have hg := (own_row h).choose_spec.2.1 |> fun h => (Array.getElem?_eq_some_iff.1 h).1
  have hcon := AnyQ.slices_SortFunc sortRow 3 Try.isAgg30 Try.sizeOf30 Rw.vals (fun _ => rfl) (fun x v hv => by simp [Rw.vals] at hv; rcases hv with rfl | rfl | rfl <;> rfl) Rw.ord swo_rw 49 #[] g 0 cap l.toArray w eg (rless_lays g l.toArray.size w) (holds_rw h) hg (by simp; omega)
  rw [show l.toArray.size = l.length from by simp] at hcon
  refine Calls.mono (show Calls Try.prog 60 _ _ _ from hcon) ?_
  rintro e w' ⟨rfl, d', n, os, hp, hs, rfl⟩
  have hd := rsorted_is hq hls (by simpa using hp) (by simpa using hs)
  subst hd
  obtain ⟨h1, h2⟩ := own_sorted_rw (n := n) (os := os) h hls.length_eq.symm
  exact ⟨rfl, h1, (Chg.refl (fun j => j = g) w).grown h2 fun k hk _ => by cases hk; rfl⟩
theorem rsort_nil (w : World) (fv : Value) :
    Calls Try.prog 60 #[.slice none 0 0, fv] w fun e w' => e = .returned (.tuple #[]) ∧ w' = w :=
  AnyF.slices_SortFunc_none sortRow none 0 fv w

end Go.Proofs.Ytjpkpckgkhbfpaa
