/- The queue: ahead, swap. -/
import Derived.Test.YtjpkpckgkhbfpaaQueB
namespace Go.Proofs.Ytjpkpckgkhbfpaa
open Go.RowKit Go.Maps

/-- cmp.Compare's answer. -/
def cmpI (a b : Int) : Int := if a < b then -1 else if b < a then 1 else 0

theorem isNaN_any (a : Int) (w : World) : Calls Try.prog 62 #[.int .i64 a] w fun e w' => e = .returned (.bool false) ∧ w = w' := by
  go_enter Try.func62, Try.ntmps62
  go_wp2
  go_ret
  exact ⟨by simp, rfl⟩

set_option maxHeartbeats 400000 in
theorem compare_any (a b : Int) (w : World) : Calls Try.prog 50 #[.int .i64 a, .int .i64 b] w fun e w' => e = .returned (.int .i64 (cmpI a b)) ∧ w = w' := by
  by_cases h1 : a < b
  · have hv : cmpI a b = -1 := by simp [cmpI, h1]
    rw [hv]
    clear hv
    go_enter Try.func50, Try.ntmps50
    go_wp2_with (go_at_call 62; refine (isNaN_any _ _).mono ?_; rintro e w' ⟨rfl, rfl⟩)
    go_ret
    exact ⟨rfl, rfl⟩
  by_cases h2 : b < a
  · have hv : cmpI a b = 1 := by simp [cmpI, h1, h2]
    rw [hv]
    clear hv
    go_enter Try.func50, Try.ntmps50
    go_wp2_with (go_at_call 62; refine (isNaN_any _ _).mono ?_; rintro e w' ⟨rfl, rfl⟩)
    go_ret
    exact ⟨rfl, rfl⟩
  · have hv : cmpI a b = 0 := by simp [cmpI, h1, h2]
    rw [hv]
    clear hv
    go_enter Try.func50, Try.ntmps50
    go_wp2_with (go_at_call 62; refine (isNaN_any _ _).mono ?_; rintro e w' ⟨rfl, rfl⟩)
    go_ret
    exact ⟨rfl, rfl⟩

set_option maxHeartbeats 400000 in
theorem or_any (a b v : Int) (B : Nat) (w : World) (h : Blk w B 3 #[.int .i64 a, .int .i64 b]) (hv : (if a ≠ 0 then a else b) = v) : Calls Try.prog 67 #[.slice (some ⟨B, 0, none⟩) 2 2] w fun e w' => e = .returned (.int .i64 v) ∧ w = w' := by
  obtain ⟨c0, f0, s0⟩ := h.facts
  have h0 := c0 0
  have h1 := c0 1
  simp only [List.getElem?_toArray, List.getElem?_cons_zero, List.getElem?_cons_succ] at h0 h1
  clear h c0
  have Hv := Lib.hid hv
  clear hv
  go_enter Try.func67, Try.ntmps67
  go_wp2
  go_loop [5, 8] (fun _ i => ∃ k : Nat, k ≤ 2 ∧ i = .int .i64 k ∧ (1 ≤ k → a = 0) ∧ (2 ≤ k → b = 0)) (fun _ i => 2 - (intOf i).toNat)
  case atStart => exact ⟨0, by omega, rfl, fun h => absurd h (by omega), fun h => absurd h (by omega)⟩
  case round =>
    obtain ⟨k, hk, rfl, ha, hb⟩ := hrel
    have Ha := Lib.hid ha
    have Hb := Lib.hid hb
    clear ha hb
    by_cases k0 : k = 0
    · subst k0
      by_cases h2 : a = 0
      · have hn : (a != 0) = false := by simp [h2]
        have H2 := Lib.hid h2
        clear h2
        go_wp2
        go_round
        case rel => exact ⟨1, by omega, rfl, fun _ => H2.out, fun h => absurd h (by omega)⟩
        case measure => simp [intOf]
      · have hn : (a != 0) = true := by simpa using h2
        have H2 := Lib.hid h2
        clear h2
        go_wp2
        go_ret
        exact ⟨by rw [← Hv.out, if_pos H2.out]; rfl, rfl⟩
    by_cases k1 : k = 1
    · subst k1
      by_cases h2 : b = 0
      · have hn : (b != 0) = false := by simp [h2]
        have H2 := Lib.hid h2
        clear h2 k0
        go_wp2
        go_round
        case rel => exact ⟨2, by omega, rfl, fun _ => Ha.out (by omega), fun _ => H2.out⟩
        case measure => simp [intOf]
      · have hn : (b != 0) = true := by simpa using h2
        have H2 := Lib.hid h2
        clear h2 k0
        go_wp2
        go_ret
        exact ⟨by rw [← Hv.out, if_neg (by simp [Ha.out (by omega)])]; rfl, rfl⟩
    · obtain rfl : k = 2 := by omega
      clear k0 k1
      go_wp2
      go_ret
      exact ⟨by rw [← Hv.out, if_neg (by simp [Ha.out (by omega)]), Hb.out (by omega)]; rfl, rfl⟩


/-- cmp.Or of the two comparisons. -/
def Itm.ord (x y : Itm) : Int := if cmpI x.due y.due ≠ 0 then cmpI x.due y.due else cmpI x.n y.n
/-- Is it ahead? -/
def Itm.lt (x y : Itm) : Prop := x.due < y.due ∨ (x.due = y.due ∧ x.n < y.n)
instance (x y : Itm) : Decidable (Itm.lt x y) := by unfold Itm.lt; infer_instance

theorem ord_iff (x y : Itm) : x.ord y < 0 ↔ x.lt y := by
  unfold Itm.ord Itm.lt cmpI
  by_cases h1 : x.due < y.due
  · simp [h1]
  · by_cases h2 : y.due < x.due
    · simp [h1, h2]; omega
    · by_cases h3 : x.n < y.n
      · simp [h1, h2, h3]; omega
      · by_cases h4 : y.n < x.n
        · simp [h1, h2, h3, h4]
        · simp [h1, h2, h3, h4]

set_option maxHeartbeats 800000 in
theorem ahead_any (x y : Itm) (v : Bool) (hv : decide (x.lt y) = v) (w : World) : Calls Try.prog 68 #[(.agg #[.int .i64 x.n, .int .i64 x.due, .int .i64 x.v]), (.agg #[.int .i64 y.n, .int .i64 y.due, .int .i64 y.v])] w fun e w' => e = .returned (.bool v) ∧ Grew w w' := by
  obtain ⟨W, hW⟩ : ∃ W, (w.alloc (.cells #[.int .i64 x.n, .int .i64 x.due, .int .i64 x.v] 97)).alloc (.cells #[.int .i64 y.n, .int .i64 y.due, .int .i64 y.v] 97) = W := ⟨_, rfl⟩
  have HG := Lib.hid (show Grew w W from hW ▸ ((Chg.refl _ _).alloc _).alloc _)
  have B0 := Lib.hid (show Blk W w.heap.size 97 #[.int .i64 x.n, .int .i64 x.due, .int .i64 x.v] from hW ▸ (Blk.new _ _ _).alloc _)
  have B1 := Lib.hid (show Blk W (w.heap.size + 1) 97 #[.int .i64 y.n, .int .i64 y.due, .int .i64 y.v] from hW ▸ (by have := Blk.new (w.alloc (.cells #[.int .i64 x.n, .int .i64 x.due, .int .i64 x.v] 97)) 97 #[.int .i64 y.n, .int .i64 y.due, .int .i64 y.v]; simpa using this))
  have HW := Lib.hid hW
  have Hv := Lib.hid (show decide (x.ord y < 0) = v from by rw [← hv]; exact decide_eq_decide.2 (ord_iff x y))
  have x0 := B0.out.cell 0
  have x6 := B0.out.cell 1
  have y0 := B1.out.cell 0
  have y6 := B1.out.cell 1
  simp only [List.getElem?_toArray, List.getElem?_cons_zero, List.getElem?_cons_succ] at x0 x6 y0 y6
  clear hW hv
  go_enter Try.func68, Try.ntmps68
  go_wp2_with (rw [HW.out])
  have s1 := B1.out.lt
  have s0 := B0.out.lt
  go_region_held3 (fun w' => ∀ (B i : Nat), B < W.heap.size → w'.cell? ⟨B, i, none⟩ = W.cell? ⟨B, i, none⟩)
    ((intro B i hB; first | rfl | exact (((Chg.refl NoF W).drew).alloc _).cell (p := ⟨B, i, none⟩) hB id))
    (first
      | (go_at_call 50; refine (compare_any _ _ _).mono ?_; rintro e w' ⟨rfl, rfl⟩)
      | (go_at_call 67; refine (or_any (cmpI x.due y.due) (cmpI x.n y.n) (Itm.ord x y) W.heap.size _ ((Blk.new W _ _).drew) rfl).mono ?_; rintro e w' ⟨rfl, rfl⟩))
  all_goals
    go_wp2
    go_ret
    exact ⟨by rw [Hv.out]; rfl, Chg.drew (HG.out.alloc _)⟩

/-- Two places changed for one another. -/
def swp (l : List Itm) (i k : Nat) : List Itm := match l[i]?, l[k]? with
  | some x, some y => (l.set i y).set k x
  | _, _ => l
theorem swp_of {l : List Itm} {i k : Nat} {x y : Itm} (hx : l[i]? = some x) (hy : l[k]? = some y) : swp l i k = (l.set i y).set k x := by
  unfold swp
  rw [hx, hy]
theorem swp_len (l : List Itm) (i k : Nat) : (swp l i k).length = l.length := by
  unfold swp
  split <;> simp

/-- A queue whose map says where each number is. -/
structure Q (w : World) (b : Nat) (l : List Itm) (A : Option Addr) (c M : Nat) (added : Int) : Prop where
  isIn : QIn w b l A c M added (ixm l) l.length
  nd : (l.map Itm.n).Nodup
  ok : ∀ x ∈ l, (Lit.int .i64 x.n).wf = true

theorem Q.grew {w w' : World} {b c M : Nat} {l : List Itm} {A : Option Addr} {added : Int} (h : Q w b l A c M added) (hc : Grew w w') : Q w' b l A c M added := ⟨h.isIn.grew hc, h.nd, h.ok⟩

theorem ixm_at {l : List Itm} (hn : (l.map Itm.n).Nodup) {i : Nat} {x : Itm} (hx : l[i]? = some x) : ixm l x.n = some (.int .i64 (i : Int)) := by
  have hi : i < l.length := (List.getElem?_eq_some_iff.1 hx).1
  have hex : l[i] = x := (List.getElem?_eq_some_iff.1 hx).2
  have : l.findIdx? (fun y => y.n == x.n) = some i := by
    rw [List.findIdx?_eq_some_iff_getElem]
    refine ⟨hi, by simp [hex], fun j hj => ?_⟩
    have hj' : j < l.length := by omega
    simp only [beq_iff_eq]
    intro e
    exact List.pairwise_iff_getElem.1 hn j i (by simpa using hj') (by simpa using hi) hj (by simp [e, hex])
  unfold ixm
  rw [this]; rfl
theorem ixm_none {l : List Itm} {n : Int} (h : ∀ x ∈ l, x.n ≠ n) : ixm l n = none := by
  unfold ixm
  rw [List.findIdx?_eq_none_iff.2 (by simpa using h)]; rfl

/-- The map of a list whose numbers are the same, and apart, is told by its places. -/
theorem ixm_ext {l : List Itm} {m : Int → Option Value} (hn : (l.map Itm.n).Nodup) (h1 : ∀ (i : Nat) x, l[i]? = some x → m x.n = some (.int .i64 (i : Int))) (h2 : ∀ n, (∀ x ∈ l, x.n ≠ n) → m n = none) : m = ixm l := by
  funext n
  by_cases h : ∃ x ∈ l, x.n = n
  · obtain ⟨x, hx, rfl⟩ := h
    obtain ⟨i, hi⟩ := List.mem_iff_getElem?.1 hx
    rw [h1 i x hi, ixm_at hn hi]
  · have h' : ∀ x ∈ l, x.n ≠ n := fun x hx e => h ⟨x, hx, e⟩
    rw [h2 n h', ixm_none h']

theorem swp_perm {l : List Itm} {i k : Nat} (hi : i < l.length) (hk : k < l.length) : (swp l i k).Perm l := by
  rw [swp_of (List.getElem?_eq_getElem hi) (List.getElem?_eq_getElem hk)]
  exact List.set_set_perm hi hk

theorem swp_get {l : List Itm} {i k : Nat} {x y : Itm} (hx : l[i]? = some x) (hy : l[k]? = some y) (j : Nat) : (swp l i k)[j]? = if j = k then some x else if j = i then some y else l[j]? := by
  have hi : i < l.length := (List.getElem?_eq_some_iff.1 hx).1
  have hk : k < l.length := (List.getElem?_eq_some_iff.1 hy).1
  rw [swp_of hx hy, List.getElem?_set, List.getElem?_set]
  by_cases h1 : k = j
  · subst h1; simp [hk]
  · by_cases h2 : i = j
    · subst h2; simp [h1, hi, Ne.symm h1]
    · simp [h1, h2, Ne.symm h1, Ne.symm h2]

theorem n_ne {l : List Itm} (hn : (l.map Itm.n).Nodup) {i j : Nat} {x y : Itm} (hx : l[i]? = some x) (hy : l[j]? = some y) (h : i ≠ j) : x.n ≠ y.n := by
  intro e
  have h1 := ixm_at hn hx
  have h2 := ixm_at hn hy
  rw [e, h2] at h1
  injection h1 with h1
  injection h1 with _ h1
  omega

theorem swp_map {l : List Itm} (hn : (l.map Itm.n).Nodup) {i k : Nat} {x y : Itm} (hx : l[i]? = some x) (hy : l[k]? = some y) : upd (upd (ixm l) y.n (some (.int .i64 (i : Int)))) x.n (some (.int .i64 (k : Int))) = ixm (swp l i k) := by
  have hi : i < l.length := (List.getElem?_eq_some_iff.1 hx).1
  have hk : k < l.length := (List.getElem?_eq_some_iff.1 hy).1
  have hp := swp_perm hi hk
  refine ixm_ext ((hp.map Itm.n).nodup_iff.2 hn) (fun j z hz => ?_) fun n hno => ?_
  · rw [swp_get hx hy] at hz
    by_cases h1 : j = k
    · subst h1
      rw [if_pos rfl] at hz
      cases hz
      exact upd_same _ _ _
    · rw [if_neg h1] at hz
      by_cases h2 : j = i
      · subst h2
        rw [if_pos rfl] at hz
        cases hz
        rw [upd_other (n_ne hn hy hx (Ne.symm h1)), upd_same]
      · rw [if_neg h2] at hz
        rw [upd_other (n_ne hn hz hx h2), upd_other (n_ne hn hz hy h1), ixm_at hn hz]
  · have hno' : ∀ z ∈ l, z.n ≠ n := fun z hz => hno z (hp.mem_iff.2 hz)
    rw [upd_other (Ne.symm (hno' x (List.mem_of_getElem? hx))), upd_other (Ne.symm (hno' y (List.mem_of_getElem? hy))), ixm_none hno']

theorem swap_done {w w' : World} {b c M i k : Nat} {l : List Itm} {A : Option Addr} {added : Int} {x y : Itm} (h : Q w b l A c M added) (hx : l[i]? = some x) (hy : l[k]? = some y) (hq : QIn w' b (swp l i k) A c M added (ixm (swp l i k)) l.length) : Q w' b (swp l i k) A c M added := by
  have hp := swp_perm (List.getElem?_eq_some_iff.1 hx).1 (List.getElem?_eq_some_iff.1 hy).1
  refine ⟨by rw [swp_len]; exact hq, (hp.map Itm.n).nodup_iff.2 h.nd, fun z hz => h.ok z (hp.mem_iff.1 hz)⟩
theorem QF_lt {w : World} {b c M : Nat} {l : List Itm} {A : Option Addr} {added : Int} {m : Int → Option Value} {s : Nat} (h : QIn w b l A c M added m s) : ∀ j, QF b A M j → j < w.heap.size := by
  rintro j (rfl | rfl | ⟨a, rfl, rfl⟩)
  · exact h.blk.lt
  · exact h.mp.lt
  · obtain ⟨g, rfl, hg⟩ := own_some h.own
    exact hg

set_option maxHeartbeats 1600000 in
theorem swap_any (b i k : Nat) (l : List Itm) (A : Option Addr) (c M : Nat) (added : Int) (w : World) (h : Q w b l A c M added) (hi : i < l.length) (hk : k < l.length) (hl : l.length ≤ 1000000) :
    Calls Try.prog 69 #[.pointer (some ⟨b, 0, none⟩), .int .i64 i, .int .i64 k] w fun e w' => e = .returned (.tuple #[]) ∧ Q w' b (swp l i k) A c M added ∧ Chg (QF b A M) w w' := by
  obtain ⟨x, hx⟩ : ∃ x, l[i]? = some x := ⟨_, List.getElem?_eq_getElem hi⟩
  obtain ⟨y, hy⟩ : ∃ y, l[k]? = some y := ⟨_, List.getElem?_eq_getElem hk⟩
  obtain ⟨g, rfl, hg⟩ := own_block h.isIn.own (by omega)
  obtain ⟨g', off, hA, hgb, x0, x1, x2⟩ := (Sl.of_own h.isIn.own).atItm hx
  cases hA
  obtain ⟨g', off, hA, -, y0, y1, y2⟩ := (Sl.of_own h.isIn.own).atItm hy
  cases hA
  simp only [Nat.zero_add] at x0 x1 x2 y0 y1 y2
  obtain ⟨c0, f0, s0⟩ := h.isIn.blk.facts
  have HX := Lib.hid (And.intro hx hy)
  have H := Lib.hid h
  have hil : (i : Int) < (l.length : Int) := by omega
  have hkl : (k : Int) < (l.length : Int) := by omega
  have hi0 : (0 : Int) ≤ (i : Int) := Int.natCast_nonneg _
  have hk0 : (0 : Int) ≤ (k : Int) := Int.natCast_nonneg _
  have HF := Lib.hid (QF_lt h.isIn)
  have HS := Lib.hid (show (ixm l y.n).isSome = true ∧ (upd (ixm l) y.n (some (.int .i64 (i : Int))) x.n).isSome = true from by
    refine ⟨by rw [ixm_at h.nd hy]; rfl, ?_⟩
    by_cases e : x.n = y.n
    · rw [e, upd_same]; rfl
    · rw [upd_other e, ixm_at h.nd hx]; rfl)
  clear hx hy h
  go_enter Try.func69, Try.ntmps69
  go_wp2
  go_region
  · obtain ⟨W, hW, hg, hbx, hby⟩ : ∃ W, W = _ ∧ Grew w W ∧ Blk W w.heap.size 97 #[.int .i64 x.n, .int .i64 x.due, .int .i64 x.v] ∧ Blk W (w.heap.size + 1) 97 #[.int .i64 y.n, .int .i64 y.due, .int .i64 y.v] := ⟨_, rfl, (((Chg.refl _ _).alloc _).alloc _).drew, ((Blk.new w _ _).alloc _).drew, (by have := Blk.new (w.alloc (.cells #[.int .i64 x.n, .int .i64 x.due, .int .i64 x.v] 97)) 97 #[.int .i64 y.n, .int .i64 y.due, .int .i64 y.v]; simpa using this.drew)⟩
    rw [← hW]
    have HG := Lib.hid hg
    have HX2 := Lib.hid hbx
    have HY2 := Lib.hid hby
    clear hW hg hbx hby x0 x1 x2 y0 y1 y2 c0 f0 s0
    obtain ⟨c1, f1, s1⟩ := HY2.out.facts
    go_wp2_with fail
    refine (put_any b i y l (some ⟨g, 0, none⟩) c M added (ixm l) l.length _ (H.out.isIn.grew HG.out) hi (by simp only [maxLen]; omega) (H.out.ok y (List.mem_of_getElem? HX.out.2))).mono ?_
    rintro e w3 ⟨rfl, hq3, hc3⟩
    rw [if_pos HS.out.1] at hq3
    have HQ3 := Lib.hid hq3
    have HC3 := Lib.hid hc3
    clear hq3 hc3 c1 f1 s1
    obtain ⟨c1, f1, s1⟩ := (HX2.out.chg HC3.out (fun e => by have := HF.out _ e; omega)).facts
    go_wp2_with fail
    refine (put_any b k x (l.set i y) (some ⟨g, 0, none⟩) c M added _ l.length _ HQ3.out (by simpa using hk) (by simp only [maxLen]; omega) (H.out.ok x (List.mem_of_getElem? HX.out.1))).mono ?_
    rintro e w4 ⟨rfl, hq4, hc4⟩
    rw [if_pos HS.out.2, ← swp_of HX.out.1 HX.out.2, swp_map H.out.nd HX.out.1 HX.out.2] at hq4
    have HQ4 := Lib.hid (And.intro hq4 hc4)
    clear hq4 hc4
    go_wp2_with fail
    refine bodyPost_end (results_none rfl _ _ _) rfl ?_
    exact ⟨rfl, swap_done H.out HX.out.1 HX.out.2 HQ4.out.1, Chg.trans HG.out.chg (Chg.trans HC3.out HQ4.out.2 fun _ _ e => e) fun _ _ e => e⟩
  · obtain ⟨W, hW, hg, hbx, hby⟩ : ∃ W, W = _ ∧ Grew w W ∧ Blk W (w.heap.size + 1) 97 #[.int .i64 x.n, .int .i64 x.due, .int .i64 x.v] ∧ Blk W w.heap.size 97 #[.int .i64 y.n, .int .i64 y.due, .int .i64 y.v] := ⟨_, rfl, (((Chg.refl _ _).alloc _).alloc _).drew, (by have := Blk.new (w.alloc (.cells #[.int .i64 y.n, .int .i64 y.due, .int .i64 y.v] 97)) 97 #[.int .i64 x.n, .int .i64 x.due, .int .i64 x.v]; simpa using this.drew), ((Blk.new w _ _).alloc _).drew⟩
    rw [← hW]
    have HG := Lib.hid hg
    have HX2 := Lib.hid hbx
    have HY2 := Lib.hid hby
    clear hW hg hbx hby x0 x1 x2 y0 y1 y2 c0 f0 s0
    obtain ⟨c1, f1, s1⟩ := HY2.out.facts
    go_wp2_with fail
    refine (put_any b i y l (some ⟨g, 0, none⟩) c M added (ixm l) l.length _ (H.out.isIn.grew HG.out) hi (by simp only [maxLen]; omega) (H.out.ok y (List.mem_of_getElem? HX.out.2))).mono ?_
    rintro e w3 ⟨rfl, hq3, hc3⟩
    rw [if_pos HS.out.1] at hq3
    have HQ3 := Lib.hid hq3
    have HC3 := Lib.hid hc3
    clear hq3 hc3 c1 f1 s1
    obtain ⟨c1, f1, s1⟩ := (HX2.out.chg HC3.out (fun e => by have := HF.out _ e; omega)).facts
    go_wp2_with fail
    refine (put_any b k x (l.set i y) (some ⟨g, 0, none⟩) c M added _ l.length _ HQ3.out (by simpa using hk) (by simp only [maxLen]; omega) (H.out.ok x (List.mem_of_getElem? HX.out.1))).mono ?_
    rintro e w4 ⟨rfl, hq4, hc4⟩
    rw [if_pos HS.out.2, ← swp_of HX.out.1 HX.out.2, swp_map H.out.nd HX.out.1 HX.out.2] at hq4
    have HQ4 := Lib.hid (And.intro hq4 hc4)
    clear hq4 hc4
    go_wp2_with fail
    refine bodyPost_end (results_none rfl _ _ _) rfl ?_
    exact ⟨rfl, swap_done H.out HX.out.1 HX.out.2 HQ4.out.1, Chg.trans HG.out.chg (Chg.trans HC3.out HQ4.out.2 fun _ _ e => e) fun _ _ e => e⟩

end Go.Proofs.Ytjpkpckgkhbfpaa
