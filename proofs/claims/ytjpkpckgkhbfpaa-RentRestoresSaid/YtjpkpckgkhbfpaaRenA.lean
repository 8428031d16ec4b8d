/- The rents: what lies in memory, and plain laws of rows and items. -/
import Derived.Test.YtjpkpckgkhbfpaaQueK
import Derived.Test.YtjpkpckgkhbfpaaQueT
namespace Go.Proofs.Ytjpkpckgkhbfpaa
open Go.RowKit Go.Maps

structure Rw where
  house : Int
  rate : Int
  due : Int
  deriving DecidableEq
def Rw.vals (x : Rw) : List Value := [.int .i64 x.house, .int .i64 x.rate, .int .i64 x.due]
def Rw.zero : Rw := ⟨0, 0, 0⟩
theorem Rw.vals_len (l : List Rw) : (l.flatMap Rw.vals).length = l.length * 3 := by
  induction l with
  | nil => rfl
  | cons x l ih => rw [List.flatMap_cons, List.length_append, ih, List.length_cons]; simp only [Rw.vals, List.length_cons, List.length_nil]; omega
theorem Rw.vals_at (l : List Rw) : ∀ (k : Nat) (x : Rw), l[k]? = some x → ∀ j, j < 3 → (l.flatMap Rw.vals)[k * 3 + j]? = x.vals[j]? := by
  induction l with
  | nil => intro k x h; simp at h
  | cons y l ih =>
    intro k x h j hj
    cases k with
    | zero =>
      simp only [List.getElem?_cons_zero, Option.some.injEq] at h
      subst h
      rw [List.flatMap_cons, Nat.zero_mul, Nat.zero_add, List.getElem?_append_left (by simp [Rw.vals]; omega)]
    | succ k =>
      simp only [List.getElem?_cons_succ] at h
      rw [List.flatMap_cons, List.getElem?_append_right (by simp [Rw.vals]; omega)]
      rw [← ih k x h j hj]
      congr 1
      simp [Rw.vals]
      omega
theorem Rw.take_vals (l : List Rw) : ∀ k, (l.take k).flatMap Rw.vals = (l.flatMap Rw.vals).take (k * 3) := by
  induction l with
  | nil => intro k; simp
  | cons x l ih =>
    intro k
    cases k with
    | zero => simp
    | succ k =>
      rw [List.take_succ_cons, List.flatMap_cons, List.flatMap_cons, ih k]
      have e : (k + 1) * 3 = x.vals.length + k * 3 := by simp [Rw.vals]; omega
      rw [e, List.take_length_add_append]
theorem Rw.drop_vals (l : List Rw) : ∀ k, (l.drop k).flatMap Rw.vals = (l.flatMap Rw.vals).drop (k * 3) := by
  induction l with
  | nil => intro k; simp
  | cons x l ih =>
    intro k
    cases k with
    | zero => simp
    | succ k =>
      rw [List.drop_succ_cons, List.flatMap_cons, ih k]
      have e : (k + 1) * 3 = x.vals.length + k * 3 := by simp [Rw.vals]; omega
      rw [e, List.drop_length_add_append]
theorem Rw.erase_vals (l : List Rw) (k : Nat) : (l.eraseIdx k).flatMap Rw.vals = (l.flatMap Rw.vals).take (k * 3) ++ (l.flatMap Rw.vals).drop ((k + 1) * 3) := by
  rw [List.eraseIdx_eq_take_drop_succ, List.flatMap_append, Rw.take_vals, Rw.drop_vals]
theorem Rw.one_cell (l : List Rw) : ∀ u ∈ l.flatMap Rw.vals, u.oneCell' = true := by
  intro u hu
  obtain ⟨x, _, hx⟩ := List.mem_flatMap.1 hu
  simp only [Rw.vals, List.mem_cons, List.not_mem_nil, or_false] at hx
  rcases hx with rfl | rfl | rfl <;> rfl
theorem Sl.atRw {w : World} {A : Option Addr} {l : List Rw} (h : Sl w 3 A l.length (l.flatMap Rw.vals)) {k : Nat} {x : Rw} (hx : l[k]? = some x) :
    ∃ b off, A = some ⟨b, off, none⟩ ∧ b < w.heap.size ∧ w.cell? ⟨b, off + k * 3, none⟩ = some (.int .i64 x.house) ∧ w.cell? ⟨b, off + k * 3 + 1, none⟩ = some (.int .i64 x.rate) ∧ w.cell? ⟨b, off + k * 3 + 2, none⟩ = some (.int .i64 x.due) := by
  have hk : k < l.length := (List.getElem?_eq_some_iff.1 hx).1
  obtain ⟨b, off, hA, hb, hc⟩ := h.2 (by omega)
  have hv := Rw.vals_at l k x hx
  refine ⟨b, off, hA, hb, ?_, ?_, ?_⟩
  · have := hc (k * 3 + 0) (.int .i64 x.house) ((hv 0 (by omega)).trans rfl)
    simpa [Nat.add_assoc] using this
  · have := hc (k * 3 + 1) (.int .i64 x.rate) ((hv 1 (by omega)).trans rfl)
    simpa [Nat.add_assoc] using this
  · have := hc (k * 3 + 2) (.int .i64 x.due) ((hv 2 (by omega)).trans rfl)
    simpa [Nat.add_assoc] using this
theorem Rw.sl_mk {w : World} {b off : Nat} {l : List Rw} (hb : b < w.heap.size) (h : ∀ i r, l[i]? = some r → ∀ j u, r.vals[j]? = some u → w.cell? ⟨b, off + (i * 3 + j), none⟩ = some u) : Sl w 3 (some ⟨b, off, none⟩) l.length (l.flatMap Rw.vals) := by
  refine ⟨Rw.vals_len l, fun _ => ⟨b, off, rfl, hb, fun j u hu => ?_⟩⟩
  have hj : j < l.length * 3 := by
    rw [← Rw.vals_len l]; exact (List.getElem?_eq_some_iff.1 hu).1
  have hi : j / 3 < l.length := by omega
  have hr : l[j / 3]? = some l[j / 3] := List.getElem?_eq_getElem hi
  have he : j = j / 3 * 3 + j % 3 := by omega
  have hv := Rw.vals_at l (j / 3) _ hr (j % 3) (by omega)
  rw [← he, hu] at hv
  have := h (j / 3) _ hr (j % 3) u hv.symm
  rwa [← he] at this
def Rw.ok (x : Rw) : Prop := -9223372036854775808 ≤ x.house ∧ x.house ≤ 9223372036854775807 ∧ -9223372036854775808 ≤ x.rate ∧ x.rate ≤ 9223372036854775807 ∧ -9223372036854775808 ≤ x.due ∧ x.due ≤ 9223372036854775807
theorem Rw.set_house (l : List Rw) (v : Int) : ∀ (k : Nat) (x : Rw), l[k]? = some x → (l.flatMap Rw.vals).set (k * 3) (.int .i64 v) = (l.set k { x with house := v }).flatMap Rw.vals := by
  induction l with
  | nil => intro k x h; simp at h
  | cons y l ih =>
    intro k x h
    cases k with
    | zero =>
      simp only [List.getElem?_cons_zero, Option.some.injEq] at h
      subst h
      simp [Rw.vals]
    | succ k =>
      simp only [List.getElem?_cons_succ] at h
      rw [List.flatMap_cons, List.set_cons_succ, List.flatMap_cons, ← ih k x h]
      have e : (k + 1) * 3 = (k * 3) + 3 := by omega
      rw [e]
      simp [Rw.vals]
theorem Rw.set_rate (l : List Rw) (v : Int) : ∀ (k : Nat) (x : Rw), l[k]? = some x → (l.flatMap Rw.vals).set (k * 3 + 1) (.int .i64 v) = (l.set k { x with rate := v }).flatMap Rw.vals := by
  induction l with
  | nil => intro k x h; simp at h
  | cons y l ih =>
    intro k x h
    cases k with
    | zero =>
      simp only [List.getElem?_cons_zero, Option.some.injEq] at h
      subst h
      simp [Rw.vals]
    | succ k =>
      simp only [List.getElem?_cons_succ] at h
      rw [List.flatMap_cons, List.set_cons_succ, List.flatMap_cons, ← ih k x h]
      have e : (k + 1) * 3 + 1 = (k * 3 + 1) + 3 := by omega
      rw [e]
      simp [Rw.vals]
theorem Rw.set_due (l : List Rw) (v : Int) : ∀ (k : Nat) (x : Rw), l[k]? = some x → (l.flatMap Rw.vals).set (k * 3 + 2) (.int .i64 v) = (l.set k { x with due := v }).flatMap Rw.vals := by
  induction l with
  | nil => intro k x h; simp at h
  | cons y l ih =>
    intro k x h
    cases k with
    | zero =>
      simp only [List.getElem?_cons_zero, Option.some.injEq] at h
      subst h
      simp [Rw.vals]
    | succ k =>
      simp only [List.getElem?_cons_succ] at h
      rw [List.flatMap_cons, List.set_cons_succ, List.flatMap_cons, ← ih k x h]
      have e : (k + 1) * 3 + 2 = (k * 3 + 2) + 3 := by omega
      rw [e]
      simp [Rw.vals]

theorem zRw (w : World) : (zeroValue 30).run Try.prog w = .ok (.agg #[.int .i64 0, .int .i64 0, .int .i64 0]) w := by kernel_rfl

/-- A house's row. -/
def fnd (x : List Rw) (h : Int) : Option Rw := x.find? fun r => r.house == h
def rwm (x : List Rw) (h : Int) : Option Value := (fnd x h).map fun r => (.agg #[.int .i64 r.house, .int .i64 r.rate, .int .i64 r.due])
/-- A house's number in the queue. -/
def atm (l : List Itm) (h : Int) : Option Value := (l.find? fun i => i.v == h).map fun i => .int .i64 i.n

theorem fnd_some {x : List Rw} {h : Int} {r : Rw} (e : fnd x h = some r) : r ∈ x ∧ r.house = h := by
  unfold fnd at e
  exact ⟨List.mem_of_find?_eq_some e, by simpa using List.find?_some e⟩
theorem fnd_none {x : List Rw} {h : Int} : fnd x h = none ↔ ∀ r ∈ x, r.house ≠ h := by
  unfold fnd
  rw [List.find?_eq_none]
  simp
theorem fnd_mem {x : List Rw} (hn : (x.map Rw.house).Nodup) {r : Rw} (hr : r ∈ x) : fnd x r.house = some r := by
  induction x with
  | nil => cases hr
  | cons y x ih =>
    simp only [List.map_cons, List.nodup_cons] at hn
    unfold fnd
    rw [List.find?_cons]
    rcases List.mem_cons.1 hr with rfl | hr
    · simp
    · have : y.house ≠ r.house := fun e => hn.1 (List.mem_map.2 ⟨r, hr, e.symm⟩)
      simp only [beq_eq_false_iff_ne.2 this]
      exact ih hn.2 hr
theorem atm_mem {l : List Itm} (hn : (l.map Itm.v).Nodup) {i : Itm} (hi : i ∈ l) : atm l i.v = some (.int .i64 i.n) := by
  induction l with
  | nil => cases hi
  | cons y l ih =>
    simp only [List.map_cons, List.nodup_cons] at hn
    unfold atm
    rw [List.find?_cons]
    rcases List.mem_cons.1 hi with rfl | hi
    · simp
    · have : y.v ≠ i.v := fun e => hn.1 (List.mem_map.2 ⟨i, hi, e.symm⟩)
      simp only [beq_eq_false_iff_ne.2 this]
      exact ih hn.2 hi
theorem atm_none {l : List Itm} {h : Int} (hno : ∀ i ∈ l, i.v ≠ h) : atm l h = none := by
  unfold atm
  rw [List.find?_eq_none.2 (by simpa using hno)]
  rfl
/-- The map of houses is told by the items that are there. -/
theorem atm_ext {l : List Itm} {m : Int → Option Value} (hn : (l.map Itm.v).Nodup) (h1 : ∀ i ∈ l, m i.v = some (.int .i64 i.n)) (h2 : ∀ h, (∀ i ∈ l, i.v ≠ h) → m h = none) : m = atm l := by
  funext h
  by_cases he : ∃ i ∈ l, i.v = h
  · obtain ⟨i, hi, rfl⟩ := he
    rw [h1 i hi, atm_mem hn hi]
  · have h' : ∀ i ∈ l, i.v ≠ h := fun i hi e => he ⟨i, hi, e⟩
    rw [h2 h h', atm_none h']
theorem atm_perm {l l' : List Itm} (hn : (l.map Itm.v).Nodup) (hp : l'.Perm l) : atm l = atm l' :=
  atm_ext ((hp.map _).nodup_iff.2 hn) (fun _ hi => atm_mem hn (hp.mem_iff.1 hi)) fun _ hno => atm_none fun i hi => hno i (hp.mem_iff.2 hi)

/-- A house has a row. -/
def putL (x : List Rw) (r : Rw) : List Rw := match x with
  | [] => [r]
  | y :: x => if y.house < r.house then y :: putL x r else r :: (y :: x).filter fun z => z.house != r.house
/-- Without a house. -/
def dropL (x : List Rw) (h : Int) : List Rw := x.filter fun z => z.house != h

theorem mem_putL {x : List Rw} {r z : Rw} : z ∈ putL x r ↔ z = r ∨ (z ∈ x ∧ z.house ≠ r.house) := by
  induction x with
  | nil => simp [putL]
  | cons y x ih =>
    unfold putL
    by_cases h : y.house < r.house
    · simp only [h, if_true, List.mem_cons, ih]
      constructor
      · rintro (rfl | rfl | ⟨h1, h2⟩)
        · exact .inr ⟨.inl rfl, by omega⟩
        · exact .inl rfl
        · exact .inr ⟨.inr h1, h2⟩
      · rintro (rfl | ⟨rfl | h1, h2⟩)
        · exact .inr (.inl rfl)
        · exact .inl rfl
        · exact .inr (.inr ⟨h1, h2⟩)
    · rw [if_neg h]
      simp only [List.mem_cons, List.mem_filter, bne_iff_ne]
theorem putL_houses {x : List Rw} (r : Rw) (hn : (x.map Rw.house).Nodup) : ((putL x r).map Rw.house).Nodup := by
  induction x with
  | nil => simp [putL]
  | cons y x ih =>
    unfold putL
    simp only [List.map_cons, List.nodup_cons] at hn
    by_cases h : y.house < r.house
    · simp only [h, if_true, List.map_cons, List.nodup_cons]
      refine ⟨fun hm => ?_, ih hn.2⟩
      obtain ⟨z, hz, hzy⟩ := List.mem_map.1 hm
      rcases mem_putL.1 hz with rfl | ⟨hz, -⟩
      · omega
      · exact hn.1 (List.mem_map.2 ⟨z, hz, hzy⟩)
    · rw [if_neg h]
      simp only [List.map_cons, List.nodup_cons]
      refine ⟨fun hm => ?_, ?_⟩
      · obtain ⟨z, hz, hzy⟩ := List.mem_map.1 hm
        simp only [List.mem_filter, bne_iff_ne] at hz
        exact hz.2 hzy
      · refine List.Nodup.sublist (List.Sublist.map _ List.filter_sublist) ?_
        simp only [List.map_cons, List.nodup_cons]
        exact hn
theorem fnd_putL {x : List Rw} (r : Rw) (hn : (x.map Rw.house).Nodup) (h : Int) : fnd (putL x r) h = if h = r.house then some r else fnd x h := by
  have hn' := putL_houses r hn
  split
  · rename_i e
    subst e
    exact fnd_mem hn' (mem_putL.2 (.inl rfl))
  · rename_i e
    cases hx : fnd x h with
    | none =>
      rw [fnd_none] at hx ⊢
      intro z hz
      rcases mem_putL.1 hz with rfl | ⟨hz, -⟩
      · exact Ne.symm e
      · exact hx z hz
    | some z =>
      obtain ⟨hz, rfl⟩ := fnd_some hx
      exact fnd_mem hn' (mem_putL.2 (.inr ⟨hz, e⟩))
theorem rwm_putL {x : List Rw} (r : Rw) (hn : (x.map Rw.house).Nodup) : upd (rwm x) r.house (some (.agg #[.int .i64 r.house, .int .i64 r.rate, .int .i64 r.due])) = rwm (putL x r) := by
  funext h
  unfold rwm
  rw [fnd_putL r hn]
  by_cases e : h = r.house
  · subst e; rw [upd_same]; simp
  · rw [upd_other e, if_neg e]
theorem putL_perm_new {x : List Rw} {r : Rw} (h : fnd x r.house = none) : (putL x r).Perm (r :: x) := by
  rw [fnd_none] at h
  induction x with
  | nil => exact List.Perm.refl _
  | cons y x ih =>
    unfold putL
    split
    · exact ((ih fun z hz => h z (by simp [hz])).cons y).trans (List.Perm.swap _ _ _)
    · rw [List.filter_eq_self.2 (fun z hz => by simpa using h z hz)]
theorem putL_perm_old {x : List Rw} {r y : Rw} (hn : (x.map Rw.house).Nodup) (h : fnd x r.house = some y) : ∃ t, x.Perm (y :: t) ∧ (putL x r).Perm (r :: t) := by
  induction x with
  | nil => cases h
  | cons z x ih =>
    simp only [List.map_cons, List.nodup_cons] at hn
    unfold fnd at h
    rw [List.find?_cons] at h
    unfold putL
    by_cases e : z.house = r.house
    · simp only [e, beq_self_eq_true, Option.some.injEq] at h
      subst h
      rw [if_neg (by omega)]
      refine ⟨x, List.Perm.refl _, ?_⟩
      rw [List.filter_cons]
      simp only [e, bne_self_eq_false, Bool.false_eq_true, if_false]
      rw [List.filter_eq_self.2]
      intro w hw
      simp only [bne_iff_ne]
      intro e2
      exact hn.1 (List.mem_map.2 ⟨w, hw, e2.trans e.symm⟩)
    · simp only [beq_eq_false_iff_ne.2 e] at h
      obtain ⟨t, h1, h2⟩ := ih hn.2 h
      split
      · exact ⟨z :: t, (h1.cons z).trans (List.Perm.swap _ _ _), (h2.cons z).trans (List.Perm.swap _ _ _)⟩
      · refine ⟨z :: t, (h1.cons z).trans (List.Perm.swap _ _ _), ?_⟩
        rw [List.filter_cons]
        simp only [bne_iff_ne.2 e, if_true]
        refine (List.Perm.cons _ (List.Perm.cons _ ?_))
        obtain ⟨hy, hyh⟩ := fnd_some h
        have hp := (h1.filter fun z => z.house != r.house)
        rw [List.filter_cons] at hp
        simp only [hyh, bne_self_eq_false, Bool.false_eq_true, if_false] at hp
        refine hp.trans ?_
        rw [List.filter_eq_self.2]
        intro w hw
        simp only [bne_iff_ne]
        intro e2
        have hx : ((y :: t).map Rw.house).Nodup := (h1.map _).nodup_iff.1 hn.2
        simp only [List.map_cons, List.nodup_cons] at hx
        exact hx.1 (List.mem_map.2 ⟨w, hw, e2.trans hyh.symm⟩)

theorem dropL_perm {x : List Rw} {y : Rw} (hn : (x.map Rw.house).Nodup) (hy : y ∈ x) : x.Perm (y :: dropL x y.house) := by
  induction x with
  | nil => cases hy
  | cons z x ih =>
    simp only [List.map_cons, List.nodup_cons] at hn
    unfold dropL
    rw [List.filter_cons]
    rcases List.mem_cons.1 hy with rfl | hy
    · simp only [bne_self_eq_false, Bool.false_eq_true, if_false]
      rw [List.filter_eq_self.2]
      intro w hw
      simp only [bne_iff_ne]
      intro e2
      exact hn.1 (List.mem_map.2 ⟨w, hw, e2⟩)
    · have : z.house ≠ y.house := fun e => hn.1 (List.mem_map.2 ⟨y, hy, e.symm⟩)
      simp only [bne_iff_ne.2 this, if_true]
      exact ((ih hn.2 hy).cons z).trans (List.Perm.swap _ _ _)
theorem dropL_houses {x : List Rw} (h : Int) (hn : (x.map Rw.house).Nodup) : ((dropL x h).map Rw.house).Nodup := List.Nodup.sublist (List.Sublist.map _ List.filter_sublist) hn
theorem rwm_dropL {x : List Rw} (h : Int) (hn : (x.map Rw.house).Nodup) : upd (rwm x) h none = rwm (dropL x h) := by
  funext k
  unfold rwm
  by_cases e : k = h
  · subst e
    rw [upd_same, fnd_none.2]
    · rfl
    · intro r hr
      simp only [dropL, List.mem_filter, bne_iff_ne] at hr
      exact hr.2
  · rw [upd_other e]
    cases hx : fnd x k with
    | none =>
      rw [fnd_none.2]
      rw [fnd_none] at hx
      intro r hr
      simp only [dropL, List.mem_filter] at hr
      exact hx r hr.1
    | some r =>
      obtain ⟨hr, rfl⟩ := fnd_some hx
      rw [fnd_mem (dropL_houses h hn) (by simp only [dropL, List.mem_filter, bne_iff_ne]; exact ⟨hr, e⟩)]

/-- Rows, and the items of a queue, that fit together. -/
structure RP (x : List Rw) (l : List Itm) (added : Int) : Prop where
  nd : (x.map Rw.house).Nodup
  perm : (l.map fun i => (i.v, i.due)).Perm (x.map fun r => (r.house, r.due))
  le : ∀ i ∈ l, i.n ≤ added

theorem RP.nv {x : List Rw} {l : List Itm} {added : Int} (h : RP x l added) : (l.map Itm.v).Nodup := by
  have := (h.perm.map Prod.fst)
  rw [List.map_map, List.map_map] at this
  exact this.nodup_iff.2 h.nd
theorem RP.len {x : List Rw} {l : List Itm} {added : Int} (h : RP x l added) : l.length = x.length := by
  have := h.perm.length_eq
  simpa using this
theorem RP.no {x : List Rw} {l : List Itm} {added : Int} (h : RP x l added) {k : Int} (hk : fnd x k = none) : ∀ i ∈ l, i.v ≠ k := by
  intro i hi e
  have : (i.v, i.due) ∈ x.map fun r => (r.house, r.due) := h.perm.mem_iff.1 (List.mem_map.2 ⟨i, hi, rfl⟩)
  obtain ⟨r, hr, hre⟩ := List.mem_map.1 this
  simp only [Prod.mk.injEq] at hre
  exact fnd_none.1 hk r hr (hre.1.trans e)
theorem RP.has {x : List Rw} {l : List Itm} {added : Int} (h : RP x l added) {k : Int} {r : Rw} (hk : fnd x k = some r) : ∃ (j : Nat) (i : Itm), l[j]? = some i ∧ i.v = k ∧ i.due = r.due := by
  obtain ⟨hr, rfl⟩ := fnd_some hk
  have : (r.house, r.due) ∈ l.map fun i => (i.v, i.due) := h.perm.mem_iff.2 (List.mem_map.2 ⟨r, hr, rfl⟩)
  obtain ⟨i, hi, hie⟩ := List.mem_map.1 this
  simp only [Prod.mk.injEq] at hie
  obtain ⟨j, hj⟩ := List.mem_iff_getElem?.1 hi
  exact ⟨j, i, hj, hie.1, hie.2⟩

theorem RP.add {x : List Rw} {l l' : List Itm} {added : Int} {r : Rw} (h : RP x l added) (hr : fnd x r.house = none) (hl : l'.Perm (l ++ [⟨added + 1, r.due, r.house⟩])) :
    RP (putL x r) l' (added + 1) ∧ upd (atm l) r.house (some (.int .i64 (added + 1))) = atm l' := by
  have hp : (l'.map fun i => (i.v, i.due)).Perm ((putL x r).map fun r => (r.house, r.due)) := by
    refine (hl.map _).trans (List.Perm.trans ?_ ((putL_perm_new hr).map _).symm)
    rw [List.map_append, List.map_cons, List.map_cons]
    refine List.perm_append_comm.trans ?_
    exact List.Perm.cons _ h.perm
  have hRP : RP (putL x r) l' (added + 1) := by
    refine ⟨putL_houses r h.nd, hp, fun i hi => ?_⟩
    have := hl.mem_iff.1 hi
    rcases List.mem_append.1 this with h1 | h1
    · have := h.le i h1; omega
    · simp at h1; subst h1; show added + 1 ≤ added + 1; omega
  refine ⟨hRP, atm_ext hRP.nv (fun i hi => ?_) fun k hno => ?_⟩
  · rcases List.mem_append.1 (hl.mem_iff.1 hi) with h1 | h1
    · rw [upd_other (h.no hr i h1)]; exact atm_mem h.nv h1
    · simp at h1; subst h1; exact upd_same _ _ _
  · have hk : k ≠ r.house := fun e => hno ⟨added + 1, r.due, r.house⟩ (hl.mem_iff.2 (by simp)) e.symm
    rw [upd_other hk]
    exact atm_none fun i hi => hno i (hl.mem_iff.2 (by simp [hi]))

theorem map_set {α β : Type} (f : α → β) (l : List α) (i : Nat) (a : α) : (l.set i a).map f = (l.map f).set i (f a) := by simp
theorem set_permR {α : Type} {l : List α} {i : Nat} {a b : α} (h : l[i]? = some a) : ∃ t, l.Perm (a :: t) ∧ (l.set i b).Perm (b :: t) := by
  obtain ⟨hi, he⟩ := List.getElem?_eq_some_iff.1 h
  refine ⟨l.take i ++ l.drop (i + 1), ?_, ?_⟩
  · have : l.take i ++ (a :: l.drop (i + 1)) = l := by rw [← he, List.getElem_cons_drop, List.take_append_drop]
    exact (List.Perm.of_eq this.symm).trans List.perm_middle
  · rw [List.set_eq_take_append_cons_drop, if_pos hi]
    exact List.perm_middle

theorem RP.move {x : List Rw} {l l' : List Itm} {added : Int} {r y : Rw} {j : Nat} {i : Itm} (h : RP x l added) (hr : fnd x r.house = some y) (hj : l[j]? = some i) (hv : i.v = r.house) (hd : i.due = y.due) (hl : l'.Perm (l.set j { i with due := r.due })) :
    RP (putL x r) l' added ∧ atm l = atm l' := by
  obtain ⟨t, hx1, hx2⟩ := putL_perm_old h.nd hr
  obtain ⟨s, hl1, hl2⟩ := set_permR (b := { i with due := r.due }) hj
  have hyh := (fnd_some hr).2
  have hst : (s.map fun i => (i.v, i.due)).Perm (t.map fun r => (r.house, r.due)) := by
    have h1 := (hl1.map fun i => (i.v, i.due)).symm.trans (h.perm.trans (hx1.map fun r => (r.house, r.due)))
    simp only [List.map_cons] at h1
    rw [hv, hd, hyh] at h1
    exact (List.perm_cons _).1 h1
  have hp : (l'.map fun i => (i.v, i.due)).Perm ((putL x r).map fun r => (r.house, r.due)) := by
    refine ((hl.trans hl2).map _).trans (List.Perm.trans ?_ (hx2.map _).symm)
    simp only [List.map_cons, hv]
    exact hst.cons _
  have hRP : RP (putL x r) l' added := by
    refine ⟨putL_houses r h.nd, hp, fun k hk => ?_⟩
    rcases List.mem_or_eq_of_mem_set (hl.mem_iff.1 hk) with h1 | h1
    · exact h.le k h1
    · subst h1; exact h.le i (List.mem_of_getElem? hj)
  refine ⟨hRP, atm_ext hRP.nv (fun k hk => ?_) fun k hno => ?_⟩
  · rcases List.mem_or_eq_of_mem_set (hl.mem_iff.1 hk) with h1 | h1
    · exact atm_mem h.nv h1
    · subst h1; show atm l i.v = some (.int .i64 i.n); exact atm_mem h.nv (List.mem_of_getElem? hj)
  · refine atm_none fun z hz => ?_
    rcases List.mem_cons.1 (hl1.mem_iff.1 hz) with rfl | hz
    · exact hno { z with due := r.due } (hl.mem_iff.2 (hl2.mem_iff.2 (by simp)))
    · exact hno z (hl.mem_iff.2 (hl2.mem_iff.2 (by simp [hz])))

theorem RP.drop {x : List Rw} {l l' : List Itm} {added : Int} {y : Rw} {i : Itm} (h : RP x l added) (hy : fnd x y.house = some y) (hv : i.v = y.house) (hd : i.due = y.due) (hl : l.Perm (i :: l')) :
    RP (dropL x y.house) l' added ∧ upd (atm l) y.house none = atm l' := by
  have hx := dropL_perm h.nd (fnd_some hy).1
  have hRP : RP (dropL x y.house) l' added := by
    refine ⟨dropL_houses _ h.nd, ?_, fun k hk => h.le k (hl.mem_iff.2 (by simp [hk]))⟩
    have h1 := (hl.map fun i => (i.v, i.due)).symm.trans (h.perm.trans (hx.map fun r => (r.house, r.due)))
    simp only [List.map_cons] at h1
    rw [hv, hd] at h1
    exact (List.perm_cons _).1 h1
  have hnv : ((i :: l').map Itm.v).Nodup := (hl.map _).nodup_iff.1 h.nv
  simp only [List.map_cons, List.nodup_cons] at hnv
  refine ⟨hRP, atm_ext hRP.nv (fun k hk => ?_) fun k hno => ?_⟩
  · rw [upd_other (fun e => hnv.1 (List.mem_map.2 ⟨k, hk, by rw [hv]; exact e⟩))]
    exact atm_mem h.nv (hl.mem_iff.2 (by simp [hk]))
  · by_cases e : k = y.house
    · subst e; exact upd_same _ _ _
    · rw [upd_other e]
      refine atm_none fun z hz => ?_
      rcases List.mem_cons.1 (hl.mem_iff.1 hz) with rfl | hz
      · rw [hv]; exact Ne.symm e
      · exact hno z hz

end Go.Proofs.Ytjpkpckgkhbfpaa
