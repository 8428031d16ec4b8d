/- The record of a law's operation. -/
import Derived.Test.YtbmogbbenfpmiaaBase
namespace Go.Proofs.Ytbmogbbenfpmiaa
structure Bop where
  kind : Int
  a : Int
  b : Int
  n : Int
  ends : Int
  deriving DecidableEq
def Bop.vals (x : Bop) : List Value := [.int .i64 x.kind, .int .i64 x.a, .int .i64 x.b, .int .i64 x.n, .int .i64 x.ends]
def Bop.zero : Bop := ⟨0, 0, 0, 0, 0⟩
theorem Bop.vals_len (l : List Bop) : (l.flatMap Bop.vals).length = l.length * 5 := by
  induction l with
  | nil => rfl
  | cons x l ih => rw [List.flatMap_cons, List.length_append, ih, List.length_cons]; simp only [Bop.vals, List.length_cons, List.length_nil]; omega
theorem Bop.vals_at (l : List Bop) : ∀ (k : Nat) (x : Bop), l[k]? = some x → ∀ j, j < 5 → (l.flatMap Bop.vals)[k * 5 + j]? = x.vals[j]? := by
  induction l with
  | nil => intro k x h; simp at h
  | cons y l ih =>
    intro k x h j hj
    cases k with
    | zero =>
      simp only [List.getElem?_cons_zero, Option.some.injEq] at h
      subst h
      rw [List.flatMap_cons, Nat.zero_mul, Nat.zero_add, List.getElem?_append_left (by simp [Bop.vals]; omega)]
    | succ k =>
      simp only [List.getElem?_cons_succ] at h
      rw [List.flatMap_cons, List.getElem?_append_right (by simp [Bop.vals]; omega)]
      rw [← ih k x h j hj]
      congr 1
      simp [Bop.vals]
      omega
theorem Bop.take_vals (l : List Bop) : ∀ k, (l.take k).flatMap Bop.vals = (l.flatMap Bop.vals).take (k * 5) := by
  induction l with
  | nil => intro k; simp
  | cons x l ih =>
    intro k
    cases k with
    | zero => simp
    | succ k =>
      rw [List.take_succ_cons, List.flatMap_cons, List.flatMap_cons, ih k]
      have e : (k + 1) * 5 = x.vals.length + k * 5 := by simp [Bop.vals]; omega
      rw [e, List.take_length_add_append]
theorem Bop.drop_vals (l : List Bop) : ∀ k, (l.drop k).flatMap Bop.vals = (l.flatMap Bop.vals).drop (k * 5) := by
  induction l with
  | nil => intro k; simp
  | cons x l ih =>
    intro k
    cases k with
    | zero => simp
    | succ k =>
      rw [List.drop_succ_cons, List.flatMap_cons, ih k]
      have e : (k + 1) * 5 = x.vals.length + k * 5 := by simp [Bop.vals]; omega
      rw [e, List.drop_length_add_append]
theorem Bop.erase_vals (l : List Bop) (k : Nat) : (l.eraseIdx k).flatMap Bop.vals = (l.flatMap Bop.vals).take (k * 5) ++ (l.flatMap Bop.vals).drop ((k + 1) * 5) := by
  rw [List.eraseIdx_eq_take_drop_succ, List.flatMap_append, Bop.take_vals, Bop.drop_vals]
theorem Bop.one_cell (l : List Bop) : ∀ u ∈ l.flatMap Bop.vals, u.oneCell' = true := by
  intro u hu
  obtain ⟨x, _, hx⟩ := List.mem_flatMap.1 hu
  simp only [Bop.vals, List.mem_cons, List.not_mem_nil, or_false] at hx
  rcases hx with rfl | rfl | rfl | rfl | rfl <;> rfl
theorem Sl.atBop {w : World} {A : Option Addr} {l : List Bop} (h : Sl w 5 A l.length (l.flatMap Bop.vals)) {k : Nat} {x : Bop} (hx : l[k]? = some x) :
    ∃ b off, A = some ⟨b, off, none⟩ ∧ b < w.heap.size ∧ w.cell? ⟨b, off + k * 5, none⟩ = some (.int .i64 x.kind) ∧ w.cell? ⟨b, off + k * 5 + 1, none⟩ = some (.int .i64 x.a) ∧ w.cell? ⟨b, off + k * 5 + 2, none⟩ = some (.int .i64 x.b) ∧ w.cell? ⟨b, off + k * 5 + 3, none⟩ = some (.int .i64 x.n) ∧ w.cell? ⟨b, off + k * 5 + 4, none⟩ = some (.int .i64 x.ends) := by
  have hk : k < l.length := (List.getElem?_eq_some_iff.1 hx).1
  obtain ⟨b, off, hA, hb, hc⟩ := h.2 (by omega)
  have hv := Bop.vals_at l k x hx
  refine ⟨b, off, hA, hb, ?_, ?_, ?_, ?_, ?_⟩
  · have := hc (k * 5 + 0) (.int .i64 x.kind) ((hv 0 (by omega)).trans rfl)
    simpa [Nat.add_assoc] using this
  · have := hc (k * 5 + 1) (.int .i64 x.a) ((hv 1 (by omega)).trans rfl)
    simpa [Nat.add_assoc] using this
  · have := hc (k * 5 + 2) (.int .i64 x.b) ((hv 2 (by omega)).trans rfl)
    simpa [Nat.add_assoc] using this
  · have := hc (k * 5 + 3) (.int .i64 x.n) ((hv 3 (by omega)).trans rfl)
    simpa [Nat.add_assoc] using this
  · have := hc (k * 5 + 4) (.int .i64 x.ends) ((hv 4 (by omega)).trans rfl)
    simpa [Nat.add_assoc] using this
theorem Bop.sl_mk {w : World} {b off : Nat} {l : List Bop} (hb : b < w.heap.size) (h : ∀ i r, l[i]? = some r → ∀ j u, r.vals[j]? = some u → w.cell? ⟨b, off + (i * 5 + j), none⟩ = some u) : Sl w 5 (some ⟨b, off, none⟩) l.length (l.flatMap Bop.vals) := by
  refine ⟨Bop.vals_len l, fun _ => ⟨b, off, rfl, hb, fun j u hu => ?_⟩⟩
  have hj : j < l.length * 5 := by
    rw [← Bop.vals_len l]; exact (List.getElem?_eq_some_iff.1 hu).1
  have hi : j / 5 < l.length := by omega
  have hr : l[j / 5]? = some l[j / 5] := List.getElem?_eq_getElem hi
  have he : j = j / 5 * 5 + j % 5 := by omega
  have hv := Bop.vals_at l (j / 5) _ hr (j % 5) (by omega)
  rw [← he, hu] at hv
  have := h (j / 5) _ hr (j % 5) u hv.symm
  rwa [← he] at this
def Bop.ok (x : Bop) : Prop := -9223372036854775808 ≤ x.kind ∧ x.kind ≤ 9223372036854775807 ∧ -9223372036854775808 ≤ x.a ∧ x.a ≤ 9223372036854775807 ∧ -9223372036854775808 ≤ x.b ∧ x.b ≤ 9223372036854775807 ∧ -9223372036854775808 ≤ x.n ∧ x.n ≤ 9223372036854775807 ∧ -9223372036854775808 ≤ x.ends ∧ x.ends ≤ 9223372036854775807
theorem Bop.set_kind (l : List Bop) (v : Int) : ∀ (k : Nat) (x : Bop), l[k]? = some x → (l.flatMap Bop.vals).set (k * 5) (.int .i64 v) = (l.set k { x with kind := v }).flatMap Bop.vals := by
  induction l with
  | nil => intro k x h; simp at h
  | cons y l ih =>
    intro k x h
    cases k with
    | zero =>
      simp only [List.getElem?_cons_zero, Option.some.injEq] at h
      subst h
      simp [Bop.vals]
    | succ k =>
      simp only [List.getElem?_cons_succ] at h
      rw [List.flatMap_cons, List.set_cons_succ, List.flatMap_cons, ← ih k x h]
      have e : (k + 1) * 5 = (k * 5) + 5 := by omega
      rw [e]
      simp [Bop.vals]
theorem Bop.set_a (l : List Bop) (v : Int) : ∀ (k : Nat) (x : Bop), l[k]? = some x → (l.flatMap Bop.vals).set (k * 5 + 1) (.int .i64 v) = (l.set k { x with a := v }).flatMap Bop.vals := by
  induction l with
  | nil => intro k x h; simp at h
  | cons y l ih =>
    intro k x h
    cases k with
    | zero =>
      simp only [List.getElem?_cons_zero, Option.some.injEq] at h
      subst h
      simp [Bop.vals]
    | succ k =>
      simp only [List.getElem?_cons_succ] at h
      rw [List.flatMap_cons, List.set_cons_succ, List.flatMap_cons, ← ih k x h]
      have e : (k + 1) * 5 + 1 = (k * 5 + 1) + 5 := by omega
      rw [e]
      simp [Bop.vals]
theorem Bop.set_b (l : List Bop) (v : Int) : ∀ (k : Nat) (x : Bop), l[k]? = some x → (l.flatMap Bop.vals).set (k * 5 + 2) (.int .i64 v) = (l.set k { x with b := v }).flatMap Bop.vals := by
  induction l with
  | nil => intro k x h; simp at h
  | cons y l ih =>
    intro k x h
    cases k with
    | zero =>
      simp only [List.getElem?_cons_zero, Option.some.injEq] at h
      subst h
      simp [Bop.vals]
    | succ k =>
      simp only [List.getElem?_cons_succ] at h
      rw [List.flatMap_cons, List.set_cons_succ, List.flatMap_cons, ← ih k x h]
      have e : (k + 1) * 5 + 2 = (k * 5 + 2) + 5 := by omega
      rw [e]
      simp [Bop.vals]
theorem Bop.set_n (l : List Bop) (v : Int) : ∀ (k : Nat) (x : Bop), l[k]? = some x → (l.flatMap Bop.vals).set (k * 5 + 3) (.int .i64 v) = (l.set k { x with n := v }).flatMap Bop.vals := by
  induction l with
  | nil => intro k x h; simp at h
  | cons y l ih =>
    intro k x h
    cases k with
    | zero =>
      simp only [List.getElem?_cons_zero, Option.some.injEq] at h
      subst h
      simp [Bop.vals]
    | succ k =>
      simp only [List.getElem?_cons_succ] at h
      rw [List.flatMap_cons, List.set_cons_succ, List.flatMap_cons, ← ih k x h]
      have e : (k + 1) * 5 + 3 = (k * 5 + 3) + 5 := by omega
      rw [e]
      simp [Bop.vals]
theorem Bop.set_ends (l : List Bop) (v : Int) : ∀ (k : Nat) (x : Bop), l[k]? = some x → (l.flatMap Bop.vals).set (k * 5 + 4) (.int .i64 v) = (l.set k { x with ends := v }).flatMap Bop.vals := by
  induction l with
  | nil => intro k x h; simp at h
  | cons y l ih =>
    intro k x h
    cases k with
    | zero =>
      simp only [List.getElem?_cons_zero, Option.some.injEq] at h
      subst h
      simp [Bop.vals]
    | succ k =>
      simp only [List.getElem?_cons_succ] at h
      rw [List.flatMap_cons, List.set_cons_succ, List.flatMap_cons, ← ih k x h]
      have e : (k + 1) * 5 + 4 = (k * 5 + 4) + 5 := by omega
      rw [e]
      simp [Bop.vals]
end Go.Proofs.Ytbmogbbenfpmiaa
