/- The queue: what lies in memory; New, put, swap. -/
import Derived.Test.YtjpkpckgkhbfpaaRows
import Derived.Test.YtjpkpckgkhbfpaaRow
import Derived.Test.YtjpkpckgkhbfpaaMap
namespace Go.Proofs.Ytjpkpckgkhbfpaa
open Go.RowKit Go.Maps

structure Itm where
  n : Int
  due : Int
  v : Int
  deriving DecidableEq
def Itm.vals (x : Itm) : List Value := [.int .i64 x.n, .int .i64 x.due, .int .i64 x.v]
def Itm.zero : Itm := ⟨0, 0, 0⟩
theorem Itm.vals_len (l : List Itm) : (l.flatMap Itm.vals).length = l.length * 3 := by
  induction l with
  | nil => rfl
  | cons x l ih => rw [List.flatMap_cons, List.length_append, ih, List.length_cons]; simp only [Itm.vals, List.length_cons, List.length_nil]; omega
theorem Itm.vals_at (l : List Itm) : ∀ (k : Nat) (x : Itm), l[k]? = some x → ∀ j, j < 3 → (l.flatMap Itm.vals)[k * 3 + j]? = x.vals[j]? := by
  induction l with
  | nil => intro k x h; simp at h
  | cons y l ih =>
    intro k x h j hj
    cases k with
    | zero =>
      simp only [List.getElem?_cons_zero, Option.some.injEq] at h
      subst h
      rw [List.flatMap_cons, Nat.zero_mul, Nat.zero_add, List.getElem?_append_left (by simp [Itm.vals]; omega)]
    | succ k =>
      simp only [List.getElem?_cons_succ] at h
      rw [List.flatMap_cons, List.getElem?_append_right (by simp [Itm.vals]; omega)]
      rw [← ih k x h j hj]
      congr 1
      simp [Itm.vals]
      omega
theorem Itm.take_vals (l : List Itm) : ∀ k, (l.take k).flatMap Itm.vals = (l.flatMap Itm.vals).take (k * 3) := by
  induction l with
  | nil => intro k; simp
  | cons x l ih =>
    intro k
    cases k with
    | zero => simp
    | succ k =>
      rw [List.take_succ_cons, List.flatMap_cons, List.flatMap_cons, ih k]
      have e : (k + 1) * 3 = x.vals.length + k * 3 := by simp [Itm.vals]; omega
      rw [e, List.take_length_add_append]
theorem Itm.drop_vals (l : List Itm) : ∀ k, (l.drop k).flatMap Itm.vals = (l.flatMap Itm.vals).drop (k * 3) := by
  induction l with
  | nil => intro k; simp
  | cons x l ih =>
    intro k
    cases k with
    | zero => simp
    | succ k =>
      rw [List.drop_succ_cons, List.flatMap_cons, ih k]
      have e : (k + 1) * 3 = x.vals.length + k * 3 := by simp [Itm.vals]; omega
      rw [e, List.drop_length_add_append]
theorem Itm.erase_vals (l : List Itm) (k : Nat) : (l.eraseIdx k).flatMap Itm.vals = (l.flatMap Itm.vals).take (k * 3) ++ (l.flatMap Itm.vals).drop ((k + 1) * 3) := by
  rw [List.eraseIdx_eq_take_drop_succ, List.flatMap_append, Itm.take_vals, Itm.drop_vals]
theorem Itm.one_cell (l : List Itm) : ∀ u ∈ l.flatMap Itm.vals, u.oneCell' = true := by
  intro u hu
  obtain ⟨x, _, hx⟩ := List.mem_flatMap.1 hu
  simp only [Itm.vals, List.mem_cons, List.not_mem_nil, or_false] at hx
  rcases hx with rfl | rfl | rfl <;> rfl
theorem Sl.atItm {w : World} {A : Option Addr} {l : List Itm} (h : Sl w 3 A l.length (l.flatMap Itm.vals)) {k : Nat} {x : Itm} (hx : l[k]? = some x) :
    ∃ b off, A = some ⟨b, off, none⟩ ∧ b < w.heap.size ∧ w.cell? ⟨b, off + k * 3, none⟩ = some (.int .i64 x.n) ∧ w.cell? ⟨b, off + k * 3 + 1, none⟩ = some (.int .i64 x.due) ∧ w.cell? ⟨b, off + k * 3 + 2, none⟩ = some (.int .i64 x.v) := by
  have hk : k < l.length := (List.getElem?_eq_some_iff.1 hx).1
  obtain ⟨b, off, hA, hb, hc⟩ := h.2 (by omega)
  have hv := Itm.vals_at l k x hx
  refine ⟨b, off, hA, hb, ?_, ?_, ?_⟩
  · have := hc (k * 3 + 0) (.int .i64 x.n) ((hv 0 (by omega)).trans rfl)
    simpa [Nat.add_assoc] using this
  · have := hc (k * 3 + 1) (.int .i64 x.due) ((hv 1 (by omega)).trans rfl)
    simpa [Nat.add_assoc] using this
  · have := hc (k * 3 + 2) (.int .i64 x.v) ((hv 2 (by omega)).trans rfl)
    simpa [Nat.add_assoc] using this
theorem Itm.sl_mk {w : World} {b off : Nat} {l : List Itm} (hb : b < w.heap.size) (h : ∀ i r, l[i]? = some r → ∀ j u, r.vals[j]? = some u → w.cell? ⟨b, off + (i * 3 + j), none⟩ = some u) : Sl w 3 (some ⟨b, off, none⟩) l.length (l.flatMap Itm.vals) := by
  refine ⟨Itm.vals_len l, fun _ => ⟨b, off, rfl, hb, fun j u hu => ?_⟩⟩
  have hj : j < l.length * 3 := by
    rw [← Itm.vals_len l]; exact (List.getElem?_eq_some_iff.1 hu).1
  have hi : j / 3 < l.length := by omega
  have hr : l[j / 3]? = some l[j / 3] := List.getElem?_eq_getElem hi
  have he : j = j / 3 * 3 + j % 3 := by omega
  have hv := Itm.vals_at l (j / 3) _ hr (j % 3) (by omega)
  rw [← he, hu] at hv
  have := h (j / 3) _ hr (j % 3) u hv.symm
  rwa [← he] at this
def Itm.ok (x : Itm) : Prop := -9223372036854775808 ≤ x.n ∧ x.n ≤ 9223372036854775807 ∧ -9223372036854775808 ≤ x.due ∧ x.due ≤ 9223372036854775807 ∧ -9223372036854775808 ≤ x.v ∧ x.v ≤ 9223372036854775807
theorem Itm.set_n (l : List Itm) (v : Int) : ∀ (k : Nat) (x : Itm), l[k]? = some x → (l.flatMap Itm.vals).set (k * 3) (.int .i64 v) = (l.set k { x with n := v }).flatMap Itm.vals := by
  induction l with
  | nil => intro k x h; simp at h
  | cons y l ih =>
    intro k x h
    cases k with
    | zero =>
      simp only [List.getElem?_cons_zero, Option.some.injEq] at h
      subst h
      simp [Itm.vals]
    | succ k =>
      simp only [List.getElem?_cons_succ] at h
      rw [List.flatMap_cons, List.set_cons_succ, List.flatMap_cons, ← ih k x h]
      have e : (k + 1) * 3 = (k * 3) + 3 := by omega
      rw [e]
      simp [Itm.vals]
theorem Itm.set_due (l : List Itm) (v : Int) : ∀ (k : Nat) (x : Itm), l[k]? = some x → (l.flatMap Itm.vals).set (k * 3 + 1) (.int .i64 v) = (l.set k { x with due := v }).flatMap Itm.vals := by
  induction l with
  | nil => intro k x h; simp at h
  | cons y l ih =>
    intro k x h
    cases k with
    | zero =>
      simp only [List.getElem?_cons_zero, Option.some.injEq] at h
      subst h
      simp [Itm.vals]
    | succ k =>
      simp only [List.getElem?_cons_succ] at h
      rw [List.flatMap_cons, List.set_cons_succ, List.flatMap_cons, ← ih k x h]
      have e : (k + 1) * 3 + 1 = (k * 3 + 1) + 3 := by omega
      rw [e]
      simp [Itm.vals]
theorem Itm.set_v (l : List Itm) (v : Int) : ∀ (k : Nat) (x : Itm), l[k]? = some x → (l.flatMap Itm.vals).set (k * 3 + 2) (.int .i64 v) = (l.set k { x with v := v }).flatMap Itm.vals := by
  induction l with
  | nil => intro k x h; simp at h
  | cons y l ih =>
    intro k x h
    cases k with
    | zero =>
      simp only [List.getElem?_cons_zero, Option.some.injEq] at h
      subst h
      simp [Itm.vals]
    | succ k =>
      simp only [List.getElem?_cons_succ] at h
      rw [List.flatMap_cons, List.set_cons_succ, List.flatMap_cons, ← ih k x h]
      have e : (k + 1) * 3 + 2 = (k * 3 + 2) + 3 := by omega
      rw [e]
      simp [Itm.vals]

/-- Where in a list each number is. -/
def ixm (l : List Itm) (n : Int) : Option Value := (l.findIdx? (fun x => x.n == n)).map fun i => .int .i64 (i : Int)

theorem kInt : Keyed Try.prog 3 := int_keyed Try.underlying3
theorem zInt (w : World) : (zeroValue 3).run Try.prog w = .ok (.int .i64 0) w := by kernel_rfl

/-- A queue of some items, in memory; m: its map. -/
structure QIn (w : World) (b : Nat) (l : List Itm) (A : Option Addr) (c M : Nat) (added : Int) (m : Int → Option Value) (s : Nat) : Prop where
  blk : Blk w b 80 #[.slice A l.length c, .map (some M), .int .i64 added]
  own : w.ownsRow 0 97 3 (.slice A l.length c) l.length (l.flatMap Itm.vals)
  mp : IMap Try.prog 3 w M m s

/-- The blocks of a queue. -/
def QF (b : Nat) (A : Option Addr) (M : Nat) : Nat → Prop := fun k => k = b ∨ k = M ∨ ∃ a, A = some a ∧ k = a.block

theorem QIn.chg {G : Nat → Prop} {w w' : World} {b c M s : Nat} {l : List Itm} {A : Option Addr} {added : Int} {m : Int → Option Value} (h : QIn w b l A c M added m s) (hc : Chg G w w') (hG : ∀ k, QF b A M k → ¬ G k) : QIn w' b l A c M added m s :=
  ⟨h.blk.chg hc (hG _ (.inl rfl)), own_chg h.own hc (fun g hg => hG _ (.inr (.inr (by cases A with | none => simp [Value.ownBlock] at hg | some a => simp [Value.ownBlock] at hg; exact ⟨a, rfl, hg.symm⟩)))), h.mp.chg hc (hG _ (.inr (.inl rfl)))⟩
theorem QIn.grew {w w' : World} {b c M s : Nat} {l : List Itm} {A : Option Addr} {added : Int} {m : Int → Option Value} (h : QIn w b l A c M added m s) (hc : Grew w w') : QIn w' b l A c M added m s := h.chg hc fun _ _ => id

theorem new_any (w : World) :
    Calls Try.prog 26 #[] w fun e w' => e = .returned (.pointer (some ⟨w.heap.size + 1, 0, none⟩)) ∧ (w.alloc (.map #[] 0)).alloc (.cells #[.slice none 0 0, .map (some w.heap.size), .int .i64 0] 80) = w' := by
  have qm : ∀ u : World, (Instr.makeMap 62 none).run Try.prog u = .ok (.map (some u.heap.size)) (u.alloc (.map #[] 0)) := fun u => run_makeMap _ u
  go_enter Try.func26, Try.ntmps26
  go_wp2
  go_ret
  exact ⟨by simp, rfl⟩

end Go.Proofs.Ytjpkpckgkhbfpaa
