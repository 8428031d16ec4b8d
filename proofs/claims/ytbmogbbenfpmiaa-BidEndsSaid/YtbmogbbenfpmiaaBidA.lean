/- The auctions: records, what a list of them is in memory, and the contracts of the functions that only reckon or search. -/
import Derived.Test.YtbmogbbenfpmiaaRows
import Derived.Test.YtbmogbbenfpmiaaBase
import Derived.Shelf.Abstract
namespace Go.Proofs.Ytbmogbbenfpmiaa
open Go.RowKit

structure Auc where
  id : Int
  deed : Int
  seller : Int
  least : Int
  best : Int
  bidder : Int
  ends : Int
  deriving DecidableEq
def Auc.vals (x : Auc) : List Value := [.int .i64 x.id, .int .i64 x.deed, .int .i64 x.seller, .int .i64 x.least, .int .i64 x.best, .int .i64 x.bidder, .int .i64 x.ends]
def Auc.zero : Auc := ⟨0, 0, 0, 0, 0, 0, 0⟩
theorem Auc.vals_len (l : List Auc) : (l.flatMap Auc.vals).length = l.length * 7 := by
  induction l with
  | nil => rfl
  | cons x l ih => rw [List.flatMap_cons, List.length_append, ih, List.length_cons]; simp only [Auc.vals, List.length_cons, List.length_nil]; omega
theorem Auc.vals_at (l : List Auc) : ∀ (k : Nat) (x : Auc), l[k]? = some x → ∀ j, j < 7 → (l.flatMap Auc.vals)[k * 7 + j]? = x.vals[j]? := by
  induction l with
  | nil => intro k x h; simp at h
  | cons y l ih =>
    intro k x h j hj
    cases k with
    | zero =>
      simp only [List.getElem?_cons_zero, Option.some.injEq] at h
      subst h
      rw [List.flatMap_cons, Nat.zero_mul, Nat.zero_add, List.getElem?_append_left (by simp [Auc.vals]; omega)]
    | succ k =>
      simp only [List.getElem?_cons_succ] at h
      rw [List.flatMap_cons, List.getElem?_append_right (by simp [Auc.vals]; omega)]
      rw [← ih k x h j hj]
      congr 1
      simp [Auc.vals]
      omega
theorem Auc.take_vals (l : List Auc) : ∀ k, (l.take k).flatMap Auc.vals = (l.flatMap Auc.vals).take (k * 7) := by
  induction l with
  | nil => intro k; simp
  | cons x l ih =>
    intro k
    cases k with
    | zero => simp
    | succ k =>
      rw [List.take_succ_cons, List.flatMap_cons, List.flatMap_cons, ih k]
      have e : (k + 1) * 7 = x.vals.length + k * 7 := by simp [Auc.vals]; omega
      rw [e, List.take_length_add_append]
theorem Auc.drop_vals (l : List Auc) : ∀ k, (l.drop k).flatMap Auc.vals = (l.flatMap Auc.vals).drop (k * 7) := by
  induction l with
  | nil => intro k; simp
  | cons x l ih =>
    intro k
    cases k with
    | zero => simp
    | succ k =>
      rw [List.drop_succ_cons, List.flatMap_cons, ih k]
      have e : (k + 1) * 7 = x.vals.length + k * 7 := by simp [Auc.vals]; omega
      rw [e, List.drop_length_add_append]
theorem Auc.erase_vals (l : List Auc) (k : Nat) : (l.eraseIdx k).flatMap Auc.vals = (l.flatMap Auc.vals).take (k * 7) ++ (l.flatMap Auc.vals).drop ((k + 1) * 7) := by
  rw [List.eraseIdx_eq_take_drop_succ, List.flatMap_append, Auc.take_vals, Auc.drop_vals]
theorem Auc.one_cell (l : List Auc) : ∀ u ∈ l.flatMap Auc.vals, u.oneCell' = true := by
  intro u hu
  obtain ⟨x, _, hx⟩ := List.mem_flatMap.1 hu
  simp only [Auc.vals, List.mem_cons, List.not_mem_nil, or_false] at hx
  rcases hx with rfl | rfl | rfl | rfl | rfl | rfl | rfl <;> rfl
theorem Sl.atAuc {w : World} {A : Option Addr} {l : List Auc} (h : Sl w 7 A l.length (l.flatMap Auc.vals)) {k : Nat} {x : Auc} (hx : l[k]? = some x) :
    ∃ b off, A = some ⟨b, off, none⟩ ∧ b < w.heap.size ∧ w.cell? ⟨b, off + k * 7, none⟩ = some (.int .i64 x.id) ∧ w.cell? ⟨b, off + k * 7 + 1, none⟩ = some (.int .i64 x.deed) ∧ w.cell? ⟨b, off + k * 7 + 2, none⟩ = some (.int .i64 x.seller) ∧ w.cell? ⟨b, off + k * 7 + 3, none⟩ = some (.int .i64 x.least) ∧ w.cell? ⟨b, off + k * 7 + 4, none⟩ = some (.int .i64 x.best) ∧ w.cell? ⟨b, off + k * 7 + 5, none⟩ = some (.int .i64 x.bidder) ∧ w.cell? ⟨b, off + k * 7 + 6, none⟩ = some (.int .i64 x.ends) := by
  have hk : k < l.length := (List.getElem?_eq_some_iff.1 hx).1
  obtain ⟨b, off, hA, hb, hc⟩ := h.2 (by omega)
  have hv := Auc.vals_at l k x hx
  refine ⟨b, off, hA, hb, ?_, ?_, ?_, ?_, ?_, ?_, ?_⟩
  · have := hc (k * 7 + 0) (.int .i64 x.id) ((hv 0 (by omega)).trans rfl)
    simpa [Nat.add_assoc] using this
  · have := hc (k * 7 + 1) (.int .i64 x.deed) ((hv 1 (by omega)).trans rfl)
    simpa [Nat.add_assoc] using this
  · have := hc (k * 7 + 2) (.int .i64 x.seller) ((hv 2 (by omega)).trans rfl)
    simpa [Nat.add_assoc] using this
  · have := hc (k * 7 + 3) (.int .i64 x.least) ((hv 3 (by omega)).trans rfl)
    simpa [Nat.add_assoc] using this
  · have := hc (k * 7 + 4) (.int .i64 x.best) ((hv 4 (by omega)).trans rfl)
    simpa [Nat.add_assoc] using this
  · have := hc (k * 7 + 5) (.int .i64 x.bidder) ((hv 5 (by omega)).trans rfl)
    simpa [Nat.add_assoc] using this
  · have := hc (k * 7 + 6) (.int .i64 x.ends) ((hv 6 (by omega)).trans rfl)
    simpa [Nat.add_assoc] using this
theorem Auc.sl_mk {w : World} {b off : Nat} {l : List Auc} (hb : b < w.heap.size) (h : ∀ i r, l[i]? = some r → ∀ j u, r.vals[j]? = some u → w.cell? ⟨b, off + (i * 7 + j), none⟩ = some u) : Sl w 7 (some ⟨b, off, none⟩) l.length (l.flatMap Auc.vals) := by
  refine ⟨Auc.vals_len l, fun _ => ⟨b, off, rfl, hb, fun j u hu => ?_⟩⟩
  have hj : j < l.length * 7 := by
    rw [← Auc.vals_len l]; exact (List.getElem?_eq_some_iff.1 hu).1
  have hi : j / 7 < l.length := by omega
  have hr : l[j / 7]? = some l[j / 7] := List.getElem?_eq_getElem hi
  have he : j = j / 7 * 7 + j % 7 := by omega
  have hv := Auc.vals_at l (j / 7) _ hr (j % 7) (by omega)
  rw [← he, hu] at hv
  have := h (j / 7) _ hr (j % 7) u hv.symm
  rwa [← he] at this
def Auc.ok (x : Auc) : Prop := -9223372036854775808 ≤ x.id ∧ x.id ≤ 9223372036854775807 ∧ -9223372036854775808 ≤ x.deed ∧ x.deed ≤ 9223372036854775807 ∧ -9223372036854775808 ≤ x.seller ∧ x.seller ≤ 9223372036854775807 ∧ -9223372036854775808 ≤ x.least ∧ x.least ≤ 9223372036854775807 ∧ -9223372036854775808 ≤ x.best ∧ x.best ≤ 9223372036854775807 ∧ -9223372036854775808 ≤ x.bidder ∧ x.bidder ≤ 9223372036854775807 ∧ -9223372036854775808 ≤ x.ends ∧ x.ends ≤ 9223372036854775807
theorem Auc.set_id (l : List Auc) (v : Int) : ∀ (k : Nat) (x : Auc), l[k]? = some x → (l.flatMap Auc.vals).set (k * 7) (.int .i64 v) = (l.set k { x with id := v }).flatMap Auc.vals := by
  induction l with
  | nil => intro k x h; simp at h
  | cons y l ih =>
    intro k x h
    cases k with
    | zero =>
      simp only [List.getElem?_cons_zero, Option.some.injEq] at h
      subst h
      simp [Auc.vals]
    | succ k =>
      simp only [List.getElem?_cons_succ] at h
      rw [List.flatMap_cons, List.set_cons_succ, List.flatMap_cons, ← ih k x h]
      have e : (k + 1) * 7 = (k * 7) + 7 := by omega
      rw [e]
      simp [Auc.vals]
theorem Auc.set_deed (l : List Auc) (v : Int) : ∀ (k : Nat) (x : Auc), l[k]? = some x → (l.flatMap Auc.vals).set (k * 7 + 1) (.int .i64 v) = (l.set k { x with deed := v }).flatMap Auc.vals := by
  induction l with
  | nil => intro k x h; simp at h
  | cons y l ih =>
    intro k x h
    cases k with
    | zero =>
      simp only [List.getElem?_cons_zero, Option.some.injEq] at h
      subst h
      simp [Auc.vals]
    | succ k =>
      simp only [List.getElem?_cons_succ] at h
      rw [List.flatMap_cons, List.set_cons_succ, List.flatMap_cons, ← ih k x h]
      have e : (k + 1) * 7 + 1 = (k * 7 + 1) + 7 := by omega
      rw [e]
      simp [Auc.vals]
theorem Auc.set_seller (l : List Auc) (v : Int) : ∀ (k : Nat) (x : Auc), l[k]? = some x → (l.flatMap Auc.vals).set (k * 7 + 2) (.int .i64 v) = (l.set k { x with seller := v }).flatMap Auc.vals := by
  induction l with
  | nil => intro k x h; simp at h
  | cons y l ih =>
    intro k x h
    cases k with
    | zero =>
      simp only [List.getElem?_cons_zero, Option.some.injEq] at h
      subst h
      simp [Auc.vals]
    | succ k =>
      simp only [List.getElem?_cons_succ] at h
      rw [List.flatMap_cons, List.set_cons_succ, List.flatMap_cons, ← ih k x h]
      have e : (k + 1) * 7 + 2 = (k * 7 + 2) + 7 := by omega
      rw [e]
      simp [Auc.vals]
theorem Auc.set_least (l : List Auc) (v : Int) : ∀ (k : Nat) (x : Auc), l[k]? = some x → (l.flatMap Auc.vals).set (k * 7 + 3) (.int .i64 v) = (l.set k { x with least := v }).flatMap Auc.vals := by
  induction l with
  | nil => intro k x h; simp at h
  | cons y l ih =>
    intro k x h
    cases k with
    | zero =>
      simp only [List.getElem?_cons_zero, Option.some.injEq] at h
      subst h
      simp [Auc.vals]
    | succ k =>
      simp only [List.getElem?_cons_succ] at h
      rw [List.flatMap_cons, List.set_cons_succ, List.flatMap_cons, ← ih k x h]
      have e : (k + 1) * 7 + 3 = (k * 7 + 3) + 7 := by omega
      rw [e]
      simp [Auc.vals]
theorem Auc.set_best (l : List Auc) (v : Int) : ∀ (k : Nat) (x : Auc), l[k]? = some x → (l.flatMap Auc.vals).set (k * 7 + 4) (.int .i64 v) = (l.set k { x with best := v }).flatMap Auc.vals := by
  induction l with
  | nil => intro k x h; simp at h
  | cons y l ih =>
    intro k x h
    cases k with
    | zero =>
      simp only [List.getElem?_cons_zero, Option.some.injEq] at h
      subst h
      simp [Auc.vals]
    | succ k =>
      simp only [List.getElem?_cons_succ] at h
      rw [List.flatMap_cons, List.set_cons_succ, List.flatMap_cons, ← ih k x h]
      have e : (k + 1) * 7 + 4 = (k * 7 + 4) + 7 := by omega
      rw [e]
      simp [Auc.vals]
theorem Auc.set_bidder (l : List Auc) (v : Int) : ∀ (k : Nat) (x : Auc), l[k]? = some x → (l.flatMap Auc.vals).set (k * 7 + 5) (.int .i64 v) = (l.set k { x with bidder := v }).flatMap Auc.vals := by
  induction l with
  | nil => intro k x h; simp at h
  | cons y l ih =>
    intro k x h
    cases k with
    | zero =>
      simp only [List.getElem?_cons_zero, Option.some.injEq] at h
      subst h
      simp [Auc.vals]
    | succ k =>
      simp only [List.getElem?_cons_succ] at h
      rw [List.flatMap_cons, List.set_cons_succ, List.flatMap_cons, ← ih k x h]
      have e : (k + 1) * 7 + 5 = (k * 7 + 5) + 7 := by omega
      rw [e]
      simp [Auc.vals]
theorem Auc.set_ends (l : List Auc) (v : Int) : ∀ (k : Nat) (x : Auc), l[k]? = some x → (l.flatMap Auc.vals).set (k * 7 + 6) (.int .i64 v) = (l.set k { x with ends := v }).flatMap Auc.vals := by
  induction l with
  | nil => intro k x h; simp at h
  | cons y l ih =>
    intro k x h
    cases k with
    | zero =>
      simp only [List.getElem?_cons_zero, Option.some.injEq] at h
      subst h
      simp [Auc.vals]
    | succ k =>
      simp only [List.getElem?_cons_succ] at h
      rw [List.flatMap_cons, List.set_cons_succ, List.flatMap_cons, ← ih k x h]
      have e : (k + 1) * 7 + 6 = (k * 7 + 6) + 7 := by omega
      rw [e]
      simp [Auc.vals]

def amt (n : Int) : Bool := decide (0 ≤ n) && decide (n ≤ 1099511627776)

/-- Where in a list something is so; -1: nowhere. -/
def fidx {α : Type} (p : α → Bool) (l : List α) : Int := match l.findIdx? p with | some i => i | none => -1

set_option maxHeartbeats 400000 in
theorem right_any (n : Int) (w : World) :
    Calls Try.prog 25 #[.int .i64 n] w fun e w' => e = .returned (.bool (amt n)) ∧ w = w' := by
  unfold amt
  by_cases h : 0 ≤ n
  all_goals
    go_enter Try.func25, Try.ntmps25
    go_wp2
    go_ret
    exact ⟨by simp; try omega, rfl⟩

set_option maxHeartbeats 400000 in
theorem step_any (n : Int) (w : World) (h0 : 0 ≤ n) (h1 : n ≤ 1099511627776) :
    Calls Try.prog 42 #[.int .i64 n] w fun e w' => e = .returned (.tuple #[.int .i64 (max (n / 20) 1), .int .i64 0]) ∧ w = w' := by
  have h : amt n = true := by simp [amt, h0, h1]
  go_enter Try.func42, Try.ntmps42
  go_wp2_with (go_at_call 25; refine (right_any _ _).mono ?_; rintro e w' ⟨rfl, rfl⟩)
  all_goals go_ret2
  · exact ⟨by simp; omega, rfl⟩
  · exact ⟨by simp; omega, rfl⟩

def Auc.chk (x : Auc) : Int := if x.deed < 1 ∨ x.seller < 1 then 10 else if ¬ amt x.least ∨ x.ends < 0 ∨ x.ends > 4398046511104 then 11 else 0

set_option maxHeartbeats 400000 in
theorem check_any (x : Auc) (w : World) :
    Calls Try.prog 23 #[(.agg #[.int .i64 x.id, .int .i64 x.deed, .int .i64 x.seller, .int .i64 x.least, .int .i64 x.best, .int .i64 x.bidder, .int .i64 x.ends])] w fun e w' => e = .returned (.int .i64 x.chk) ∧ Grew w w' := by
  unfold Auc.chk
  by_cases h1 : x.deed < 1 <;> by_cases h2 : x.seller < 1 <;> by_cases h3 : amt x.least = true <;> by_cases h4 : x.ends < 0 <;> by_cases h5 : x.ends > 4398046511104
  all_goals first | (exfalso; omega) | skip
  all_goals
    go_enter Try.func23, Try.ntmps23
    go_wp2_with (go_at_call 25; refine (right_any _ _).mono ?_; rintro e w' ⟨rfl, rfl⟩)
    go_ret
    exact ⟨by simp [h1, h2, h3, h4, h5], (Chg.refl _ _).alloc _⟩

def Auc.flo (x : Auc) : Int := if x.bidder = 0 then x.least else x.best + max (x.best / 20) 1

set_option maxHeartbeats 400000 in
theorem floor_any (x : Auc) (w : World) (h0 : 0 ≤ x.best) (h1 : x.best ≤ 1099511627776) :
    Calls Try.prog 26 #[(.agg #[.int .i64 x.id, .int .i64 x.deed, .int .i64 x.seller, .int .i64 x.least, .int .i64 x.best, .int .i64 x.bidder, .int .i64 x.ends])] w fun e w' => e = .returned (.int .i64 x.flo) ∧ Grew w w' := by
  unfold Auc.flo
  have hm : max (x.best / 20) 1 ≤ 1099511627776 := by omega
  have hm0 : 0 ≤ max (x.best / 20) 1 := by omega
  by_cases h : x.bidder = 0
  all_goals
    go_enter Try.func26, Try.ntmps26
    go_wp2_with (go_at_call 42; refine (step_any _ _ h0 h1).mono ?_; rintro e w' ⟨rfl, rfl⟩)
    go_ret
    exact ⟨by simp [h], (Chg.refl _ _).alloc _⟩

theorem fidx_hit {α : Type} {p : α → Bool} {l : List α} {k : Nat} {x : α} (hno : ∀ j x, j < k → l[j]? = some x → p x = false) (hx : l[k]? = some x) (hp : p x = true) : fidx p l = k := by
  unfold fidx
  have hk : k < l.length := (List.getElem?_eq_some_iff.1 hx).1
  have : l.findIdx? p = some k := by
    rw [List.findIdx?_eq_some_iff_getElem]
    refine ⟨hk, ?_, fun j hj => ?_⟩
    · have := (List.getElem?_eq_some_iff.1 hx).2
      rw [this]; exact hp
    · have := hno j (l[j]'(by omega)) hj (List.getElem?_eq_getElem (by omega))
      simp [this]
  rw [this]
theorem fidx_none {α : Type} {p : α → Bool} {l : List α} (hno : ∀ j x, j < l.length → l[j]? = some x → p x = false) : fidx p l = -1 := by
  unfold fidx
  have : l.findIdx? p = none := by
    rw [List.findIdx?_eq_none_iff]
    intro x hx
    obtain ⟨j, hj, rfl⟩ := List.getElem_of_mem hx
    exact hno j _ hj (List.getElem?_eq_getElem hj)
  rw [this]

/-- A function value that tells of a record whether something is so, whatever else is laid meanwhile. -/
structure AucPred (f : FuncId) (lb : Array Value) (p : Auc → Bool) (w : World) : Prop where
  enters : ∀ (args : Array Value) (w : World), (callFunc f args).run Try.prog w = .ok (.enter f args) w
  says : ∀ (W : World) (x : Auc), Grew w W → Calls Try.prog f (#[(.agg #[.int .i64 x.id, .int .i64 x.deed, .int .i64 x.seller, .int .i64 x.least, .int .i64 x.best, .int .i64 x.bidder, .int .i64 x.ends])] ++ lb) W fun e w' => e = .returned (.bool (p x)) ∧ Grew W w'

theorem idPred (B : Nat) (id : Int) (w : World) (h : Blk w B 3 #[.int .i64 id]) : AucPred 43 #[.pointer (some ⟨B, 0, none⟩)] (fun x => x.id == id) w := by
  refine ⟨enters_of Try.func43 (by kernel_rfl) rfl, fun W x hg => ?_⟩
  have hb := h.grew hg
  have hc : W.cell? ⟨B, 0, none⟩ = some (.int .i64 id) := by rw [hb.cell]; rfl
  have hl := hb.lt
  clear hb h
  go_enter Try.func43, Try.ntmps43
  go_wp2
  go_ret
  exact ⟨rfl, (Chg.refl _ _).alloc _⟩

theorem deedPred (B : Nat) (id : Int) (w : World) (h : Blk w B 3 #[.int .i64 id]) : AucPred 34 #[.pointer (some ⟨B, 0, none⟩)] (fun x => x.deed == id) w := by
  refine ⟨enters_of Try.func34 (by kernel_rfl) rfl, fun W x hg => ?_⟩
  have hb := h.grew hg
  have hc : W.cell? ⟨B, 0, none⟩ = some (.int .i64 id) := by rw [hb.cell]; rfl
  have hl := hb.lt
  clear hb h
  go_enter Try.func34, Try.ntmps34
  go_wp2
  go_ret
  exact ⟨rfl, (Chg.refl _ _).alloc _⟩

set_option maxHeartbeats 400000 in
theorem indexFunc_any (l : List Auc) (p : Auc → Bool) (f : FuncId) (lb : Array Value) (A : Option Addr) (c : Nat) (w : World) (hs : Sl w 7 A l.length (l.flatMap Auc.vals)) (hp : AucPred f lb p w) (hl : l.length ≤ 1000000) :
    Calls Try.prog 33 #[.slice A l.length c, .func (.func f) #[] lb] w fun e w' => e = .returned (.int .i64 (fidx p l)) ∧ Grew w w' := by
  go_enter Try.func33, Try.ntmps33
  go_wp2
  go_loopw [5, 8] (fun v i wr => ∃ k : Nat, k ≤ l.length ∧ i = .int .i64 k ∧ (∀ j x, j < k → l[j]? = some x → p x = false) ∧ Grew w wr) (fun _ i _ => l.length - (intOf i).toNat)
  case atStart => exact ⟨0, Nat.zero_le _, rfl, fun j x h => absurd h (by omega), Chg.refl _ _⟩
  case round =>
    obtain ⟨k, hk, rfl, hno, hg⟩ := hrel
    by_cases hlt : k < l.length
    · obtain ⟨x, hx⟩ : ∃ x, l[k]? = some x := ⟨_, List.getElem?_eq_getElem hlt⟩
      obtain ⟨b, off, rfl, hb, c0, c1, c2, c3, c4, c5, c6⟩ := (hs.grew hg).atAuc hx
      have hpx := hp.says wr x hg
      have hen := hp.enters
      rcases hb : p x with _ | _
      · rw [hb] at hpx
        have H := Lib.hid (And.intro hb hx)
        have Hp := Lib.hid hpx
        have Hn := Lib.hid hno
        clear hx hb hs hp hpx hno
        go_wp2_with (refine (Hp.out).mono ?_; rintro e w1 ⟨rfl, hg1⟩)
        go_roundw
        case rel =>
          refine ⟨k + 1, by omega, by go_num, fun j y hj hy => ?_, Grew.trans hg hg1⟩
          by_cases hjk : j = k
          · subst hjk
            have := H.out.2.symm.trans hy
            simp only [Option.some.injEq] at this
            rw [← this]; exact H.out.1
          · exact Hn.out j y (by omega) hy
        case measure => simp [intOf]; omega
      · rw [hb] at hpx
        have H := Lib.hid (And.intro hb hx)
        have Hp := Lib.hid hpx
        have Hn := Lib.hid hno
        clear hx hb hs hp hpx hno
        go_wp2_with (refine (Hp.out).mono ?_; rintro e w1 ⟨rfl, hg1⟩)
        go_ret
        exact ⟨by rw [fidx_hit Hn.out H.out.2 H.out.1]; rfl, Grew.trans hg hg1⟩
    · obtain rfl : k = l.length := by omega
      clear hs hp
      have Hn := Lib.hid hno
      clear hno
      go_wp2_with fail
      go_ret
      exact ⟨by rw [fidx_none Hn.out]; rfl, hg⟩

end Go.Proofs.Ytbmogbbenfpmiaa
