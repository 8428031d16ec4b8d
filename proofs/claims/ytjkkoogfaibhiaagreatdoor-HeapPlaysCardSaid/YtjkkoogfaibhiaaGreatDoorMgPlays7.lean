/- HeapPlays returns true, for every input. It has no condition; the table of math/bits that its row lists is tied to the program. -/
import Derived.Test.YtjkkoogfaibhiaaGreatDoorMgPlays6
import Derived.ProofKit
import Derived.OpenShut
import Derived.ShutString
import Derived.ChangeOld
import Derived.Deep.Slices
import Derived.Deep.Fields
import Derived.Lib.SlBytesConst
import Derived.Test.YtjkkoogfaibhiaaGreatDoorRows
import Derived.Test.YtjkkoogfaibhiaaGreatDoorTie
import Derived.Test.YtjkkoogfaibhiaaGreatDoorCards
import Derived.Lib.LaidTab
import Derived.LaidLaws
import Derived.LaidHandle
import Derived.SevenTiedAt
set_option linter.unusedSimpArgs false
set_option linter.unusedVariables false

/- The heap in memory: Set; Put and Set of no bytes. -/
namespace Go.Proofs.YtjkkoogfaibhiaaGreatDoor
open Go.RowKit Go.Maps

theorem hput_empty (h : Nat) (A : Option Addr) (c : Nat) (w : World) :
    Calls Tryz.prog 11 #[.pointer (some ⟨h, 0, none⟩), .slice A 0 c] w fun e w' => e = .returned (.tuple #[.int .i64 0, .int .i64 11]) ∧ w = w' := by
  go_enter Tryz.func11, Tryz.ntmps11
  go_wp2
  go_ret2
  exact ⟨rfl, rfl⟩
theorem hset_empty (h : Nat) (pl : Int) (A : Option Addr) (c : Nat) (w : World) :
    Calls Tryz.prog 42 #[.pointer (some ⟨h, 0, none⟩), .int .i64 pl, .slice A 0 c] w fun e w' => e = .returned (.tuple #[.int .i64 0, .int .i64 11]) ∧ w = w' := by
  go_enter Tryz.func42, Tryz.ntmps42
  go_wp2
  go_ret2
  exact ⟨rfl, rfl⟩
set_option maxRecDepth 100000 in
set_option maxHeartbeats 1600000 in
theorem hset_any (h m p kk g off c0 : Nat) (F : Nat → Prop) (x : Rp) (P : Nat → Bool) (L : List HR) (r : HR) (bs : List Int) (w : World) (k : HH w h m p F x P) (hx : HeapIn x P L []) (ho : x.was ≠ none) (hr : L[kk]? = some r) (hsl : 0 ≤ x.slack)
    (h1 : 1 ≤ bs.length) (h2 : bs.length ≤ 16384) (hby : ∀ q ∈ bs, 0 ≤ q ∧ q ≤ 255) (hc0 : bs.length ≤ c0) (hs : Sl w 1 (some ⟨g, off, none⟩) bs.length (bv bs)) (hgF : ¬ F g) (hgm : g ≠ m) (hgl : g < w.heap.size) :
    Calls Tryz.prog 42 #[.pointer (some ⟨h, 0, none⟩), .int .i64 r.place, .slice (some ⟨g, off, none⟩) bs.length c0] w fun e w' => HPut w w' h m p F x (L.eraseIdx kk) bs e := by
  have HD := Lib.hid (hdel_any h m p kk F x P L r w k hx ho hr hsl)
  have H := Lib.hid (And.intro k (And.intro hby (And.intro hc0 (And.intro hs (And.intro hgF (And.intro hgm hgl))))))
  obtain ⟨n, hn⟩ : ∃ n, bs.length = n := ⟨_, rfl⟩
  have Hn := Lib.hid hn
  have t1 : decide ((n : Int) < 1) = false := decide_eq_false (by omega)
  have t2 : decide ((16384 : Int) < (n : Int)) = false := decide_eq_false (by omega)
  have How := Lib.hid ho
  rw [hn] at h1 h2 ⊢
  clear k hx hr hsl hby hc0 hs hgF hgm hgl hn ho
  go_enter Tryz.func42, Tryz.ntmps42
  go_wp2_with fail
  refine HD.out.mono ?_
  rintro e w1 (⟨y, F1, P1, rfl, hk1, hin1, hlk1, hu1, hc1, hn1⟩ | ⟨rfl, hf⟩)
  · have hpt := hput_any h m p g off c0 F1 y P1 (L.eraseIdx kk) bs w1 hk1 hin1 (by rw [hlk1.was]; exact How.out) (by rw [Hn.out]; exact h1) (by rw [Hn.out]; exact h2) H.out.2.1 H.out.2.2.1 (H.out.2.2.2.1.chg hc1 fun a ha e => by cases ha; exact e.elim H.out.2.2.2.2.1 H.out.2.2.2.2.2.1) (fun e => (hn1 g e).elim H.out.2.2.2.2.1 fun e => by have := H.out.2.2.2.2.2.2; omega) (Nat.lt_of_lt_of_le H.out.2.2.2.2.2.2 hc1.size)
    rw [Hn.out] at hpt
    have HP := Lib.hid hpt
    have H1 := Lib.hid (And.intro hlk1 (And.intro hu1 (And.intro hc1 hn1)))
    have hsz := hc1.size
    clear hpt hk1 hin1 hlk1 hu1 hc1 hn1
    go_wp2_with fail
    refine HP.out.mono ?_
    rintro e w2 (⟨pl, z, F2, P2, pg, rfl, hk2, hin2, hlk2, hpg2, hu2, hc2, hn2⟩ | ⟨rfl, z, F2, q1, q2, q3, q4, q5⟩)
    · have hsz2 : y.sz = x.sz := H1.out.1.sz
      rw [hsz2] at hpg2 hu2
      have H2 := Lib.hid (show HPut w w2 h m p F x (L.eraseIdx kk) bs (.returned (.tuple #[.int .i64 pl, .int .i64 0])) from .inl ⟨pl, z, F2, P2, pg, rfl, hk2, hin2, H1.out.1.trans hlk2, hpg2, by have := H1.out.2.1; omega,
        Chg.trans H1.out.2.2.1 hc2 fun j hj e => e.elim (fun e => (H1.out.2.2.2 j e).elim .inl fun e => by omega) .inr, fun j hj => (hn2 j hj).elim (H1.out.2.2.2 j) fun e => .inr (by omega)⟩)
      clear hk2 hin2 hlk2 hpg2 hu2 hc2 hn2
      go_wp2_with fail
      go_ret2
      exact H2.out
    · have hsz2 : y.sz = x.sz := H1.out.1.sz
      rw [hsz2] at q5
      have H2 := Lib.hid (show HPut w w2 h m p F x (L.eraseIdx kk) bs (.returned (.tuple #[.int .i64 0, .int .i64 21])) from .inr ⟨rfl, z, F2, q1, H1.out.1.trans q2,
        Chg.trans H1.out.2.2.1 q3 fun j hj e => e.elim (fun e => (H1.out.2.2.2 j e).elim .inl fun e => by omega) .inr, fun j hj => (q4 j hj).elim (H1.out.2.2.2 j) fun e => .inr (by omega), Tight.more H1.out.1 (by have := H1.out.2.1; omega) q5⟩)
      clear q1 q2 q3 q4 q5
      go_wp2_with fail
      go_ret2
      exact H2.out
  · obtain ⟨z, F2, q1, q2, q3, q4, q5⟩ := hf
    have H2 := Lib.hid (show HPut w w1 h m p F x (L.eraseIdx kk) bs (.returned (.tuple #[.int .i64 0, .int .i64 21])) from .inr ⟨rfl, z, F2, q1, q2, q3, q4, Tight.more (.refl x) (by omega) q5⟩)
    clear q1 q2 q3 q4 q5
    go_wp2_with fail
    go_ret2
    exact H2.out
end Go.Proofs.YtjkkoogfaibhiaaGreatDoor

/- What a law's arguments are, opened: a slice of whatever element, record by record. No program stands in this text. -/
namespace Go.Proofs.YtjkkoogfaibhiaaGreatDoor
open Go.ChangeShapes Go.WideShapes Go.ChangeAt Go.RowKit Go.Deep

theorem choose_list {α : Type} (P : Nat → α → Prop) : ∀ (n : Nat), (∀ i, i < n → ∃ x, P i x) → ∃ l : List α, l.length = n ∧ ∀ i x, l[i]? = some x → P i x
  | 0, _ => ⟨[], rfl, fun i x h => by simp at h⟩
  | n + 1, h => by
    obtain ⟨l, hl, hp⟩ := choose_list P n (fun i hi => h i (by omega))
    obtain ⟨x, hx⟩ := h n (by omega)
    refine ⟨l ++ [x], by simp [hl], fun i y hy => ?_⟩
    by_cases hi : i < l.length
    · rw [List.getElem?_append_left hi] at hy
      exact hp i y hy
    · rw [List.getElem?_append_right (by omega)] at hy
      have h0 : i - l.length = 0 := by
        rcases Nat.eq_zero_or_pos (i - l.length) with h0 | h0
        · exact h0
        · rw [List.getElem?_eq_none (by simp; omega)] at hy; cases hy
      rw [h0] at hy
      simp at hy
      subst hy
      obtain rfl : i = n := by omega
      exact hx

theorem wf_bounds {n : Int} (h : (Lit.int .i64 n).wf = true) : -9223372036854775808 ≤ n ∧ n ≤ 9223372036854775807 := by
  simpa [Lit.wf, IntKind.min, IntKind.max, IntKind.signed, IntKind.bits] using h

section
variable {H : Type} {enc : TypeId × Value → H} {P : Program} {w : World} {base : Nat} {spare : Nat → Bool} {held : Bool}

/-- A slice whose elements have s cells each: for each element its cells, and that they read. -/
theorem open_elems {t e : TypeId} {fuel s len cap : Nat} {A : Option Addr} {x : DataW H × List MemPlace} (ht : P.underlying t = some (.slice e)) (hC : P.cellsOf e = s) (hs : 0 < s)
    (h : DataW.trod enc P w base spare held fuel t [.slice A len cap] = some x) :
    len ≤ maxLen ∧ (len = 0 ∨ ∃ b off, A = some ⟨b, off, none⟩ ∧ b < w.heap.size ∧ ∀ i, i < len → ∃ (cs : List Value) (n : Nat) (y : DataW H × List MemPlace), cs.length = s ∧ (∀ j, j < s → w.cell? ⟨b, off + (i * s + j), none⟩ = cs[j]?) ∧ DataW.trod enc P w base spare held n e cs = some y) := by
  rcases open_slice ht h with ⟨hcs, _⟩ | ⟨a, len', cap', m, n, D, Pl, hcs, hb, hl, hm, hmm, hx, hi⟩
  · simp at hcs
    obtain ⟨rfl, rfl, rfl⟩ := hcs
    exact ⟨Nat.zero_le _, .inl rfl⟩
  · simp at hcs
    obtain ⟨rfl, rfl, rfl⟩ := hcs
    refine ⟨Nat.le_trans hl hm, ?_⟩
    rcases Nat.eq_zero_or_pos len with h0 | h0
    · exact .inl h0
    right
    have hlm : len ≤ m := by rw [hmm]; split <;> omega
    obtain ⟨b, off, spot⟩ := a
    have cellAt : ∀ i, i < len → ∃ cs' y, cs'.length = s ∧ (∀ j, j < s → w.cell? (Addr.add ⟨b, off, spot⟩ (i * s + j)) = cs'[j]?) ∧ DataW.trod enc P w base spare held n e cs' = some y := by
      intro i hil
      obtain ⟨cs', hc, ht'⟩ := hi i (by omega)
      rw [hC] at hc
      obtain ⟨_, hcl, hat⟩ := World.cells?_some hc
      refine ⟨cs', _, hcl, fun j hj => ?_, ht'⟩
      rw [← hat j hj]
      congr 1
      unfold Addr.add
      by_cases h1 : i * s = 0 <;> by_cases h2 : j = 0 <;> simp [h1, h2, Nat.add_assoc]
    have hspot : spot = none := by
      obtain ⟨cs', y, hcl, hat, _⟩ := cellAt 0 h0
      have := hat 0 hs
      have h0' : cs'[0]? = some (cs'[0]'(by omega)) := List.getElem?_eq_getElem (by omega)
      rw [h0'] at this
      simpa [Addr.add] using World.cell?_spot this
    subst hspot
    refine ⟨b, off, rfl, ?_, fun i hil => ?_⟩
    · obtain ⟨cs', y, hcl, hat, _⟩ := cellAt 0 h0
      have := hat 0 hs
      have h0' : cs'[0]? = some (cs'[0]'(by omega)) := List.getElem?_eq_getElem (by omega)
      rw [h0'] at this
      simpa [Addr.add] using World.block_lt_of_cell? w _ this
    · obtain ⟨cs', y, hcl, hat, ht'⟩ := cellAt i hil
      refine ⟨cs', n, y, hcl, fun j hj => ?_, ht'⟩
      have := hat j hj
      rw [Addr.add_lit] at this
      exact this
end

end Go.Proofs.YtjkkoogfaibhiaaGreatDoor

/- A law's argument that is a slice of int. No program stands in this text. -/
namespace Go.Proofs.YtjkkoogfaibhiaaGreatDoor
open Go.ChangeShapes Go.WideShapes Go.ChangeAt Go.RowKit Go.Deep

theorem ints_opened {H : Type} {enc : TypeId × Value → H} {P : Program} {w : World} {base : Nat} {spare : Nat → Bool} {held : Bool} {t e : TypeId} {fuel len cap : Nat} {A : Option Addr} {x : DataW H × List MemPlace}
    (ht : P.underlying t = some (.slice e)) (he : P.underlying e = some (.int .i64)) (hC : P.cellsOf e = 1) (h : DataW.trod enc P w base spare held fuel t [.slice A len cap] = some x) :
    ∃ l : List Int, len = l.length ∧ len ≤ maxLen ∧ Sl w 1 A l.length (l.map (Value.int .i64)) ∧ ∀ n ∈ l, -9223372036854775808 ≤ n ∧ n ≤ 9223372036854775807 := by
  obtain ⟨hm, hc⟩ := open_elems ht (s := 1) hC (by omega) h
  rcases hc with rfl | ⟨b, off, rfl, hb, hi⟩
  · exact ⟨[], rfl, hm, Sl.nil _ _ _, fun r hr => by cases hr⟩
  · obtain ⟨l, hl, hp⟩ := choose_list (fun i (r : Int) => (-9223372036854775808 ≤ r ∧ r ≤ 9223372036854775807) ∧ w.cell? ⟨b, off + i, none⟩ = some (.int .i64 r)) len (fun i hil => by
      obtain ⟨cs, n, y, hcl, hat, hT⟩ := hi i hil
      match cs, hcl with
      | [c], _ =>
        obtain ⟨r, e1, -, w1⟩ := DataW.trod_int he hT
        simp at e1
        subst e1
        have := hat 0 (by omega)
        exact ⟨r, wf_bounds w1, by simpa using this⟩)
    refine ⟨l, hl.symm, hm, ⟨by simp, fun _ => ⟨b, off, rfl, hb, fun j u hu => ?_⟩⟩, fun r hr => ?_⟩
    · rw [List.getElem?_map] at hu
      cases hj : l[j]? with
      | none => rw [hj] at hu; cases hu
      | some r => rw [hj] at hu; simp at hu; subst hu; exact (hp j r hj).2
    · obtain ⟨i, hi, rfl⟩ := List.getElem_of_mem hr
      exact (hp i _ (List.getElem?_eq_getElem hi)).1

end Go.Proofs.YtjkkoogfaibhiaaGreatDoor

/- The document's answer for the heap: Find, Without. -/
namespace Go.Proofs.YtjkkoogfaibhiaaGreatDoor
open Go.RowKit Go.Maps

structure Hrw where
  place : Int
  text : ByteArray
  deriving DecidableEq
def Hrw.vals (x : Hrw) : List Value := [.int .i64 x.place, .string x.text]
def Hrw.zero : Hrw := ⟨0, ⟨#[]⟩⟩
theorem Hrw.vals_len (l : List Hrw) : (l.flatMap Hrw.vals).length = l.length * 2 := by
  induction l with
  | nil => rfl
  | cons x l ih => rw [List.flatMap_cons, List.length_append, ih, List.length_cons]; simp only [Hrw.vals, List.length_cons, List.length_nil]; omega
theorem Hrw.vals_at (l : List Hrw) : ∀ (k : Nat) (x : Hrw), l[k]? = some x → ∀ j, j < 2 → (l.flatMap Hrw.vals)[k * 2 + j]? = x.vals[j]? := by
  induction l with
  | nil => intro k x h; simp at h
  | cons y l ih =>
    intro k x h j hj
    cases k with
    | zero =>
      simp only [List.getElem?_cons_zero, Option.some.injEq] at h
      subst h
      rw [List.flatMap_cons, Nat.zero_mul, Nat.zero_add, List.getElem?_append_left (by simp [Hrw.vals]; omega)]
    | succ k =>
      simp only [List.getElem?_cons_succ] at h
      rw [List.flatMap_cons, List.getElem?_append_right (by simp [Hrw.vals]; omega)]
      rw [← ih k x h j hj]
      congr 1
      simp [Hrw.vals]
      omega
theorem Hrw.take_vals (l : List Hrw) : ∀ k, (l.take k).flatMap Hrw.vals = (l.flatMap Hrw.vals).take (k * 2) := by
  induction l with
  | nil => intro k; simp
  | cons x l ih =>
    intro k
    cases k with
    | zero => simp
    | succ k =>
      rw [List.take_succ_cons, List.flatMap_cons, List.flatMap_cons, ih k]
      have e : (k + 1) * 2 = x.vals.length + k * 2 := by simp [Hrw.vals]; omega
      rw [e, List.take_length_add_append]
theorem Hrw.drop_vals (l : List Hrw) : ∀ k, (l.drop k).flatMap Hrw.vals = (l.flatMap Hrw.vals).drop (k * 2) := by
  induction l with
  | nil => intro k; simp
  | cons x l ih =>
    intro k
    cases k with
    | zero => simp
    | succ k =>
      rw [List.drop_succ_cons, List.flatMap_cons, ih k]
      have e : (k + 1) * 2 = x.vals.length + k * 2 := by simp [Hrw.vals]; omega
      rw [e, List.drop_length_add_append]
theorem Hrw.erase_vals (l : List Hrw) (k : Nat) : (l.eraseIdx k).flatMap Hrw.vals = (l.flatMap Hrw.vals).take (k * 2) ++ (l.flatMap Hrw.vals).drop ((k + 1) * 2) := by
  rw [List.eraseIdx_eq_take_drop_succ, List.flatMap_append, Hrw.take_vals, Hrw.drop_vals]
theorem Hrw.one_cell (l : List Hrw) : ∀ u ∈ l.flatMap Hrw.vals, u.oneCell' = true := by
  intro u hu
  obtain ⟨x, _, hx⟩ := List.mem_flatMap.1 hu
  simp only [Hrw.vals, List.mem_cons, List.not_mem_nil, or_false] at hx
  rcases hx with rfl | rfl <;> rfl
theorem Sl.atHrw {w : World} {A : Option Addr} {l : List Hrw} (h : Sl w 2 A l.length (l.flatMap Hrw.vals)) {k : Nat} {x : Hrw} (hx : l[k]? = some x) :
    ∃ b off, A = some ⟨b, off, none⟩ ∧ b < w.heap.size ∧ w.cell? ⟨b, off + k * 2, none⟩ = some (.int .i64 x.place) ∧ w.cell? ⟨b, off + k * 2 + 1, none⟩ = some (.string x.text) := by
  have hk : k < l.length := (List.getElem?_eq_some_iff.1 hx).1
  obtain ⟨b, off, hA, hb, hc⟩ := h.2 (by omega)
  have hv := Hrw.vals_at l k x hx
  refine ⟨b, off, hA, hb, ?_, ?_⟩
  · have := hc (k * 2 + 0) (.int .i64 x.place) ((hv 0 (by omega)).trans rfl)
    simpa [Nat.add_assoc] using this
  · have := hc (k * 2 + 1) (.string x.text) ((hv 1 (by omega)).trans rfl)
    simpa [Nat.add_assoc] using this
theorem Hrw.sl_mk {w : World} {b off : Nat} {l : List Hrw} (hb : b < w.heap.size) (h : ∀ i r, l[i]? = some r → ∀ j u, r.vals[j]? = some u → w.cell? ⟨b, off + (i * 2 + j), none⟩ = some u) : Sl w 2 (some ⟨b, off, none⟩) l.length (l.flatMap Hrw.vals) := by
  refine ⟨Hrw.vals_len l, fun _ => ⟨b, off, rfl, hb, fun j u hu => ?_⟩⟩
  have hj : j < l.length * 2 := by
    rw [← Hrw.vals_len l]; exact (List.getElem?_eq_some_iff.1 hu).1
  have hi : j / 2 < l.length := by omega
  have hr : l[j / 2]? = some l[j / 2] := List.getElem?_eq_getElem hi
  have he : j = j / 2 * 2 + j % 2 := by omega
  have hv := Hrw.vals_at l (j / 2) _ hr (j % 2) (by omega)
  rw [← he, hu] at hv
  have := h (j / 2) _ hr (j % 2) u hv.symm
  rwa [← he] at this
def Hrw.ok (x : Hrw) : Prop := -9223372036854775808 ≤ x.place ∧ x.place ≤ 9223372036854775807 ∧ x.text.size ≤ maxLen
theorem Hrw.set_place (l : List Hrw) (v : Int) : ∀ (k : Nat) (x : Hrw), l[k]? = some x → (l.flatMap Hrw.vals).set (k * 2) (.int .i64 v) = (l.set k { x with place := v }).flatMap Hrw.vals := by
  induction l with
  | nil => intro k x h; simp at h
  | cons y l ih =>
    intro k x h
    cases k with
    | zero =>
      simp only [List.getElem?_cons_zero, Option.some.injEq] at h
      subst h
      simp [Hrw.vals]
    | succ k =>
      simp only [List.getElem?_cons_succ] at h
      rw [List.flatMap_cons, List.set_cons_succ, List.flatMap_cons, ← ih k x h]
      have e : (k + 1) * 2 = (k * 2) + 2 := by omega
      rw [e]
      simp [Hrw.vals]
theorem Hrw.set_text (l : List Hrw) (v : ByteArray) : ∀ (k : Nat) (x : Hrw), l[k]? = some x → (l.flatMap Hrw.vals).set (k * 2 + 1) (.string v) = (l.set k { x with text := v }).flatMap Hrw.vals := by
  induction l with
  | nil => intro k x h; simp at h
  | cons y l ih =>
    intro k x h
    cases k with
    | zero =>
      simp only [List.getElem?_cons_zero, Option.some.injEq] at h
      subst h
      simp [Hrw.vals]
    | succ k =>
      simp only [List.getElem?_cons_succ] at h
      rw [List.flatMap_cons, List.set_cons_succ, List.flatMap_cons, ← ih k x h]
      have e : (k + 1) * 2 + 1 = (k * 2 + 1) + 2 := by omega
      rw [e]
      simp [Hrw.vals]
/-- The first place at which something is so; -1: nowhere. -/
def fidxR {α : Type} (p : α → Bool) (l : List α) : Int := match l.findIdx? p with | some i => i | none => -1
theorem fidxR_hit {α : Type} {p : α → Bool} {l : List α} {k : Nat} {x : α} (hno : ∀ j y, j < k → l[j]? = some y → p y = false) (hx : l[k]? = some x) (hp : p x = true) : fidxR p l = k := by
  have : l.findIdx? p = some k := by
    obtain ⟨hk, he⟩ := List.getElem?_eq_some_iff.1 hx
    rw [List.findIdx?_eq_some_iff_getElem]
    exact ⟨hk, by rw [he]; exact hp, fun j hj => by have := hno j _ hj (List.getElem?_eq_getElem (by omega)); simp [this]⟩
  simp [fidxR, this]
theorem fidxR_none {α : Type} {p : α → Bool} {l : List α} (hno : ∀ j y, j < l.length → l[j]? = some y → p y = false) : fidxR p l = -1 := by
  have : l.findIdx? p = none := by
    rw [List.findIdx?_eq_none_iff]
    intro x hx
    obtain ⟨j, hj⟩ := List.mem_iff_getElem?.1 hx
    exact hno j x (List.getElem?_eq_some_iff.1 hj).1 hj
  simp [fidxR, this]
/-- Where a number is in a list. -/
def fnR (l : List Hrw) (n : Int) : Int := fidxR (fun x : Hrw => x.place == n) l

theorem xhrInfo : (Tryz.prog.info? 53).map (fun i => (i.zero, i.size, i.bytes)) = some (some (.agg #[.int .i64 0, .string ⟨#[]⟩]), 2, 24) := by kernel_rfl
theorem Hrw.snoc {l : List Hrw} (x : Hrw) : l.flatMap Hrw.vals ++ [.int .i64 x.place, .string x.text] = (l ++ [x]).flatMap Hrw.vals := by simp [Hrw.vals]

set_option maxHeartbeats 400000 in
theorem xhfind_any (n : Int) (l : List Hrw) (A : Option Addr) (c : Nat) (w : World) (hs : Sl w 2 A l.length (l.flatMap Hrw.vals)) (hl : l.length ≤ 1000000) :
    Calls Tryz.prog 41 #[.slice A l.length c, .int .i64 n] w fun e w' => e = .returned (.int .i64 (fnR l n)) ∧ w = w' := by
  have Hs := Lib.hid hs
  clear hs
  go_enter Tryz.func41, Tryz.ntmps41
  go_wp2
  go_loop [5] (fun i => ∃ k : Nat, k ≤ l.length ∧ i = .int .i64 k ∧ (∀ j x, j < k → l[j]? = some x → (x.place == n) = false)) (fun i => l.length - (intOf i).toNat)
  case atStart => exact ⟨0, Nat.zero_le _, rfl, fun j x h => absurd h (by omega)⟩
  case round =>
    obtain ⟨k, hk, rfl, hno⟩ := hrel
    have Hn := Lib.hid hno
    clear hno
    by_cases hlt : k < l.length
    · obtain ⟨x, hx⟩ : ∃ x, l[k]? = some x := ⟨_, List.getElem?_eq_getElem hlt⟩
      obtain ⟨b, off, rfl, hb, d0, d1⟩ := Hs.out.atHrw hx
      have Hx := Lib.hid hx
      clear hx
      rcases hq : (x.place == n) with _ | _
      · go_wp2
        refine ⟨⟨k + 1, by omega, by simp, fun j y hj hy => ?_⟩, by simp [intOf]; omega⟩
        by_cases hjk : j = k
        · subst hjk
          have := Hx.out.symm.trans hy
          simp only [Option.some.injEq] at this
          rw [← this]; exact hq
        · exact Hn.out j y (by omega) hy
      · have Hq := Lib.hid hq
        go_wp2
        go_ret
        exact ⟨by unfold fnR; rw [fidxR_hit (p := fun r : Hrw => r.place == n) Hn.out Hx.out Hq.out]; rfl, rfl⟩
    · obtain rfl : k = l.length := by omega
      go_wp2
      go_ret
      exact ⟨by unfold fnR; rw [fidxR_none (p := fun r : Hrw => r.place == n) Hn.out]; rfl, rfl⟩

/-- All but one, of the first ones. -/
def wthR (l : List Hrw) (at_ k : Nat) : List Hrw := if at_ < k then (l.take k).eraseIdx at_ else l.take k
theorem wthR_succ {l : List Hrw} {at_ k : Nat} {x : Hrw} (hx : l[k]? = some x) : wthR l at_ (k + 1) = wthR l at_ k ++ if k = at_ then [] else [x] := by
  have hk := (List.getElem?_eq_some_iff.1 hx).1
  have e : l.take (k + 1) = l.take k ++ [x] := by rw [List.take_add_one, hx]; rfl
  have hlen : (l.take k).length = k := by rw [List.length_take]; omega
  unfold wthR
  rw [e]
  by_cases h1 : at_ < k
  · rw [if_pos (by omega), if_pos h1, if_neg (by omega), List.eraseIdx_append_of_lt_length (by omega)]
  · by_cases h2 : k = at_
    · subst h2
      rw [if_pos (by omega), if_neg h1, if_pos rfl, List.eraseIdx_append_of_length_le (by omega), hlen, Nat.sub_self]
      rfl
    · rw [if_neg (by omega), if_neg h1, if_neg h2]
theorem wthR_end {l : List Hrw} {at_ : Nat} (h : at_ < l.length) : wthR l at_ l.length = l.eraseIdx at_ := by
  unfold wthR; rw [if_pos h, List.take_length]
theorem wthR_len (l : List Hrw) (at_ k : Nat) : (wthR l at_ k).length ≤ k := by
  unfold wthR
  split
  · have := List.length_eraseIdx_le (l.take k) at_
    have := List.length_take_le k l
    omega
  · exact List.length_take_le k l

set_option maxRecDepth 100000 in
set_option maxHeartbeats 800000 in
theorem xhwithout_any (at_ : Nat) (l : List Hrw) (A : Option Addr) (c : Nat) (w : World) (hs : Sl w 2 A l.length (l.flatMap Hrw.vals)) (hl : l.length ≤ 1000000) (hat : at_ < l.length) :
    Calls Tryz.prog 22 #[.slice A l.length c, .int .i64 at_] w fun e w' => OwnOut w w' 53 2 (l.eraseIdx at_).length ((l.eraseIdx at_).flatMap Hrw.vals) (fun A c => .slice A (l.eraseIdx at_).length c) e := by
  obtain ⟨i0, hi0, hz0, hz1, hz2⟩ := info_parts xhrInfo
  have Hs := Lib.hid hs
  clear hs
  go_enter Tryz.func22, Tryz.ntmps22
  go_wp2
  go_loopw [5, 6] (fun v i wr => ∃ (k : Nat) (xs : List Hrw) (A1 : Option Addr) (c1 : Nat), k ≤ l.length ∧ i = .int .i64 k ∧ v = .slice A1 xs.length c1 ∧ xs = wthR l at_ k ∧ wr.ownsRow w.heap.size 53 2 (.slice A1 xs.length c1) xs.length (xs.flatMap Hrw.vals) ∧ Grew w wr) (fun _ i _ => l.length - (intOf i).toNat)
  case atStart => exact ⟨0, [], none, 0, Nat.zero_le _, rfl, rfl, by simp [wthR], World.ownsRow_nil _ _ _ _, Chg.refl _ _⟩
  case round =>
    obtain ⟨k, xs, A1, c1, hk, rfl, rfl, hxs, hown, hg⟩ := hrel
    have Hxs := Lib.hid hxs
    have hxl : xs.length ≤ k := hxs ▸ wthR_len l at_ k
    have Howr := Lib.hid hown
    have hsz := hg.size
    have Hgwr := Lib.hid hg
    clear hxs hown hg
    by_cases hlt : k < l.length
    · obtain ⟨y, hy⟩ : ∃ y, l[k]? = some y := ⟨_, List.getElem?_eq_getElem hlt⟩
      obtain ⟨b, off, rfl, hb, d0, d1⟩ := (Hs.out.grew Hgwr.out).atHrw hy
      have Hst := Lib.hid (wthR_succ (at_ := at_) hy)
      clear hy
      by_cases hq : k = at_
      · have q1 : ((k : Int) != (at_ : Int)) = false := by simp [hq]
        have Hq := Lib.hid hq
        clear hq
        go_wp2
        go_roundw
        case rel => exact ⟨k + 1, xs, A1, c1, by omega, by go_num, rfl, by rw [Hst.out, if_pos Hq.out, Hxs.out]; simp, Howr.out, Hgwr.out⟩
        case measure => simp [intOf]; omega
      · have q1 : ((k : Int) != (at_ : Int)) = true := by simpa using fun e => hq (Int.ofNat.inj e)
        have Hq := Lib.hid hq
        clear hq
        go_wp2_with (at_builtin; refine wpList_append_lies _ rfl _ _ _ rfl w.heap.size 53 i0 _ 2 24 Tryz.underlying43 hi0 hz0 hz1 hz2 rfl (by omega) (.slice A1 (xs).length c1) (xs).length ((xs).flatMap Hrw.vals) rfl (Howr.out.alloc _) ⟨wr.heap.size, 0, none⟩ 1 1 [.int .i64 y.place, .string y.text] rfl rfl (World.news_of_block (cs := #[.int .i64 y.place, .string y.text]) (t := 53) (fr := (0, 0)) (heap_alloc_new wr _)) (by simp [Value.oneCell']) (by omega) (by (try simp only [List.length_append, List.length_cons, List.length_nil]); simp only [maxLen]; omega) (by (try simp only [List.length_append, List.length_cons, List.length_nil]); omega) (by simp; omega) (wr.heap.size + 1) (by simp) ?_; intro gbW2 capW2 W2 hown1 hgrow hat hlt1; have HO1 := Lib.hid hown1; have HG1 := Lib.hid (And.intro hgrow hat); clear hown1 hgrow hat)
        have HgW2 := Lib.hid (show Grew w W2 from (Hgwr.out.alloc _).grown HG1.out.1 (fun j hj hlt => by have := (Howr.out.lt j hj).1; omega))
        have HoW2 := Lib.hid (show W2.ownsRow w.heap.size 53 2 (.slice (some ⟨gbW2, 0, none⟩) (xs ++ [y]).length capW2) (xs ++ [y]).length ((xs ++ [y]).flatMap Hrw.vals) from (by have := HO1.out; rw [Hrw.snoc] at this; simpa using this))
        clear HO1 HG1
        exact ⟨⟨k + 1, xs ++ [y], some ⟨gbW2, 0, none⟩, capW2, by omega, by simp, by simp, by rw [Hst.out, if_neg Hq.out, Hxs.out], HoW2.out, HgW2.out⟩, by simp [intOf]; omega⟩
    · obtain rfl : k = l.length := by omega
      have hxe : xs = l.eraseIdx at_ := by rw [Hxs.out, wthR_end hat]
      clear Hxs
      subst hxe
      go_wp2
      go_ret
      exact OwnOut.mk A1 c1 rfl (own_base Howr.out (by omega)) Hgwr.out

end Go.Proofs.YtjkkoogfaibhiaaGreatDoor

/- A law's argument that is a slice of bytes. No program stands in this text. -/
namespace Go.Proofs.YtjkkoogfaibhiaaGreatDoor
open Go.ChangeShapes Go.WideShapes Go.ChangeAt Go.RowKit Go.Deep

theorem wf_byte {n : Int} (h : (Lit.int .u8 n).wf = true) : 0 ≤ n ∧ n ≤ 255 := by
  simpa [Lit.wf, IntKind.min, IntKind.max, IntKind.signed, IntKind.bits] using h

theorem bytes_opened {H : Type} {enc : TypeId × Value → H} {P : Program} {w : World} {base : Nat} {spare : Nat → Bool} {held : Bool} {t e : TypeId} {fuel len cap : Nat} {A : Option Addr} {x : DataW H × List MemPlace}
    (ht : P.underlying t = some (.slice e)) (he : P.underlying e = some (.int .u8)) (hC : P.cellsOf e = 1) (h : DataW.trod enc P w base spare held fuel t [.slice A len cap] = some x) :
    ∃ l : List Int, len = l.length ∧ len ≤ maxLen ∧ Sl w 1 A l.length (l.map (Value.int .u8)) ∧ ∀ n ∈ l, 0 ≤ n ∧ n ≤ 255 := by
  obtain ⟨hm, hc⟩ := open_elems ht (s := 1) hC (by omega) h
  rcases hc with rfl | ⟨b, off, rfl, hb, hi⟩
  · exact ⟨[], rfl, hm, Sl.nil _ _ _, fun r hr => by cases hr⟩
  · obtain ⟨l, hl, hp⟩ := choose_list (fun i (r : Int) => (0 ≤ r ∧ r ≤ 255) ∧ w.cell? ⟨b, off + i, none⟩ = some (.int .u8 r)) len (fun i hil => by
      obtain ⟨cs, n, y, hcl, hat, hT⟩ := hi i hil
      match cs, hcl with
      | [c], _ =>
        obtain ⟨r, e1, -, w1⟩ := DataW.trod_int he hT
        simp at e1
        subst e1
        have := hat 0 (by omega)
        exact ⟨r, wf_byte w1, by simpa using this⟩)
    refine ⟨l, hl.symm, hm, ⟨by simp, fun _ => ⟨b, off, rfl, hb, fun j u hu => ?_⟩⟩, fun r hr => ?_⟩
    · rw [List.getElem?_map] at hu
      cases hj : l[j]? with
      | none => rw [hj] at hu; cases hu
      | some r => rw [hj] at hu; simp at hu; subst hu; exact (hp j r hj).2
    · obtain ⟨i, hi, rfl⟩ := List.getElem_of_mem hr
      exact (hp i _ (List.getElem?_eq_getElem hi)).1

end Go.Proofs.YtjkkoogfaibhiaaGreatDoor

/- A law's argument that is a slice of the heap's operations. -/
namespace Go.Proofs.YtjkkoogfaibhiaaGreatDoor
open Go.ChangeShapes Go.WideShapes Go.ChangeAt Go.RowKit Go.Deep

/-- A slice of bytes, as it is handed. -/
structure SB where
  a : Option Addr
  c : Nat
  l : List Int
def SB.val (x : SB) : Value := .slice x.a x.l.length x.c
def SB.ok (w : World) (x : SB) : Prop := Sl w 1 x.a x.l.length (bv x.l) ∧ x.l.length ≤ x.c ∧ x.c ≤ maxLen ∧ ∀ q ∈ x.l, 0 ≤ q ∧ q ≤ 255
theorem SB.ok.grew {w w' : World} {x : SB} (h : x.ok w) (hg : Grew w w') : x.ok w' := ⟨h.1.grew hg, h.2⟩
section
variable {H : Type} {enc : TypeId × Value → H} {P : Program} {w : World} {base : Nat} {spare : Nat → Bool} {held : Bool}
theorem SB.of_trod {t e : TypeId} {fuel : Nat} {v : Value} {x : DataW H × List MemPlace} (ht : P.underlying t = some (.slice e)) (he : P.underlying e = some (.int .u8)) (hC : P.cellsOf e = 1) (h : DataW.trod enc P w base spare held fuel t [v] = some x) :
    ∃ s : SB, v = s.val ∧ s.ok w := by
  have h1 := h
  rcases open_slice ht h with ⟨hcs, _⟩ | ⟨a, len, cap, m, n, D, Pl, hcs, hb, hl, hm, _⟩
  · simp at hcs
    subst hcs
    exact ⟨⟨none, 0, []⟩, rfl, Sl.nil _ _ _, Nat.le_refl _, Nat.zero_le _, fun q hq => by simp at hq⟩
  · simp at hcs
    subst hcs
    obtain ⟨l, rfl, -, h2, h3⟩ := bytes_opened ht he hC h1
    exact ⟨⟨some a, cap, l⟩, rfl, h2, hl, hm, h3⟩
end
/-- A call of the heap's laws. -/
structure Hop where
  kind : Int
  at_ : Int
  data : SB
def Hop.vals (x : Hop) : List Value := [.int .i64 x.kind, .int .i64 x.at_, x.data.val]
def Hop.ok (w : World) (x : Hop) : Prop := (-9223372036854775808 ≤ x.kind ∧ x.kind ≤ 9223372036854775807) ∧ (-9223372036854775808 ≤ x.at_ ∧ x.at_ ≤ 9223372036854775807) ∧ x.data.ok w
theorem Hop.vals_len (l : List Hop) : (l.flatMap Hop.vals).length = l.length * 3 := by
  induction l with
  | nil => rfl
  | cons x l ih => rw [List.flatMap_cons, List.length_append, ih, List.length_cons]; simp only [Hop.vals, List.length_cons, List.length_nil]; omega
theorem Hop.vals_at (l : List Hop) : ∀ (k : Nat) (x : Hop), l[k]? = some x → ∀ j, j < 3 → (l.flatMap Hop.vals)[k * 3 + j]? = x.vals[j]? := by
  induction l with
  | nil => intro k x h; simp at h
  | cons y l ih =>
    intro k x h j hj
    cases k with
    | zero =>
      simp only [List.getElem?_cons_zero, Option.some.injEq] at h
      subst h
      rw [List.flatMap_cons, Nat.zero_mul, Nat.zero_add, List.getElem?_append_left (by simp [Hop.vals]; omega)]
    | succ k =>
      simp only [List.getElem?_cons_succ] at h
      rw [List.flatMap_cons, List.getElem?_append_right (by simp [Hop.vals]; omega)]
      rw [← ih k x h j hj]
      congr 1
      simp [Hop.vals]
      omega
theorem Sl.atHop {w : World} {A : Option Addr} {l : List Hop} (h : Sl w 3 A l.length (l.flatMap Hop.vals)) {k : Nat} {x : Hop} (hx : l[k]? = some x) :
    ∃ b off, A = some ⟨b, off, none⟩ ∧ b < w.heap.size ∧ w.cell? ⟨b, off + k * 3, none⟩ = some (.int .i64 x.kind) ∧ w.cell? ⟨b, off + k * 3 + 1, none⟩ = some (.int .i64 x.at_) ∧ w.cell? ⟨b, off + k * 3 + 2, none⟩ = some x.data.val := by
  have hk : k < l.length := (List.getElem?_eq_some_iff.1 hx).1
  obtain ⟨b, off, hA, hb, hc⟩ := h.2 (by omega)
  have hv := Hop.vals_at l k x hx
  refine ⟨b, off, hA, hb, ?_, ?_, ?_⟩
  · have := hc (k * 3 + 0) _ ((hv 0 (by omega)).trans rfl); simpa [Nat.add_assoc] using this
  · have := hc (k * 3 + 1) _ ((hv 1 (by omega)).trans rfl); simpa [Nat.add_assoc] using this
  · have := hc (k * 3 + 2) _ ((hv 2 (by omega)).trans rfl); simpa [Nat.add_assoc] using this
set_option maxRecDepth 100000 in
theorem Hop.of_trod {H : Type} {enc : TypeId × Value → H} {w : World} {base n : Nat} {spare : Nat → Bool} {held : Bool} {cs : List Value} {y : DataW H × List MemPlace} (hl : cs.length = 3) (h : DataW.trod enc Tryz.prog w base spare held n 45 cs = some y) : ∃ r : Hop, cs = r.vals ∧ r.ok w := by
  obtain ⟨xs, n, _, _, _, hlen, hf⟩ := DataW.trod_struct Tryz.underlying45 h
  match cs, hl with
  | [c0, c1, c2], _ =>
    match xs, hlen with
    | [y0, y1, y2], _ =>
      have f0 : DataW.trod enc Tryz.prog w base spare held n 3 (([c0, c1, c2].drop 0).take (Tryz.prog.cellsOf 3)) = some y0 := hf 0 _ rfl
      rw [show Tryz.prog.cellsOf 3 = 1 from by kernel_rfl] at f0
      have f1 : DataW.trod enc Tryz.prog w base spare held n 3 (([c0, c1, c2].drop 1).take (Tryz.prog.cellsOf 3)) = some y1 := hf 1 _ rfl
      rw [show Tryz.prog.cellsOf 3 = 1 from by kernel_rfl] at f1
      have f2 : DataW.trod enc Tryz.prog w base spare held n 34 (([c0, c1, c2].drop 2).take (Tryz.prog.cellsOf 34)) = some y2 := hf 2 _ rfl
      rw [show Tryz.prog.cellsOf 34 = 1 from by kernel_rfl] at f2
      obtain ⟨n0, e0, -, w0⟩ := DataW.trod_int Tryz.underlying3 f0
      simp at e0
      subst e0
      obtain ⟨n1, e1, -, w1⟩ := DataW.trod_int Tryz.underlying3 f1
      simp at e1
      subst e1
      obtain ⟨s, rfl, hok⟩ := SB.of_trod Tryz.underlying34 Tryz.underlying5 (by kernel_rfl) (show DataW.trod enc Tryz.prog w base spare held n 34 [c2] = some y2 from f2)
      exact ⟨⟨n0, n1, s⟩, rfl, wf_bounds w0, wf_bounds w1, hok⟩
theorem Hop.opened {H : Type} {enc : TypeId × Value → H} {w : World} {base fuel len cap : Nat} {spare : Nat → Bool} {held : Bool} {A : Option Addr} {x : DataW H × List MemPlace} (h : DataW.trod enc Tryz.prog w base spare held fuel 41 [.slice A len cap] = some x) :
    ∃ l : List Hop, len = l.length ∧ len ≤ maxLen ∧ Sl w 3 A l.length (l.flatMap Hop.vals) ∧ ∀ r ∈ l, r.ok w := by
  obtain ⟨hm, hc⟩ := open_elems Tryz.underlying41 (s := 3) (by kernel_rfl) (by omega) h
  rcases hc with rfl | ⟨b, off, rfl, hb, hi⟩
  · exact ⟨[], rfl, hm, Sl.nil _ _ _, fun r hr => by cases hr⟩
  · obtain ⟨l, hl, hp⟩ := choose_list (fun i (r : Hop) => r.ok w ∧ ∀ j u, r.vals[j]? = some u → w.cell? ⟨b, off + (i * 3 + j), none⟩ = some u) len (fun i hil => by
      obtain ⟨cs, n, y, hcl, hat, hT⟩ := hi i hil
      obtain ⟨r, rfl, hok⟩ := Hop.of_trod hcl hT
      refine ⟨r, hok, fun j u hu => ?_⟩
      have hj : j < 3 := by rw [← hcl]; exact (List.getElem?_eq_some_iff.1 hu).1
      rw [hat j hj, hu])
    refine ⟨l, hl.symm, hm, ⟨Hop.vals_len l, fun _ => ⟨b, off, rfl, hb, fun j u hu => ?_⟩⟩, fun r hr => ?_⟩
    · have hj : j < l.length * 3 := by rw [← Hop.vals_len l]; exact (List.getElem?_eq_some_iff.1 hu).1
      have hi' : j / 3 < l.length := by omega
      have hr : l[j / 3]? = some l[j / 3] := List.getElem?_eq_getElem hi'
      have he : j = j / 3 * 3 + j % 3 := by omega
      have hv := Hop.vals_at l (j / 3) _ hr (j % 3) (by omega)
      rw [← he, hu] at hv
      have := (hp (j / 3) _ hr).2 (j % 3) u hv.symm
      rwa [← he] at this
    · obtain ⟨i, hi, rfl⟩ := List.getElem_of_mem hr
      exact (hp i _ (List.getElem?_eq_getElem hi)).1

end Go.Proofs.YtjkkoogfaibhiaaGreatDoor

/- The heap's laws: small. -/
namespace Go.Proofs.YtjkkoogfaibhiaaGreatDoor
open Go.RowKit Go.Maps

def smallB (l : List Hop) (most : Int) : Bool := l.all (fun o => decide (o.data.l.length ≤ 200)) && decide ((l.length : Int) ≤ most)
set_option maxRecDepth 100000 in
set_option maxHeartbeats 1600000 in
theorem small_any (l : List Hop) (A : Option Addr) (c : Nat) (most : Int) (w : World) (hs : Sl w 3 A l.length (l.flatMap Hop.vals)) (ok : ∀ r ∈ l, r.ok w) (hl : l.length ≤ 9223372036854775807) :
    Calls Tryz.prog 16 #[.slice A l.length c, .int .i64 most] w fun e w' => e = .returned (.bool (smallB l most)) ∧ Grew w w' := by
  have H := Lib.hid (And.intro hs ok)
  obtain ⟨b, hb⟩ : ∃ b, smallB l most = b := ⟨_, rfl⟩
  have HB := Lib.hid hb
  rw [hb]
  clear hs ok hb
  go_enter Tryz.func16, Tryz.ntmps16
  go_wp2_with fail
  go_loopg [9] l.length (fun q i wr => ∃ k, q = l.length - k ∧ k ≤ l.length ∧ i = .int .i64 k ∧ Grew w wr ∧ ∀ j o, j < k → l[j]? = some o → o.data.l.length ≤ 200)
  case atStart => exact ⟨0, rfl, Nat.zero_le _, rfl, Chg.refl _ _, fun j o h => absurd h (by omega)⟩
  case round =>
    obtain ⟨k, rfl, hk, rfl, hg, hall⟩ := hrel
    have HG := Lib.hid (And.intro hg hall)
    clear hg hall
    by_cases hlt : k < l.length
    · obtain ⟨o, ho⟩ : ∃ o, l[k]? = some o := ⟨_, List.getElem?_eq_getElem hlt⟩
      obtain ⟨g, off, rfl, hgl, d0, d1, d2⟩ := (H.out.1.grew HG.out.1).atHop ho
      have hok := (H.out.2 o (List.mem_of_getElem? ho)).2.2
      obtain ⟨kd, at_, A2, c2, t⟩ := o
      have hgr : ∀ o, Grew wr (wr.alloc o) := fun o => (Chg.refl _ _).alloc o
      have hml := hok.2.1
      have hmx := hok.2.2.1
      simp only [SB.val] at d2
      simp only [maxLen] at hml hmx
      obtain ⟨n, hn⟩ : ∃ n, t.length = n := ⟨_, rfl⟩
      rw [hn] at d2 hml
      have Ho := Lib.hid (And.intro ho hn)
      have hn9 : n ≤ 9223372036854775807 := by omega
      clear ho hok hn hml hmx
      by_cases h2 : n ≤ 200
      · have t1 : decide ((200 : Int) < (n : Int)) = false := decide_eq_false (by omega)
        go_wp2_with fail
        go_roundg (l.length - (k + 1))
        case measure => omega
        case rel =>
          refine ⟨k + 1, rfl, by omega, by simp, Grew.trans HG.out.1 (hgr _), fun j o hj hjo => ?_⟩
          by_cases e : j = k
          · subst e
            rw [Ho.out.1] at hjo
            cases hjo
            show t.length ≤ 200
            rw [Ho.out.2]
            exact h2
          · exact HG.out.2 j o (by omega) hjo
      · have t1 : decide ((200 : Int) < (n : Int)) = true := decide_eq_true (by omega)
        have hbv : b = false := by
          rw [← HB.out]
          unfold smallB
          rw [Bool.and_eq_false_iff]
          left
          rw [List.all_eq_false]
          refine ⟨_, List.mem_of_getElem? Ho.out.1, ?_⟩
          have := Ho.out.2
          simp only [decide_eq_true_eq]
          omega
        subst hbv
        go_wp2_with fail
        go_ret
        exact ⟨rfl, Grew.trans HG.out.1 (hgr _)⟩
    · obtain rfl : k = l.length := by omega
      have hbv : b = decide ((l.length : Int) ≤ most) := by
        rw [← HB.out]
        unfold smallB
        rw [List.all_eq_true.2 fun o ho => by
          obtain ⟨j, hj⟩ := List.mem_iff_getElem?.1 ho
          exact decide_eq_true (HG.out.2 j o (List.getElem?_eq_some_iff.1 hj).1 hj)]
        simp
      subst hbv
      go_wp2_with fail
      go_ret
      exact ⟨rfl, HG.out.1⟩
end Go.Proofs.YtjkkoogfaibhiaaGreatDoor

/- string(b) of bytes that are read. -/
namespace Go.Proofs.YtjkkoogfaibhiaaGreatDoor
open Go.RowKit Go.Maps

/-- string(b) of bytes that are read. -/
theorem conv_sl {w : World} {c : Nat} {bs : List Int} {A : Option Addr} (h : Sl w 1 A bs.length (bv bs)) (h0 : 0 < bs.length) : (convert 34 9 (.slice A bs.length c)).run Tryz.prog w = .ok (.string (strOfNums bs)) w := by
  obtain ⟨b, off, rfl, hb, hx⟩ := h.2 h0
  refine run_convert_bytes_arg w 34 5 Tryz.underlying34 (by kernel_rfl) b off bs.length c bs rfl (fun i hi => ?_) 9 (by kernel_rfl)
  exact hx i (.int .u8 (bs.getD i 0)) (by simp [bv, hi])
theorem conv_own {w : World} {base n c : Nat} {bs : List Int} {A : Option Addr} (h : w.ownsRow base 5 1 (.slice A n c) n (bv bs)) (h0 : 0 < n) : (convert 34 9 (.slice A n c)).run Tryz.prog w = .ok (.string (strOfNums bs)) w := by
  have hl : bs.length = n := by have := h.1; rwa [bv_len, Nat.mul_one] at this
  subst hl
  exact conv_sl (Sl.of_own h) h0
end Go.Proofs.YtjkkoogfaibhiaaGreatDoor

/- The heap's laws: a new pager in an open change; Long; awake. -/
namespace Go.Proofs.YtjkkoogfaibhiaaGreatDoor
open Go.RowKit Go.Maps

set_option maxRecDepth 100000 in
set_option maxHeartbeats 1600000 in
theorem hfresh_any (n sz : Nat) (w : World) (hT : TabAt 0 tab w) (h1 : 8 ≤ n) (h2 : n ≤ 4096) (h3 : 64 ≤ sz) (h4 : sz ≤ 4096) :
    Calls Tryz.prog 7 #[.int .i64 n, .int .i64 sz] w fun e w' => ∃ p d F, e = .returned (.tuple #[.pointer (some ⟨p, 0, none⟩), .pointer (some ⟨d, 0, none⟩)]) ∧ GP w' p F (Rp.opened n sz d) ∧ Grew w w' ∧ ∀ j, F j → w.heap.size ≤ j := by
  have H := Lib.hid hT
  clear hT
  go_enter Tryz.func7, Tryz.ntmps7
  go_wp2_with fail
  refine (dnew_any n sz _ (by omega) h2 (by omega) h4).mono ?_
  rintro e w1 ⟨d, F1, rfl, hd, hg1, hn1⟩
  have hT1 := tab_chg H.out hg1 id
  have hF0 : ¬ F1 0 := fun e => by have := hn1 0 e; have := tab_pos H.out; omega
  have H1 := Lib.hid (And.intro hd (And.intro hg1 (And.intro hn1 (And.intro hT1 hF0))))
  clear hd hg1 hn1 hT1 hF0
  go_wp2_with fail
  refine (gp_open_new n sz d F1 w1 H1.out.1 H1.out.2.2.2.1 H1.out.2.2.2.2 h1 h3).mono ?_
  rintro e w2 ⟨p, F2, rfl, hp, hg2, hn2⟩
  have H2 := Lib.hid (And.intro hp (And.intro (Grew.trans H1.out.2.1 hg2) (fun j hj => show w.heap.size ≤ j from (hn2 j hj).elim (H1.out.2.2.1 j) fun e => Nat.le_trans H1.out.2.1.size e)))
  clear hp hg2 hn2
  go_wp2_with fail
  refine (gp_begin p F2 _ w2 H2.out.1 rfl).mono ?_
  rintro e w3 ⟨rfl, F3, k1, k2, k3⟩
  have hg3 : Grew w w3 := Chg.trans H2.out.2.1 k2 fun i hi e => by have := H2.out.2.2 i e; omega
  have hn3 : ∀ j, F3 j → w.heap.size ≤ j := fun j hj => (k3 j hj).elim (H2.out.2.2 j) fun e => Nat.le_trans H2.out.2.1.size e
  have H3 := Lib.hid (And.intro k1 (And.intro hg3 hn3))
  clear k1 k2 k3 hg3 hn3
  go_wp2_with fail
  go_ret2
  exact ⟨p, d, F3, rfl, H3.out.1, H3.out.2.1, H3.out.2.2⟩
theorem xlong_any (n sz : Nat) (w : World) (h1 : 64 ≤ sz) (h2 : sz ≤ 4096) (h3 : n ≤ 16384) :
    Calls Tryz.prog 10 #[.int .i64 n, .int .i64 sz] w fun e w' => e = .returned (.bool (longB n sz)) ∧ w = w' := by
  have hq : ((sz : Int) - 8).tdiv 2 = (((sz - 8) / 2 : Nat) : Int) := by rw [Int.tdiv_eq_ediv_of_nonneg (by omega)]; omega
  obtain ⟨b, hb⟩ : ∃ b, longB n sz = b := ⟨_, rfl⟩
  have HB := Lib.hid hb
  rw [hb]
  unfold longB at hb
  cases b with
  | true =>
    have := of_decide_eq_true hb
    have t1 : decide ((sz : Int) - 8 < 2 * (n : Int)) = true := decide_eq_true (by omega)
    have t2 : decide (((sz - 8 : Nat) : Int) / 2 < (n : Int)) = true := decide_eq_true (by omega)
    clear hb this
    go_enter Tryz.func10, Tryz.ntmps10
    go_wp2
    go_ret
    exact ⟨rfl, rfl⟩
  | false =>
    have := of_decide_eq_false hb
    have t2 : decide (((sz - 8 : Nat) : Int) / 2 < (n : Int)) = false := decide_eq_false (by omega)
    by_cases h8 : (sz : Int) - 8 < 2 * (n : Int)
    · have t1 : decide ((sz : Int) - 8 < 2 * (n : Int)) = true := decide_eq_true h8
      clear hb this h8
      go_enter Tryz.func10, Tryz.ntmps10
      go_wp2
      go_ret
      exact ⟨rfl, rfl⟩
    · have t1 : decide ((sz : Int) - 8 < 2 * (n : Int)) = false := decide_eq_false h8
      clear hb this h8
      go_enter Tryz.func10, Tryz.ntmps10
      go_wp2
      go_ret
      exact ⟨rfl, rfl⟩
/-- A heap of the law's own. -/
structure HM (w W : World) (h m p : Nat) (F : Nat → Prop) (x : Rp) (P : Nat → Bool) : Prop where
  k : HH W h m p F x P
  gr : Grew w W
  fn : ∀ j, F j → w.heap.size ≤ j
  mn : w.heap.size ≤ m
section
variable {w W W' : World} {h m p : Nat} {F F' : Nat → Prop} {x y : Rp} {P P' : Nat → Bool}
theorem HM.grew (a : HM w W h m p F x P) (hg : Grew W W') : HM w W' h m p F x P := ⟨a.k.grew hg, Grew.trans a.gr hg, a.fn, a.mn⟩
theorem HM.far (a : HM w W h m p F x P) (hc : Chg F W W') (hk : HH W' h m p F x P) : HM w W' h m p F x P := ⟨hk, Chg.trans a.gr hc fun i hi e => by have := a.fn i e; omega, a.fn, a.mn⟩
theorem HM.to (a : HM w W h m p F x P) (hc : Chg (fun j => F j ∨ j = m) W W') (hk : HH W' h m p F' y P') (hn : ∀ j, F' j → F j ∨ W.heap.size ≤ j) : HM w W' h m p F' y P' :=
  ⟨hk, Chg.trans a.gr hc fun i hi e => by have := a.mn; rcases e with e | e; (have := a.fn i e; omega); omega, fun j hj => (hn j hj).elim (a.fn j) fun e => Nat.le_trans a.gr.size e, a.mn⟩
end
theorem cntN_pos {P : Nat → Bool} {i N : Nat} (hi : P i = true) (hN : i < N) : 1 ≤ cntN P N := by
  have := cntN_drop P hN hi
  omega
/-- One record: how many pages are used. -/
theorem HeapIn.one {x : Rp} {P : Nat → Bool} {r : HR} (h : HeapIn x P [r] []) : x.now.countP Pk.used = 1 + r.pages.length := by
  have h1 := h.used
  have h2 := h.bnd
  have h3 := cntN_pos (h.at_ r List.mem_cons_self).1 (h.lt (h.at_ r List.mem_cons_self).1)
  simp at h1 h2
  omega
theorem HeapIn.zero {x : Rp} {P : Nat → Bool} (h : HeapIn x P [] []) : x.now.countP Pk.used = 0 ∧ ∀ N, (keysL P N).length = 0 := by
  have he := h.empty
  refine ⟨?_, fun N => ?_⟩
  · have h1 := h.used
    rw [cntN_false fun j _ => he j] at h1
    simpa using h1
  · unfold keysL
    rw [List.filter_eq_nil_iff.2 fun a _ => by rw [he a]; simp]
    rfl
end Go.Proofs.YtjkkoogfaibhiaaGreatDoor

/- The heap's laws: same. -/
namespace Go.Proofs.YtjkkoogfaibhiaaGreatDoor
open Go.RowKit Go.Maps

/-- A record as the document's answer has it. -/
def HR.rw (r : HR) : Hrw := ⟨r.place, strOfNums r.text⟩
set_option maxRecDepth 100000 in
set_option maxHeartbeats 1600000 in
theorem hsame_any (h m p : Nat) (F : Nat → Prop) (x : Rp) (P : Nat → Bool) (L : List HR) (A : Option Addr) (c : Nat) (w : World) (k : HH w h m p F x P) (hx : HeapIn x P L []) (hl : L.length ≤ 1000000)
    (hs : Sl w 2 A L.length ((L.map HR.rw).flatMap Hrw.vals)) (hA : ∀ a, A = some a → ¬ F a.block) :
    Calls Tryz.prog 18 #[.pointer (some ⟨h, 0, none⟩), .slice A L.length c] w fun e w' => e = .returned (.bool true) ∧ HH w' h m p F x P ∧ Chg F w w' := by
  have H := Lib.hid (And.intro k (And.intro hx (And.intro hs hA)))
  clear k hx hs hA
  go_enter Tryz.func18, Tryz.ntmps18
  go_wp2_with fail
  go_loopg [11] L.length (fun q i wr => ∃ j, q = L.length - j ∧ j ≤ L.length ∧ i = .int .i64 j ∧ HH wr h m p F x P ∧ Chg F w wr)
  case atStart => exact ⟨0, rfl, Nat.zero_le _, rfl, H.out.1, Chg.refl _ _⟩
  case round =>
    obtain ⟨j, rfl, hj, rfl, hk, hc⟩ := hrel
    have HK := Lib.hid (And.intro hk hc)
    clear hk hc
    by_cases hlt : j < L.length
    · obtain ⟨r, hr⟩ : ∃ r, L[j]? = some r := ⟨_, List.getElem?_eq_getElem hlt⟩
      have hrm := List.mem_of_getElem? hr
      have hsl : Sl wr 2 A (L.map HR.rw).length ((L.map HR.rw).flatMap Hrw.vals) := by rw [List.length_map]; exact H.out.2.2.1.chg HK.out.2 H.out.2.2.2
      obtain ⟨g, off, rfl, hgl, d0, d1⟩ := hsl.atHrw (x := r.rw) (by rw [List.getElem?_map, hr]; rfl)
      have hok := (H.out.2.1.at_ r hrm).2.base
      have hge := fun u (hk : HH u h m p F x P) => hget_any h m p F x P L [] r u hk H.out.2.1 hrm
      have HG := Lib.hid (And.intro hge hok)
      obtain ⟨pl, hpl⟩ : ∃ q, r.place = q := ⟨_, rfl⟩
      obtain ⟨t, ht⟩ : ∃ q, r.text = q := ⟨_, rfl⟩
      have e0 : wr.cell? ⟨g, off + j * 2, none⟩ = some (.int .i64 pl) := by rw [← hpl]; exact d0
      have e1 : wr.cell? ⟨g, off + j * 2 + 1, none⟩ = some (.string (strOfNums t)) := by rw [← ht]; exact d1
      rw [hpl, ht] at HG
      obtain ⟨W1, hW1⟩ : ∃ W, wr.alloc (.cells #[.int .i64 pl, .string (strOfNums t)] 53) = W := ⟨_, rfl⟩
      have hb1 : Blk W1 wr.heap.size 53 #[.int .i64 pl, .string (strOfNums t)] := hW1 ▸ Blk.new _ _ _
      have hg1 : Grew wr W1 := hW1 ▸ (Chg.refl _ _).alloc _
      have hk1 := HK.out.1.grew hg1
      obtain ⟨c9, f9, s9⟩ := hb1.facts
      have HB := Lib.hid hb1
      have H1 := Lib.hid (And.intro hk1 (HK.out.2.grew hg1))
      have hgF : ¬ F wr.heap.size := fun e => by have := HK.out.1.gp.lt _ e; omega
      clear hr hrm hsl d0 d1 hok hge hpl ht hb1 hg1 hk1
      go_wp2_with fail
      refine (HG.out.1 W1 H1.out.1).mono ?_
      rintro e w2 ⟨A2, c2, rfl, hs2, -, -, hk2, hc2⟩
      have hcv := conv_sl (c := c2) hs2 (by have := HG.out.2.1; omega)
      have hb2 := HB.out.chg hc2 hgF
      obtain ⟨c8, f8, s8⟩ := hb2.facts
      have H2 := Lib.hid (And.intro hk2 (Chg.trans H1.out.2 hc2 fun _ _ e => e))
      clear hs2 hk2 hc2 hb2 c9 f9 s9 hW1
      go_wp2_with fail
      go_roundg (L.length - (j + 1))
      case measure => omega
      case rel => exact ⟨j + 1, rfl, by omega, by simp, H2.out.1, H2.out.2⟩
    · obtain rfl : j = L.length := by omega
      by_cases h0 : L.length = 0
      · obtain rfl : L = [] := List.eq_nil_of_length_eq_zero h0
        have hpa := hpages_any h m p x.now.length F x P wr HK.out.1 (fun s hs => H.out.2.1.lt hs) (by have := HK.out.1.gp.szs.2.2.2.2.2; omega)
        rw [(HeapIn.zero H.out.2.1).2] at hpa
        have HPa := Lib.hid hpa
        clear hpa h0 hlt hj
        go_wp2_with fail
        refine HPa.out.mono ?_
        rintro e w1 ⟨A1, c1, rfl, -, hg1⟩
        have H1 := Lib.hid (And.intro (HK.out.1.grew hg1) (HK.out.2.grew hg1))
        clear hg1
        go_wp2_with fail
        go_ret
        exact ⟨rfl, H1.out.1, H1.out.2⟩
      · have t1 : decide (0 < L.length) = true := decide_eq_true (by omega)
        clear h0 hlt hj
        go_wp2_with fail
        go_ret
        exact ⟨rfl, HK.out.1, HK.out.2⟩
end Go.Proofs.YtjkkoogfaibhiaaGreatDoor

/- The heap in memory: Del where there is no record; where a place is in the document's list. -/
namespace Go.Proofs.YtjkkoogfaibhiaaGreatDoor
open Go.RowKit Go.Maps

set_option maxRecDepth 100000 in
theorem hdel_none (h m p : Nat) (F : Nat → Prop) (x : Rp) (P : Nat → Bool) (L : List HR) (E : List Nat) (pl : Int) (w : World) (k : HH w h m p F x P) (hx : HeapIn x P L E) (hb : -9223372036854775808 ≤ pl ∧ pl ≤ 9223372036854775807) (hn : NoRec L pl) :
    Calls Tryz.prog 14 #[.pointer (some ⟨h, 0, none⟩), .int .i64 pl] w fun e w' => e = .returned (.int .i64 14) ∧ HH w' h m p F x P ∧ Chg F w w' := by
  have HS := Lib.hid (hget_none h m p F x P L E pl w k hx hb hn)
  clear k hx hb hn
  go_enter Tryz.func14, Tryz.ntmps14
  go_wp2_with fail
  refine HS.out.mono ?_
  rintro e w1 ⟨rfl, hk, hc⟩
  have H1 := Lib.hid (And.intro hk hc)
  clear hk hc
  go_wp2_with fail
  go_ret
  exact ⟨rfl, H1.out.1, H1.out.2⟩
/-- Find tells -1 just if no record lies there. -/
theorem fnR_none {L : List HR} {q : Int} (h : NoRec L q) : fnR (L.map HR.rw) q = -1 := by
  unfold fnR
  refine fidxR_none fun j y _ hy => ?_
  rw [List.getElem?_map] at hy
  cases hr : L[j]? with
  | none => rw [hr] at hy; cases hy
  | some r =>
    rw [hr] at hy
    simp only [Option.map_some, Option.some.injEq] at hy
    subst hy
    have hm := List.mem_of_getElem? hr
    refine beq_eq_false_iff_ne.2 fun e => ?_
    have e' : (r.place : Int) = q := e
    rcases h with h | h
    · omega
    · exact h r hm e'
/-- .. and else where it lies. -/
theorem fnR_some {L : List HR} (hnd : (L.map HR.place).Nodup) {j : Nat} {r : HR} (hr : L[j]? = some r) : fnR (L.map HR.rw) (r.place : Int) = j := by
  unfold fnR
  refine fidxR_hit (x := r.rw) (fun i y hi hy => ?_) (by rw [List.getElem?_map, hr]; rfl) (beq_iff_eq.2 rfl)
  rw [List.getElem?_map] at hy
  cases hq : L[i]? with
  | none => rw [hq] at hy; cases hy
  | some s =>
    rw [hq] at hy
    simp only [Option.map_some, Option.some.injEq] at hy
    subst hy
    refine beq_eq_false_iff_ne.2 fun e => ?_
    have e' : (s.place : Int) = (r.place : Int) := e
    have hil := (List.getElem?_eq_some_iff.1 hq).1
    have := (List.getElem?_inj (show i < (L.map HR.place).length by rw [List.length_map]; exact hil) hnd).1 (show (L.map HR.place)[i]? = (L.map HR.place)[j]? by rw [List.getElem?_map, List.getElem?_map, hq, hr]; exact congrArg some (by omega))
    omega
theorem noRec_or {L : List HR} (q : Int) : NoRec L q ∨ ∃ (j : Nat) (r : HR), L[j]? = some r ∧ (r.place : Int) = q := by
  by_cases h : ∃ r ∈ L, (r.place : Int) = q
  · obtain ⟨r, h1, h2⟩ := h
    obtain ⟨j, hj⟩ := List.mem_iff_getElem?.1 h1
    exact .inr ⟨j, r, hj, h2⟩
  · exact .inl (.inr fun r hr e => h ⟨r, hr, e⟩)
/-- How many pages some records use at most. -/
theorem HeapIn.used_le {x : Rp} {P : Nat → Bool} {L : List HR} (h : HeapIn x P L []) (hp : ∀ r ∈ L, r.pages.length ≤ 4) : x.now.countP Pk.used ≤ 5 * L.length := by
  have h1 := h.used
  have h2 := h.bnd
  have h3 : ∀ l : List HR, (∀ r ∈ l, r.pages.length ≤ 4) → (l.flatMap HR.pages).length ≤ 4 * l.length := by
    intro l
    induction l with
    | nil => intro _; simp
    | cons r t ih =>
      intro hl
      have e1 := ih fun q hq => hl q (List.mem_cons_of_mem _ hq)
      have e2 := hl r List.mem_cons_self
      rw [List.flatMap_cons, List.length_append, List.length_cons]
      omega
  have h4 := h3 L hp
  rw [List.nil_append] at h1
  omega
theorem ownN_200 {n sz : Nat} (h1 : 64 ≤ sz) (h2 : n ≤ 200) : ownN n sz ≤ 4 := by
  unfold ownN
  split
  · unfold partsN
    have : (n - 1) / (sz - 5) ≤ 199 / 59 := Nat.div_le_div (by omega) (by omega) (by omega)
    omega
  · omega
theorem tabs600B : ((List.range 137).all fun k => decide (tabN 600 (64 + k) ≤ 20) && decide (500 ≤ capN 600 (64 + k))) = true := by kernel_rfl
theorem roomy600 {sz d : Nat} (h1 : 64 ≤ sz) (h2 : sz ≤ 200) : (Rp.opened 600 sz d).roomy 400 := by
  have h := List.all_eq_true.1 tabs600B (sz - 64) (List.mem_range.2 (by omega))
  rw [show 64 + (sz - 64) = sz by omega] at h
  simp only [Bool.and_eq_true, decide_eq_true_eq] at h
  exact opened_roomy h.1 h.2 (by omega) (by omega)
end Go.Proofs.YtjkkoogfaibhiaaGreatDoor

/- The heap's laws: the document's list beside a heap. -/
namespace Go.Proofs.YtjkkoogfaibhiaaGreatDoor
open Go.RowKit Go.Maps

/-- The document's list lies there, apart from the heap. -/
structure XS (W : World) (A : Option Addr) (L : List HR) (F : Nat → Prop) (m : Nat) : Prop where
  sl : Sl W 2 A L.length ((L.map HR.rw).flatMap Hrw.vals)
  ap : ∀ a, A = some a → ¬ F a.block ∧ a.block ≠ m ∧ a.block < W.heap.size
section
variable {W W' : World} {A : Option Addr} {L : List HR} {F F' : Nat → Prop} {m : Nat}
theorem XS.to (h : XS W A L F m) (hc : Chg (fun j => F j ∨ j = m) W W') (hn : ∀ j, F' j → F j ∨ W.heap.size ≤ j) : XS W' A L F' m :=
  ⟨h.sl.chg hc fun a ha e => e.elim (h.ap a ha).1 (h.ap a ha).2.1, fun a ha => ⟨fun e => (hn _ e).elim (h.ap a ha).1 fun e => by have := (h.ap a ha).2.2; omega, (h.ap a ha).2.1, Nat.lt_of_lt_of_le (h.ap a ha).2.2 hc.size⟩⟩
theorem XS.far (h : XS W A L F m) (hc : Chg F W W') : XS W' A L F m := h.to (hc.mono fun _ _ e => .inl e) fun _ e => .inl e
theorem XS.grew (h : XS W A L F m) (hc : Grew W W') : XS W' A L F m := h.far hc.chg
/-- A row that is new. -/
theorem XS.new {base : Nat} {c : Nat} (hF : ∀ j, F j → j < base) (hm : m < base) (ho : W.ownsRow base 53 2 (.slice A L.length c) L.length ((L.map HR.rw).flatMap Hrw.vals)) : XS W A L F m :=
  ⟨Sl.of_own ho, fun a ha => by
    subst ha
    obtain ⟨g, rfl, hg⟩ := own_some ho
    have h1 := (ho.lt g rfl).1
    exact ⟨fun e => by have := hF _ e; simp only at this; omega, by simp only; omega, hg⟩⟩
end
theorem rw_app (L : List HR) (r : HR) : (L ++ [r]).map HR.rw = L.map HR.rw ++ [r.rw] := by simp
theorem rw_erase (L : List HR) (k : Nat) : (L.eraseIdx k).map HR.rw = (L.map HR.rw).eraseIdx k := by
  rw [List.eraseIdx_eq_take_drop_succ, List.eraseIdx_eq_take_drop_succ, List.map_append, List.map_take, List.map_drop]
/-- What the law asks of its records. -/
def Small (L : List HR) : Prop := ∀ r ∈ L, r.text.length ≤ 200 ∧ r.pages.length ≤ 4
theorem Small.app {L : List HR} {r : HR} (h : Small L) (h1 : r.text.length ≤ 200) (h2 : r.pages.length ≤ 4) : Small (L ++ [r]) := fun q hq => by
  rcases List.mem_append.1 hq with e | e
  · exact h q e
  · simp only [List.mem_singleton] at e; subst e; exact ⟨h1, h2⟩
theorem Small.erase {L : List HR} (h : Small L) (k : Nat) : Small (L.eraseIdx k) := fun q hq => h q (List.mem_of_mem_eraseIdx hq)
/-- What step leaves. -/
def StepOut (w w' : World) (h m p : Nat) (F : Nat → Prop) (x : Rp) (L : List HR) (e : Ending) : Prop :=
  ∃ (A' : Option Addr) (c' : Nat) (L' : List HR) (y : Rp) (F' : Nat → Prop) (P' : Nat → Bool), e = .returned (.tuple #[.slice A' L'.length c', .bool true]) ∧ HH w' h m p F' y P' ∧ HeapIn y P' L' [] ∧ x.like y ∧ XS w' A' L' F' m ∧ Small L' ∧ L'.length ≤ L.length + 1 ∧
    Chg (fun j => F j ∨ j = m) w w' ∧ ∀ j, F' j → F j ∨ w.heap.size ≤ j
end Go.Proofs.YtjkkoogfaibhiaaGreatDoor

/- The heap's laws: step, where nothing is done. -/
namespace Go.Proofs.YtjkkoogfaibhiaaGreatDoor
open Go.RowKit Go.Maps

set_option maxRecDepth 100000 in
set_option maxHeartbeats 1600000 in
theorem hstep_idle (h : Nat) (A : Option Addr) (n c : Nat) (kd at_ : Int) (D : Value) (w : World) (hn : n ≤ 1000000) (hk : kd < 1 ∨ 5 < kd) :
    Calls Tryz.prog 17 #[.pointer (some ⟨h, 0, none⟩), .slice A n c, .agg #[.int .i64 kd, .int .i64 at_, D]] w fun e w' => e = .returned (.tuple #[.slice A n c, .bool true]) ∧ Grew w w' := by
  have q1 : (kd == 1) = false := by rw [beq_eq_false_iff_ne]; omega
  have q2 : (kd == 2) = false := by rw [beq_eq_false_iff_ne]; omega
  have q3 : (kd == 3) = false := by rw [beq_eq_false_iff_ne]; omega
  have q4 : (kd == 4) = false := by rw [beq_eq_false_iff_ne]; omega
  have q5 : (kd == 5) = false := by rw [beq_eq_false_iff_ne]; omega
  have hg : ∀ o, Grew w (w.alloc o) := fun o => (Chg.refl _ _).alloc o
  obtain ⟨bi, hbi⟩ : ∃ b, decide ((0 : Int) ≤ at_) = b := ⟨_, rfl⟩
  obtain ⟨bj, hbj⟩ : ∃ b, decide (at_ < (n : Int)) = b := ⟨_, rfl⟩
  clear hk
  cases bi
  all_goals
    go_enter Tryz.func17, Tryz.ntmps17
    go_wp2_with fail
    go_ret2
    exact ⟨rfl, hg _⟩
set_option maxRecDepth 100000 in
set_option maxHeartbeats 1600000 in
theorem hstep_out (h : Nat) (A : Option Addr) (n c : Nat) (kd at_ : Int) (D : Value) (w : World) (hn : n ≤ 1000000) (hk : kd = 2 ∨ kd = 3) (ho : at_ < 0 ∨ (n : Int) ≤ at_) :
    Calls Tryz.prog 17 #[.pointer (some ⟨h, 0, none⟩), .slice A n c, .agg #[.int .i64 kd, .int .i64 at_, D]] w fun e w' => e = .returned (.tuple #[.slice A n c, .bool true]) ∧ Grew w w' := by
  have hg : ∀ o, Grew w (w.alloc o) := fun o => (Chg.refl _ _).alloc o
  have t0 : (decide ((0 : Int) ≤ at_) = false) ∨ (decide ((0 : Int) ≤ at_) = true ∧ decide (at_ < (n : Int)) = false) := by
    by_cases a : (0 : Int) ≤ at_
    · exact .inr ⟨decide_eq_true a, decide_eq_false (by omega)⟩
    · exact .inl (decide_eq_false a)
  clear ho
  rcases hk with rfl | rfl <;> rcases t0 with t1 | ⟨t1, t2⟩
  all_goals
    go_enter Tryz.func17, Tryz.ntmps17
    go_wp2_with fail
    go_ret2
    exact ⟨rfl, hg _⟩
set_option maxRecDepth 100000 in
set_option maxHeartbeats 1600000 in
/-- Put of no bytes. -/
theorem hstep_none (h : Nat) (A B : Option Addr) (n c d : Nat) (at_ : Int) (w : World) (hn : n ≤ 1000000) :
    Calls Tryz.prog 17 #[.pointer (some ⟨h, 0, none⟩), .slice A n c, .agg #[.int .i64 1, .int .i64 at_, .slice B 0 d]] w fun e w' => e = .returned (.tuple #[.slice A n c, .bool true]) ∧ Grew w w' := by
  have hg : ∀ o, Grew w (w.alloc o) := fun o => (Chg.refl _ _).alloc o
  have HP := Lib.hid (fun u => hput_empty h B d u)
  obtain ⟨bi, hbi⟩ : ∃ b, decide ((0 : Int) ≤ at_) = b := ⟨_, rfl⟩
  obtain ⟨bj, hbj⟩ : ∃ b, decide (at_ < (n : Int)) = b := ⟨_, rfl⟩
  cases bi
  all_goals
    go_enter Tryz.func17, Tryz.ntmps17
    go_wp2_with fail
    refine (HP.out _).mono ?_
    rintro e w1 ⟨rfl, rfl⟩
    go_wp2_with fail
    go_ret2
    exact ⟨rfl, hg _⟩
end Go.Proofs.YtjkkoogfaibhiaaGreatDoor

/- The heap's laws: step, Get. -/
namespace Go.Proofs.YtjkkoogfaibhiaaGreatDoor
open Go.RowKit Go.Maps

set_option maxRecDepth 100000 in
set_option maxHeartbeats 3200000 in
theorem hstep_get (h m p c : Nat) (F : Nat → Prop) (x : Rp) (P : Nat → Bool) (L : List HR) (A : Option Addr) (at_ : Int) (D : Value) (w : World) (k : HH w h m p F x P) (hx : HeapIn x P L []) (hX : XS w A L F m) (hl : L.length ≤ 1000000) (hb : -9223372036854775808 ≤ at_ ∧ at_ ≤ 9223372036854775807) :
    Calls Tryz.prog 17 #[.pointer (some ⟨h, 0, none⟩), .slice A L.length c, .agg #[.int .i64 4, .int .i64 at_, D]] w fun e w' => e = .returned (.tuple #[.slice A L.length c, .bool true]) ∧ HH w' h m p F x P ∧ Chg F w w' := by
  obtain ⟨W1, hW1⟩ : ∃ W, w.alloc (.cells #[.int .i64 4, .int .i64 at_, D] 45) = W := ⟨_, rfl⟩
  have hg1 : Grew w W1 := hW1 ▸ (Chg.refl _ _).alloc _
  have hb1 : Blk W1 w.heap.size 45 #[.int .i64 4, .int .i64 at_, D] := hW1 ▸ Blk.new _ _ _
  have hgF : ¬ F w.heap.size := fun e => by have := k.gp.lt _ e; omega
  obtain ⟨c1, f1, s1⟩ := hb1.facts
  have H := Lib.hid (And.intro (k.grew hg1) (And.intro hx (And.intro (hX.grew hg1) (And.intro hb1 hg1))))
  obtain ⟨bi, hbi⟩ : ∃ b, decide ((0 : Int) ≤ at_) = b := ⟨_, rfl⟩
  obtain ⟨bj, hbj⟩ : ∃ b, decide (at_ < (L.length : Int)) = b := ⟨_, rfl⟩
  have hfi := fun u A (hs : Sl u 2 A L.length ((L.map HR.rw).flatMap Hrw.vals)) => xhfind_any at_ (L.map HR.rw) A c u (by rw [List.length_map]; exact hs) (by rw [List.length_map]; exact hl)
  simp only [List.length_map] at hfi
  rcases noRec_or (L := L) at_ with hn | ⟨j, r, hj, hpl⟩
  · have HG := Lib.hid (hget_none h m p F x P L [] at_ W1 (k.grew hg1) hx hb hn)
    rw [fnR_none hn] at hfi
    have HF := Lib.hid hfi
    clear hn hfi k hx hX hb hb1
    cases bi
    all_goals
      go_enter Tryz.func17, Tryz.ntmps17
      go_wp2_with fail
      refine HG.out.mono ?_
      rintro e w2 ⟨rfl, hk2, hc2⟩
      have hb2 := H.out.2.2.2.1.chg hc2 hgF
      obtain ⟨c2, f2, s2⟩ := hb2.facts
      have H2 := Lib.hid (And.intro hk2 (Grew.then hg1 hc2))
      have HF2 := Lib.hid (HF.out w2 A (H.out.2.2.1.far hc2).sl)
      clear hk2 hb2 hc2 c1 f1 s1
      go_wp2_with fail
      refine HF2.out.mono ?_
      rintro e w3 ⟨rfl, rfl⟩
      go_wp2_with fail
      go_ret2
      exact ⟨rfl, H2.out.1, H2.out.2⟩
  · subst hpl
    have hgt := hget_any h m p F x P L [] r W1 (k.grew hg1) hx (List.mem_of_getElem? hj)
    rw [fnR_some hx.nd hj] at hfi
    have HF := Lib.hid hfi
    have HG := Lib.hid hgt
    have HJ := Lib.hid (And.intro hj (hx.at_ r (List.mem_of_getElem? hj)).2.base)
    have hjl := (List.getElem?_eq_some_iff.1 hj).1
    clear hfi hgt k hx hX hb hb1 hj
    obtain rfl : bi = true := by rw [← hbi]; exact decide_eq_true (by omega)
    go_enter Tryz.func17, Tryz.ntmps17
    go_wp2_with fail
    refine HG.out.mono ?_
    rintro e w2 ⟨A2, c5, rfl, hs2, -, -, hk2, hc2⟩
    have hb2 := H.out.2.2.2.1.chg hc2 hgF
    obtain ⟨c2, f2, s2⟩ := hb2.facts
    have hX2 := H.out.2.2.1.far hc2
    have H2 := Lib.hid (And.intro hk2 (Grew.then hg1 hc2))
    have HF2 := Lib.hid (HF.out w2 A hX2.sl)
    have hcv := fun q => conv_sl (c := c5) (hs2.grew ((Chg.refl NoF w2).drewN q)) (by have := HJ.out.2.1; omega)
    have hsl : Sl w2 2 A (L.map HR.rw).length ((L.map HR.rw).flatMap Hrw.vals) := by rw [List.length_map]; exact hX2.sl
    obtain ⟨gx, ox, rfl, hgx, d0, d1⟩ := hsl.atHrw (x := r.rw) (by rw [List.getElem?_map, HJ.out.1]; rfl)
    have d1' : w2.cell? ⟨gx, ox + j * 2 + 1, none⟩ = some (.string (strOfNums r.text)) := d1
    clear hk2 hb2 hc2 c1 f1 s1 hs2 hX2 hsl d0 d1
    go_wp2_with fail
    refine HF2.out.mono ?_
    rintro e w3 ⟨rfl, rfl⟩
    go_wp2_with fail
    go_quiet (fail)
    go_wp2_with fail
    go_ret2
    exact ⟨rfl, H2.out.1.grew ((Chg.refl _ _).drewN _), H2.out.2.grew ((Chg.refl _ _).drewN _)⟩
end Go.Proofs.YtjkkoogfaibhiaaGreatDoor

/- The heap's laws: step, Del of a place. -/
namespace Go.Proofs.YtjkkoogfaibhiaaGreatDoor
open Go.RowKit Go.Maps

/-- There is room for a call. -/
structure XR (x : Rp) : Prop where
  was : x.was ≠ none
  slack : 0 ≤ x.slack
  no : ∀ k, k ≤ 5 → ¬ Tight x k
theorem XR.full {x : Rp} (h : XR x) {w w' : World} {p m k : Nat} {F : Nat → Prop} (hf : HFull w w' p m F x k) (hk : k ≤ 5) : False := by
  obtain ⟨y, F', -, -, -, -, ht⟩ := hf
  exact h.no k hk ht
section
variable {w W1 w1 w2 w' : World} {h m p c : Nat} {F F1 : Nat → Prop} {x y : Rp} {P P1 : Nat → Bool} {L : List HR} {A : Option Addr}
theorem StepOut.same (hk : HH w' h m p F x P) (hx : HeapIn x P L []) (hX : XS w A L F m) (hs : Small L) (hc : Chg F w w') : StepOut w w' h m p F x L (.returned (.tuple #[.slice A L.length c, .bool true])) :=
  ⟨A, c, L, x, F, P, rfl, hk, hx, Rp.like.refl x, hX.far hc, hs, by omega, hc.mono fun _ _ e => .inl e, fun _ e => .inl e⟩
/-- The heap has turned, then a row is made. -/
theorem StepOut.made {L' : List HR} {A' : Option Addr} {c' : Nat} (hg : Grew w W1) (hc : Chg (fun j => F j ∨ j = m) W1 w1) (hn : ∀ j, F1 j → F j ∨ W1.heap.size ≤ j) (hk : HH w1 h m p F1 y P1) (hx : HeapIn y P1 L' []) (hlk : x.like y) (hs : Small L') (hl : L'.length ≤ L.length + 1)
    (hg2 : Grew w1 w2) {b : Nat} (hb : w1.heap.size ≤ b) (ho : w2.ownsRow b 53 2 (.slice A' L'.length c') L'.length ((L'.map HR.rw).flatMap Hrw.vals)) : StepOut w w2 h m p F x L (.returned (.tuple #[.slice A' L'.length c', .bool true])) :=
  ⟨A', c', L', y, F1, P1, rfl, hk.grew hg2, hx, hlk, XS.new (fun j e => Nat.lt_of_lt_of_le (hk.gp.lt j e) hb) (Nat.lt_of_lt_of_le hk.lt hb) ho, hs, hl, (Grew.then hg hc).grew hg2, fun j e => (hn j e).elim .inl fun e => .inr (by have := hg.size; omega)⟩
end
set_option maxRecDepth 100000 in
set_option maxHeartbeats 3200000 in
theorem hstep_delp (h m p c : Nat) (F : Nat → Prop) (x : Rp) (P : Nat → Bool) (L : List HR) (A : Option Addr) (at_ : Int) (D : Value) (w : World) (k : HH w h m p F x P) (hx : HeapIn x P L []) (hX : XS w A L F m) (hsm : Small L) (hr : XR x) (hl : L.length ≤ 1000000) (hb : -9223372036854775808 ≤ at_ ∧ at_ ≤ 9223372036854775807) :
    Calls Tryz.prog 17 #[.pointer (some ⟨h, 0, none⟩), .slice A L.length c, .agg #[.int .i64 5, .int .i64 at_, D]] w fun e w' => StepOut w w' h m p F x L e := by
  obtain ⟨W1, hW1⟩ : ∃ W, w.alloc (.cells #[.int .i64 5, .int .i64 at_, D] 45) = W := ⟨_, rfl⟩
  have hg1 : Grew w W1 := hW1 ▸ (Chg.refl _ _).alloc _
  have hb1 : Blk W1 w.heap.size 45 #[.int .i64 5, .int .i64 at_, D] := hW1 ▸ Blk.new _ _ _
  obtain ⟨c1, f1, s1⟩ := hb1.facts
  have H := Lib.hid (And.intro (k.grew hg1) (And.intro hx (And.intro (hX.grew hg1) (And.intro hX (And.intro hsm (And.intro hr hg1))))))
  obtain ⟨bi, hbi⟩ : ∃ b, decide ((0 : Int) ≤ at_) = b := ⟨_, rfl⟩
  obtain ⟨bj, hbj⟩ : ∃ b, decide (at_ < (L.length : Int)) = b := ⟨_, rfl⟩
  have hfi := xhfind_any at_ (L.map HR.rw) A c W1 (by rw [List.length_map]; exact H.out.2.2.1.sl) (by rw [List.length_map]; exact hl)
  simp only [List.length_map] at hfi
  rcases noRec_or (L := L) at_ with hn | ⟨j, r, hj, hpl⟩
  · have HG := Lib.hid (hdel_none h m p F x P L [] at_ W1 (k.grew hg1) hx hb hn)
    rw [fnR_none hn] at hfi
    have HF := Lib.hid hfi
    clear hn hfi k hx hX hb hb1 hsm hr
    cases bi
    all_goals
      go_enter Tryz.func17, Tryz.ntmps17
      go_wp2_with fail
      refine HF.out.mono ?_
      rintro e w3 ⟨rfl, rfl⟩
      go_wp2_with fail
      refine HG.out.mono ?_
      rintro e w2 ⟨rfl, hk2, hc2⟩
      have H2 := Lib.hid (StepOut.same (c := c) hk2 H.out.2.1 H.out.2.2.2.1 H.out.2.2.2.2.1 (Grew.then H.out.2.2.2.2.2.2 hc2))
      clear hk2 hc2 c1 f1 s1
      go_wp2_with fail
      go_ret2
      exact H2.out
  · subst hpl
    have HG := Lib.hid (hdel_any h m p j F x P L r W1 (k.grew hg1) hx hr.was hj hr.slack)
    rw [fnR_some hx.nd hj] at hfi
    have HF := Lib.hid hfi
    have hjl := (List.getElem?_eq_some_iff.1 hj).1
    clear hfi k hx hX hb hb1 hj hsm hr
    obtain rfl : bi = true := by rw [← hbi]; exact decide_eq_true (by omega)
    go_enter Tryz.func17, Tryz.ntmps17
    go_wp2_with fail
    refine HF.out.mono ?_
    rintro e w3 ⟨rfl, rfl⟩
    go_wp2_with fail
    refine HG.out.mono ?_
    rintro e w2 (⟨y, F1, P1, rfl, hk1, hin1, hlk1, hu1, hc1, hn1⟩ | ⟨-, hf⟩)
    rotate_left
    · exact (H.out.2.2.2.2.2.1.full hf (by omega)).elim
    have hwi := xhwithout_any j (L.map HR.rw) A c w2 (by rw [List.length_map]; exact (H.out.2.2.1.to hc1 hn1).sl) (by rw [List.length_map]; exact hl) (by rw [List.length_map]; exact hjl)
    rw [← rw_erase] at hwi
    simp only [List.length_map] at hwi
    have HW := Lib.hid hwi
    have H2 := Lib.hid (fun (A' : Option Addr) (c' : Nat) w' => StepOut.made (L := L) (A' := A') (c' := c') (w2 := w') H.out.2.2.2.2.2.2 hc1 hn1 hk1 hin1 hlk1 (H.out.2.2.2.2.1.erase j) (by have := List.length_eraseIdx_le L j; omega))
    clear hwi hk1 hin1 hlk1 hu1 hc1 hn1 c1 f1 s1
    go_wp2_with fail
    refine HW.out.mono ?_
    rintro e w3 ⟨A3, c3, rfl, ho3, hg3⟩
    have H3 := Lib.hid (H2.out A3 c3 w3 hg3 (Nat.le_refl _) ho3)
    clear ho3 hg3
    go_wp2_with fail
    go_ret2
    exact H3.out
end Go.Proofs.YtjkkoogfaibhiaaGreatDoor

/- The heap's laws: step, Del of a record. -/
namespace Go.Proofs.YtjkkoogfaibhiaaGreatDoor
open Go.RowKit Go.Maps

/-- Where a record's place lies in the document's list. -/
theorem XS.at_ {w : World} {A : Option Addr} {L : List HR} {F : Nat → Prop} {m j : Nat} {r : HR} (hX : XS w A L F m) (hj : L[j]? = some r) :
    ∃ gx ox, A = some ⟨gx, ox, none⟩ ∧ w.cell? ⟨gx, ox + j * 2, none⟩ = some (.int .i64 r.place) ∧ w.cell? ⟨gx, ox + j * 2 + 1, none⟩ = some (.string (strOfNums r.text)) := by
  have hsl : Sl w 2 A (L.map HR.rw).length ((L.map HR.rw).flatMap Hrw.vals) := by rw [List.length_map]; exact hX.sl
  obtain ⟨gx, ox, rfl, hgx, d0, d1⟩ := hsl.atHrw (x := r.rw) (by rw [List.getElem?_map, hj]; rfl)
  exact ⟨gx, ox, rfl, d0, d1⟩
theorem xhwithout_rw (j : Nat) (L : List HR) (A : Option Addr) (c : Nat) (w : World) (hs : Sl w 2 A L.length ((L.map HR.rw).flatMap Hrw.vals)) (hl : L.length ≤ 1000000) (hj : j < L.length) :
    Calls Tryz.prog 22 #[.slice A L.length c, .int .i64 j] w fun e w' => OwnOut w w' 53 2 (L.eraseIdx j).length (((L.eraseIdx j).map HR.rw).flatMap Hrw.vals) (fun A c => .slice A (L.eraseIdx j).length c) e := by
  have hwi := xhwithout_any j (L.map HR.rw) A c w (by rw [List.length_map]; exact hs) (by rw [List.length_map]; exact hl) (by rw [List.length_map]; exact hj)
  rw [← rw_erase] at hwi
  simp only [List.length_map] at hwi
  exact hwi
set_option maxRecDepth 100000 in
set_option maxHeartbeats 3200000 in
theorem hstep_delr (h m p c j : Nat) (F : Nat → Prop) (x : Rp) (P : Nat → Bool) (L : List HR) (r : HR) (A : Option Addr) (D : Value) (w : World) (k : HH w h m p F x P) (hx : HeapIn x P L []) (hX : XS w A L F m) (hsm : Small L) (hr : XR x) (hl : L.length ≤ 1000000) (hj : L[j]? = some r) :
    Calls Tryz.prog 17 #[.pointer (some ⟨h, 0, none⟩), .slice A L.length c, .agg #[.int .i64 3, .int .i64 j, D]] w fun e w' => StepOut w w' h m p F x L e := by
  obtain ⟨W1, hW1⟩ : ∃ W, w.alloc (.cells #[.int .i64 3, .int .i64 j, D] 45) = W := ⟨_, rfl⟩
  have hg1 : Grew w W1 := hW1 ▸ (Chg.refl _ _).alloc _
  have hb1 : Blk W1 w.heap.size 45 #[.int .i64 3, .int .i64 j, D] := hW1 ▸ Blk.new _ _ _
  have hgF : ¬ F w.heap.size := fun e => by have := k.gp.lt _ e; omega
  have hgm : w.heap.size ≠ m := fun e => by have := k.lt; omega
  obtain ⟨c1, f1, s1⟩ := hb1.facts
  have hX1 := hX.grew hg1
  have hjl := (List.getElem?_eq_some_iff.1 hj).1
  obtain ⟨gx, ox, rfl, d0, -⟩ := hX1.at_ hj
  have hd1 : W1.cell? ⟨w.heap.size, 1, none⟩ = some (.int .i64 j) ∧ W1.cell? ⟨gx, ox + j * 2, none⟩ = some (.int .i64 r.place) := ⟨hb1.cell 1, d0⟩
  have t1 : decide ((0 : Int) ≤ (j : Int)) = true := decide_eq_true (by omega)
  have t2 : decide ((j : Int) < (L.length : Int)) = true := decide_eq_true (by omega)
  have H := Lib.hid (And.intro (k.grew hg1) (And.intro hx (And.intro hX1 (And.intro hsm (And.intro hr (And.intro hj (And.intro hg1 hb1)))))))
  clear k hx hX hX1 hb1 hj hsm hr d0
  go_enter Tryz.func17, Tryz.ntmps17
  go_wp2_with fail
  refine wp_region_held_drew (S := fun w' => w'.cell? ⟨w.heap.size, 1, none⟩ = some (.int .i64 j) ∧ w'.cell? ⟨gx, ox + j * 2, none⟩ = some (.int .i64 r.place)) (by kernel_rfl) hd1 (fun hHeld => ?_)
  refine wpAnyH_take (i := 0) (v := ?_) rfl (by kernel_rfl) (by kernel_rfl) (by kernel_rfl) (fun _ _ _ h => h) (Or.inl ⟨by rfl, ?_⟩) hHeld ?_
  rotate_left
  · (intro w hSw; (try dsimp only at hSw); go_simp) <;> with_reducible rfl
  (try simp only [Act.put, List.setIfInBounds_toArray, List.set_cons_zero, List.set_cons_succ, List.getElem_toArray, List.getElem_cons_zero, List.getElem_cons_succ])
  refine wpAnyH_take (i := 1) (v := ?_) rfl (by kernel_rfl) (by kernel_rfl) (by kernel_rfl) (fun _ _ _ h => h) (Or.inl ⟨by rfl, ?_⟩) hHeld ?_
  rotate_left
  · (intro w hSw; (try dsimp only at hSw); go_simp) <;> with_reducible rfl
  (try simp only [Act.put, List.setIfInBounds_toArray, List.set_cons_zero, List.set_cons_succ, List.getElem_toArray, List.getElem_cons_zero, List.getElem_cons_succ])
  refine wpAnyH_take (i := 2) (v := ?_) rfl (by kernel_rfl) (by kernel_rfl) (by kernel_rfl) (fun _ _ _ h => h) (Or.inl ⟨by rfl, ?_⟩) hHeld ?_
  rotate_left
  · (intro w hSw; (try dsimp only at hSw); go_simp) <;> with_reducible rfl
  (try simp only [Act.put, List.setIfInBounds_toArray, List.set_cons_zero, List.set_cons_succ, List.getElem_toArray, List.getElem_cons_zero, List.getElem_cons_succ])
  refine wpAnyH_take (i := 4) (v := ?_) rfl (by kernel_rfl) (by kernel_rfl) (by kernel_rfl) (fun _ _ _ h => h) (Or.inl ⟨by rfl, ?_⟩) hHeld ?_
  rotate_left
  · (intro w hSw; (try dsimp only at hSw); go_simp) <;> with_reducible rfl
  (try simp only [Act.put, List.setIfInBounds_toArray, List.set_cons_zero, List.set_cons_succ, List.getElem_toArray, List.getElem_cons_zero, List.getElem_cons_succ])
  refine wpAnyH_take (i := 5) (v := ?_) rfl (by kernel_rfl) (by kernel_rfl) (by kernel_rfl) (fun _ _ _ h => h) (Or.inl ⟨by rfl, ?_⟩) hHeld ?_
  rotate_left
  · (intro w hSw; (try dsimp only at hSw); go_simp) <;> with_reducible rfl
  (try simp only [Act.put, List.setIfInBounds_toArray, List.set_cons_zero, List.set_cons_succ, List.getElem_toArray, List.getElem_cons_zero, List.getElem_cons_succ])
  refine wpAnyH_take (i := 6) (v := ?_) rfl (by kernel_rfl) (by kernel_rfl) (by kernel_rfl) (fun _ _ _ h => h) (Or.inl ⟨by rfl, ?_⟩) hHeld ?_
  rotate_left
  · (intro w hSw; (try dsimp only at hSw); go_simp) <;> with_reducible rfl
  (try simp only [Act.put, List.setIfInBounds_toArray, List.set_cons_zero, List.set_cons_succ, List.getElem_toArray, List.getElem_cons_zero, List.getElem_cons_succ])
  refine wpAnyH_take (i := 7) (v := ?_) rfl (by kernel_rfl) (by kernel_rfl) (by kernel_rfl) (fun _ _ _ h => h) (Or.inl ⟨by rfl, ?_⟩) hHeld ?_
  rotate_left
  · (intro w hSw; (try dsimp only at hSw); go_simp) <;> with_reducible rfl
  (try simp only [Act.put, List.setIfInBounds_toArray, List.set_cons_zero, List.set_cons_succ, List.getElem_toArray, List.getElem_cons_zero, List.getElem_cons_succ])
  refine wpAnyH_take (i := 8) (v := ?_) rfl (by kernel_rfl) (by kernel_rfl) (by kernel_rfl) (fun _ _ _ h => h) (Or.inl ⟨by rfl, ?_⟩) hHeld ?_
  rotate_left
  · (intro w hSw; (try dsimp only at hSw); go_simp) <;> with_reducible rfl
  (try simp only [Act.put, List.setIfInBounds_toArray, List.set_cons_zero, List.set_cons_succ, List.getElem_toArray, List.getElem_cons_zero, List.getElem_cons_succ])
  refine wpAnyH_take (i := 9) (v := ?_) rfl (by kernel_rfl) (by kernel_rfl) (by kernel_rfl) (fun _ _ _ h => h) (Or.inl ⟨by rfl, ?_⟩) hHeld ?_
  rotate_left
  · (intro w hSw; (try dsimp only at hSw); go_simp) <;> with_reducible rfl
  (try simp only [Act.put, List.setIfInBounds_toArray, List.set_cons_zero, List.set_cons_succ, List.getElem_toArray, List.getElem_cons_zero, List.getElem_cons_succ])
  refine wpAnyH_take (i := 10) (v := ?_) rfl (by kernel_rfl) (by kernel_rfl) (by kernel_rfl) (fun _ _ _ h => h) (Or.inl ⟨by rfl, ?_⟩) hHeld ?_
  rotate_left
  · (intro w hSw; (try dsimp only at hSw); go_simp) <;> with_reducible rfl
  (try simp only [Act.put, List.setIfInBounds_toArray, List.set_cons_zero, List.set_cons_succ, List.getElem_toArray, List.getElem_cons_zero, List.getElem_cons_succ])
  refine wpAnyH_ready (rs := [3]) (by kernel_rfl) (by simp) ?_
  refine AllReadyH.cons rfl (fun K hK => ?_) AllReadyH.nil
  go_simp
  refine (xhwithout_rw j L _ c W1.drew ((H.out.2.2.1.grew ((Chg.refl _ _).drew)).sl) hl hjl).mono ?_
  rintro e w2 ⟨A2, c2, rfl, ho2, hg2⟩
  have hg12 : Grew W1 w2 := Grew.trans ((Chg.refl NoF W1).drew) hg2
  have hX2 := H.out.2.2.1.grew hg12
  have hd2 : w2.cell? ⟨w.heap.size, 1, none⟩ = some (.int .i64 j) ∧ w2.cell? ⟨gx, ox + j * 2, none⟩ = some (.int .i64 r.place) := by
    refine ⟨?_, ?_⟩
    · exact (H.out.2.2.2.2.2.2.2.grew hg12).cell 1
    · obtain ⟨_, _, e1, e2, -⟩ := hX2.at_ H.out.2.2.2.2.2.1
      cases e1
      exact e2
  have H2 := Lib.hid (And.intro (H.out.1.grew hg12) (And.intro ho2 hg12))
  clear ho2 hg2 hg12 hX2
  refine hK.out _ _ hd2 (fun _ => ?_)
  clear hK K
  (try simp only [Act.put, List.setIfInBounds_toArray, List.set_cons_zero, List.set_cons_succ, List.getElem_toArray, List.getElem_cons_zero, List.getElem_cons_succ])
  refine wpAnyH_ready (rs := [11]) (by kernel_rfl) (by simp) ?_
  refine AllReadyH.cons rfl (fun K hK => ?_) AllReadyH.nil
  go_simp
  refine (hdel_any h m p j F x P L r w2 H2.out.1 H.out.2.1 H.out.2.2.2.2.1.was H.out.2.2.2.2.2.1 H.out.2.2.2.2.1.slack).mono ?_
  rintro e w3 (⟨y, F1, P1, rfl, hk3, hin3, hlk3, hu3, hc3, hn3⟩ | ⟨-, hf⟩)
  rotate_left
  · exact (H.out.2.2.2.2.1.full hf (by omega)).elim
  have hX2 : XS w2 A2 (L.eraseIdx j) F m := XS.new (fun j e => H.out.1.gp.lt j e) H.out.1.lt H2.out.2.1
  have hX3 := hX2.to hc3 hn3
  have hd3 : w3.cell? ⟨w.heap.size, 1, none⟩ = some (.int .i64 j) ∧ w3.cell? ⟨gx, ox + j * 2, none⟩ = some (.int .i64 r.place) := by
    refine ⟨?_, ?_⟩
    · exact ((H.out.2.2.2.2.2.2.2.grew H2.out.2.2).chg hc3 fun e => e.elim hgF hgm).cell 1
    · obtain ⟨_, _, e1, e2, -⟩ := ((H.out.2.2.1.grew H2.out.2.2).to hc3 hn3).at_ H.out.2.2.2.2.2.1
      cases e1
      exact e2
  have H3 := Lib.hid (show StepOut w w3 h m p F x L (.returned (.tuple #[.slice A2 (L.eraseIdx j).length c2, .bool true])) from
    ⟨A2, c2, L.eraseIdx j, y, F1, P1, rfl, hk3, hin3, hlk3, hX3, H.out.2.2.2.1.erase j, by have := List.length_eraseIdx_le L j; omega, Chg.trans (Grew.trans H.out.2.2.2.2.2.2.1 H2.out.2.2).chg hc3 fun _ _ e => e, fun i e => (hn3 i e).imp id fun e => by have h1 := H.out.2.2.2.2.2.2.1.size; have h2 := H2.out.2.2.size; omega⟩)
  clear hk3 hin3 hlk3 hX3 hX2 hu3 hc3 hn3
  refine hK.out _ _ hd3 (fun _ => ?_)
  clear hK K
  (try simp only [Act.put, List.setIfInBounds_toArray, List.set_cons_zero, List.set_cons_succ, List.getElem_toArray, List.getElem_cons_zero, List.getElem_cons_succ])
  refine wpAnyH_take (i := 12) (v := ?_) rfl (by kernel_rfl) (by kernel_rfl) (by kernel_rfl) (fun _ _ _ h => h) (Or.inl ⟨by rfl, ?_⟩) hd3 ?_
  rotate_left
  · (intro w hSw; (try dsimp only at hSw); go_simp) <;> with_reducible rfl
  (try simp only [Act.put, List.setIfInBounds_toArray, List.set_cons_zero, List.set_cons_succ, List.getElem_toArray, List.getElem_cons_zero, List.getElem_cons_succ])
  refine wpAnyH_take (i := 13) (v := ?_) rfl (by kernel_rfl) (by kernel_rfl) (by kernel_rfl) (fun _ _ _ h => h) (Or.inl ⟨by rfl, ?_⟩) hd3 ?_
  rotate_left
  · (intro w hSw; (try dsimp only at hSw); go_simp) <;> with_reducible rfl
  (try simp only [Act.put, List.setIfInBounds_toArray, List.set_cons_zero, List.set_cons_succ, List.getElem_toArray, List.getElem_cons_zero, List.getElem_cons_succ])
  refine wpAnyH_take (i := 14) (v := ?_) rfl (by kernel_rfl) (by kernel_rfl) (by kernel_rfl) (fun _ _ _ h => h) (Or.inl ⟨by rfl, ?_⟩) hd3 ?_
  rotate_left
  · (intro w hSw; (try dsimp only at hSw); go_simp) <;> with_reducible rfl
  (try simp only [Act.put, List.setIfInBounds_toArray, List.set_cons_zero, List.set_cons_succ, List.getElem_toArray, List.getElem_cons_zero, List.getElem_cons_succ])
  refine wpAnyH_done (by kernel_rfl) ?_ _
  clear hHeld hd1 hd2 hd3
  go_wp2_with fail
  go_ret2
  exact H3.out
end Go.Proofs.YtjkkoogfaibhiaaGreatDoor

/- The heap's laws: step, Put. -/
namespace Go.Proofs.YtjkkoogfaibhiaaGreatDoor
open Go.RowKit Go.Maps

theorem xrec_copy {W : World} {base n c : Nat} {v0 : Value} {A : Option Addr} {xs : List Value} (h0 : W.ownsRow base 53 2 v0 0 []) (hb : base ≤ W.heap.size) (hs : Sl W 2 A n xs) (h1 : ∀ u ∈ xs, u.oneCell' = true) (hn : n ≤ 1000000) (ty : TypeId) :
    ∃ v' W', (Builtin.append_ #[43, 43] ty #[v0, .slice A n c]).run Tryz.prog W = .ok v' W' ∧ W'.ownsRow base 53 2 v' n xs ∧ Ap W W' v0 v' := by
  obtain ⟨i0, hi0, hz0, hz1, hz2⟩ := info_parts xhrInfo
  by_cases h : n = 0
  · subst h
    obtain ⟨A0, c0, rfl, -⟩ := own_shape h0
    obtain rfl : xs = [] := List.eq_nil_of_length_eq_zero (by have := hs.1; omega)
    exact ⟨_, _, run_append_nought8 Tryz.underlying43 hi0 ty A0 A 0 c0 c (Nat.zero_le _), h0, Ap.refl _ _⟩
  · obtain ⟨b, off, rfl, -, hc⟩ := hs.2 (by omega)
    obtain ⟨v1, w1, hr, h2, h3, -, h4⟩ := run_append_own_at (P := Tryz.prog) W base 43 ty 53 i0 _ 2 24 Tryz.underlying43 hi0 hz0 hz1 hz2 rfl (by omega) v0 0 [] h0 ⟨b, off, none⟩ n c xs hs.1 (fun j u hu => by rw [Addr.add_lit]; exact hc j u hu) h1 (by simp only [maxLen]; omega) (by omega) hb
    rw [Nat.zero_add, List.nil_append] at h2
    exact ⟨v1, w1, hr, h2, (Ap.refl _ _).push (Chg.refl _ _) h3 h4⟩
theorem xrec_snoc {W : World} {base n q : Nat} {v : Value} {xs : List Value} {x : Hrw} (h0 : W.ownsRow base 53 2 v n xs) (hb : base ≤ W.heap.size) (hq : Blk W q 53 #[.int .i64 x.place, .string x.text]) (hn : n ≤ 1000000) (ty : TypeId) :
    ∃ v' W', (Builtin.append_ #[43, 43] ty #[v, .slice (some ⟨q, 0, none⟩) 1 1]).run Tryz.prog W = .ok v' W' ∧ W'.ownsRow base 53 2 v' (n + 1) (xs ++ x.vals) ∧ Ap W W' v v' := by
  obtain ⟨i0, hi0, hz0, hz1, hz2⟩ := info_parts xhrInfo
  obtain ⟨v1, w1, hr, h2, h3, -, h4⟩ := run_append_own_at (P := Tryz.prog) W base 43 ty 53 i0 _ 2 24 Tryz.underlying43 hi0 hz0 hz1 hz2 rfl (by omega) v n xs h0 ⟨q, 0, none⟩ 1 1 x.vals (by simp [Hrw.vals])
    (fun j u hu => by rw [Addr.add_lit, Nat.zero_add, hq.cell j]; simpa [Hrw.vals] using hu) (by simp [Hrw.vals, Value.oneCell']) (by simp only [maxLen]; omega) (by omega) hb
  exact ⟨v1, w1, hr, h2, (Ap.refl _ _).push (Chg.refl _ _) h3 h4⟩
theorem Hrw.one {l : List Hrw} : ∀ u ∈ l.flatMap Hrw.vals, u.oneCell' = true := by
  intro u hu
  obtain ⟨x, -, hx⟩ := List.mem_flatMap.1 hu
  simp only [Hrw.vals, List.mem_cons, List.not_mem_nil, or_false] at hx
  rcases hx with rfl | rfl <;> rfl
theorem noRec_new {L : List HR} {r : HR} (h : ((L ++ [r]).map HR.place).Nodup) : NoRec L (r.place : Int) := .inr fun q hq e => by
  rw [List.map_append, List.nodup_append] at h
  exact h.2.2 _ (List.mem_map_of_mem hq) r.place (by simp) (by omega)
set_option maxRecDepth 100000 in
set_option maxHeartbeats 3200000 in
theorem hstep_put (h m p c g off d : Nat) (F : Nat → Prop) (x : Rp) (P : Nat → Bool) (L : List HR) (bs : List Int) (A : Option Addr) (at_ : Int) (w : World) (k : HH w h m p F x P) (hx : HeapIn x P L []) (hX : XS w A L F m) (hsm : Small L) (hr : XR x) (hl : L.length ≤ 1000)
    (h1 : 1 ≤ bs.length) (h2 : bs.length ≤ 200) (hby : ∀ q ∈ bs, 0 ≤ q ∧ q ≤ 255) (hd : bs.length ≤ d) (hs : Sl w 1 (some ⟨g, off, none⟩) bs.length (bv bs)) (hgF : ¬ F g) (hgm : g ≠ m) (hgl : g < w.heap.size) (hsz : 64 ≤ x.sz) :
    Calls Tryz.prog 17 #[.pointer (some ⟨h, 0, none⟩), .slice A L.length c, .agg #[.int .i64 1, .int .i64 at_, .slice (some ⟨g, off, none⟩) bs.length d]] w fun e w' => StepOut w w' h m p F x L e := by
  obtain ⟨W1, hW1⟩ : ∃ W, w.alloc (.cells #[.int .i64 1, .int .i64 at_, .slice (some ⟨g, off, none⟩) bs.length d] 45) = W := ⟨_, rfl⟩
  have hg1 : Grew w W1 := hW1 ▸ (Chg.refl _ _).alloc _
  have hb1 : Blk W1 w.heap.size 45 #[.int .i64 1, .int .i64 at_, .slice (some ⟨g, off, none⟩) bs.length d] := hW1 ▸ Blk.new _ _ _
  have hwF : ¬ F w.heap.size := fun e => by have := k.gp.lt _ e; omega
  have hwm : w.heap.size ≠ m := fun e => by have := k.lt; omega
  obtain ⟨c1, f1, s1⟩ := hb1.facts
  have HP := Lib.hid (hput_any h m p g off d F x P L bs W1 (k.grew hg1) hx hr.was h1 (by omega) hby hd (hs.grew hg1) hgF (Nat.lt_of_lt_of_le hgl hg1.size))
  have H := Lib.hid (And.intro (k.grew hg1) (And.intro hx (And.intro (hX.grew hg1) (And.intro hsm (And.intro hr (And.intro hb1 (And.intro (hs.grew hg1) (And.intro hg1 (ownN_200 hsz h2)))))))))
  obtain ⟨n, hn⟩ : ∃ n, bs.length = n := ⟨_, rfl⟩
  have t1 : ((n : Int) == 0) = false := beq_eq_false_iff_ne.2 (by omega)
  have Hn := Lib.hid hn
  rw [hn] at HP c1 hW1 h1 h2 hd ⊢
  clear k hx hX hb1 hsm hr hs hn
  obtain ⟨bi, hbi⟩ : ∃ b, decide ((0 : Int) ≤ at_) = b := ⟨_, rfl⟩
  obtain ⟨bj, hbj⟩ : ∃ b, decide (at_ < (L.length : Int)) = b := ⟨_, rfl⟩
  cases bi
  all_goals
    go_enter Tryz.func17, Tryz.ntmps17
    go_wp2_with fail
    refine HP.out.mono ?_
    rintro e w2 (⟨pl, y, F1, P1, pg, rfl, hk2, hin2, hlk2, hpg2, hu2, hc2, hn2⟩ | ⟨-, hf⟩)
    rotate_left
    · exact (H.out.2.2.2.2.1.full hf (by have := H.out.2.2.2.2.2.2.2.2; omega)).elim
    have hb2 := H.out.2.2.2.2.2.1.chg hc2 fun e => e.elim hwF hwm
    rw [Hn.out] at hb2
    obtain ⟨c2, f2, s2⟩ := hb2.facts
    have hsl2 : Sl w2 1 (some ⟨g, off, none⟩) bs.length (bv bs) := H.out.2.2.2.2.2.2.1.chg hc2 fun a ha e => by cases ha; exact e.elim hgF hgm
    have hX2 := H.out.2.2.1.to hc2 hn2
    have H2 := Lib.hid (And.intro hk2 (And.intro hin2 (And.intro hlk2 (And.intro hpg2 (And.intro hc2 (And.intro hn2 (And.intro hb2 (And.intro hsl2 hX2))))))))
    clear hk2 hin2 hlk2 hpg2 hu2 hc2 hn2 hb2 hsl2 hX2 c1 f1 s1
    go_wp2_with fail
    have hS : ∀ u, Grew w2 u → u.cell? ⟨w.heap.size, 2, none⟩ = some (.slice (some ⟨g, off, none⟩) n d) ∧ (convert 34 9 (.slice (some ⟨g, off, none⟩) n d)).run Tryz.prog u = .ok (.string (strOfNums bs)) u := fun u hu => by
      refine ⟨(H2.out.2.2.2.2.2.2.1.grew hu).cell 2, ?_⟩
      have := conv_sl (c := d) (H2.out.2.2.2.2.2.2.2.1.grew hu) (by rw [Hn.out]; omega)
      rw [Hn.out] at this
      exact this
    have HS := Lib.hid hS
    clear hS
    refine wp_region_held_drew (S := fun u => u.cell? ⟨w.heap.size, 2, none⟩ = some (.slice (some ⟨g, off, none⟩) n d) ∧ (convert 34 9 (.slice (some ⟨g, off, none⟩) n d)).run Tryz.prog u = .ok (.string (strOfNums bs)) u) (by kernel_rfl) (HS.out _ ((Chg.refl NoF w2).drew)) (fun hHeld => ?_)
    refine wpAnyH_take (i := 1) (v := ?_) rfl (by kernel_rfl) (by kernel_rfl) (by kernel_rfl) (fun _ _ _ h => h) (Or.inl ⟨by rfl, ?_⟩) hHeld ?_
    rotate_left
    · (intro w hSw; (try dsimp only at hSw); go_simp) <;> with_reducible rfl
    (try simp only [Act.put, List.setIfInBounds_toArray, List.set_cons_zero, List.set_cons_succ, List.getElem_toArray, List.getElem_cons_zero, List.getElem_cons_succ])
    refine wpAnyH_take (i := 3) (v := ?_) rfl (by kernel_rfl) (by kernel_rfl) (by kernel_rfl) (fun _ _ _ h => h) (Or.inl ⟨by rfl, ?_⟩) hHeld ?_
    rotate_left
    · (intro w hSw; (try dsimp only at hSw); go_simp) <;> with_reducible rfl
    (try simp only [Act.put, List.setIfInBounds_toArray, List.set_cons_zero, List.set_cons_succ, List.getElem_toArray, List.getElem_cons_zero, List.getElem_cons_succ])
    refine wpAnyH_take (i := 4) (v := ?_) rfl (by kernel_rfl) (by kernel_rfl) (by kernel_rfl) (fun _ _ _ h => h) (Or.inl ⟨by rfl, ?_⟩) hHeld ?_
    rotate_left
    · (intro w hSw; (try dsimp only at hSw); go_simp) <;> with_reducible rfl
    (try simp only [Act.put, List.setIfInBounds_toArray, List.set_cons_zero, List.set_cons_succ, List.getElem_toArray, List.getElem_cons_zero, List.getElem_cons_succ])
    refine wpAnyH_take (i := 5) (v := ?_) rfl (by kernel_rfl) (by kernel_rfl) (by kernel_rfl) (fun _ _ _ h => h) (Or.inl ⟨by rfl, ?_⟩) hHeld ?_
    rotate_left
    · (intro w hSw; (try dsimp only at hSw); go_simp) <;> with_reducible rfl
    (try simp only [Act.put, List.setIfInBounds_toArray, List.set_cons_zero, List.set_cons_succ, List.getElem_toArray, List.getElem_cons_zero, List.getElem_cons_succ])
    refine wpAnyH_take (i := 6) (v := ?_) rfl (by kernel_rfl) (by kernel_rfl) (by kernel_rfl) (fun _ _ _ h => h) (Or.inl ⟨by rfl, ?_⟩) hHeld ?_
    rotate_left
    · (intro w hSw; (try dsimp only at hSw); go_simp) <;> with_reducible rfl
    (try simp only [Act.put, List.setIfInBounds_toArray, List.set_cons_zero, List.set_cons_succ, List.getElem_toArray, List.getElem_cons_zero, List.getElem_cons_succ])
    refine wpAnyH_take (i := 7) (v := ?_) rfl (by kernel_rfl) (by kernel_rfl) (by kernel_rfl) (fun _ _ _ h => h) (Or.inl ⟨by rfl, ?_⟩) hHeld ?_
    rotate_left
    · (intro w hSw; (try dsimp only at hSw); go_simp) <;> with_reducible rfl
    (try simp only [Act.put, List.setIfInBounds_toArray, List.set_cons_zero, List.set_cons_succ, List.getElem_toArray, List.getElem_cons_zero, List.getElem_cons_succ])
    refine wpAnyH_ready (rs := [0, 8]) (by kernel_rfl) (by simp) ?_
    refine AllReadyH.cons rfl (fun K hK => ?_) (AllReadyH.cons rfl (fun K hK => ?_) AllReadyH.nil)
    focus
      go_simp
      obtain ⟨u1, hu1⟩ : ∃ u, (w2.alloc (.cells #[] 53)).drew = u := ⟨_, rfl⟩
      rw [hu1]
      have gu1 : Grew w2 u1 := by rw [← hu1]; exact ((Chg.refl NoF w2).alloc _).drew
      have Gu1 := Lib.hid gu1
      have oe : u1.ownsRow w2.heap.size 53 2 (.slice (some ⟨w2.heap.size, 0, none⟩) 0 0) 0 [] := by rw [← hu1]; exact own_grew (World.ownsRow_lit w2 #[] 0 (Nat.le_refl _) (by simp [maxLen]) (by simp)) ((Chg.refl NoF _).drew)
      have Ou1 := Lib.hid oe
      clear gu1 oe hu1
      refine hK _ _ (HS.out _ Gu1.out) (fun _ => ?_)
      clear hK K
      (try simp only [Act.put, List.setIfInBounds_toArray, List.set_cons_zero, List.set_cons_succ, List.getElem_toArray, List.getElem_cons_zero, List.getElem_cons_succ])
      refine wpAnyH_ready (rs := [2, 8]) (by kernel_rfl) (by simp) ?_
      refine AllReadyH.cons rfl (fun K hK => ?_) (AllReadyH.cons rfl (fun K hK => ?_) AllReadyH.nil)
      focus
        obtain ⟨v, u2, hr, ho, ha⟩ := xrec_copy (A := A) (n := L.length) (c := c) (xs := (L.map HR.rw).flatMap Hrw.vals) Ou1.out Gu1.out.size (H2.out.2.2.2.2.2.2.2.2.grew Gu1.out).sl Hrw.one (by omega) 43
        have HR2 := Lib.hid hr
        have Ou2 := Lib.hid ho
        have Gu2 := Lib.hid (ha.grow Gu1.out fun j hj => (Ou1.out.lt j hj).1)
        clear hr ho ha
        refine step_append_run (by rfl) (.tmp 52) (.tmp 53) 43 (by rfl) (by rfl) (by rfl) HR2.out ?_
        refine hK _ _ (HS.out _ Gu2.out) (fun _ => ?_)
        clear hK K
        (try simp only [Act.put, List.setIfInBounds_toArray, List.set_cons_zero, List.set_cons_succ, List.getElem_toArray, List.getElem_cons_zero, List.getElem_cons_succ])
        refine wpAnyH_ready (rs := [8]) (by kernel_rfl) (by simp) ?_
        refine AllReadyH.cons rfl (fun K hK => ?_) AllReadyH.nil
        go_simp
        obtain ⟨u3, hu3⟩ : ∃ u, (u2.alloc (.cells #[.int .i64 pl, .string (strOfNums bs)] 53)) = u := ⟨_, rfl⟩
        rw [hu3]
        have gu3 : Grew u2 u3 := by rw [← hu3]; exact (Chg.refl _ _).alloc _
        have be : Blk u3 u2.heap.size 53 #[.int .i64 pl, .string (strOfNums bs)] := by rw [← hu3]; exact Blk.new _ _ _
        have Bu3 := Lib.hid be
        have Gu3 := Lib.hid (Grew.trans Gu2.out gu3)
        have Ou3 := Lib.hid (own_grew Ou2.out gu3)
        clear gu3 be hu3
        refine hK _ _ (HS.out _ Gu3.out) (fun _ => ?_)
        clear hK K
        (try simp only [Act.put, List.setIfInBounds_toArray, List.set_cons_zero, List.set_cons_succ, List.getElem_toArray, List.getElem_cons_zero, List.getElem_cons_succ])
      rotate_left
      focus
        go_simp
        obtain ⟨u2, hu2⟩ : ∃ u, (u1.alloc (.cells #[.int .i64 pl, .string (strOfNums bs)] 53)) = u := ⟨_, rfl⟩
        rw [hu2]
        have gu2 : Grew u1 u2 := by rw [← hu2]; exact (Chg.refl _ _).alloc _
        have be : Blk u2 u1.heap.size 53 #[.int .i64 pl, .string (strOfNums bs)] := by rw [← hu2]; exact Blk.new _ _ _
        have Bu2 := Lib.hid be
        have Gu2 := Lib.hid (Grew.trans Gu1.out gu2)
        have Ou2 := Lib.hid (own_grew Ou1.out gu2)
        clear gu2 be hu2
        refine hK _ _ (HS.out _ Gu2.out) (fun _ => ?_)
        clear hK K
        (try simp only [Act.put, List.setIfInBounds_toArray, List.set_cons_zero, List.set_cons_succ, List.getElem_toArray, List.getElem_cons_zero, List.getElem_cons_succ])
        refine wpAnyH_ready (rs := [2]) (by kernel_rfl) (by simp) ?_
        refine AllReadyH.cons rfl (fun K hK => ?_) AllReadyH.nil
        obtain ⟨v, u3, hr, ho, ha⟩ := xrec_copy (A := A) (n := L.length) (c := c) (xs := (L.map HR.rw).flatMap Hrw.vals) Ou2.out Gu2.out.size (H2.out.2.2.2.2.2.2.2.2.grew Gu2.out).sl Hrw.one (by omega) 43
        have HR2 := Lib.hid hr
        have Ou3 := Lib.hid ho
        have Gu3 := Lib.hid (ha.grow Gu2.out fun j hj => (Ou2.out.lt j hj).1)
        have Bu3 := Lib.hid (Bu2.out.chg ha.chg fun e => by simp [Value.ownBlock] at e; have := (Ou1.out.lt w2.heap.size rfl).2; omega)
        clear hr ho ha
        refine step_append_run (by rfl) (.tmp 52) (.tmp 53) 43 (by rfl) (by rfl) (by rfl) HR2.out ?_
        refine hK _ _ (HS.out _ Gu3.out) (fun _ => ?_)
        clear hK K
        (try simp only [Act.put, List.setIfInBounds_toArray, List.set_cons_zero, List.set_cons_succ, List.getElem_toArray, List.getElem_cons_zero, List.getElem_cons_succ])
      rotate_left
    rotate_right
    focus
      go_simp
      obtain ⟨u1, hu1⟩ : ∃ u, (w2.alloc (.cells #[.int .i64 pl, .string (strOfNums bs)] 53)).drew = u := ⟨_, rfl⟩
      rw [hu1]
      have gu1 : Grew w2 u1 := by rw [← hu1]; exact ((Chg.refl NoF w2).alloc _).drew
      have be : Blk u1 w2.heap.size 53 #[.int .i64 pl, .string (strOfNums bs)] := by rw [← hu1]; exact (Blk.new _ _ _).grew ((Chg.refl NoF _).drew)
      have Bu1 := Lib.hid be
      have Gu1 := Lib.hid gu1
      clear gu1 be hu1
      refine hK _ _ (HS.out _ Gu1.out) (fun _ => ?_)
      clear hK K
      (try simp only [Act.put, List.setIfInBounds_toArray, List.set_cons_zero, List.set_cons_succ, List.getElem_toArray, List.getElem_cons_zero, List.getElem_cons_succ])
      refine wpAnyH_ready (rs := [0]) (by kernel_rfl) (by simp) ?_
      refine AllReadyH.cons rfl (fun K hK => ?_) AllReadyH.nil
      go_simp
      obtain ⟨u2, hu2⟩ : ∃ u, (u1.alloc (.cells #[] 53)) = u := ⟨_, rfl⟩
      rw [hu2]
      have gu2 : Grew u1 u2 := by rw [← hu2]; exact (Chg.refl _ _).alloc _
      have Gu2 := Lib.hid (Grew.trans Gu1.out gu2)
      have oe : u2.ownsRow w2.heap.size 53 2 (.slice (some ⟨u1.heap.size, 0, none⟩) 0 0) 0 [] := by rw [← hu2]; exact World.ownsRow_lit u1 #[] 0 Gu1.out.size (by simp [maxLen]) (by simp)
      have Ou2 := Lib.hid oe
      have Bu2 := Lib.hid (Bu1.out.grew gu2)
      clear gu2 oe hu2
      refine hK _ _ (HS.out _ Gu2.out) (fun _ => ?_)
      clear hK K
      (try simp only [Act.put, List.setIfInBounds_toArray, List.set_cons_zero, List.set_cons_succ, List.getElem_toArray, List.getElem_cons_zero, List.getElem_cons_succ])
      refine wpAnyH_ready (rs := [2]) (by kernel_rfl) (by simp) ?_
      refine AllReadyH.cons rfl (fun K hK => ?_) AllReadyH.nil
      obtain ⟨v, u3, hr, ho, ha⟩ := xrec_copy (A := A) (n := L.length) (c := c) (xs := (L.map HR.rw).flatMap Hrw.vals) Ou2.out Gu2.out.size (H2.out.2.2.2.2.2.2.2.2.grew Gu2.out).sl Hrw.one (by omega) 43
      have HR2 := Lib.hid hr
      have Ou3 := Lib.hid ho
      have Gu3 := Lib.hid (ha.grow Gu2.out fun j hj => (Ou2.out.lt j hj).1)
      have Bu3 := Lib.hid (Bu2.out.chg ha.chg fun e => by simp [Value.ownBlock] at e; have := Bu1.out.facts.2.2; omega)
      clear hr ho ha
      refine step_append_run (by rfl) (.tmp 52) (.tmp 53) 43 (by rfl) (by rfl) (by rfl) HR2.out ?_
      refine hK _ _ (HS.out _ Gu3.out) (fun _ => ?_)
      clear hK K
      (try simp only [Act.put, List.setIfInBounds_toArray, List.set_cons_zero, List.set_cons_succ, List.getElem_toArray, List.getElem_cons_zero, List.getElem_cons_succ])
    all_goals
      obtain ⟨v4, u4, hr, ho, ha⟩ := xrec_snoc (x := ⟨(pl : Int), strOfNums bs⟩) Ou3.out Gu3.out.size Bu3.out (by omega) 43
      obtain ⟨A4, c4, rfl, -⟩ := own_shape ho
      have HR4 := Lib.hid hr
      have G4 := Lib.hid (ha.grow Gu3.out fun j hj => (Ou3.out.lt j hj).1)
      have O4 := Lib.hid ho
      clear hr ho ha
      refine wpAnyH_ready (rs := [9]) (by kernel_rfl) (by simp) ?_
      refine AllReadyH.cons rfl (fun K hK => ?_) AllReadyH.nil
      refine step_append_run (by rfl) (.tmp 54) (.tmp 60) 43 (by rfl) (by rfl) (by rfl) HR4.out ?_
      refine hK _ _ (HS.out _ G4.out) (fun _ => ?_)
      clear hK K
      (try simp only [Act.put, List.setIfInBounds_toArray, List.set_cons_zero, List.set_cons_succ, List.getElem_toArray, List.getElem_cons_zero, List.getElem_cons_succ])
      refine wpAnyH_take (i := 10) (v := ?_) rfl (by kernel_rfl) (by kernel_rfl) (by kernel_rfl) (fun _ _ _ h => h) (Or.inl ⟨by rfl, ?_⟩) (HS.out _ G4.out) ?_
      rotate_left
      · (intro w hSw; (try dsimp only at hSw); go_simp) <;> with_reducible rfl
      (try simp only [Act.put, List.setIfInBounds_toArray, List.set_cons_zero, List.set_cons_succ, List.getElem_toArray, List.getElem_cons_zero, List.getElem_cons_succ])
      refine wpAnyH_done (by kernel_rfl) ?_ _
      have hfi := xhfind_any (pl : Int) (L.map HR.rw) A c u4 (by rw [List.length_map]; exact (H2.out.2.2.2.2.2.2.2.2.grew G4.out).sl) (by rw [List.length_map]; omega)
      rw [fnR_none (noRec_new H2.out.2.1.nd), List.length_map] at hfi
      have HF := Lib.hid hfi
      have hmd := StepOut.made (L := L) (L' := L ++ [⟨pl, bs, pg⟩]) (A' := A4) (c' := c4) hg1 H2.out.2.2.2.2.1 H2.out.2.2.2.2.2.1 H2.out.1 H2.out.2.1 H2.out.2.2.1 (H.out.2.2.2.1.app (by have := Hn.out; show bs.length ≤ 200; omega) (by have := H.out.2.2.2.2.2.2.2.2; have := H2.out.2.2.2.1; show pg.length ≤ 4; omega)) (by simp) G4.out (Nat.le_refl _) (by
        rw [rw_app, List.flatMap_append, List.length_append]; simpa [HR.rw] using O4.out)
      simp only [List.length_append, List.length_cons, List.length_nil, Nat.zero_add] at hmd
      have HM := Lib.hid hmd
      have q1 : decide ((0 : Int) ≤ (pl : Int)) = true := decide_eq_true (by omega)
      clear hfi hmd hHeld
      go_wp2_with fail
      refine HF.out.mono ?_
      rintro e u5 ⟨rfl, rfl⟩
      go_wp2_with fail
      go_ret2
      exact HM.out
end Go.Proofs.YtjkkoogfaibhiaaGreatDoor

/- The heap's laws: step, Set. -/
namespace Go.Proofs.YtjkkoogfaibhiaaGreatDoor
open Go.RowKit Go.Maps

theorem Sl.pre {w : World} {s n m : Nat} {A : Option Addr} {xs ys : List Value} (h : Sl w s A (n + m) (xs ++ ys)) (hx : xs.length = n * s) : Sl w s A n xs :=
  ⟨hx, fun h0 => by
    obtain ⟨b, off, hA, hb, hc⟩ := h.2 (by omega)
    exact ⟨b, off, hA, hb, fun j u hu => hc j u (by rw [List.getElem?_append_left (List.getElem?_eq_some_iff.1 hu).1]; exact hu)⟩⟩
/-- A record is appended to an own row; the row, as it was, can still be read. -/
theorem xrec_push {W : World} {base n c q : Nat} {A : Option Addr} {xs : List Value} {x : Hrw} (h0 : W.ownsRow base 53 2 (.slice A n c) n xs) (hb : base ≤ W.heap.size) (hq : Blk W q 53 #[.int .i64 x.place, .string x.text]) (hn : n ≤ 1000000) (ty : TypeId) :
    ∃ A' c' W', (Builtin.append_ #[43, 43] ty #[.slice A n c, .slice (some ⟨q, 0, none⟩) 1 1]).run Tryz.prog W = .ok (.slice A' (n + 1) c') W' ∧ W'.ownsRow base 53 2 (.slice A' (n + 1) c') (n + 1) (xs ++ x.vals) ∧ Ap W W' (.slice A n c) (.slice A' (n + 1) c') ∧ Sl W' 2 A n xs := by
  obtain ⟨i0, hi0, hz0, hz1, hz2⟩ := info_parts xhrInfo
  have hl : x.vals.length = 1 * 2 := by simp [Hrw.vals]
  have hnw : ∀ j u, x.vals[j]? = some u → W.cell? ((⟨q, 0, none⟩ : Addr).add j) = some u := fun j u hu => by rw [Addr.add_lit, Nat.zero_add, hq.cell j]; simpa [Hrw.vals] using hu
  have h1 : ∀ u ∈ x.vals, u.oneCell' = true := by simp [Hrw.vals, Value.oneCell']
  obtain ⟨v1, w1, hr, h2, h3, -, h4⟩ := run_append_own_at (P := Tryz.prog) W base 43 ty 53 i0 _ 2 24 Tryz.underlying43 hi0 hz0 hz1 hz2 rfl (by omega) (.slice A n c) n xs h0 ⟨q, 0, none⟩ 1 1 x.vals hl hnw h1 (by simp only [maxLen]; omega) (by omega) hb
  obtain ⟨A', c', rfl, -⟩ := own_shape h2
  refine ⟨A', c', w1, hr, h2, (Ap.refl _ _).push (Chg.refl _ _) h3 h4, ?_⟩
  have hx0 := h0.1
  have hsl := Sl.of_own h0
  rcases h0.2 with ⟨-, rfl⟩ | ⟨g, cap, cur, e, hbg, hg, hnc, hcm, hcs, htake⟩
  · obtain rfl : xs = [] := List.eq_nil_of_length_eq_zero (by omega)
    exact Sl.nil _ _ _
  · cases e
    by_cases hroom : n + 1 ≤ c
    · have hr' := run_append_room (P := Tryz.prog) W 43 ty 53 i0 Tryz.underlying43 hi0 g n c cur hg ⟨q, 0, none⟩ 1 1 x.vals (by rw [hz1]; exact hl) hnw h1 hroom (by rw [hz1, hl, hcs, ← Nat.add_mul]; exact Nat.mul_le_mul_right _ hroom)
      rw [hr] at hr'
      simp only [Result.ok.injEq, Value.slice.injEq] at hr'
      obtain ⟨⟨rfl, -⟩, -⟩ := hr'
      exact (Sl.of_own h2).pre hx0
    · obtain ⟨b, off, hA, -, hc⟩ := Classical.em (0 < n) |>.elim (fun h => hsl.2 h) (fun h => ⟨g, 0, rfl, by exact (Array.getElem?_eq_some_iff.1 hg).1, fun j u hu => by have := (List.getElem?_eq_some_iff.1 hu).1; omega⟩)
      cases hA
      have hr' := run_append_grow (P := Tryz.prog) W 43 ty 53 i0 _ Tryz.underlying43 hi0 hz0 ⟨g, 0, none⟩ n c xs (by rw [hz1]; exact hx0) (fun j u hu => by rw [Addr.add_lit]; exact hc j u hu) ⟨q, 0, none⟩ 1 1 x.vals (by rw [hz1]; exact hl) hnw (by omega) (by omega) (growslice_fits (by omega) (by rw [hz2]; omega))
      rw [hr] at hr'
      simp only [Result.ok.injEq] at hr'
      obtain ⟨-, rfl⟩ := hr'
      exact hsl.grew (Grew.trans ((Chg.refl NoF W).drew) ((Chg.refl _ _).alloc _))
set_option maxRecDepth 100000 in
set_option maxHeartbeats 3200000 in
theorem hstep_set (h m p c j g off d : Nat) (F : Nat → Prop) (x : Rp) (P : Nat → Bool) (L : List HR) (r : HR) (bs : List Int) (A : Option Addr) (w : World) (k : HH w h m p F x P) (hx : HeapIn x P L []) (hX : XS w A L F m) (hsm : Small L) (hr : XR x) (hl : L.length ≤ 1000) (hj : L[j]? = some r)
    (h1 : 1 ≤ bs.length) (h2 : bs.length ≤ 200) (hby : ∀ q ∈ bs, 0 ≤ q ∧ q ≤ 255) (hd : bs.length ≤ d) (hs : Sl w 1 (some ⟨g, off, none⟩) bs.length (bv bs)) (hgF : ¬ F g) (hgm : g ≠ m) (hgl : g < w.heap.size) (hsz : 64 ≤ x.sz) :
    Calls Tryz.prog 17 #[.pointer (some ⟨h, 0, none⟩), .slice A L.length c, .agg #[.int .i64 2, .int .i64 j, .slice (some ⟨g, off, none⟩) bs.length d]] w fun e w' => StepOut w w' h m p F x L e := by
  obtain ⟨W1, hW1⟩ : ∃ W, w.alloc (.cells #[.int .i64 2, .int .i64 j, .slice (some ⟨g, off, none⟩) bs.length d] 45) = W := ⟨_, rfl⟩
  have hg1 : Grew w W1 := hW1 ▸ (Chg.refl _ _).alloc _
  have hb1 : Blk W1 w.heap.size 45 #[.int .i64 2, .int .i64 j, .slice (some ⟨g, off, none⟩) bs.length d] := hW1 ▸ Blk.new _ _ _
  have hwF : ¬ F w.heap.size := fun e => by have := k.gp.lt _ e; omega
  have hwm : w.heap.size ≠ m := fun e => by have := k.lt; omega
  obtain ⟨c1, f1, s1⟩ := hb1.facts
  have hX1 := hX.grew hg1
  have hjl := (List.getElem?_eq_some_iff.1 hj).1
  obtain ⟨gx, ox, rfl, d0, -⟩ := hX1.at_ hj
  have HP := Lib.hid (fun u (hg : Grew W1 u) => hset_any h m p j g off d F x P L r bs u ((k.grew hg1).grew hg) hx hr.was hj hr.slack h1 (by omega) hby hd ((hs.grew hg1).grew hg) hgF hgm (Nat.lt_of_lt_of_le hgl (Nat.le_trans hg1.size hg.size)))
  have H := Lib.hid (And.intro (k.grew hg1) (And.intro hx (And.intro hX1 (And.intro hsm (And.intro hr (And.intro hb1 (And.intro (hs.grew hg1) (And.intro hg1 (And.intro (ownN_200 hsz h2) hj)))))))))
  obtain ⟨E, hE⟩ : ∃ E, L.eraseIdx j = E := ⟨_, rfl⟩
  have hEs : Small E := hE ▸ hsm.erase j
  have hEl : E.length ≤ L.length := by rw [← hE]; exact List.length_eraseIdx_le L j
  rw [hE] at HP
  have HE := Lib.hid hE
  clear hE
  obtain ⟨n, hn⟩ : ∃ n, bs.length = n := ⟨_, rfl⟩
  have t0 : ((n : Int) == 0) = false := beq_eq_false_iff_ne.2 (by omega)
  have t1 : decide ((0 : Int) ≤ (j : Int)) = true := decide_eq_true (by omega)
  have t2 : decide ((j : Int) < (L.length : Int)) = true := decide_eq_true (by omega)
  have Hn := Lib.hid hn
  rw [hn] at HP c1 hW1 h1 h2 hd ⊢
  have hd1 : W1.cell? ⟨w.heap.size, 1, none⟩ = some (.int .i64 j) ∧ W1.cell? ⟨w.heap.size, 2, none⟩ = some (.slice (some ⟨g, off, none⟩) n d) ∧ W1.cell? ⟨gx, ox + j * 2, none⟩ = some (.int .i64 r.place) := ⟨hb1.cell 1, by rw [← hn]; exact hb1.cell 2, d0⟩
  clear k hx hX hX1 hb1 hsm hr hs hn hj d0
  go_enter Tryz.func17, Tryz.ntmps17
  go_wp2_with fail
  refine wp_region_held_drew (S := fun u => u.cell? ⟨w.heap.size, 1, none⟩ = some (.int .i64 j) ∧ u.cell? ⟨w.heap.size, 2, none⟩ = some (.slice (some ⟨g, off, none⟩) n d) ∧ u.cell? ⟨gx, ox + j * 2, none⟩ = some (.int .i64 r.place)) (by kernel_rfl) hd1 (fun hHeld => ?_)
  refine wpAnyH_take (i := 0) (v := ?_) rfl (by kernel_rfl) (by kernel_rfl) (by kernel_rfl) (fun _ _ _ h => h) (Or.inl ⟨by rfl, ?_⟩) hHeld ?_
  rotate_left
  · (intro w hSw; (try dsimp only at hSw); go_simp) <;> with_reducible rfl
  (try simp only [Act.put, List.setIfInBounds_toArray, List.set_cons_zero, List.set_cons_succ, List.getElem_toArray, List.getElem_cons_zero, List.getElem_cons_succ])
  refine wpAnyH_take (i := 1) (v := ?_) rfl (by kernel_rfl) (by kernel_rfl) (by kernel_rfl) (fun _ _ _ h => h) (Or.inl ⟨by rfl, ?_⟩) hHeld ?_
  rotate_left
  · (intro w hSw; (try dsimp only at hSw); go_simp) <;> with_reducible rfl
  (try simp only [Act.put, List.setIfInBounds_toArray, List.set_cons_zero, List.set_cons_succ, List.getElem_toArray, List.getElem_cons_zero, List.getElem_cons_succ])
  refine wpAnyH_take (i := 2) (v := ?_) rfl (by kernel_rfl) (by kernel_rfl) (by kernel_rfl) (fun _ _ _ h => h) (Or.inl ⟨by rfl, ?_⟩) hHeld ?_
  rotate_left
  · (intro w hSw; (try dsimp only at hSw); go_simp) <;> with_reducible rfl
  (try simp only [Act.put, List.setIfInBounds_toArray, List.set_cons_zero, List.set_cons_succ, List.getElem_toArray, List.getElem_cons_zero, List.getElem_cons_succ])
  refine wpAnyH_take (i := 3) (v := ?_) rfl (by kernel_rfl) (by kernel_rfl) (by kernel_rfl) (fun _ _ _ h => h) (Or.inl ⟨by rfl, ?_⟩) hHeld ?_
  rotate_left
  · (intro w hSw; (try dsimp only at hSw); go_simp) <;> with_reducible rfl
  (try simp only [Act.put, List.setIfInBounds_toArray, List.set_cons_zero, List.set_cons_succ, List.getElem_toArray, List.getElem_cons_zero, List.getElem_cons_succ])
  refine wpAnyH_take (i := 4) (v := ?_) rfl (by kernel_rfl) (by kernel_rfl) (by kernel_rfl) (fun _ _ _ h => h) (Or.inl ⟨by rfl, ?_⟩) hHeld ?_
  rotate_left
  · (intro w hSw; (try dsimp only at hSw); go_simp) <;> with_reducible rfl
  (try simp only [Act.put, List.setIfInBounds_toArray, List.set_cons_zero, List.set_cons_succ, List.getElem_toArray, List.getElem_cons_zero, List.getElem_cons_succ])
  refine wpAnyH_take (i := 5) (v := ?_) rfl (by kernel_rfl) (by kernel_rfl) (by kernel_rfl) (fun _ _ _ h => h) (Or.inl ⟨by rfl, ?_⟩) hHeld ?_
  rotate_left
  · (intro w hSw; (try dsimp only at hSw); go_simp) <;> with_reducible rfl
  (try simp only [Act.put, List.setIfInBounds_toArray, List.set_cons_zero, List.set_cons_succ, List.getElem_toArray, List.getElem_cons_zero, List.getElem_cons_succ])
  refine wpAnyH_take (i := 6) (v := ?_) rfl (by kernel_rfl) (by kernel_rfl) (by kernel_rfl) (fun _ _ _ h => h) (Or.inl ⟨by rfl, ?_⟩) hHeld ?_
  rotate_left
  · (intro w hSw; (try dsimp only at hSw); go_simp) <;> with_reducible rfl
  (try simp only [Act.put, List.setIfInBounds_toArray, List.set_cons_zero, List.set_cons_succ, List.getElem_toArray, List.getElem_cons_zero, List.getElem_cons_succ])
  refine wpAnyH_take (i := 7) (v := ?_) rfl (by kernel_rfl) (by kernel_rfl) (by kernel_rfl) (fun _ _ _ h => h) (Or.inl ⟨by rfl, ?_⟩) hHeld ?_
  rotate_left
  · (intro w hSw; (try dsimp only at hSw); go_simp) <;> with_reducible rfl
  (try simp only [Act.put, List.setIfInBounds_toArray, List.set_cons_zero, List.set_cons_succ, List.getElem_toArray, List.getElem_cons_zero, List.getElem_cons_succ])
  refine wpAnyH_take (i := 8) (v := ?_) rfl (by kernel_rfl) (by kernel_rfl) (by kernel_rfl) (fun _ _ _ h => h) (Or.inl ⟨by rfl, ?_⟩) hHeld ?_
  rotate_left
  · (intro w hSw; (try dsimp only at hSw); go_simp) <;> with_reducible rfl
  (try simp only [Act.put, List.setIfInBounds_toArray, List.set_cons_zero, List.set_cons_succ, List.getElem_toArray, List.getElem_cons_zero, List.getElem_cons_succ])
  refine wpAnyH_ready (rs := [9]) (by kernel_rfl) (by simp) ?_
  refine AllReadyH.cons rfl (fun K hK => ?_) AllReadyH.nil
  go_simp
  refine (HP.out _ ((Chg.refl _ _).drew)).mono ?_
  rintro e w2 (⟨pl, y, F1, P1, pg, rfl, hk2, hin2, hlk2, hpg2, hu2, hc2, hn2⟩ | ⟨-, hf⟩)
  rotate_left
  · exact (H.out.2.2.2.2.1.full hf (by have := H.out.2.2.2.2.2.2.2.2.1; omega)).elim
  have hcd := Grew.then ((Chg.refl NoF W1).drew) hc2
  have hnd : ∀ i, F1 i → F i ∨ W1.heap.size ≤ i := fun i e => (hn2 i e).imp id fun e => Nat.le_trans ((Chg.refl NoF W1).drew).size e
  have hb2 := H.out.2.2.2.2.2.1.chg hcd fun e => e.elim hwF hwm
  rw [Hn.out] at hb2
  obtain ⟨c2, f2, s2⟩ := hb2.facts
  have hsl2 : Sl w2 1 (some ⟨g, off, none⟩) bs.length (bv bs) := H.out.2.2.2.2.2.2.1.chg hcd fun a ha e => by cases ha; exact e.elim hgF hgm
  have hX2 := H.out.2.2.1.to hcd hnd
  have hd2 : w2.cell? ⟨w.heap.size, 1, none⟩ = some (.int .i64 j) ∧ w2.cell? ⟨w.heap.size, 2, none⟩ = some (.slice (some ⟨g, off, none⟩) n d) ∧ w2.cell? ⟨gx, ox + j * 2, none⟩ = some (.int .i64 r.place) :=
    ⟨hb2.cell 1, hb2.cell 2, by
      obtain ⟨_, _, e1, e2, -⟩ := hX2.at_ H.out.2.2.2.2.2.2.2.2.2
      cases e1
      exact e2⟩
  have hwo := xhwithout_rw j L (some ⟨gx, ox, none⟩) c w2 hX2.sl (by omega) hjl
  rw [HE.out] at hwo
  have H2 := Lib.hid (And.intro hk2 (And.intro hin2 (And.intro hlk2 (And.intro hpg2 (And.intro hcd (And.intro hnd (And.intro hb2 (And.intro hsl2 hwo))))))))
  clear hk2 hin2 hlk2 hpg2 hcd hnd hb2 hsl2 hwo hX2 hc2 hn2 hu2 c1 f1 s1
  refine hK.out _ _ hd2 (fun _ => ?_)
  clear hK K
  (try simp only [Act.put, List.setIfInBounds_toArray, List.set_cons_zero, List.set_cons_succ, List.getElem_toArray, List.getElem_cons_zero, List.getElem_cons_succ])
  refine wpAnyH_take (i := 10) (v := ?_) rfl (by kernel_rfl) (by kernel_rfl) (by kernel_rfl) (fun _ _ _ h => h) (Or.inl ⟨by rfl, ?_⟩) hd2 ?_
  rotate_left
  · (intro w hSw; (try dsimp only at hSw); go_simp) <;> with_reducible rfl
  (try simp only [Act.put, List.setIfInBounds_toArray, List.set_cons_zero, List.set_cons_succ, List.getElem_toArray, List.getElem_cons_zero, List.getElem_cons_succ])
  refine wpAnyH_take (i := 11) (v := ?_) rfl (by kernel_rfl) (by kernel_rfl) (by kernel_rfl) (fun _ _ _ h => h) (Or.inl ⟨by rfl, ?_⟩) hd2 ?_
  rotate_left
  · (intro w hSw; (try dsimp only at hSw); go_simp) <;> with_reducible rfl
  (try simp only [Act.put, List.setIfInBounds_toArray, List.set_cons_zero, List.set_cons_succ, List.getElem_toArray, List.getElem_cons_zero, List.getElem_cons_succ])
  refine wpAnyH_take (i := 12) (v := ?_) rfl (by kernel_rfl) (by kernel_rfl) (by kernel_rfl) (fun _ _ _ h => h) (Or.inl ⟨by rfl, ?_⟩) hd2 ?_
  rotate_left
  · (intro w hSw; (try dsimp only at hSw); go_simp) <;> with_reducible rfl
  (try simp only [Act.put, List.setIfInBounds_toArray, List.set_cons_zero, List.set_cons_succ, List.getElem_toArray, List.getElem_cons_zero, List.getElem_cons_succ])
  refine wpAnyH_take (i := 13) (v := ?_) rfl (by kernel_rfl) (by kernel_rfl) (by kernel_rfl) (fun _ _ _ h => h) (Or.inl ⟨by rfl, ?_⟩) hd2 ?_
  rotate_left
  · (intro w hSw; (try dsimp only at hSw); go_simp) <;> with_reducible rfl
  (try simp only [Act.put, List.setIfInBounds_toArray, List.set_cons_zero, List.set_cons_succ, List.getElem_toArray, List.getElem_cons_zero, List.getElem_cons_succ])
  refine wpAnyH_take (i := 14) (v := ?_) rfl (by kernel_rfl) (by kernel_rfl) (by kernel_rfl) (fun _ _ _ h => h) (Or.inl ⟨by rfl, ?_⟩) hd2 ?_
  rotate_left
  · (intro w hSw; (try dsimp only at hSw); go_simp) <;> with_reducible rfl
  (try simp only [Act.put, List.setIfInBounds_toArray, List.set_cons_zero, List.set_cons_succ, List.getElem_toArray, List.getElem_cons_zero, List.getElem_cons_succ])
  refine wpAnyH_done (by kernel_rfl) ?_ _
  clear hHeld hd1 hd2
  go_wp2_with fail
  refine H2.out.2.2.2.2.2.2.2.2.mono ?_
  rintro e w3 ⟨A3, c3, rfl, ho3, hg3⟩
  have hb3 := H2.out.2.2.2.2.2.2.1.grew hg3
  obtain ⟨c3', f3, s3⟩ := hb3.facts
  have hcv := conv_sl (c := d) (H2.out.2.2.2.2.2.2.2.1.grew hg3) (by rw [Hn.out]; omega)
  rw [Hn.out] at hcv
  obtain ⟨A4, c4, w4, hr4, ho4, ha4, hs4⟩ := xrec_push (W := w3.alloc (.cells #[.int .i64 pl, .string (strOfNums bs)] 53)) (x := ⟨(pl : Int), strOfNums bs⟩) (own_grew ho3 ((Chg.refl NoF _).alloc _)) (Nat.le_trans hg3.size ((Chg.refl NoF w3).alloc _).size) (Blk.new _ _ _) (by omega) 43
  have hg4 : Grew w2 w4 := ha4.grow (Grew.trans hg3 ((Chg.refl _ _).alloc _)) fun q hq => (ho3.lt q hq).1
  have hfi := xhfind_any (pl : Int) (E.map HR.rw) A3 c3 w4 (by rw [List.length_map]; exact hs4) (by rw [List.length_map]; omega)
  rw [fnR_none (noRec_new H2.out.2.1.nd), List.length_map] at hfi
  have HF := Lib.hid hfi
  have hmd := StepOut.made (L := L) (L' := E ++ [⟨pl, bs, pg⟩]) (A' := A4) (c' := c4) hg1 H2.out.2.2.2.2.1 H2.out.2.2.2.2.2.1 H2.out.1 H2.out.2.1 H2.out.2.2.1 (hEs.app (by have := Hn.out; show bs.length ≤ 200; omega) (by have := H.out.2.2.2.2.2.2.2.2.1; have := H2.out.2.2.2.1; show pg.length ≤ 4; omega)) (by simp; omega) hg4 (Nat.le_refl _) (by
    rw [rw_app, List.flatMap_append, List.length_append]; simpa [HR.rw] using ho4)
  simp only [List.length_append, List.length_cons, List.length_nil, Nat.zero_add] at hmd
  have HM := Lib.hid hmd
  have HR4 := Lib.hid hr4
  have q1 : decide ((0 : Int) ≤ (pl : Int)) = true := decide_eq_true (by omega)
  clear hfi hmd hr4 ho4 ha4 hs4 hg4 hb3 ho3 hg3 c2 f2 s2
  go_wp2_with (at_builtin; refine wpList_append_run rfl _ _ _ rfl rfl rfl HR4.out ?_)
  refine HF.out.mono ?_
  rintro e u5 ⟨rfl, rfl⟩
  go_wp2_with fail
  go_ret2
  exact HM.out
set_option maxRecDepth 100000 in
set_option maxHeartbeats 3200000 in
/-- Set of no bytes. -/
theorem hstep_set0 (h m c j d : Nat) (F : Nat → Prop) (L : List HR) (r : HR) (A B : Option Addr) (w : World) (hX : XS w A L F m) (hl : L.length ≤ 1000000) (hj : L[j]? = some r) :
    Calls Tryz.prog 17 #[.pointer (some ⟨h, 0, none⟩), .slice A L.length c, .agg #[.int .i64 2, .int .i64 j, .slice B 0 d]] w fun e w' => e = .returned (.tuple #[.slice A L.length c, .bool true]) ∧ Grew w w' := by
  obtain ⟨W1, hW1⟩ : ∃ W, w.alloc (.cells #[.int .i64 2, .int .i64 j, .slice B 0 d] 45) = W := ⟨_, rfl⟩
  have hg1 : Grew w W1 := hW1 ▸ (Chg.refl _ _).alloc _
  have hb1 : Blk W1 w.heap.size 45 #[.int .i64 2, .int .i64 j, .slice B 0 d] := hW1 ▸ Blk.new _ _ _
  obtain ⟨c1, f1, s1⟩ := hb1.facts
  have hX1 := hX.grew hg1
  have hjl := (List.getElem?_eq_some_iff.1 hj).1
  obtain ⟨gx, ox, rfl, d0, -⟩ := hX1.at_ hj
  have hgd := (Chg.refl NoF W1).drew
  have hb2 := hb1.grew hgd
  obtain ⟨c2, f2, s2⟩ := hb2.facts
  have hX2 := hX1.grew hgd
  obtain ⟨_, _, e1, e2, -⟩ := hX2.at_ hj
  cases e1
  have HP := Lib.hid (fun u => hset_empty h r.place B d u)
  have HG := Lib.hid (Grew.trans hg1 hgd)
  have t1 : decide ((0 : Int) ≤ (j : Int)) = true := decide_eq_true (by omega)
  have t2 : decide ((j : Int) < (L.length : Int)) = true := decide_eq_true (by omega)
  have hd1 : W1.cell? ⟨w.heap.size, 1, none⟩ = some (.int .i64 j) ∧ W1.cell? ⟨w.heap.size, 2, none⟩ = some (.slice B 0 d) ∧ W1.cell? ⟨gx, ox + j * 2, none⟩ = some (.int .i64 r.place) := ⟨hb1.cell 1, hb1.cell 2, d0⟩
  have hd2 : W1.drew.cell? ⟨w.heap.size, 1, none⟩ = some (.int .i64 j) ∧ W1.drew.cell? ⟨w.heap.size, 2, none⟩ = some (.slice B 0 d) ∧ W1.drew.cell? ⟨gx, ox + j * 2, none⟩ = some (.int .i64 r.place) := ⟨hb2.cell 1, hb2.cell 2, e2⟩
  clear hX hX1 hX2 hb1 hb2 hj d0 e2 hgd c2 f2 s2
  go_enter Tryz.func17, Tryz.ntmps17
  go_wp2_with fail
  refine wp_region_held_drew (S := fun u => u.cell? ⟨w.heap.size, 1, none⟩ = some (.int .i64 j) ∧ u.cell? ⟨w.heap.size, 2, none⟩ = some (.slice B 0 d) ∧ u.cell? ⟨gx, ox + j * 2, none⟩ = some (.int .i64 r.place)) (by kernel_rfl) hd1 (fun hHeld => ?_)
  refine wpAnyH_take (i := 0) (v := ?_) rfl (by kernel_rfl) (by kernel_rfl) (by kernel_rfl) (fun _ _ _ h => h) (Or.inl ⟨by rfl, ?_⟩) hHeld ?_
  rotate_left
  · (intro w hSw; (try dsimp only at hSw); go_simp) <;> with_reducible rfl
  (try simp only [Act.put, List.setIfInBounds_toArray, List.set_cons_zero, List.set_cons_succ, List.getElem_toArray, List.getElem_cons_zero, List.getElem_cons_succ])
  refine wpAnyH_take (i := 1) (v := ?_) rfl (by kernel_rfl) (by kernel_rfl) (by kernel_rfl) (fun _ _ _ h => h) (Or.inl ⟨by rfl, ?_⟩) hHeld ?_
  rotate_left
  · (intro w hSw; (try dsimp only at hSw); go_simp) <;> with_reducible rfl
  (try simp only [Act.put, List.setIfInBounds_toArray, List.set_cons_zero, List.set_cons_succ, List.getElem_toArray, List.getElem_cons_zero, List.getElem_cons_succ])
  refine wpAnyH_take (i := 2) (v := ?_) rfl (by kernel_rfl) (by kernel_rfl) (by kernel_rfl) (fun _ _ _ h => h) (Or.inl ⟨by rfl, ?_⟩) hHeld ?_
  rotate_left
  · (intro w hSw; (try dsimp only at hSw); go_simp) <;> with_reducible rfl
  (try simp only [Act.put, List.setIfInBounds_toArray, List.set_cons_zero, List.set_cons_succ, List.getElem_toArray, List.getElem_cons_zero, List.getElem_cons_succ])
  refine wpAnyH_take (i := 3) (v := ?_) rfl (by kernel_rfl) (by kernel_rfl) (by kernel_rfl) (fun _ _ _ h => h) (Or.inl ⟨by rfl, ?_⟩) hHeld ?_
  rotate_left
  · (intro w hSw; (try dsimp only at hSw); go_simp) <;> with_reducible rfl
  (try simp only [Act.put, List.setIfInBounds_toArray, List.set_cons_zero, List.set_cons_succ, List.getElem_toArray, List.getElem_cons_zero, List.getElem_cons_succ])
  refine wpAnyH_take (i := 4) (v := ?_) rfl (by kernel_rfl) (by kernel_rfl) (by kernel_rfl) (fun _ _ _ h => h) (Or.inl ⟨by rfl, ?_⟩) hHeld ?_
  rotate_left
  · (intro w hSw; (try dsimp only at hSw); go_simp) <;> with_reducible rfl
  (try simp only [Act.put, List.setIfInBounds_toArray, List.set_cons_zero, List.set_cons_succ, List.getElem_toArray, List.getElem_cons_zero, List.getElem_cons_succ])
  refine wpAnyH_take (i := 5) (v := ?_) rfl (by kernel_rfl) (by kernel_rfl) (by kernel_rfl) (fun _ _ _ h => h) (Or.inl ⟨by rfl, ?_⟩) hHeld ?_
  rotate_left
  · (intro w hSw; (try dsimp only at hSw); go_simp) <;> with_reducible rfl
  (try simp only [Act.put, List.setIfInBounds_toArray, List.set_cons_zero, List.set_cons_succ, List.getElem_toArray, List.getElem_cons_zero, List.getElem_cons_succ])
  refine wpAnyH_take (i := 6) (v := ?_) rfl (by kernel_rfl) (by kernel_rfl) (by kernel_rfl) (fun _ _ _ h => h) (Or.inl ⟨by rfl, ?_⟩) hHeld ?_
  rotate_left
  · (intro w hSw; (try dsimp only at hSw); go_simp) <;> with_reducible rfl
  (try simp only [Act.put, List.setIfInBounds_toArray, List.set_cons_zero, List.set_cons_succ, List.getElem_toArray, List.getElem_cons_zero, List.getElem_cons_succ])
  refine wpAnyH_take (i := 7) (v := ?_) rfl (by kernel_rfl) (by kernel_rfl) (by kernel_rfl) (fun _ _ _ h => h) (Or.inl ⟨by rfl, ?_⟩) hHeld ?_
  rotate_left
  · (intro w hSw; (try dsimp only at hSw); go_simp) <;> with_reducible rfl
  (try simp only [Act.put, List.setIfInBounds_toArray, List.set_cons_zero, List.set_cons_succ, List.getElem_toArray, List.getElem_cons_zero, List.getElem_cons_succ])
  refine wpAnyH_take (i := 8) (v := ?_) rfl (by kernel_rfl) (by kernel_rfl) (by kernel_rfl) (fun _ _ _ h => h) (Or.inl ⟨by rfl, ?_⟩) hHeld ?_
  rotate_left
  · (intro w hSw; (try dsimp only at hSw); go_simp) <;> with_reducible rfl
  (try simp only [Act.put, List.setIfInBounds_toArray, List.set_cons_zero, List.set_cons_succ, List.getElem_toArray, List.getElem_cons_zero, List.getElem_cons_succ])
  refine wpAnyH_ready (rs := [9]) (by kernel_rfl) (by simp) ?_
  refine AllReadyH.cons rfl (fun K hK => ?_) AllReadyH.nil
  go_simp
  refine (HP.out _).mono ?_
  rintro e w2 ⟨rfl, rfl⟩
  refine hK.out _ _ hd2 (fun _ => ?_)
  clear hK K
  (try simp only [Act.put, List.setIfInBounds_toArray, List.set_cons_zero, List.set_cons_succ, List.getElem_toArray, List.getElem_cons_zero, List.getElem_cons_succ])
  refine wpAnyH_take (i := 10) (v := ?_) rfl (by kernel_rfl) (by kernel_rfl) (by kernel_rfl) (fun _ _ _ h => h) (Or.inl ⟨by rfl, ?_⟩) hd2 ?_
  rotate_left
  · (intro w hSw; (try dsimp only at hSw); go_simp) <;> with_reducible rfl
  (try simp only [Act.put, List.setIfInBounds_toArray, List.set_cons_zero, List.set_cons_succ, List.getElem_toArray, List.getElem_cons_zero, List.getElem_cons_succ])
  refine wpAnyH_take (i := 11) (v := ?_) rfl (by kernel_rfl) (by kernel_rfl) (by kernel_rfl) (fun _ _ _ h => h) (Or.inl ⟨by rfl, ?_⟩) hd2 ?_
  rotate_left
  · (intro w hSw; (try dsimp only at hSw); go_simp) <;> with_reducible rfl
  (try simp only [Act.put, List.setIfInBounds_toArray, List.set_cons_zero, List.set_cons_succ, List.getElem_toArray, List.getElem_cons_zero, List.getElem_cons_succ])
  refine wpAnyH_take (i := 12) (v := ?_) rfl (by kernel_rfl) (by kernel_rfl) (by kernel_rfl) (fun _ _ _ h => h) (Or.inl ⟨by rfl, ?_⟩) hd2 ?_
  rotate_left
  · (intro w hSw; (try dsimp only at hSw); go_simp) <;> with_reducible rfl
  (try simp only [Act.put, List.setIfInBounds_toArray, List.set_cons_zero, List.set_cons_succ, List.getElem_toArray, List.getElem_cons_zero, List.getElem_cons_succ])
  refine wpAnyH_take (i := 13) (v := ?_) rfl (by kernel_rfl) (by kernel_rfl) (by kernel_rfl) (fun _ _ _ h => h) (Or.inl ⟨by rfl, ?_⟩) hd2 ?_
  rotate_left
  · (intro w hSw; (try dsimp only at hSw); go_simp) <;> with_reducible rfl
  (try simp only [Act.put, List.setIfInBounds_toArray, List.set_cons_zero, List.set_cons_succ, List.getElem_toArray, List.getElem_cons_zero, List.getElem_cons_succ])
  refine wpAnyH_take (i := 14) (v := ?_) rfl (by kernel_rfl) (by kernel_rfl) (by kernel_rfl) (fun _ _ _ h => h) (Or.inl ⟨by rfl, ?_⟩) hd2 ?_
  rotate_left
  · (intro w hSw; (try dsimp only at hSw); go_simp) <;> with_reducible rfl
  (try simp only [Act.put, List.setIfInBounds_toArray, List.set_cons_zero, List.set_cons_succ, List.getElem_toArray, List.getElem_cons_zero, List.getElem_cons_succ])
  refine wpAnyH_done (by kernel_rfl) ?_ _
  clear hHeld hd1 hd2
  go_wp2_with fail
  go_ret2
  exact ⟨rfl, HG.out⟩
end Go.Proofs.YtjkkoogfaibhiaaGreatDoor

/- The heap's laws: step, any operation. -/
namespace Go.Proofs.YtjkkoogfaibhiaaGreatDoor
open Go.RowKit Go.Maps

theorem hstep_any (h m p c : Nat) (F : Nat → Prop) (x : Rp) (P : Nat → Bool) (L : List HR) (A : Option Addr) (o : Hop) (w : World) (k : HH w h m p F x P) (hx : HeapIn x P L []) (hX : XS w A L F m) (hsm : Small L) (hr : XR x) (hl : L.length ≤ 1000)
    (ok : o.ok w) (h2 : o.data.l.length ≤ 200) (hf : 0 < o.data.l.length → ∀ a, o.data.a = some a → ¬ F a.block ∧ a.block ≠ m ∧ a.block < w.heap.size) (hsz : 64 ≤ x.sz) :
    Calls Tryz.prog 17 #[.pointer (some ⟨h, 0, none⟩), .slice A L.length c, .agg #[.int .i64 o.kind, .int .i64 o.at_, o.data.val]] w fun e w' => StepOut w w' h m p F x L e := by
  obtain ⟨kd, at_, A2, c2, t⟩ := o
  obtain ⟨-, hb, hs, hc2, hm, hby⟩ := ok
  dsimp only at hb hs hc2 hm hby h2 hf
  have idle : ∀ e w', e = .returned (.tuple #[.slice A L.length c, .bool true]) ∧ Grew w w' → StepOut w w' h m p F x L e := by
    rintro e w' ⟨rfl, hg⟩
    exact StepOut.same (k.grew hg) hx hX hsm hg.chg
  by_cases hk : kd < 1 ∨ 5 < kd
  · exact (hstep_idle h A L.length c kd at_ _ w (by omega) hk).mono idle
  · have hin : ∀ (_ : ¬ (at_ < 0 ∨ (L.length : Int) ≤ at_)), ∃ (j : Nat) (r : HR), at_ = j ∧ L[j]? = some r := fun ho =>
      ⟨at_.toNat, L[at_.toNat]'(by omega), by omega, List.getElem?_eq_getElem _⟩
    have : kd = 1 ∨ kd = 2 ∨ kd = 3 ∨ kd = 4 ∨ kd = 5 := by omega
    rcases this with rfl | rfl | rfl | rfl | rfl
    · by_cases ht : t.length = 0
      · obtain rfl : t = [] := List.eq_nil_of_length_eq_zero ht
        exact (hstep_none h A A2 L.length c c2 at_ w (by omega)).mono idle
      · obtain ⟨g, off, rfl, -, -⟩ := hs.2 (by omega)
        obtain ⟨f1, f2, f3⟩ := hf (by omega) _ rfl
        exact hstep_put h m p c g off c2 F x P L t A at_ w k hx hX hsm hr hl (by omega) h2 hby hc2 hs f1 f2 f3 hsz
    · by_cases ho : at_ < 0 ∨ (L.length : Int) ≤ at_
      · exact (hstep_out h A L.length c 2 at_ _ w (by omega) (.inl rfl) ho).mono idle
      · obtain ⟨j, r, rfl, hj⟩ := hin ho
        by_cases ht : t.length = 0
        · obtain rfl : t = [] := List.eq_nil_of_length_eq_zero ht
          exact (hstep_set0 h m c j c2 F L r A A2 w hX (by omega) hj).mono idle
        · obtain ⟨g, off, rfl, -, -⟩ := hs.2 (by omega)
          obtain ⟨f1, f2, f3⟩ := hf (by omega) _ rfl
          exact hstep_set h m p c j g off c2 F x P L r t A w k hx hX hsm hr hl hj (by omega) h2 hby hc2 hs f1 f2 f3 hsz
    · by_cases ho : at_ < 0 ∨ (L.length : Int) ≤ at_
      · exact (hstep_out h A L.length c 3 at_ _ w (by omega) (.inr rfl) ho).mono idle
      · obtain ⟨j, r, rfl, hj⟩ := hin ho
        exact hstep_delr h m p c j F x P L r A _ w k hx hX hsm hr (by omega) hj
    · exact (hstep_get h m p c F x P L A at_ _ w k hx hX (by omega) hb).mono fun e w' ⟨e1, e2, e3⟩ => by subst e1; exact StepOut.same e2 hx hX hsm e3
    · exact hstep_delp h m p c F x P L A at_ _ w k hx hX hsm hr (by omega) hb
end Go.Proofs.YtjkkoogfaibhiaaGreatDoor

/- The heap's laws: awake. -/
namespace Go.Proofs.YtjkkoogfaibhiaaGreatDoor
open Go.RowKit Go.Maps

theorem roomy12h {d : Nat} : (Rp.opened 12 64 d).roomy 7 := opened_roomy (T := 1) (C := 10) (Nat.le_of_eq (by kernel_rfl)) (Nat.le_of_eq (by kernel_rfl)) (by omega) (by omega)
theorem opened_used (n sz d : Nat) : (Rp.opened n sz d).now.countP Pk.used = 0 := rep_count (capN n sz) _ rfl
theorem opened_was (n sz d : Nat) : (Rp.opened n sz d).was ≠ none := by simp [Rp.opened, Rp.begun]
set_option maxRecDepth 100000 in
set_option maxHeartbeats 3200000 in
theorem hawake_any (w : World) (hT : TabAt 0 tab w) :
    Calls Tryz.prog 6 #[] w fun e w' => e = .returned (.bool true) ∧ Grew w w' := by
  have H := Lib.hid hT
  have kc := fun (w : World) (C : Array Value) (n c : Nat) => Lib.run_convert_bytes_const (P := Tryz.prog) w 34 5 C n c Tryz.underlying34 Tryz.underlying5
  clear hT
  go_enter Tryz.func6, Tryz.ntmps6
  go_wp2_with fail
  refine (hfresh_any 12 64 _ H.out (by omega) (by omega) (by omega) (by omega)).mono ?_
  rintro e w1 ⟨p, d, F, rfl, hp, hg1, hn1⟩
  have HN := Lib.hid (hnew_any p F _ w1 hp)
  have H1 := Lib.hid (And.intro hg1 hn1)
  clear hp hg1 hn1
  go_wp2_with fail
  refine HN.out.mono ?_
  rintro e w2 ⟨h, m, rfl, hk2, hg2, hh, hm, -⟩
  have hsz := H1.out.1.size
  have hM2 : HM w w2 h m p F (Rp.opened 12 64 d) (fun _ => false) := ⟨hk2, Grew.trans H1.out.1 hg2, H1.out.2, by omega⟩
  have HL := Lib.hid (fun n => hlong_any h m p n F (Rp.opened 12 64 d) (fun _ => false) w2 hk2)
  have HM2 := Lib.hid hM2
  clear hk2 hg2 hM2 hh hm
  have hl28 := HL.out 28
  have hl29 := HL.out 29
  rw [show longB 28 (Rp.opened 12 64 d).sz = false from (by decide : longB 28 64 = false)] at hl28
  rw [show longB 29 (Rp.opened 12 64 d).sz = true from (by decide : longB 29 64 = true)] at hl29
  have HLL := Lib.hid (And.intro hl28 hl29)
  clear hl28 hl29 HL
  go_wp2_with fail
  refine HLL.out.1.mono ?_
  rintro e w3 ⟨rfl, rfl⟩
  go_wp2_with fail
  refine HLL.out.2.mono ?_
  rintro e w3 ⟨rfl, rfl⟩
  go_wp2_with fail
  obtain ⟨W3, hW3⟩ : ∃ W, w2.alloc (.cells #[.int .u8 97, .int .u8 98, .int .u8 99] 5 (3, 4)) = W := ⟨_, rfl⟩
  have hg3 : Grew w2 W3 := hW3 ▸ (Chg.refl _ _).alloc _
  have hz3 : W3.heap.size = w2.heap.size + 1 := by subst hW3; exact Array.size_push _
  have hsl3 : Sl W3 1 (some ⟨w2.heap.size, 0, none⟩) [97, 98, 99].length (bv [97, 98, 99]) := by
    refine ⟨by simp [bv], fun _ => ⟨w2.heap.size, 0, rfl, by omega, fun j u hu => ?_⟩⟩
    rw [Nat.zero_add, ← hW3]
    have e : (w2.alloc (.cells #[.int .u8 97, .int .u8 98, .int .u8 99] 5 (3, 4))).cell? ⟨w2.heap.size, j, none⟩ = (#[.int .u8 97, .int .u8 98, .int .u8 99] : Array Value)[j]? := by
      exact cell_of_row _ _ _ _ _ _ (heap_alloc_new w2 _)
    rw [e]
    simpa [bv] using hu
  have hM3 := HM2.out.grew hg3
  have hpt := hput_any h m p w2.heap.size 0 3 F (Rp.opened 12 64 d) (fun _ => false) [] [97, 98, 99] W3 hM3.k (HeapIn.start (opened_used 12 64 d)) (opened_was 12 64 d) (by simp) (by simp) (by simp) (by simp) hsl3 (fun e => by have := HM2.out.k.gp.lt _ e; omega) (by omega)
  rw [hW3]
  have H3 := Lib.hid (And.intro hM3 hpt)
  clear hM3 hpt hsl3 hg3 hW3
  refine H3.out.2.mono ?_
  rintro e w4 (⟨pl, y, F4, P4, pg, rfl, hk4, hin4, hlk4, hpg4, hu4, hc4, hn4⟩ | ⟨rfl, y, F', -, -, -, -, ht⟩)
  rotate_left
  · exact absurd ht (not_tight roomy12h (.refl _) (by rw [opened_used]; show 0 + (1 + ownN 3 64) ≤ 7; decide))
  have hM4 : HM w w4 h m p F4 y P4 := H3.out.1.to hc4 hk4 hn4
  have hin4' : HeapIn y P4 [⟨pl, [97, 98, 99], pg⟩] [] := hin4
  have hpl : pl < 262144 := by
    obtain ⟨s, hs, -⟩ := hin4'.slot (r := ⟨pl, [97, 98, 99], pg⟩) List.mem_cons_self
    have h1 := hs.lt
    have h2 := hk4.gp.szs.2.2.2.2.2
    simp only at h1
    omega
  have H4 := Lib.hid (And.intro hM4 hin4')
  clear hk4 hin4 hlk4 hpg4 hu4 hc4 hn4 hM4 hin4' H3
  go_wp2_with fail
  refine (hget_any h m p F4 y P4 _ [] ⟨pl, [97, 98, 99], pg⟩ w4 H4.out.1.k H4.out.2 List.mem_cons_self).mono ?_
  rintro e w5 ⟨A5, c5, rfl, hs5, -, hn5, hk5, hc5⟩
  have hM5 := H4.out.1.far hc5 hk5
  have H5 := Lib.hid (And.intro hM5 hs5)
  have hA5 : ∀ a, A5 = some a → ¬ F4 a.block ∧ a.block < w5.heap.size := fun a ha => by
    obtain ⟨g, off, e, hgl, -⟩ := hs5.2 (by simp)
    rw [ha] at e
    cases e
    exact ⟨fun e => by have h1 := hn5 _ ha; have h2 := H4.out.1.k.gp.lt _ e; omega, hgl⟩
  have HA5 := Lib.hid hA5
  clear hs5 hn5 hk5 hc5 hM5 hA5
  go_wp2_with fail
  have hgn := hget_none h m p F4 y P4 _ [] ((pl : Int) + 1) w5 H5.out.1.k H4.out.2 (by omega) (.inr fun r hr => by simp at hr; subst hr; simp only; omega)
  refine hgn.mono ?_
  clear hgn
  rintro e w6 ⟨rfl, hk6, hc6⟩
  have hM6 := H5.out.1.far hc6 hk6
  have hs6 := H5.out.2.chg hc6 fun a ha => (HA5.out a ha).1
  have hcv0 := conv_sl (c := c5) hs6 (by simp)
  have hpa := hpages_any h m p y.now.length F4 y P4 w6 hk6 (fun s hs => H4.out.2.lt hs) (by have := hk6.gp.szs.2.2.2.2.2; omega)
  have hkl : (keysL P4 y.now.length).length = 1 := by
    have h1 := H4.out.2.bnd
    have h2 := cntN_pos (H4.out.2.at_ _ List.mem_cons_self).1 (H4.out.2.lt (H4.out.2.at_ _ List.mem_cons_self).1)
    unfold keysL
    rw [← List.countP_eq_length_filter, ← cntN_countP]
    simp only [List.length_cons, List.length_nil] at h1
    omega
  rw [hkl] at hpa
  have HPa := Lib.hid hpa
  have H6 := Lib.hid hM6
  have hstr : strOfNums [97, 98, 99] = ⟨#[97, 98, 99]⟩ := by rfl
  rw [hstr] at hcv0
  have hcv : (convert 34 9 (.slice A5 3 c5)).run Tryz.prog w6 = .ok (.string ⟨#[97, 98, 99]⟩) w6 := hcv0
  clear hcv0
  clear hk6 hc6 hM6 hs6 hpa hkl hstr
  go_wp2_with fail
  refine HPa.out.mono ?_
  rintro e w7 ⟨A7, c7, rfl, ho7, hg7⟩
  have H7 := Lib.hid (H6.out.grew hg7)
  clear ho7 hg7
  go_wp2_with fail
  go_ret
  exact ⟨rfl, H7.out.gr⟩
end Go.Proofs.YtjkkoogfaibhiaaGreatDoor

/- The heap's laws: HeapPlays, walked. -/
namespace Go.Proofs.YtjkkoogfaibhiaaGreatDoor
open Go.RowKit Go.Maps

/-- A heap of the law's own, and the list beside it. -/
structure HpJ (w W : World) (h m p : Nat) (x0 : Rp) (L : List HR) (F : Nat → Prop) (y : Rp) (P : Nat → Bool) (A : Option Addr) : Prop where
  hm : HM w W h m p F y P
  hx : HeapIn y P L []
  like : x0.like y
  xs : XS W A L F m
  sm : Small L
section
variable {w W W1 : World} {h m p : Nat} {x0 : Rp} {L : List HR} {F : Nat → Prop} {y : Rp} {P : Nat → Bool} {A : Option Addr}
theorem HpJ.grew (j : HpJ w W h m p x0 L F y P A) (hg : Grew W W1) : HpJ w W1 h m p x0 L F y P A := ⟨j.hm.grew hg, j.hx, j.like, j.xs.grew hg, j.sm⟩
theorem HpJ.kept (j : HpJ w W h m p x0 L F y P A) (hk : HH W1 h m p F y P) (hc : Chg F W W1) : HpJ w W1 h m p x0 L F y P A := ⟨j.hm.far hc hk, j.hx, j.like, j.xs.far hc, j.sm⟩
theorem HpJ.step {e : Ending} (j : HpJ w W h m p x0 L F y P A) (hs : StepOut W W1 h m p F y L e) :
    ∃ (A' : Option Addr) (c' : Nat) (L' : List HR) (F' : Nat → Prop) (y' : Rp) (P' : Nat → Bool), e = .returned (.tuple #[.slice A' L'.length c', .bool true]) ∧ HpJ w W1 h m p x0 L' F' y' P' A' ∧ L'.length ≤ L.length + 1 := by
  obtain ⟨A', c', L', y', F', P', rfl, h1, h2, h3, h4, h5, h6, h7, h8⟩ := hs
  exact ⟨A', c', L', F', y', P', rfl, ⟨j.hm.to h7 h1 h8, h2, j.like.trans h3, h4, h5⟩, h6⟩
theorem HpJ.xr {K : Nat} (j : HpJ w W h m p x0 L F y P A) (hr : x0.roomy K) (hw : x0.was ≠ none) (hK : 5 * L.length + 5 ≤ K) : XR y := by
  have hu := j.hx.used_le fun r hr => (j.sm r hr).2
  refine ⟨by rw [j.like.was]; exact hw, ?_, fun k hk => not_tight hr j.like (by omega)⟩
  have := (never_full hr j.like (by omega)).1
  omega
end
theorem hplays_out (w : World) (hT : TabAt 0 tab w) (A : Option Addr) (c : Nat) (l : List Hop) (size : Int) (hz : -9223372036854775808 ≤ size ∧ size ≤ 9223372036854775807) (hm : l.length ≤ 9223372036854775807) (hs : Sl w 3 A l.length (l.flatMap Hop.vals)) (ok : ∀ r ∈ l, r.ok w)
    (ho : size < 64 ∨ 200 < size ∨ smallB l 60 = false) :
    Calls Tryz.prog 4 #[.int .i64 size, .slice A l.length c] w fun e w' => e = .returned (.bool true) ∧ Grew w w' := by
  have HA := Lib.hid (fun u (hg : Grew w u) => hawake_any u (tab_chg hT hg id))
  have t0 : (decide (size < 64) = true) ∨ (decide (size < 64) = false ∧ decide (200 < size) = true) ∨ (decide (size < 64) = false ∧ decide (200 < size) = false ∧ smallB l 60 = false) := by
    by_cases a : size < 64
    · exact .inl (decide_eq_true a)
    · by_cases b : 200 < size
      · exact .inr (.inl ⟨decide_eq_false a, decide_eq_true b⟩)
      · exact .inr (.inr ⟨decide_eq_false a, decide_eq_false b, (ho.resolve_left a).resolve_left b⟩)
  have hsm := small_any l A c 60 w hs ok hm
  obtain ⟨ht1, ht2⟩ := hz
  clear ho hT hs ok
  rcases t0 with t1 | ⟨t1, t2⟩ | ⟨t1, t2, t3⟩
  rotate_right
  · rw [t3] at hsm
    have HS := Lib.hid hsm
    clear hsm
    go_enter Tryz.func4, Tryz.ntmps4
    go_wp2_with fail
    refine HS.out.mono ?_
    rintro e w1 ⟨rfl, hg1⟩
    have HG := Lib.hid hg1
    clear hg1
    go_wp2_with fail
    refine (HA.out _ HG.out).mono ?_
    rintro e w2 ⟨rfl, hg⟩
    have HG2 := Lib.hid (Grew.trans HG.out hg)
    clear hg
    go_wp2_with fail
    go_ret
    exact ⟨rfl, HG2.out⟩
  all_goals
    go_enter Tryz.func4, Tryz.ntmps4
    go_wp2_with fail
    refine (HA.out _ (Chg.refl _ _)).mono ?_
    rintro e w1 ⟨rfl, hg⟩
    have HG := Lib.hid hg
    clear hg
    go_wp2_with fail
    go_ret
    exact ⟨rfl, HG.out⟩
set_option maxRecDepth 100000 in
set_option maxHeartbeats 6400000 in
theorem hplays_in (w : World) (hT : TabAt 0 tab w) (A0 : Option Addr) (c0' : Nat) (l : List Hop) (sz : Nat) (h1 : 64 ≤ sz) (h2 : sz ≤ 200) (hm : l.length ≤ 9223372036854775807) (hs : Sl w 3 A0 l.length (l.flatMap Hop.vals)) (ok : ∀ r ∈ l, r.ok w) (hsm : smallB l 60 = true) :
    Calls Tryz.prog 4 #[.int .i64 sz, .slice A0 l.length c0'] w fun e w' => e = .returned (.bool true) ∧ Grew w w' := by
  have t1 : decide ((sz : Int) < 64) = false := decide_eq_false (by omega)
  have t2 : decide ((200 : Int) < (sz : Int)) = false := decide_eq_false (by omega)
  have hsa := small_any l A0 c0' 60 w hs ok hm
  rw [hsm] at hsa
  simp only [smallB, Bool.and_eq_true, decide_eq_true_eq, List.all_eq_true] at hsm
  obtain ⟨hd, hll⟩ := hsm
  have hl : l.length ≤ 60 := by omega
  have H := Lib.hid (And.intro hT (And.intro hs (And.intro ok (And.intro hd (fun d => roomy600 (d := d) h1 h2)))))
  have HS := Lib.hid hsa
  have HA := Lib.hid (fun u (hg : Grew w u) => hawake_any u (tab_chg hT hg id))
  clear hT hs ok hsa hd
  go_enter Tryz.func4, Tryz.ntmps4
  go_wp2_with fail
  refine HS.out.mono ?_
  rintro e w0 ⟨rfl, hg0⟩
  have H0 := Lib.hid hg0
  clear hg0
  go_wp2_with fail
  refine (hfresh_any 600 sz w0 (tab_chg H.out.1 H0.out id) (by omega) (by omega) h1 (by omega)).mono ?_
  rintro e w1 ⟨p, d, F, rfl, hp, hg1, hn1⟩
  have HN := Lib.hid (hnew_any p F _ w1 hp)
  have H1 := Lib.hid (And.intro hg1 hn1)
  clear hp hg1 hn1
  go_wp2_with fail
  refine HN.out.mono ?_
  rintro e w2 ⟨h, m, rfl, hk2, hg2, hh, hmm, -⟩
  have hsz := H1.out.1.size
  have hsz0 := H0.out.size
  have hJ0 : HpJ w w2 h m p (Rp.opened 600 sz d) [] F (Rp.opened 600 sz d) (fun _ => false) none :=
    ⟨⟨hk2, Grew.trans H0.out (Grew.trans H1.out.1 hg2), fun j hj => by have := H1.out.2 j hj; omega, by omega⟩, HeapIn.start (opened_used 600 sz d), .refl _, ⟨Sl.nil _ _ _, fun a ha => by cases ha⟩, fun r hr => by cases hr⟩
  have HJ0 := Lib.hid hJ0
  clear hk2 hg2 hh hmm hJ0
  go_wp2_with fail
  go_loopg [8, 37] (l.length) (fun n xv iv wr => ∃ (k : Nat) (L : List HR) (F : Nat → Prop) (y : Rp) (P : Nat → Bool) (A : Option Addr) (c : Nat), n = l.length - k ∧ k ≤ l.length ∧ iv = .int .i64 k ∧ xv = .slice A L.length c ∧ L.length ≤ k ∧ HpJ w wr h m p (Rp.opened 600 sz d) L F y P A)
  case atStart => exact ⟨0, [], _, _, _, none, 0, by simp, Nat.zero_le _, rfl, rfl, Nat.zero_le _, HJ0.out⟩
  case round =>
    obtain ⟨k, L, F, y, P, A, c, rfl, hk, rfl, rfl, hLk, hJ⟩ := hrel
    by_cases hlt : k < l.length
    · obtain ⟨o, ho⟩ : ∃ o, l[k]? = some o := ⟨_, List.getElem?_eq_getElem hlt⟩
      have hmem := List.mem_of_getElem? ho
      obtain ⟨g, off, rfl, hb, d0, d1, d2⟩ := (H.out.2.1.grew hJ.hm.gr).atHop ho
      have hgo : ∀ o, Grew wr (wr.alloc o) := fun o => (Chg.refl _ wr).alloc o
      have hxr := hJ.xr (H.out.2.2.2.2 d) (opened_was _ _ _) (by omega)
      have hyz : y.sz = sz := hJ.like.sz
      have hst := fun (u : World) (hu : Grew wr u) => hstep_any h m p c F y P L A o u (hJ.grew hu).hm.k hJ.hx (hJ.grew hu).xs hJ.sm hxr (by omega) (by
          have := H.out.2.2.1 o hmem
          exact ⟨this.1, this.2.1, this.2.2.grew (Grew.trans hJ.hm.gr hu)⟩) (by have := H.out.2.2.2.1 o hmem; omega) (fun h0 a ha => by
          obtain ⟨b, off, e, hb, -⟩ := (H.out.2.2.1 o hmem).2.2.1.2 h0
          rw [ha] at e
          cases e
          have h3 := hJ.hm.mn
          have h4 := hJ.hm.gr.size
          have h5 := hu.size
          exact ⟨fun e => by have := hJ.hm.fn _ e; simp only at this; omega, by simp only; omega, by simp only; omega⟩) (by omega)
      have hgr := fun (u : World) (hu : Grew wr u) => hJ.grew hu
      obtain ⟨kd, at_, A2, c2, t⟩ := o
      simp only [SB.val] at d2 hst
      obtain ⟨n, hn⟩ : ∃ n, t.length = n := ⟨_, rfl⟩
      rw [hn] at d2 hst
      have HJ1 := Lib.hid (And.intro hst (And.intro hgr hgo))
      have hkI : (k : Int) < (l.length : Int) := by omega
      clear hst hxr hJ ho hb hmem hyz hgr hgo hn
      go_wp2_with fail
      refine (HJ1.out.1 _ (HJ1.out.2.2 _)).mono ?_
      intro e w3 hst
      obtain ⟨A', c', L', F', y', P', rfl, hJ3, hl3⟩ := (HJ1.out.2.1 _ (HJ1.out.2.2 _)).step hst
      have HJ3 := Lib.hid hJ3
      clear hst hJ3 d0 d1 d2
      by_cases hsh : L'.length < 12
      · have hshI : (L'.length : Int) < 12 := by omega
        have HS2 := Lib.hid (hsame_any h m p F' y' P' L' A' c' w3 HJ3.out.hm.k HJ3.out.hx (by omega) HJ3.out.xs.sl (fun a ha => (HJ3.out.xs.ap a ha).1))
        clear hsh
        go_wp2_with fail
        refine HS2.out.mono ?_
        rintro e w4 ⟨rfl, hk4, hc4⟩
        have HJ4 := Lib.hid (HJ3.out.kept hk4 hc4)
        clear hk4 hc4
        go_wp2_with fail
        go_roundg (l.length - (k + 1))
        case measure => omega
        case rel => exact ⟨k + 1, L', F', y', P', A', c', rfl, by omega, by simp, rfl, by omega, HJ4.out⟩
      · have hshI : ¬ (L'.length : Int) < 12 := by omega
        clear hsh
        go_wp2_with fail
        go_roundg (l.length - (k + 1))
        case measure => omega
        case rel => exact ⟨k + 1, L', F', y', P', A', c', rfl, by omega, by simp, rfl, by omega, HJ3.out⟩
    · obtain rfl : k = l.length := by omega
      have hsa := hsame_any h m p F y P L A c wr hJ.hm.k hJ.hx (by omega) hJ.xs.sl (fun a ha => (hJ.xs.ap a ha).1)
      have HJ := Lib.hid (And.intro hsa hJ)
      clear hsa hJ hlt hk
      by_cases hL : L.length = 0
      · obtain rfl : L = [] := List.eq_nil_of_length_eq_zero hL
        clear hL hLk
        go_wp2_with fail
        refine HJ.out.1.mono ?_
        rintro e w5 ⟨rfl, hk5, hc5⟩
        have hJ5 := HJ.out.2.kept hk5 hc5
        have hus := gp_used p F y w5 hk5.gp
        rw [hJ5.hx.zero.1] at hus
        have H5 := Lib.hid (And.intro hus hJ5)
        clear hk5 hc5 hJ5 hus
        go_wp2_with fail
        refine H5.out.1.mono ?_
        rintro e w6 ⟨rfl, hg6⟩
        have H6 := Lib.hid (Grew.trans H5.out.2.hm.gr hg6)
        clear hg6
        go_wp2_with fail
        refine (HA.out _ H6.out).mono ?_
        rintro e w7 ⟨rfl, hg7⟩
        have H7 := Lib.hid (Grew.trans H6.out hg7)
        clear hg7
        go_wp2_with fail
        go_ret
        exact ⟨rfl, H7.out⟩
      · have hL0 : 0 < L.length := by omega
        clear hL
        go_wp2_with fail
        refine HJ.out.1.mono ?_
        rintro e w5 ⟨rfl, hk5, hc5⟩
        have H6 := Lib.hid (HJ.out.2.kept hk5 hc5).hm.gr
        clear hk5 hc5
        go_wp2_with fail
        refine (HA.out _ H6.out).mono ?_
        rintro e w7 ⟨rfl, hg7⟩
        have H7 := Lib.hid (Grew.trans H6.out hg7)
        clear hg7
        go_wp2_with fail
        go_ret
        exact ⟨rfl, H7.out⟩
end Go.Proofs.YtjkkoogfaibhiaaGreatDoor

/- The laws: the table that the rows list, in a walk's words; a world that meets it. -/
namespace Go.Proofs.YtjkkoogfaibhiaaGreatDoor
open Go.RowKit

def tabI : List Int := tab.map Int.ofNat
/-- The listed variable's name. -/
def laidName : String := Rows.heapLongRow.named.headD (toString 0)
theorem laid_is {H : Type} : (Rows.laid_math_bits_deBruijn64tab : DataW H) = Lib.tabData .u8 tabI := rfl
theorem tab_of_laid {W : World} (h : laidMetH Tryz.prog Rows.heapLongRow.laid W) : TabAt 0 tab W := by
  have h' : laidMet Tryz.prog [(laidName, Lib.tabData .u8 tabI)] W := h
  have hg : Tryz.prog.globalNamed laidName = some 0 := by kernel_rfl
  have ht := Lib.tabIs_of_head (t := 183) (e := 5) (n := 64) hg (by kernel_rfl) Tryz.underlying183 Tryz.underlying5 (by kernel_rfl) (by kernel_rfl) h'
  intro j hj
  have := ht.cell hg j (by simpa [tabI] using hj)
  rw [this]
  congr 2
  unfold tabI
  rw [List.getD_eq_getElem?_getD, List.getElem?_map, List.getD_eq_getElem?_getD]
  cases tab[j]? <;> rfl

noncomputable def laidWorld (os : Os) : World :=
  { World.holding Tryz.prog os ⟨#[], #[], []⟩ with heap := (World.holding Tryz.prog os ⟨#[], #[], []⟩).heap.modify 0 fun
      | .cells _ t frozen => .cells (tabI.map fun z => Value.int .u8 z).toArray t frozen
      | o => o }
theorem laidWorld_met (os : Os) (args : Array Value) : laidMetH Tryz.prog Rows.heapLongRow.laid ((laidWorld os).forCall (fun _ _ => 0) ⟨#[], args, []⟩).memory :=
  laidMetH_of_parts (laidMet_of_run' 8 (by kernel_rfl) (by kernel_rfl)) (by kernel_rfl)

end Go.Proofs.YtjkkoogfaibhiaaGreatDoor

namespace Go.Proofs.YtjkkoogfaibhiaaGreatDoor
open Go.ChangeShapes Go.WideShapes Go.ChangeAt Go.RowKit
set_option linter.unusedVariables false

theorem hplays_walk (w : World) (hT : TabAt 0 tab w) (size : Int) (hz : -9223372036854775808 ≤ size ∧ size ≤ 9223372036854775807) (A : Option Addr) (c : Nat) (l : List Hop) (hm : l.length ≤ maxLen) (hs : Sl w 3 A l.length (l.flatMap Hop.vals)) (ok : ∀ r ∈ l, r.ok w) :
    Calls Tryz.prog 4 #[.int .i64 size, .slice A l.length c] w fun e w' => e = .returned (.bool true) ∧ Grew w w' := by
  unfold maxLen at hm
  by_cases h : size < 64 ∨ 200 < size ∨ smallB l 60 = false
  · exact hplays_out w hT A c l size hz (by omega) hs ok h
  · obtain ⟨sz, rfl⟩ : ∃ sz : Nat, size = sz := ⟨size.toNat, by omega⟩
    exact hplays_in w hT A c l sz (by omega) (by omega) (by omega) hs ok (by
      cases hb : smallB l 60 with
      | true => rfl
      | false => exact (h (.inr (.inr hb))).elim)

namespace lawHeapPlays
theorem own : ownKnob Tryz.prog.godebug = none := by kernel_rfl
theorem laidOut : laidOutB Tryz.prog = true := by kernel_rfl
set_option maxRecDepth 100000 in
theorem lifted (os : Os) (started : os.Started) (H : Type) (enc : TypeId × Value → H) :
    ReturnsInHanded {} Tryz.checked os 4 .any (fun w args => (Rows.heapPlaysSpec.pre enc Tryz.prog Tryz.f4 [] false w args ∧ laidMetH Tryz.prog Rows.heapPlaysRow.laid w) ∧ sizedMet enc Tryz.prog Tryz.f4 (OpenSpec.ofChange Rows.heapPlaysSpec) false w args) (Rows.heapPlaysSpec.post enc Tryz.prog Tryz.f4 false true false false) := by
  refine returnsInHanded_of_change_and (C := Tryz.checked) (X := fun w _ => laidMetH Tryz.prog Rows.heapPlaysRow.laid w) (fun _ _ _ hh h => h.of_heap hh) own started (by kernel_rfl) Tryz.func4
    (ChangeSpec.witness_at (enc := enc) (C := Tryz.checked) (os := os) (X := fun w _ => laidMetH Tryz.prog Rows.heapPlaysRow.laid w) false (laidWorld os) #[.int .i64 0, .slice none 0 0] 8 rfl (by kernel_rfl) (by kernel_rfl) (by kernel_rfl) (by kernel_rfl) (by kernel_rfl) (laidWorld_met os _)) ?_
  intro W base args ds gs before hval0 hW _ _ hL0 _
  have hL : laidMetH Tryz.prog Rows.heapPlaysRow.laid W := hL0
  have hT0 := tab_of_laid hL
  have hval : ∀ (j : Nat) t v, Tryz.f4.params[j]? = some t → args[j]? = some v → Value.okWide Tryz.prog W .any base t v := hval0
  have hW1 := hW
  obtain ⟨p, q, hA0, hV, rfl, hfz, hnd⟩ := hW
  have hA : DataW.TrodAll enc Tryz.prog W 0 (fun _ => true) true Tryz.f4.params.toList args.toList ds p := hA0
  rw [Tryz.params4] at hA hval
  obtain ⟨v0, vs0, d0, ds0, p0, q0, hargs, rfl, rfl, h0, r0⟩ := trodAll_cons hA
  obtain ⟨v1, vs1, d1, ds1, p1, q1, rfl, rfl, rfl, h1, r1⟩ := trodAll_cons r0
  obtain ⟨rfl, rfl, rfl⟩ := trodAll_nil r1
  obtain rfl : args = #[v0, v1] := by cases args; simp_all
  obtain ⟨rfl, rfl⟩ := trodVars_none hV
  obtain ⟨a0, rfl, rfl, rfl, w0⟩ := open_int Tryz.underlying3 (hval 0 3 v0 rfl rfl) h0
  obtain ⟨A1, n1, c1, rfl⟩ := okWide_slice Tryz.underlying41 (hval 1 41 v1 rfl rfl)
  have k1 := h1
  have lt1 : ∀ x ∈ p1, x.block < W.heap.size := by obtain ⟨m, hm⟩ := k1; exact DataW.trod_lt m _ _ _ hm
  obtain ⟨fu1, hf1⟩ := h1
  obtain ⟨l1, rfl, hm1, hs1, ok1⟩ := Hop.opened (by simpa [Value.cells] using hf1)
  clear hA0 hval0
  refine (hplays_walk W hT0 a0 (wf_bounds w0) A1 c1 l1 hm1 hs1 ok1).mono fun e W1 ⟨he, hg⟩ => ?_
  subst he
  have bel := hg.below
  exact ⟨_, rfl, _, _, _, [], _, [], hW1, trodAll_mk1 (shut_bool Tryz.underlying4 _), (trodAll_cons_mk (shut_int Tryz.underlying3 w0) (trodAll_cons_mk (Below.trod laidOut (by kernel_rfl) (of_decide_eq_true (by kernel_rfl)) k1 bel lt1) trodAll_mk0)), rfl, bel.frame _, fun h => by cases h⟩
theorem over : Rows.heapPlaysRow.holds Tryz.pinned (OpenSpec.ofChange Rows.heapPlaysSpec) :=
  OpenClaim.holds_of_wide 4 Tryz.f4 rfl rfl rfl rfl rfl rfl rfl ⟨rfl, rfl, rfl, rfl, rfl⟩ rfl rfl rfl rfl rfl (by kernel_rfl) Tryz.func4 (by kernel_rfl)
    (of_decide_eq_true (by kernel_rfl)) (by unfold Func.isWrapper; first | (rw [if_pos (by decide +kernel)]; kernel_rfl) | (rw [if_neg (by decide +kernel)]; exact ⟨rfl, rfl⟩))
    (fun os started H enc _ => lifted os started H enc)
/-- The statement, a card whose listed variable is tied to the program. -/
theorem proved : Rows.HeapPlaysCardSaid :=
  Claim7.holds_tied_plain_at .later [] [.data] true Rows.heapPlaysCard.stood.harness Rows.heapPlaysCard.stood.looks over (fun _ h => by cases h) (by kernel_rfl) (fun _ h => by cases h) heapPlays_row_tie rfl ⟨rfl, rfl⟩ (by kernel_rfl) rfl
    (fun f fn hf hfn => by
      obtain rfl : f = 4 := Option.some.inj ((show Tryz.prog.funcNamed Rows.heapPlaysRow.func = some 4 by kernel_rfl).symm.trans hf) |>.symm
      obtain rfl : fn = Tryz.f4 := (Option.some.inj (Tryz.func4.symm.trans hfn)).symm
      refine ⟨by kernel_rfl, fun j t ht => ?_⟩
      have hall : ∀ t ∈ Tryz.f4.params.toList, Tryz.prog.wantsStandIn t = false := by
        rw [Tryz.params4]
        intro t ht
        simp only [List.mem_cons, List.not_mem_nil, or_false] at ht
        rcases ht with rfl | rfl <;> kernel_rfl
      exact hall t (by rw [Array.mem_toList_iff]; exact Array.mem_of_getElem? ht))
    (by kernel_rfl)
#print axioms proved
end lawHeapPlays

end Go.Proofs.YtjkkoogfaibhiaaGreatDoor
