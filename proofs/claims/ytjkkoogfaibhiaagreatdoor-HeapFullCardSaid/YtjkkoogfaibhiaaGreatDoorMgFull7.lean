/- Texts 7 of 8 that the proof of Full stands on. -/
import Derived.Test.YtjkkoogfaibhiaaGreatDoorMgFull6
import Derived.ProofKit
import Derived.OpenShut
import Derived.ShutString
import Derived.ChangeOld
import Derived.Deep.Slices
import Derived.Deep.Fields
import Derived.Deep.LoopGhost
import Derived.Laws.OwnMore
set_option linter.unusedSimpArgs false
set_option linter.unusedVariables false

/- The heap in memory: Set; Put and Set of no bytes. -/
namespace Go.Proofs.YtjkkoogfaibhiaaGreatDoor
open Go.RowKit Go.Maps

theorem hput_empty (h : Nat) (A : Option Addr) (c : Nat) (w : World) :
    Calls Tryz.prog 11 #[.pointer (some ⟨h, 0, none⟩), .slice A 0 c] w fun e w' => e = .returned (.tuple #[.int .i64 0, .int .i64 11]) ∧ w = w' := by
  go_enter Tryz.func11, Tryz.ntmps11
  go_wp2
  go_ret2
  exact ⟨rfl, rfl⟩
theorem hset_empty (h : Nat) (pl : Int) (A : Option Addr) (c : Nat) (w : World) :
    Calls Tryz.prog 42 #[.pointer (some ⟨h, 0, none⟩), .int .i64 pl, .slice A 0 c] w fun e w' => e = .returned (.tuple #[.int .i64 0, .int .i64 11]) ∧ w = w' := by
  go_enter Tryz.func42, Tryz.ntmps42
  go_wp2
  go_ret2
  exact ⟨rfl, rfl⟩
set_option maxRecDepth 100000 in
set_option maxHeartbeats 1600000 in
theorem hset_any (h m p kk g off c0 : Nat) (F : Nat → Prop) (x : Rp) (P : Nat → Bool) (L : List HR) (r : HR) (bs : List Int) (w : World) (k : HH w h m p F x P) (hx : HeapIn x P L []) (ho : x.was ≠ none) (hr : L[kk]? = some r) (hsl : 0 ≤ x.slack)
    (h1 : 1 ≤ bs.length) (h2 : bs.length ≤ 16384) (hby : ∀ q ∈ bs, 0 ≤ q ∧ q ≤ 255) (hc0 : bs.length ≤ c0) (hs : Sl w 1 (some ⟨g, off, none⟩) bs.length (bv bs)) (hgF : ¬ F g) (hgm : g ≠ m) (hgl : g < w.heap.size) :
    Calls Tryz.prog 42 #[.pointer (some ⟨h, 0, none⟩), .int .i64 r.place, .slice (some ⟨g, off, none⟩) bs.length c0] w fun e w' => HPut w w' h m p F x (L.eraseIdx kk) bs e := by
  have HD := Lib.hid (hdel_any h m p kk F x P L r w k hx ho hr)
  have H := Lib.hid (And.intro k (And.intro hby (And.intro hc0 (And.intro hs (And.intro hgF (And.intro hgm hgl))))))
  obtain ⟨n, hn⟩ : ∃ n, bs.length = n := ⟨_, rfl⟩
  have Hn := Lib.hid hn
  have t1 : decide ((n : Int) < 1) = false := decide_eq_false (by omega)
  have t2 : decide ((16384 : Int) < (n : Int)) = false := decide_eq_false (by omega)
  have How := Lib.hid ho
  rw [hn] at h1 h2 ⊢
  clear k hx hr hsl hby hc0 hs hgF hgm hgl hn ho
  go_enter Tryz.func42, Tryz.ntmps42
  go_wp2_with fail
  refine HD.out.mono ?_
  rintro e w1 (⟨y, F1, P1, rfl, hk1, hin1, hlk1, hu1, hc1, hn1⟩ | ⟨rfl, hf⟩)
  · have hpt := hput_any h m p g off c0 F1 y P1 (L.eraseIdx kk) bs w1 hk1 hin1 (by rw [hlk1.was]; exact How.out) (by rw [Hn.out]; exact h1) (by rw [Hn.out]; exact h2) H.out.2.1 H.out.2.2.1 (H.out.2.2.2.1.chg hc1 fun a ha e => by cases ha; exact e.elim H.out.2.2.2.2.1 H.out.2.2.2.2.2.1) (fun e => (hn1 g e).elim H.out.2.2.2.2.1 fun e => by have := H.out.2.2.2.2.2.2; omega) (Nat.lt_of_lt_of_le H.out.2.2.2.2.2.2 hc1.size)
    rw [Hn.out] at hpt
    have HP := Lib.hid hpt
    have H1 := Lib.hid (And.intro hlk1 (And.intro hu1 (And.intro hc1 hn1)))
    have hsz := hc1.size
    clear hpt hk1 hin1 hlk1 hu1 hc1 hn1
    go_wp2_with fail
    refine HP.out.mono ?_
    rintro e w2 (⟨pl, z, F2, P2, pg, rfl, hk2, hin2, hlk2, hpg2, hu2, hc2, hn2⟩ | ⟨rfl, z, F2, q1, q2, q3, q4, q5⟩)
    · have hsz2 : y.sz = x.sz := H1.out.1.sz
      rw [hsz2] at hpg2 hu2
      have H2 := Lib.hid (show HPut w w2 h m p F x (L.eraseIdx kk) bs (.returned (.tuple #[.int .i64 pl, .int .i64 0])) from .inl ⟨pl, z, F2, P2, pg, rfl, hk2, hin2, H1.out.1.trans hlk2, hpg2, by have := H1.out.2.1; omega,
        Chg.trans H1.out.2.2.1 hc2 fun j hj e => e.elim (fun e => (H1.out.2.2.2 j e).elim .inl fun e => by omega) .inr, fun j hj => (hn2 j hj).elim (H1.out.2.2.2 j) fun e => .inr (by omega)⟩)
      clear hk2 hin2 hlk2 hpg2 hu2 hc2 hn2
      go_wp2_with fail
      go_ret2
      exact H2.out
    · have hsz2 : y.sz = x.sz := H1.out.1.sz
      rw [hsz2] at q5
      have H2 := Lib.hid (show HPut w w2 h m p F x (L.eraseIdx kk) bs (.returned (.tuple #[.int .i64 0, .int .i64 21])) from .inr ⟨rfl, z, F2, q1, H1.out.1.trans q2,
        Chg.trans H1.out.2.2.1 q3 fun j hj e => e.elim (fun e => (H1.out.2.2.2 j e).elim .inl fun e => by omega) .inr, fun j hj => (q4 j hj).elim (H1.out.2.2.2 j) fun e => .inr (by omega), Tight.more H1.out.1 (by have := H1.out.2.1; omega) q5⟩)
      clear q1 q2 q3 q4 q5
      go_wp2_with fail
      go_ret2
      exact H2.out
  · obtain ⟨z, F2, q1, q2, q3, q4, q5⟩ := hf
    have H2 := Lib.hid (show HPut w w1 h m p F x (L.eraseIdx kk) bs (.returned (.tuple #[.int .i64 0, .int .i64 21])) from .inr ⟨rfl, z, F2, q1, q2, q3, q4, Tight.more (.refl x) (by omega) q5⟩)
    clear q1 q2 q3 q4 q5
    go_wp2_with fail
    go_ret2
    exact H2.out
end Go.Proofs.YtjkkoogfaibhiaaGreatDoor

/- What a law's arguments are, opened: a slice of whatever element, record by record. No program stands in this text. -/
namespace Go.Proofs.YtjkkoogfaibhiaaGreatDoor
open Go.ChangeShapes Go.WideShapes Go.ChangeAt Go.RowKit Go.Deep

theorem choose_list {α : Type} (P : Nat → α → Prop) : ∀ (n : Nat), (∀ i, i < n → ∃ x, P i x) → ∃ l : List α, l.length = n ∧ ∀ i x, l[i]? = some x → P i x
  | 0, _ => ⟨[], rfl, fun i x h => by simp at h⟩
  | n + 1, h => by
    obtain ⟨l, hl, hp⟩ := choose_list P n (fun i hi => h i (by omega))
    obtain ⟨x, hx⟩ := h n (by omega)
    refine ⟨l ++ [x], by simp [hl], fun i y hy => ?_⟩
    by_cases hi : i < l.length
    · rw [List.getElem?_append_left hi] at hy
      exact hp i y hy
    · rw [List.getElem?_append_right (by omega)] at hy
      have h0 : i - l.length = 0 := by
        rcases Nat.eq_zero_or_pos (i - l.length) with h0 | h0
        · exact h0
        · rw [List.getElem?_eq_none (by simp; omega)] at hy; cases hy
      rw [h0] at hy
      simp at hy
      subst hy
      obtain rfl : i = n := by omega
      exact hx

theorem wf_bounds {n : Int} (h : (Lit.int .i64 n).wf = true) : -9223372036854775808 ≤ n ∧ n ≤ 9223372036854775807 := by
  simpa [Lit.wf, IntKind.min, IntKind.max, IntKind.signed, IntKind.bits] using h

section
variable {H : Type} {enc : TypeId × Value → H} {P : Program} {w : World} {base : Nat} {spare : Nat → Bool} {held : Bool}

/-- A slice whose elements have s cells each: for each element its cells, and that they read. -/
theorem open_elems {t e : TypeId} {fuel s len cap : Nat} {A : Option Addr} {x : DataW H × List MemPlace} (ht : P.underlying t = some (.slice e)) (hC : P.cellsOf e = s) (hs : 0 < s)
    (h : DataW.trod enc P w base spare held fuel t [.slice A len cap] = some x) :
    len ≤ maxLen ∧ (len = 0 ∨ ∃ b off, A = some ⟨b, off, none⟩ ∧ b < w.heap.size ∧ ∀ i, i < len → ∃ (cs : List Value) (n : Nat) (y : DataW H × List MemPlace), cs.length = s ∧ (∀ j, j < s → w.cell? ⟨b, off + (i * s + j), none⟩ = cs[j]?) ∧ DataW.trod enc P w base spare held n e cs = some y) := by
  rcases open_slice ht h with ⟨hcs, _⟩ | ⟨a, len', cap', m, n, D, Pl, hcs, hb, hl, hm, hmm, hx, hi⟩
  · simp at hcs
    obtain ⟨rfl, rfl, rfl⟩ := hcs
    exact ⟨Nat.zero_le _, .inl rfl⟩
  · simp at hcs
    obtain ⟨rfl, rfl, rfl⟩ := hcs
    refine ⟨Nat.le_trans hl hm, ?_⟩
    rcases Nat.eq_zero_or_pos len with h0 | h0
    · exact .inl h0
    right
    have hlm : len ≤ m := by rw [hmm]; split <;> omega
    obtain ⟨b, off, spot⟩ := a
    have cellAt : ∀ i, i < len → ∃ cs' y, cs'.length = s ∧ (∀ j, j < s → w.cell? (Addr.add ⟨b, off, spot⟩ (i * s + j)) = cs'[j]?) ∧ DataW.trod enc P w base spare held n e cs' = some y := by
      intro i hil
      obtain ⟨cs', hc, ht'⟩ := hi i (by omega)
      rw [hC] at hc
      obtain ⟨_, hcl, hat⟩ := World.cells?_some hc
      refine ⟨cs', _, hcl, fun j hj => ?_, ht'⟩
      rw [← hat j hj]
      congr 1
      unfold Addr.add
      by_cases h1 : i * s = 0 <;> by_cases h2 : j = 0 <;> simp [h1, h2, Nat.add_assoc]
    have hspot : spot = none := by
      obtain ⟨cs', y, hcl, hat, _⟩ := cellAt 0 h0
      have := hat 0 hs
      have h0' : cs'[0]? = some (cs'[0]'(by omega)) := List.getElem?_eq_getElem (by omega)
      rw [h0'] at this
      simpa [Addr.add] using World.cell?_spot this
    subst hspot
    refine ⟨b, off, rfl, ?_, fun i hil => ?_⟩
    · obtain ⟨cs', y, hcl, hat, _⟩ := cellAt 0 h0
      have := hat 0 hs
      have h0' : cs'[0]? = some (cs'[0]'(by omega)) := List.getElem?_eq_getElem (by omega)
      rw [h0'] at this
      simpa [Addr.add] using World.block_lt_of_cell? w _ this
    · obtain ⟨cs', y, hcl, hat, ht'⟩ := cellAt i hil
      refine ⟨cs', n, y, hcl, fun j hj => ?_, ht'⟩
      have := hat j hj
      rw [Addr.add_lit] at this
      exact this
end

end Go.Proofs.YtjkkoogfaibhiaaGreatDoor

/- A law's argument that is a slice of int. No program stands in this text. -/
namespace Go.Proofs.YtjkkoogfaibhiaaGreatDoor
open Go.ChangeShapes Go.WideShapes Go.ChangeAt Go.RowKit Go.Deep

theorem ints_opened {H : Type} {enc : TypeId × Value → H} {P : Program} {w : World} {base : Nat} {spare : Nat → Bool} {held : Bool} {t e : TypeId} {fuel len cap : Nat} {A : Option Addr} {x : DataW H × List MemPlace}
    (ht : P.underlying t = some (.slice e)) (he : P.underlying e = some (.int .i64)) (hC : P.cellsOf e = 1) (h : DataW.trod enc P w base spare held fuel t [.slice A len cap] = some x) :
    ∃ l : List Int, len = l.length ∧ len ≤ maxLen ∧ Sl w 1 A l.length (l.map (Value.int .i64)) ∧ ∀ n ∈ l, -9223372036854775808 ≤ n ∧ n ≤ 9223372036854775807 := by
  obtain ⟨hm, hc⟩ := open_elems ht (s := 1) hC (by omega) h
  rcases hc with rfl | ⟨b, off, rfl, hb, hi⟩
  · exact ⟨[], rfl, hm, Sl.nil _ _ _, fun r hr => by cases hr⟩
  · obtain ⟨l, hl, hp⟩ := choose_list (fun i (r : Int) => (-9223372036854775808 ≤ r ∧ r ≤ 9223372036854775807) ∧ w.cell? ⟨b, off + i, none⟩ = some (.int .i64 r)) len (fun i hil => by
      obtain ⟨cs, n, y, hcl, hat, hT⟩ := hi i hil
      match cs, hcl with
      | [c], _ =>
        obtain ⟨r, e1, -, w1⟩ := DataW.trod_int he hT
        simp at e1
        subst e1
        have := hat 0 (by omega)
        exact ⟨r, wf_bounds w1, by simpa using this⟩)
    refine ⟨l, hl.symm, hm, ⟨by simp, fun _ => ⟨b, off, rfl, hb, fun j u hu => ?_⟩⟩, fun r hr => ?_⟩
    · rw [List.getElem?_map] at hu
      cases hj : l[j]? with
      | none => rw [hj] at hu; cases hu
      | some r => rw [hj] at hu; simp at hu; subst hu; exact (hp j r hj).2
    · obtain ⟨i, hi, rfl⟩ := List.getElem_of_mem hr
      exact (hp i _ (List.getElem?_eq_getElem hi)).1

end Go.Proofs.YtjkkoogfaibhiaaGreatDoor

/- The document's answer for the heap: Find, Without. -/
namespace Go.Proofs.YtjkkoogfaibhiaaGreatDoor
open Go.RowKit Go.Maps

structure Hrw where
  place : Int
  text : ByteArray
  deriving DecidableEq
def Hrw.vals (x : Hrw) : List Value := [.int .i64 x.place, .string x.text]
def Hrw.zero : Hrw := ⟨0, ⟨#[]⟩⟩
theorem Hrw.vals_len (l : List Hrw) : (l.flatMap Hrw.vals).length = l.length * 2 := by
  induction l with
  | nil => rfl
  | cons x l ih => rw [List.flatMap_cons, List.length_append, ih, List.length_cons]; simp only [Hrw.vals, List.length_cons, List.length_nil]; omega
theorem Hrw.vals_at (l : List Hrw) : ∀ (k : Nat) (x : Hrw), l[k]? = some x → ∀ j, j < 2 → (l.flatMap Hrw.vals)[k * 2 + j]? = x.vals[j]? := by
  induction l with
  | nil => intro k x h; simp at h
  | cons y l ih =>
    intro k x h j hj
    cases k with
    | zero =>
      simp only [List.getElem?_cons_zero, Option.some.injEq] at h
      subst h
      rw [List.flatMap_cons, Nat.zero_mul, Nat.zero_add, List.getElem?_append_left (by simp [Hrw.vals]; omega)]
    | succ k =>
      simp only [List.getElem?_cons_succ] at h
      rw [List.flatMap_cons, List.getElem?_append_right (by simp [Hrw.vals]; omega)]
      rw [← ih k x h j hj]
      congr 1
      simp [Hrw.vals]
      omega
theorem Hrw.take_vals (l : List Hrw) : ∀ k, (l.take k).flatMap Hrw.vals = (l.flatMap Hrw.vals).take (k * 2) := by
  induction l with
  | nil => intro k; simp
  | cons x l ih =>
    intro k
    cases k with
    | zero => simp
    | succ k =>
      rw [List.take_succ_cons, List.flatMap_cons, List.flatMap_cons, ih k]
      have e : (k + 1) * 2 = x.vals.length + k * 2 := by simp [Hrw.vals]; omega
      rw [e, List.take_length_add_append]
theorem Hrw.drop_vals (l : List Hrw) : ∀ k, (l.drop k).flatMap Hrw.vals = (l.flatMap Hrw.vals).drop (k * 2) := by
  induction l with
  | nil => intro k; simp
  | cons x l ih =>
    intro k
    cases k with
    | zero => simp
    | succ k =>
      rw [List.drop_succ_cons, List.flatMap_cons, ih k]
      have e : (k + 1) * 2 = x.vals.length + k * 2 := by simp [Hrw.vals]; omega
      rw [e, List.drop_length_add_append]
theorem Hrw.erase_vals (l : List Hrw) (k : Nat) : (l.eraseIdx k).flatMap Hrw.vals = (l.flatMap Hrw.vals).take (k * 2) ++ (l.flatMap Hrw.vals).drop ((k + 1) * 2) := by
  rw [List.eraseIdx_eq_take_drop_succ, List.flatMap_append, Hrw.take_vals, Hrw.drop_vals]
theorem Hrw.one_cell (l : List Hrw) : ∀ u ∈ l.flatMap Hrw.vals, u.oneCell' = true := by
  intro u hu
  obtain ⟨x, _, hx⟩ := List.mem_flatMap.1 hu
  simp only [Hrw.vals, List.mem_cons, List.not_mem_nil, or_false] at hx
  rcases hx with rfl | rfl <;> rfl
theorem Sl.atHrw {w : World} {A : Option Addr} {l : List Hrw} (h : Sl w 2 A l.length (l.flatMap Hrw.vals)) {k : Nat} {x : Hrw} (hx : l[k]? = some x) :
    ∃ b off, A = some ⟨b, off, none⟩ ∧ b < w.heap.size ∧ w.cell? ⟨b, off + k * 2, none⟩ = some (.int .i64 x.place) ∧ w.cell? ⟨b, off + k * 2 + 1, none⟩ = some (.string x.text) := by
  have hk : k < l.length := (List.getElem?_eq_some_iff.1 hx).1
  obtain ⟨b, off, hA, hb, hc⟩ := h.2 (by omega)
  have hv := Hrw.vals_at l k x hx
  refine ⟨b, off, hA, hb, ?_, ?_⟩
  · have := hc (k * 2 + 0) (.int .i64 x.place) ((hv 0 (by omega)).trans rfl)
    simpa [Nat.add_assoc] using this
  · have := hc (k * 2 + 1) (.string x.text) ((hv 1 (by omega)).trans rfl)
    simpa [Nat.add_assoc] using this
theorem Hrw.sl_mk {w : World} {b off : Nat} {l : List Hrw} (hb : b < w.heap.size) (h : ∀ i r, l[i]? = some r → ∀ j u, r.vals[j]? = some u → w.cell? ⟨b, off + (i * 2 + j), none⟩ = some u) : Sl w 2 (some ⟨b, off, none⟩) l.length (l.flatMap Hrw.vals) := by
  refine ⟨Hrw.vals_len l, fun _ => ⟨b, off, rfl, hb, fun j u hu => ?_⟩⟩
  have hj : j < l.length * 2 := by
    rw [← Hrw.vals_len l]; exact (List.getElem?_eq_some_iff.1 hu).1
  have hi : j / 2 < l.length := by omega
  have hr : l[j / 2]? = some l[j / 2] := List.getElem?_eq_getElem hi
  have he : j = j / 2 * 2 + j % 2 := by omega
  have hv := Hrw.vals_at l (j / 2) _ hr (j % 2) (by omega)
  rw [← he, hu] at hv
  have := h (j / 2) _ hr (j % 2) u hv.symm
  rwa [← he] at this
def Hrw.ok (x : Hrw) : Prop := -9223372036854775808 ≤ x.place ∧ x.place ≤ 9223372036854775807 ∧ x.text.size ≤ maxLen
theorem Hrw.set_place (l : List Hrw) (v : Int) : ∀ (k : Nat) (x : Hrw), l[k]? = some x → (l.flatMap Hrw.vals).set (k * 2) (.int .i64 v) = (l.set k { x with place := v }).flatMap Hrw.vals := by
  induction l with
  | nil => intro k x h; simp at h
  | cons y l ih =>
    intro k x h
    cases k with
    | zero =>
      simp only [List.getElem?_cons_zero, Option.some.injEq] at h
      subst h
      simp [Hrw.vals]
    | succ k =>
      simp only [List.getElem?_cons_succ] at h
      rw [List.flatMap_cons, List.set_cons_succ, List.flatMap_cons, ← ih k x h]
      have e : (k + 1) * 2 = (k * 2) + 2 := by omega
      rw [e]
      simp [Hrw.vals]
theorem Hrw.set_text (l : List Hrw) (v : ByteArray) : ∀ (k : Nat) (x : Hrw), l[k]? = some x → (l.flatMap Hrw.vals).set (k * 2 + 1) (.string v) = (l.set k { x with text := v }).flatMap Hrw.vals := by
  induction l with
  | nil => intro k x h; simp at h
  | cons y l ih =>
    intro k x h
    cases k with
    | zero =>
      simp only [List.getElem?_cons_zero, Option.some.injEq] at h
      subst h
      simp [Hrw.vals]
    | succ k =>
      simp only [List.getElem?_cons_succ] at h
      rw [List.flatMap_cons, List.set_cons_succ, List.flatMap_cons, ← ih k x h]
      have e : (k + 1) * 2 + 1 = (k * 2 + 1) + 2 := by omega
      rw [e]
      simp [Hrw.vals]
/-- The first place at which something is so; -1: nowhere. -/
def fidxR {α : Type} (p : α → Bool) (l : List α) : Int := match l.findIdx? p with | some i => i | none => -1
theorem fidxR_hit {α : Type} {p : α → Bool} {l : List α} {k : Nat} {x : α} (hno : ∀ j y, j < k → l[j]? = some y → p y = false) (hx : l[k]? = some x) (hp : p x = true) : fidxR p l = k := by
  have : l.findIdx? p = some k := by
    obtain ⟨hk, he⟩ := List.getElem?_eq_some_iff.1 hx
    rw [List.findIdx?_eq_some_iff_getElem]
    exact ⟨hk, by rw [he]; exact hp, fun j hj => by have := hno j _ hj (List.getElem?_eq_getElem (by omega)); simp [this]⟩
  simp [fidxR, this]
theorem fidxR_none {α : Type} {p : α → Bool} {l : List α} (hno : ∀ j y, j < l.length → l[j]? = some y → p y = false) : fidxR p l = -1 := by
  have : l.findIdx? p = none := by
    rw [List.findIdx?_eq_none_iff]
    intro x hx
    obtain ⟨j, hj⟩ := List.mem_iff_getElem?.1 hx
    exact hno j x (List.getElem?_eq_some_iff.1 hj).1 hj
  simp [fidxR, this]
/-- Where a number is in a list. -/
def fnR (l : List Hrw) (n : Int) : Int := fidxR (fun x : Hrw => x.place == n) l

theorem xhrInfo : (Tryz.prog.info? 53).map (fun i => (i.zero, i.size, i.bytes)) = some (some (.agg #[.int .i64 0, .string ⟨#[]⟩]), 2, 24) := by kernel_rfl
theorem Hrw.snoc {l : List Hrw} (x : Hrw) : l.flatMap Hrw.vals ++ [.int .i64 x.place, .string x.text] = (l ++ [x]).flatMap Hrw.vals := by simp [Hrw.vals]

set_option maxHeartbeats 400000 in
theorem xhfind_any (n : Int) (l : List Hrw) (A : Option Addr) (c : Nat) (w : World) (hs : Sl w 2 A l.length (l.flatMap Hrw.vals)) (hl : l.length ≤ 1000000) :
    Calls Tryz.prog 41 #[.slice A l.length c, .int .i64 n] w fun e w' => e = .returned (.int .i64 (fnR l n)) ∧ w = w' := by
  have Hs := Lib.hid hs
  clear hs
  go_enter Tryz.func41, Tryz.ntmps41
  go_wp2
  go_loop [5] (fun i => ∃ k : Nat, k ≤ l.length ∧ i = .int .i64 k ∧ (∀ j x, j < k → l[j]? = some x → (x.place == n) = false)) (fun i => l.length - (intOf i).toNat)
  case atStart => exact ⟨0, Nat.zero_le _, rfl, fun j x h => absurd h (by omega)⟩
  case round =>
    obtain ⟨k, hk, rfl, hno⟩ := hrel
    have Hn := Lib.hid hno
    clear hno
    by_cases hlt : k < l.length
    · obtain ⟨x, hx⟩ : ∃ x, l[k]? = some x := ⟨_, List.getElem?_eq_getElem hlt⟩
      obtain ⟨b, off, rfl, hb, d0, d1⟩ := Hs.out.atHrw hx
      have Hx := Lib.hid hx
      clear hx
      rcases hq : (x.place == n) with _ | _
      · go_wp2
        refine ⟨⟨k + 1, by omega, by simp, fun j y hj hy => ?_⟩, by simp [intOf]; omega⟩
        by_cases hjk : j = k
        · subst hjk
          have := Hx.out.symm.trans hy
          simp only [Option.some.injEq] at this
          rw [← this]; exact hq
        · exact Hn.out j y (by omega) hy
      · have Hq := Lib.hid hq
        go_wp2
        go_ret
        exact ⟨by unfold fnR; rw [fidxR_hit (p := fun r : Hrw => r.place == n) Hn.out Hx.out Hq.out]; rfl, rfl⟩
    · obtain rfl : k = l.length := by omega
      go_wp2
      go_ret
      exact ⟨by unfold fnR; rw [fidxR_none (p := fun r : Hrw => r.place == n) Hn.out]; rfl, rfl⟩

/-- All but one, of the first ones. -/
def wthR (l : List Hrw) (at_ k : Nat) : List Hrw := if at_ < k then (l.take k).eraseIdx at_ else l.take k
theorem wthR_succ {l : List Hrw} {at_ k : Nat} {x : Hrw} (hx : l[k]? = some x) : wthR l at_ (k + 1) = wthR l at_ k ++ if k = at_ then [] else [x] := by
  have hk := (List.getElem?_eq_some_iff.1 hx).1
  have e : l.take (k + 1) = l.take k ++ [x] := by rw [List.take_add_one, hx]; rfl
  have hlen : (l.take k).length = k := by rw [List.length_take]; omega
  unfold wthR
  rw [e]
  by_cases h1 : at_ < k
  · rw [if_pos (by omega), if_pos h1, if_neg (by omega), List.eraseIdx_append_of_lt_length (by omega)]
  · by_cases h2 : k = at_
    · subst h2
      rw [if_pos (by omega), if_neg h1, if_pos rfl, List.eraseIdx_append_of_length_le (by omega), hlen, Nat.sub_self]
      rfl
    · rw [if_neg (by omega), if_neg h1, if_neg h2]
theorem wthR_end {l : List Hrw} {at_ : Nat} (h : at_ < l.length) : wthR l at_ l.length = l.eraseIdx at_ := by
  unfold wthR; rw [if_pos h, List.take_length]
theorem wthR_len (l : List Hrw) (at_ k : Nat) : (wthR l at_ k).length ≤ k := by
  unfold wthR
  split
  · have := List.length_eraseIdx_le (l.take k) at_
    have := List.length_take_le k l
    omega
  · exact List.length_take_le k l

set_option maxRecDepth 100000 in
set_option maxHeartbeats 800000 in
theorem xhwithout_any (at_ : Nat) (l : List Hrw) (A : Option Addr) (c : Nat) (w : World) (hs : Sl w 2 A l.length (l.flatMap Hrw.vals)) (hl : l.length ≤ 1000000) (hat : at_ < l.length) :
    Calls Tryz.prog 22 #[.slice A l.length c, .int .i64 at_] w fun e w' => OwnOut w w' 53 2 (l.eraseIdx at_).length ((l.eraseIdx at_).flatMap Hrw.vals) (fun A c => .slice A (l.eraseIdx at_).length c) e := by
  obtain ⟨i0, hi0, hz0, hz1, hz2⟩ := info_parts xhrInfo
  have Hs := Lib.hid hs
  clear hs
  go_enter Tryz.func22, Tryz.ntmps22
  go_wp2
  go_loopw [5, 6] (fun v i wr => ∃ (k : Nat) (xs : List Hrw) (A1 : Option Addr) (c1 : Nat), k ≤ l.length ∧ i = .int .i64 k ∧ v = .slice A1 xs.length c1 ∧ xs = wthR l at_ k ∧ wr.ownsRow w.heap.size 53 2 (.slice A1 xs.length c1) xs.length (xs.flatMap Hrw.vals) ∧ Grew w wr) (fun _ i _ => l.length - (intOf i).toNat)
  case atStart => exact ⟨0, [], none, 0, Nat.zero_le _, rfl, rfl, by simp [wthR], World.ownsRow_nil _ _ _ _, Chg.refl _ _⟩
  case round =>
    obtain ⟨k, xs, A1, c1, hk, rfl, rfl, hxs, hown, hg⟩ := hrel
    have Hxs := Lib.hid hxs
    have hxl : xs.length ≤ k := hxs ▸ wthR_len l at_ k
    have Howr := Lib.hid hown
    have hsz := hg.size
    have Hgwr := Lib.hid hg
    clear hxs hown hg
    by_cases hlt : k < l.length
    · obtain ⟨y, hy⟩ : ∃ y, l[k]? = some y := ⟨_, List.getElem?_eq_getElem hlt⟩
      obtain ⟨b, off, rfl, hb, d0, d1⟩ := (Hs.out.grew Hgwr.out).atHrw hy
      have Hst := Lib.hid (wthR_succ (at_ := at_) hy)
      clear hy
      by_cases hq : k = at_
      · have q1 : ((k : Int) != (at_ : Int)) = false := by simp [hq]
        have Hq := Lib.hid hq
        clear hq
        go_wp2
        go_roundw
        case rel => exact ⟨k + 1, xs, A1, c1, by omega, by go_num, rfl, by rw [Hst.out, if_pos Hq.out, Hxs.out]; simp, Howr.out, Hgwr.out⟩
        case measure => simp [intOf]; omega
      · have q1 : ((k : Int) != (at_ : Int)) = true := by simpa using fun e => hq (Int.ofNat.inj e)
        have Hq := Lib.hid hq
        clear hq
        go_wp2_with (at_builtin; refine wpList_append_lies _ rfl _ _ _ rfl w.heap.size 53 i0 _ 2 24 Tryz.underlying43 hi0 hz0 hz1 hz2 rfl (by omega) (.slice A1 (xs).length c1) (xs).length ((xs).flatMap Hrw.vals) rfl (Howr.out.alloc _) ⟨wr.heap.size, 0, none⟩ 1 1 [.int .i64 y.place, .string y.text] rfl rfl (World.news_of_block (cs := #[.int .i64 y.place, .string y.text]) (t := 53) (fr := (0, 0)) (heap_alloc_new wr _)) (by simp [Value.oneCell']) (by omega) (by (try simp only [List.length_append, List.length_cons, List.length_nil]); simp only [maxLen]; omega) (by (try simp only [List.length_append, List.length_cons, List.length_nil]); omega) (by simp; omega) (wr.heap.size + 1) (by simp) ?_; intro gbW2 capW2 W2 hown1 hgrow hat hlt1; have HO1 := Lib.hid hown1; have HG1 := Lib.hid (And.intro hgrow hat); clear hown1 hgrow hat)
        have HgW2 := Lib.hid (show Grew w W2 from (Hgwr.out.alloc _).grown HG1.out.1 (fun j hj hlt => by have := (Howr.out.lt j hj).1; omega))
        have HoW2 := Lib.hid (show W2.ownsRow w.heap.size 53 2 (.slice (some ⟨gbW2, 0, none⟩) (xs ++ [y]).length capW2) (xs ++ [y]).length ((xs ++ [y]).flatMap Hrw.vals) from (by have := HO1.out; rw [Hrw.snoc] at this; simpa using this))
        clear HO1 HG1
        exact ⟨⟨k + 1, xs ++ [y], some ⟨gbW2, 0, none⟩, capW2, by omega, by simp, by simp, by rw [Hst.out, if_neg Hq.out, Hxs.out], HoW2.out, HgW2.out⟩, by simp [intOf]; omega⟩
    · obtain rfl : k = l.length := by omega
      have hxe : xs = l.eraseIdx at_ := by rw [Hxs.out, wthR_end hat]
      clear Hxs
      subst hxe
      go_wp2
      go_ret
      exact OwnOut.mk A1 c1 rfl (own_base Howr.out (by omega)) Hgwr.out

end Go.Proofs.YtjkkoogfaibhiaaGreatDoor

/- A law's argument that is a slice of bytes. No program stands in this text. -/
namespace Go.Proofs.YtjkkoogfaibhiaaGreatDoor
open Go.ChangeShapes Go.WideShapes Go.ChangeAt Go.RowKit Go.Deep

theorem wf_byte {n : Int} (h : (Lit.int .u8 n).wf = true) : 0 ≤ n ∧ n ≤ 255 := by
  simpa [Lit.wf, IntKind.min, IntKind.max, IntKind.signed, IntKind.bits] using h

theorem bytes_opened {H : Type} {enc : TypeId × Value → H} {P : Program} {w : World} {base : Nat} {spare : Nat → Bool} {held : Bool} {t e : TypeId} {fuel len cap : Nat} {A : Option Addr} {x : DataW H × List MemPlace}
    (ht : P.underlying t = some (.slice e)) (he : P.underlying e = some (.int .u8)) (hC : P.cellsOf e = 1) (h : DataW.trod enc P w base spare held fuel t [.slice A len cap] = some x) :
    ∃ l : List Int, len = l.length ∧ len ≤ maxLen ∧ Sl w 1 A l.length (l.map (Value.int .u8)) ∧ ∀ n ∈ l, 0 ≤ n ∧ n ≤ 255 := by
  obtain ⟨hm, hc⟩ := open_elems ht (s := 1) hC (by omega) h
  rcases hc with rfl | ⟨b, off, rfl, hb, hi⟩
  · exact ⟨[], rfl, hm, Sl.nil _ _ _, fun r hr => by cases hr⟩
  · obtain ⟨l, hl, hp⟩ := choose_list (fun i (r : Int) => (0 ≤ r ∧ r ≤ 255) ∧ w.cell? ⟨b, off + i, none⟩ = some (.int .u8 r)) len (fun i hil => by
      obtain ⟨cs, n, y, hcl, hat, hT⟩ := hi i hil
      match cs, hcl with
      | [c], _ =>
        obtain ⟨r, e1, -, w1⟩ := DataW.trod_int he hT
        simp at e1
        subst e1
        have := hat 0 (by omega)
        exact ⟨r, wf_byte w1, by simpa using this⟩)
    refine ⟨l, hl.symm, hm, ⟨by simp, fun _ => ⟨b, off, rfl, hb, fun j u hu => ?_⟩⟩, fun r hr => ?_⟩
    · rw [List.getElem?_map] at hu
      cases hj : l[j]? with
      | none => rw [hj] at hu; cases hu
      | some r => rw [hj] at hu; simp at hu; subst hu; exact (hp j r hj).2
    · obtain ⟨i, hi, rfl⟩ := List.getElem_of_mem hr
      exact (hp i _ (List.getElem?_eq_getElem hi)).1

end Go.Proofs.YtjkkoogfaibhiaaGreatDoor

/- A law's argument that is a slice of the heap's operations. -/
namespace Go.Proofs.YtjkkoogfaibhiaaGreatDoor
open Go.ChangeShapes Go.WideShapes Go.ChangeAt Go.RowKit Go.Deep

/-- A slice of bytes, as it is handed. -/
structure SB where
  a : Option Addr
  c : Nat
  l : List Int
def SB.val (x : SB) : Value := .slice x.a x.l.length x.c
def SB.ok (w : World) (x : SB) : Prop := Sl w 1 x.a x.l.length (bv x.l) ∧ x.l.length ≤ x.c ∧ x.c ≤ maxLen ∧ ∀ q ∈ x.l, 0 ≤ q ∧ q ≤ 255
theorem SB.ok.grew {w w' : World} {x : SB} (h : x.ok w) (hg : Grew w w') : x.ok w' := ⟨h.1.grew hg, h.2⟩
section
variable {H : Type} {enc : TypeId × Value → H} {P : Program} {w : World} {base : Nat} {spare : Nat → Bool} {held : Bool}
theorem SB.of_trod {t e : TypeId} {fuel : Nat} {v : Value} {x : DataW H × List MemPlace} (ht : P.underlying t = some (.slice e)) (he : P.underlying e = some (.int .u8)) (hC : P.cellsOf e = 1) (h : DataW.trod enc P w base spare held fuel t [v] = some x) :
    ∃ s : SB, v = s.val ∧ s.ok w := by
  have h1 := h
  rcases open_slice ht h with ⟨hcs, _⟩ | ⟨a, len, cap, m, n, D, Pl, hcs, hb, hl, hm, _⟩
  · simp at hcs
    subst hcs
    exact ⟨⟨none, 0, []⟩, rfl, Sl.nil _ _ _, Nat.le_refl _, Nat.zero_le _, fun q hq => by simp at hq⟩
  · simp at hcs
    subst hcs
    obtain ⟨l, rfl, -, h2, h3⟩ := bytes_opened ht he hC h1
    exact ⟨⟨some a, cap, l⟩, rfl, h2, hl, hm, h3⟩
end
/-- A call of the heap's laws. -/
structure Hop where
  kind : Int
  at_ : Int
  data : SB
def Hop.vals (x : Hop) : List Value := [.int .i64 x.kind, .int .i64 x.at_, x.data.val]
def Hop.ok (w : World) (x : Hop) : Prop := (-9223372036854775808 ≤ x.kind ∧ x.kind ≤ 9223372036854775807) ∧ (-9223372036854775808 ≤ x.at_ ∧ x.at_ ≤ 9223372036854775807) ∧ x.data.ok w
theorem Hop.vals_len (l : List Hop) : (l.flatMap Hop.vals).length = l.length * 3 := by
  induction l with
  | nil => rfl
  | cons x l ih => rw [List.flatMap_cons, List.length_append, ih, List.length_cons]; simp only [Hop.vals, List.length_cons, List.length_nil]; omega
theorem Hop.vals_at (l : List Hop) : ∀ (k : Nat) (x : Hop), l[k]? = some x → ∀ j, j < 3 → (l.flatMap Hop.vals)[k * 3 + j]? = x.vals[j]? := by
  induction l with
  | nil => intro k x h; simp at h
  | cons y l ih =>
    intro k x h j hj
    cases k with
    | zero =>
      simp only [List.getElem?_cons_zero, Option.some.injEq] at h
      subst h
      rw [List.flatMap_cons, Nat.zero_mul, Nat.zero_add, List.getElem?_append_left (by simp [Hop.vals]; omega)]
    | succ k =>
      simp only [List.getElem?_cons_succ] at h
      rw [List.flatMap_cons, List.getElem?_append_right (by simp [Hop.vals]; omega)]
      rw [← ih k x h j hj]
      congr 1
      simp [Hop.vals]
      omega
theorem Sl.atHop {w : World} {A : Option Addr} {l : List Hop} (h : Sl w 3 A l.length (l.flatMap Hop.vals)) {k : Nat} {x : Hop} (hx : l[k]? = some x) :
    ∃ b off, A = some ⟨b, off, none⟩ ∧ b < w.heap.size ∧ w.cell? ⟨b, off + k * 3, none⟩ = some (.int .i64 x.kind) ∧ w.cell? ⟨b, off + k * 3 + 1, none⟩ = some (.int .i64 x.at_) ∧ w.cell? ⟨b, off + k * 3 + 2, none⟩ = some x.data.val := by
  have hk : k < l.length := (List.getElem?_eq_some_iff.1 hx).1
  obtain ⟨b, off, hA, hb, hc⟩ := h.2 (by omega)
  have hv := Hop.vals_at l k x hx
  refine ⟨b, off, hA, hb, ?_, ?_, ?_⟩
  · have := hc (k * 3 + 0) _ ((hv 0 (by omega)).trans rfl); simpa [Nat.add_assoc] using this
  · have := hc (k * 3 + 1) _ ((hv 1 (by omega)).trans rfl); simpa [Nat.add_assoc] using this
  · have := hc (k * 3 + 2) _ ((hv 2 (by omega)).trans rfl); simpa [Nat.add_assoc] using this
set_option maxRecDepth 100000 in
theorem Hop.of_trod {H : Type} {enc : TypeId × Value → H} {w : World} {base n : Nat} {spare : Nat → Bool} {held : Bool} {cs : List Value} {y : DataW H × List MemPlace} (hl : cs.length = 3) (h : DataW.trod enc Tryz.prog w base spare held n 45 cs = some y) : ∃ r : Hop, cs = r.vals ∧ r.ok w := by
  obtain ⟨xs, n, _, _, _, hlen, hf⟩ := DataW.trod_struct Tryz.underlying45 h
  match cs, hl with
  | [c0, c1, c2], _ =>
    match xs, hlen with
    | [y0, y1, y2], _ =>
      have f0 : DataW.trod enc Tryz.prog w base spare held n 3 (([c0, c1, c2].drop 0).take (Tryz.prog.cellsOf 3)) = some y0 := hf 0 _ rfl
      rw [show Tryz.prog.cellsOf 3 = 1 from by kernel_rfl] at f0
      have f1 : DataW.trod enc Tryz.prog w base spare held n 3 (([c0, c1, c2].drop 1).take (Tryz.prog.cellsOf 3)) = some y1 := hf 1 _ rfl
      rw [show Tryz.prog.cellsOf 3 = 1 from by kernel_rfl] at f1
      have f2 : DataW.trod enc Tryz.prog w base spare held n 34 (([c0, c1, c2].drop 2).take (Tryz.prog.cellsOf 34)) = some y2 := hf 2 _ rfl
      rw [show Tryz.prog.cellsOf 34 = 1 from by kernel_rfl] at f2
      obtain ⟨n0, e0, -, w0⟩ := DataW.trod_int Tryz.underlying3 f0
      simp at e0
      subst e0
      obtain ⟨n1, e1, -, w1⟩ := DataW.trod_int Tryz.underlying3 f1
      simp at e1
      subst e1
      obtain ⟨s, rfl, hok⟩ := SB.of_trod Tryz.underlying34 Tryz.underlying5 (by kernel_rfl) (show DataW.trod enc Tryz.prog w base spare held n 34 [c2] = some y2 from f2)
      exact ⟨⟨n0, n1, s⟩, rfl, wf_bounds w0, wf_bounds w1, hok⟩
theorem Hop.opened {H : Type} {enc : TypeId × Value → H} {w : World} {base fuel len cap : Nat} {spare : Nat → Bool} {held : Bool} {A : Option Addr} {x : DataW H × List MemPlace} (h : DataW.trod enc Tryz.prog w base spare held fuel 41 [.slice A len cap] = some x) :
    ∃ l : List Hop, len = l.length ∧ len ≤ maxLen ∧ Sl w 3 A l.length (l.flatMap Hop.vals) ∧ ∀ r ∈ l, r.ok w := by
  obtain ⟨hm, hc⟩ := open_elems Tryz.underlying41 (s := 3) (by kernel_rfl) (by omega) h
  rcases hc with rfl | ⟨b, off, rfl, hb, hi⟩
  · exact ⟨[], rfl, hm, Sl.nil _ _ _, fun r hr => by cases hr⟩
  · obtain ⟨l, hl, hp⟩ := choose_list (fun i (r : Hop) => r.ok w ∧ ∀ j u, r.vals[j]? = some u → w.cell? ⟨b, off + (i * 3 + j), none⟩ = some u) len (fun i hil => by
      obtain ⟨cs, n, y, hcl, hat, hT⟩ := hi i hil
      obtain ⟨r, rfl, hok⟩ := Hop.of_trod hcl hT
      refine ⟨r, hok, fun j u hu => ?_⟩
      have hj : j < 3 := by rw [← hcl]; exact (List.getElem?_eq_some_iff.1 hu).1
      rw [hat j hj, hu])
    refine ⟨l, hl.symm, hm, ⟨Hop.vals_len l, fun _ => ⟨b, off, rfl, hb, fun j u hu => ?_⟩⟩, fun r hr => ?_⟩
    · have hj : j < l.length * 3 := by rw [← Hop.vals_len l]; exact (List.getElem?_eq_some_iff.1 hu).1
      have hi' : j / 3 < l.length := by omega
      have hr : l[j / 3]? = some l[j / 3] := List.getElem?_eq_getElem hi'
      have he : j = j / 3 * 3 + j % 3 := by omega
      have hv := Hop.vals_at l (j / 3) _ hr (j % 3) (by omega)
      rw [← he, hu] at hv
      have := (hp (j / 3) _ hr).2 (j % 3) u hv.symm
      rwa [← he] at this
    · obtain ⟨i, hi, rfl⟩ := List.getElem_of_mem hr
      exact (hp i _ (List.getElem?_eq_getElem hi)).1

end Go.Proofs.YtjkkoogfaibhiaaGreatDoor

/- The heap's laws: small. -/
namespace Go.Proofs.YtjkkoogfaibhiaaGreatDoor
open Go.RowKit Go.Maps

def smallB (l : List Hop) (most : Int) : Bool := l.all (fun o => decide (o.data.l.length ≤ 200)) && decide ((l.length : Int) ≤ most)
set_option maxRecDepth 100000 in
set_option maxHeartbeats 1600000 in
theorem small_any (l : List Hop) (A : Option Addr) (c : Nat) (most : Int) (w : World) (hs : Sl w 3 A l.length (l.flatMap Hop.vals)) (ok : ∀ r ∈ l, r.ok w) (hl : l.length ≤ 9223372036854775807) :
    Calls Tryz.prog 16 #[.slice A l.length c, .int .i64 most] w fun e w' => e = .returned (.bool (smallB l most)) ∧ Grew w w' := by
  have H := Lib.hid (And.intro hs ok)
  obtain ⟨b, hb⟩ : ∃ b, smallB l most = b := ⟨_, rfl⟩
  have HB := Lib.hid hb
  rw [hb]
  clear hs ok hb
  go_enter Tryz.func16, Tryz.ntmps16
  go_wp2_with fail
  go_loopg [9] l.length (fun q i wr => ∃ k, q = l.length - k ∧ k ≤ l.length ∧ i = .int .i64 k ∧ Grew w wr ∧ ∀ j o, j < k → l[j]? = some o → o.data.l.length ≤ 200)
  case atStart => exact ⟨0, rfl, Nat.zero_le _, rfl, Chg.refl _ _, fun j o h => absurd h (by omega)⟩
  case round =>
    obtain ⟨k, rfl, hk, rfl, hg, hall⟩ := hrel
    have HG := Lib.hid (And.intro hg hall)
    clear hg hall
    by_cases hlt : k < l.length
    · obtain ⟨o, ho⟩ : ∃ o, l[k]? = some o := ⟨_, List.getElem?_eq_getElem hlt⟩
      obtain ⟨g, off, rfl, hgl, d0, d1, d2⟩ := (H.out.1.grew HG.out.1).atHop ho
      have hok := (H.out.2 o (List.mem_of_getElem? ho)).2.2
      obtain ⟨kd, at_, A2, c2, t⟩ := o
      have hgr : ∀ o, Grew wr (wr.alloc o) := fun o => (Chg.refl _ _).alloc o
      have hml := hok.2.1
      have hmx := hok.2.2.1
      simp only [SB.val] at d2
      simp only [maxLen] at hml hmx
      obtain ⟨n, hn⟩ : ∃ n, t.length = n := ⟨_, rfl⟩
      rw [hn] at d2 hml
      have Ho := Lib.hid (And.intro ho hn)
      have hn9 : n ≤ 9223372036854775807 := by omega
      clear ho hok hn hml hmx
      by_cases h2 : n ≤ 200
      · have t1 : decide ((200 : Int) < (n : Int)) = false := decide_eq_false (by omega)
        go_wp2_with fail
        go_roundg (l.length - (k + 1))
        case measure => omega
        case rel =>
          refine ⟨k + 1, rfl, by omega, by simp, Grew.trans HG.out.1 (hgr _), fun j o hj hjo => ?_⟩
          by_cases e : j = k
          · subst e
            rw [Ho.out.1] at hjo
            cases hjo
            show t.length ≤ 200
            rw [Ho.out.2]
            exact h2
          · exact HG.out.2 j o (by omega) hjo
      · have t1 : decide ((200 : Int) < (n : Int)) = true := decide_eq_true (by omega)
        have hbv : b = false := by
          rw [← HB.out]
          unfold smallB
          rw [Bool.and_eq_false_iff]
          left
          rw [List.all_eq_false]
          refine ⟨_, List.mem_of_getElem? Ho.out.1, ?_⟩
          have := Ho.out.2
          simp only [decide_eq_true_eq]
          omega
        subst hbv
        go_wp2_with fail
        go_ret
        exact ⟨rfl, Grew.trans HG.out.1 (hgr _)⟩
    · obtain rfl : k = l.length := by omega
      have hbv : b = decide ((l.length : Int) ≤ most) := by
        rw [← HB.out]
        unfold smallB
        rw [List.all_eq_true.2 fun o ho => by
          obtain ⟨j, hj⟩ := List.mem_iff_getElem?.1 ho
          exact decide_eq_true (HG.out.2 j o (List.getElem?_eq_some_iff.1 hj).1 hj)]
        simp
      subst hbv
      go_wp2_with fail
      go_ret
      exact ⟨rfl, HG.out.1⟩
end Go.Proofs.YtjkkoogfaibhiaaGreatDoor

/- The heap's laws: same. -/
namespace Go.Proofs.YtjkkoogfaibhiaaGreatDoor
open Go.RowKit Go.Maps

/-- A record as the document's answer has it. -/
def HR.rw (r : HR) : Hrw := ⟨r.place, strOfNums r.text⟩
set_option maxRecDepth 100000 in
set_option maxHeartbeats 1600000 in
theorem hsame_any (h m p : Nat) (F : Nat → Prop) (x : Rp) (P : Nat → Bool) (L : List HR) (A : Option Addr) (c : Nat) (w : World) (k : HH w h m p F x P) (hx : HeapIn x P L []) (hl : L.length ≤ 1000000)
    (hs : Sl w 2 A L.length ((L.map HR.rw).flatMap Hrw.vals)) (hA : ∀ a, A = some a → ¬ F a.block) :
    Calls Tryz.prog 18 #[.pointer (some ⟨h, 0, none⟩), .slice A L.length c] w fun e w' => e = .returned (.bool true) ∧ HH w' h m p F x P ∧ Chg F w w' := by
  have H := Lib.hid (And.intro k (And.intro hx (And.intro hs hA)))
  clear k hx hs hA
  go_enter Tryz.func18, Tryz.ntmps18
  go_wp2_with fail
  go_loopg [11] L.length (fun q i wr => ∃ j, q = L.length - j ∧ j ≤ L.length ∧ i = .int .i64 j ∧ HH wr h m p F x P ∧ Chg F w wr)
  case atStart => exact ⟨0, rfl, Nat.zero_le _, rfl, H.out.1, Chg.refl _ _⟩
  case round =>
    obtain ⟨j, rfl, hj, rfl, hk, hc⟩ := hrel
    have HK := Lib.hid (And.intro hk hc)
    clear hk hc
    by_cases hlt : j < L.length
    · obtain ⟨r, hr⟩ : ∃ r, L[j]? = some r := ⟨_, List.getElem?_eq_getElem hlt⟩
      have hrm := List.mem_of_getElem? hr
      have hsl : Sl wr 2 A (L.map HR.rw).length ((L.map HR.rw).flatMap Hrw.vals) := by rw [List.length_map]; exact H.out.2.2.1.chg HK.out.2 H.out.2.2.2
      obtain ⟨g, off, rfl, hgl, d0, d1⟩ := hsl.atHrw (x := r.rw) (by rw [List.getElem?_map, hr]; rfl)
      have hok := (H.out.2.1.at_ r hrm).2.base
      have hge := fun u (hk : HH u h m p F x P) => hget_any h m p F x P L [] r u hk H.out.2.1 hrm
      have HG := Lib.hid (And.intro hge hok)
      obtain ⟨pl, hpl⟩ : ∃ q, r.place = q := ⟨_, rfl⟩
      obtain ⟨t, ht⟩ : ∃ q, r.text = q := ⟨_, rfl⟩
      have e0 : wr.cell? ⟨g, off + j * 2, none⟩ = some (.int .i64 pl) := by rw [← hpl]; exact d0
      have e1 : wr.cell? ⟨g, off + j * 2 + 1, none⟩ = some (.string (strOfNums t)) := by rw [← ht]; exact d1
      rw [hpl, ht] at HG
      obtain ⟨W1, hW1⟩ : ∃ W, wr.alloc (.cells #[.int .i64 pl, .string (strOfNums t)] 53) = W := ⟨_, rfl⟩
      have hb1 : Blk W1 wr.heap.size 53 #[.int .i64 pl, .string (strOfNums t)] := hW1 ▸ Blk.new _ _ _
      have hg1 : Grew wr W1 := hW1 ▸ (Chg.refl _ _).alloc _
      have hk1 := HK.out.1.grew hg1
      obtain ⟨c9, f9, s9⟩ := hb1.facts
      have HB := Lib.hid hb1
      have H1 := Lib.hid (And.intro hk1 (HK.out.2.grew hg1))
      have hgF : ¬ F wr.heap.size := fun e => by have := HK.out.1.gp.lt _ e; omega
      clear hr hrm hsl d0 d1 hok hge hpl ht hb1 hg1 hk1
      go_wp2_with fail
      refine (HG.out.1 W1 H1.out.1).mono ?_
      rintro e w2 ⟨A2, c2, rfl, hs2, -, -, hk2, hc2⟩
      have hcv := conv_sl (c := c2) hs2 (by have := HG.out.2.1; omega)
      have hb2 := HB.out.chg hc2 hgF
      obtain ⟨c8, f8, s8⟩ := hb2.facts
      have H2 := Lib.hid (And.intro hk2 (Chg.trans H1.out.2 hc2 fun _ _ e => e))
      clear hs2 hk2 hc2 hb2 c9 f9 s9 hW1
      go_wp2_with fail
      go_roundg (L.length - (j + 1))
      case measure => omega
      case rel => exact ⟨j + 1, rfl, by omega, by simp, H2.out.1, H2.out.2⟩
    · obtain rfl : j = L.length := by omega
      by_cases h0 : L.length = 0
      · obtain rfl : L = [] := List.eq_nil_of_length_eq_zero h0
        have hpa := hpages_any h m p x.now.length F x P wr HK.out.1 (fun s hs => H.out.2.1.lt hs) (by have := HK.out.1.gp.szs.2.2.2.2.2; omega)
        rw [(HeapIn.zero H.out.2.1).2] at hpa
        have HPa := Lib.hid hpa
        clear hpa h0 hlt hj
        go_wp2_with fail
        refine HPa.out.mono ?_
        rintro e w1 ⟨A1, c1, rfl, -, hg1⟩
        have H1 := Lib.hid (And.intro (HK.out.1.grew hg1) (HK.out.2.grew hg1))
        clear hg1
        go_wp2_with fail
        go_ret
        exact ⟨rfl, H1.out.1, H1.out.2⟩
      · have t1 : decide (0 < L.length) = true := decide_eq_true (by omega)
        clear h0 hlt hj
        go_wp2_with fail
        go_ret
        exact ⟨rfl, HK.out.1, HK.out.2⟩
end Go.Proofs.YtjkkoogfaibhiaaGreatDoor

/- The heap in memory: Del where there is no record; where a place is in the document's list. -/
namespace Go.Proofs.YtjkkoogfaibhiaaGreatDoor
open Go.RowKit Go.Maps

set_option maxRecDepth 100000 in
theorem hdel_none (h m p : Nat) (F : Nat → Prop) (x : Rp) (P : Nat → Bool) (L : List HR) (E : List Nat) (pl : Int) (w : World) (k : HH w h m p F x P) (hx : HeapIn x P L E) (hb : -9223372036854775808 ≤ pl ∧ pl ≤ 9223372036854775807) (hn : NoRec L pl) :
    Calls Tryz.prog 14 #[.pointer (some ⟨h, 0, none⟩), .int .i64 pl] w fun e w' => e = .returned (.int .i64 14) ∧ HH w' h m p F x P ∧ Chg F w w' := by
  have HS := Lib.hid (hget_none h m p F x P L E pl w k hx hb hn)
  clear k hx hb hn
  go_enter Tryz.func14, Tryz.ntmps14
  go_wp2_with fail
  refine HS.out.mono ?_
  rintro e w1 ⟨rfl, hk, hc⟩
  have H1 := Lib.hid (And.intro hk hc)
  clear hk hc
  go_wp2_with fail
  go_ret
  exact ⟨rfl, H1.out.1, H1.out.2⟩
/-- Find tells -1 just if no record lies there. -/
theorem fnR_none {L : List HR} {q : Int} (h : NoRec L q) : fnR (L.map HR.rw) q = -1 := by
  unfold fnR
  refine fidxR_none fun j y _ hy => ?_
  rw [List.getElem?_map] at hy
  cases hr : L[j]? with
  | none => rw [hr] at hy; cases hy
  | some r =>
    rw [hr] at hy
    simp only [Option.map_some, Option.some.injEq] at hy
    subst hy
    have hm := List.mem_of_getElem? hr
    refine beq_eq_false_iff_ne.2 fun e => ?_
    have e' : (r.place : Int) = q := e
    rcases h with h | h
    · omega
    · exact h r hm e'
/-- .. and else where it lies. -/
theorem fnR_some {L : List HR} (hnd : (L.map HR.place).Nodup) {j : Nat} {r : HR} (hr : L[j]? = some r) : fnR (L.map HR.rw) (r.place : Int) = j := by
  unfold fnR
  refine fidxR_hit (x := r.rw) (fun i y hi hy => ?_) (by rw [List.getElem?_map, hr]; rfl) (beq_iff_eq.2 rfl)
  rw [List.getElem?_map] at hy
  cases hq : L[i]? with
  | none => rw [hq] at hy; cases hy
  | some s =>
    rw [hq] at hy
    simp only [Option.map_some, Option.some.injEq] at hy
    subst hy
    refine beq_eq_false_iff_ne.2 fun e => ?_
    have e' : (s.place : Int) = (r.place : Int) := e
    have hil := (List.getElem?_eq_some_iff.1 hq).1
    have := (List.getElem?_inj (show i < (L.map HR.place).length by rw [List.length_map]; exact hil) hnd).1 (show (L.map HR.place)[i]? = (L.map HR.place)[j]? by rw [List.getElem?_map, List.getElem?_map, hq, hr]; exact congrArg some (by omega))
    omega
theorem noRec_or {L : List HR} (q : Int) : NoRec L q ∨ ∃ (j : Nat) (r : HR), L[j]? = some r ∧ (r.place : Int) = q := by
  by_cases h : ∃ r ∈ L, (r.place : Int) = q
  · obtain ⟨r, h1, h2⟩ := h
    obtain ⟨j, hj⟩ := List.mem_iff_getElem?.1 h1
    exact .inr ⟨j, r, hj, h2⟩
  · exact .inl (.inr fun r hr e => h ⟨r, hr, e⟩)
/-- How many pages some records use at most. -/
theorem HeapIn.used_le {x : Rp} {P : Nat → Bool} {L : List HR} (h : HeapIn x P L []) (hp : ∀ r ∈ L, r.pages.length ≤ 4) : x.now.countP Pk.used ≤ 5 * L.length := by
  have h1 := h.used
  have h2 := h.bnd
  have h3 : ∀ l : List HR, (∀ r ∈ l, r.pages.length ≤ 4) → (l.flatMap HR.pages).length ≤ 4 * l.length := by
    intro l
    induction l with
    | nil => intro _; simp
    | cons r t ih =>
      intro hl
      have e1 := ih fun q hq => hl q (List.mem_cons_of_mem _ hq)
      have e2 := hl r List.mem_cons_self
      rw [List.flatMap_cons, List.length_append, List.length_cons]
      omega
  have h4 := h3 L hp
  rw [List.nil_append] at h1
  omega
theorem ownN_200 {n sz : Nat} (h1 : 64 ≤ sz) (h2 : n ≤ 200) : ownN n sz ≤ 4 := by
  unfold ownN
  split
  · unfold partsN
    have : (n - 1) / (sz - 5) ≤ 199 / 59 := Nat.div_le_div (by omega) (by omega) (by omega)
    omega
  · omega
theorem tabs600B : ((List.range 137).all fun k => decide (tabN 600 (64 + k) ≤ 20) && decide (500 ≤ capN 600 (64 + k))) = true := by kernel_rfl
theorem roomy600 {sz d : Nat} (h1 : 64 ≤ sz) (h2 : sz ≤ 200) : (Rp.opened 600 sz d).roomy 400 := by
  have h := List.all_eq_true.1 tabs600B (sz - 64) (List.mem_range.2 (by omega))
  rw [show 64 + (sz - 64) = sz by omega] at h
  simp only [Bool.and_eq_true, decide_eq_true_eq] at h
  exact opened_roomy h.1 h.2 (by omega) (by omega)
end Go.Proofs.YtjkkoogfaibhiaaGreatDoor

/- The heap's laws: the document's list beside a heap. -/
namespace Go.Proofs.YtjkkoogfaibhiaaGreatDoor
open Go.RowKit Go.Maps

/-- The document's list lies there, apart from the heap. -/
structure XS (W : World) (A : Option Addr) (L : List HR) (F : Nat → Prop) (m : Nat) : Prop where
  sl : Sl W 2 A L.length ((L.map HR.rw).flatMap Hrw.vals)
  ap : ∀ a, A = some a → ¬ F a.block ∧ a.block ≠ m ∧ a.block < W.heap.size
section
variable {W W' : World} {A : Option Addr} {L : List HR} {F F' : Nat → Prop} {m : Nat}
theorem XS.to (h : XS W A L F m) (hc : Chg (fun j => F j ∨ j = m) W W') (hn : ∀ j, F' j → F j ∨ W.heap.size ≤ j) : XS W' A L F' m :=
  ⟨h.sl.chg hc fun a ha e => e.elim (h.ap a ha).1 (h.ap a ha).2.1, fun a ha => ⟨fun e => (hn _ e).elim (h.ap a ha).1 fun e => by have := (h.ap a ha).2.2; omega, (h.ap a ha).2.1, Nat.lt_of_lt_of_le (h.ap a ha).2.2 hc.size⟩⟩
theorem XS.far (h : XS W A L F m) (hc : Chg F W W') : XS W' A L F m := h.to (hc.mono fun _ _ e => .inl e) fun _ e => .inl e
theorem XS.grew (h : XS W A L F m) (hc : Grew W W') : XS W' A L F m := h.far hc.chg
/-- A row that is new. -/
theorem XS.new {base : Nat} {c : Nat} (hF : ∀ j, F j → j < base) (hm : m < base) (ho : W.ownsRow base 53 2 (.slice A L.length c) L.length ((L.map HR.rw).flatMap Hrw.vals)) : XS W A L F m :=
  ⟨Sl.of_own ho, fun a ha => by
    subst ha
    obtain ⟨g, rfl, hg⟩ := own_some ho
    have h1 := (ho.lt g rfl).1
    exact ⟨fun e => by have := hF _ e; simp only at this; omega, by simp only; omega, hg⟩⟩
end
theorem rw_app (L : List HR) (r : HR) : (L ++ [r]).map HR.rw = L.map HR.rw ++ [r.rw] := by simp
theorem rw_erase (L : List HR) (k : Nat) : (L.eraseIdx k).map HR.rw = (L.map HR.rw).eraseIdx k := by
  rw [List.eraseIdx_eq_take_drop_succ, List.eraseIdx_eq_take_drop_succ, List.map_append, List.map_take, List.map_drop]
/-- What the law asks of its records. -/
def Small (L : List HR) : Prop := ∀ r ∈ L, r.text.length ≤ 200 ∧ r.pages.length ≤ 4
theorem Small.app {L : List HR} {r : HR} (h : Small L) (h1 : r.text.length ≤ 200) (h2 : r.pages.length ≤ 4) : Small (L ++ [r]) := fun q hq => by
  rcases List.mem_append.1 hq with e | e
  · exact h q e
  · simp only [List.mem_singleton] at e; subst e; exact ⟨h1, h2⟩
theorem Small.erase {L : List HR} (h : Small L) (k : Nat) : Small (L.eraseIdx k) := fun q hq => h q (List.mem_of_mem_eraseIdx hq)
/-- What step leaves. -/
def StepOut (w w' : World) (h m p : Nat) (F : Nat → Prop) (x : Rp) (L : List HR) (e : Ending) : Prop :=
  ∃ (A' : Option Addr) (c' : Nat) (L' : List HR) (y : Rp) (F' : Nat → Prop) (P' : Nat → Bool), e = .returned (.tuple #[.slice A' L'.length c', .bool true]) ∧ HH w' h m p F' y P' ∧ HeapIn y P' L' [] ∧ x.like y ∧ XS w' A' L' F' m ∧ Small L' ∧ L'.length ≤ L.length + 1 ∧
    Chg (fun j => F j ∨ j = m) w w' ∧ ∀ j, F' j → F j ∨ w.heap.size ≤ j
end Go.Proofs.YtjkkoogfaibhiaaGreatDoor

/- The disk: Flush. -/
namespace Go.Proofs.YtjkkoogfaibhiaaGreatDoor
open Go.RowKit Go.Maps
open Go.ChangeMaps (setBlock)

theorem imap_clear {P : Program} {k t e : TypeId} {w : World} {b s : Nat} {m : Int → Option Value} (h : IMap P k w b m s) (ht : P.underlying t = some (.map k e)) (ty : TypeId) :
    ∃ w', (Builtin.clear_ #[t] ty #[.map (some b)]).run P w = .ok (.tuple #[]) w' ∧ IMap P k w' b (fun _ => none) 0 ∧ Chg (fun j => j = b) w w' := by
  obtain ⟨D, ⟨es, clock, hb, hf, -⟩, -⟩ := h
  have hlt : b < w.heap.size := (Array.getElem?_eq_some_iff.1 hb).1
  refine ⟨{ w with heap := w.heap.setIfInBounds b (.map #[] clock) }, ?_, ⟨.map [], ⟨#[], clock, ?_, ⟨by simp, MapKept.stamped_empty clock, by simp⟩, Nat.le_refl _, rfl⟩, rfl, ⟨fun _ _ => rfl, fun _ _ h => by cases h⟩⟩, ⟨rfl, rfl, rfl, by simp, fun j hj hn => ?_⟩⟩
  · simp [Builtin.clear_, run_underlying ht, MapKept.run_getObj_map hb, MapKept.run_setObj_map _ hb, Result.andThen]
  · simp [hlt]
  · simp [Array.getElem?_setIfInBounds, Ne.symm hn]

/-- All is on the disk. -/
def Dk.flushed (D : Dk) : Dk := { D with data := fun i => D.rd (i : Int), cache := fun _ => none, done := wrap64 (D.done + 1) }
theorem Dk.flushed_rd (D : Dk) (i : Nat) : D.flushed.rd (i : Int) = D.rd (i : Int) := by
  unfold Dk.flushed
  rw [Dk.rd_none rfl]
  simp

theorem own_noMap {w : World} {b n s b2 s2 : Nat} {e kt : TypeId} {v : Value} {xs : List Value} {P : Program} {m : Int → Option Value} (h : w.ownsRow b e n v s xs) (k : IMap P kt w b2 m s2) : v.ownBlock ≠ some b2 := by
  intro he
  rcases h.2 with ⟨rfl, _⟩ | ⟨g', cap, cur, rfl, _, hh, _⟩
  · simp [Value.ownBlock] at he
  · have : g' = b2 := by simpa [Value.ownBlock] using he
    subst this
    obtain ⟨D, ⟨es, clock, hb, -⟩, -⟩ := k
    rw [hh] at hb
    cases hb

/-- Between two entries. -/
structure FluJ (w W : World) (d n c g M it s q : Nat) (cs : Array Value) (vs : List Value) (cm : Int → Option Value) (left : Int → Bool) : Prop where
  blk : Blk W d 96 cs
  row : ∃ vs', W.ownsRow 0 34 1 (.slice (some ⟨g, 0, none⟩) n c) n vs' ∧ ∀ i, i < n → vs'[i]? = if left (i : Int) then vs[i]? else (match cm i with | some v => some v | none => vs[i]?)
  it_ : IIt Tryz.prog 3 W M it cm s left q
  chg : Chg (fun j => j = g) w W

set_option maxRecDepth 100000 in
set_option maxHeartbeats 1600000 in
theorem dflush_ok (d : Nat) (F : Nat → Prop) (D : Dk) (w : World) (h : DS w d F D) (hd : D.down = false) (ha : D.armed = false) :
    Calls Tryz.prog 45 #[.pointer (some ⟨d, 0, none⟩)] w fun e w' => e = .returned (.int .i64 0) ∧ DTo w w' d F D.flushed := by
  have HC := Lib.hid (dcommand_ok d F D w h ha)
  have hb0 : ∃ cs, Blk w d 96 cs ∧ cs[5]? = some (.bool false) := by
    obtain ⟨⟨A, c, M, s, vs, cm, hi⟩, -⟩ := h
    exact ⟨_, hi.blk, by rw [hd]; rfl⟩
  obtain ⟨cs0, hb0, h05⟩ := hb0
  have c05 := hb0.cell 5
  rw [h05] at c05
  have s05 := hb0.lt
  clear h hb0 h05
  go_enter Tryz.func45, Tryz.ntmps45
  go_wp2_with fail
  refine HC.out.mono ?_
  clear c05 s05
  rintro e w1 ⟨rfl, F1, ⟨⟨A, c, M, s, vs, cm, hi⟩, hl0⟩, hc1, hn1⟩
  obtain ⟨g, rfl, hg⟩ := own_block hi.row (by have := hi.sml.1; exact Nat.lt_of_lt_of_le Nat.zero_lt_one this)
  obtain ⟨w2, hrg, hI2, hg2, hz2⟩ := hi.map.range_ (t := 93) kInt Tryz.underlying93
  obtain ⟨it, hit⟩ : ∃ it, w1.heap.size = it := ⟨_, rfl⟩
  rw [hit] at hrg hI2
  have hsm := hi.sml
  dsimp only at hsm
  obtain ⟨c0, f0, s0⟩ := hi.blk.facts
  have hB2 := hi.blk.grew hg2
  obtain ⟨cs, hcs⟩ : ∃ cs : Array Value, (#[.int .i64 D.sz, .slice (some ⟨g, 0, none⟩) D.n c, .map (some M), .bool D.armed, .int .i64 D.left, .bool D.down, .int .i64 (wrap64 (D.done + 1))] : Array Value) = cs := ⟨_, rfl⟩
  have HJ0 := Lib.hid (show FluJ w1 w2 d D.n c g M it s s cs vs cm (fun i => (cm i).isSome) from ⟨hcs ▸ hB2, ⟨vs, own_grew hi.row hg2, fun i _ => by
    cases hm : cm (i : Int) with
    | none => simp [hm]
    | some v => simp [hm]⟩, hI2, hg2.chg⟩)
  have H1 := Lib.hid (And.intro hi (And.intro hl0 (And.intro hc1 (And.intro hn1 (And.intro hg2 (And.intro hit hcs))))))
  clear hi hl0 hc1 hn1 hg2 hI2 hB2 hz2
  go_wp2_with fail
  clear hrg c0 f0
  go_loopg [] s (fun q wr => ∃ left : Int → Bool, FluJ w1 wr d D.n c g M it s q cs vs cm left)
  case atStart => exact ⟨_, HJ0.out⟩
  case round =>
    obtain ⟨left, hJ⟩ := hrel
    obtain ⟨ob, hob⟩ := hJ.it_.has
    rcases hJ.it_.next kInt Tryz.underlying3 0 with ⟨h0, hl, hrun⟩ | ⟨i, v, w3, q', hli, hmi, hrun, hI3, hq, hk3, hz3, hen⟩
    · have hbk := hJ.blk
      rw [← H1.out.2.2.2.2.2.2] at hbk
      obtain ⟨c1, f1, s1⟩ := hbk.facts
      obtain ⟨w4, hcl, hm4, hc4⟩ := imap_clear hJ.it_.imap (t := 93) Tryz.underlying93 0
      have HD := Lib.hid (And.intro hJ (And.intro hl (And.intro hm4 hc4)))
      clear hJ hl hob hbk hm4 hc4
      go_wp2
      go_ret
      refine ⟨rfl, ?_⟩
      obtain ⟨hi, hl0, hc1, hn1, hg2, hit, hcs⟩ := H1.out
      obtain ⟨hJ, hl, hm4, hc4⟩ := HD.out
      obtain ⟨vs', hr', hv'⟩ := hJ.row
      have hMd := imap_ne hi.map hi.blk
      have hgM : g ≠ M := fun e => own_noMap hi.row hi.map (by simp [Value.ownBlock, e])
      have hgd : g ≠ d := fun e => own_blk_ne hi.row hi.blk (by decide) (by simp [Value.ownBlock, e])
      have hcw : Chg (fun j => j = g ∨ j = M) w1 w4 := Chg.trans (hJ.chg.mono fun _ _ e => .inl e) hc4 fun j _ e => .inr e
      have hnb : ∀ j, (j = g ∨ j = M) → NotB w1 j := by
        rintro j (rfl | rfl)
        · exact own_notB hi.row (by decide) rfl
        · exact map_notB hi.map
      have hF : ∀ j, (j = g ∨ j = M) → F1 j := by
        rintro j (rfl | rfl)
        · exact hi.inF.2.2 _ rfl
        · exact hi.inF.2.1
      refine ⟨F1, ⟨⟨some ⟨g, 0, none⟩, c, M, 0, vs', fun _ => none, ?_, ?_, hm4, fun i hin => ?_, (fun _ _ => rfl), (fun i bs hb => by cases hb), hi.inF, ⟨hsm.1, hsm.2.1, hsm.2.2.1, hsm.2.2.2.1, Nat.zero_le _⟩, hi.id⟩, fun j hj => Nat.lt_of_lt_of_le (hl0 j hj) hcw.size⟩, Chg.trans hc1 (hcw.mono fun j _ e => hF j e) (fun j hj e => (hn1 j e).resolve_right (by omega)), fun j hj => hn1 j hj⟩
      · have := hJ.blk.chg hc4 (by simpa using Ne.symm hMd)
        rw [← hcs] at this
        exact this
      · exact own_chg hr' hc4 (fun j hj e => by simp [Value.ownBlock] at hj; omega)
      · have hvi := hv' i hin
        rw [hl, if_neg (by simp)] at hvi
        cases hm : cm (i : Int) with
        | some v =>
          rw [hm] at hvi
          cases hca : D.cache (i : Int) with
          | none => have := hi.no i hca; rw [hm] at this; cases this
          | some bs =>
            obtain ⟨v', e1, e2, e3, -⟩ := hi.has i bs hca
            rw [hm] at e1
            cases e1
            have e4 : D.flushed.data i = bs := by unfold Dk.flushed; exact Dk.rd_some hca
            rw [e4]
            exact ⟨v, hvi, e2.past hcw hnb, e3⟩
        | none =>
          rw [hm] at hvi
          obtain ⟨v, e1, e2, e3⟩ := hi.dat i hin
          have hca : D.cache (i : Int) = none := by
            cases hca : D.cache (i : Int) with
            | none => rfl
            | some bs => obtain ⟨v', e1, -⟩ := hi.has i bs hca; rw [hm] at e1; cases e1
          have e4 : D.flushed.data i = D.data i := by unfold Dk.flushed; dsimp only; rw [Dk.rd_none hca]; simp
          rw [e4]
          refine ⟨v, ?_, e2.past hcw hnb, e3⟩
          rw [hvi]; exact e1
    · have hin : ∃ k : Nat, i = (k : Int) ∧ k < D.n ∧ ∃ A' n' c', v = .slice A' n' c' := by
        cases hca : D.cache i with
        | none => have := H1.out.1.no i hca; rw [hmi] at this; cases this
        | some bs =>
          obtain ⟨v', e1, e2, e3, e4, e5⟩ := H1.out.1.has i bs hca
          rw [hmi] at e1
          cases e1
          obtain ⟨A', c', e6, -⟩ := own_shape e2.1
          exact ⟨i.toNat, by omega, by have e7 : i < (D.n : Int) := e5; omega, A', _, c', e6⟩
      obtain ⟨k, rfl, hkn, A', n', c', rfl⟩ := hin
      obtain ⟨vs', hr', hv'⟩ := hJ.row
      have hitl : w1.heap.size ≤ it := by have := H1.out.2.2.2.2.2.1; omega
      have hitg : it ≠ g := by omega
      have hr3 := own_chg hr' hk3.chg (fun j hj e => by simp [Value.ownBlock] at hj; omega)
      have hB3 := hJ.blk.kept hk3
      have hst := hr3.stored k (.slice A' n' c')
      have hkl : k < vs'.length := by have := hr'.1; rw [Nat.mul_one] at this; omega
      obtain ⟨u, hu⟩ : ∃ u, vs'[k]? = some u := ⟨_, List.getElem?_eq_getElem hkl⟩
      have ck : w3.cell? ⟨g, k, none⟩ = some u := by rw [hr3.cellAt k (by rw [Nat.mul_one]; exact hkn)]; exact hu
      have fk := hr3.frozenAt k
      have sk : g < w3.heap.size := (hr3.lt g rfl).2
      have hB3' := hB3
      rw [← H1.out.2.2.2.2.2.2] at hB3'
      obtain ⟨c1, f1, s1⟩ := hB3'.facts
      have u1 : (k : Int) < (D.n : Int) := by omega
      have HR := Lib.hid (And.intro hJ (And.intro hr3 (And.intro hv' (And.intro hI3 (And.intro hk3 (And.intro hst (And.intro hB3 (And.intro hmi (And.intro hli (And.intro hitl (And.intro hob hkl)))))))))))
      clear hJ hr3 hr' hv' hI3 hk3 hst hB3 hB3' hmi hli hitl hob hkl hu hz3
      go_wp2
      obtain ⟨hJ, hr3, hv', hI3, hk3, hst, hB3, hmi, hli, hitl, hob, hkl⟩ := HR.out
      have hi := H1.out.1
      have hgd : g ≠ d := fun e => own_blk_ne hi.row hi.blk (by decide) (by simp [Value.ownBlock, e])
      have hgM : g ≠ M := fun e => own_noMap hi.row hi.map (by simp [Value.ownBlock, e])
      have hg1 := (hi.row.lt g rfl).2
      obtain ⟨ob3, hob3⟩ := hI3.has
      go_roundg q'
      case measure => exact hq
      case rel =>
        have hc4 : Chg (fun j => j = g) w3 (w3.setCell ⟨g, k, none⟩ (.slice A' n' c')) := (Chg.refl (fun j => j = g) w3).setCell (p := ⟨g, k, none⟩) (fun _ => rfl) _
        refine ⟨_, ⟨hB3.chg hc4 (Ne.symm hgd), ⟨_, hst.1, fun i hin => ?_⟩, hI3.same hob3 (hc4.block M hI3.imap.lt (Ne.symm hgM)) (hob3.chg hc4 (by omega)), Chg.trans (hJ.chg.kept hk3 hitl) hc4 fun j _ e => e⟩⟩
        by_cases e : i = k
        · subst e
          rw [List.getElem?_set_self hkl]
          simp [hmi]
        · have e2 : ¬ (i : Int) = (k : Int) := by omega
          rw [List.getElem?_set_ne (by omega), hv' i hin]
          simp [e2]

end Go.Proofs.YtjkkoogfaibhiaaGreatDoor

/- The slots: Save. -/
namespace Go.Proofs.YtjkkoogfaibhiaaGreatDoor
open Go.RowKit Go.Maps

theorem slot_any (ep q : Nat) (A : Option Addr) (n c : Nat) (w : World) (h : ep ≤ 9223372036854775807) (hq : ep % 2 = q) :
    Calls Tryz.prog 83 #[.agg #[.int .i64 ep, .slice A n c]] w fun e w' => e = .returned (.int .i64 q) ∧ Grew w w' := by
  have q1 : (ep : Int).tmod 2 = (q : Int) := by rw [Int.tmod_eq_emod_of_nonneg (by omega)]; omega
  have q2 : (ep : Int) % 2 = (q : Int) := by omega
  have q3 : q ≤ 1 := by omega
  clear hq
  go_enter Tryz.func83, Tryz.ntmps83
  go_wp2
  go_ret
  exact ⟨rfl, (Chg.refl _ _).alloc _⟩

theorem grp_mono : ∀ (m a b : Nat), a ≤ m → a ≤ b → (grp a).length ≤ (grp b).length := by
  intro m
  induction m with
  | zero =>
    intro a b ha _
    obtain rfl : a = 0 := by omega
    rw [grp_small (by omega)]
    by_cases hb : b < 128
    · rw [grp_small hb]; simp
    · rw [grp_more (by omega)]; simp
  | succ m ih =>
    intro a b ha hab
    by_cases h : a < 128
    · rw [grp_small h]
      by_cases hb : b < 128
      · rw [grp_small hb]; simp
      · rw [grp_more (by omega)]; simp
    · rw [grp_more (u := a) (by omega), grp_more (u := b) (by omega)]
      have := ih (a / 128) (b / 128) (by omega) (by omega)
      simp only [List.length_cons]
      omega
theorem grps_mono (l : List Nat) (h : ∀ n ∈ l, n < 4096) : (grps l).length ≤ (grps (List.replicate l.length 4095)).length := by
  induction l with
  | nil => simp [grps]
  | cons n l ih =>
    have h1 := ih fun x hx => h x (List.mem_cons_of_mem _ hx)
    have h2 := grp_mono _ (2 * n) (2 * 4095) (Nat.le_refl _) (by have := h n (by simp); omega)
    unfold grps at h1 ⊢
    rw [List.length_cons, List.replicate_succ, List.flatMap_cons, List.flatMap_cons, List.length_append, List.length_append]
    omega
/-- A root of so many numbers fits where the greatest one does. -/
theorem body_fits {ep sz : Nat} {l : List Nat} (h : fitsN l.length sz = true) (h2 : ep ≤ 1099511627776) (hg : ∀ n ∈ l, n < 4096) : (bodyL ep l).length + 14 ≤ sz := by
  have h1 := of_decide_eq_true h
  have h3 := grp_mono _ (2 * ep) (2 * 1099511627776) (Nat.le_refl _) (by omega)
  have h4 := grps_mono l hg
  simp only [bodyL, List.length_append, List.length_replicate] at h1 ⊢
  omega

theorem rootL_len {ep sz : Nat} {l : List Nat} (h : (bodyL ep l).length + 14 ≤ sz) : (rootL ep l sz).length = sz := by
  unfold rootL
  rw [List.length_append, sealL_len (by omega)]
  simp [tail8]
  omega

set_option maxRecDepth 100000 in
set_option maxHeartbeats 1600000 in
theorem save_ok (d : Nat) (F : Nat → Prop) (D : Dk) (ep : Nat) (l : List Nat) (A : Option Addr) (c : Nat) (w : World) (h : DS w d F D) (hd : D.down = false) (ha : D.armed = false) (hn : 2 ≤ D.n) (hs : Sl w 1 A l.length (nv l)) (h1 : 1 ≤ ep) (h2 : ep ≤ 1099511627776) (hl : l.length ≤ 64) (hg : ∀ n ∈ l, n < 4096) (hfit : (bodyL ep l).length + 14 ≤ D.sz) :
    Calls Tryz.prog 46 #[.pointer (some ⟨d, 0, none⟩), .agg #[.int .i64 ep, .slice A l.length c]] w fun e w' => e = .returned (.int .i64 0) ∧ DTo w w' d F (D.wr ((ep % 2 : Nat) : Int) (rootL ep l D.sz)).flushed := by
  have hsm := h.sml
  obtain ⟨n, hnn⟩ : ∃ n, l.length = n := ⟨_, rfl⟩
  obtain ⟨W1, hW1⟩ : ∃ W, w.alloc (.cells #[.int .i64 ep, .slice A n c] 89) = W := ⟨_, rfl⟩
  have hG1 : Grew w W1 := hW1 ▸ (Chg.refl _ _).alloc _
  have hB1 : Blk W1 w.heap.size 89 #[.int .i64 ep, .slice A n c] := hW1 ▸ Blk.new _ _ _
  have H := Lib.hid (And.intro (h.grew hG1) (And.intro hd (And.intro ha (And.intro (hs.grew hG1) (And.intro hg (And.intro hfit (And.intro hnn (And.intro hG1 hB1))))))))
  have HW1 := Lib.hid hW1
  obtain ⟨b0, hb0⟩ : ∃ b, w.heap.size = b := ⟨_, rfl⟩
  rw [hb0] at hB1
  have Hb0 := Lib.hid hb0
  obtain ⟨q, hqq⟩ : ∃ q, ep % 2 = q := ⟨_, rfl⟩
  have hq : q < 2 := by omega
  rw [hnn] at hl ⊢
  rw [hqq]
  clear h hd ha hs hg hfit hnn hG1 hW1 hb0
  go_enter Tryz.func46, Tryz.ntmps46
  go_wp2_with (first | (rw [HW1.out]) | (rw [Hb0.out]))
  have hS0 : ∀ W', Grew W1 W' → W'.cell? ⟨b0, 0, none⟩ = some (.int .i64 ep) ∧ W'.cell? ⟨b0, 1, none⟩ = some (.slice A n c) := fun W' hc => by
    have h8 := hB1.grew hc
    exact ⟨h8.cell 0, h8.cell 1⟩
  have HS0 := Lib.hid hS0
  clear hS0 hB1
  refine wp_region_held_drew (S := fun W' => W'.cell? ⟨b0, 0, none⟩ = some (.int .i64 ep) ∧ W'.cell? ⟨b0, 1, none⟩ = some (.slice A n c)) (by kernel_rfl) (HS0.out _ ((Chg.refl _ _).drew)) (fun hHeld => ?_)
  refine wpAnyH_take (i := 0) (v := ?_) rfl (by kernel_rfl) (by kernel_rfl) (by kernel_rfl) (fun _ _ _ h => h) (Or.inl ⟨by rfl, ?_⟩) hHeld ?_
  rotate_left
  · (intro w hSw; (try dsimp only at hSw); go_simp) <;> with_reducible rfl
  (try simp only [Act.put, List.setIfInBounds_toArray, List.set_cons_zero, List.set_cons_succ, List.getElem_toArray, List.getElem_cons_zero, List.getElem_cons_succ])
  refine wpAnyH_take (i := 1) (v := ?_) rfl (by kernel_rfl) (by kernel_rfl) (by kernel_rfl) (fun _ _ _ h => h) (Or.inl ⟨by rfl, ?_⟩) hHeld ?_
  rotate_left
  · (intro w hSw; (try dsimp only at hSw); go_simp) <;> with_reducible rfl
  (try simp only [Act.put, List.setIfInBounds_toArray, List.set_cons_zero, List.set_cons_succ, List.getElem_toArray, List.getElem_cons_zero, List.getElem_cons_succ])
  refine wpAnyH_ready (rs := [2]) (by kernel_rfl) (by simp) ?_
  refine AllReadyH.cons rfl (fun K hK => ?_) AllReadyH.nil
  go_simp
  refine (dsize_any d F D _ (H.out.1.grew ((Chg.refl _ _).drew))).mono ?_
  rintro e w2 ⟨rfl, rfl⟩
  refine hK.out _ _ (HS0.out _ ((Chg.refl _ _).drew)) (fun hHeld => ?_)
  clear hK K
  (try simp only [Act.put, List.setIfInBounds_toArray, List.set_cons_zero, List.set_cons_succ, List.getElem_toArray, List.getElem_cons_zero, List.getElem_cons_succ])
  refine wpAnyH_ready (rs := [3]) (by kernel_rfl) (by simp) ?_
  refine AllReadyH.cons rfl (fun K hK => ?_) AllReadyH.nil
  go_simp
  have hby := rbytes_ok ep l D.sz A c W1.drew (H.out.2.2.2.1.grew ((Chg.refl _ _).drew)) h1 h2 (by rw [H.out.2.2.2.2.2.2.1]; exact hl) H.out.2.2.2.2.1 hsm.2.2.2 H.out.2.2.2.2.2.1
  rw [H.out.2.2.2.2.2.2.1] at hby
  refine hby.mono ?_
  clear hby
  rintro e w3 ⟨A3, c3, rfl, ho3, hg3⟩
  have H3 := Lib.hid (And.intro ho3 (show Grew W1 w3 from Grew.trans ((Chg.refl NoF W1).drew) hg3))
  clear ho3 hg3
  refine hK.out _ _ (HS0.out _ H3.out.2) (fun hHeld => ?_)
  clear hK K
  (try simp only [Act.put, List.setIfInBounds_toArray, List.set_cons_zero, List.set_cons_succ, List.getElem_toArray, List.getElem_cons_zero, List.getElem_cons_succ])
  refine wpAnyH_ready (rs := [4]) (by kernel_rfl) (by simp) ?_
  refine AllReadyH.cons rfl (fun K hK => ?_) AllReadyH.nil
  go_simp
  refine hK.out _ _ hHeld (fun hHeld => ?_)
  clear hK K
  (try simp only [Act.put, List.setIfInBounds_toArray, List.set_cons_zero, List.set_cons_succ, List.getElem_toArray, List.getElem_cons_zero, List.getElem_cons_succ])
  refine wpAnyH_take (i := 5) (v := ?_) rfl (by kernel_rfl) (by kernel_rfl) (by kernel_rfl) (fun _ _ _ h => h) (Or.inl ⟨by rfl, ?_⟩) hHeld ?_
  rotate_left
  · (intro w hSw; (try dsimp only at hSw); go_simp) <;> with_reducible rfl
  (try simp only [Act.put, List.setIfInBounds_toArray, List.set_cons_zero, List.set_cons_succ, List.getElem_toArray, List.getElem_cons_zero, List.getElem_cons_succ])
  refine wpAnyH_take (i := 6) (v := ?_) rfl (by kernel_rfl) (by kernel_rfl) (by kernel_rfl) (fun _ _ _ h => h) (Or.inl ⟨by rfl, ?_⟩) hHeld ?_
  rotate_left
  · (intro w hSw; (try dsimp only at hSw); go_simp) <;> with_reducible rfl
  (try simp only [Act.put, List.setIfInBounds_toArray, List.set_cons_zero, List.set_cons_succ, List.getElem_toArray, List.getElem_cons_zero, List.getElem_cons_succ])
  refine wpAnyH_ready (rs := [7]) (by kernel_rfl) (by simp) ?_
  refine AllReadyH.cons rfl (fun K hK => ?_) AllReadyH.nil
  go_simp
  refine hK.out _ _ hHeld (fun hHeld => ?_)
  clear hK K
  (try simp only [Act.put, List.setIfInBounds_toArray, List.set_cons_zero, List.set_cons_succ, List.getElem_toArray, List.getElem_cons_zero, List.getElem_cons_succ])
  refine wpAnyH_ready (rs := [8]) (by kernel_rfl) (by simp) ?_
  refine AllReadyH.cons rfl (fun K hK => ?_) AllReadyH.nil
  go_simp
  refine hK.out _ _ hHeld (fun hHeld => ?_)
  clear hK K
  (try simp only [Act.put, List.setIfInBounds_toArray, List.set_cons_zero, List.set_cons_succ, List.getElem_toArray, List.getElem_cons_zero, List.getElem_cons_succ])
  refine wpAnyH_done (by kernel_rfl) ?_ _
  have c0 := (HS0.out _ H3.out.2).1
  have c1 := (HS0.out _ H3.out.2).2
  clear hHeld HS0
  obtain ⟨gA, rfl, hgA⟩ := own_block H3.out.1 (by omega)
  have hd3 : DS w3 d F D := H.out.1.grew H3.out.2
  obtain ⟨nD, hnD⟩ : ∃ nD, D.n = nD := ⟨_, rfl⟩
  have hdn : 2 ≤ nD := hnD ▸ hn
  have t1 : decide ((nD : Int) < 2) = false := decide_eq_false (by omega)
  have hse := dsectors_any d F D w3 hd3
  rw [hnD] at hse
  have hsl := slot_any ep q A n c w3 (by omega) hqq
  have hlen := rootL_len H.out.2.2.2.2.2.1
  have H4 := Lib.hid (And.intro hd3 (And.intro hse (And.intro hsl hlen)))
  have hgF : ¬ F gA := fun e => by have := (H3.out.1.lt gA rfl).1; have := hd3.2 gA e; have := H.out.1.2 gA e; have h9 : W1.drew.heap.size = W1.heap.size := rfl; omega
  have HgF := Lib.hid hgF
  clear hd3 hse hsl hlen hgF
  go_wp2_with (first
    | (go_at_call 51; (refine H4.out.2.1.mono ?_); rintro e w4 ⟨rfl, rfl⟩)
    | (go_at_call 83; (refine H4.out.2.2.1.mono ?_); rintro e w4 ⟨rfl, hg4⟩; have H5 := Lib.hid hg4; clear hg4))
  have hwr := dwrite_ok d (q : Int) (rootL ep l D.sz) (some ⟨gA, 0, none⟩) (by simp) c3 F D w4 (H4.out.1.grew H5.out) H.out.2.1 H.out.2.2.1 (by omega) (by omega) H4.out.2.2.2 (by rw [H4.out.2.2.2]; exact (Sl.of_own (own_base H3.out.1 (Nat.zero_le _))).grew H5.out)
  rw [H4.out.2.2.2] at hwr
  have HW := Lib.hid hwr
  clear hwr c0 c1
  refine HW.out.mono ?_
  rintro e w5 ⟨rfl, F5, hd5, hc5, hn5⟩
  have hF5 : Chg F w w5 ∧ ∀ j, F5 j → F j ∨ w.heap.size ≤ j := ⟨Grew.then H.out.2.2.2.2.2.2.2.1 (Grew.then H3.out.2 (Grew.then H5.out hc5)), fun j hj => (hn5 j hj).imp id fun e => by have h1 := H.out.2.2.2.2.2.2.2.1.size; have h2 := H3.out.2.size; have h3 := H5.out.size; omega⟩
  have HF := Lib.hid (And.intro (dflush_ok d F5 _ w5 hd5 H.out.2.1 H.out.2.2.1) hF5)
  clear hd5 hc5 hn5 hF5
  go_wp2_with fail
  refine HF.out.1.mono ?_
  rintro e w6 ⟨rfl, F6, h6, hc6, hn6⟩
  have H6 := Lib.hid (And.intro h6 (And.intro hc6 hn6))
  clear h6 hc6 hn6
  go_wp2_with fail
  go_ret
  exact ⟨rfl, F6, H6.out.1, Chg.trans HF.out.2.1 H6.out.2.1 fun i hi e => (HF.out.2.2 i e).resolve_right (by omega), fun j hj => (H6.out.2.2 j hj).elim (HF.out.2.2 j) fun e => .inr (Nat.le_trans HF.out.2.1.size e)⟩

end Go.Proofs.YtjkkoogfaibhiaaGreatDoor
