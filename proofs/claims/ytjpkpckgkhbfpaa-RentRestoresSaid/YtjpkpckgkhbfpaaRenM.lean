/- The rents and their list, side by side: the law's step. -/
import Derived.Test.YtjpkpckgkhbfpaaRenL
import Derived.Test.YtjpkpckgkhbfpaaBs
namespace Go.Proofs.Ytjpkpckgkhbfpaa
open Go.RowKit Go.Maps

structure Rop where
  kind : Int
  house : Int
  n : Int
  now : Int
  deriving DecidableEq
def Rop.vals (x : Rop) : List Value := [.int .i64 x.kind, .int .i64 x.house, .int .i64 x.n, .int .i64 x.now]
def Rop.zero : Rop := ⟨0, 0, 0, 0⟩
theorem Rop.vals_len (l : List Rop) : (l.flatMap Rop.vals).length = l.length * 4 := by
  induction l with
  | nil => rfl
  | cons x l ih => rw [List.flatMap_cons, List.length_append, ih, List.length_cons]; simp only [Rop.vals, List.length_cons, List.length_nil]; omega
theorem Rop.vals_at (l : List Rop) : ∀ (k : Nat) (x : Rop), l[k]? = some x → ∀ j, j < 4 → (l.flatMap Rop.vals)[k * 4 + j]? = x.vals[j]? := by
  induction l with
  | nil => intro k x h; simp at h
  | cons y l ih =>
    intro k x h j hj
    cases k with
    | zero =>
      simp only [List.getElem?_cons_zero, Option.some.injEq] at h
      subst h
      rw [List.flatMap_cons, Nat.zero_mul, Nat.zero_add, List.getElem?_append_left (by simp [Rop.vals]; omega)]
    | succ k =>
      simp only [List.getElem?_cons_succ] at h
      rw [List.flatMap_cons, List.getElem?_append_right (by simp [Rop.vals]; omega)]
      rw [← ih k x h j hj]
      congr 1
      simp [Rop.vals]
      omega
theorem Rop.take_vals (l : List Rop) : ∀ k, (l.take k).flatMap Rop.vals = (l.flatMap Rop.vals).take (k * 4) := by
  induction l with
  | nil => intro k; simp
  | cons x l ih =>
    intro k
    cases k with
    | zero => simp
    | succ k =>
      rw [List.take_succ_cons, List.flatMap_cons, List.flatMap_cons, ih k]
      have e : (k + 1) * 4 = x.vals.length + k * 4 := by simp [Rop.vals]; omega
      rw [e, List.take_length_add_append]
theorem Rop.drop_vals (l : List Rop) : ∀ k, (l.drop k).flatMap Rop.vals = (l.flatMap Rop.vals).drop (k * 4) := by
  induction l with
  | nil => intro k; simp
  | cons x l ih =>
    intro k
    cases k with
    | zero => simp
    | succ k =>
      rw [List.drop_succ_cons, List.flatMap_cons, ih k]
      have e : (k + 1) * 4 = x.vals.length + k * 4 := by simp [Rop.vals]; omega
      rw [e, List.drop_length_add_append]
theorem Rop.erase_vals (l : List Rop) (k : Nat) : (l.eraseIdx k).flatMap Rop.vals = (l.flatMap Rop.vals).take (k * 4) ++ (l.flatMap Rop.vals).drop ((k + 1) * 4) := by
  rw [List.eraseIdx_eq_take_drop_succ, List.flatMap_append, Rop.take_vals, Rop.drop_vals]
theorem Rop.one_cell (l : List Rop) : ∀ u ∈ l.flatMap Rop.vals, u.oneCell' = true := by
  intro u hu
  obtain ⟨x, _, hx⟩ := List.mem_flatMap.1 hu
  simp only [Rop.vals, List.mem_cons, List.not_mem_nil, or_false] at hx
  rcases hx with rfl | rfl | rfl | rfl <;> rfl
theorem Sl.atRop {w : World} {A : Option Addr} {l : List Rop} (h : Sl w 4 A l.length (l.flatMap Rop.vals)) {k : Nat} {x : Rop} (hx : l[k]? = some x) :
    ∃ b off, A = some ⟨b, off, none⟩ ∧ b < w.heap.size ∧ w.cell? ⟨b, off + k * 4, none⟩ = some (.int .i64 x.kind) ∧ w.cell? ⟨b, off + k * 4 + 1, none⟩ = some (.int .i64 x.house) ∧ w.cell? ⟨b, off + k * 4 + 2, none⟩ = some (.int .i64 x.n) ∧ w.cell? ⟨b, off + k * 4 + 3, none⟩ = some (.int .i64 x.now) := by
  have hk : k < l.length := (List.getElem?_eq_some_iff.1 hx).1
  obtain ⟨b, off, hA, hb, hc⟩ := h.2 (by omega)
  have hv := Rop.vals_at l k x hx
  refine ⟨b, off, hA, hb, ?_, ?_, ?_, ?_⟩
  · have := hc (k * 4 + 0) (.int .i64 x.kind) ((hv 0 (by omega)).trans rfl)
    simpa [Nat.add_assoc] using this
  · have := hc (k * 4 + 1) (.int .i64 x.house) ((hv 1 (by omega)).trans rfl)
    simpa [Nat.add_assoc] using this
  · have := hc (k * 4 + 2) (.int .i64 x.n) ((hv 2 (by omega)).trans rfl)
    simpa [Nat.add_assoc] using this
  · have := hc (k * 4 + 3) (.int .i64 x.now) ((hv 3 (by omega)).trans rfl)
    simpa [Nat.add_assoc] using this
theorem Rop.sl_mk {w : World} {b off : Nat} {l : List Rop} (hb : b < w.heap.size) (h : ∀ i r, l[i]? = some r → ∀ j u, r.vals[j]? = some u → w.cell? ⟨b, off + (i * 4 + j), none⟩ = some u) : Sl w 4 (some ⟨b, off, none⟩) l.length (l.flatMap Rop.vals) := by
  refine ⟨Rop.vals_len l, fun _ => ⟨b, off, rfl, hb, fun j u hu => ?_⟩⟩
  have hj : j < l.length * 4 := by
    rw [← Rop.vals_len l]; exact (List.getElem?_eq_some_iff.1 hu).1
  have hi : j / 4 < l.length := by omega
  have hr : l[j / 4]? = some l[j / 4] := List.getElem?_eq_getElem hi
  have he : j = j / 4 * 4 + j % 4 := by omega
  have hv := Rop.vals_at l (j / 4) _ hr (j % 4) (by omega)
  rw [← he, hu] at hv
  have := h (j / 4) _ hr (j % 4) u hv.symm
  rwa [← he] at this
def Rop.ok (x : Rop) : Prop := -9223372036854775808 ≤ x.kind ∧ x.kind ≤ 9223372036854775807 ∧ -9223372036854775808 ≤ x.house ∧ x.house ≤ 9223372036854775807 ∧ -9223372036854775808 ≤ x.n ∧ x.n ≤ 9223372036854775807 ∧ -9223372036854775808 ≤ x.now ∧ x.now ≤ 9223372036854775807
theorem Rop.set_kind (l : List Rop) (v : Int) : ∀ (k : Nat) (x : Rop), l[k]? = some x → (l.flatMap Rop.vals).set (k * 4) (.int .i64 v) = (l.set k { x with kind := v }).flatMap Rop.vals := by
  induction l with
  | nil => intro k x h; simp at h
  | cons y l ih =>
    intro k x h
    cases k with
    | zero =>
      simp only [List.getElem?_cons_zero, Option.some.injEq] at h
      subst h
      simp [Rop.vals]
    | succ k =>
      simp only [List.getElem?_cons_succ] at h
      rw [List.flatMap_cons, List.set_cons_succ, List.flatMap_cons, ← ih k x h]
      have e : (k + 1) * 4 = (k * 4) + 4 := by omega
      rw [e]
      simp [Rop.vals]
theorem Rop.set_house (l : List Rop) (v : Int) : ∀ (k : Nat) (x : Rop), l[k]? = some x → (l.flatMap Rop.vals).set (k * 4 + 1) (.int .i64 v) = (l.set k { x with house := v }).flatMap Rop.vals := by
  induction l with
  | nil => intro k x h; simp at h
  | cons y l ih =>
    intro k x h
    cases k with
    | zero =>
      simp only [List.getElem?_cons_zero, Option.some.injEq] at h
      subst h
      simp [Rop.vals]
    | succ k =>
      simp only [List.getElem?_cons_succ] at h
      rw [List.flatMap_cons, List.set_cons_succ, List.flatMap_cons, ← ih k x h]
      have e : (k + 1) * 4 + 1 = (k * 4 + 1) + 4 := by omega
      rw [e]
      simp [Rop.vals]
theorem Rop.set_n (l : List Rop) (v : Int) : ∀ (k : Nat) (x : Rop), l[k]? = some x → (l.flatMap Rop.vals).set (k * 4 + 2) (.int .i64 v) = (l.set k { x with n := v }).flatMap Rop.vals := by
  induction l with
  | nil => intro k x h; simp at h
  | cons y l ih =>
    intro k x h
    cases k with
    | zero =>
      simp only [List.getElem?_cons_zero, Option.some.injEq] at h
      subst h
      simp [Rop.vals]
    | succ k =>
      simp only [List.getElem?_cons_succ] at h
      rw [List.flatMap_cons, List.set_cons_succ, List.flatMap_cons, ← ih k x h]
      have e : (k + 1) * 4 + 2 = (k * 4 + 2) + 4 := by omega
      rw [e]
      simp [Rop.vals]
theorem Rop.set_now (l : List Rop) (v : Int) : ∀ (k : Nat) (x : Rop), l[k]? = some x → (l.flatMap Rop.vals).set (k * 4 + 3) (.int .i64 v) = (l.set k { x with now := v }).flatMap Rop.vals := by
  induction l with
  | nil => intro k x h; simp at h
  | cons y l ih =>
    intro k x h
    cases k with
    | zero =>
      simp only [List.getElem?_cons_zero, Option.some.injEq] at h
      subst h
      simp [Rop.vals]
    | succ k =>
      simp only [List.getElem?_cons_succ] at h
      rw [List.flatMap_cons, List.set_cons_succ, List.flatMap_cons, ← ih k x h]
      have e : (k + 1) * 4 + 3 = (k * 4 + 3) + 4 := by omega
      rw [e]
      simp [Rop.vals]

/-- Rents of x in blocks new since w, and a list y that lies beside them. -/
def SR (w : Bs) (W : World) (b : Nat) (x y : List Rw) (k : Nat) (A : Option Addr) : Prop :=
  ∃ F, RS W b F x k ∧ Chg w.G w.w W ∧ (∀ j, F j → w.F j) ∧ Sl W 3 A y.length (y.flatMap Rw.vals) ∧ (0 < y.length → ∀ a, A = some a → ¬ F a.block)

section
variable {w : Bs} {w0 W W' : World} {b k : Nat} {x y z : List Rw} {A A' : Option Addr}
theorem SR.made (h : RM w0 W b x k) : SR (Bs.of w0) W b x [] k none := by
  obtain ⟨F, h1, h2, h3⟩ := h
  exact ⟨F, h1, h2.chg, h3, Sl.nil _ _ _, fun h => absurd h (by simp)⟩
theorem SR.chg (h : SR w W b x y k A) : Chg w.G w.w W := by obtain ⟨F, -, h, -⟩ := h; exact h
theorem SR.grew (h : SR (Bs.of w0) W b x y k A) : Grew w0 W := Bs.of_grew h.chg
theorem SR.sl (h : SR w W b x y k A) : Sl W 3 A y.length (y.flatMap Rw.vals) := by obtain ⟨F, -, -, -, h, -⟩ := h; exact h
theorem SR.rs (h : SR w W b x y k A) : ∃ F, RS W b F x k := by obtain ⟨F, h, -⟩ := h; exact ⟨F, h⟩
theorem SR.on (h : SR w W b x y k A) (hg : Grew W W') : SR w W' b x y k A := by
  obtain ⟨F, h1, h2, h3, h4, h5⟩ := h
  exact ⟨F, h1.grew hg, h2.grew hg, h3, h4.grew hg, h5⟩
theorem SR.list (h : SR w W b x y k A) (hg : Grew W W') (hs : Sl W' 3 A' z.length (z.flatMap Rw.vals)) (hn : ∀ a, A' = some a → W.heap.size ≤ a.block) : SR w W' b x z k A' := by
  obtain ⟨F, h1, h2, h3, h4, h5⟩ := h
  have hlt : ∀ j, F j → j < W.heap.size := by obtain ⟨R, T, qb, l, A, c, M, added, hin, hp, hk2, hF, hlt, hfit⟩ := h1; exact hlt
  exact ⟨F, h1.grew hg, h2.grew hg, h3, hs, fun _ a ha hf => by have := hn a ha; have := hlt _ hf; omega⟩
theorem SR.at (h : SR w W b x y k A) : ∃ F, RS W b F x k ∧ ∀ w' z k', RTo W w' b F z k' → SR w w' b z y k' A := by
  obtain ⟨F, h1, h2, h3, h4, h5⟩ := h
  refine ⟨F, h1, fun w' z k' ⟨F', g1, g2, g3⟩ => ⟨F', g1, Chg.trans h2 g2 fun i hi hf => w.sub i (h3 i hf), fun j hj => ?_, ?_, fun hy a ha hf => ?_⟩⟩
  · rcases g3 j hj with e | e
    · exact h3 j e
    · exact w.up j (Nat.le_trans h2.size e)
  · by_cases hy : 0 < y.length
    · exact h4.chg g2 (h5 hy)
    · obtain rfl : y = [] := List.eq_nil_of_length_eq_zero (by omega)
      exact Sl.nil _ _ _
  · rcases g3 _ hf with e | e
    · exact h5 hy a ha e
    · obtain ⟨g, off, rfl, hb, -⟩ := h4.2 hy
      cases ha
      simp only [] at e
      omega
theorem SR.len (h : SR w W b x y k A) : x.length ≤ k := by
  obtain ⟨F, ⟨R, T, qb, l, A, c, M, added, hin, hp, hk2, hF, hlt, hfit⟩, -⟩ := h
  exact hk2.2.2
theorem SR.fits (h : SR w W b x y k A) : ∀ r ∈ x, r.fit := by obtain ⟨F, h, -⟩ := h; exact h.fits
theorem SR.more {k' : Nat} (h : SR w W b x y k A) (hk : k ≤ k') : SR w W b x y k' A := by
  obtain ⟨F, h1, h2⟩ := h
  exact ⟨F, h1.more hk, h2⟩
end

theorem RTo.chg {w w' : World} {b k : Nat} {F : Nat → Prop} {x : List Rw} (h : RTo w w' b F x k) : Chg F w w' := by obtain ⟨F', -, h, -⟩ := h; exact h
theorem RS.lt {w : World} {b k : Nat} {F : Nat → Prop} {x : List Rw} (h : RS w b F x k) : ∀ j, F j → j < w.heap.size := by obtain ⟨R, T, qb, l, A, c, M, added, hin, hp, hk2, hF, hlt, hfit⟩ := h; exact hlt

/-- What a call makes of the rows. -/
def stepL (x : List Rw) (o : Rop) : List Rw := if o.kind = 1 then (addL x o.house o.n o.now).1 else if o.kind = 2 then (payL x o.house o.n o.now).1 else if o.kind = 3 then dropL x o.house else x

/-- What the law's step leaves. -/
def StepTo (w : Bs) (w' : World) (b : Nat) (x : List Rw) (k : Nat) (e : Ending) : Prop := ∃ A c, e = .returned (.tuple #[.slice A x.length c, .bool true]) ∧ SR w w' b x x k A
theorem StepTo.mk {w : Bs} {w' : World} {b : Nat} {x : List Rw} {k : Nat} {e : Ending} (A : Option Addr) (c : Nat) (he : e = .returned (.tuple #[.slice A x.length c, .bool true])) (h : SR w w' b x x k A) : StepTo w w' b x k e := ⟨A, c, he, h⟩

theorem dropL_none {x : List Rw} {h : Int} (e : fnd x h = none) : dropL x h = x := by
  unfold dropL
  rw [List.filter_eq_self]
  intro r hr
  simpa using fnd_none.1 e r hr

set_option maxRecDepth 100000 in
set_option maxHeartbeats 1600000 in
theorem rstep_other (o : Rop) (w : Bs) (W : World) (b k : Nat) (x : List Rw) (A : Option Addr) (c : Nat) (h : SR w W b x x k A) (h1 : o.kind ≠ 1) (h2 : o.kind ≠ 2) (h3 : o.kind ≠ 3) :
    Calls Try.prog 14 #[.pointer (some ⟨b, 0, none⟩), .slice A x.length c, (.agg #[.int .i64 o.kind, .int .i64 o.house, .int .i64 o.n, .int .i64 o.now])] W fun e w' => StepTo w w' b (stepL x o) (k + 1) e := by
  have hv : stepL x o = x := by unfold stepL; rw [if_neg h1, if_neg h2, if_neg h3]
  rw [hv]
  have t1 : (o.kind == 1) = false := beq_eq_false_iff_ne.2 h1
  have t2 : (o.kind == 2) = false := beq_eq_false_iff_ne.2 h2
  have t3 : (o.kind == 3) = false := beq_eq_false_iff_ne.2 h3
  have H := Lib.hid h
  clear hv h1 h2 h3 h
  go_enter Try.func14, Try.ntmps14
  go_wp2
  go_ret2
  exact StepTo.mk A c rfl ((H.out.on (by (repeat (first | (with_reducible exact (Chg.refl _ _)) | (with_reducible refine Chg.alloc ?_ _) | (with_reducible refine Chg.drew ?_) | (with_reducible refine Chg.drewN ?_ _) | ((with_reducible refine Chg.setCell ?_ ?hp _); (case hp => (intro h; exfalso; simp at h; try omega))))))).more (by omega))

set_option maxRecDepth 100000 in
set_option maxHeartbeats 1600000 in
theorem rstep_add (o : Rop) (w : Bs) (W : World) (b k : Nat) (x : List Rw) (A : Option Addr) (c : Nat) (h : SR w W b x x k A) (hk : k ≤ 900000) (ho : o.ok) (h1 : o.kind = 1) :
    Calls Try.prog 14 #[.pointer (some ⟨b, 0, none⟩), .slice A x.length c, (.agg #[.int .i64 o.kind, .int .i64 o.house, .int .i64 o.n, .int .i64 o.now])] W fun e w' => StepTo w w' b (stepL x o) (k + 1) e := by
  have hv : stepL x o = (addL x o.house o.n o.now).1 := by unfold stepL; rw [if_pos h1]
  rw [hv]
  have t1 : (o.kind == 1) = true := by simp [h1]
  have hh : -9223372036854775808 ≤ o.house ∧ o.house ≤ 9223372036854775807 := ⟨ho.2.2.1, ho.2.2.2.1⟩
  obtain ⟨y, ey⟩ : ∃ y, addL x o.house o.n o.now = y := ⟨_, rfl⟩
  rw [ey]
  have H := Lib.hid h
  have hl : x.length ≤ 1000000 := by have := h.len; omega
  have Hh := Lib.hid hh
  by_cases h0 : y.2 = 0
  · have Hx := Lib.hid (fun (W : World) A c hs => xadd_new x o.house o.n o.now A c W hs hl (by rw [ey]; exact h0))
    have Hr := Lib.hid (fun F W hs => radd_any b F x k o.house o.n o.now W hs hk hh)
    rw [ey] at Hx Hr
    rw [h0] at Hr
    clear hv h1 h ho hh ey h0
    go_enter Try.func14, Try.ntmps14
    go_wp2_with (first
      | (go_at_call 31; refine (Hx.out _ A c (H.out.on ((Chg.refl _ _).alloc _)).sl).mono ?_; rintro e w1 ⟨A1, c1, rfl, hs1, hg1, hn1⟩; have H1 := Lib.hid ((H.out.on ((Chg.refl _ _).alloc _)).list hg1 hs1 hn1); have d0 := fun i => hg1.cell (p := ⟨W.heap.size, i, none⟩) (by simp) id; have z0 : W.heap.size < w1.heap.size := (by have := hg1.size; simp at this; omega); clear hs1 hg1 hn1)
      | (go_at_call 10; obtain ⟨F, hrs, nx⟩ := H1.out.at; refine (Hr.out F _ hrs).mono ?_; rintro e w2 ⟨rfl, ht2⟩; have H2 := Lib.hid (nx _ _ _ ht2); clear ht2 nx hrs))
    go_ret2
    exact StepTo.mk A1 c1 rfl H2.out
  · have Hx := Lib.hid (fun (W : World) A c hs => xadd_same x o.house o.n o.now A c W hs hl (by rw [ey]; exact h0))
    have Hr := Lib.hid (fun F W hs => radd_any b F x k o.house o.n o.now W hs hk hh)
    have hy : y.1 = x := by rw [← ey]; exact addL_same (by rw [ey]; exact h0)
    rw [ey] at Hx Hr
    rw [hy] at Hx Hr ⊢
    clear hv h1 h ho hh ey h0 hy
    have t2 : (y.2 == y.2) = true := by simp
    go_enter Try.func14, Try.ntmps14
    go_wp2_with (first
      | (go_at_call 31; refine (Hx.out _ A c (H.out.on ((Chg.refl _ _).alloc _)).sl).mono ?_; rintro e w1 ⟨rfl, rfl⟩)
      | (go_at_call 10; obtain ⟨F, hrs, nx⟩ := (H.out.on ((Chg.refl _ _).alloc (.cells #[.int .i64 o.kind, .int .i64 o.house, .int .i64 o.n, .int .i64 o.now] 36))).at; refine (Hr.out F _ hrs).mono ?_; rintro e w2 ⟨rfl, ht2⟩; have H2 := Lib.hid (nx _ _ _ ht2); clear ht2 nx hrs))
    go_ret2
    exact StepTo.mk A c rfl H2.out

end Go.Proofs.Ytjpkpckgkhbfpaa
