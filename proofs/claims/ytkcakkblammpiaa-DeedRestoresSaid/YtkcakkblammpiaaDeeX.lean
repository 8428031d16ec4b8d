/- The law's step of the deeds. -/
import Derived.Test.YtkcakkblammpiaaDeeW
namespace Go.Proofs.Ytkcakkblammpiaa
open Go.RowKit

structure Dop where
  kind : Int
  a : Int
  b : Int
  deriving DecidableEq
def Dop.vals (x : Dop) : List Value := [.int .i64 x.kind, .int .i64 x.a, .int .i64 x.b]
def Dop.zero : Dop := ⟨0, 0, 0⟩
theorem Dop.vals_len (l : List Dop) : (l.flatMap Dop.vals).length = l.length * 3 := by
  induction l with
  | nil => rfl
  | cons x l ih => rw [List.flatMap_cons, List.length_append, ih, List.length_cons]; simp only [Dop.vals, List.length_cons, List.length_nil]; omega
theorem Dop.vals_at (l : List Dop) : ∀ (k : Nat) (x : Dop), l[k]? = some x → ∀ j, j < 3 → (l.flatMap Dop.vals)[k * 3 + j]? = x.vals[j]? := by
  induction l with
  | nil => intro k x h; simp at h
  | cons y l ih =>
    intro k x h j hj
    cases k with
    | zero =>
      simp only [List.getElem?_cons_zero, Option.some.injEq] at h
      subst h
      rw [List.flatMap_cons, Nat.zero_mul, Nat.zero_add, List.getElem?_append_left (by simp [Dop.vals]; omega)]
    | succ k =>
      simp only [List.getElem?_cons_succ] at h
      rw [List.flatMap_cons, List.getElem?_append_right (by simp [Dop.vals]; omega)]
      rw [← ih k x h j hj]
      congr 1
      simp [Dop.vals]
      omega
theorem Dop.take_vals (l : List Dop) : ∀ k, (l.take k).flatMap Dop.vals = (l.flatMap Dop.vals).take (k * 3) := by
  induction l with
  | nil => intro k; simp
  | cons x l ih =>
    intro k
    cases k with
    | zero => simp
    | succ k =>
      rw [List.take_succ_cons, List.flatMap_cons, List.flatMap_cons, ih k]
      have e : (k + 1) * 3 = x.vals.length + k * 3 := by simp [Dop.vals]; omega
      rw [e, List.take_length_add_append]
theorem Dop.drop_vals (l : List Dop) : ∀ k, (l.drop k).flatMap Dop.vals = (l.flatMap Dop.vals).drop (k * 3) := by
  induction l with
  | nil => intro k; simp
  | cons x l ih =>
    intro k
    cases k with
    | zero => simp
    | succ k =>
      rw [List.drop_succ_cons, List.flatMap_cons, ih k]
      have e : (k + 1) * 3 = x.vals.length + k * 3 := by simp [Dop.vals]; omega
      rw [e, List.drop_length_add_append]
theorem Dop.erase_vals (l : List Dop) (k : Nat) : (l.eraseIdx k).flatMap Dop.vals = (l.flatMap Dop.vals).take (k * 3) ++ (l.flatMap Dop.vals).drop ((k + 1) * 3) := by
  rw [List.eraseIdx_eq_take_drop_succ, List.flatMap_append, Dop.take_vals, Dop.drop_vals]
theorem Dop.one_cell (l : List Dop) : ∀ u ∈ l.flatMap Dop.vals, u.oneCell' = true := by
  intro u hu
  obtain ⟨x, _, hx⟩ := List.mem_flatMap.1 hu
  simp only [Dop.vals, List.mem_cons, List.not_mem_nil, or_false] at hx
  rcases hx with rfl | rfl | rfl <;> rfl
theorem Sl.atDop {w : World} {A : Option Addr} {l : List Dop} (h : Sl w 3 A l.length (l.flatMap Dop.vals)) {k : Nat} {x : Dop} (hx : l[k]? = some x) :
    ∃ b off, A = some ⟨b, off, none⟩ ∧ b < w.heap.size ∧ w.cell? ⟨b, off + k * 3, none⟩ = some (.int .i64 x.kind) ∧ w.cell? ⟨b, off + k * 3 + 1, none⟩ = some (.int .i64 x.a) ∧ w.cell? ⟨b, off + k * 3 + 2, none⟩ = some (.int .i64 x.b) := by
  have hk : k < l.length := (List.getElem?_eq_some_iff.1 hx).1
  obtain ⟨b, off, hA, hb, hc⟩ := h.2 (by omega)
  have hv := Dop.vals_at l k x hx
  refine ⟨b, off, hA, hb, ?_, ?_, ?_⟩
  · have := hc (k * 3 + 0) (.int .i64 x.kind) ((hv 0 (by omega)).trans rfl)
    simpa [Nat.add_assoc] using this
  · have := hc (k * 3 + 1) (.int .i64 x.a) ((hv 1 (by omega)).trans rfl)
    simpa [Nat.add_assoc] using this
  · have := hc (k * 3 + 2) (.int .i64 x.b) ((hv 2 (by omega)).trans rfl)
    simpa [Nat.add_assoc] using this
theorem Dop.sl_mk {w : World} {b off : Nat} {l : List Dop} (hb : b < w.heap.size) (h : ∀ i r, l[i]? = some r → ∀ j u, r.vals[j]? = some u → w.cell? ⟨b, off + (i * 3 + j), none⟩ = some u) : Sl w 3 (some ⟨b, off, none⟩) l.length (l.flatMap Dop.vals) := by
  refine ⟨Dop.vals_len l, fun _ => ⟨b, off, rfl, hb, fun j u hu => ?_⟩⟩
  have hj : j < l.length * 3 := by
    rw [← Dop.vals_len l]; exact (List.getElem?_eq_some_iff.1 hu).1
  have hi : j / 3 < l.length := by omega
  have hr : l[j / 3]? = some l[j / 3] := List.getElem?_eq_getElem hi
  have he : j = j / 3 * 3 + j % 3 := by omega
  have hv := Dop.vals_at l (j / 3) _ hr (j % 3) (by omega)
  rw [← he, hu] at hv
  have := h (j / 3) _ hr (j % 3) u hv.symm
  rwa [← he] at this
def Dop.ok (x : Dop) : Prop := -9223372036854775808 ≤ x.kind ∧ x.kind ≤ 9223372036854775807 ∧ -9223372036854775808 ≤ x.a ∧ x.a ≤ 9223372036854775807 ∧ -9223372036854775808 ≤ x.b ∧ x.b ≤ 9223372036854775807
theorem Dop.set_kind (l : List Dop) (v : Int) : ∀ (k : Nat) (x : Dop), l[k]? = some x → (l.flatMap Dop.vals).set (k * 3) (.int .i64 v) = (l.set k { x with kind := v }).flatMap Dop.vals := by
  induction l with
  | nil => intro k x h; simp at h
  | cons y l ih =>
    intro k x h
    cases k with
    | zero =>
      simp only [List.getElem?_cons_zero, Option.some.injEq] at h
      subst h
      simp [Dop.vals]
    | succ k =>
      simp only [List.getElem?_cons_succ] at h
      rw [List.flatMap_cons, List.set_cons_succ, List.flatMap_cons, ← ih k x h]
      have e : (k + 1) * 3 = (k * 3) + 3 := by omega
      rw [e]
      simp [Dop.vals]
theorem Dop.set_a (l : List Dop) (v : Int) : ∀ (k : Nat) (x : Dop), l[k]? = some x → (l.flatMap Dop.vals).set (k * 3 + 1) (.int .i64 v) = (l.set k { x with a := v }).flatMap Dop.vals := by
  induction l with
  | nil => intro k x h; simp at h
  | cons y l ih =>
    intro k x h
    cases k with
    | zero =>
      simp only [List.getElem?_cons_zero, Option.some.injEq] at h
      subst h
      simp [Dop.vals]
    | succ k =>
      simp only [List.getElem?_cons_succ] at h
      rw [List.flatMap_cons, List.set_cons_succ, List.flatMap_cons, ← ih k x h]
      have e : (k + 1) * 3 + 1 = (k * 3 + 1) + 3 := by omega
      rw [e]
      simp [Dop.vals]
theorem Dop.set_b (l : List Dop) (v : Int) : ∀ (k : Nat) (x : Dop), l[k]? = some x → (l.flatMap Dop.vals).set (k * 3 + 2) (.int .i64 v) = (l.set k { x with b := v }).flatMap Dop.vals := by
  induction l with
  | nil => intro k x h; simp at h
  | cons y l ih =>
    intro k x h
    cases k with
    | zero =>
      simp only [List.getElem?_cons_zero, Option.some.injEq] at h
      subst h
      simp [Dop.vals]
    | succ k =>
      simp only [List.getElem?_cons_succ] at h
      rw [List.flatMap_cons, List.set_cons_succ, List.flatMap_cons, ← ih k x h]
      have e : (k + 1) * 3 + 2 = (k * 3 + 2) + 3 := by omega
      rw [e]
      simp [Dop.vals]

theorem Sl.keep {w w' : World} {s n : Nat} {A : Option Addr} {xs : List Value} {F : Nat → Prop} (h : Sl w s A n xs) (hc : Chg F w w') (hF : 0 < n → ∀ a, A = some a → ¬ F a.block) : Sl w' s A n xs :=
  ⟨h.1, fun hn => by
    obtain ⟨b, off, e, hb, hx⟩ := h.2 hn
    exact ⟨b, off, e, Nat.lt_of_lt_of_le hb hc.size, fun j u hu => (hc.cell (p := ⟨b, off + j, none⟩) hb (fun f => hF hn _ e f)).trans (hx j u hu)⟩⟩
theorem Sl.lt {w : World} {s n : Nat} {A : Option Addr} {xs : List Value} (h : Sl w s A n xs) (hn : 0 < n) : ∀ a, A = some a → a.block < w.heap.size := by
  intro a ha
  obtain ⟨b, off, e, hb, _⟩ := h.2 hn
  rw [e] at ha; injection ha with ha; subst ha; exact hb

/-- What a step leaves. -/
def StepTo (w w' : World) (b : Nat) (A : Option Addr) (nx : Int) (l : List Dee) (e : Ending) : Prop :=
  ∃ Ar cr A' c', e = .returned (.tuple #[.agg #[.slice Ar l.length cr, .int .i64 nx], .bool true]) ∧ DeedsIn w' b nx l A' c' ∧ Sl w' 3 Ar l.length (l.flatMap Dee.vals) ∧ (0 < l.length → ∀ a, Ar = some a → ¬ BF b A' a.block) ∧
    Chg (BF b A) w w' ∧ (∀ k, BF b A' k → BF b A k ∨ w.heap.size ≤ k)

theorem StepTo.same {w w' : World} {b c : Nat} {nx : Int} {l : List Dee} {A Ar : Option Addr} {e : Ending} (h : Both w b nx l A c Ar) (cr : Nat) (he : e = .returned (.tuple #[.agg #[.slice Ar l.length cr, .int .i64 nx], .bool true])) (hg : Grew w w') : StepTo w w' b A nx l e :=
  ⟨Ar, cr, A, c, he, h.isIn.grew hg, h.sl.grew hg, h.far, hg.chg, fun _ => .inl⟩

theorem StepTo.made {w w0 w1 w2 w3 : World} {b c c' cr N : Nat} {nx nx' : Int} {l l' : List Dee} {A A' Ar Ar' : Option Addr} {e : Ending} (h : Both w b nx l A c Ar) (he : e = .returned (.tuple #[.agg #[.slice Ar' l'.length cr, .int .i64 nx'], .bool true]))
    (hg : Grew w w0) (hs : Sl w1 3 Ar' l'.length (l'.flatMap Dee.vals)) (hn : ∀ a, Ar' = some a → w0.heap.size ≤ a.block) (hg1 : Grew w0 w1)
    (hi : DeedsIn w2 b nx' l' A' c') (hc : Chg (BF b A) w1 w2) (hF : ∀ k, BF b A' k → BF b A k ∨ w1.heap.size ≤ k) (h3 : Chg (fun j => j = N) w2 w3) (hN : w.heap.size ≤ N) (hN0 : N < w0.heap.size) : StepTo w w3 b A nx' l' e := by
  have hz : ∀ k, BF b A k → k < w.heap.size := fun k hk => BF_lt h.isIn hk
  have hs0 := hg.size
  have hs1 := hg1.size
  have hs2 := hc.size
  have hNF : ¬ BF b A' N := fun hb => by
    rcases hF _ hb with h1 | h1
    · have := hz _ h1; omega
    · omega
  refine ⟨Ar', cr, A', c', he, hi.chg h3 (fun e => hNF (e ▸ .inl rfl)) (fun a ha e => hNF (e ▸ .inr ⟨a, ha, rfl⟩)), (hs.keep hc (fun hp a ha hb => ?_)).keep h3 (fun hp a ha hb => ?_), fun hp a ha hb => ?_, ((Grew.trans hg hg1).then hc).trans h3 (fun i hi e => by omega), fun k hk => ?_⟩
  · have := hn a ha; have := hz _ hb; omega
  · have := hn a ha; omega
  · rcases hF _ hb with h1 | h1
    · have := hn a ha; have := hz _ h1; omega
    · have := hs.lt hp a ha; omega
  · rcases hF k hk with h1 | h1
    · exact .inl h1
    · right; omega

/-- The boxes that the step lays first. -/
theorem step_boxes (w : World) (o : Dop) (X : Array Value) : ∃ W, ((w.alloc (.cells X 28)).alloc (.cells #[.int .i64 o.kind, .int .i64 o.a, .int .i64 o.b] 30)).alloc (.cells #[.slice none 0 0, .int .i64 0] 28) = W ∧ Grew w W ∧
    Blk W w.heap.size 28 X ∧ Blk W (w.heap.size + 1) 30 #[.int .i64 o.kind, .int .i64 o.a, .int .i64 o.b] ∧ Blk W (w.heap.size + 2) 28 #[.slice none 0 0, .int .i64 0] := by
  refine ⟨_, rfl, (((Chg.refl _ _).alloc _).alloc _).alloc _, ((Blk.new _ _ _).alloc _).alloc _, ?_, ?_⟩
  · have := (Blk.new (w.alloc (.cells X 28)) 30 #[.int .i64 o.kind, .int .i64 o.a, .int .i64 o.b]).alloc (.cells #[.slice none 0 0, .int .i64 0] 28)
    simpa using this
  · have := Blk.new ((w.alloc (.cells X 28)).alloc (.cells #[.int .i64 o.kind, .int .i64 o.a, .int .i64 o.b] 30)) 28 #[.slice none 0 0, .int .i64 0]
    simpa using this

set_option maxRecDepth 100000 in
set_option maxHeartbeats 1600000 in
theorem step_none (b : Nat) (nx : Int) (l : List Dee) (o : Dop) (A Ar : Option Addr) (c cr : Nat) (w : World) (h : Both w b nx l A c Ar) (h1 : o.kind ≠ 1) (h2 : o.kind ≠ 2) (h3 : o.kind ≠ 3) :
    Calls Try.prog 9 #[.pointer (some ⟨b, 0, none⟩), .agg #[.slice Ar l.length cr, .int .i64 nx], (.agg #[.int .i64 o.kind, .int .i64 o.a, .int .i64 o.b])] w fun e w' => StepTo w w' b A nx l e := by
  obtain ⟨W, hW, hg, b0, b1, b2⟩ := step_boxes w o #[.slice Ar l.length cr, .int .i64 nx]
  have H := Lib.hid h
  have k1 : (o.kind == 1) = false := by simpa using h1
  have k2 : (o.kind == 2) = false := by simpa using h2
  have k3 : (o.kind == 3) = false := by simpa using h3
  obtain ⟨c0, f0, s0⟩ := b0.facts
  obtain ⟨c1, f1, s1⟩ := b1.facts
  obtain ⟨c2, f2, s2⟩ := b2.facts
  have HW := Lib.hid hW
  clear h h1 h2 h3 hW b0 b1 b2
  go_enter Try.func9, Try.ntmps9
  go_wp2_with (rw [HW.out])
  refine bodyPost_ret (v := .tuple #[.agg #[.slice Ar l.length cr, .int .i64 nx], .bool true]) (by simp [results, Try.results9, go_sem, c2, s2]) rfl (StepTo.same H.out cr rfl ?_)
  have hsz := hg.size
  (repeat (first | (with_reducible exact hg) | (with_reducible refine Chg.alloc ?_ _) | (with_reducible refine Chg.drew ?_) | (with_reducible refine Chg.drewN ?_ _) | ((with_reducible refine Chg.setCell ?_ ?hp _); (case hp => (intro h; exfalso; simp at h; try omega)))))

set_option maxRecDepth 100000 in
set_option maxHeartbeats 1600000 in
theorem step_issue_no (b : Nat) (nx r : Int) (l : List Dee) (o : Dop) (A Ar : Option Addr) (c cr : Nat) (w : World) (h : Both w b nx l A c Ar) (h1 : o.kind = 1) (hr : issueE l o.a o.b = r) (hr0 : r ≠ 0) :
    Calls Try.prog 9 #[.pointer (some ⟨b, 0, none⟩), .agg #[.slice Ar l.length cr, .int .i64 nx], (.agg #[.int .i64 o.kind, .int .i64 o.a, .int .i64 o.b])] w fun e w' => StepTo w w' b A nx l e := by
  obtain ⟨W, hW, hg, b0, b1, b2⟩ := step_boxes w o #[.slice Ar l.length cr, .int .i64 nx]
  have hl : l.length ≤ 1000000 := by have := h.rt.len; have := h.nb; omega
  have H := Lib.hid h
  have k1 : (o.kind == 1) = true := by simpa using h1
  have B1 := Lib.hid b1
  have B2 := Lib.hid b2
  obtain ⟨c0, f0, s0⟩ := b0.facts
  obtain ⟨c1, f1, s1⟩ := b1.facts
  have Hg := Lib.hid hg
  have HW := Lib.hid hW
  have Hr := Lib.hid hr
  clear h h1 hW b0 b1 b2 hr hg
  go_enter Try.func9, Try.ntmps9
  go_wp2_with (first
    | (rw [HW.out])
    | (go_at_call 27; refine (rissue_no nx o.a o.b r l Ar cr _ (H.out.sl.grew Hg.out) hl Hr.out hr0).mono ?_; rintro e w1 ⟨rfl, hg1⟩; have HG1 := Lib.hid (Grew.trans Hg.out hg1); have B21 := Lib.hid (B2.out.grew hg1); clear c0 f0 s0 c1 f1 s1; obtain ⟨c1, f1, s1⟩ := (B1.out.grew hg1).facts; have BY := Lib.hid (Blk.new w1 28 #[.slice Ar l.length cr, .int .i64 nx]); clear hg1)
    | (go_at_call 21; refine (issue_no b nx o.a o.b r l A c _ (H.out.isIn.grew (HG1.out.alloc _)) hl Hr.out hr0).mono ?_; rintro e w2 ⟨rfl, hg2⟩; have HG2 := Lib.hid (Grew.trans (HG1.out.alloc _) hg2); clear c1 f1 s1; obtain ⟨c2, f2, s2⟩ := ((B21.out.alloc _).grew hg2).facts; obtain ⟨c3, f3, s3⟩ := (BY.out.grew hg2).facts; have hsz := HG1.out.size; have hs1 := B21.out.lt; clear hg2))
  refine bodyPost_ret (v := .tuple #[.agg #[.slice Ar l.length cr, .int .i64 nx], .bool true]) (by simp [results, Try.results9, go_sem, c2, s2]) rfl (StepTo.same H.out cr rfl ?_)
  (repeat (first | (with_reducible exact HG2.out) | (with_reducible refine Chg.alloc ?_ _) | (with_reducible refine Chg.drew ?_) | (with_reducible refine Chg.drewN ?_ _) | ((with_reducible refine Chg.setCell ?_ ?hp _); (case hp => (intro h; exfalso; simp at h; try omega)))))

set_option maxRecDepth 100000 in
set_option maxHeartbeats 1600000 in
theorem step_issue_yes (b : Nat) (nx : Int) (l : List Dee) (o : Dop) (A Ar : Option Addr) (c cr : Nat) (w : World) (h : Both w b nx l A c Ar) (h1 : o.kind = 1) (hr : issueE l o.a o.b = 0) (l' : List Dee) (hl' : l ++ [⟨nx, o.a, o.b⟩] = l') :
    Calls Try.prog 9 #[.pointer (some ⟨b, 0, none⟩), .agg #[.slice Ar l.length cr, .int .i64 nx], (.agg #[.int .i64 o.kind, .int .i64 o.a, .int .i64 o.b])] w fun e w' => StepTo w w' b A (nx + 1) l' e := by
  obtain ⟨W, hW, hg, b0, b1, b2⟩ := step_boxes w o #[.slice Ar l.length cr, .int .i64 nx]
  have hl : l.length ≤ 1000000 := by have := h.rt.len; have := h.nb; omega
  have hn0 : 0 ≤ nx := by have := h.rt.len; omega
  have hn1 : nx ≤ 4611686018427387904 := by have := h.nb; omega
  have H := Lib.hid h
  have k1 : (o.kind == 1) = true := by simpa using h1
  have B1 := Lib.hid b1
  have B2 := Lib.hid b2
  obtain ⟨c0, f0, s0⟩ := b0.facts
  obtain ⟨c1, f1, s1⟩ := b1.facts
  have Hg := Lib.hid hg
  have HW := Lib.hid hW
  have Hr := Lib.hid hr
  have Hl' := Lib.hid hl'
  have Hbf := Lib.hid (show ∀ k, BF b A k → k < w.heap.size from fun k hk => BF_lt h.isIn hk)
  clear h h1 hW b0 b1 b2 hr hg hl'
  go_enter Try.func9, Try.ntmps9
  go_wp2_with (first
    | (rw [HW.out])
    | (go_at_call 27; refine (rissue_yes nx o.a o.b l Ar cr _ (H.out.sl.grew Hg.out) hl Hr.out hn0 hn1 l' Hl'.out).mono ?_; rintro e w1 ⟨Ar1, cr1, rfl, hs1, hg1, hn1⟩; have HS1 := Lib.hid (And.intro hs1 (And.intro hg1 hn1)); have HG1 := Lib.hid (Grew.trans Hg.out hg1); have B21 := Lib.hid (B2.out.grew hg1); clear c0 f0 s0 c1 f1 s1; obtain ⟨c1, f1, s1⟩ := (B1.out.grew hg1).facts; have BY := Lib.hid (Blk.new w1 28 #[.slice Ar1 l'.length cr1, .int .i64 (nx + 1)]); have hsz1 := HG1.out.size; clear hg1 hs1 hn1)
    | (go_at_call 21; refine (issue_yes b nx o.a o.b l A c _ (H.out.isIn.grew (HG1.out.alloc _)) hl Hr.out hn0 (by omega)).mono ?_; rintro e w2 ⟨rfl, ht⟩; rw [Hl'.out] at ht; have HT := Lib.hid ht; clear c1 f1 s1 ht; obtain ⟨A2, c2', hi2, hc2, hF2⟩ := HT.out; have hs1 := B21.out.lt; obtain ⟨c2, f2, s2⟩ := ((B21.out.alloc _).chg hc2 (fun q => by have := Hbf.out _ q; omega)).facts; obtain ⟨c3, f3, s3⟩ := (BY.out.chg hc2 (fun q => by have := Hbf.out _ q; omega)).facts; have HC2 := Lib.hid hc2; have HI2 := Lib.hid (And.intro hi2 hF2); clear hi2 hc2 hF2))
  refine bodyPost_ret (v := .tuple #[.agg #[.slice Ar1 l'.length cr1, .int .i64 (nx + 1)], .bool true]) (by simp [results, Try.results9, go_sem, c2, s2]) rfl ?_
  have hW2 : w.heap.size + 2 < W.heap.size := B2.out.lt
  refine StepTo.made (cr := cr1) (Ar' := Ar1) (N := w.heap.size + 2) (w0 := W) (w1 := w1.alloc (.cells #[.slice Ar1 l'.length cr1, .int .i64 (nx + 1)] 28)) (w2 := w2) (A' := A2) (c' := c2') H.out rfl Hg.out (HS1.out.1.grew ((Chg.refl _ _).alloc _)) HS1.out.2.2 (HS1.out.2.1.alloc _) HI2.out.1 HC2.out HI2.out.2 ?_ (by omega) hW2
  (repeat (first | (with_reducible exact Chg.refl _ _) | (with_reducible refine Chg.alloc ?_ _) | (with_reducible refine Chg.drew ?_) | (with_reducible refine Chg.drewN ?_ _) | ((with_reducible refine Chg.setCell ?_ ?hp _); (case hp => exact fun _ => rfl))))

end Go.Proofs.Ytkcakkblammpiaa
