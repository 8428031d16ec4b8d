/- The pool and its list, side by side: the law's step. -/
import Derived.Test.YtenmilemdkhijaaDoorPoolK
namespace Go.Proofs.YtenmilemdkhijaaDoor
open Go.RowKit

structure Pop where
  kind : Int
  n : Int
  deriving DecidableEq
def Pop.vals (x : Pop) : List Value := [.int .i64 x.kind, .int .i64 x.n]
def Pop.zero : Pop := ⟨0, 0⟩
theorem Pop.vals_len (l : List Pop) : (l.flatMap Pop.vals).length = l.length * 2 := by
  induction l with
  | nil => rfl
  | cons x l ih => rw [List.flatMap_cons, List.length_append, ih, List.length_cons]; simp only [Pop.vals, List.length_cons, List.length_nil]; omega
theorem Pop.vals_at (l : List Pop) : ∀ (k : Nat) (x : Pop), l[k]? = some x → ∀ j, j < 2 → (l.flatMap Pop.vals)[k * 2 + j]? = x.vals[j]? := by
  induction l with
  | nil => intro k x h; simp at h
  | cons y l ih =>
    intro k x h j hj
    cases k with
    | zero =>
      simp only [List.getElem?_cons_zero, Option.some.injEq] at h
      subst h
      rw [List.flatMap_cons, Nat.zero_mul, Nat.zero_add, List.getElem?_append_left (by simp [Pop.vals]; omega)]
    | succ k =>
      simp only [List.getElem?_cons_succ] at h
      rw [List.flatMap_cons, List.getElem?_append_right (by simp [Pop.vals]; omega)]
      rw [← ih k x h j hj]
      congr 1
      simp [Pop.vals]
      omega
theorem Pop.take_vals (l : List Pop) : ∀ k, (l.take k).flatMap Pop.vals = (l.flatMap Pop.vals).take (k * 2) := by
  induction l with
  | nil => intro k; simp
  | cons x l ih =>
    intro k
    cases k with
    | zero => simp
    | succ k =>
      rw [List.take_succ_cons, List.flatMap_cons, List.flatMap_cons, ih k]
      have e : (k + 1) * 2 = x.vals.length + k * 2 := by simp [Pop.vals]; omega
      rw [e, List.take_length_add_append]
theorem Pop.drop_vals (l : List Pop) : ∀ k, (l.drop k).flatMap Pop.vals = (l.flatMap Pop.vals).drop (k * 2) := by
  induction l with
  | nil => intro k; simp
  | cons x l ih =>
    intro k
    cases k with
    | zero => simp
    | succ k =>
      rw [List.drop_succ_cons, List.flatMap_cons, ih k]
      have e : (k + 1) * 2 = x.vals.length + k * 2 := by simp [Pop.vals]; omega
      rw [e, List.drop_length_add_append]
theorem Pop.erase_vals (l : List Pop) (k : Nat) : (l.eraseIdx k).flatMap Pop.vals = (l.flatMap Pop.vals).take (k * 2) ++ (l.flatMap Pop.vals).drop ((k + 1) * 2) := by
  rw [List.eraseIdx_eq_take_drop_succ, List.flatMap_append, Pop.take_vals, Pop.drop_vals]
theorem Pop.one_cell (l : List Pop) : ∀ u ∈ l.flatMap Pop.vals, u.oneCell' = true := by
  intro u hu
  obtain ⟨x, _, hx⟩ := List.mem_flatMap.1 hu
  simp only [Pop.vals, List.mem_cons, List.not_mem_nil, or_false] at hx
  rcases hx with rfl | rfl <;> rfl
theorem Sl.atPop {w : World} {A : Option Addr} {l : List Pop} (h : Sl w 2 A l.length (l.flatMap Pop.vals)) {k : Nat} {x : Pop} (hx : l[k]? = some x) :
    ∃ b off, A = some ⟨b, off, none⟩ ∧ b < w.heap.size ∧ w.cell? ⟨b, off + k * 2, none⟩ = some (.int .i64 x.kind) ∧ w.cell? ⟨b, off + k * 2 + 1, none⟩ = some (.int .i64 x.n) := by
  have hk : k < l.length := (List.getElem?_eq_some_iff.1 hx).1
  obtain ⟨b, off, hA, hb, hc⟩ := h.2 (by omega)
  have hv := Pop.vals_at l k x hx
  refine ⟨b, off, hA, hb, ?_, ?_⟩
  · have := hc (k * 2 + 0) (.int .i64 x.kind) ((hv 0 (by omega)).trans rfl)
    simpa [Nat.add_assoc] using this
  · have := hc (k * 2 + 1) (.int .i64 x.n) ((hv 1 (by omega)).trans rfl)
    simpa [Nat.add_assoc] using this
theorem Pop.sl_mk {w : World} {b off : Nat} {l : List Pop} (hb : b < w.heap.size) (h : ∀ i r, l[i]? = some r → ∀ j u, r.vals[j]? = some u → w.cell? ⟨b, off + (i * 2 + j), none⟩ = some u) : Sl w 2 (some ⟨b, off, none⟩) l.length (l.flatMap Pop.vals) := by
  refine ⟨Pop.vals_len l, fun _ => ⟨b, off, rfl, hb, fun j u hu => ?_⟩⟩
  have hj : j < l.length * 2 := by
    rw [← Pop.vals_len l]; exact (List.getElem?_eq_some_iff.1 hu).1
  have hi : j / 2 < l.length := by omega
  have hr : l[j / 2]? = some l[j / 2] := List.getElem?_eq_getElem hi
  have he : j = j / 2 * 2 + j % 2 := by omega
  have hv := Pop.vals_at l (j / 2) _ hr (j % 2) (by omega)
  rw [← he, hu] at hv
  have := h (j / 2) _ hr (j % 2) u hv.symm
  rwa [← he] at this
def Pop.ok (x : Pop) : Prop := -9223372036854775808 ≤ x.kind ∧ x.kind ≤ 9223372036854775807 ∧ -9223372036854775808 ≤ x.n ∧ x.n ≤ 9223372036854775807
theorem Pop.set_kind (l : List Pop) (v : Int) : ∀ (k : Nat) (x : Pop), l[k]? = some x → (l.flatMap Pop.vals).set (k * 2) (.int .i64 v) = (l.set k { x with kind := v }).flatMap Pop.vals := by
  induction l with
  | nil => intro k x h; simp at h
  | cons y l ih =>
    intro k x h
    cases k with
    | zero =>
      simp only [List.getElem?_cons_zero, Option.some.injEq] at h
      subst h
      simp [Pop.vals]
    | succ k =>
      simp only [List.getElem?_cons_succ] at h
      rw [List.flatMap_cons, List.set_cons_succ, List.flatMap_cons, ← ih k x h]
      have e : (k + 1) * 2 = (k * 2) + 2 := by omega
      rw [e]
      simp [Pop.vals]
theorem Pop.set_n (l : List Pop) (v : Int) : ∀ (k : Nat) (x : Pop), l[k]? = some x → (l.flatMap Pop.vals).set (k * 2 + 1) (.int .i64 v) = (l.set k { x with n := v }).flatMap Pop.vals := by
  induction l with
  | nil => intro k x h; simp at h
  | cons y l ih =>
    intro k x h
    cases k with
    | zero =>
      simp only [List.getElem?_cons_zero, Option.some.injEq] at h
      subst h
      simp [Pop.vals]
    | succ k =>
      simp only [List.getElem?_cons_succ] at h
      rw [List.flatMap_cons, List.set_cons_succ, List.flatMap_cons, ← ih k x h]
      have e : (k + 1) * 2 + 1 = (k * 2 + 1) + 2 := by omega
      rw [e]
      simp [Pop.vals]

/-- A pool x in blocks new since w, and a list y of bools beside it. -/
structure PS (w W : World) (b : Nat) (x y : List Bool) (A : Option Addr) (c : Nat) (Ax : Option Addr) (cx : Nat) : Prop where
  p : PM w W b x A c
  row : W.ownsRow w.heap.size 4 1 (.slice Ax y.length cx) y.length (y.map Value.bool)
  far : ∀ a, Ax = some a → ¬ PF b A a.block

section
variable {w W W' : World} {b c cx : Nat} {x x' y : List Bool} {A Ax : Option Addr}
theorem PS.sl (h : PS w W b x y A c Ax cx) : Sl W 1 Ax y.length (y.map Value.bool) := Sl.of_own h.row
theorem PS.on (h : PS w W b x y A c Ax cx) (hg : Grew W W') : PS w W' b x y A c Ax cx := ⟨h.p.on hg, own_chg h.row hg fun _ _ => id, h.far⟩
theorem PS.far_block (h : PS w W b x y A c Ax cx) {g : Nat} (hg : (Value.slice Ax y.length cx).ownBlock = some g) : ¬ PF b A g := by
  cases Ax with
  | none => simp [Value.ownBlock] at hg
  | some a =>
    have : a.block = g := by simpa [Value.ownBlock] using hg
    exact this ▸ h.far a rfl
theorem PS.to (h : PS w W b x y A c Ax cx) (hp : PIn W' b x' A c) (hc : Chg (PF b A) W W') : PS w W' b x' y A c Ax cx :=
  ⟨h.p.to hp hc, own_chg h.row hc fun g hg => h.far_block hg, h.far⟩
theorem PS.cellAt (h : PS w W b x y A c Ax cx) {k : Nat} (hk : k < y.length) : ∃ g, Ax = some ⟨g, 0, none⟩ ∧ g < W.heap.size ∧ W.cell? ⟨g, k, none⟩ = some (.bool (y.getD k false)) ∧ W.frozen? ⟨g, k, none⟩ = false ∧ w.heap.size ≤ g ∧ k < cx := by
  obtain ⟨g, rfl, hg⟩ := own_block h.row (by omega)
  obtain ⟨cur, hb, hgc, hnc, hcm, hcs, htake, -⟩ := own_row h.row
  have := h.row.cells (g := g) rfl k (.bool (y.getD k false)) (by rw [List.getElem?_map, List.getElem?_eq_getElem hk, List.getD_eq_getElem?_getD, List.getElem?_eq_getElem hk]; rfl)
  rw [Addr.add_lit] at this
  exact ⟨g, rfl, hg, by simpa using this, (show Blk W g _ cur from hgc).frozen _, hb, by omega⟩
/-- The list's cell k is stored. -/
theorem PS.store {g : Nat} (h : PS w W b x y A c (some ⟨g, 0, none⟩) cx) (k : Nat) (v : Bool) : PS w (W.setCell ⟨g, k, none⟩ (.bool v)) b x (y.set k v) A c (some ⟨g, 0, none⟩) cx := by
  have h1 := own_word (j := k) h.row (.bool v)
  have hc : Chg (fun j => j = g) W (W.setCell ⟨g, k, none⟩ (.bool v)) := (Chg.refl (fun j => j = g) W).setCell (p := ⟨g, k, none⟩) (fun _ => rfl) _
  obtain ⟨cur, hb, -⟩ := own_row h.row
  exact ⟨h.p.far hc hb (h.far _ rfl), by rw [List.length_set, List.map_set]; exact h1, h.far⟩
end

/-- What a call makes of the list. -/
def stpL (x : List Bool) (o : Pop) : List Bool := if o.kind = 1 then (match nxt x 0 with | some j => trn x j | none => x) else if o.kind = 2 then (toL x o.n false).1 else if o.kind = 3 then (toL x o.n true).1 else x

theorem toL_len (x : List Bool) (i : Int) (v : Bool) : (toL x i v).1.length = x.length := by
  unfold toL
  split
  · rfl
  · split
    · rfl
    · exact trn_len _ _
theorem stpL_len (x : List Bool) (o : Pop) : (stpL x o).length = x.length := by
  unfold stpL
  split
  · split
    · exact trn_len _ _
    · rfl
  · split
    · exact toL_len _ _ _
    · split
      · exact toL_len _ _ _
      · rfl
theorem trn_false {x : List Bool} {j : Nat} (h : x.getD j false = true) : trn x j = x.set j false := by unfold trn; rw [h]; rfl

set_option maxRecDepth 100000 in
set_option maxHeartbeats 1600000 in
theorem pstep_other (o : Pop) (w W : World) (b c cx : Nat) (x : List Bool) (A Ax : Option Addr) (h : PS w W b x x A c Ax cx) (hl : x.length ≤ 65536) (h1 : o.kind ≠ 1) (h2 : o.kind ≠ 2) (h3 : o.kind ≠ 3) :
    Calls Tryd.prog 18 #[.pointer (some ⟨b, 0, none⟩), .slice Ax x.length cx, (.agg #[.int .i64 o.kind, .int .i64 o.n])] W fun e w' => e = .returned (.bool true) ∧ PS w w' b (stpL x o) (stpL x o) A c Ax cx := by
  have hv : stpL x o = x := by unfold stpL; rw [if_neg h1, if_neg h2, if_neg h3]
  rw [hv]
  have t1 : (o.kind == 1) = false := beq_eq_false_iff_ne.2 h1
  have t2 : (o.kind == 2) = false := beq_eq_false_iff_ne.2 h2
  have t3 : (o.kind == 3) = false := beq_eq_false_iff_ne.2 h3
  have H := Lib.hid h
  clear hv h1 h2 h3 h
  by_cases hn : 0 ≤ o.n
  · have t4 : decide (0 ≤ o.n) = true := decide_eq_true hn
    by_cases hm : o.n < (x.length : Int)
    · have t40 : decide (o.n < (x.length : Int)) = true := decide_eq_true hm
      clear hn hm
      go_enter Tryd.func18, Tryd.ntmps18
      go_wp2
      go_ret
      exact ⟨rfl, H.out.on (by (repeat (first | (with_reducible exact (Chg.refl _ _)) | (with_reducible refine Chg.alloc ?_ _) | (with_reducible refine Chg.drew ?_) | (with_reducible refine Chg.drewN ?_ _) | ((with_reducible refine Chg.setCell ?_ ?hp _); (case hp => (intro h; exfalso; simp at h; try omega))))))⟩
    · have t40 : decide (o.n < (x.length : Int)) = false := decide_eq_false hm
      clear hn hm
      go_enter Tryd.func18, Tryd.ntmps18
      go_wp2
      go_ret
      exact ⟨rfl, H.out.on (by (repeat (first | (with_reducible exact (Chg.refl _ _)) | (with_reducible refine Chg.alloc ?_ _) | (with_reducible refine Chg.drew ?_) | (with_reducible refine Chg.drewN ?_ _) | ((with_reducible refine Chg.setCell ?_ ?hp _); (case hp => (intro h; exfalso; simp at h; try omega))))))⟩
  · have t4 : decide (0 ≤ o.n) = false := decide_eq_false hn
    clear hn
    go_enter Tryd.func18, Tryd.ntmps18
    go_wp2
    go_ret
    exact ⟨rfl, H.out.on (by (repeat (first | (with_reducible exact (Chg.refl _ _)) | (with_reducible refine Chg.alloc ?_ _) | (with_reducible refine Chg.drew ?_) | (with_reducible refine Chg.drewN ?_ _) | ((with_reducible refine Chg.setCell ?_ ?hp _); (case hp => (intro h; exfalso; simp at h; try omega))))))⟩

set_option maxRecDepth 100000 in
set_option maxHeartbeats 1600000 in
theorem pstep_take (o : Pop) (w W : World) (b c cx : Nat) (x : List Bool) (A Ax : Option Addr) (h : PS w W b x x A c Ax cx) (hl : x.length ≤ 65536) (h1 : o.kind = 1) :
    Calls Tryd.prog 18 #[.pointer (some ⟨b, 0, none⟩), .slice Ax x.length cx, (.agg #[.int .i64 o.kind, .int .i64 o.n])] W fun e w' => e = .returned (.bool true) ∧ PS w w' b (stpL x o) (stpL x o) A c Ax cx := by
  have t1 : (o.kind == 1) = true := by simp [h1]
  have H := Lib.hid (h.on ((Chg.refl NoF W).alloc (.cells #[.int .i64 o.kind, .int .i64 o.n] 45)))
  cases hx : nxt x 0 with
  | none =>
    have hv : stpL x o = x := by unfold stpL; rw [if_pos h1, hx]
    rw [hv]
    have hn := xnext_any 0 x Ax cx _ H.out.sl hl
    rw [show (0 : Int).toNat = 0 from rfl, hx] at hn
    have HX := Lib.hid (And.intro hx hn)
    clear hv h1 h hx hn
    by_cases hn : 0 ≤ o.n
    · have t4 : decide (0 ≤ o.n) = true := decide_eq_true hn
      by_cases hm : o.n < (x.length : Int)
      · have t40 : decide (o.n < (x.length : Int)) = true := decide_eq_true hm
        clear hn hm
        go_enter Tryd.func18, Tryd.ntmps18
        go_wp2_with (first
          | (go_at_call 10; refine (ptake_none b x A c _ H.out.p.p hl H.out.p.tab HX.out.1).mono ?_; rintro e w2 ⟨rfl, rfl⟩)
          | (go_at_call 15; refine HX.out.2.mono ?_; rintro e w3 ⟨rfl, rfl⟩; simp only [oJ]))
        go_ret
        exact ⟨rfl, H.out⟩
      · have t40 : decide (o.n < (x.length : Int)) = false := decide_eq_false hm
        clear hn hm
        go_enter Tryd.func18, Tryd.ntmps18
        go_wp2_with (first
          | (go_at_call 10; refine (ptake_none b x A c _ H.out.p.p hl H.out.p.tab HX.out.1).mono ?_; rintro e w2 ⟨rfl, rfl⟩)
          | (go_at_call 15; refine HX.out.2.mono ?_; rintro e w3 ⟨rfl, rfl⟩; simp only [oJ]))
        go_ret
        exact ⟨rfl, H.out⟩
    · have t4 : decide (0 ≤ o.n) = false := decide_eq_false hn
      clear hn
      go_enter Tryd.func18, Tryd.ntmps18
      go_wp2_with (first
        | (go_at_call 10; refine (ptake_none b x A c _ H.out.p.p hl H.out.p.tab HX.out.1).mono ?_; rintro e w2 ⟨rfl, rfl⟩)
        | (go_at_call 15; refine HX.out.2.mono ?_; rintro e w3 ⟨rfl, rfl⟩; simp only [oJ]))
      go_ret
      exact ⟨rfl, H.out⟩
  | some j =>
    have hj := (nxt_some.1 hx)
    have hjl := hj.2.1
    have hv : stpL x o = x.set j false := by unfold stpL; rw [if_pos h1, hx]; exact trn_false hj.2.2.1
    rw [hv]
    obtain ⟨g, rfl, -⟩ := H.out.cellAt hjl
    have HX := Lib.hid (And.intro hx (trn_false hj.2.2.1))
    have arm := Lib.hid (ptake_some b j x A c _ H.out.p.p hl H.out.p.tab hx)
    have t5 : (0 : Int) ≤ (j : Int) := by omega
    have t6 : (j : Int) < (x.length : Int) := by omega
    have t7 : decide ((j : Int) < 0) = false := decide_eq_false (by omega)
    clear hv h1 h hx hj
    by_cases hn : 0 ≤ o.n
    · have t4 : decide (0 ≤ o.n) = true := decide_eq_true hn
      by_cases hm : o.n < (x.length : Int)
      · have t40 : decide (o.n < (x.length : Int)) = true := decide_eq_true hm
        clear hn hm
        go_enter Tryd.func18, Tryd.ntmps18
        go_wp2_with (first
          | (go_at_call 10; refine arm.out.mono ?_; rintro e w2 ⟨rfl, hp2, hc2⟩; have hq2 := H.out.to hp2 hc2; have hn2 := xnext_any 0 x (some ⟨g, 0, none⟩) cx _ hq2.sl hl; rw [show (0 : Int).toNat = 0 from rfl, HX.out.1] at hn2; obtain ⟨g', hA, z2, c2, fr2, -, -⟩ := hq2.cellAt hjl; cases hA; have H2 := Lib.hid (And.intro hq2 hn2); clear hp2 hc2 hq2 hn2)
          | (go_at_call 15; refine H2.out.2.mono ?_; rintro e w3 ⟨rfl, rfl⟩; simp only [oJ]))
        go_ret
        have hq := H2.out.1.store j false
        rw [HX.out.2] at hq
        exact ⟨rfl, hq⟩
      · have t40 : decide (o.n < (x.length : Int)) = false := decide_eq_false hm
        clear hn hm
        go_enter Tryd.func18, Tryd.ntmps18
        go_wp2_with (first
          | (go_at_call 10; refine arm.out.mono ?_; rintro e w2 ⟨rfl, hp2, hc2⟩; have hq2 := H.out.to hp2 hc2; have hn2 := xnext_any 0 x (some ⟨g, 0, none⟩) cx _ hq2.sl hl; rw [show (0 : Int).toNat = 0 from rfl, HX.out.1] at hn2; obtain ⟨g', hA, z2, c2, fr2, -, -⟩ := hq2.cellAt hjl; cases hA; have H2 := Lib.hid (And.intro hq2 hn2); clear hp2 hc2 hq2 hn2)
          | (go_at_call 15; refine H2.out.2.mono ?_; rintro e w3 ⟨rfl, rfl⟩; simp only [oJ]))
        go_ret
        have hq := H2.out.1.store j false
        rw [HX.out.2] at hq
        exact ⟨rfl, hq⟩
    · have t4 : decide (0 ≤ o.n) = false := decide_eq_false hn
      clear hn
      go_enter Tryd.func18, Tryd.ntmps18
      go_wp2_with (first
        | (go_at_call 10; refine arm.out.mono ?_; rintro e w2 ⟨rfl, hp2, hc2⟩; have hq2 := H.out.to hp2 hc2; have hn2 := xnext_any 0 x (some ⟨g, 0, none⟩) cx _ hq2.sl hl; rw [show (0 : Int).toNat = 0 from rfl, HX.out.1] at hn2; obtain ⟨g', hA, z2, c2, fr2, -, -⟩ := hq2.cellAt hjl; cases hA; have H2 := Lib.hid (And.intro hq2 hn2); clear hp2 hc2 hq2 hn2)
        | (go_at_call 15; refine H2.out.2.mono ?_; rintro e w3 ⟨rfl, rfl⟩; simp only [oJ]))
      go_ret
      have hq := H2.out.1.store j false
      rw [HX.out.2] at hq
      exact ⟨rfl, hq⟩

set_option maxRecDepth 100000 in
set_option maxHeartbeats 1600000 in
theorem pstep_mark (o : Pop) (w W : World) (b c cx : Nat) (x : List Bool) (A Ax : Option Addr) (h : PS w W b x x A c Ax cx) (hl : x.length ≤ 65536) (h1 : o.kind = 2) :
    Calls Tryd.prog 18 #[.pointer (some ⟨b, 0, none⟩), .slice Ax x.length cx, (.agg #[.int .i64 o.kind, .int .i64 o.n])] W fun e w' => e = .returned (.bool true) ∧ PS w w' b (stpL x o) (stpL x o) A c Ax cx := by
  have hv : stpL x o = (toL x o.n false).1 := by unfold stpL; rw [if_neg (by omega), if_pos h1]
  rw [hv]
  have t1 : (o.kind == 1) = false := by simp [h1]
  have t2 : (o.kind == 2) = true := by simp [h1]
  have t3 : (o.kind == 3) = false := by simp [h1]
  have H := Lib.hid (h.on ((Chg.refl NoF W).alloc (.cells #[.int .i64 o.kind, .int .i64 o.n] 45)))
  have HW := Lib.hid h
  have Arm := Lib.hid (fun W (hp : PIn W b x A c) => pmark_any b o.n x A c W hp hl)
  clear hv h1 h
  by_cases hn : o.n < 0
  · have t4 : decide (0 ≤ o.n) = false := decide_eq_false (by omega)
    have HT := Lib.hid (toL_out (y := x) (v := o.n) (f := false) (.inl hn))
    rw [HT.out]
    clear hn
    go_enter Tryd.func18, Tryd.ntmps18
    go_wp2_with (first
      | (go_at_call 32; have ha := Arm.out _ H.out.p.p; rw [HT.out] at ha; refine ha.mono ?_; rintro e w2 ⟨rfl, hp2, hc2⟩; have H2 := Lib.hid (H.out.to hp2 hc2); clear hp2 hc2 ha))
    go_ret
    exact ⟨rfl, H2.out⟩
  by_cases hm : (x.length : Int) ≤ o.n
  · have t4 : decide (0 ≤ o.n) = true := decide_eq_true (by omega)
    have t40 : decide (o.n < (x.length : Int)) = false := decide_eq_false (by omega)
    have HT := Lib.hid (toL_out (y := x) (v := o.n) (f := false) (.inr hm))
    rw [HT.out]
    clear hn hm
    go_enter Tryd.func18, Tryd.ntmps18
    go_wp2_with (first
      | (go_at_call 32; have ha := Arm.out _ H.out.p.p; rw [HT.out] at ha; refine ha.mono ?_; rintro e w2 ⟨rfl, hp2, hc2⟩; have H2 := Lib.hid (H.out.to hp2 hc2); clear hp2 hc2 ha))
    go_ret
    exact ⟨rfl, H2.out⟩
  · obtain ⟨m, hmn⟩ := Int.eq_ofNat_of_zero_le (show 0 ≤ o.n by omega)
    have hml : m < x.length := by omega
    have t4 : decide (0 ≤ (m : Int)) = true := decide_eq_true (by omega)
    have t40 : decide ((m : Int) < (x.length : Int)) = true := decide_eq_true (by omega)
    have t41 : decide (m < x.length) = true := decide_eq_true hml
    have t42 : (0 : Int) ≤ (m : Int) := by omega
    have t43 : (m : Int) < (x.length : Int) := by omega
    obtain ⟨k0, n0⟩ := o
    simp only [] at hmn t1 t2 t3 hn hm Arm ⊢
    subst hmn
    obtain ⟨g, rfl, z1, -⟩ := HW.out.cellAt hml
    obtain ⟨g', hA, z0, d0, fr, hwg, hmc⟩ := H.out.cellAt hml
    cases hA
    have hne : ¬ W.heap.size = g := by omega
    have hne2 : ¬ g = W.heap.size := by omega
    clear hn hm
    by_cases hx : x.getD m false = false
    · rw [hx] at d0
      have HT := Lib.hid (toL_state hml hx)
      rw [HT.out]
      have t8 : (false == false) = true := rfl
      clear hx
      go_enter Tryd.func18, Tryd.ntmps18
      go_wp2_with fail
      go_quiet (fail)
      have HQ := Lib.hid (H.out.on ((Chg.refl NoF (W.alloc (.cells #[.int .i64 k0, .int .i64 m] 45))).drewN nq))
      go_wp2_with (first
        | (go_at_call 32; (have ha := Arm.out _ HQ.out.p.p; rw [HT.out] at ha; refine ha.mono ?_; rintro e w2 ⟨rfl, hp2, hc2⟩; have H2 := Lib.hid (HQ.out.to hp2 hc2); clear hp2 hc2 ha)))
      go_ret
      exact ⟨rfl, H2.out⟩
    · have hx' : x.getD m false = !false := by revert hx; cases x.getD m false <;> simp
      rw [hx'] at d0
      have HT := Lib.hid (toL_turn hml hx')
      rw [HT.out]
      clear hx hx'
      go_enter Tryd.func18, Tryd.ntmps18
      go_wp2_with fail
      go_quiet (fail)
      have HQ := Lib.hid (H.out.on ((Chg.refl NoF (W.alloc (.cells #[.int .i64 k0, .int .i64 m] 45))).drewN nq))
      have HQ2 := Lib.hid (HQ.out.store m false)
      go_wp2_with (go_at_call 32; have ha := Arm.out _ HQ2.out.p.p; rw [HT.out] at ha; refine ha.mono ?_; rintro e w2 ⟨rfl, hp2, hc2⟩; have H2 := Lib.hid (HQ2.out.to hp2 hc2); clear hp2 hc2 ha)
      go_ret
      exact ⟨rfl, H2.out⟩

set_option maxRecDepth 100000 in
set_option maxHeartbeats 1600000 in
theorem pstep_give (o : Pop) (w W : World) (b c cx : Nat) (x : List Bool) (A Ax : Option Addr) (h : PS w W b x x A c Ax cx) (hl : x.length ≤ 65536) (h1 : o.kind = 3) :
    Calls Tryd.prog 18 #[.pointer (some ⟨b, 0, none⟩), .slice Ax x.length cx, (.agg #[.int .i64 o.kind, .int .i64 o.n])] W fun e w' => e = .returned (.bool true) ∧ PS w w' b (stpL x o) (stpL x o) A c Ax cx := by
  have hv : stpL x o = (toL x o.n true).1 := by unfold stpL; rw [if_neg (by omega), if_neg (by omega), if_pos h1]
  rw [hv]
  have t1 : (o.kind == 1) = false := by simp [h1]
  have t2 : (o.kind == 2) = false := by simp [h1]
  have t3 : (o.kind == 3) = true := by simp [h1]
  have H := Lib.hid (h.on ((Chg.refl NoF W).alloc (.cells #[.int .i64 o.kind, .int .i64 o.n] 45)))
  have HW := Lib.hid h
  have Arm := Lib.hid (fun W (hp : PIn W b x A c) => pgive_any b o.n x A c W hp hl)
  clear hv h1 h
  by_cases hn : o.n < 0
  · have t4 : decide (0 ≤ o.n) = false := decide_eq_false (by omega)
    have HT := Lib.hid (toL_out (y := x) (v := o.n) (f := true) (.inl hn))
    rw [HT.out]
    clear hn
    go_enter Tryd.func18, Tryd.ntmps18
    go_wp2_with (first
      | (go_at_call 11; have ha := Arm.out _ H.out.p.p; rw [HT.out] at ha; refine ha.mono ?_; rintro e w2 ⟨rfl, hp2, hc2⟩; have H2 := Lib.hid (H.out.to hp2 hc2); clear hp2 hc2 ha))
    go_ret
    exact ⟨rfl, H2.out⟩
  by_cases hm : (x.length : Int) ≤ o.n
  · have t4 : decide (0 ≤ o.n) = true := decide_eq_true (by omega)
    have t40 : decide (o.n < (x.length : Int)) = false := decide_eq_false (by omega)
    have HT := Lib.hid (toL_out (y := x) (v := o.n) (f := true) (.inr hm))
    rw [HT.out]
    clear hn hm
    go_enter Tryd.func18, Tryd.ntmps18
    go_wp2_with (first
      | (go_at_call 11; have ha := Arm.out _ H.out.p.p; rw [HT.out] at ha; refine ha.mono ?_; rintro e w2 ⟨rfl, hp2, hc2⟩; have H2 := Lib.hid (H.out.to hp2 hc2); clear hp2 hc2 ha))
    go_ret
    exact ⟨rfl, H2.out⟩
  · obtain ⟨m, hmn⟩ := Int.eq_ofNat_of_zero_le (show 0 ≤ o.n by omega)
    have hml : m < x.length := by omega
    have t4 : decide (0 ≤ (m : Int)) = true := decide_eq_true (by omega)
    have t40 : decide ((m : Int) < (x.length : Int)) = true := decide_eq_true (by omega)
    have t41 : decide (m < x.length) = true := decide_eq_true hml
    have t42 : (0 : Int) ≤ (m : Int) := by omega
    have t43 : (m : Int) < (x.length : Int) := by omega
    obtain ⟨k0, n0⟩ := o
    simp only [] at hmn t1 t2 t3 hn hm Arm ⊢
    subst hmn
    obtain ⟨g, rfl, z1, -⟩ := HW.out.cellAt hml
    obtain ⟨g', hA, z0, d0, fr, hwg, hmc⟩ := H.out.cellAt hml
    cases hA
    have hne : ¬ W.heap.size = g := by omega
    have hne2 : ¬ g = W.heap.size := by omega
    clear hn hm
    by_cases hx : x.getD m false = true
    · rw [hx] at d0
      have HT := Lib.hid (toL_state hml hx)
      rw [HT.out]
      have t8 : (true == true) = true := rfl
      clear hx
      go_enter Tryd.func18, Tryd.ntmps18
      go_wp2_with fail
      go_quiet (fail)
      have HQ := Lib.hid (H.out.on ((Chg.refl NoF (W.alloc (.cells #[.int .i64 k0, .int .i64 m] 45))).drewN nq))
      go_wp2_with (first
        | (go_at_call 11; (have ha := Arm.out _ HQ.out.p.p; rw [HT.out] at ha; refine ha.mono ?_; rintro e w2 ⟨rfl, hp2, hc2⟩; have H2 := Lib.hid (HQ.out.to hp2 hc2); clear hp2 hc2 ha)))
      go_ret
      exact ⟨rfl, H2.out⟩
    · have hx' : x.getD m false = !true := by revert hx; cases x.getD m false <;> simp
      rw [hx'] at d0
      have HT := Lib.hid (toL_turn hml hx')
      rw [HT.out]
      clear hx hx'
      go_enter Tryd.func18, Tryd.ntmps18
      go_wp2_with fail
      go_quiet (fail)
      have HQ := Lib.hid (H.out.on ((Chg.refl NoF (W.alloc (.cells #[.int .i64 k0, .int .i64 m] 45))).drewN nq))
      have HQ2 := Lib.hid (HQ.out.store m true)
      go_wp2_with (go_at_call 11; have ha := Arm.out _ HQ2.out.p.p; rw [HT.out] at ha; refine ha.mono ?_; rintro e w2 ⟨rfl, hp2, hc2⟩; have H2 := Lib.hid (HQ2.out.to hp2 hc2); clear hp2 hc2 ha)
      go_ret
      exact ⟨rfl, H2.out⟩

end Go.Proofs.YtenmilemdkhijaaDoor
