/- The deeds: records, what a list of them is in memory, and the contracts of the functions that only look. -/
import Derived.Test.YtkcakkblammpiaaRows
import Derived.Test.YtkcakkblammpiaaBase
import Derived.Test.YtkcakkblammpiaaRange
namespace Go.Proofs.Ytkcakkblammpiaa
open Go.RowKit

structure Dee where
  id : Int
  plot : Int
  holder : Int
  deriving DecidableEq
def Dee.vals (x : Dee) : List Value := [.int .i64 x.id, .int .i64 x.plot, .int .i64 x.holder]
def Dee.zero : Dee := ⟨0, 0, 0⟩
theorem Dee.vals_len (l : List Dee) : (l.flatMap Dee.vals).length = l.length * 3 := by
  induction l with
  | nil => rfl
  | cons x l ih => rw [List.flatMap_cons, List.length_append, ih, List.length_cons]; simp only [Dee.vals, List.length_cons, List.length_nil]; omega
theorem Dee.vals_at (l : List Dee) : ∀ (k : Nat) (x : Dee), l[k]? = some x → ∀ j, j < 3 → (l.flatMap Dee.vals)[k * 3 + j]? = x.vals[j]? := by
  induction l with
  | nil => intro k x h; simp at h
  | cons y l ih =>
    intro k x h j hj
    cases k with
    | zero =>
      simp only [List.getElem?_cons_zero, Option.some.injEq] at h
      subst h
      rw [List.flatMap_cons, Nat.zero_mul, Nat.zero_add, List.getElem?_append_left (by simp [Dee.vals]; omega)]
    | succ k =>
      simp only [List.getElem?_cons_succ] at h
      rw [List.flatMap_cons, List.getElem?_append_right (by simp [Dee.vals]; omega)]
      rw [← ih k x h j hj]
      congr 1
      simp [Dee.vals]
      omega
theorem Dee.take_vals (l : List Dee) : ∀ k, (l.take k).flatMap Dee.vals = (l.flatMap Dee.vals).take (k * 3) := by
  induction l with
  | nil => intro k; simp
  | cons x l ih =>
    intro k
    cases k with
    | zero => simp
    | succ k =>
      rw [List.take_succ_cons, List.flatMap_cons, List.flatMap_cons, ih k]
      have e : (k + 1) * 3 = x.vals.length + k * 3 := by simp [Dee.vals]; omega
      rw [e, List.take_length_add_append]
theorem Dee.drop_vals (l : List Dee) : ∀ k, (l.drop k).flatMap Dee.vals = (l.flatMap Dee.vals).drop (k * 3) := by
  induction l with
  | nil => intro k; simp
  | cons x l ih =>
    intro k
    cases k with
    | zero => simp
    | succ k =>
      rw [List.drop_succ_cons, List.flatMap_cons, ih k]
      have e : (k + 1) * 3 = x.vals.length + k * 3 := by simp [Dee.vals]; omega
      rw [e, List.drop_length_add_append]
theorem Dee.erase_vals (l : List Dee) (k : Nat) : (l.eraseIdx k).flatMap Dee.vals = (l.flatMap Dee.vals).take (k * 3) ++ (l.flatMap Dee.vals).drop ((k + 1) * 3) := by
  rw [List.eraseIdx_eq_take_drop_succ, List.flatMap_append, Dee.take_vals, Dee.drop_vals]
theorem Dee.one_cell (l : List Dee) : ∀ u ∈ l.flatMap Dee.vals, u.oneCell' = true := by
  intro u hu
  obtain ⟨x, _, hx⟩ := List.mem_flatMap.1 hu
  simp only [Dee.vals, List.mem_cons, List.not_mem_nil, or_false] at hx
  rcases hx with rfl | rfl | rfl <;> rfl
theorem Sl.atDee {w : World} {A : Option Addr} {l : List Dee} (h : Sl w 3 A l.length (l.flatMap Dee.vals)) {k : Nat} {x : Dee} (hx : l[k]? = some x) :
    ∃ b off, A = some ⟨b, off, none⟩ ∧ b < w.heap.size ∧ w.cell? ⟨b, off + k * 3, none⟩ = some (.int .i64 x.id) ∧ w.cell? ⟨b, off + k * 3 + 1, none⟩ = some (.int .i64 x.plot) ∧ w.cell? ⟨b, off + k * 3 + 2, none⟩ = some (.int .i64 x.holder) := by
  have hk : k < l.length := (List.getElem?_eq_some_iff.1 hx).1
  obtain ⟨b, off, hA, hb, hc⟩ := h.2 (by omega)
  have hv := Dee.vals_at l k x hx
  refine ⟨b, off, hA, hb, ?_, ?_, ?_⟩
  · have := hc (k * 3 + 0) (.int .i64 x.id) ((hv 0 (by omega)).trans rfl)
    simpa [Nat.add_assoc] using this
  · have := hc (k * 3 + 1) (.int .i64 x.plot) ((hv 1 (by omega)).trans rfl)
    simpa [Nat.add_assoc] using this
  · have := hc (k * 3 + 2) (.int .i64 x.holder) ((hv 2 (by omega)).trans rfl)
    simpa [Nat.add_assoc] using this
theorem Dee.sl_mk {w : World} {b off : Nat} {l : List Dee} (hb : b < w.heap.size) (h : ∀ i r, l[i]? = some r → ∀ j u, r.vals[j]? = some u → w.cell? ⟨b, off + (i * 3 + j), none⟩ = some u) : Sl w 3 (some ⟨b, off, none⟩) l.length (l.flatMap Dee.vals) := by
  refine ⟨Dee.vals_len l, fun _ => ⟨b, off, rfl, hb, fun j u hu => ?_⟩⟩
  have hj : j < l.length * 3 := by
    rw [← Dee.vals_len l]; exact (List.getElem?_eq_some_iff.1 hu).1
  have hi : j / 3 < l.length := by omega
  have hr : l[j / 3]? = some l[j / 3] := List.getElem?_eq_getElem hi
  have he : j = j / 3 * 3 + j % 3 := by omega
  have hv := Dee.vals_at l (j / 3) _ hr (j % 3) (by omega)
  rw [← he, hu] at hv
  have := h (j / 3) _ hr (j % 3) u hv.symm
  rwa [← he] at this
def Dee.ok (x : Dee) : Prop := -9223372036854775808 ≤ x.id ∧ x.id ≤ 9223372036854775807 ∧ -9223372036854775808 ≤ x.plot ∧ x.plot ≤ 9223372036854775807 ∧ -9223372036854775808 ≤ x.holder ∧ x.holder ≤ 9223372036854775807
theorem Dee.set_id (l : List Dee) (v : Int) : ∀ (k : Nat) (x : Dee), l[k]? = some x → (l.flatMap Dee.vals).set (k * 3) (.int .i64 v) = (l.set k { x with id := v }).flatMap Dee.vals := by
  induction l with
  | nil => intro k x h; simp at h
  | cons y l ih =>
    intro k x h
    cases k with
    | zero =>
      simp only [List.getElem?_cons_zero, Option.some.injEq] at h
      subst h
      simp [Dee.vals]
    | succ k =>
      simp only [List.getElem?_cons_succ] at h
      rw [List.flatMap_cons, List.set_cons_succ, List.flatMap_cons, ← ih k x h]
      have e : (k + 1) * 3 = (k * 3) + 3 := by omega
      rw [e]
      simp [Dee.vals]
theorem Dee.set_plot (l : List Dee) (v : Int) : ∀ (k : Nat) (x : Dee), l[k]? = some x → (l.flatMap Dee.vals).set (k * 3 + 1) (.int .i64 v) = (l.set k { x with plot := v }).flatMap Dee.vals := by
  induction l with
  | nil => intro k x h; simp at h
  | cons y l ih =>
    intro k x h
    cases k with
    | zero =>
      simp only [List.getElem?_cons_zero, Option.some.injEq] at h
      subst h
      simp [Dee.vals]
    | succ k =>
      simp only [List.getElem?_cons_succ] at h
      rw [List.flatMap_cons, List.set_cons_succ, List.flatMap_cons, ← ih k x h]
      have e : (k + 1) * 3 + 1 = (k * 3 + 1) + 3 := by omega
      rw [e]
      simp [Dee.vals]
theorem Dee.set_holder (l : List Dee) (v : Int) : ∀ (k : Nat) (x : Dee), l[k]? = some x → (l.flatMap Dee.vals).set (k * 3 + 2) (.int .i64 v) = (l.set k { x with holder := v }).flatMap Dee.vals := by
  induction l with
  | nil => intro k x h; simp at h
  | cons y l ih =>
    intro k x h
    cases k with
    | zero =>
      simp only [List.getElem?_cons_zero, Option.some.injEq] at h
      subst h
      simp [Dee.vals]
    | succ k =>
      simp only [List.getElem?_cons_succ] at h
      rw [List.flatMap_cons, List.set_cons_succ, List.flatMap_cons, ← ih k x h]
      have e : (k + 1) * 3 + 2 = (k * 3 + 2) + 3 := by omega
      rw [e]
      simp [Dee.vals]

attribute [local go_sem] Oper.semAt_some

/-- Where in a list something is so; -1: nowhere. -/
def fidx {α : Type} (p : α → Bool) (l : List α) : Int := match l.findIdx? p with | some i => i | none => -1

theorem fidx_cases {α : Type} (p : α → Bool) (l : List α) : (fidx p l = -1 ∧ ∀ x ∈ l, p x = false) ∨ ∃ (k : Nat) (x : α), fidx p l = (k : Int) ∧ l[k]? = some x ∧ p x = true ∧ k < l.length ∧ ∀ j y, j < k → l[j]? = some y → p y = false := by
  unfold fidx
  cases h : l.findIdx? p with
  | none =>
    left
    exact ⟨rfl, List.findIdx?_eq_none_iff.1 h⟩
  | some k =>
    right
    obtain ⟨hk, hp, hj⟩ := List.findIdx?_eq_some_iff_getElem.1 h
    refine ⟨k, l[k], rfl, List.getElem?_eq_getElem hk, hp, hk, fun j y hjk hy => ?_⟩
    obtain ⟨_, rfl⟩ := List.getElem?_eq_some_iff.1 hy
    simpa using hj j hjk

/-- A function value that tells of a record whether something is so, by what block B holds. -/
structure DeePred (f : FuncId) (lb : Array Value) (p : Dee → Bool) (B : Nat) (n : Int) (w : World) : Prop where
  enters : ∀ args w, (callFunc f args).run Try.prog w = .ok (.enter f args) w
  blk : Blk w B 3 #[.int .i64 n]
  says : ∀ (W : World) (x : Dee), Blk W B 3 #[.int .i64 n] → Calls Try.prog f (#[(.agg #[.int .i64 x.id, .int .i64 x.plot, .int .i64 x.holder])] ++ lb) W fun e w' => e = .returned (.bool (p x)) ∧ Grew W w'

theorem DeePred.to {f : FuncId} {lb : Array Value} {p : Dee → Bool} {B : Nat} {n : Int} {w W : World} (h : DeePred f lb p B n w) (hb : Blk W B 3 #[.int .i64 n]) : DeePred f lb p B n W := ⟨h.enters, hb, h.says⟩

theorem idPred (B : Nat) (id : Int) (w : World) (h : Blk w B 3 #[.int .i64 id]) : DeePred 39 #[.pointer (some ⟨B, 0, none⟩)] (fun x => x.id == id) B id w := by
  refine ⟨enters_of Try.func39 (by kernel_rfl) rfl, h, fun W x hb => ?_⟩
  have hc : W.cell? ⟨B, 0, none⟩ = some (.int .i64 id) := by rw [hb.cell]; rfl
  have hl := hb.lt
  clear hb h
  go_enter Try.func39, Try.ntmps39
  go_wp2
  go_ret
  exact ⟨rfl, (Chg.refl _ _).alloc _⟩

theorem plotPred (B : Nat) (id : Int) (w : World) (h : Blk w B 3 #[.int .i64 id]) : DeePred 34 #[.pointer (some ⟨B, 0, none⟩)] (fun x => x.plot == id) B id w := by
  refine ⟨enters_of Try.func34 (by kernel_rfl) rfl, h, fun W x hb => ?_⟩
  have hc : W.cell? ⟨B, 0, none⟩ = some (.int .i64 id) := by rw [hb.cell]; rfl
  have hl := hb.lt
  clear hb h
  go_enter Try.func34, Try.ntmps34
  go_wp2
  go_ret
  exact ⟨rfl, (Chg.refl _ _).alloc _⟩

theorem holderPred (B : Nat) (id : Int) (w : World) (h : Blk w B 3 #[.int .i64 id]) : DeePred 35 #[.pointer (some ⟨B, 0, none⟩)] (fun x => x.holder == id) B id w := by
  refine ⟨enters_of Try.func35 (by kernel_rfl) rfl, h, fun W x hb => ?_⟩
  have hc : W.cell? ⟨B, 0, none⟩ = some (.int .i64 id) := by rw [hb.cell]; rfl
  have hl := hb.lt
  clear hb h
  go_enter Try.func35, Try.ntmps35
  go_wp2
  go_ret
  exact ⟨rfl, (Chg.refl _ _).alloc _⟩

/-- What the closure that 'where' makes reads. -/
structure WhereIn (W : World) (bd bi b : Nat) (nx : Int) (l : List Dee) (A : Option Addr) (c : Nat) (f : FuncId) (lb : Array Value) (p : Dee → Bool) (pb : Nat) (pn : Int) : Prop where
  bd : Blk W bd 23 #[.pointer (some ⟨b, 0, none⟩)]
  bi : Blk W bi 72 #[.func (.func f) #[] lb]
  b : Blk W b 58 #[.slice A l.length c, .int .i64 nx]
  sl : Sl W 3 A l.length (l.flatMap Dee.vals)
  pr : DeePred f lb p pb pn W

/-- How an iterator ends. -/
def IterEnd (J Jx : World → Prop) (e : Ending) (w : World) : Prop := (∃ v, e = .returned v) ∧ (J w ∨ Jx w)
/-- How a round ends. -/
def Rounded (J Jx : World → Prop) (e : Ending) (w : World) : Prop := (e = .returned (.bool true) ∧ J w) ∨ (e = .returned (.bool false) ∧ Jx w)

set_option maxHeartbeats 800000 in
theorem where_iter (bd bi b y : Nat) (nx : Int) (l : List Dee) (A : Option Addr) (c : Nat) (f : FuncId) (lb : Array Value) (p : Dee → Bool) (pb : Nat) (pn : Int) (J : Nat → World → Prop) (Jx : World → Prop) (w : World)
    (hin : ∀ k W, J k W → WhereIn W bd bi b nx l A c f lb p pb pn) (hgr : ∀ k W W', J k W → Grew W W' → J k W')
    (hskip : ∀ k x W, J k W → l[k]? = some x → p x = false → J (k + 1) W)
    (hyld : ∀ k x W, J k W → l[k]? = some x → p x = true → YieldAt Fence.wide 0 Try.prog y #[.int .i64 k, (.agg #[.int .i64 x.id, .int .i64 x.plot, .int .i64 x.holder])] W (Rounded (J (k + 1)) Jx))
    (h0 : J 0 w) (hl : l.length ≤ 1000000) :
    Calls Try.prog 40 #[.func (.yield y) #[] #[], .pointer (some ⟨bd, 0, none⟩), .pointer (some ⟨bi, 0, none⟩)] w fun e w' => IterEnd (J l.length) Jx e w' := by
  obtain ⟨c1, f1, s1⟩ := (hin 0 w h0).bd.facts
  obtain ⟨c2, f2, s2⟩ := (hin 0 w h0).b.facts
  have Hin := Lib.hid hin
  have Hgr := Lib.hid hgr
  have Hskip := Lib.hid hskip
  have Hyld := Lib.hid hyld
  have H0 := Lib.hid h0
  clear hin hgr hskip hyld h0
  (refine (callsIn_wide (n := 1)).1 (callsIn_of_wp Try.func40 rfl trivial ?_ rfl); simp only [Try.ntmps40, List.size_toArray, List.length_cons, List.length_nil, Nat.reduceAdd, Nat.reduceSub, Array.replicate_succ, Array.replicate_zero, List.push_toArray, List.append_toArray, List.nil_append, List.cons_append])
  gi_wp2
  clear c1 f1 s1 c2 f2 s2
  gi_loopw [11] (fun i wr => ∃ k : Nat, k ≤ l.length ∧ i = .int .i64 k ∧ J k wr) (fun i _ => l.length - (intOf i).toNat)
  case atStart => exact ⟨0, Nat.zero_le _, rfl, H0.out⟩
  case round =>
    obtain ⟨k, hk, rfl, hJ⟩ := hrel
    have hI := Hin.out k wr hJ
    by_cases hlt : k < l.length
    · obtain ⟨x, hx⟩ : ∃ x, l[k]? = some x := ⟨_, List.getElem?_eq_getElem hlt⟩
      obtain ⟨g, off, rfl, hb, d0, d1, d2⟩ := hI.sl.atDee hx
      obtain ⟨c1, f1, s1⟩ := hI.bi.facts
      have hpx := hI.pr.says (wr.alloc (.cells #[.int .i64 x.id, .int .i64 x.plot, .int .i64 x.holder] 34)) x (hI.pr.blk.alloc _)
      have hen := hI.pr.enters
      have HB := Lib.hid (Blk.new wr 34 #[.int .i64 x.id, .int .i64 x.plot, .int .i64 x.holder])
      have HJ := Lib.hid hJ
      rcases hp : p x with _ | _
      · rw [hp] at hpx
        have Hp := Lib.hid hpx
        have Hs := Lib.hid (Hskip.out k x wr hJ hx hp)
        clear hJ hI hpx hx hp
        gi_wp2_with (refine ⟨trivial, (callsIn_wide.2 Hp.out).mono ?_⟩; rintro e w1 ⟨rfl, hg1⟩)
        refine ⟨fun _ h => (by cases h), ?_⟩
        gi_wp2
        go_roundw
        case rel => exact ⟨k + 1, by omega, by go_num, Hgr.out _ _ _ Hs.out (Grew.trans ((Chg.refl _ _).alloc _) hg1)⟩
        case measure => simp [intOf]; omega
      · rw [hp] at hpx
        have Hp := Lib.hid hpx
        have Hx := Lib.hid hx
        have Hq := Lib.hid hp
        clear hJ hI hpx hx hp
        gi_wp2_with (first
          | (refine ⟨trivial, (callsIn_wide.2 Hp.out).mono ?_⟩; clear Hp; rintro e w1 ⟨rfl, hg1⟩; obtain ⟨c3, f3, s3⟩ := (HB.out.grew hg1).facts; obtain ⟨fn, tmps, assign, body, hy, hR⟩ := Hyld.out k x w1 (Hgr.out _ _ _ HJ.out (Grew.trans ((Chg.refl _ _).alloc _) hg1)) Hx.out Hq.out; have HR := Lib.hid hR; clear hR)
          | (refine HR.out.mono ?_; rintro e w2 (⟨rfl, hJ2⟩ | ⟨rfl, hJ2⟩) <;> have HJ2 := Lib.hid hJ2 <;> clear hJ2))
        · go_roundw
          case rel => exact ⟨k + 1, by omega, by go_num, HJ2.out⟩
          case measure => simp [intOf]; omega
        · refine bodyPost_ret (results_none rfl _ _ _) rfl ?_
          exact ⟨⟨_, rfl⟩, .inr HJ2.out⟩
    · obtain rfl : k = l.length := by omega
      have HJ := Lib.hid hJ
      clear hJ hI
      gi_wp2
      refine bodyPost_end (results_none rfl _ _ _) rfl ?_
      exact ⟨⟨_, rfl⟩, .inl HJ.out⟩

end Go.Proofs.Ytkcakkblammpiaa
