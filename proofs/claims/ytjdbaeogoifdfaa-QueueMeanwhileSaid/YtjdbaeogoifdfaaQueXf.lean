/- The queue's law: its step: the queue and the document's list, side by side. -/
import Derived.Test.YtjdbaeogoifdfaaQueXb
import Derived.Test.YtjdbaeogoifdfaaQueT
import Derived.Test.YtjdbaeogoifdfaaQueG
import Derived.Test.YtjdbaeogoifdfaaQueI
import Derived.Test.YtjdbaeogoifdfaaQueXd
namespace Go.Proofs.Ytjdbaeogoifdfaa
open Go.RowKit Go.Maps

structure Qop where
  kind : Int
  n : Int
  time : Int
  text : ByteArray
  deriving DecidableEq
def Qop.vals (x : Qop) : List Value := [.int .i64 x.kind, .int .i64 x.n, .int .i64 x.time, .string x.text]
def Qop.zero : Qop := ⟨0, 0, 0, ⟨#[]⟩⟩
theorem Qop.vals_len (l : List Qop) : (l.flatMap Qop.vals).length = l.length * 4 := by
  induction l with
  | nil => rfl
  | cons x l ih => rw [List.flatMap_cons, List.length_append, ih, List.length_cons]; simp only [Qop.vals, List.length_cons, List.length_nil]; omega
theorem Qop.vals_at (l : List Qop) : ∀ (k : Nat) (x : Qop), l[k]? = some x → ∀ j, j < 4 → (l.flatMap Qop.vals)[k * 4 + j]? = x.vals[j]? := by
  induction l with
  | nil => intro k x h; simp at h
  | cons y l ih =>
    intro k x h j hj
    cases k with
    | zero =>
      simp only [List.getElem?_cons_zero, Option.some.injEq] at h
      subst h
      rw [List.flatMap_cons, Nat.zero_mul, Nat.zero_add, List.getElem?_append_left (by simp [Qop.vals]; omega)]
    | succ k =>
      simp only [List.getElem?_cons_succ] at h
      rw [List.flatMap_cons, List.getElem?_append_right (by simp [Qop.vals]; omega)]
      rw [← ih k x h j hj]
      congr 1
      simp [Qop.vals]
      omega
theorem Qop.take_vals (l : List Qop) : ∀ k, (l.take k).flatMap Qop.vals = (l.flatMap Qop.vals).take (k * 4) := by
  induction l with
  | nil => intro k; simp
  | cons x l ih =>
    intro k
    cases k with
    | zero => simp
    | succ k =>
      rw [List.take_succ_cons, List.flatMap_cons, List.flatMap_cons, ih k]
      have e : (k + 1) * 4 = x.vals.length + k * 4 := by simp [Qop.vals]; omega
      rw [e, List.take_length_add_append]
theorem Qop.drop_vals (l : List Qop) : ∀ k, (l.drop k).flatMap Qop.vals = (l.flatMap Qop.vals).drop (k * 4) := by
  induction l with
  | nil => intro k; simp
  | cons x l ih =>
    intro k
    cases k with
    | zero => simp
    | succ k =>
      rw [List.drop_succ_cons, List.flatMap_cons, ih k]
      have e : (k + 1) * 4 = x.vals.length + k * 4 := by simp [Qop.vals]; omega
      rw [e, List.drop_length_add_append]
theorem Qop.erase_vals (l : List Qop) (k : Nat) : (l.eraseIdx k).flatMap Qop.vals = (l.flatMap Qop.vals).take (k * 4) ++ (l.flatMap Qop.vals).drop ((k + 1) * 4) := by
  rw [List.eraseIdx_eq_take_drop_succ, List.flatMap_append, Qop.take_vals, Qop.drop_vals]
theorem Qop.one_cell (l : List Qop) : ∀ u ∈ l.flatMap Qop.vals, u.oneCell' = true := by
  intro u hu
  obtain ⟨x, _, hx⟩ := List.mem_flatMap.1 hu
  simp only [Qop.vals, List.mem_cons, List.not_mem_nil, or_false] at hx
  rcases hx with rfl | rfl | rfl | rfl <;> rfl
theorem Sl.atQop {w : World} {A : Option Addr} {l : List Qop} (h : Sl w 4 A l.length (l.flatMap Qop.vals)) {k : Nat} {x : Qop} (hx : l[k]? = some x) :
    ∃ b off, A = some ⟨b, off, none⟩ ∧ b < w.heap.size ∧ w.cell? ⟨b, off + k * 4, none⟩ = some (.int .i64 x.kind) ∧ w.cell? ⟨b, off + k * 4 + 1, none⟩ = some (.int .i64 x.n) ∧ w.cell? ⟨b, off + k * 4 + 2, none⟩ = some (.int .i64 x.time) ∧ w.cell? ⟨b, off + k * 4 + 3, none⟩ = some (.string x.text) := by
  have hk : k < l.length := (List.getElem?_eq_some_iff.1 hx).1
  obtain ⟨b, off, hA, hb, hc⟩ := h.2 (by omega)
  have hv := Qop.vals_at l k x hx
  refine ⟨b, off, hA, hb, ?_, ?_, ?_, ?_⟩
  · have := hc (k * 4 + 0) (.int .i64 x.kind) ((hv 0 (by omega)).trans rfl)
    simpa [Nat.add_assoc] using this
  · have := hc (k * 4 + 1) (.int .i64 x.n) ((hv 1 (by omega)).trans rfl)
    simpa [Nat.add_assoc] using this
  · have := hc (k * 4 + 2) (.int .i64 x.time) ((hv 2 (by omega)).trans rfl)
    simpa [Nat.add_assoc] using this
  · have := hc (k * 4 + 3) (.string x.text) ((hv 3 (by omega)).trans rfl)
    simpa [Nat.add_assoc] using this
theorem Qop.sl_mk {w : World} {b off : Nat} {l : List Qop} (hb : b < w.heap.size) (h : ∀ i r, l[i]? = some r → ∀ j u, r.vals[j]? = some u → w.cell? ⟨b, off + (i * 4 + j), none⟩ = some u) : Sl w 4 (some ⟨b, off, none⟩) l.length (l.flatMap Qop.vals) := by
  refine ⟨Qop.vals_len l, fun _ => ⟨b, off, rfl, hb, fun j u hu => ?_⟩⟩
  have hj : j < l.length * 4 := by
    rw [← Qop.vals_len l]; exact (List.getElem?_eq_some_iff.1 hu).1
  have hi : j / 4 < l.length := by omega
  have hr : l[j / 4]? = some l[j / 4] := List.getElem?_eq_getElem hi
  have he : j = j / 4 * 4 + j % 4 := by omega
  have hv := Qop.vals_at l (j / 4) _ hr (j % 4) (by omega)
  rw [← he, hu] at hv
  have := h (j / 4) _ hr (j % 4) u hv.symm
  rwa [← he] at this
def Qop.ok (x : Qop) : Prop := -9223372036854775808 ≤ x.kind ∧ x.kind ≤ 9223372036854775807 ∧ -9223372036854775808 ≤ x.n ∧ x.n ≤ 9223372036854775807 ∧ -9223372036854775808 ≤ x.time ∧ x.time ≤ 9223372036854775807 ∧ x.text.size ≤ maxLen
theorem Qop.set_kind (l : List Qop) (v : Int) : ∀ (k : Nat) (x : Qop), l[k]? = some x → (l.flatMap Qop.vals).set (k * 4) (.int .i64 v) = (l.set k { x with kind := v }).flatMap Qop.vals := by
  induction l with
  | nil => intro k x h; simp at h
  | cons y l ih =>
    intro k x h
    cases k with
    | zero =>
      simp only [List.getElem?_cons_zero, Option.some.injEq] at h
      subst h
      simp [Qop.vals]
    | succ k =>
      simp only [List.getElem?_cons_succ] at h
      rw [List.flatMap_cons, List.set_cons_succ, List.flatMap_cons, ← ih k x h]
      have e : (k + 1) * 4 = (k * 4) + 4 := by omega
      rw [e]
      simp [Qop.vals]
theorem Qop.set_n (l : List Qop) (v : Int) : ∀ (k : Nat) (x : Qop), l[k]? = some x → (l.flatMap Qop.vals).set (k * 4 + 1) (.int .i64 v) = (l.set k { x with n := v }).flatMap Qop.vals := by
  induction l with
  | nil => intro k x h; simp at h
  | cons y l ih =>
    intro k x h
    cases k with
    | zero =>
      simp only [List.getElem?_cons_zero, Option.some.injEq] at h
      subst h
      simp [Qop.vals]
    | succ k =>
      simp only [List.getElem?_cons_succ] at h
      rw [List.flatMap_cons, List.set_cons_succ, List.flatMap_cons, ← ih k x h]
      have e : (k + 1) * 4 + 1 = (k * 4 + 1) + 4 := by omega
      rw [e]
      simp [Qop.vals]
theorem Qop.set_time (l : List Qop) (v : Int) : ∀ (k : Nat) (x : Qop), l[k]? = some x → (l.flatMap Qop.vals).set (k * 4 + 2) (.int .i64 v) = (l.set k { x with time := v }).flatMap Qop.vals := by
  induction l with
  | nil => intro k x h; simp at h
  | cons y l ih =>
    intro k x h
    cases k with
    | zero =>
      simp only [List.getElem?_cons_zero, Option.some.injEq] at h
      subst h
      simp [Qop.vals]
    | succ k =>
      simp only [List.getElem?_cons_succ] at h
      rw [List.flatMap_cons, List.set_cons_succ, List.flatMap_cons, ← ih k x h]
      have e : (k + 1) * 4 + 2 = (k * 4 + 2) + 4 := by omega
      rw [e]
      simp [Qop.vals]
theorem Qop.set_text (l : List Qop) (v : ByteArray) : ∀ (k : Nat) (x : Qop), l[k]? = some x → (l.flatMap Qop.vals).set (k * 4 + 3) (.string v) = (l.set k { x with text := v }).flatMap Qop.vals := by
  induction l with
  | nil => intro k x h; simp at h
  | cons y l ih =>
    intro k x h
    cases k with
    | zero =>
      simp only [List.getElem?_cons_zero, Option.some.injEq] at h
      subst h
      simp [Qop.vals]
    | succ k =>
      simp only [List.getElem?_cons_succ] at h
      rw [List.flatMap_cons, List.set_cons_succ, List.flatMap_cons, ← ih k x h]
      have e : (k + 1) * 4 + 3 = (k * 4 + 3) + 4 := by omega
      rw [e]
      simp [Qop.vals]

theorem quiet_sym {P : Program} {f : FuncId} {args : Array Value} {w : World} {n : Nat} {v : Value} (h : Calls P f args (w.drewN n) fun e w' => e = .returned v ∧ w.drewN n = w') : Calls P f args (w.drewN n) fun e w'' => e = .returned v ∧ ∃ m, w'' = w.drewN m :=
  Calls.quiet_of_same (h.mono fun _ _ ⟨he, hw⟩ => ⟨he, hw.symm⟩)

/-- Where a call's own things lie: in F, or in what is new since w; G: what may have changed since w. -/
structure Bs where
  w : World
  F : Nat → Prop
  G : Nat → Prop
  up : ∀ k, w.heap.size ≤ k → F k
  sub : ∀ k, F k → G k
def Bs.of (w : World) : Bs := ⟨w, fun k => w.heap.size ≤ k, fun k => w.heap.size ≤ k, fun _ h => h, fun _ h => h⟩
/-- A queue that lies there. -/
structure QB (w : Bs) (W : World) (b : Nat) (l : List Itm) (A : Option Addr) (c M : Nat) (added : Int) : Prop where
  q : Q W b l A c M added
  grew : Chg w.G w.w W
  new : ∀ k, QF b A M k → w.F k
theorem QB.more {w : Bs} {W W' : World} {b c M : Nat} {l : List Itm} {A : Option Addr} {added : Int} (h : QB w W b l A c M added) (hg : Grew W W') : QB w W' b l A c M added := ⟨h.q.grew hg, h.grew.grew hg, h.new⟩
theorem QB.of {w W : World} {b c M : Nat} {l : List Itm} {A : Option Addr} {added : Int} (h : QMine w W b l A c M added) : QB (Bs.of w) W b l A c M added := ⟨h.q, h.grew.chg, h.new⟩

/-- A queue, and the law's state at S, all of them there. -/
structure SP (w : Bs) (W : World) (b S : Nat) (l s : List Itm) (A : Option Addr) (c M : Nat) (As : Option Addr) (cs : Nat) (added ad2 : Int) : Prop where
  q : QB w W b l A c M added
  blk : Blk W S 37 #[.slice As s.length cs, .int .i64 ad2]
  sl : Sl W 3 As s.length (s.flatMap Itm.vals)
  newS : w.F S
  outS : ¬ QF b A M S
  far : ∀ a, As = some a → a.block < W.heap.size ∧ ¬ QF b A M a.block ∧ a.block ≠ S
  nil : As = none → cs = 0
  newA : ∀ a, As = some a → w.F a.block
/-- .. and they stand to each other. -/
structure SQ (w : Bs) (W : World) (b S : Nat) (l s : List Itm) (A : Option Addr) (c M : Nat) (As : Option Addr) (cs : Nat) (added : Int) : Prop where
  p : SP w W b S l s A c M As cs added added
  hp : hp l
  ql : QL l s
  nb : ∀ x ∈ l, 1 ≤ x.n ∧ x.n ≤ added
  ad : 0 ≤ added ∧ (l.length : Int) ≤ added

theorem Q.chg {G : Nat → Prop} {w w' : World} {b c M : Nat} {l : List Itm} {A : Option Addr} {added : Int} (h : Q w b l A c M added) (hc : Chg G w w') (hG : ∀ k, QF b A M k → ¬ G k) : Q w' b l A c M added := ⟨h.isIn.chg hc hG, h.nd, h.ok⟩

section
variable {w : Bs} {W W' : World} {b S c M cs : Nat} {l s : List Itm} {A As : Option Addr} {added ad2 : Int}
theorem SP.grew (h : SP w W b S l s A c M As cs added ad2) : Chg w.G w.w W := h.q.grew
theorem SP.on (h : SP w W b S l s A c M As cs added ad2) (hg : Grew W W') : SP w W' b S l s A c M As cs added ad2 :=
  ⟨h.q.more hg, h.blk.grew hg, h.sl.grew hg, h.newS, h.outS, fun a ha => ⟨Nat.lt_of_lt_of_le (h.far a ha).1 hg.size, (h.far a ha).2⟩, h.nil, h.newA⟩
/-- The state alone turns. -/
theorem SP.own (h : SP w W b S l s A c M As cs added ad2) (hc : Chg (fun j => j = S) W W') : QB w W' b l A c M added :=
  ⟨h.q.q.chg hc fun k hk e => h.outS (e ▸ hk), Chg.trans h.q.grew hc fun i _ e => w.sub i (e ▸ h.newS), h.q.new⟩
theorem SP.count (h : SP w W b S l s A c M As cs added ad2) {v : Int} (hW : W.setCell ⟨S, 1, none⟩ (.int .i64 v) = W') : SP w W' b S l s A c M As cs added v ∧ Chg (fun j => j = S) W W' := by
  have hc : Chg (fun j => j = S) W W' := hW ▸ (Chg.refl (fun j => j = S) W).setCell (p := ⟨S, 1, none⟩) (fun _ => rfl) _
  refine ⟨⟨h.own hc, ?_, h.sl.chg hc fun a ha => (h.far a ha).2.2, h.newS, h.outS, fun a ha => ⟨Nat.lt_of_lt_of_le (h.far a ha).1 hc.size, (h.far a ha).2⟩, h.nil, h.newA⟩, hc⟩
  subst hW
  have := h.blk.put 1 (.int .i64 v)
  simpa using this
theorem QF_old {W : World} {b c M : Nat} {l : List Itm} {A : Option Addr} {added : Int} (h : Q W b l A c M added) {k : Nat} (hk : QF b A M k) : k < W.heap.size := QF_lt h.isIn k hk
/-- A new list is stored. -/
theorem SP.store (h : SP w W b S l s A c M As cs added ad2) {w3 : World} {s' : List Itm} {A3 : Option Addr} {c3 : Nat} (ho3 : w3.ownsRow W.heap.size 47 3 (.slice A3 s'.length c3) s'.length (s'.flatMap Itm.vals)) (hg3 : Grew W w3)
    (hW : w3.setCell ⟨S, 0, none⟩ (.slice A3 s'.length c3) = W') : SP w W' b S l s' A c M A3 c3 added ad2 ∧ Chg (fun j => j = S) W W' := by
  have hs3 : Sl w3 3 A3 s'.length (s'.flatMap Itm.vals) := Sl.of_own ho3
  have hn3 : ∀ a, A3 = some a → W.heap.size ≤ a.block ∧ a.block < w3.heap.size := fun a ha => by
    subst ha
    obtain ⟨g, rfl, hg⟩ := own_some ho3
    exact ⟨(ho3.lt g rfl).1, hg⟩
  have h3 := h.on hg3
  have hc : Chg (fun j => j = S) w3 W' := hW ▸ (Chg.refl (fun j => j = S) w3).setCell (p := ⟨S, 0, none⟩) (fun _ => rfl) _
  have hS := h.blk.lt
  refine ⟨⟨h3.own hc, ?_, hs3.chg hc fun a ha e => by have := (hn3 a ha).1; omega, h.newS, h.outS, fun a ha => ⟨Nat.lt_of_lt_of_le (hn3 a ha).2 hc.size, fun hf => ?_, by have := (hn3 a ha).1; omega⟩, (fun e => by subst e; exact (own_none ho3).2), fun a ha => w.up _ (Nat.le_trans h.q.grew.size (hn3 a ha).1)⟩, Grew.then hg3 hc⟩
  · subst hW
    have := h3.blk.put 0 (.slice A3 s'.length c3)
    simpa using this
  · have := QF_old h.q.q hf
    have := (hn3 a ha).1
    omega
/-- The queue alone turns. -/
theorem SP.turn {l' : List Itm} {A' : Option Addr} {c' : Nat} {added' : Int} (h : SP w W b S l s A c M As cs added ad2) (hq : Q W' b l' A' c' M added') (hc : Chg (QF b A M) W W') (hn : ∀ k, QF b A' M k → QF b A M k ∨ W.heap.size ≤ k) :
    SP w W' b S l' s A' c' M As cs added' ad2 := by
  refine ⟨⟨hq, Chg.trans h.q.grew hc fun i _ hf => w.sub i (h.q.new i hf), fun k hk => ?_⟩, h.blk.chg hc h.outS, h.sl.chg hc fun a ha => (h.far a ha).2.1, h.newS, fun hf => ?_, fun a ha => ⟨Nat.lt_of_lt_of_le (h.far a ha).1 hc.size, fun hf => ?_, (h.far a ha).2.2⟩, h.nil, h.newA⟩
  · rcases hn k hk with h1 | h1
    · exact h.q.new k h1
    · exact w.up k (Nat.le_trans h.q.grew.size h1)
  · rcases hn _ hf with h1 | h1
    · exact h.outS h1
    · have := h.blk.lt; omega
  · rcases hn _ hf with h1 | h1
    · exact (h.far a ha).2.1 h1
    · have := (h.far a ha).1; omega
theorem SP.same {l' : List Itm} (h : SP w W b S l s A c M As cs added ad2) (hq : Q W' b l' A c M added) (hc : Chg (QF b A M) W W') : SP w W' b S l' s A c M As cs added ad2 := h.turn hq hc fun _ hk => .inl hk
theorem SQ.grew (h : SQ w W b S l s A c M As cs added) : Chg w.G w.w W := h.p.q.grew
theorem SQ.grewOf {w : World} (h : SQ (Bs.of w) W b S l s A c M As cs added) : Grew w W := Chg.mono (G := NoF) h.p.q.grew fun i hi e => absurd (show w.heap.size ≤ i from e) (by omega)
/-- The same things, from another base. -/
theorem SQ.base {w' : Bs} (h : SQ w W b S l s A c M As cs added) (hg0 : Grew W W') (hg : Chg w'.G w'.w W') (hn : ∀ k, w.F k → k < W.heap.size → w'.F k) : SQ w' W' b S l s A c M As cs added :=
  ⟨⟨⟨h.p.q.q.grew hg0, hg, fun k hk => hn k (h.p.q.new k hk) (QF_old h.p.q.q hk)⟩, h.p.blk.grew hg0, h.p.sl.grew hg0, hn _ h.p.newS h.p.blk.lt, h.p.outS, fun a ha => ⟨Nat.lt_of_lt_of_le (h.p.far a ha).1 hg0.size, (h.p.far a ha).2⟩, h.p.nil, fun a ha => hn _ (h.p.newA a ha) (h.p.far a ha).1⟩, h.hp, h.ql, h.nb, h.ad⟩
/-- Something else changed. -/
theorem SQ.other {C : Nat → Prop} (h : SQ w W b S l s A c M As cs added) (hc : Chg C W W') (h1 : ∀ k, k < W.heap.size → w.F k → ¬ C k) (h2 : ∀ k, C k → w.G k) : SQ w W' b S l s A c M As cs added :=
  ⟨⟨⟨h.p.q.q.chg hc fun k hk => h1 k (QF_old h.p.q.q hk) (h.p.q.new k hk), Chg.trans h.p.q.grew hc fun i _ e => h2 i e, h.p.q.new⟩, h.p.blk.chg hc (h1 _ h.p.blk.lt h.p.newS), h.p.sl.chg hc fun a ha => h1 _ (h.p.far a ha).1 (h.p.newA a ha), h.p.newS, h.p.outS,
    fun a ha => ⟨Nat.lt_of_lt_of_le (h.p.far a ha).1 hc.size, (h.p.far a ha).2⟩, h.p.nil, h.p.newA⟩, h.hp, h.ql, h.nb, h.ad⟩
theorem SQ.on (h : SQ w W b S l s A c M As cs added) (hg : Grew W W') : SQ w W' b S l s A c M As cs added := ⟨h.p.on hg, h.hp, h.ql, h.nb, h.ad⟩
theorem SQ.len (h : SQ w W b S l s A c M As cs added) : s.length = l.length := h.ql.len
end

/-- A new list was made and stored at S. -/
def Stored (W : World) (S : Nat) (s' : List Itm) (w' : World) : Prop := ∃ A3 c3 w3, w3.ownsRow W.heap.size 47 3 (.slice A3 s'.length c3) s'.length (s'.flatMap Itm.vals) ∧ Grew W w3 ∧ w3.setCell ⟨S, 0, none⟩ (.slice A3 s'.length c3) = w'

/-- Where the step's op is boxed, and what the first region leaves. -/
theorem sstep_facts {w : Bs} {W : World} {b S c M cs : Nat} {l s : List Itm} {A As : Option Addr} {added : Int} (h : SQ w W b S l s A c M As cs added) (o : Qop) :
    SQ w (W.alloc (.cells #[.int .i64 o.kind, .int .i64 o.n, .int .i64 o.time, .string o.text] 39)) b S l s A c M As cs added ∧ Blk (W.alloc (.cells #[.int .i64 o.kind, .int .i64 o.n, .int .i64 o.time, .string o.text] 39)) W.heap.size 39 #[.int .i64 o.kind, .int .i64 o.n, .int .i64 o.time, .string o.text] :=
  ⟨h.on ((Chg.refl _ _).alloc _), Blk.new _ _ _⟩

/-- What a step leaves. -/
def STo (w : Bs) (W' : World) (b S M : Nat) (s' : List Itm) (added' : Int) : Prop := ∃ l' A' c' As' cs', SQ w W' b S l' s' A' c' M As' cs' added'

set_option maxRecDepth 100000 in
set_option maxHeartbeats 1600000 in
theorem sstep_other (o : Qop) (w : Bs) (W : World) (b S c M cs : Nat) (l s : List Itm) (A As : Option Addr) (added : Int) (h : SQ w W b S l s A c M As cs added) (hl : l.length ≤ 1000) (h1 : o.kind ≠ 1) (h2 : o.kind ≠ 2) (h3 : o.kind ≠ 3) (h4 : o.kind ≠ 4) (h5 : o.kind ≠ 5) :
    Calls Try.prog 14 #[.pointer (some ⟨S, 0, none⟩), .pointer (some ⟨b, 0, none⟩), (.agg #[.int .i64 o.kind, .int .i64 o.n, .int .i64 o.time, .string o.text])] W fun e w' => e = .returned (.bool true) ∧ STo w w' b S M s added := by
  have k1 : (o.kind == 1) = false := by simpa using h1
  have k2 : (o.kind == 2) = false := by simpa using h2
  have k3 : (o.kind == 3) = false := by simpa using h3
  have k4 : (o.kind == 4) = false := by simpa using h4
  have k5 : (o.kind == 5) = false := by simpa using h5
  obtain ⟨W0, hW0⟩ : ∃ W0, W.alloc (.cells #[.int .i64 o.kind, .int .i64 o.n, .int .i64 o.time, .string o.text] 39) = W0 := ⟨_, rfl⟩
  have hf := sstep_facts h o
  rw [hW0] at hf
  have H := Lib.hid hf
  have HW0 := Lib.hid hW0
  have hsl : s.length ≤ 1000000 := by rw [h.len]; omega
  obtain ⟨c0, f0, s0⟩ := hf.1.p.blk.facts
  obtain ⟨c1, f1, s1⟩ := hf.2.facts
  clear h hf hW0 h1 h2 h3 h4 h5
  go_enter Try.func14, Try.ntmps14
  go_wp2_with (rw [HW0.out])
  go_quiet ((go_at_call 22; exact quiet_sym (xfind_any o.n s As cs _ (H.out.1.p.sl.grew ((Chg.refl _ _).drewN _)) hsl)))
  obtain ⟨W1, hW1⟩ : ∃ W1, W0.drewN nq = W1 := ⟨_, rfl⟩
  have HG1 := Lib.hid (show Grew W0 W1 from hW1 ▸ (Chg.refl _ _).drewN _)
  rw [hW1]
  clear hW1 c0 f0 s0 c1 f1 s1
  obtain ⟨c0, f0, s0⟩ := (H.out.1.p.blk.grew HG1.out).facts
  obtain ⟨c1, f1, s1⟩ := (H.out.2.grew HG1.out).facts
  go_wp2_with fail
  go_ret
  exact ⟨rfl, _, _, _, _, _, H.out.1.on HG1.out⟩

end Go.Proofs.Ytjdbaeogoifdfaa
