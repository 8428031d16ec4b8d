/- A range over a map whose keys are ints (program-free). -/
import Derived.Test.YtjpkpckgkhbfpaaMap
import Derived.Test.YtjpkpckgkhbfpaaRange
import Derived.Maps.OwnIn
namespace Go.Proofs.Ytjpkpckgkhbfpaa
open Go.RowKit Go.Maps

/-- At it lies an iterator over the map at b: what it has not told yet. -/
def IIt (P : Program) (k : TypeId) (w : World) (b it : Nat) (m : Int → Option Value) (s : Nat) (left : Int → Bool) (cnt : Nat) : Prop :=
  ∃ D lf, w.ranges P k rdV b it s D lf cnt ∧ Maps.size D = s ∧ Vw D m ∧ left = fun i => lf (.int .i64 i)
/-- The block at it is an iterator's. -/
def It (w : World) (it : Nat) (o : Obj) : Prop := w.heap[it]? = some o ∧ ∃ b s c n, o = .mapIter b s c n

section
variable {P : Program} {k t e : TypeId} {w w' : World} {b it s cnt : Nat} {m : Int → Option Value} {left : Int → Bool} {o : Obj}
theorem It.book (h : It w it o) : Book w it := by
  obtain ⟨h, b, s, c, n, rfl⟩ := h
  exact ⟨_, h, rfl⟩
theorem It.chg {F : Nat → Prop} (h : It w it o) (hc : Chg F w w') (hF : ¬ F it) : It w' it o :=
  ⟨(hc.block it (Array.getElem?_eq_some_iff.1 h.1).1 hF).trans h.1, h.2⟩
theorem It.grew (h : It w it o) (hc : Grew w w') : It w' it o := h.chg hc id
theorem It.lt (h : It w it o) : it < w.heap.size := (Array.getElem?_eq_some_iff.1 h.1).1
theorem IIt.has (h : IIt P k w b it m s left cnt) : ∃ o, It w it o := by
  obtain ⟨D, lf, ⟨es, clock, since, seen, c0, hb, hf, hn, hD, hr, rest⟩, _⟩ := h
  exact ⟨_, hr, _, _, _, _, rfl⟩
theorem IIt.imap (h : IIt P k w b it m s left cnt) : IMap P k w b m s := by
  obtain ⟨D, lf, h, hs, hv, _⟩ := h
  exact ⟨D, h.owns, hs, hv⟩
/-- The map and the iterator are as they were. -/
theorem IIt.same (h : IIt P k w b it m s left cnt) {o : Obj} (ho : It w it o) (hb : w'.heap[b]? = w.heap[b]?) (ho' : It w' it o) : IIt P k w' b it m s left cnt := by
  obtain ⟨D, lf, ⟨es, clock, since, seen, c0, hb0, hf, hn, hD, hr, rest⟩, h2⟩ := h
  have : o = .mapIter (some b) since seen c0 := by
    have := ho.1
    rw [hr] at this
    exact (Option.some.inj this).symm
  subst this
  exact ⟨D, lf, ⟨es, clock, since, seen, c0, hb.trans hb0, hf, hn, hD, ho'.1, rest⟩, h2⟩
theorem IIt.left_eq (h : IIt P k w b it m s left cnt) : w.rangeLeft b it = cnt := by
  obtain ⟨D, lf, h, _⟩ := h
  exact h.left_eq

theorem IMap.range_ (h : IMap P k w b m s) (K : Keyed P k) (ht : P.underlying t = some (.map k e)) :
    ∃ w', (Instr.range t (.map (some b))).run P w = .ok (.pointer (some ⟨w.heap.size, 0, none⟩)) w' ∧ IIt P k w' b w.heap.size m s (fun i => (m i).isSome) s ∧ Grew w w' ∧ w'.heap.size = w.heap.size + 1 := by
  obtain ⟨D, ho, hs, hv⟩ := h
  obtain ⟨w', h1, h2, h3, h4⟩ := ho.range K ht
  refine ⟨w', h1, ⟨D, _, hs ▸ h2, hs, hv, funext fun i => ?_⟩, (Chg.refl NoF w).grown h3 (fun j hj => by cases hj), h4⟩
  cases hm : m i with
  | none => rw [hv.no i hm]; rfl
  | some v => rw [(hv.yes i v hm).1]; rfl

theorem wf_keyOf {i : Int} (hk : P.underlying k = some (.int .i64)) {kl : Lit} {key : Value} (h : keyOf P k key = some kl) : ∃ x, key = .int .i64 x ∧ kl = .int .i64 x ∧ (Lit.int .i64 x).wf = true := Maps.keyOf_int_inv hk h

theorem IIt.next (h : IIt P k w b it m s left cnt) (K : Keyed P k) (hk : P.underlying k = some (.int .i64)) (ty : TypeId) :
    (cnt = 0 ∧ (∀ i, left i = false) ∧ (Instr.next (.pointer (some ⟨it, 0, none⟩)) false ty).run P w = .ok (.tuple #[.bool false]) w) ∨
    ∃ i v w' cnt', left i = true ∧ m i = some v ∧ (Instr.next (.pointer (some ⟨it, 0, none⟩)) false ty).run P w = .ok (.tuple #[.bool true, .int .i64 i, v]) w' ∧
      IIt P k w' b it m s (fun j => left j && !decide (j = i)) cnt' ∧ cnt' < cnt ∧ Kept it w w' ∧ w'.heap.size = w.heap.size ∧ (Instr.entry (.pointer (some ⟨it, 0, none⟩))).run P w' = .ok (.tuple #[.int .i64 i, v]) w' := by
  obtain ⟨o, ho⟩ := h.has
  obtain ⟨D, lf, hr, hs, hv, rfl⟩ := h
  rcases hr.next K ty with ⟨h0, hl, hrun⟩ | ⟨key, v, kl, y, w', cnt', hkey, hlk, hvy, hat, hrun, hrg, hlt, hgr, hsz, hen⟩
  · exact .inl ⟨h0, fun i => hl _, hrun⟩
  · obtain ⟨x, rfl, rfl, hwx⟩ := Maps.keyOf_int_inv hk hkey
    simp only [rdV, Option.some.injEq] at hvy
    subst hvy
    have hmx : m x = some v := by
      cases hm : m x with
      | none =>
        have h1 := hat .nil
        rw [atKey_of_not_has (hv.no x hm)] at h1
        cases h1
      | some v' =>
        have h1 := hat .nil
        rw [(hv.yes x v' hm).2 .nil] at h1
        injection h1 with h1
        rw [h1]
    refine .inr ⟨x, v, w', cnt', hlk, hmx, hrun, ⟨D, _, hrg, hs, hv, funext fun j => ?_⟩, hlt, ⟨(Chg.refl (fun j => j = it) w).grown hgr fun j hj _ => by injection hj with hj; exact hj.symm, ho.book⟩, hsz, hen⟩
    have : ((Lit.int .i64 j).sameKey (.int .i64 x)) = decide (j = x) := by
      by_cases e : j = x
      · subst e
        rw [WideAt.sameKey_self (keyLit _)]
        simp
      · rw [show decide (j = x) = false from decide_eq_false e]
        cases hsk : (Lit.int .i64 j).sameKey (.int .i64 x) with
        | false => rfl
        | true => simp [Lit.sameKey] at hsk; exact absurd hsk e
    simp [this]

variable {F : Fence} {n : Nat} {ops : Array Oper} {rest : List Oper} {op : Oper} {a : Act} {Q : Exit → Act → World → Prop}
/-- 'range m', at the operation. -/
theorem wpListIn_range_im (hg : op.guard = none) (mo : Operand) (t : TypeId) (hop : op.op = Op.range t mo) (h : IMap P k w b m s) (K : Keyed P k) (ht : P.underlying t = some (.map k e)) (hm : a.eval mo = .map (some b))
    (hK : ∀ w', IIt P k w' b w.heap.size m s (fun i => (m i).isSome) s → Grew w w' → w'.heap.size = w.heap.size + 1 → wpListIn F n P ops Q rest (a.put op.dst (.pointer (some ⟨w.heap.size, 0, none⟩))) w') :
    wpListIn F n P ops Q (op :: rest) a w := by
  refine wpListIn_plain hg fun K' hK' => ?_
  obtain ⟨w', hrun, r1, r2, r3⟩ := h.range_ K ht
  unfold Oper.wpIn
  refine ⟨by simp [Oper.about, hop], ?_⟩
  rw [Oper.semAt_plain F _ _ (by rw [hop]; intro c hc'; cases hc')]
  simp [execOp, hop, hm, hrun, Result.andThen]
  exact hK' _ _ (hK w' r1 r2 r3)
/-- The range's step. -/
theorem wpListIn_next_im (hg : op.guard = none) (ito : Operand) (hop : op.op = Op.next ito false) (h : IIt P k w b it m s left cnt) (K : Keyed P k) (hk : P.underlying k = some (.int .i64)) (hit : a.eval ito = .pointer (some ⟨it, 0, none⟩))
    (hDone : cnt = 0 → (∀ i, left i = false) → wpListIn F n P ops Q rest (a.put op.dst (.tuple #[.bool false])) w)
    (hMore : ∀ (i : Int) (v : Value) (w' : World) (cnt' : Nat), left i = true → m i = some v → IIt P k w' b it m s (fun j => left j && !decide (j = i)) cnt' → cnt' < cnt → Kept it w w' → w'.heap.size = w.heap.size → (Instr.entry (.pointer (some ⟨it, 0, none⟩))).run P w' = .ok (.tuple #[.int .i64 i, v]) w' → wpListIn F n P ops Q rest (a.put op.dst (.tuple #[.bool true, .int .i64 i, v])) w') :
    wpListIn F n P ops Q (op :: rest) a w := by
  refine wpListIn_plain hg fun K' hK' => ?_
  unfold Oper.wpIn
  refine ⟨by simp [Oper.about, hop], ?_⟩
  rw [Oper.semAt_plain F _ _ (by rw [hop]; intro c hc'; cases hc')]
  rcases h.next K hk op.type with ⟨h0, hl, hrun⟩ | ⟨i, v, w', cnt', h1, h2, hrun, h3, h4, h5, h6, h7⟩
  · simp [execOp, hop, hit, hrun, Result.andThen]
    exact hK' _ _ (hDone h0 hl)
  · simp [execOp, hop, hit, hrun, Result.andThen]
    exact hK' _ _ (hMore i v w' cnt' h1 h2 h3 h4 h5 h6 h7)
end

end Go.Proofs.Ytjpkpckgkhbfpaa
