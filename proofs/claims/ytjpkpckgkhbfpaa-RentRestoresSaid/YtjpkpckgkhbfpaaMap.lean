/- A map whose keys are ints, as a function. -/
import Derived.Test.YtjpkpckgkhbfpaaBase
import Derived.Maps.OwnSet
import Derived.Maps.Views
import Derived.WideKeyEntry
import Derived.Carry
namespace Go.Proofs.Ytjpkpckgkhbfpaa
open Go.RowKit Go.Maps
open Go.WideElems (rg)
open Go.ChangeMaps (setBlock)

/-- Each element reads as itself. -/
def rdV (v : Value) : Option (DataW Value × List MemPlace) := some (.held v, [])

/-- What a datum tells of its int keys. -/
structure Vw (D : DataW Value) (m : Int → Option Value) : Prop where
  no : ∀ i, m i = none → Maps.has D (.int .i64 i) = false
  yes : ∀ i v, m i = some v → Maps.has D (.int .i64 i) = true ∧ ∀ z, D.atKey (.int .i64 i) z = .held v

/-- Block b is a map of s entries, that is m. -/
def IMap (P : Program) (k : TypeId) (w : World) (b : Nat) (m : Int → Option Value) (s : Nat) : Prop :=
  ∃ D, w.ownsMap P k rdV b s D ∧ Maps.size D = s ∧ Vw D m

def upd (m : Int → Option Value) (i : Int) (o : Option Value) : Int → Option Value := fun j => if j = i then o else m j
theorem upd_same (m : Int → Option Value) (i : Int) (o : Option Value) : upd m i o i = o := by simp [upd]
theorem upd_other {m : Int → Option Value} {i j : Int} {o : Option Value} (h : j ≠ i) : upd m i o j = m j := by simp [upd, h]

theorem keyLit (i : Int) : WideAt.IsKeyLit (.int .i64 i) := by simp [WideAt.IsKeyLit]
theorem wfInt {i : Int} (h0 : -9223372036854775808 ≤ i) (h1 : i ≤ 9223372036854775807) : (Lit.int .i64 i).wf = true := by
  have e0 : IntKind.i64.min = -9223372036854775808 := by decide
  have e1 : IntKind.i64.max = 9223372036854775807 := by decide
  simp [Lit.wf, e0, e1]
  omega

theorem wrap_nat {n : Nat} (h : n ≤ 9223372036854775807) : IntKind.i64.wrap (n : Int) = (n : Int) := by
  have e : IntKind.i64.min = -9223372036854775808 := by decide
  have e1 : IntKind.i64.max = 9223372036854775807 := by decide
  simp [IntKind.wrap, IntKind.bits, IntKind.signed]
  omega

theorem own_tight {P : Program} {k : TypeId} {R : Value → Option (DataW Value × List MemPlace)} {w : World} {b n n' : Nat} {D : DataW Value} (h : w.ownsMap P k R b n D) (hn : Maps.size D ≤ n') : w.ownsMap P k R b n' D := by
  obtain ⟨es, clock, hb, F, hs, rfl⟩ := h
  refine ⟨es, clock, hb, F, ?_, rfl⟩
  have : Maps.size (DataW.map ((es.toList.map (rg P k R)).foldr DataW.insert [])) = es.size := by simp [Maps.size, length_sorted]
  omega

section
variable {P : Program} {k t e : TypeId} {w w' : World} {b s : Nat} {m : Int → Option Value}

theorem IMap.made (P : Program) (k : TypeId) (w : World) : IMap P k (w.alloc (.map #[] 0)) w.heap.size (fun _ => none) 0 :=
  ⟨_, World.ownsMap_made w P k rdV, rfl, ⟨fun _ _ => rfl, fun _ _ h => by cases h⟩⟩
theorem IMap.lt (h : IMap P k w b m s) : b < w.heap.size := by obtain ⟨D, ho, _⟩ := h; exact ho.lt
theorem IMap.chg {F : Nat → Prop} (h : IMap P k w b m s) (hc : Chg F w w') (hF : ¬ F b) : IMap P k w' b m s := by
  obtain ⟨D, ⟨es, clock, hb, r⟩, hs, hv⟩ := h
  exact ⟨D, ⟨es, clock, (hc.block b (Array.getElem?_eq_some_iff.1 hb).1 hF).trans hb, r⟩, hs, hv⟩
theorem IMap.grew (h : IMap P k w b m s) (hc : Grew w w') : IMap P k w' b m s := h.chg hc id

theorem IMap.look (h : IMap P k w b m s) (K : Keyed P k) (hk : P.underlying k = some (.int .i64)) (ht : P.underlying t = some (.map k e)) {z : Value} (hz : (zeroValue e).run P w = .ok z w) {i : Int} (hi : (Lit.int .i64 i).wf = true) :
    (Instr.lookup t (.map (some b)) (.int .i64 i) false).run P w = .ok ((m i).getD z) w := by
  obtain ⟨D, ho, -, hv⟩ := h
  obtain ⟨v, ps, hr, hR⟩ := ho.lookup K ht hz (zd := .held z) (zp := []) rfl (keyOf_int_mk hk hi)
  rw [hr]
  simp only [rdV, Option.some.injEq, Prod.mk.injEq] at hR
  cases hm : m i with
  | none =>
    rw [atKey_of_not_has (hv.no i hm)] at hR
    injection hR.1 with e
    rw [e]; rfl
  | some x =>
    rw [(hv.yes i x hm).2] at hR
    injection hR.1 with e
    rw [e]; rfl
theorem IMap.look_ok (h : IMap P k w b m s) (K : Keyed P k) (hk : P.underlying k = some (.int .i64)) (ht : P.underlying t = some (.map k e)) {z : Value} (hz : (zeroValue e).run P w = .ok z w) {i : Int} (hi : (Lit.int .i64 i).wf = true) :
    (Instr.lookup t (.map (some b)) (.int .i64 i) true).run P w = .ok (.tuple #[(m i).getD z, .bool (m i).isSome]) w := by
  obtain ⟨D, ho, -, hv⟩ := h
  obtain ⟨v, ps, hr, hR⟩ := ho.look_ok K ht hz (zd := .held z) (zp := []) rfl (keyOf_int_mk hk hi)
  rw [hr]
  simp only [rdV, Option.some.injEq, Prod.mk.injEq] at hR
  cases hm : m i with
  | none =>
    rw [atKey_of_not_has (hv.no i hm)] at hR
    injection hR.1 with e
    rw [e, hv.no i hm]; rfl
  | some x =>
    rw [(hv.yes i x hm).2] at hR
    injection hR.1 with e
    rw [e, (hv.yes i x hm).1]; rfl
theorem IMap.len (h : IMap P k w b m s) (ht : P.underlying t = some (.map k e)) (ty : TypeId) : (Builtin.len_ #[t] ty #[.map (some b)]).run P w = .ok (.int .i64 s) w := by
  obtain ⟨D, ho, hs, -⟩ := h
  rw [ho.len ht, hs]
theorem turned_chg (h : w.mapTurned w' b) : Chg (fun j => j = b) w w' :=
  (Chg.refl (fun j => j = b) w).grown h.grown fun j hj _ => by injection hj with hj; exact hj.symm
theorem IMap.putD {n : Nat} {D : DataW Value} {i : Int} {v : Value} (hv : Vw D m) (hs : Maps.size D = s) (ht : Tidy D) (hM : IsMap D) (ho : w'.ownsMap P k rdV b n (D.put (.int .i64 i) (.held v))) :
    IMap P k w' b (upd m i (some v)) (if (m i).isSome then s else s + 1) := by
  have hsz : Maps.size (D.put (.int .i64 i) (.held v)) = if (m i).isSome then s else s + 1 := by
    rw [Maps.size_put ht, hs]
    cases hm : m i with
    | none => rw [hv.no i hm]; rfl
    | some x => rw [(hv.yes i x hm).1]; rfl
  refine ⟨_, own_tight ho (by omega), hsz, ⟨fun j hj => ?_, fun j x hj => ?_⟩⟩
  · by_cases e : j = i
    · subst e; rw [upd_same] at hj; cases hj
    · rw [upd_other e] at hj
      rw [Maps.has_put_other (by simpa using e)]
      exact hv.no j hj
  · by_cases e : j = i
    · subst e
      rw [upd_same] at hj
      cases hj
      exact ⟨Maps.has_put_same hM (keyLit j) _, fun z => Maps.atKey_put_same hM (keyLit j) _ z⟩
    · rw [upd_other e] at hj
      rw [Maps.has_put_other (by simpa using e)]
      exact ⟨(hv.yes j x hj).1, fun z => by rw [Maps.atKey_put_other (by simpa using e)]; exact (hv.yes j x hj).2 z⟩
theorem IMap.put (h : IMap P k w b m s) (K : Keyed P k) (hk : P.underlying k = some (.int .i64)) (ht : P.underlying t = some (.map k e)) (hn : s < maxLen) {i : Int} (hi : (Lit.int .i64 i).wf = true) (v : Value) :
    ∃ w', (Instr.mapUpdate t (.map (some b)) (.int .i64 i) v).run P w = .ok () w' ∧ IMap P k w' b (upd m i (some v)) (if (m i).isSome then s else s + 1) ∧ Chg (fun j => j = b) w w' := by
  obtain ⟨D, ho, hs, hv⟩ := h
  obtain ⟨w', hr, ho', ht'⟩ := ho.store K ht hn (keyOf_int_mk hk hi) (d := .held v) (ps := []) rfl
  exact ⟨w', hr, IMap.putD hv hs (ho.tidy K) ho.isMap ho', turned_chg ht'⟩
theorem IMap.delD {n : Nat} {D : DataW Value} {i : Int} (hv : Vw D m) (hs : Maps.size D = s) (ht : Tidy D) (ho : w'.ownsMap P k rdV b n (D.del (.int .i64 i))) :
    IMap P k w' b (upd m i none) (if (m i).isSome then s - 1 else s) := by
  have hsz : Maps.size (D.del (.int .i64 i)) = if (m i).isSome then s - 1 else s := by
    have := Maps.size_del ht (k := .int .i64 i)
    rw [hs] at this
    cases hm : m i with
    | none => rw [hv.no i hm] at this; simpa using this
    | some x => rw [(hv.yes i x hm).1] at this; simp at this ⊢; omega
  refine ⟨_, own_tight ho (by omega), hsz, ⟨fun j hj => ?_, fun j x hj => ?_⟩⟩
  · by_cases e : j = i
    · subst e; exact Maps.has_del_same
    · rw [upd_other e] at hj
      rw [Maps.has_del_other (by simpa using e)]
      exact hv.no j hj
  · by_cases e : j = i
    · subst e; rw [upd_same] at hj; cases hj
    · rw [upd_other e] at hj
      rw [Maps.has_del_other (by simpa using e)]
      exact ⟨(hv.yes j x hj).1, fun z => by rw [Maps.atKey_del_other (by simpa using e)]; exact (hv.yes j x hj).2 z⟩
theorem IMap.del (h : IMap P k w b m s) (K : Keyed P k) (hk : P.underlying k = some (.int .i64)) (ht : P.underlying t = some (.map k e)) {i : Int} (hi : (Lit.int .i64 i).wf = true) (ty : TypeId) :
    ∃ w', (Builtin.delete_ #[t, k] ty #[.map (some b), .int .i64 i]).run P w = .ok (.tuple #[]) w' ∧ IMap P k w' b (upd m i none) (if (m i).isSome then s - 1 else s) ∧ Chg (fun j => j = b) w w' := by
  obtain ⟨D, ho, hs, hv⟩ := h
  obtain ⟨w', hr, ho', ht'⟩ := ho.drop K ht (keyOf_int_mk hk hi) ty
  exact ⟨w', hr, IMap.delD hv hs (ho.tidy K) ho', turned_chg ht'⟩
end

section
variable {P : Program} {k e : TypeId} {b s : Nat} {m : Int → Option Value} (w : World) {ops : Array Oper} {rest : List Oper} {o : Oper} {a : Act} {Q : Exit → Act → World → Prop}
/-- 'm[k] = v' at the operation. -/
theorem wpList_put_im (hg : o.guard = none) (mo x vo : Operand) (t : TypeId) (hop : o.op = Op.mapUpdate t mo x vo) (h : IMap P k w b m s) (K : Keyed P k) (hk : P.underlying k = some (.int .i64)) (ht : P.underlying t = some (.map k e)) (hn : s < maxLen) (i : Int) (hi : (Lit.int .i64 i).wf = true) (v : Value)
    (hm : a.eval mo = .map (some b)) (hx : a.eval x = .int .i64 i) (hv : a.eval vo = v)
    (hK : ∀ w', IMap P k w' b (upd m i (some v)) (if (m i).isSome then s else s + 1) → Chg (fun j => j = b) w w' → wpList P ops Q rest (a.put o.dst undef) w') :
    wpList P ops Q (o :: rest) a w := by
  refine wpList_plain hg fun K' hK' => ?_
  obtain ⟨w', hrun, r1, r2⟩ := h.put K hk ht hn hi v
  unfold Oper.wp
  simp [execOp, hop, hm, hx, hv, hrun, Result.andThen]
  exact hK' _ _ (hK w' r1 r2)
/-- 'delete(m, k)' at the operation. -/
theorem wpList_del_im (hg : o.guard = none) (mo x : Operand) (t : TypeId) (hop : o.op = Op.call { callee := Callee.builtin Builtin.delete, args := #[mo, x], argTypes := #[t, k] }) (h : IMap P k w b m s) (K : Keyed P k) (hk : P.underlying k = some (.int .i64)) (ht : P.underlying t = some (.map k e)) (i : Int) (hi : (Lit.int .i64 i).wf = true)
    (hm : a.eval mo = .map (some b)) (hx : a.eval x = .int .i64 i)
    (hK : ∀ w', IMap P k w' b (upd m i none) (if (m i).isSome then s - 1 else s) → Chg (fun j => j = b) w w' → wpList P ops Q rest (a.put o.dst (.tuple #[])) w') :
    wpList P ops Q (o :: rest) a w := by
  refine wpList_plain hg fun K' hK' => ?_
  obtain ⟨w', hrun, r1, r2⟩ := h.del K hk ht hi o.type
  unfold Oper.wp
  simp [execOp, hop, resolve, invoke, builtin, hm, hx, hrun, Result.andThen]
  exact hK' _ _ (hK w' r1 r2)
end

/-- 'm[k]' laid ahead, and stored later: the two halves of a store in a list of assignments. -/
theorem IMap.entry {P : Program} {k t e : TypeId} {w : World} {b s : Nat} {m : Int → Option Value} (h : IMap P k w b m s) (K : Keyed P k) (hk : P.underlying k = some (.int .i64)) (ht : P.underlying t = some (.map k e)) (hn : s < maxLen) {z : Value} (hz : ∀ u : World, (zeroValue e).run P u = .ok z u) {i : Int} (hi : (Lit.int .i64 i).wf = true) :
    ∃ (v0 : Value) (st : Nat) (o1 : Obj), (Instr.mapEntry t (.map (some b)) (.int .i64 i)).run P w = .ok (.tuple #[v0, goInt st]) (setBlock w b o1) ∧
      ∀ (w2 : World) (val : Value), w2.heap[b]? = some o1 → ∃ o2, (Instr.entryStore t (.map (some b)) (goInt st) val).run P w2 = .ok () (setBlock w2 b o2) ∧ IMap P k (setBlock w2 b o2) b (upd m i (some val)) (if (m i).isSome then s else s + 1) := by
  obtain ⟨D, ho, hs, hv⟩ := h
  have hT := ho.tidy K
  have hMp := ho.isMap
  obtain ⟨es, clock, hb, F, hle, hD⟩ := ho
  have hkey := keyOf_int_mk hk hi
  obtain ⟨s1, s2, _⟩ := F.stamped
  -- what a plain store would leave
  have fin : ∀ (es' : Array MapEntry) (clock' : Nat) (val : Value), (Instr.mapUpdate t (.map (some b)) (.int .i64 i) val).run P w = .ok () (setBlock w b (.map es' clock')) → ∀ w2 : World, b < w2.heap.size →
      IMap P k (setBlock w2 b (.map es' clock')) b (upd m i (some val)) (if (m i).isSome then s else s + 1) := by
    intro es' clock' val hr w2 hb2
    have ho : w.ownsMap P k rdV b s D := ⟨es, clock, hb, F, hle, hD⟩
    obtain ⟨w', hr', ho', -⟩ := ho.store K ht hn hkey (d := .held val) (ps := []) rfl
    rw [hr] at hr'
    injection hr' with _ e
    subst e
    obtain ⟨es1, clock1, hb1, r⟩ := ho'
    have hbw : b < w.heap.size := (Array.getElem?_eq_some_iff.1 hb).1
    have e1 : (setBlock w b (.map es' clock')).heap[b]? = some (.map es' clock') := by simp [setBlock, hbw]
    rw [e1] at hb1
    injection hb1 with hb1
    injection hb1 with h1 h2
    subst h1 h2
    refine IMap.putD hv hs hT hMp (n := s + 1) ⟨_, _, ?_, r⟩
    simp [setBlock, hb2]
  rcases K.find w hkey es.toList F.keys with ⟨h1, h2⟩ | ⟨j, e0, h1, h2, h3⟩
  · refine ⟨z, clock, .map (es.push ⟨.int .i64 i, z, clock⟩) (clock + 1), ?_, fun w2 val hw2 => ⟨.map (es.push ⟨.int .i64 i, val, clock⟩) (clock + 1), ?_, fin _ _ val ?_ w2 (Array.getElem?_eq_some_iff.1 hw2).1⟩⟩
    · simp [Instr.mapEntry, run_underlying ht, MapKept.run_getObj_map hb, K.check w false hkey, h1, hz, MapKept.run_setObj_map _ hb, Result.andThen, setBlock]
    · have hidx : (es.push ⟨.int .i64 i, z, clock⟩).findIdx? (fun e => ((e.born : Nat) : Int) == ((clock : Nat) : Int)) = some es.size := by
        rw [WideElems.findIdx_arr]
        have hl : (es.push ⟨.int .i64 i, z, clock⟩).toList = es.toList ++ [⟨.int .i64 i, z, clock⟩] := Array.toList_push ..
        have hnd : ((es.push ⟨.int .i64 i, z, clock⟩).toList.map (·.born)).Nodup := by
          rw [hl, List.map_append]
          refine List.nodup_append.2 ⟨s2, by simp, ?_⟩
          intro a ha c hc e1
          simp only [List.map_cons, List.map_nil, List.mem_singleton] at hc
          obtain ⟨x, hx, hxb⟩ := List.mem_map.1 ha
          have := s1 x hx
          omega
        exact WideElems.findIdx_born hnd (j := es.size) (e0 := ⟨.int .i64 i, z, clock⟩) (by rw [hl]; simp)
      have hmod : (es.push ⟨.int .i64 i, z, clock⟩).modify es.size (fun e => { e with val := val }) = es.push ⟨.int .i64 i, val, clock⟩ := by
        apply Array.ext'
        rw [Array.toList_modify, Array.toList_push, Array.toList_push, ← Array.length_toList, WideElems.modify_last]
      simp [Instr.entryStore, MapKept.run_getObj_map hw2, asInt, asIntOf, goInt, hidx, hmod, MapKept.run_setObj_map _ hw2, Result.andThen, setBlock]
    · simp [Instr.mapUpdate, run_underlying ht, MapKept.run_getObj_map hb, K.check w false hkey, h1, MapKept.run_setObj_map _ hb, Result.andThen, setBlock]
  · have hj : es[j]? = some e0 := by simpa using h2
    have hsame : es.modify j (fun e => { e with key := .int .i64 i }) = es := by
      apply Array.ext'
      rw [Array.toList_modify, ChangeMaps.modify_eq_set _ _ _ _ h2]
      exact WideElems.set_self _ _ _ (by rw [h2, ← h3])
    refine ⟨e0.val, e0.born, .map es clock, ?_, fun w2 val hw2 => ⟨.map (es.modify j (fun e' => { e' with key := .int .i64 i, val := val })) clock, ?_, fin _ _ val ?_ w2 (Array.getElem?_eq_some_iff.1 hw2).1⟩⟩
    · simp [Instr.mapEntry, run_underlying ht, MapKept.run_getObj_map hb, K.check w false hkey, h1, hj, h3, K.stays w hkey, hsame, MapKept.run_setObj_map _ hb, Result.andThen, setBlock]
    · have hidx : es.findIdx? (fun e => ((e.born : Nat) : Int) == ((e0.born : Nat) : Int)) = some j := by
        rw [WideElems.findIdx_arr]
        exact WideElems.findIdx_born s2 h2
      have hmod : es.modify j (fun e => { e with val := val }) = es.modify j (fun e' => { e' with key := .int .i64 i, val := val }) := by
        apply Array.ext'
        rw [Array.toList_modify, Array.toList_modify, ChangeMaps.modify_eq_set _ _ _ _ h2, ChangeMaps.modify_eq_set _ _ _ _ h2, ← h3]
      simp [Instr.entryStore, MapKept.run_getObj_map hw2, asInt, asIntOf, goInt, hidx, hmod, MapKept.run_setObj_map _ hw2, Result.andThen, setBlock]
    · simp [Instr.mapUpdate, run_underlying ht, MapKept.run_getObj_map hb, K.check w false hkey, h1, hj, h3, K.stays w hkey, MapKept.run_setObj_map _ hb, Result.andThen, setBlock]

end Go.Proofs.Ytjpkpckgkhbfpaa
