/- Texts 4 of 8 that the proof of Full stands on. -/
import Derived.Test.YtjkkoogfaibhiaaGreatDoorMgFull3
import Derived.Maps.OwnIn
import Derived.Deep.LoopGhost
import Derived.Test.YtjkkoogfaibhiaaGreatDoorRows
import Derived.Shelf.Sort.Plain
import Derived.Sort.LoopGhostIn
import Derived.Lib.SortBridge
import Derived.OrdersHeld
import Derived.Deep.RegionHeld
set_option linter.unusedSimpArgs false
set_option linter.unusedVariables false

/- A range over a map whose keys are ints (program-free). -/
namespace Go.Proofs.YtjkkoogfaibhiaaGreatDoor
open Go.RowKit Go.Maps

/-- At it lies an iterator over the map at b: what it has not told yet. -/
def IIt (P : Program) (k : TypeId) (w : World) (b it : Nat) (m : Int → Option Value) (s : Nat) (left : Int → Bool) (cnt : Nat) : Prop :=
  ∃ D lf, w.ranges P k rdV b it s D lf cnt ∧ Maps.size D = s ∧ Vw D m ∧ left = fun i => lf (.int .i64 i)
/-- The block at it is an iterator's. -/
def It (w : World) (it : Nat) (o : Obj) : Prop := w.heap[it]? = some o ∧ ∃ b s c n, o = .mapIter b s c n

section
variable {P : Program} {k t e : TypeId} {w w' : World} {b it s cnt : Nat} {m : Int → Option Value} {left : Int → Bool} {o : Obj}
theorem It.book (h : It w it o) : Book w it := by
  obtain ⟨h, b, s, c, n, rfl⟩ := h
  exact ⟨_, h, rfl⟩
theorem It.chg {F : Nat → Prop} (h : It w it o) (hc : Chg F w w') (hF : ¬ F it) : It w' it o :=
  ⟨(hc.block it (Array.getElem?_eq_some_iff.1 h.1).1 hF).trans h.1, h.2⟩
theorem It.grew (h : It w it o) (hc : Grew w w') : It w' it o := h.chg hc id
theorem It.lt (h : It w it o) : it < w.heap.size := (Array.getElem?_eq_some_iff.1 h.1).1
theorem IIt.has (h : IIt P k w b it m s left cnt) : ∃ o, It w it o := by
  obtain ⟨D, lf, ⟨es, clock, since, seen, c0, hb, hf, hn, hD, hr, rest⟩, _⟩ := h
  exact ⟨_, hr, _, _, _, _, rfl⟩
theorem IIt.imap (h : IIt P k w b it m s left cnt) : IMap P k w b m s := by
  obtain ⟨D, lf, h, hs, hv, _⟩ := h
  exact ⟨D, h.owns, hs, hv⟩
/-- The map and the iterator are as they were. -/
theorem IIt.same (h : IIt P k w b it m s left cnt) {o : Obj} (ho : It w it o) (hb : w'.heap[b]? = w.heap[b]?) (ho' : It w' it o) : IIt P k w' b it m s left cnt := by
  obtain ⟨D, lf, ⟨es, clock, since, seen, c0, hb0, hf, hn, hD, hr, rest⟩, h2⟩ := h
  have : o = .mapIter (some b) since seen c0 := by
    have := ho.1
    rw [hr] at this
    exact (Option.some.inj this).symm
  subst this
  exact ⟨D, lf, ⟨es, clock, since, seen, c0, hb.trans hb0, hf, hn, hD, ho'.1, rest⟩, h2⟩
theorem IIt.left_eq (h : IIt P k w b it m s left cnt) : w.rangeLeft b it = cnt := by
  obtain ⟨D, lf, h, _⟩ := h
  exact h.left_eq

theorem IMap.range_ (h : IMap P k w b m s) (K : Keyed P k) (ht : P.underlying t = some (.map k e)) :
    ∃ w', (Instr.range t (.map (some b))).run P w = .ok (.pointer (some ⟨w.heap.size, 0, none⟩)) w' ∧ IIt P k w' b w.heap.size m s (fun i => (m i).isSome) s ∧ Grew w w' ∧ w'.heap.size = w.heap.size + 1 := by
  obtain ⟨D, ho, hs, hv⟩ := h
  obtain ⟨w', h1, h2, h3, h4⟩ := ho.range K ht
  refine ⟨w', h1, ⟨D, _, hs ▸ h2, hs, hv, funext fun i => ?_⟩, (Chg.refl NoF w).grown h3 (fun j hj => by cases hj), h4⟩
  cases hm : m i with
  | none => rw [hv.no i hm]; rfl
  | some v => rw [(hv.yes i v hm).1]; rfl

theorem wf_keyOf {i : Int} (hk : P.underlying k = some (.int .i64)) {kl : Lit} {key : Value} (h : keyOf P k key = some kl) : ∃ x, key = .int .i64 x ∧ kl = .int .i64 x ∧ (Lit.int .i64 x).wf = true := Maps.keyOf_int_inv hk h

theorem IIt.next (h : IIt P k w b it m s left cnt) (K : Keyed P k) (hk : P.underlying k = some (.int .i64)) (ty : TypeId) :
    (cnt = 0 ∧ (∀ i, left i = false) ∧ (Instr.next (.pointer (some ⟨it, 0, none⟩)) false ty).run P w = .ok (.tuple #[.bool false]) w) ∨
    ∃ i v w' cnt', left i = true ∧ m i = some v ∧ (Instr.next (.pointer (some ⟨it, 0, none⟩)) false ty).run P w = .ok (.tuple #[.bool true, .int .i64 i, v]) w' ∧
      IIt P k w' b it m s (fun j => left j && !decide (j = i)) cnt' ∧ cnt' < cnt ∧ Kept it w w' ∧ w'.heap.size = w.heap.size ∧ (Instr.entry (.pointer (some ⟨it, 0, none⟩))).run P w' = .ok (.tuple #[.int .i64 i, v]) w' := by
  obtain ⟨o, ho⟩ := h.has
  obtain ⟨D, lf, hr, hs, hv, rfl⟩ := h
  rcases hr.next K ty with ⟨h0, hl, hrun⟩ | ⟨key, v, kl, y, w', cnt', hkey, hlk, hvy, hat, hrun, hrg, hlt, hgr, hsz, hen⟩
  · exact .inl ⟨h0, fun i => hl _, hrun⟩
  · obtain ⟨x, rfl, rfl, hwx⟩ := Maps.keyOf_int_inv hk hkey
    simp only [rdV, Option.some.injEq] at hvy
    subst hvy
    have hmx : m x = some v := by
      cases hm : m x with
      | none =>
        have h1 := hat .nil
        rw [atKey_of_not_has (hv.no x hm)] at h1
        cases h1
      | some v' =>
        have h1 := hat .nil
        rw [(hv.yes x v' hm).2 .nil] at h1
        injection h1 with h1
        rw [h1]
    refine .inr ⟨x, v, w', cnt', hlk, hmx, hrun, ⟨D, _, hrg, hs, hv, funext fun j => ?_⟩, hlt, ⟨(Chg.refl (fun j => j = it) w).grown hgr fun j hj _ => by injection hj with hj; exact hj.symm, ho.book⟩, hsz, hen⟩
    have : ((Lit.int .i64 j).sameKey (.int .i64 x)) = decide (j = x) := by
      by_cases e : j = x
      · subst e
        rw [WideAt.sameKey_self (keyLit _)]
        simp
      · rw [show decide (j = x) = false from decide_eq_false e]
        cases hsk : (Lit.int .i64 j).sameKey (.int .i64 x) with
        | false => rfl
        | true => simp [Lit.sameKey] at hsk; exact absurd hsk e
    simp [this]

variable {F : Fence} {n : Nat} {ops : Array Oper} {rest : List Oper} {op : Oper} {a : Act} {Q : Exit → Act → World → Prop}
/-- 'range m', at the operation. -/
theorem wpListIn_range_im (hg : op.guard = none) (mo : Operand) (t : TypeId) (hop : op.op = Op.range t mo) (h : IMap P k w b m s) (K : Keyed P k) (ht : P.underlying t = some (.map k e)) (hm : a.eval mo = .map (some b))
    (hK : ∀ w', IIt P k w' b w.heap.size m s (fun i => (m i).isSome) s → Grew w w' → w'.heap.size = w.heap.size + 1 → wpListIn F n P ops Q rest (a.put op.dst (.pointer (some ⟨w.heap.size, 0, none⟩))) w') :
    wpListIn F n P ops Q (op :: rest) a w := by
  refine wpListIn_plain hg fun K' hK' => ?_
  obtain ⟨w', hrun, r1, r2, r3⟩ := h.range_ K ht
  unfold Oper.wpIn
  refine ⟨by simp [Oper.about, hop], ?_⟩
  rw [Oper.semAt_plain F _ _ (by rw [hop]; intro c hc'; cases hc')]
  simp [execOp, hop, hm, hrun, Result.andThen]
  exact hK' _ _ (hK w' r1 r2 r3)
/-- The range's step. -/
theorem wpListIn_next_im (hg : op.guard = none) (ito : Operand) (hop : op.op = Op.next ito false) (h : IIt P k w b it m s left cnt) (K : Keyed P k) (hk : P.underlying k = some (.int .i64)) (hit : a.eval ito = .pointer (some ⟨it, 0, none⟩))
    (hDone : cnt = 0 → (∀ i, left i = false) → wpListIn F n P ops Q rest (a.put op.dst (.tuple #[.bool false])) w)
    (hMore : ∀ (i : Int) (v : Value) (w' : World) (cnt' : Nat), left i = true → m i = some v → IIt P k w' b it m s (fun j => left j && !decide (j = i)) cnt' → cnt' < cnt → Kept it w w' → w'.heap.size = w.heap.size → (Instr.entry (.pointer (some ⟨it, 0, none⟩))).run P w' = .ok (.tuple #[.int .i64 i, v]) w' → wpListIn F n P ops Q rest (a.put op.dst (.tuple #[.bool true, .int .i64 i, v])) w') :
    wpListIn F n P ops Q (op :: rest) a w := by
  refine wpListIn_plain hg fun K' hK' => ?_
  unfold Oper.wpIn
  refine ⟨by simp [Oper.about, hop], ?_⟩
  rw [Oper.semAt_plain F _ _ (by rw [hop]; intro c hc'; cases hc')]
  rcases h.next K hk op.type with ⟨h0, hl, hrun⟩ | ⟨i, v, w', cnt', h1, h2, hrun, h3, h4, h5, h6, h7⟩
  · simp [execOp, hop, hit, hrun, Result.andThen]
    exact hK' _ _ (hDone h0 hl)
  · simp [execOp, hop, hit, hrun, Result.andThen]
    exact hK' _ _ (hMore i v w' cnt' h1 h2 h3 h4 h5 h6 h7)
end

end Go.Proofs.YtjkkoogfaibhiaaGreatDoor

/- The pager: Abort. -/
namespace Go.Proofs.YtjkkoogfaibhiaaGreatDoor
open Go.RowKit Go.Maps

/-- A pool into which some are given back. -/
def gvn (fe : List Bool) (f : Nat → Bool) : List Bool := (List.range fe.length).map fun s => fe.getD s false || f s
theorem gvn_len (fe : List Bool) (f : Nat → Bool) : (gvn fe f).length = fe.length := by simp [gvn]
theorem gvn_at (fe : List Bool) (f : Nat → Bool) (s : Nat) : (gvn fe f).getD s false = (decide (s < fe.length) && (fe.getD s false || f s)) := by
  unfold gvn
  rw [List.getD_eq_getElem?_getD, List.getElem?_map]
  by_cases h : s < fe.length
  · rw [List.getElem?_range h]; simp [h]
  · rw [List.getElem?_eq_none (by simpa using h)]; simp [h]
theorem list_getD {a b : List Bool} (hl : a.length = b.length) (h : ∀ s, s < a.length → a.getD s false = b.getD s false) : a = b := by
  apply List.ext_getElem hl
  intro i h1 h2
  have := h i h1
  rw [List.getD_eq_getElem?_getD, List.getD_eq_getElem?_getD, List.getElem?_eq_getElem h1, List.getElem?_eq_getElem h2] at this
  simpa using this
theorem gvn_none (fe : List Bool) : gvn fe (fun _ => false) = fe := list_getD (gvn_len _ _) fun s hs => by
  rw [gvn_len] at hs
  rw [gvn_at]; simp [hs]
theorem gvn_more (fe : List Bool) (f : Nat → Bool) (s : Nat) (hs : s < fe.length) (h1 : fe.getD s false = false) (h2 : f s = false) : trn (gvn fe f) s = gvn fe (setB f s true) := by
  have hg : (gvn fe f).getD s false = false := by rw [gvn_at, h1, h2]; simp
  refine list_getD (by simp [trn, gvn_len]) fun j hj => ?_
  rw [trn_getD (by rw [gvn_len]; exact hs), gvn_at fe (setB f s true), hg]
  have hj' : j < fe.length := by simpa [trn, gvn_len] using hj
  by_cases e : j = s
  · subst e; simp [setB, hs]
  · rw [if_neg e, gvn_at]; simp [setB, e]
theorem gvn_give (fe : List Bool) (f : Nat → Bool) (s : Nat) (hs : s < fe.length) (h1 : fe.getD s false = false) (h2 : f s = false) : toL (gvn fe f) (s : Int) true = (gvn fe (setB f s true), 0) := by
  unfold toL
  rw [gvn_len, if_neg (by omega), Int.toNat_natCast, if_neg (by rw [gvn_at, h1, h2]; simp), gvn_more fe f s hs h1 h2]

/-- A change given up. -/
def Gp.abort (X : Gp) (o : Cg) : Gp := { X with table := o.was, free := gvn X.free o.fresh, op := none }
/-- What has been given back so far. -/
def gvF (fr : Nat → Bool) (left : Int → Bool) : Nat → Bool := fun s => fr s && !left (s : Int)
theorem gvF_start (fr : Nat → Bool) : gvF fr (fun i => (mB fr i).isSome) = fun _ => false := by
  funext s
  show (fr s && !(mB fr (s : Int)).isSome) = false
  rw [mB_nat]
  cases fr s <;> rfl
theorem gvF_end (fr : Nat → Bool) (left : Int → Bool) (h : ∀ i, left i = false) : gvF fr left = fr := by
  funext s
  unfold gvF
  rw [h]; simp
theorem gvF_step (fr : Nat → Bool) (left : Int → Bool) (s : Nat) (hf : fr s = true) : gvF fr (fun j => left j && !decide (j = (s : Int))) = setB (gvF fr left) s true := by
  funext j
  unfold gvF setB
  by_cases e : j = s
  · subst e; simp [hf]
  · have : ¬ (j : Int) = (s : Int) := by omega
    simp [e, this]

section
variable {w w' : World} {L : Nat → Nat} {p d b ca c M1 s1 M2 s2 : Nat} {X : Gp} {o : Cg} {A : Option Addr} {vp vt vw vl : Value} {F : Nat → Prop}
/-- The change is dropped: its table is the pager's. -/
theorem GIn.abort (h : GIn w L p X d b A ca vp vt (some ⟨c, 0, none⟩)) (hi : ChIn w L o c vw M1 s1 vl M2 s2) (hF : ∀ j, F j ↔ L j ≠ 0) :
    GTo w ((w.setCell ⟨p, 4, none⟩ vw).setCell ⟨p, 6, none⟩ (.pointer none)) p F { X with table := o.was, op := none } := by
  have hc : Chg (fun j => j = p) w ((w.setCell ⟨p, 4, none⟩ vw).setCell ⟨p, 6, none⟩ (.pointer none)) := ((Chg.refl (fun j => j = p) w).setCell (p := ⟨p, 4, none⟩) (fun _ => rfl) _).setCell (p := ⟨p, 6, none⟩) (fun _ => rfl) _
  have hcL : Chg (fun j => L j = 1) w ((w.setCell ⟨p, 4, none⟩ vw).setCell ⟨p, 6, none⟩ (.pointer none)) := hc.mono fun i _ e => e ▸ h.lp
  obtain ⟨L', hL'⟩ : ∃ L' : Nat → Nat, L' = fun j => if L j = 7 then 5 else if L j ≤ 4 then L j else 0 := ⟨_, rfl⟩
  have lo : ∀ j m, m ≠ 0 → m ≤ 4 → (L' j = m ↔ L j = m) := fun j m h0 h4 => by
    rw [hL']
    dsimp only
    split
    · omega
    · split <;> omega
  have hset : ∀ m, m ≠ 0 → m ≤ 4 → (fun j => L' j = m) = (fun j => L j = m) := fun m h1 h2 => funext fun j => propext (lo j m h1 h2)
  have l5 : ∀ j, L j = 7 → L' j = 5 := fun j hj => by rw [hL']; simp [hj]
  have lz : ∀ j, L' j ≠ 0 → L j ≠ 0 := fun j hj e => by rw [hL'] at hj; simp [e] at hj
  have hgi : GIn ((w.setCell ⟨p, 4, none⟩ vw).setCell ⟨p, 6, none⟩ (.pointer none)) L' p { X with table := o.was, op := none } d b A ca vp vw none := by
    refine ⟨?_, (lo p 1 (by omega) (by omega)).2 h.lp, ?_, h.pol.chg hcL fun j hj e => by have := h.lo j hj; omega, fun j hj => (lo j 3 (by omega) (by omega)).2 (h.lo j hj), own_lab h.pgs h.lg hcL (by omega), fun j hj => (lo j 4 (by omega) (by omega)).2 (h.lg j hj),
      own_lab hi.was hi.lw hcL (by omega), fun j hj => l5 j (hi.lw j hj), rfl, fun j hj => Nat.lt_of_lt_of_le (h.lt j (lz j hj)) hc.size, ?_, tab_chg h.tab hcL (by rw [h.l0]; omega)⟩
    · have := (h.blk.put 4 vw).put 6 (.pointer none)
      simpa using this
    · rw [hset 2 (by omega) (by omega)]
      exact h.dsk.chg hcL fun j hj e => by omega
    · rw [hL']; simp [h.l0]
  exact ⟨fun j => L' j ≠ 0, hgi.gs, hc.mono fun i _ e => (hF i).2 (by rw [e, h.lp]; omega), fun j hj => .inl ((hF j).2 (lz j hj))⟩
end

set_option maxRecDepth 100000 in
set_option maxHeartbeats 3200000 in
theorem gabort_ok (p : Nat) (F : Nat → Prop) (X : Gp) (o : Cg) (w : World) (h : GS w p F X) (hok : X.Ok) (hx : X.op = some o) :
    Calls Tryz.prog 23 #[.pointer (some ⟨p, 0, none⟩)] w fun e' w' => e' = .returned (.int .i64 0) ∧ GTo w w' p F (X.abort o) := by
  have hrd := gready_any p F X w h
  rw [hok.rdy hx] at hrd
  have hv := hok.inv
  simp only [Gp.old, Gp.fr, Gp.lf, Gp.tc, hx] at hv
  obtain ⟨L, d, b, A, ca, vp, vt, vo, h, hF⟩ := h
  have ho := h.opn
  rw [hx] at ho
  obtain ⟨c, vw, M1, s1, vl, M2, s2, rfl, hi2⟩ := ho
  obtain ⟨c0, f0, s0⟩ := h.blk.facts
  obtain ⟨c1, f1, s1'⟩ := hi2.blk.facts
  obtain ⟨W1, hrg, hI1, hg1, hz1⟩ := hi2.fr.range_ (t := 58) kInt Tryz.underlying58
  have hfl : ∀ s, o.fresh s = true → 2 ≤ s ∧ s < X.free.length ∧ X.free.getD s false = false := fun s hs => by
    have := hv.frr s hs
    exact ⟨this.1, by rw [hv.lens.1]; exact this.2.1, (hv.acct s this.2.1).2 (.inr (.inr (.inr hs)))⟩
  have hxl : X.free.length ≤ 4096 := by rw [hv.lens.1]; exact hv.sz.2.1
  obtain ⟨it, hit⟩ : ∃ it, w.heap.size = it := ⟨_, rfl⟩
  rw [hit] at hI1 hrg
  have HX := Lib.hid hx
  have H := Lib.hid (And.intro hrd (And.intro h (And.intro hi2 (And.intro hF (And.intro hfl (And.intro hI1 (And.intro hg1 (And.intro hz1 hit))))))))
  clear h hrd hx hv hok hi2 hF hfl hI1 hg1 hz1 hit
  go_enter Tryz.func23, Tryz.ntmps23
  go_wp2_with (go_at_call 43; (refine H.out.1.mono ?_); rintro e w1 ⟨rfl, rfl⟩)
  have hG1 : GIn W1 L p { X with free := gvn X.free (gvF o.fresh fun i => (mB o.fresh i).isSome) } d b A ca vp vt (some ⟨c, 0, none⟩) := by
    rw [gvF_start, gvn_none]
    exact H.out.2.1.grew H.out.2.2.2.2.2.2.1
  have HG1 := Lib.hid hG1
  clear hG1 c0 f0 s0 c1 f1 s1'
  go_loopg [] s1 (fun q wr => ∃ left : Int → Bool, GIn wr L p { X with free := gvn X.free (gvF o.fresh left) } d b A ca vp vt (some ⟨c, 0, none⟩) ∧ IIt Tryz.prog 3 wr M1 it (mB o.fresh) s1 left q ∧ Chg (fun j => L j = 3) w wr)
  case atStart => exact ⟨_, HG1.out, H.out.2.2.2.2.2.1, H.out.2.2.2.2.2.2.1.chg⟩
  case round =>
    obtain ⟨left, hG, hI, hC⟩ := hrel
    obtain ⟨ob, hob⟩ := hI.has
    have hitl : w.heap.size ≤ it := by rw [H.out.2.2.2.2.2.2.2.2]; exact Nat.le_refl _
    have hLit : ∀ j, L j ≠ 0 → j ≠ it := fun j hj e => by have := H.out.2.1.lt j hj; omega
    rcases hI.next kInt Tryz.underlying3 0 with ⟨h0, hl, hrun⟩ | ⟨i, v, w3, q', hli, hmi, hrun, hI3, hq, hk3, hz3, hen⟩
    · have HD := Lib.hid (And.intro hG (And.intro hl hC))
      clear hG hI hC hl hob
      have hop := HD.out.1.opn
      rw [show ({ X with free := gvn X.free (gvF o.fresh left) } : Gp).op = some o from HX.out] at hop
      obtain ⟨c', vw', M1', s1'', vl', M2', s2'', hce, hi3⟩ := hop
      obtain rfl : c = c' := by injection hce with e; injection e
      obtain ⟨c0, f0, s0⟩ := HD.out.1.blk.facts
      obtain ⟨c1, f1, s1'⟩ := hi3.blk.facts
      obtain ⟨Aw, cw, rfl, -⟩ := own_shape hi3.was
      have HI3 := Lib.hid hi3
      clear hi3 hce
      go_wp2
      go_ret
      refine ⟨rfl, To.then (F1 := F) (HD.out.2.2.mono fun j _ e => (H.out.2.2.2.1 j).2 (by omega)) (fun j hj => .inl hj) ?_⟩
      have := HD.out.1.abort HI3.out H.out.2.2.2.1
      rw [gvF_end _ _ HD.out.2.1] at this
      exact this
    · have hnt : ∃ s : Nat, i = (s : Int) ∧ o.fresh s = true := by
        unfold mB at hmi
        split at hmi
        · rename_i hh
          exact ⟨i.toNat, by omega, hh.2⟩
        · cases hmi
      obtain ⟨s, rfl, hfs⟩ := hnt
      have hG3 : GIn w3 L p { X with free := gvn X.free (gvF o.fresh left) } d b A ca vp vt (some ⟨c, 0, none⟩) := hG.chg hk3.chg hLit (fun e => by have := tab_pos H.out.2.1.tab; omega)
      have hfl := H.out.2.2.2.2.1 s hfs
      have hgv := pgive_any b s _ A ca w3 hG3.pol (by show (gvn X.free _).length ≤ 65536; rw [gvn_len]; omega)
      have htl := gvn_give X.free (gvF o.fresh left) s hfl.2.1 hfl.2.2 (by unfold gvF; rw [hfs, hli]; rfl)
      have hgv2 : Calls Tryz.prog 48 #[.pointer (some ⟨b, 0, none⟩), .int .i64 (s : Int)] w3 fun e w' => e = .returned (.int .i64 0) ∧ PIn w' b (gvn X.free (setB (gvF o.fresh left) s true)) A ca ∧ Chg (PF b A) w3 w' := by
        rw [← show (toL (gvn X.free (gvF o.fresh left)) (s : Int) true).1 = gvn X.free (setB (gvF o.fresh left) s true) from by rw [htl]]
        refine hgv.mono fun e w' h => ?_
        rw [show (toL ({ X with free := gvn X.free (gvF o.fresh left) } : Gp).free (s : Int) true) = (gvn X.free (setB (gvF o.fresh left) s true), 0) from htl] at h
        rw [htl]
        exact h
      have HR := Lib.hid (And.intro hG3 (And.intro hI3 (And.intro hk3 (And.intro hC (And.intro hgv2 (And.intro hfs hLit))))))
      obtain ⟨c0, f0, s0⟩ := hG3.blk.facts
      clear hG hI hob hG3 hI3 hk3 hC hgv hgv2 htl hfl hli hmi hfs hLit
      go_wp2_with (go_at_call 48; (refine HR.out.2.2.2.2.1.mono ?_); rintro e w4 ⟨rfl, h4, h5⟩; have H4 := Lib.hid (And.intro h4 h5); clear h4 h5 c0 f0 s0)
      obtain ⟨hG4, ht4⟩ := HR.out.1.pool H4.out.1 H4.out.2
      obtain ⟨ob3, hob3⟩ := HR.out.2.1.has
      have h3F : ∀ j, PF b A j → L j = 3 := H.out.2.1.lo
      have hob4 : It w4 it ob3 := hob3.chg H4.out.2 (fun e => HR.out.2.2.2.2.2.2 it (by have := h3F it e; omega) rfl)
      have hI4 := HR.out.2.1.same hob3 (H4.out.2.block M1 HR.out.2.1.imap.lt (fun e => by have := h3F M1 e; have := H.out.2.2.1.lf; omega)) hob4
      go_roundg q'
      case measure => exact hq
      case rel =>
        refine ⟨_, ?_, hI4, Chg.trans (HR.out.2.2.2.1.kept HR.out.2.2.1 hitl) ht4.chg fun j _ e => e⟩
        rw [gvF_step _ _ s HR.out.2.2.2.2.2.1]
        exact hG4

end Go.Proofs.YtjkkoogfaibhiaaGreatDoor

/- Contracts of the library that the kit has proved once, laid at this seat (printed by the kit's lay-plain through lay.py). -/
namespace Go.Proofs.YtjkkoogfaibhiaaGreatDoor
open Go.Shelf
def sortInt_ren : Go.Shelf.Ren := ⟨fun | 189 => 78 | 125 => 108 | 257 => 107 | 128 => 138 | 129 => 139 | 294 => 129 | 295 => 130 | 296 => 131 | 297 => 132 | 298 => 133 | 299 => 134 | 216 => 135 | 300 => 136 | 301 => 137 | 328 => 153 | 329 => 154 | 330 => 155 | 331 => 156 | 332 => 157 | 215 => 158 | 343 => 163 | n => n, fun | 28 => 39 | 3 => 3 | 46 => 62 | 0 => 0 | 51 => 170 | 53 => 130 | 4 => 4 | 183 => 164 | 182 => 163 | 131 => 69 | 5 => 5 | 9 => 9 | 218 => 184 | 222 => 188 | 228 => 197 | 229 => 97 | n => n, fun | n => n⟩
theorem sortInt : Go.Proofs.Lays.n189 Tryz.prog sortInt_ren := {
  mixed := by kernel_rfl
  f125 := Tryz.func108.trans (congrArg some (by kernel_rfl))
  f128 := Tryz.func138.trans (congrArg some (by kernel_rfl))
  f129 := Tryz.func139.trans (congrArg some (by kernel_rfl))
  f189 := Tryz.func78.trans (congrArg some (by kernel_rfl))
  f215 := Tryz.func158.trans (congrArg some (by kernel_rfl))
  f216 := Tryz.func135.trans (congrArg some (by kernel_rfl))
  f257 := Tryz.func107.trans (congrArg some (by kernel_rfl))
  f294 := Tryz.func129.trans (congrArg some (by kernel_rfl))
  f295 := Tryz.func130.trans (congrArg some (by kernel_rfl))
  f296 := Tryz.func131.trans (congrArg some (by kernel_rfl))
  f297 := Tryz.func132.trans (congrArg some (by kernel_rfl))
  f298 := Tryz.func133.trans (congrArg some (by kernel_rfl))
  f299 := Tryz.func134.trans (congrArg some (by kernel_rfl))
  f300 := Tryz.func136.trans (congrArg some (by kernel_rfl))
  f301 := Tryz.func137.trans (congrArg some (by kernel_rfl))
  f328 := Tryz.func153.trans (congrArg some (by kernel_rfl))
  f329 := Tryz.func154.trans (congrArg some (by kernel_rfl))
  f330 := Tryz.func155.trans (congrArg some (by kernel_rfl))
  f331 := Tryz.func156.trans (congrArg some (by kernel_rfl))
  f332 := Tryz.func157.trans (congrArg some (by kernel_rfl))
  f343 := Tryz.func163.trans (congrArg some (by kernel_rfl))
  t0 := Tryz.underlying0
  a0 := Tryz.isAgg0
  z0 := Tryz.sizeOf0
  v0 := Tryz.zeroValue0
  t3 := Tryz.underlying3
  a3 := Tryz.isAgg3
  z3 := Tryz.sizeOf3
  v3 := Tryz.zeroValue3
  t4 := Tryz.underlying4
  a4 := Tryz.isAgg4
  z4 := Tryz.sizeOf4
  v4 := Tryz.zeroValue4
  t5 := Tryz.underlying5
  a5 := Tryz.isAgg5
  z5 := Tryz.sizeOf5
  v5 := Tryz.zeroValue5
  t9 := Tryz.underlying9
  a9 := Tryz.isAgg9
  z9 := Tryz.sizeOf9
  v9 := Tryz.zeroValue9
  t28 := Tryz.underlying39
  a28 := Tryz.isAgg39
  z28 := Tryz.sizeOf39
  v28 := Tryz.zeroValue39
  t46 := Tryz.underlying62
  a46 := Tryz.isAgg62
  z46 := Tryz.sizeOf62
  v46 := Tryz.zeroValue62
  t51 := Tryz.underlying170
  a51 := Tryz.isAgg170
  z51 := Tryz.sizeOf170
  v51 := Tryz.zeroValue170
  t53 := Tryz.underlying130
  a53 := Tryz.isAgg130
  z53 := Tryz.sizeOf130
  v53 := Tryz.zeroValue130
  t131 := Tryz.underlying69
  a131 := Tryz.isAgg69
  z131 := Tryz.sizeOf69
  v131 := Tryz.zeroValue69
  t182 := Tryz.underlying163
  a182 := Tryz.isAgg163
  z182 := Tryz.sizeOf163
  v182 := Tryz.zeroValue163
  t183 := Tryz.underlying164
  a183 := Tryz.isAgg164
  z183 := Tryz.sizeOf164
  v183 := Tryz.zeroValue164
  t218 := Tryz.underlying184
  a218 := Tryz.isAgg184
  z218 := Tryz.sizeOf184
  v218 := Tryz.zeroValue184
  t222 := Tryz.underlying188
  a222 := Tryz.isAgg188
  z222 := Tryz.sizeOf188
  v222 := Tryz.zeroValue188
  t228 := Tryz.underlying197
  a228 := Tryz.isAgg197
  z228 := Tryz.sizeOf197
  v228 := Tryz.zeroValue197
  t229 := Tryz.underlying97
  a229 := Tryz.isAgg97
  z229 := Tryz.sizeOf97
  v229 := Tryz.zeroValue97 }
end Go.Proofs.YtjkkoogfaibhiaaGreatDoor

/- The keys of a set of numbers, told by its map, collected, sorted. -/
namespace Go.Proofs.YtjkkoogfaibhiaaGreatDoor
open Go.RowKit Go.Maps
attribute [local go_sem] Oper.semAt_some

/-- What the iterator has told, and what is left. -/
structure ToldK (f : Nat → Bool) (xs : List Nat) (left : Int → Bool) : Prop where
  nd : xs.Nodup
  sub : ∀ s ∈ xs, f s = true
  left : ∀ i, left i = true ↔ 0 ≤ i ∧ f i.toNat = true ∧ i.toNat ∉ xs
theorem ToldK.start (f : Nat → Bool) : ToldK f [] (fun i => (mB f i).isSome) :=
  ⟨List.nodup_nil, fun _ h => (by cases h), fun i => by
    unfold mB
    by_cases h : 0 ≤ i ∧ f i.toNat = true
    · rw [if_pos h]; simp [h]
    · rw [if_neg h]
      simp only [Option.isSome_none, Bool.false_eq_true, List.not_mem_nil, not_false_eq_true, and_true, false_iff]
      exact h⟩
theorem ToldK.next {f : Nat → Bool} {xs : List Nat} {left : Int → Bool} (h : ToldK f xs left) {i : Int} (hl : left i = true) : ∃ s : Nat, i = (s : Int) ∧ f s = true ∧ s ∉ xs ∧ ToldK f (xs ++ [s]) (fun j => left j && !decide (j = i)) := by
  obtain ⟨h0, h1, h2⟩ := (h.left i).1 hl
  refine ⟨i.toNat, by omega, h1, h2, List.nodup_append.2 ⟨h.nd, by simp, fun a ha b hb e => by simp at hb; subst hb; subst e; exact h2 ha⟩, fun s hs => ?_, fun j => ?_⟩
  · rcases List.mem_append.1 hs with e | e
    · exact h.sub s e
    · simp only [List.mem_singleton] at e; subst e; exact h1
  · simp only [Bool.and_eq_true, h.left j, Bool.not_eq_true', decide_eq_false_iff_not, List.mem_append, List.mem_singleton, not_or]
    constructor
    · rintro ⟨⟨a, b, c⟩, d⟩; exact ⟨a, b, c, fun e => d (by omega)⟩
    · rintro ⟨a, b, c, d⟩; exact ⟨⟨a, b, c⟩, fun e => d (by rw [e])⟩
/-- The numbers of a set, rising. -/
def keysL (f : Nat → Bool) (N : Nat) : List Nat := (List.range N).filter f
theorem ToldK.done {f : Nat → Bool} {xs : List Nat} {left : Int → Bool} {N : Nat} (h : ToldK f xs left) (hl : ∀ i, left i = false) (hN : ∀ s, f s = true → s < N) : xs.Perm (keysL f N) := by
  refine (List.perm_ext_iff_of_nodup h.nd (List.nodup_range.filter _)).2 fun s => ?_
  show s ∈ xs ↔ s ∈ (List.range N).filter f
  rw [List.mem_filter, List.mem_range]
  constructor
  · intro e; exact ⟨hN s (h.sub s e), h.sub s e⟩
  · rintro ⟨-, e⟩
    by_cases hm : s ∈ xs
    · exact hm
    · have := (h.left (s : Int)).2 ⟨by omega, by simpa using e, by simpa using hm⟩
      rw [hl] at this
      cases this
theorem ToldK.len {f : Nat → Bool} {xs : List Nat} {left : Int → Bool} {N : Nat} (h : ToldK f xs left) (hN : ∀ s, f s = true → s < N) : xs.length ≤ N := by
  have := List.Nodup.length_le_of_subset h.nd (l₂ := List.range N) fun s hs => List.mem_range.2 (hN s (h.sub s hs))
  rwa [List.length_range] at this

theorem mkeys_any (R : Nat) (w W : World) (hW : w.alloc (.cells #[.map (some R)] 58) = W) :
    Calls Tryz.prog 40 #[.map (some R)] w fun e w' => e = .returned (.func (.func 79) #[] #[.pointer (some ⟨w.heap.size, 0, none⟩)]) ∧ W = w' := by
  subst hW
  go_enter Tryz.func40, Tryz.ntmps40
  go_wp2
  go_ret
  exact ⟨rfl, rfl⟩

set_option maxRecDepth 100000 in
set_option maxHeartbeats 800000 in
theorem mkeys_iter (bb y R s0 N : Nat) (f : Nat → Bool) (J : List Nat → World → Prop) (w : World) (hN : ∀ s, f s = true → s < N)
    (hin : ∀ xs W, J xs W → Blk W bb 58 #[.map (some R)] ∧ IMap Tryz.prog 3 W R (mB f) s0)
    (hgr : ∀ xs W W', J xs W → Grew W W' → J xs W')
    (hkp : ∀ xs W W' it, J xs W → w.heap.size ≤ it → Kept it W W' → J xs W')
    (hyld : ∀ xs s W it o, J xs W → It W it o → w.heap.size ≤ it → f s = true → xs.length < N → YieldAt Fence.wide 0 Tryz.prog y #[.int .i64 s] W fun e w' => e = .returned (.bool true) ∧ J (xs ++ [s]) w' ∧ It w' it o ∧ w'.heap[R]? = W.heap[R]?)
    (h0 : J [] w) :
    Calls Tryz.prog 79 #[.func (.yield y) #[] #[], .pointer (some ⟨bb, 0, none⟩)] w fun e w' => (∃ v, e = .returned v) ∧ ∃ xs, xs.Perm (keysL f N) ∧ J xs w' := by
  obtain ⟨c1, f1, s1⟩ := (hin [] w h0).1.facts
  have HM := Lib.hid (hin [] w h0).2
  have Hgr := Lib.hid hgr
  have Hkp := Lib.hid hkp
  have Hyld := Lib.hid hyld
  have H0 := Lib.hid h0
  have HN := Lib.hid hN
  clear hin hgr hyld h0 hkp hN
  (refine (callsIn_wide (n := 1)).1 (callsIn_of_wp Tryz.func79 rfl trivial ?_ rfl); simp only [Tryz.ntmps79, List.size_toArray, List.length_cons, List.length_nil, Nat.reduceAdd, Nat.reduceSub, Array.replicate_succ, Array.replicate_zero, List.push_toArray, List.append_toArray, List.nil_append, List.cons_append])
  gi_wp2_with (gi_at_range; refine wpListIn_range_im rfl _ 58 rfl HM.out kInt Tryz.underlying58 (by rfl) ?_; intro w1 hi1 hg1 hz1)
  have HJ1 := Lib.hid (Hgr.out _ _ _ H0.out hg1)
  have HI1 := Lib.hid hi1
  clear hi1 hg1 c1 f1 s1
  go_frame
  gi_loopg [3] s0 (fun n v wr => ∃ (cnt : Nat) (xs : List Nat) (left : Int → Bool), cnt ≤ n ∧ J xs wr ∧ IIt Tryz.prog 3 wr R w.heap.size (mB f) s0 left cnt ∧ ToldK f xs left)
  case atStart => exact ⟨s0, [], _, Nat.le_refl _, HJ1.out, HI1.out, ToldK.start f⟩
  case round =>
    obtain ⟨cnt, xs, left, hcn, hJ, hI, hT⟩ := hrel
    have HJ := Lib.hid hJ
    have HI := Lib.hid hI
    have HT := Lib.hid hT
    clear hJ hI hT
    gi_wp2_with (gi_at_next; refine wpListIn_next_im rfl _ rfl HI.out kInt Tryz.underlying3 rfl ?_ ?_)
    · intro hc0 hl0
      have HL0 := Lib.hid hl0
      clear hc0 hl0
      gi_wp2
      refine bodyPost_end (results_none rfl _ _ _) rfl ?_
      exact ⟨⟨_, rfl⟩, xs, HT.out.done HL0.out HN.out, HJ.out⟩
    · intro i v w2 cnt2 hl hv hi2 hlt hk2 hz2 hen
      obtain ⟨s, rfl, hs, hsx, hT2⟩ := HT.out.next hl
      have HJ2 := Lib.hid (Hkp.out _ _ _ _ HJ.out (Nat.le_refl _) hk2)
      have HI2 := Lib.hid hi2
      have HT2 := Lib.hid hT2
      obtain ⟨o, ho⟩ := hi2.has
      have HO := Lib.hid ho
      have hxl : xs.length < N := by
        have h1 : (xs ++ [s]).length ≤ N := hT2.len HN.out
        rw [List.length_append] at h1
        exact h1
      obtain ⟨fn, tmps, assign, body, hy, hR⟩ := Hyld.out xs s _ w.heap.size o HJ2.out HO.out (Nat.le_refl _) hs hxl
      have HR := Lib.hid hR
      clear hl hv hi2 hk2 hT2 ho hs hsx hR hxl
      gi_wp2_with (refine HR.out.mono ?_; rintro e w3 ⟨rfl, hJ3, hO3, hR3⟩; have HJ3 := Lib.hid (And.intro hJ3 (And.intro hO3 hR3)); clear hJ3 hO3 hR3)
      gi_roundg cnt2
      case measure => omega
      case rel => exact ⟨cnt2, _, _, Nat.le_refl _, HJ3.out.1, HI2.out.same HO.out HJ3.out.2.2 HJ3.out.2.1, HT2.out⟩

/-- What has been collected: box B holds a slice of memory that was made since Wr. -/
def CollK (Wr W : World) (B : Nat) (xs : List Nat) : Prop := ∃ v, Blk W B 39 #[v] ∧ W.ownsRow Wr.heap.size 3 1 v xs.length (nv xs)
theorem CollK.grew {w W W' : World} {B : Nat} {xs : List Nat} (h : CollK w W B xs) (hg : Grew W W') : CollK w W' B xs := by
  obtain ⟨v, hb, ho⟩ := h
  exact ⟨v, hb.grew hg, own_grew ho hg⟩
theorem CollK.kept {w W W' : World} {B k : Nat} {xs : List Nat} (h : CollK w W B xs) (hk : Kept k W W') : CollK w W' B xs := by
  obtain ⟨v, hb, ho⟩ := h
  exact ⟨v, hb.kept hk, own_kept ho hk⟩
/-- One more, appended and stored back. -/
theorem CollK.more {w W W1 : World} {F : Nat → Prop} {B n x : Nat} {xs : List Nat} {v v' : Value} (hb : Blk W B 39 #[v]) (ho : W.ownsRow w.heap.size 3 1 v xs.length (nv xs)) (hw : Chg F w W) (hB : F B)
    (hn : n = xs.length + 1) (ho' : W1.ownsRow w.heap.size 3 1 v' n (nv xs ++ [.int .i64 x])) (hg : W.grownBy W1 v.ownBlock) :
    Blk W1 B 39 #[v] ∧ Chg F w (W1.setCell ⟨B, 0, none⟩ v') ∧ CollK w (W1.setCell ⟨B, 0, none⟩ v') B (xs ++ [x]) ∧ Chg (fun j => some j = v.ownBlock ∨ j = B) W (W1.setCell ⟨B, 0, none⟩ v') := by
  have hne : some B ≠ v.ownBlock := fun e => own_blk_ne ho hb (by decide) e.symm
  have hb1 := hb.grown hg hne
  have hw1 : Chg F w W1 := hw.grown hg fun k hk hlt => by
    have := (ho.lt k hk).1; omega
  refine ⟨hb1, hw1.setCell (p := ⟨B, 0, none⟩) (fun h => hB) _, ⟨v', ?_, ?_⟩, ?_⟩
  · have := hb1.put 0 v'
    simpa using this
  · have hc : Chg (fun j => j = B) W1 (W1.setCell ⟨B, 0, none⟩ v') := (Chg.refl (fun j => j = B) W1).setCell (p := ⟨B, 0, none⟩) (fun _ => rfl) _
    have := own_chg ho' hc fun g hg e => own_blk_ne ho' hb1 (by decide) (by rw [hg, e])
    subst hn
    simpa [nv] using this
  · exact ((Chg.refl _ W).grown hg fun k hk _ => .inl hk.symm).setCell (p := ⟨B, 0, none⟩) (fun _ => .inr rfl) _
theorem Rec.collK {w W X : World} {B L : Nat} {xs : List Nat} {v : Value} {r : Loop} (h : Rec W L r) (ho : W.ownsRow w.heap.size 3 1 v xs.length (nv xs)) (hb : Blk W B 39 #[v]) (hc : Chg (fun j => some j = v.ownBlock ∨ j = B) W X) : Rec X L r :=
  h.chg hc fun e => by
    rcases e with e | e
    · exact own_noBook ho e.symm h.isBook
    · exact h.ne_blk hb e
theorem Dfr.collK {w W X : World} {B L : Nat} {xs : List Nat} {v : Value} (h : Dfr W L) (ho : W.ownsRow w.heap.size 3 1 v xs.length (nv xs)) (hb : Blk W B 39 #[v]) (hc : Chg (fun j => some j = v.ownBlock ∨ j = B) W X) : Dfr X L :=
  h.chg hc fun e => by
    rcases e with e | e
    · exact own_noBook ho e.symm h.isBook
    · exact h.ne_blk hb e
/-- Between two rounds. -/
def CollKJ (Wr W : World) (B D L : Nat) (r : Loop) (xs : List Nat) : Prop := Chg (fun j => j = B ∨ j = L) Wr W ∧ CollK Wr W B xs ∧ Dfr W D ∧ Rec W L (Loop.at_ r .ready none)
theorem CollKJ.grew {Wr W W' : World} {B D L : Nat} {r : Loop} {xs : List Nat} (h : CollKJ Wr W B D L r xs) (hg : Grew W W') : CollKJ Wr W' B D L r xs := ⟨h.1.grew hg, h.2.1.grew hg, h.2.2.1.grew hg, h.2.2.2.grew hg⟩
theorem CollKJ.itr {Wr W W' : World} {B D L it : Nat} {r : Loop} {xs : List Nat} (h : CollKJ Wr W B D L r xs) (hge : Wr.heap.size ≤ it) (hk : Kept it W W') (hD : D < Wr.heap.size) (hL : L < Wr.heap.size) : CollKJ Wr W' B D L r xs :=
  ⟨Chg.trans h.1 hk.chg fun i hi e => by omega, h.2.1.kept hk, h.2.2.1.kept hk (by omega), h.2.2.2.kept hk (by omega)⟩

set_option maxRecDepth 100000 in
set_option maxHeartbeats 1600000 in
theorem kappend_any (bs R s0 N : Nat) (f : Nat → Bool) (w : World) (hb : Blk w bs 58 #[.map (some R)]) (hm : IMap Tryz.prog 3 w R (mB f) s0) (hN : ∀ s, f s = true → s < N) (hl : N ≤ 1000000) :
    Calls Tryz.prog 106 #[.slice none 0 0, .func (.func 79) #[] #[.pointer (some ⟨bs, 0, none⟩)]] w fun e w' => ∃ l : List Nat, l.Perm (keysL f N) ∧ OwnOut w w' 3 1 l.length (nv l) (fun A c => .slice A l.length c) e := by
  have hbw := hb.lt
  have hmw := hm.lt
  have H := Lib.hid (And.intro hb (And.intro hm hN))
  clear hb hm hN
  (refine calls_of_marks Tryz.func106 rfl ?_; simp only [Tryz.ntmps106, List.size_toArray, List.length_cons, List.length_nil, Nat.reduceAdd, Nat.reduceSub, Array.replicate_succ, Array.replicate_zero, List.push_toArray, List.append_toArray, List.nil_append, List.cons_append])
  go_wp2_with fail
  obtain ⟨W0, hW0⟩ : ∃ W0, w.alloc (.cells #[.slice none 0 0] 39) = W0 := ⟨_, rfl⟩
  have HG0 := Lib.hid (show Grew w W0 from hW0 ▸ (Chg.refl _ _).alloc _)
  have HB := Lib.hid (show Blk W0 w.heap.size 39 #[.slice none 0 0] from hW0 ▸ Blk.new _ _ _)
  rw [hW0]
  clear hW0
  refine wp_range (gf := 79) (lb := #[.pointer (some ⟨bs, 0, none⟩)]) rfl (enters_of Tryz.func79 (by kernel_rfl) rfl) ?_
  intro r W2 D L hr hg1 hDl hLl hD hR
  have HR1 := Lib.hid hr
  have HG1 := Lib.hid (Grew.trans HG0.out hg1)
  have hDL := Ne.symm (hR.ne_dfr hD)
  have hz0 := HB.out.lt
  have hz3 := hg1.size
  have hL2 := hR.lt
  have hD2 := hD.lt
  have HI := Lib.hid (And.intro (H.out.1.grew HG1.out) (H.out.2.1.grew HG1.out))
  have HJ0 := Lib.hid (show CollKJ W2 W2 w.heap.size D L r [] from ⟨Chg.refl _ _, ⟨_, HB.out.grew hg1, World.ownsRow_nil _ _ _ _⟩, hD, hR⟩)
  clear hr hg1 hD hR
  refine (mkeys_iter bs L R s0 N f (fun xs W => CollKJ W2 W w.heap.size D L r xs) W2 H.out.2.2
    (fun k W hJ => ⟨HI.out.1.chg hJ.1 (by omega), HI.out.2.chg hJ.1 (by omega)⟩) (fun k W W' hJ hg => hJ.grew hg) (fun k W W' it hJ hge hk => hJ.itr hge hk hD2 hL2) (fun xs x1 W it o hJ hit hge hx hlx => ?yld) HJ0.out).mono ?post
  case yld =>
    have HX := Lib.hid hx
    have hws := hJ.1.size
    have HR := Lib.hid hJ.2.2.2
    have HD := Lib.hid hJ.2.2.1
    have HT := Lib.hid hit
    obtain ⟨v, hv1, hv2⟩ := hJ.2.1
    have HV := Lib.hid (And.intro hv1 (And.intro hv2 hJ.1))
    have hneL : it ≠ L := by omega
    clear hJ hx hv1 hv2 hit
    obtain ⟨hr1, hr2, hr3, hr4⟩ := HR1.out
    refine yield_wide HR.out (by rw [hr2]; rfl) ?_
    rw [hr1, hr2, hr3, hr4]
    clear hr1 hr2 hr3 hr4
    intro K hK
    have HK := Lib.hid hK
    clear hK
    gi_wp2
    refine HK.out _ _ HR.out fun W3 Q hk hR2 hQ => ?_
    have HQ := Lib.hid hQ
    have HV1 := Lib.hid (HV.out.1.kept hk)
    have HV2 := Lib.hid (own_kept HV.out.2.1 hk)
    have HV3 := Lib.hid (Chg.trans HV.out.2.2 hk.chg fun i _ e => .inr e)
    have HW5 := Lib.hid hR2
    have HW6 := Lib.hid (HD.out.kept hk hDL)
    have HT3 := Lib.hid (HT.out.chg hk.chg hneL)
    have hRm : W3.heap[R]? = W.heap[R]? := hk.chg.block R (by omega) (by omega)
    have HRm := Lib.hid hRm
    have hsz : W.heap.size ≤ W3.heap.size := hk.chg.size
    clear hk hR2 hQ hRm
    obtain ⟨c2, f2, s2⟩ := HV1.out.facts
    have hle2 : xs.length ≤ 1000000 := by omega
    obtain ⟨i0, hi, hz0', hz1, hz2⟩ := info_parts i64Info_
    have HV2a := Lib.hid (own_grew HV2.out ((Chg.refl NoF W3).alloc (.cells #[.int .i64 x1] 3)))
    have HT4 := Lib.hid (HT3.out.grew ((Chg.refl NoF W3).alloc (.cells #[.int .i64 x1] 3)))
    gi_wp2_with (gi_at_builtin; refine wpListIn_append_own_at _ (by rfl) _ _ 39 (by rfl) W2.heap.size 3 i0 (.int .i64 0) 1 8 Tryz.underlying39 hi hz0' hz1 hz2 rfl (by decide) v _ _ (by rfl) HV2a.out ⟨W3.heap.size, 0, none⟩ 1 1 [.int .i64 x1] (by rfl) (by rfl) (news_one _ _ _) (by simp [Value.oneCell']) (by simp only [maxLen]; omega) (by omega) (by simp; omega) ?_; intro v' w5 ho5 hg5 _ _; obtain ⟨g', cap', rfl⟩ := ownsRow_succ ho5; have HM := Lib.hid (CollK.more (HV1.out.alloc _) HV2a.out (HV3.out.alloc _) (.inl rfl) rfl ho5 hg5); clear ho5 hg5; obtain ⟨c5, f5, s5⟩ := HM.out.1.facts)
    refine HQ.out _ _ _ ⟨(HW5.out.alloc _).collK HV2a.out (HV1.out.alloc _) HM.out.2.2.2, fun w' hk' hR' => ⟨rfl, ⟨Chg.trans HM.out.2.1 hk'.chg fun i _ e => .inr e, HM.out.2.2.1.kept hk', ((HW6.out.alloc _).collK HV2a.out (HV1.out.alloc _) HM.out.2.2.2).kept hk' hDL, hR'⟩,
      (HT4.out.chg HM.out.2.2.2 (fun e => by rcases e with e | e; exact own_noBook HV2a.out e.symm HT4.out.book; exact (HV1.out.alloc _).noBook (e ▸ HT4.out.book))).chg hk'.chg hneL, ?_⟩⟩
    have hRw : R < W.heap.size := by omega
    refine (hk'.chg.block R ?_ (by omega)).trans ((HM.out.2.2.2.block R ?_ ?_).trans ((Below.heap_alloc _ _ _ (by omega)).trans HRm.out))
    · have := HM.out.2.2.2.size; simp only [World.size_alloc] at this; omega
    · simp only [World.size_alloc]; omega
    · rintro (e | e)
      · have := (HV2a.out.lt R e.symm).1; omega
      · omega
  case post =>
    rintro e w3 ⟨hv, l, hpl, hJ⟩
    refine ⟨hv, .inl ⟨hJ.2.2.2, fun w4 hk4 => ?_⟩⟩
    obtain ⟨v, hv1, hv2⟩ := hJ.2.1
    obtain ⟨A', c', rfl, _⟩ := own_shape hv2
    have HV := Lib.hid (And.intro (hv1.kept hk4) (own_kept hv2 hk4))
    have HD := Lib.hid (hJ.2.2.1.kept hk4 hDL)
    have HC := Lib.hid (Chg.trans hJ.1 hk4.chg fun i _ e => .inr e)
    have HP := Lib.hid hpl
    clear hJ hk4 hv1 hv2 hpl
    obtain ⟨c2, f2, s2⟩ := HV.out.1.facts
    go_wp2
    refine postM_ret1 (v := .slice A' l.length c') HD.out rfl fun w5 hk5 => ⟨by simp [results, Tryz.results106, go_sem], l, HP.out, A', c', rfl, own_base (own_kept HV.out.2 hk5) (by have := HG1.out.size; omega), ?_⟩
    have hF : Grew w w4 := by
      refine Chg.mono (Chg.trans (F := fun j => w.heap.size ≤ j) HG1.out.chg HC.out fun i hi e => ?_) fun i hi e => absurd e (by omega)
      rcases e with e | e <;> omega
    exact Chg.kept hF hk5 (by omega)

end Go.Proofs.YtjkkoogfaibhiaaGreatDoor

/- The keys of a set of numbers, sorted. -/
namespace Go.Proofs.YtjkkoogfaibhiaaGreatDoor
open Go.RowKit Go.Maps Go.Shelf Go.Sort

theorem putCells_takeI {cur : Array Value} {F : Array Int} (h : F.size ≤ cur.size) : (putCells (Value.int .i64) 0 F cur).toList.take F.size = F.toList.map (Value.int .i64) := by
  apply List.ext_getElem?
  intro j
  by_cases hj : j < F.size
  · rw [List.getElem?_take_of_lt hj, Array.getElem?_toList]
    simp [putCells, hj, show j < cur.size by omega]
  · rw [List.getElem?_take_eq_none (by omega), List.getElem?_eq_none (by simp; omega)]
theorem own_sortedI {w : World} {base g cap n : Nat} {e : TypeId} {os : Array Obj} {l : List Nat} {ys : List Int} (h : w.ownsRow base e 1 (.slice (some ⟨g, 0, none⟩) l.length cap) l.length (nv l)) (hl : ys.length = l.length) :
    (grow (putRow (Value.int .i64) (Sort.ahead w n) g 0 ys.toArray) os).ownsRow base e 1 (.slice (some ⟨g, 0, none⟩) l.length cap) l.length (ys.map (Value.int .i64)) ∧ w.grownBy (grow (putRow (Value.int .i64) (Sort.ahead w n) g 0 ys.toArray) os) (some g) := by
  obtain ⟨cur, hb, hg, hnc, hcm, hcs, htake, hxl⟩ := own_row h
  have hgl : g < w.heap.size := (Array.getElem?_eq_some_iff.1 hg).1
  have hh : (grow (putRow (Value.int .i64) (Sort.ahead w n) g 0 ys.toArray) os).heap[g]? = some (.cells (putCells (Value.int .i64) 0 ys.toArray cur) e (0, 0)) := by
    rw [heap_grow_old _ _ (by simpa [putRow, mapBlock, Sort.ahead] using hgl)]
    simp [putRow, mapBlock, Sort.ahead, Array.getElem?_modify, hg, onCells]
  refine ⟨⟨by simp [hl], .inr ⟨g, cap, _, rfl, hb, hh, hnc, hcm, by simp [putCells, hcs], ?_⟩⟩, rfl, rfl, rfl, by simp [putRow, mapBlock, Sort.ahead, grow], fun k hk hne => ?_⟩
  · have := putCells_takeI (cur := cur) (F := ys.toArray) (by simp [hl]; omega)
    rw [Nat.mul_one, ← hl]
    simpa using this
  · rw [heap_grow_old _ _ (by simpa [putRow, mapBlock, Sort.ahead] using hk)]
    have : g ≠ k := fun e => hne (by rw [e])
    simp [putRow, mapBlock, Sort.ahead, Array.getElem?_modify, this]
/-- The same numbers, rising. -/
theorem sorted_is {l : List Nat} {f : Nat → Bool} {N : Nat} (h : l.Perm (keysL f N)) : (l.map fun n : Nat => (n : Int)).mergeSort (fun x y => decide (x ≤ y)) = (keysL f N).map fun n : Nat => (n : Int) := by
  have h1 := List.pairwise_mergeSort (le := fun x y : Int => decide (x ≤ y)) (fun a b c hab hbc => by simp at *; omega) (fun a b => by simp; omega) (l.map fun n : Nat => (n : Int))
  have h2 : ((keysL f N).map fun n : Nat => (n : Int)).Pairwise fun a b => decide (a ≤ b) = true := by
    rw [List.pairwise_map]
    have : (keysL f N).Pairwise (· < ·) := List.Pairwise.filter _ List.pairwise_lt_range
    exact this.imp fun hab => by simp; omega
  refine List.Perm.eq_of_pairwise (le := fun a b : Int => decide (a ≤ b) = true) (fun a b _ _ hab hba => by simp at *; omega) h1 h2 ?_
  exact (List.mergeSort_perm _ _).trans (h.map _)

set_option maxRecDepth 100000 in
set_option maxHeartbeats 800000 in
theorem ksorted_any (bs R s0 N : Nat) (f : Nat → Bool) (w : World) (hb : Blk w bs 58 #[.map (some R)]) (hm : IMap Tryz.prog 3 w R (mB f) s0) (hN : ∀ s, f s = true → s < N) (hl : N ≤ 1000000) (hne : 0 < (keysL f N).length) :
    Calls Tryz.prog 39 #[.func (.func 79) #[] #[.pointer (some ⟨bs, 0, none⟩)]] w fun e w' => OwnOut w w' 3 1 (keysL f N).length (nv (keysL f N)) (fun A c => .slice A (keysL f N).length c) e := by
  have H := Lib.hid (kappend_any bs R s0 N f w hb hm hN hl)
  have hcol : Calls Tryz.prog 77 #[.func (.func 79) #[] #[.pointer (some ⟨bs, 0, none⟩)]] w fun e w' => ∃ l : List Nat, l.Perm (keysL f N) ∧ OwnOut w w' 3 1 l.length (nv l) (fun A c => .slice A l.length c) e := by
    clear hb hm hN
    go_enter Tryz.func77, Tryz.ntmps77
    go_wp2_with fail
    refine H.out.mono ?_
    rintro e w1 ⟨l, hp, A, c, rfl, ho, hg⟩
    have HO := Lib.hid (And.intro hp (And.intro ho hg))
    clear hp ho hg
    go_wp2_with fail
    go_ret
    exact ⟨l, HO.out.1, A, c, rfl, HO.out.2.1, HO.out.2.2⟩
  have HC := Lib.hid hcol
  clear hb hm hcol
  go_enter Tryz.func39, Tryz.ntmps39
  go_wp2_with fail
  refine HC.out.mono ?_
  rintro e w1 ⟨l, hp, A, c, rfl, ho, hg⟩
  have hll : l.length = (keysL f N).length := hp.length_eq
  have hlN : l.length ≤ N := by rw [hll]; unfold keysL; exact Nat.le_trans (List.length_filter_le _ _) (by simp)
  cases A with
  | none =>
    obtain ⟨h0, rfl⟩ := own_none ho
    omega
  | some a =>
    obtain ⟨g, rfl, hgl⟩ := own_some ho
    have hzl : (l.map fun n : Nat => (n : Int)).length = l.length := by simp
    have hso := Any.slices_Sort_int sortInt g 0 c (l.map fun n : Nat => (n : Int)) w1 (fun j hj => by
      have hj' : j < l.length := by simpa using hj
      obtain ⟨cur, hb, hgc, hnc, hcm, hcs, htake, hxl⟩ := own_row ho
      refine ⟨?_, by simp [World.frozen?, hgc]⟩
      have := ho.cells (g := g) rfl j (.int .i64 (l[j] : Int)) (by simp [nv, hj'])
      rw [Addr.add_lit] at this
      rw [this]
      simp [hj']) hgl (by rw [hzl]; omega)
    rw [hzl, sorted_is hp] at hso
    have hso2 : Calls Tryz.prog 78 #[.slice (some ⟨g, 0, none⟩) l.length c] w1 fun e w' => e = .returned (.tuple #[]) ∧ ∃ n os, w' = grow (putRow (Value.int .i64) (Sort.ahead w1 n) g 0 ((keysL f N).map fun n : Nat => (n : Int)).toArray) os := hso
    clear hso
    have HO := Lib.hid (And.intro hp (And.intro ho (And.intro hg hll)))
    clear hp ho hg
    rw [hll] at hso2
    have HS := Lib.hid hso2
    clear hso2
    go_wp2_with fail
    refine HS.out.mono ?_
    rintro e w2 ⟨rfl, n, os, rfl⟩
    have hr := own_sortedI (n := n) (os := os) HO.out.2.1 (ys := (keysL f N).map fun n : Nat => (n : Int)) (by simp [hll])
    obtain ⟨W2, hW2⟩ : ∃ W2, grow (putRow (Value.int .i64) (Sort.ahead w1 n) g 0 ((keysL f N).map fun n : Nat => (n : Int)).toArray) os = W2 := ⟨_, rfl⟩
    rw [hW2] at hr ⊢
    have HR := Lib.hid hr
    clear hr hW2
    go_wp2_with fail
    go_ret
    refine OwnOut.mk (some ⟨g, 0, none⟩) c rfl ?_ (HO.out.2.2.1.grown HR.out.2 fun k hk hlt => by injection hk with hk; have := (HO.out.2.1.lt g rfl).1; omega)
    rw [← hll]
    have := HR.out.1
    rw [List.map_map] at this
    exact this

end Go.Proofs.YtjkkoogfaibhiaaGreatDoor

/- The heap in memory: Pages, also if there is none. -/
namespace Go.Proofs.YtjkkoogfaibhiaaGreatDoor
open Go.RowKit Go.Maps Go.Shelf Go.Sort

theorem len64_zero (w : World) : Calls Tryz.prog 139 #[.int .u64 0] w fun e w' => e = .returned (.int .i64 0) ∧ w = w' := by
  have h0 : wrap64 (wrap64 (Lib.len8 0)) = 0 := by kernel_rfl
  go_enter Tryz.func139, Tryz.ntmps139
  go_wp2
  go_ret
  exact ⟨congrArg (fun z : Int => Ending.returned (Value.int .i64 z)) h0, rfl⟩
set_option maxRecDepth 100000 in
set_option maxHeartbeats 1600000 in
theorem sort_nil (w : World) : Calls Tryz.prog 78 #[.slice none 0 0] w fun e w' => e = .returned (.tuple #[]) ∧ Grew w w' := by
  have hlen : Calls Tryz.prog 108 #[.int .u64 0] w fun e w' => e = .returned (.int .i64 0) ∧ w = w' := by
    go_enter Tryz.func108, Tryz.ntmps108
    go_wp2_with fail
    refine (len64_zero w).mono ?_
    rintro e w1 ⟨rfl, rfl⟩
    go_wp2_with fail
    go_ret
    exact ⟨rfl, rfl⟩
  have hins : Calls Tryz.prog 129 #[.slice none 0 0, .int .i64 0, .int .i64 0] w fun e w' => e = .returned (.tuple #[]) ∧ Grew w w' := by
    go_enter Tryz.func129, Tryz.ntmps129
    go_wp2_with fail
    go_loopg [6] 0 (fun q i wr => q = 0 ∧ i = .int .i64 1 ∧ w = wr)
    case atStart => exact ⟨rfl, rfl, rfl⟩
    case round =>
      obtain ⟨rfl, rfl, rfl⟩ := hrel
      go_wp2_with fail
      refine bodyPost_end (results_none rfl _ _ _) rfl ?_
      exact ⟨rfl, Chg.refl _ _⟩
  have hpdq : Calls Tryz.prog 107 #[.slice none 0 0, .int .i64 0, .int .i64 0, .int .i64 0] w fun e w' => e = .returned (.tuple #[]) ∧ Grew w w' := by
    have H := Lib.hid hins
    clear hins hlen
    go_enter Tryz.func107, Tryz.ntmps107
    go_wp2_with fail
    go_loopg [1, 2, 3, 8, 9] 0 (fun q a b l x y wr => q = 0 ∧ a = .int .i64 0 ∧ b = .int .i64 0 ∧ l = .int .i64 0 ∧ x = .bool true ∧ y = .bool true ∧ w = wr)
    case atStart => exact ⟨rfl, rfl, rfl, rfl, rfl, rfl, rfl⟩
    case round =>
      obtain ⟨rfl, rfl, rfl, rfl, rfl, rfl, rfl⟩ := hrel
      go_wp2_with fail
      refine H.out.mono ?_
      rintro e w1 ⟨rfl, hg⟩
      have HG := Lib.hid hg
      clear hg
      go_wp2_with fail
      refine bodyPost_ret (v := .tuple #[]) (results_none rfl _ _ _) rfl ?_
      exact ⟨rfl, HG.out⟩
  have H := Lib.hid (And.intro hlen hpdq)
  clear hlen hins hpdq
  go_enter Tryz.func78, Tryz.ntmps78
  go_wp2_with fail
  refine H.out.1.mono ?_
  rintro e w1 ⟨rfl, rfl⟩
  go_wp2_with fail
  refine H.out.2.mono ?_
  rintro e w1 ⟨rfl, hg⟩
  have HG := Lib.hid hg
  clear hg
  go_wp2_with fail
  refine bodyPost_end (results_none rfl _ _ _) rfl ?_
  exact ⟨rfl, HG.out⟩
set_option maxRecDepth 100000 in
set_option maxHeartbeats 1600000 in
theorem ksorted_all (bs R s0 N : Nat) (f : Nat → Bool) (w : World) (hb : Blk w bs 58 #[.map (some R)]) (hm : IMap Tryz.prog 3 w R (mB f) s0) (hN : ∀ s, f s = true → s < N) (hl : N ≤ 1000000) :
    Calls Tryz.prog 39 #[.func (.func 79) #[] #[.pointer (some ⟨bs, 0, none⟩)]] w fun e w' => OwnOut w w' 3 1 (keysL f N).length (nv (keysL f N)) (fun A c => .slice A (keysL f N).length c) e := by
  by_cases hne : 0 < (keysL f N).length
  · exact ksorted_any bs R s0 N f w hb hm hN hl hne
  have hk : keysL f N = [] := List.eq_nil_of_length_eq_zero (by omega)
  have H := Lib.hid (kappend_any bs R s0 N f w hb hm hN hl)
  rw [hk] at H ⊢
  have hcol : Calls Tryz.prog 77 #[.func (.func 79) #[] #[.pointer (some ⟨bs, 0, none⟩)]] w fun e w' => OwnOut w w' 3 1 0 [] (fun A c => .slice A 0 c) e := by
    clear hb hm hN
    go_enter Tryz.func77, Tryz.ntmps77
    go_wp2_with fail
    refine H.out.mono ?_
    rintro e w1 ⟨l, hp, A, c, rfl, ho, hg⟩
    obtain rfl : l = [] := hp.eq_nil
    have HO := Lib.hid (And.intro ho hg)
    clear hp ho hg
    go_wp2_with fail
    go_ret
    exact ⟨A, c, rfl, HO.out.1, HO.out.2⟩
  have HC := Lib.hid hcol
  clear hb hm hcol hk hne
  go_enter Tryz.func39, Tryz.ntmps39
  go_wp2_with fail
  refine HC.out.mono ?_
  rintro e w1 ⟨A, c, rfl, ho, hg⟩
  cases A with
  | none =>
    obtain ⟨-, rfl⟩ := own_none ho
    have HS := Lib.hid (sort_nil w1)
    have HO := Lib.hid (And.intro ho hg)
    clear ho hg
    go_wp2_with fail
    refine HS.out.mono ?_
    rintro e w2 ⟨rfl, hg2⟩
    have H2 := Lib.hid hg2
    clear hg2
    go_wp2_with fail
    go_ret
    exact OwnOut.mk none 0 rfl (own_grew HO.out.1 H2.out) (Grew.trans HO.out.2 H2.out)
  | some a =>
    obtain ⟨g, rfl, hgl⟩ := own_some ho
    have hso := Any.slices_Sort_int sortInt g 0 c [] w1 (fun j hj => absurd hj (by simp)) hgl (by simp)
    rw [show ((([] : List Int).mergeSort (fun x y => decide (x ≤ y))) = []) from by simp] at hso
    have hso2 : Calls Tryz.prog 78 #[.slice (some ⟨g, 0, none⟩) 0 c] w1 fun e w' => e = .returned (.tuple #[]) ∧ ∃ n os, w' = grow (putRow (Value.int .i64) (Sort.ahead w1 n) g 0 ([] : List Int).toArray) os := hso
    clear hso
    have HO := Lib.hid (And.intro ho hg)
    have HS := Lib.hid hso2
    clear ho hg hso2
    go_wp2_with fail
    refine HS.out.mono ?_
    rintro e w2 ⟨rfl, n, os, rfl⟩
    have hr := own_sortedI (n := n) (os := os) (l := []) HO.out.1 (ys := []) rfl
    obtain ⟨W2, hW2⟩ : ∃ W2, grow (putRow (Value.int .i64) (Sort.ahead w1 n) g 0 ([] : List Int).toArray) os = W2 := ⟨_, rfl⟩
    rw [hW2] at hr ⊢
    have HR := Lib.hid hr
    clear hr hW2
    go_wp2_with fail
    go_ret
    exact OwnOut.mk (some ⟨g, 0, none⟩) c rfl HR.out.1 (HO.out.2.grown HR.out.2 fun k hk hlt => by injection hk with hk; have := (HO.out.1.lt g rfl).1; omega)
end Go.Proofs.YtjkkoogfaibhiaaGreatDoor

/- Slotted pages, plain. No program stands in this text. -/
namespace Go.Proofs.YtjkkoogfaibhiaaGreatDoor

/-- What the slots of a page have. -/
abbrev Sls := List (List Int)
def encL (n : Nat) : List Int := [((n % 256 : Nat) : Int), ((n / 256 % 256 : Nat) : Int)]
def lenS (s : Sls) : Nat := 1 + (s.map fun b => 2 + b.length).sum
def encS (s : Sls) : List Int := ((s.length : Nat) : Int) :: ((s.flatMap fun b => encL b.length) ++ s.flatten)
def pageS (s : Sls) (sz : Nat) : List Int := encS s ++ List.replicate (sz - lenS s) 0
theorem encS_len (s : Sls) : (encS s).length = lenS s := by
  unfold encS lenS
  simp only [List.length_cons, List.length_append]
  have : ∀ s : Sls, (s.flatMap fun b => encL b.length).length + s.flatten.length = (s.map fun b => 2 + b.length).sum := by
    intro s
    induction s with
    | nil => rfl
    | cons a s ih =>
      simp only [List.flatMap_cons, List.length_append, List.flatten_cons, List.map_cons, List.sum_cons]
      have : (encL a.length).length = 2 := rfl
      omega
  have := this s
  omega
theorem pageS_len {s : Sls} {sz : Nat} (h : lenS s ≤ sz) : (pageS s sz).length = sz := by
  unfold pageS
  rw [List.length_append, encS_len, List.length_replicate]
  omega
/-- The least slot that has nothing. -/
def empS (s : Sls) : Nat := s.findIdx List.isEmpty
theorem empS_le (s : Sls) : empS s ≤ s.length := List.findIdx_le_length
structure SFit (s : Sls) (sz : Nat) : Prop where
  len : lenS s ≤ sz
  few : s.length ≤ 63
  last : ∀ b, s.getLast? = some b → b ≠ []
  byt : ∀ b ∈ s, ∀ q ∈ b, 0 ≤ q ∧ q ≤ 255
def putS1 (s : Sls) (b : List Int) : Sls := if empS s = s.length then s ++ [b] else s.set (empS s) b
/-- May a record be put? -/
def fitsS (s : Sls) (n sz : Nat) : Prop := if empS s = s.length then s.length < 63 ∧ lenS s + 2 + n ≤ sz else lenS s + n ≤ sz
def trimS : Sls → Sls
  | [] => []
  | b :: s => match trimS s with
    | [] => if b = [] then [] else [b]
    | r => b :: r
def delS (s : Sls) (i : Nat) : Sls := trimS (s.set i [])
theorem empS_at {s : Sls} (h : empS s < s.length) : s[empS s]? = some [] := by
  have h1 := List.findIdx_getElem (w := h) (xs := s) (p := List.isEmpty)
  rw [List.getElem?_eq_getElem h]
  exact congrArg some (List.isEmpty_iff.1 h1)
theorem lenS_app (s : Sls) (b : List Int) : lenS (s ++ [b]) = lenS s + 2 + b.length := by
  unfold lenS
  simp
  omega
theorem sum_set : ∀ (s : Sls) (i : Nat) (a b : List Int), s[i]? = some a → ((s.set i b).map fun b => 2 + b.length).sum + a.length = (s.map fun b => 2 + b.length).sum + b.length
  | [], i, a, b, h => by simp at h
  | c :: s, 0, a, b, h => by simp at h; subst h; simp; omega
  | c :: s, i + 1, a, b, h => by
    have := sum_set s i a b (by simpa using h)
    simp only [List.set_cons_succ, List.map_cons, List.sum_cons]
    omega
theorem lenS_set {s : Sls} {i : Nat} {a : List Int} (b : List Int) (h : s[i]? = some a) : lenS (s.set i b) + a.length = lenS s + b.length := by
  have := sum_set s i a b h
  unfold lenS
  omega
theorem putS1_at {s : Sls} {b : List Int} : (putS1 s b)[empS s]? = some b := by
  unfold putS1
  split
  · rename_i h
    rw [h]
    simp
  · rename_i h
    have h1 := empS_le s
    rw [List.getElem?_set_self (by omega)]
theorem putS1_other {s : Sls} {b c : List Int} {j : Nat} (hc : c ≠ []) (h : s[j]? = some c) : j ≠ empS s ∧ (putS1 s b)[j]? = some c := by
  have hj := (List.getElem?_eq_some_iff.1 h).1
  have hne : j ≠ empS s := fun e => by
    have := empS_at (s := s) (e ▸ hj)
    rw [← e, h] at this
    exact hc (by simpa using this)
  refine ⟨hne, ?_⟩
  unfold putS1
  split
  · rw [List.getElem?_append_left hj]; exact h
  · rw [List.getElem?_set_ne (Ne.symm hne)]; exact h
theorem putS1_back {s : Sls} {b c : List Int} {j : Nat} (hc : c ≠ []) (h : (putS1 s b)[j]? = some c) : (j = empS s ∧ c = b) ∨ s[j]? = some c := by
  by_cases e : j = empS s
  · subst e
    rw [putS1_at] at h
    exact .inl ⟨rfl, by simpa using h.symm⟩
  · refine .inr ?_
    unfold putS1 at h
    split at h
    · rename_i hh
      rw [hh] at e
      rw [List.getElem?_append] at h
      split at h
      · exact h
      · rename_i hn
        rw [List.getElem?_singleton] at h
        split at h
        · omega
        · cases h
    · rwa [List.getElem?_set_ne (Ne.symm e)] at h
theorem putS1_fit {s : Sls} {b : List Int} {sz : Nat} (h : SFit s sz) (hf : fitsS s b.length sz) (hb : b ≠ []) (hq : ∀ q ∈ b, 0 ≤ q ∧ q ≤ 255) : SFit (putS1 s b) sz := by
  have hle := empS_le s
  unfold fitsS at hf
  unfold putS1
  split
  · rename_i he
    rw [if_pos he] at hf
    refine ⟨by rw [lenS_app]; omega, by simp; omega, fun c hc => by simp at hc; exact hc ▸ hb, fun c hc q hq' => ?_⟩
    rcases List.mem_append.1 hc with e | e
    · exact h.byt c e q hq'
    · simp at e; subst e; exact hq q hq'
  · rename_i he
    rw [if_neg he] at hf
    have h1 := lenS_set b (empS_at (s := s) (by omega))
    refine ⟨by simp at h1; omega, by simp; exact h.few, fun c hc => ?_, fun c hc q hq' => ?_⟩
    · rw [List.getLast?_eq_getElem?, List.length_set, List.getElem?_set] at hc
      split at hc
      · split at hc
        · simp at hc; exact hc ▸ hb
        · cases hc
      · exact h.last c (by rw [List.getLast?_eq_getElem?]; exact hc)
    · rcases List.mem_or_eq_of_mem_set hc with e | e
      · exact h.byt c e q hq'
      · subst e; exact hq q hq'
theorem trimS_pre : ∀ s : Sls, ∃ n, s = trimS s ++ List.replicate n []
  | [] => ⟨0, rfl⟩
  | b :: s => by
    obtain ⟨n, hn⟩ := trimS_pre s
    unfold trimS
    split
    · rename_i h
      rw [h] at hn
      split
      · rename_i hb
        exact ⟨n + 1, by rw [hb, hn]; simp [List.replicate_succ]⟩
      · exact ⟨n, by rw [hn]; simp⟩
    · exact ⟨n, by conv => lhs; rw [hn]
                   simp⟩
theorem trimS_last : ∀ (s : Sls) b, (trimS s).getLast? = some b → b ≠ []
  | [], b, h => by cases h
  | c :: s, b, h => by
    unfold trimS at h
    split at h
    · split at h
      · cases h
      · rename_i hb; simp at h; exact h ▸ hb
    · rename_i r hne
      refine trimS_last s b ?_
      cases hr : trimS s with
      | nil => exact absurd hr hne
      | cons a t => rw [hr] at h; simpa using h
theorem trimS_at {s : Sls} {j : Nat} {c : List Int} (hc : c ≠ []) : (trimS s)[j]? = some c ↔ s[j]? = some c := by
  obtain ⟨n, hn⟩ := trimS_pre s
  constructor
  · intro h
    rw [hn, List.getElem?_append_left (List.getElem?_eq_some_iff.1 h).1]
    exact h
  · intro h
    rw [hn, List.getElem?_append] at h
    split at h
    · exact h
    · exact absurd (List.eq_of_mem_replicate (List.mem_of_getElem? h)) hc
theorem lenS_trim (s : Sls) : lenS (trimS s) ≤ lenS s := by
  obtain ⟨n, hn⟩ := trimS_pre s
  conv => rhs; rw [hn]
  unfold lenS
  rw [List.map_append, List.sum_append]
  omega
theorem delS_other {s : Sls} {i j : Nat} {c : List Int} (hc : c ≠ []) : (delS s i)[j]? = some c ↔ j ≠ i ∧ s[j]? = some c := by
  unfold delS
  rw [trimS_at hc]
  by_cases e : j = i
  · subst e
    constructor
    · intro h
      rw [List.getElem?_set] at h
      split at h
      · split at h
        · exact absurd (by simpa using h.symm) hc
        · cases h
      · omega
    · intro h; exact absurd rfl h.1
  · rw [List.getElem?_set_ne (Ne.symm e)]
    exact ⟨fun h => ⟨e, h⟩, fun h => h.2⟩
theorem delS_fit {s : Sls} {i sz : Nat} (h : SFit s sz) : SFit (delS s i) sz := by
  obtain ⟨n, hn⟩ := trimS_pre (s.set i [])
  have hl : (delS s i).length ≤ s.length := by
    have := congrArg List.length hn
    simp only [List.length_set, List.length_append, List.length_replicate] at this
    unfold delS
    omega
  refine ⟨?_, by have := h.few; omega, trimS_last _, fun c hc q hq => ?_⟩
  · refine Nat.le_trans (lenS_trim _) ?_
    cases hs : s[i]? with
    | none =>
      rw [List.set_eq_of_length_le (by rw [List.getElem?_eq_none_iff] at hs; exact hs)]
      exact h.len
    | some a =>
      have h1 := lenS_set [] hs
      have := h.len
      simp at h1
      omega
  · have h1 : c ∈ s.set i [] := by rw [hn]; exact List.mem_append_left _ hc
    rcases List.mem_or_eq_of_mem_set h1 with e | e
    · exact h.byt c e q hq
    · subst e; cases hq
/-- No record is left. -/
theorem fit_nil {s : Sls} {sz : Nat} (h : SFit s sz) (hn : ∀ (j : Nat) c, s[j]? = some c → c = []) : s = [] := by
  cases hl : s.getLast? with
  | none => exact List.getLast?_eq_none_iff.1 hl
  | some b =>
    rw [List.getLast?_eq_getElem?] at hl
    exact absurd (hn _ b hl) (h.last b (by rw [List.getLast?_eq_getElem?]; exact hl))
theorem encL_all : ∀ (s : Sls), (s.flatMap fun b => encL b.length).length = 2 * s.length
  | [] => rfl
  | b :: s => by
    have := encL_all s
    have h2 : (encL b.length).length = 2 := rfl
    simp only [List.flatMap_cons, List.length_append, List.length_cons]
    omega
theorem encL_at : ∀ {s : Sls} {i : Nat} {b : List Int} (j : Nat), s[i]? = some b → j < 2 → (s.flatMap fun b => encL b.length)[2 * i + j]? = (encL b.length)[j]?
  | [], i, b, j, h, hj => by simp at h
  | c :: s, 0, b, j, h, hj => by
    simp at h
    subst h
    rw [List.flatMap_cons, Nat.mul_zero, Nat.zero_add, List.getElem?_append_left (by show j < 2; omega)]
  | c :: s, i + 1, b, j, h, hj => by
    rw [List.flatMap_cons, List.getElem?_append_right (by show 2 ≤ _; omega)]
    have := encL_at (s := s) (i := i) j (by simpa using h) hj
    rw [show 2 * (i + 1) + j - (encL c.length).length = 2 * i + j by show 2 * (i + 1) + j - 2 = _; omega]
    exact this
/-- Where a slot's bytes begin. -/
def offS (s : Sls) (i : Nat) : Nat := 1 + 2 * s.length + (s.take i).flatten.length
theorem offS_zero (s : Sls) : offS s 0 = 1 + 2 * s.length := by simp [offS]
theorem offS_succ {s : Sls} {i : Nat} {b : List Int} (h : s[i]? = some b) : offS s (i + 1) = offS s i + b.length := by
  unfold offS
  rw [List.take_add_one, h]
  simp
  omega
theorem flat_sum : ∀ s : Sls, (s.map fun b => 2 + b.length).sum = 2 * s.length + s.flatten.length
  | [] => rfl
  | b :: s => by
    have := flat_sum s
    simp only [List.map_cons, List.sum_cons, List.length_cons, List.flatten_cons, List.length_append]
    omega
theorem offS_le (s : Sls) (i : Nat) : offS s i ≤ lenS s := by
  unfold offS lenS
  rw [flat_sum]
  have : (s.take i).flatten.length ≤ s.flatten.length := by
    conv => rhs; rw [← List.take_append_drop i s, List.flatten_append, List.length_append]
    omega
  omega
theorem pageS_zero (s : Sls) (sz : Nat) : (pageS s sz)[0]? = some ((s.length : Nat) : Int) := rfl
theorem pageS_len_at {s : Sls} {sz i : Nat} {b : List Int} (j : Nat) (h : s[i]? = some b) (hj : j < 2) : (pageS s sz)[1 + (2 * i + j)]? = (encL b.length)[j]? := by
  have hi := (List.getElem?_eq_some_iff.1 h).1
  have h1 := encL_all s
  unfold pageS encS
  rw [List.cons_append, show 1 + (2 * i + j) = (2 * i + j) + 1 by omega, List.getElem?_cons_succ, List.append_assoc, List.getElem?_append_left (by omega)]
  exact encL_at j h hj
theorem pageS_slot {s : Sls} {sz i : Nat} {b : List Int} (h : s[i]? = some b) : ((pageS s sz).drop (offS s i)).take b.length = b := by
  have h1 := encL_all s
  have hi := (List.getElem?_eq_some_iff.1 h).1
  unfold pageS encS offS
  rw [show 1 + 2 * s.length + (s.take i).flatten.length = (s.take i).flatten.length + 2 * s.length + 1 by omega, List.cons_append, List.drop_succ_cons, List.append_assoc, Nat.add_comm _ (2 * s.length), ← List.drop_drop]
  rw [List.drop_left' h1]
  have e : s = s.take i ++ b :: s.drop (i + 1) := by
    conv => lhs; rw [← List.take_append_drop i s, List.drop_eq_getElem_cons hi]
    rw [List.getElem?_eq_getElem hi] at h
    injection h with h
    rw [h]
  conv => lhs; arg 2; arg 2; arg 1; rw [e, List.flatten_append, List.flatten_cons]
  rw [List.append_assoc, List.append_assoc, List.drop_left' rfl, List.take_left' rfl]
theorem encL_get (n : Nat) (h : n < 65536) : ∃ a b : Nat, encL n = [(a : Int), (b : Int)] ∧ a < 256 ∧ b < 256 ∧ a + 256 * b = n := ⟨n % 256, n / 256 % 256, rfl, by omega, by omega, by omega⟩
end Go.Proofs.YtjkkoogfaibhiaaGreatDoor

/- A part of bytes that are read. -/
namespace Go.Proofs.YtjkkoogfaibhiaaGreatDoor
open Go.RowKit

theorem Sl.sub {w : World} {g off : Nat} {bs : List Int} (h : Sl w 1 (some ⟨g, off, none⟩) bs.length (bv bs)) {i m : Nat} (him : i + m ≤ bs.length) (ys : List Int) (hy : ys = (bs.drop i).take m) : Sl w 1 (some ⟨g, off + i, none⟩) ys.length (bv ys) := by
  subst hy
  refine ⟨by rw [bv_len, Nat.mul_one], fun hn => ?_⟩
  have hl : ((bs.drop i).take m).length = m := by simp; omega
  rw [hl] at hn
  obtain ⟨b, o, e, hb, hx⟩ := h.2 (by omega)
  cases e
  refine ⟨g, off + i, rfl, hb, fun j u hu => ?_⟩
  have hj : j < m := by have := (List.getElem?_eq_some_iff.1 hu).1; rw [bv_len, hl] at this; exact this
  rw [Nat.add_assoc]
  refine hx (i + j) u ?_
  rw [← hu]
  simp only [bv, List.map_take, List.map_drop, List.getElem?_take, List.getElem?_drop]
  rw [if_pos hj]

end Go.Proofs.YtjkkoogfaibhiaaGreatDoor

/- The pager: Alloc, Write, Free in all cases; how much slack there is. -/
namespace Go.Proofs.YtjkkoogfaibhiaaGreatDoor
open Go.RowKit Go.Maps

/-- How many sectors may be taken at any rate. -/
def Rp.slack (x : Rp) : Int := x.free - tabN x.n x.sz
theorem countP_set' {α : Type} (p : α → Bool) (a b : α) : ∀ (l : List α) (i : Nat), l[i]? = some b → (l.set i a).countP p + (if p b then 1 else 0) = l.countP p + (if p a then 1 else 0)
  | [], i, h => by simp at h
  | c :: t, 0, h => by
    simp only [List.getElem?_cons_zero, Option.some.injEq] at h
    subst h
    simp only [List.set_cons_zero, List.countP_cons]
    omega
  | c :: t, i + 1, h => by
    simp only [List.getElem?_cons_succ] at h
    have := countP_set' p a b t i h
    simp only [List.set_cons_succ, List.countP_cons]
    omega
theorem Rp.put_slack {x : Rp} {i : Nat} {c c0 : Pk} (hw : x.was ≠ none) (hi : x.now[i]? = some c0) : (x.put i c).slack + (if c.isNew then 1 else 0) = x.slack + (if c0.isNew then 1 else 0) := by
  have h1 := countP_set' Pk.isNew c c0 x.now i hi
  have hb : (x.put i c).base = x.base := by
    unfold Rp.base Rp.put
    cases hx : x.was with
    | none => exact absurd hx hw
    | some b => rfl
  unfold Rp.slack Rp.free
  rw [hb, show (x.put i c).n = x.n from rfl, show (x.put i c).sz = x.sz from rfl, show (x.put i c).now = x.now.set i c from rfl]
  split at h1 <;> split at h1 <;> simp_all <;> omega
theorem Rp.put_used {x : Rp} {i : Nat} {c c0 : Pk} (hi : x.now[i]? = some c0) : (x.put i c).now.countP Pk.used + (if c0.used then 1 else 0) = x.now.countP Pk.used + (if c.used then 1 else 0) := countP_set' Pk.used c c0 x.now i hi
theorem Rp.put_at {x : Rp} {i k : Nat} {c : Pk} (hi : i < x.now.length) : (x.put i c).now[k]? = if k = i then some c else x.now[k]? := set_at hi
theorem Rp.put_len (x : Rp) (i : Nat) (c : Pk) : (x.put i c).now.length = x.now.length := List.length_set
/-- The same disk, and the same pages when the change began. -/
structure Rp.like (x y : Rp) : Prop where
  n : y.n = x.n
  sz : y.sz = x.sz
  was : y.was = x.was
  epoch : y.epoch = x.epoch
  len : y.now.length = x.now.length
  d : y.d = x.d
theorem Rp.like.refl (x : Rp) : x.like x := ⟨rfl, rfl, rfl, rfl, rfl, rfl⟩
theorem Rp.like.trans {x y z : Rp} (h : x.like y) (k : y.like z) : x.like z := ⟨k.n.trans h.n, k.sz.trans h.sz, k.was.trans h.was, k.epoch.trans h.epoch, k.len.trans h.len, k.d.trans h.d⟩
theorem Rp.put_like (x : Rp) (i : Nat) (c : Pk) : x.like (x.put i c) := ⟨rfl, rfl, rfl, rfl, List.length_set, rfl⟩

theorem cntN_bnd {f : Nat → Bool} {T : Nat} (h : ∀ k, f k = true → k < T) : ∀ n, cntN f n ≤ T
  | 0 => Nat.zero_le _
  | n + 1 => by
    rw [cntN_succ]
    by_cases hn : n < T
    · have := cntN_le f n; split <;> omega
    · have : f n = false := by cases e : f n with | false => rfl | true => exact absurd (h n e) hn
      rw [this]
      simpa using cntN_bnd h n
section
variable {w w' : World} {p i : Nat} {F : Nat → Prop} {x : Rp}
theorem GP.part (h : GP w p F x) (hi : i < x.now.length) : i / x.row < tabN x.n x.sz := by
  obtain ⟨X, -, h2, rfl⟩ := h
  have := h2.inv.part (i := i) (by simpa [Gp.view] using hi)
  rw [h2.inv.lens.2.1] at this
  exact this
theorem GP.need (h : GP w p F x) {k m : Nat} (hk : k < tabN x.n x.sz) (hm : (m : Int) ≤ x.slack) : (x.need k m : Int) ≤ x.room := by
  obtain ⟨X, -, h2, rfl⟩ := h
  have h3 : ∀ q, X.tc q = true → q < tabN X.D.n X.D.sz := fun q hq => by have := h2.inv.tc6 q hq; rw [h2.inv.lens.2.1] at this; exact this
  have h64 : tabN X.D.n X.D.sz ≤ 64 := by have := h2.inv.pg64; rw [h2.inv.lens.2.1] at this; exact this
  have hk' : k < tabN X.D.n X.D.sz := hk
  unfold Rp.room Rp.need
  have e1 : X.view.touched = X.tc := rfl
  have e2 : X.view.slack = X.view.free - tabN X.D.n X.D.sz := rfl
  rw [e1]
  cases ht : X.tc k with
  | true => have := cntN_bnd h3 64; simp; omega
  | false =>
    have h4 := cntN_bnd (f := setB X.tc k true) (T := tabN X.D.n X.D.sz) (fun q hq => by
      unfold setB at hq
      split at hq
      · omega
      · exact h3 q hq) 64
    rw [cntN_yes X.tc (by omega) ht] at h4
    simp
    omega
/-- Table pages that are touched are kept back at most. -/
theorem GP.room (h : GP w p F x) : x.slack ≤ x.room ∧ x.room ≤ x.free ∧ 0 ≤ x.room := by
  obtain ⟨X, -, h2, rfl⟩ := h
  have h3 : ∀ q, X.tc q = true → q < tabN X.D.n X.D.sz := fun q hq => by have := h2.inv.tc6 q hq; rw [h2.inv.lens.2.1] at this; exact this
  have h4 := cntN_bnd h3 64
  have h5 := h2.inv.room
  have h6 := h2.free
  have e1 : X.view.touched = X.tc := rfl
  have e2 : X.view.slack = X.view.free - tabN X.D.n X.D.sz := rfl
  unfold Rp.room
  rw [e1]
  omega
end
theorem least_no : ∀ (l : List Pk), Pk.no ∈ l → ∃ i, l[i]? = some .no ∧ ∀ (k : Nat) c, k < i → l[k]? = some c → c ≠ .no
  | [], h => by simp at h
  | c :: t, h => by
    by_cases hc : c = .no
    · subst hc; exact ⟨0, rfl, fun k c hk => by omega⟩
    · obtain ⟨i, h1, h2⟩ := least_no t ((List.mem_cons.1 h).resolve_left (Ne.symm hc))
      refine ⟨i + 1, by simpa using h1, fun k c' hk hk2 => ?_⟩
      cases k with
      | zero => simp at hk2; subst hk2; exact hc
      | succ k => exact h2 k c' (by omega) (by simpa using hk2)

section
variable (p : Nat) (F : Nat → Prop) (x : Rp) (w : World)
theorem gp_alloc_any (h : GP w p F x) (ho : x.was ≠ none) :
    Calls Tryz.prog 59 #[.pointer (some ⟨p, 0, none⟩)] w fun e' w' =>
      (∃ i : Nat, x.now[i]? = some .no ∧ (∀ (k : Nat) c, k < i → x.now[k]? = some c → c ≠ .no) ∧ e' = .returned (.tuple #[.int .i64 i, .int .i64 0]) ∧ GPTo w w' p F (x.put i .zero)) ∨
      (¬ (0 ≤ x.slack ∧ Pk.no ∈ x.now) ∧ e' = .returned (.tuple #[.int .i64 0, .int .i64 21]) ∧ Grew w w') := by
  by_cases hn : Pk.no ∈ x.now
  · obtain ⟨i, h1, h2⟩ := least_no x.now hn
    by_cases hm : (x.need (i / x.row) 0 : Nat) ≤ x.room
    · refine (gp_alloc_ok p i F x w h ho h1 h2 hm).mono ?_
      rintro e w' ⟨rfl, h3⟩
      exact .inl ⟨i, h1, h2, rfl, h3⟩
    · refine (gp_alloc_full p i F x w h ho h1 h2 (by omega)).mono ?_
      rintro e w' ⟨rfl, h3⟩
      refine .inr ⟨fun hs => hm (h.need (h.part (List.getElem?_eq_some_iff.1 h1).1) (by simpa using hs.1)), rfl, h3⟩
  · refine (gp_alloc_none p F x w h ho fun c hc e => hn (e ▸ hc)).mono ?_
    rintro e w' ⟨rfl, rfl⟩
    exact .inr ⟨fun hs => hn hs.2, rfl, Chg.refl _ _⟩
theorem gp_write_any (i : Nat) (bs : List Int) (Ab : Option Addr) (cb : Nat) (c : Pk) (h : GP w p F x) (ho : x.was ≠ none) (hi : x.now[i]? = some c) (hu : c.used = true)
    (hb : bs.length = x.sz) (hby : ∀ q ∈ bs, 0 ≤ q ∧ q ≤ 255) (hA : Ab ≠ none) (hsl : Sl w 1 Ab bs.length (bv bs)) (hsF : ∀ a, Ab = some a → ¬ F a.block) :
    Calls Tryz.prog 36 #[.pointer (some ⟨p, 0, none⟩), .int .i64 i, .slice Ab bs.length cb] w fun e' w' =>
      (e' = .returned (.int .i64 0) ∧ GPTo w w' p F (x.put i (.new bs))) ∨ (¬ (1 ≤ x.slack) ∧ c.isNew = false ∧ e' = .returned (.int .i64 21) ∧ Grew w w') := by
  by_cases hm : c.isNew = true ∨ (x.need (i / x.row) 1 : Nat) ≤ x.room
  · exact (gp_write p i F x w bs Ab cb c h ho hi hu hm hb hby hA hsl hsF).mono fun e w' k => .inl k
  · have hn : c.isNew = false := by cases e : c.isNew with | false => rfl | true => exact absurd (.inl e) hm
    have hr : x.room < (x.need (i / x.row) 1 : Nat) := by
      have : ¬ ((x.need (i / x.row) 1 : Nat) : Int) ≤ x.room := fun e => hm (.inr e)
      omega
    refine (gp_write_full p i F x w Ab cb bs.length c h ho hi hu hn hr hb).mono ?_
    rintro e w' ⟨rfl, h3⟩
    exact .inr ⟨fun hs => by have := h.need (h.part (List.getElem?_eq_some_iff.1 hi).1) (m := 1) (by simpa using hs); omega, hn, rfl, h3⟩
end

end Go.Proofs.YtjkkoogfaibhiaaGreatDoor

/- The chain: Put: its words. -/
namespace Go.Proofs.YtjkkoogfaibhiaaGreatDoor
open Go.RowKit Go.Maps

/-- How many parts a record has, each of n bytes at most. -/
def partsN (len n : Nat) : Nat := (len - 1) / n + 1
theorem parts_lt {len n : Nat} (hl : 1 ≤ len) (hn : 1 ≤ n) (k : Nat) : k * n < len ↔ k < partsN len n := by
  unfold partsN
  have := Nat.le_div_iff_mul_le (x := k) (y := len - 1) (k := n) (by omega)
  omega
def part (n : Nat) (bs : List Int) (k : Nat) : List Int := (bs.drop (k * n)).take n
theorem part_len (n : Nat) (bs : List Int) (k : Nat) : (part n bs k).length = min n (bs.length - k * n) := by unfold part; simp
theorem pgL_len {bs : List Int} {next sz : Nat} (h : bs.length + 5 ≤ sz) : (pgL bs next sz).length = sz := by unfold pgL; simp; omega
theorem pgL_byte {bs : List Int} {next sz : Nat} (h : ∀ q ∈ bs, 0 ≤ q ∧ q ≤ 255) : ∀ q ∈ pgL bs next sz, 0 ≤ q ∧ q ≤ 255 := by
  intro q hq
  unfold pgL at hq
  simp only [List.mem_append, List.mem_cons, List.not_mem_nil, or_false, List.mem_replicate] at hq
  rcases hq with ((rfl | rfl | rfl | rfl | rfl) | hq) | ⟨-, rfl⟩
  · omega
  · omega
  · omega
  · omega
  · omega
  · exact h q hq
  · omega
theorem part_byte {n : Nat} {bs : List Int} {k : Nat} (h : ∀ q ∈ bs, 0 ≤ q ∧ q ≤ 255) : ∀ q ∈ part n bs k, 0 ≤ q ∧ q ≤ 255 := fun q hq => h q (List.mem_of_mem_drop (List.mem_of_mem_take hq))
/-- What a page names as the next one. -/
def nextOf (l : List Nat) (k : Nat) : Nat := match l[k + 1]? with | some j => j + 1 | none => 0
/-- A record stands in these pages. -/
structure Stands (x : Rp) (l : List Nat) (bs : List Int) : Prop where
  len : l.length = partsN bs.length (x.sz - 5)
  nd : l.Nodup
  at_ : ∀ k i : Nat, l[k]? = some i → ∃ c, x.now[i]? = some c ∧ c.used = true ∧ c.bytes x.sz = pgL (part (x.sz - 5) bs k) (nextOf l k) x.sz
/-- Is there room at any rate? -/
def Rp.enough (x : Rp) (m : Nat) : Prop := (m : Int) ≤ x.slack ∧ x.now.countP Pk.used + m ≤ x.now.length
/-- Some pages are taken. -/
structure Took (x y : Rp) (l : List Nat) : Prop where
  like : x.like y
  nd : l.Nodup
  was : ∀ i ∈ l, x.now[i]? = some .no
  is : ∀ i ∈ l, y.now[i]? = some .zero
  else_ : ∀ i, i ∉ l → y.now[i]? = x.now[i]?
  slack : y.slack = x.slack
  used : y.now.countP Pk.used = x.now.countP Pk.used + l.length
theorem Took.refl (x : Rp) : Took x x [] := ⟨.refl x, List.nodup_nil, fun i h => by simp at h, fun i h => by simp at h, fun _ _ => rfl, rfl, rfl⟩
theorem Took.more {x y : Rp} {l : List Nat} {i : Nat} (h : Took x y l) (hw : x.was ≠ none) (hi : y.now[i]? = some .no) : Took x (y.put i .zero) (l ++ [i]) := by
  have hl : i ∉ l := fun e => by have := h.is i e; rw [hi] at this; cases this
  have hil : i < y.now.length := (List.getElem?_eq_some_iff.1 hi).1
  refine ⟨h.like.trans (y.put_like i .zero), List.nodup_append.2 ⟨h.nd, by simp, fun a ha b hb e => ?_⟩, fun j hj => ?_, fun j hj => ?_, fun j hj => ?_, ?_, ?_⟩
  · simp only [List.mem_singleton] at hb; subst hb; exact hl (e ▸ ha)
  · rcases List.mem_append.1 hj with e | e
    · exact h.was j e
    · simp only [List.mem_singleton] at e; subst e; rw [← h.else_ j hl]; exact hi
  · rw [Rp.put_at hil]
    rcases List.mem_append.1 hj with e | e
    · rw [if_neg (by rintro rfl; exact hl e)]; exact h.is j e
    · simp only [List.mem_singleton] at e; rw [if_pos e]
  · simp only [List.mem_append, List.mem_singleton, not_or] at hj
    rw [Rp.put_at hil, if_neg hj.2]
    exact h.else_ j hj.1
  · have := Rp.put_slack (c := .zero) (by rw [h.like.was]; exact hw) hi
    simp [Pk.isNew] at this
    rw [this, h.slack]
  · have := Rp.put_used (c := .zero) hi
    simp [Pk.used] at this
    rw [this, h.used, List.length_append]
    rfl
/-- The first k of them are written. -/
structure Wrote (x y : Rp) (l : List Nat) (bs : List Int) (k : Nat) : Prop where
  like : x.like y
  is : ∀ j i : Nat, l[j]? = some i → y.now[i]? = some (if j < k then .new (pgL (part (x.sz - 5) bs j) (nextOf l j) x.sz) else .zero)
  else_ : ∀ i, i ∉ l → y.now[i]? = x.now[i]?
  slack : y.slack + k = x.slack
  used : y.now.countP Pk.used = x.now.countP Pk.used
theorem Took.wrote {x y : Rp} {l : List Nat} (h : Took x y l) (bs : List Int) : Wrote y y l bs 0 := ⟨.refl y, fun j i hi => by simpa using h.is i (List.mem_of_getElem? hi), fun _ _ => rfl, by simp, rfl⟩
theorem Wrote.more {x y : Rp} {l : List Nat} {bs : List Int} {k i : Nat} (h : Wrote x y l bs k) (hw : x.was ≠ none) (hn : l.Nodup) (hi : l[k]? = some i) : Wrote x (y.put i (.new (pgL (part (x.sz - 5) bs k) (nextOf l k) x.sz))) l bs (k + 1) := by
  have hz : y.now[i]? = some .zero := by have := h.is k i hi; simpa using this
  have hil : i < y.now.length := (List.getElem?_eq_some_iff.1 hz).1
  refine ⟨h.like.trans (y.put_like _ _), fun j q hq => ?_, fun j hj => ?_, ?_, ?_⟩
  · rw [Rp.put_at hil]
    by_cases e : q = i
    · subst e
      have hjk : j = k := (List.getElem?_inj (List.getElem?_eq_some_iff.1 hq).1 hn).1 (by rw [hq, hi])
      subst hjk
      rw [if_pos rfl, if_pos (by omega)]
    · have hjk : j ≠ k := by rintro rfl; rw [hq] at hi; injection hi with hi; exact e hi
      rw [if_neg e, h.is j q hq]
      by_cases hlt : j < k
      · rw [if_pos hlt, if_pos (by omega)]
      · rw [if_neg hlt, if_neg (by omega)]
  · rw [Rp.put_at hil, if_neg (by rintro rfl; exact hj (List.mem_of_getElem? hi))]
    exact h.else_ j hj
  · have := Rp.put_slack (c := .new (pgL (part (x.sz - 5) bs k) (nextOf l k) x.sz)) (by rw [h.like.was]; exact hw) hz
    have h2 := h.slack
    simp [Pk.isNew] at this
    omega
  · have := Rp.put_used (c := .new (pgL (part (x.sz - 5) bs k) (nextOf l k) x.sz)) hz
    simp [Pk.used] at this
    rw [this, h.used]
/-- What a Put that is done makes. -/
structure PutRel (x y : Rp) (l : List Nat) (bs : List Int) : Prop where
  like : x.like y
  stands : Stands y l bs
  was : ∀ i ∈ l, x.now[i]? = some .no
  else_ : ∀ i, i ∉ l → y.now[i]? = x.now[i]?
  slack : y.slack + l.length = x.slack
  used : y.now.countP Pk.used = x.now.countP Pk.used + l.length
theorem Wrote.done {x y z : Rp} {l : List Nat} {bs : List Int} (h : Took x y l) (k : Wrote y z l bs l.length) (hl : l.length = partsN bs.length (x.sz - 5)) : PutRel x z l bs := by
  have hz : z.sz = y.sz := k.like.sz
  refine ⟨h.like.trans k.like, ⟨by rw [hz, h.like.sz]; exact hl, h.nd, fun j i hi => ?_⟩, h.was, fun i hi => by rw [k.else_ i hi, h.else_ i hi], by rw [k.slack, h.slack], by rw [k.used, h.used]⟩
  have hj : j < l.length := (List.getElem?_eq_some_iff.1 hi).1
  have := k.is j i hi
  rw [if_pos hj] at this
  exact ⟨_, this, rfl, by rw [hz]; rfl⟩

/-- Put, as its memory stands: the boxes of the pager, of the two results, of the pages. -/
structure PutW (w wr : World) (a0 p : Nat) (F F' : Nat → Prop) (x : Rp) (l : List Nat) (v : Value) : Prop where
  gp : GP wr p F' x
  rch : Rch F F' w wr
  bp : Blk wr a0 23 #[.pointer (some ⟨p, 0, none⟩)]
  b1 : Blk wr (a0 + 1) 3 #[.int .i64 0]
  b2 : Blk wr (a0 + 2) 31 #[.int .i64 0]
  b3 : Blk wr (a0 + 3) 39 #[v]
  row : wr.ownsRow (a0 + 4) 3 1 v l.length (nv l)
  rn : ∀ g, v.ownBlock = some g → ¬ F' g
  nf : ∀ j, a0 ≤ j → j < a0 + 4 → ¬ F' j
  sz : w.heap.size = a0
section
variable {w wr w' : World} {a0 p : Nat} {F F' : Nat → Prop} {x y : Rp} {l : List Nat} {v v' : Value}
theorem PutW.grew (h : PutW w wr a0 p F F' x l v) (hg : Grew wr w') : PutW w w' a0 p F F' x l v :=
  ⟨h.gp.grew hg, h.rch.trans (Rch.grew hg), h.bp.grew hg, h.b1.grew hg, h.b2.grew hg, h.b3.grew hg, own_grew h.row hg, h.rn, h.nf, h.sz⟩
theorem PutW.step (h : PutW w wr a0 p F F' x l v) (k : GPTo wr w' p F' y) : ∃ F2, PutW w w' a0 p F F2 y l v := by
  obtain ⟨F2, k1, k2, k3⟩ := k
  have hlt := h.b3.lt
  refine ⟨F2, k1, h.rch.trans ⟨k2, k3⟩, h.bp.chg k2 (h.nf _ (by omega) (by omega)), h.b1.chg k2 (h.nf _ (by omega) (by omega)), h.b2.chg k2 (h.nf _ (by omega) (by omega)), h.b3.chg k2 (h.nf _ (by omega) (by omega)), own_chg h.row k2 fun g hg => h.rn g hg, fun g hg e => ?_, fun j h1 h2 e => ?_, h.sz⟩
  · rcases k3 g e with e | e
    · exact h.rn g hg e
    · have := (h.row.lt g hg).2; omega
  · rcases k3 j e with e | e
    · exact h.nf j h1 h2 e
    · omega
theorem PutW.push (h : PutW w wr a0 p F F' x l v) {i : Nat} (ha : Ap wr w' v v') (ho : w'.ownsRow (a0 + 4) 3 1 v' (l.length + 1) (nv l ++ [.int .i64 i])) : PutW w (w'.setCell ⟨a0 + 3, 0, none⟩ v') a0 p F F' x (l ++ [i]) v' := by
  have hb : ∀ g, v.ownBlock = some g → a0 + 4 ≤ g := fun g hg => (h.row.lt g hg).1
  have hlt := h.b3.lt
  have hc : Chg (fun j => v.ownBlock = some j ∨ j = a0 + 3) wr (w'.setCell ⟨a0 + 3, 0, none⟩ v') := (ha.chg.mono fun _ _ e => .inl e).setCell (p := ⟨a0 + 3, 0, none⟩) (fun _ => .inr rfl) _
  have hgF : ∀ j, (v.ownBlock = some j ∨ j = a0 + 3) → ¬ F' j := by
    rintro j (e | rfl)
    · exact h.rn j e
    · exact h.nf _ (by omega) (by omega)
  have hno : ∀ j, j < a0 + 3 → ¬ (v.ownBlock = some j ∨ j = a0 + 3) := by
    rintro j hj (e | e)
    · have := hb j e; omega
    · omega
  have hc3 : Chg (fun j => j = a0 + 3) w' (w'.setCell ⟨a0 + 3, 0, none⟩ v') := (Chg.refl (fun j => j = a0 + 3) _).setCell (p := ⟨a0 + 3, 0, none⟩) (fun _ => rfl) _
  refine ⟨h.gp.chg hc (fun j hj e => hgF j e hj) (hno 0 (by omega)), ⟨Chg.trans h.rch.chg hc fun i hi e => ?_, fun j hj => h.rch.new j hj⟩, h.bp.chg hc (hno _ (by omega)), h.b1.chg hc (hno _ (by omega)), h.b2.chg hc (hno _ (by omega)), ?_, ?_, fun g hg e => ?_, h.nf, h.sz⟩
  · have := h.sz
    exact absurd e (hno i (by omega))
  · have := (h.b3.chg ha.chg (fun e => by have := hb _ e; omega)).put 0 v'
    simpa using this
  · have e : (l ++ [i]).length = l.length + 1 := by simp
    rw [e]
    have := own_chg ho hc3 fun g hg e => by have := (ho.lt g hg).1; omega
    simpa [nv] using this
  · rcases ha.at_ g hg with e2 | e2
    · exact h.rn g e2 e
    · have := h.gp.lt g e; omega
/-- The end: the results are stored. -/
theorem PutW.out (h : PutW w wr a0 p F F' x l v) : GPTo w wr p F x := ⟨F', h.gp, h.rch.chg, h.rch.new⟩
theorem PutW.fin (h : PutW w wr a0 p F F' x l v) (hg : Grew wr w') (u1 u2 : Value) : GPTo w ((w'.setCell ⟨a0 + 1, 0, none⟩ u1).setCell ⟨a0 + 2, 0, none⟩ u2) p F x := by
  have hc : Chg (fun j => j = a0 + 1 ∨ j = a0 + 2) w' ((w'.setCell ⟨a0 + 1, 0, none⟩ u1).setCell ⟨a0 + 2, 0, none⟩ u2) := ((Chg.refl (fun j => j = a0 + 1 ∨ j = a0 + 2) _).setCell (p := ⟨a0 + 1, 0, none⟩) (fun _ => .inl rfl) _).setCell (p := ⟨a0 + 2, 0, none⟩) (fun _ => .inr rfl) _
  have h2 := h.grew hg
  have hsz := h.sz
  refine ⟨F', h2.gp.chg hc (fun j hj e => ?_) (by omega), Chg.trans h2.rch.chg hc fun i hi e => by omega, h2.rch.new⟩
  rcases e with rfl | rfl
  · exact h.nf _ (by omega) (by omega) hj
  · exact h.nf _ (by omega) (by omega) hj
end

end Go.Proofs.YtjkkoogfaibhiaaGreatDoor

/- The chain: Put: the words of its second loop. -/
namespace Go.Proofs.YtjkkoogfaibhiaaGreatDoor
open Go.RowKit Go.Maps

/-- The second loop's state: the pages z, the first k of l written, the counter's box at kb with kk, the loop's record at L, its marks at D; all of it below m. -/
structure PutR (w W : World) (a0 p : Nat) (F : Nat → Prop) (y : Rp) (l : List Nat) (v : Value) (bs : List Int) (g off c n kb m D L : Nat) (r : Loop) (k kk : Nat) (st : LoopState) (pe : Option Code) (z : Rp) (F2 : Nat → Prop) : Prop where
  pw : PutW w W a0 p F F2 z l v
  wr : Wrote y z l bs k
  bk : Blk W kb 3 #[.int .i64 kk]
  ci : ChunkIn W (kb + 1) (kb + 2) (some ⟨g, off, none⟩) bs.length c n
  df : Dfr W D
  rc : Rec W L (Loop.at_ r st pe)
  nf : ∀ j, kb ≤ j → j < m → ¬ F2 j
  lt : kb + 2 < m ∧ D < m ∧ L < m ∧ kb + 2 < D ∧ kb + 2 < L ∧ D ≠ L ∧ m ≤ W.heap.size ∧ a0 + 4 ≤ kb ∧ ∀ g, v.ownBlock = some g → g < kb
section
variable {w W W' : World} {a0 p : Nat} {F F2 : Nat → Prop} {y z z' : Rp} {l : List Nat} {v : Value} {bs : List Int} {g off c n kb m D L k kk k' : Nat} {r : Loop} {st st' : LoopState} {pe pe' : Option Code}
/-- What is far from the pages and the boxes turns. -/
theorem PutW.far {G : Nat → Prop} {x : Rp} {F' : Nat → Prop} (h : PutW w W a0 p F F' x l v) (hc : Chg G W W') (h1 : ∀ j, F' j → ¬ G j) (h2 : ∀ j, j < a0 + 4 → ¬ G j) (h3 : ∀ g, v.ownBlock = some g → ¬ G g) : PutW w W' a0 p F F' x l v :=
  ⟨h.gp.chg hc h1 (h2 0 (by omega)), ⟨Chg.trans h.rch.chg hc fun i hi e => absurd e (h2 i (by have := h.sz; omega)), h.rch.new⟩, h.bp.chg hc (h2 _ (by omega)), h.b1.chg hc (h2 _ (by omega)), h.b2.chg hc (h2 _ (by omega)), h.b3.chg hc (h2 _ (by omega)), own_chg h.row hc h3, h.rn, h.nf, h.sz⟩
theorem PutR.kept (h : PutR w W a0 p F y l v bs g off c n kb m D L r k kk st pe z F2) (hk : Kept L W W') (hR : Rec W' L (Loop.at_ r st' pe')) : PutR w W' a0 p F y l v bs g off c n kb m D L r k kk st' pe' z F2 := by
  obtain ⟨l1, l2, l3, l4, l5, l6, l7, l8, l9⟩ := h.lt
  refine ⟨h.pw.far hk.chg (fun j hj e => h.nf j (by omega) (by omega) hj) (fun j hj e => by omega) (fun g hg e => by have := l9 g hg; omega), h.wr, h.bk.kept hk, ⟨h.ci.b1.kept hk, h.ci.b2.kept hk⟩, h.df.kept hk l6, hR, h.nf, ?_⟩
  have := hk.chg.size
  exact ⟨l1, l2, l3, l4, l5, l6, by omega, l8, l9⟩
theorem PutR.grew (h : PutR w W a0 p F y l v bs g off c n kb m D L r k kk st pe z F2) (hg : Grew W W') : PutR w W' a0 p F y l v bs g off c n kb m D L r k kk st pe z F2 := by
  obtain ⟨l1, l2, l3, l4, l5, l6, l7, l8, l9⟩ := h.lt
  have := hg.size
  exact ⟨h.pw.grew hg, h.wr, h.bk.grew hg, ⟨h.ci.b1.grew hg, h.ci.b2.grew hg⟩, h.df.grew hg, h.rc.grew hg, h.nf, ⟨l1, l2, l3, l4, l5, l6, by omega, l8, l9⟩⟩
theorem PutR.step (h : PutR w W a0 p F y l v bs g off c n kb m D L r k kk st pe z F2) (hs : GPTo W W' p F2 z') (hw : Wrote y z' l bs k') : ∃ F3, PutR w W' a0 p F y l v bs g off c n kb m D L r k' kk st pe z' F3 := by
  obtain ⟨l1, l2, l3, l4, l5, l6, l7, l8, l9⟩ := h.lt
  obtain ⟨F3, k1, k2, k3⟩ := hs
  have hlt := h.pw.b3.lt
  have hsz := k2.size
  have hno : ∀ j, kb ≤ j → j < m → ¬ F3 j := fun j hj1 hj2 e => by
    rcases k3 j e with e | e
    · exact h.nf j hj1 hj2 e
    · omega
  refine ⟨F3, ⟨k1, h.pw.rch.trans ⟨k2, k3⟩, h.pw.bp.chg k2 (h.pw.nf _ (by omega) (by omega)), h.pw.b1.chg k2 (h.pw.nf _ (by omega) (by omega)), h.pw.b2.chg k2 (h.pw.nf _ (by omega) (by omega)), h.pw.b3.chg k2 (h.pw.nf _ (by omega) (by omega)), own_chg h.pw.row k2 fun g hg => h.pw.rn g hg, fun g hg e => ?_, fun j h1 h2 e => ?_, h.pw.sz⟩,
    hw, h.bk.chg k2 (h.nf _ (by omega) (by omega)), ⟨h.ci.b1.chg k2 (h.nf _ (by omega) (by omega)), h.ci.b2.chg k2 (h.nf _ (by omega) (by omega))⟩, h.df.chg k2 (h.nf _ (by omega) (by omega)), h.rc.chg k2 (h.nf _ (by omega) (by omega)), hno, ⟨l1, l2, l3, l4, l5, l6, by omega, l8, l9⟩⟩
  · rcases k3 g e with e | e
    · exact h.pw.rn g hg e
    · have := (h.pw.row.lt g hg).2; omega
  · rcases k3 j e with e | e
    · exact h.pw.nf j h1 h2 e
    · omega
theorem PutR.next (h : PutR w W a0 p F y l v bs g off c n kb m D L r k kk st pe z F2) (k' : Nat) : PutR w (W.setCell ⟨kb, 0, none⟩ (.int .i64 k')) a0 p F y l v bs g off c n kb m D L r k k' st pe z F2 := by
  obtain ⟨l1, l2, l3, l4, l5, l6, l7, l8, l9⟩ := h.lt
  have hc : Chg (fun j => j = kb) W (W.setCell ⟨kb, 0, none⟩ (.int .i64 k')) := (Chg.refl (fun j => j = kb) _).setCell (p := ⟨kb, 0, none⟩) (fun _ => rfl) _
  refine ⟨h.pw.far hc (fun j hj e => h.nf j (by omega) (by omega) hj) (fun j hj e => by omega) (fun g hg e => by have := l9 g hg; omega), h.wr, ?_, ⟨h.ci.b1.chg hc (by omega), h.ci.b2.chg hc (by omega)⟩, h.df.chg hc (by omega), h.rc.chg hc (by omega), h.nf, ⟨l1, l2, l3, l4, l5, l6, by simpa [World.setCell] using l7, l8, l9⟩⟩
  have := h.bk.put 0 (.int .i64 k')
  simpa using this
/-- A failed Put: what is left. -/
structure PutX (w W : World) (a0 p : Nat) (F : Nat → Prop) (x z : Rp) (m D L : Nat) (r : Loop) (st : LoopState) (pe : Option Code) : Prop where
  gto : GPTo w W p F z
  b1 : Blk W (a0 + 1) 3 #[.int .i64 0]
  b2 : Blk W (a0 + 2) 31 #[.int .i64 21]
  df : Dfr W D
  rc : Rec W L (Loop.at_ r st pe)
  nf : ∃ F', GP W p F' z ∧ Chg F w W ∧ (∀ j, F' j → F j ∨ w.heap.size ≤ j) ∧ ¬ F' L ∧ ¬ F' D
  lt : w.heap.size ≤ L ∧ w.heap.size ≤ D ∧ D ≠ L ∧ 0 < L ∧ 0 < D
theorem PutX.mk' {x : Rp} (h : PutR w W a0 p F y l v bs g off c n kb m D L r k kk st pe z F2) (hc : x.like z) : PutX w ((W.setCell ⟨a0 + 1, 0, none⟩ (.int .i64 0)).setCell ⟨a0 + 2, 0, none⟩ (.int .i64 21)) a0 p F x z m D L r st pe := by
  obtain ⟨l1, l2, l3, l4, l5, l6, l7, l8, l9⟩ := h.lt
  have hcg : Chg (fun j => j = a0 + 1 ∨ j = a0 + 2) W ((W.setCell ⟨a0 + 1, 0, none⟩ (.int .i64 0)).setCell ⟨a0 + 2, 0, none⟩ (.int .i64 21)) := ((Chg.refl (fun j => j = a0 + 1 ∨ j = a0 + 2) _).setCell (p := ⟨a0 + 1, 0, none⟩) (fun _ => .inl rfl) _).setCell (p := ⟨a0 + 2, 0, none⟩) (fun _ => .inr rfl) _
  have hsz := h.pw.sz
  have hgp : GP ((W.setCell ⟨a0 + 1, 0, none⟩ (.int .i64 0)).setCell ⟨a0 + 2, 0, none⟩ (.int .i64 21)) p F2 z := h.pw.gp.chg hcg (fun j hj e => by rcases e with rfl | rfl <;> exact h.pw.nf _ (by omega) (by omega) hj) (by omega)
  have hch : Chg F w ((W.setCell ⟨a0 + 1, 0, none⟩ (.int .i64 0)).setCell ⟨a0 + 2, 0, none⟩ (.int .i64 21)) := Chg.trans h.pw.rch.chg hcg fun i hi e => by omega
  refine ⟨h.pw.fin (Chg.refl _ _) _ _, ?_, ?_, h.df.chg hcg (by omega), h.rc.chg hcg (by omega), ⟨F2, hgp, hch, h.pw.rch.new, h.nf L (by omega) (by omega), h.nf D (by omega) (by omega)⟩, by omega⟩
  · have := (h.pw.b1.put 0 (.int .i64 0)).far (p := ⟨a0 + 2, 0, none⟩) (by simp) (.int .i64 21)
    simpa using this
  · have := (h.pw.b2.far (p := ⟨a0 + 1, 0, none⟩) (by simp) (.int .i64 0)).put 0 (.int .i64 21)
    simpa using this
theorem PutX.kept {x : Rp} (h : PutX w W a0 p F x z m D L r st pe) (hk : Kept L W W') (hR : Rec W' L (Loop.at_ r st' pe')) : PutX w W' a0 p F x z m D L r st' pe' := by
  obtain ⟨l1, l2, l3, l4, l5⟩ := h.lt
  obtain ⟨F', n1, n2, n3, n4, n5⟩ := h.nf
  have hgp : GP W' p F' z := n1.chg hk.chg (fun j hj e => n4 (e ▸ hj)) (by omega)
  have hch : Chg F w W' := n2.kept hk l1
  exact ⟨⟨F', hgp, hch, n3⟩, h.b1.kept hk, h.b2.kept hk, h.df.kept hk l3, hR, ⟨F', hgp, hch, n3, n4, n5⟩, h.lt⟩
theorem PutX.offL {x : Rp} (h : PutX w W a0 p F x z m D L r st pe) (hk : Kept L W W') : Dfr W' D ∧ Blk W' (a0 + 1) 3 #[.int .i64 0] ∧ Blk W' (a0 + 2) 31 #[.int .i64 21] ∧ ∀ W2, Kept D W' W2 → GPTo w W2 p F z := by
  obtain ⟨l1, l2, l3, l4, l5⟩ := h.lt
  obtain ⟨F', n1, n2, n3, n4, n5⟩ := h.nf
  have hgp : GP W' p F' z := n1.chg hk.chg (fun j hj e => n4 (e ▸ hj)) (by omega)
  exact ⟨h.df.kept hk l3, h.b1.kept hk, h.b2.kept hk, fun W2 hk2 => ⟨F', hgp.chg hk2.chg (fun j hj e => n5 (e ▸ hj)) (by omega), (n2.kept hk l1).kept hk2 l2, n3⟩⟩
theorem PutW.fin2 {x : Rp} {F' : Nat → Prop} (h : PutW w W a0 p F F' x l v) (u1 u2 : Value) (hD : a0 + 4 ≤ D) (hn : ¬ F' D) (hk : Kept D ((W.setCell ⟨a0 + 1, 0, none⟩ u1).setCell ⟨a0 + 2, 0, none⟩ u2) W') : GPTo w W' p F x := by
  have hc : Chg (fun j => j = a0 + 1 ∨ j = a0 + 2) W ((W.setCell ⟨a0 + 1, 0, none⟩ u1).setCell ⟨a0 + 2, 0, none⟩ u2) := ((Chg.refl (fun j => j = a0 + 1 ∨ j = a0 + 2) _).setCell (p := ⟨a0 + 1, 0, none⟩) (fun _ => .inl rfl) _).setCell (p := ⟨a0 + 2, 0, none⟩) (fun _ => .inr rfl) _
  have hsz := h.sz
  refine ⟨F', (h.gp.chg hc (fun j hj e => ?_) (by omega)).chg hk.chg (fun j hj e => hn (e ▸ hj)) (by omega), (Chg.trans h.rch.chg hc fun i hi e => by omega).kept hk (by omega), h.rch.new⟩
  rcases e with rfl | rfl
  · exact h.nf _ (by omega) (by omega) hj
  · exact h.nf _ (by omega) (by omega) hj
/-- What a round reads. -/
theorem PutR.cells {A : Option Addr} {cc rg i : Nat} (h : PutR w W a0 p F y l (.slice A l.length cc) bs g off c n kb m D L r k kk st pe z F2) (hA : A = some ⟨rg, 0, none⟩) (hi : l[kk]? = some i) :
    W.cell? ⟨a0, 0, none⟩ = some (.pointer (some ⟨p, 0, none⟩)) ∧ W.cell? ⟨a0 + 1 + 1 + 1, 0, none⟩ = some (.slice (some ⟨rg, 0, none⟩) l.length cc) ∧ W.cell? ⟨kb, 0, none⟩ = some (.int .i64 kk) ∧ W.cell? ⟨rg, kk, none⟩ = some (.int .i64 i) := by
  subst hA
  refine ⟨h.pw.bp.cell 0, h.pw.b3.cell 0, h.bk.cell 0, ?_⟩
  have := h.pw.row.cells (g := rg) rfl kk (.int .i64 i) (by simp [nv, hi])
  rwa [Addr.add_lit, Nat.zero_add] at this
theorem PutR.offL (h : PutR w W a0 p F y l v bs g off c n kb m D L r k kk st pe z F2) (hk : Kept L W W') : PutW w W' a0 p F F2 z l v ∧ Dfr W' D := by
  obtain ⟨l1, l2, l3, l4, l5, l6, l7, l8, l9⟩ := h.lt
  exact ⟨h.pw.far hk.chg (fun j hj e => h.nf j (by omega) (by omega) hj) (fun j hj e => by omega) (fun g hg e => by have := l9 g hg; omega), h.df.kept hk l6⟩
/-- The end: the marks are taken off. -/
theorem PutR.end_ (h : PutR w W a0 p F y l v bs g off c n kb m D L r k kk st pe z F2) (hk : Kept D W W') : PutW w W' a0 p F F2 z l v := by
  obtain ⟨l1, l2, l3, l4, l5, l6, l7, l8, l9⟩ := h.lt
  exact h.pw.far hk.chg (fun j hj e => h.nf j (by omega) (by omega) hj) (fun j hj e => by omega) (fun g hg e => by have := l9 g hg; omega)
end

end Go.Proofs.YtjkkoogfaibhiaaGreatDoor

/- A drawn region of a round, walked as one outside of it: one way, with what is held (program-free). -/
namespace Go.Proofs.YtjkkoogfaibhiaaGreatDoor
open Go.RowKit

section
variable {P : Program} {n L : Nat} {ops : Array Oper} {Q : Exit → Act → World → Prop} {md : Region.Mode} {S : World → Prop}

theorem rowsIn_wide {n : Nat} {row : String} {args : Array Value} {w : World} {R : Value → World → Prop} (h : Rows P row args w R) : RowsIn Fence.wide n P row args w R :=
  fun c cs _ => let ⟨v, w', r, s⟩ := h c cs; ⟨v, w', r, stepsIn_wide.2 s⟩

theorem wpIn_of_wp {o : Oper} {a : Act} {w : World} {K : Act → World → Prop} (h : o.wp P a w K Q) : o.wpIn Fence.wide n P a w K Q := by
  unfold Oper.wp at h
  unfold Oper.wpIn
  refine ⟨fun f hf => trivial, ?_⟩
  rw [show (Fence.wide).round = none from rfl, Oper.semAt_none]
  generalize (execOp a.eval o).run P w = r at h ⊢
  cases r with
  | ok x w' =>
    cases x <;> simp only [Oper.upon, Oper.uponIn] at h ⊢
    all_goals first
      | exact h
      | exact ⟨fun hd => (by cases hd), callsIn_wide.2 h⟩
      | exact ⟨fun hd => (by cases hd), rowsIn_wide h⟩
      | exact h.elim
  | halt x w' => cases x <;> exact h

theorem wpOpIn_of_wpOp (hO : ∀ a w, Q .outgrown a w → False) {i : Nat} {a : Act} {w : World} {K : Act → World → Prop} (h : wpOp P ops Q i K a w) : wpOpIn Fence.wide n P ops Q i K a w := by
  unfold wpOp at h
  unfold wpOpIn
  cases ho : ops[i]? with
  | none => simpa [ho] using h
  | some o =>
    simp only [ho] at h ⊢
    split
    · rename_i hw
      simp only [hw, if_true] at h
      rcases h with h | ⟨_, a', w', h⟩
      · exact wpIn_of_wp h
      · exact (hO _ _ h).elim
    · rename_i hw
      simp only [hw] at h
      exact ⟨fun f hf => trivial, h⟩

theorem wpAnyIn_of_any (hO : ∀ a w, Q .outgrown a w → False) : ∀ (fuel : Nat) (listed : Array Bool) (a : Act) (w : World), wpAny P md ops Q fuel listed a w → wpAnyIn Fence.wide n P md ops Q fuel listed a w
  | 0, _, _, _, h => h
  | fuel + 1, _, _, _, h => ⟨h.1, fun i hi => wpOpIn_mono (fun a w => wpAnyIn_of_any hO fuel _ a w) (wpOpIn_of_wpOp hO (h.2 i hi))⟩

/-- A drawn region of a round that holds S. -/
theorem wpIn_region_held_round {id : Nat} {a : Act} {w : World} (hO : ∀ a w, Q .outgrown a w → False) (hm : P.follows .mixedOrders = true) (hnd : noDefer ops = true) (hS : S w.drew)
    (h : S w.drew → wpAnyH P .any ops Q S ops.size (Array.replicate ops.size false) a w.drew) : (Code.region id ops true).wpIn (Fence.wide.inRound L) n P Q a w :=
  wpIn_region_any hm (wpAnyIn_inRound hnd _ _ _ _ (wpAnyIn_of_any hO _ _ _ _ (wpAny_of_held _ _ _ _ (h hS))))
/-- .. and one of a fenced call. -/
theorem wpIn_region_held_wide {id : Nat} {a : Act} {w : World} (hO : ∀ a w, Q .outgrown a w → False) (hm : P.follows .mixedOrders = true) (hS : S w.drew)
    (h : S w.drew → wpAnyH P .any ops Q S ops.size (Array.replicate ops.size false) a w.drew) : (Code.region id ops true).wpIn Fence.wide n P Q a w :=
  wpIn_region_any hm (wpAnyIn_of_any hO _ _ _ _ (wpAny_of_held _ _ _ _ (h hS)))
end

end Go.Proofs.YtjkkoogfaibhiaaGreatDoor

/- The chain: Put, walked. -/
namespace Go.Proofs.YtjkkoogfaibhiaaGreatDoor
open Go.RowKit Go.Maps
attribute [local go_sem] Oper.semAt_some

theorem need_parts {len sz : Nat} (h1 : 1 ≤ len) (h2 : len ≤ 16384) (h3 : 64 ≤ sz) : needI len sz = (partsN len (sz - 5) : Nat) := by
  unfold needI partsN
  rw [if_neg (by omega)]
  rw [show (len : Int) - 1 = ((len - 1 : Nat) : Int) by omega, show (sz : Int) - 5 = ((sz - 5 : Nat) : Int) by omega, ← Int.natCast_ediv]
  omega
theorem Wrote.done' {x y z : Rp} {l : List Nat} {bs : List Int} {K : Nat} (k : Wrote y z l bs K) (h : Took x y l) (hK : l.length = K) (hl : l.length = partsN bs.length (x.sz - 5)) : PutRel x z l bs := by
  subst hK
  exact k.done h hl
/-- What Put leaves. -/
def PutOut (w w' : World) (p : Nat) (F : Nat → Prop) (x : Rp) (bs : List Int) (e : Ending) : Prop :=
  (∃ (i0 : Nat) (l : List Nat) (y : Rp), e = .returned (.tuple #[.int .i64 i0, .int .i64 0]) ∧ l[0]? = some i0 ∧ GPTo w w' p F y ∧ PutRel x y l bs) ∨
  (∃ y : Rp, e = .returned (.tuple #[.int .i64 0, .int .i64 21]) ∧ GPTo w w' p F y ∧ x.like y ∧ ¬ x.enough (partsN bs.length (x.sz - 5)))

theorem PutW.keep3 {w wr w' : World} {a0 p : Nat} {F F' : Nat → Prop} {x : Rp} {l : List Nat} {v v' : Value} (h : PutW w wr a0 p F F' x l v) (ha : Ap wr w' v v') : Blk w' (a0 + 3) 39 #[v] := h.b3.chg ha.chg fun e => by have := (h.row.lt _ e).1; omega
theorem no_mem (l : List Pk) (h : l.countP Pk.used < l.length) : Pk.no ∈ l := by
  induction l with
  | nil => simp at h
  | cons c t ih =>
    by_cases hc : c = .no
    · subst hc; exact List.mem_cons_self
    · have hu : c.used = true := by cases c <;> simp_all [Pk.used]
      rw [List.countP_cons, List.length_cons, hu] at h
      exact List.mem_cons_of_mem _ (ih (by simp at h; omega))
/-- Between two rounds of the first loop. -/
def PutA (w wr : World) (a0 p : Nat) (F : Nat → Prop) (x : Rp) (k : Nat) : Prop := ∃ F' y l v, PutW w wr a0 p F F' y l v ∧ Took x y l ∧ l.length = k

set_option maxRecDepth 100000 in
set_option maxHeartbeats 6400000 in
theorem cput_any (p : Nat) (F : Nat → Prop) (x : Rp) (bs : List Int) (g off c : Nat) (w : World) (h : GP w p F x) (ho : x.was ≠ none) (hb1 : 1 ≤ bs.length) (hb2 : bs.length ≤ 16384) (hby : ∀ q ∈ bs, 0 ≤ q ∧ q ≤ 255) (hc : bs.length ≤ c)
    (hs : Sl w 1 (some ⟨g, off, none⟩) bs.length (bv bs)) (hgF : ¬ F g) :
    Calls Tryz.prog 27 #[.pointer (some ⟨p, 0, none⟩), .slice (some ⟨g, off, none⟩) bs.length c] w fun e w' => PutOut w w' p F x bs e := by
  have hsz := h.szs
  have t1 : decide ((bs.length : Int) < 1) = false := decide_eq_false (by omega)
  have t2 : decide ((16384 : Int) < (bs.length : Int)) = false := decide_eq_false (by omega)
  obtain ⟨a0, ha0⟩ : ∃ a0, w.heap.size = a0 := ⟨_, rfl⟩
  obtain ⟨W4, hW4⟩ : ∃ W, (((w.alloc (.cells #[.pointer (some ⟨p, 0, none⟩)] 23)).alloc (.cells #[.int .i64 0] 3)).alloc (.cells #[.int .i64 0] 31)).alloc (.cells #[.slice none 0 0] 39) = W := ⟨_, rfl⟩
  have HW4 := Lib.hid hW4
  obtain ⟨n, hn⟩ : ∃ n, x.sz - 5 = n := ⟨_, rfl⟩
  obtain ⟨len, hlen⟩ : ∃ len, bs.length = len := ⟨_, rfl⟩
  obtain ⟨K, hK⟩ : ∃ K, partsN len n = K := ⟨_, rfl⟩
  have HP0 := Lib.hid (show PutW w W4 a0 p F F x [] (.slice none 0 0) from by
    subst hW4 ha0
    have hg : Grew w ((((w.alloc (.cells #[.pointer (some ⟨p, 0, none⟩)] 23)).alloc (.cells #[.int .i64 0] 3)).alloc (.cells #[.int .i64 0] 31)).alloc (.cells #[.slice none 0 0] 39)) := ((((Chg.refl _ _).alloc _).alloc _).alloc _).alloc _
    refine ⟨h.grew hg, Rch.grew hg, ?_, ?_, ?_, ?_, World.ownsRow_nil _ _ _ _, fun g hg => by simp [Value.ownBlock] at hg, fun j h1 h2 e => by have := h.lt j e; omega, rfl⟩
    · exact (((Blk.new w _ _).alloc _).alloc _).alloc _
    · have := ((Blk.new (w.alloc (.cells #[.pointer (some ⟨p, 0, none⟩)] 23)) 3 #[.int .i64 0]).alloc (.cells #[.int .i64 0] 31)).alloc (.cells #[.slice none 0 0] 39)
      simpa using this
    · have := (Blk.new ((w.alloc (.cells #[.pointer (some ⟨p, 0, none⟩)] 23)).alloc (.cells #[.int .i64 0] 3)) 31 #[.int .i64 0]).alloc (.cells #[.slice none 0 0] 39)
      simpa using this
    · have := Blk.new (((w.alloc (.cells #[.pointer (some ⟨p, 0, none⟩)] 23)).alloc (.cells #[.int .i64 0] 3)).alloc (.cells #[.int .i64 0] 31)) 39 #[.slice none 0 0]
      simpa using this)
  have hKp : 1 ≤ K := by rw [← hK]; exact Nat.succ_le_succ (Nat.zero_le _)
  have hK2 : K ≤ 16384 := by rw [← hK]; unfold partsN; have := Nat.div_le_self (len - 1) n; omega
  have HX := Lib.hid (And.intro ho (And.intro hby (And.intro hs (And.intro hgF (And.intro ha0 (And.intro hn (And.intro hlen hK)))))))
  obtain ⟨c0, f0, s0⟩ := HP0.out.bp.facts
  have hneed : ∀ u, Calls Tryz.prog 58 #[.int .i64 len, .int .i64 x.sz] u fun e w' => e = .returned (.int .i64 K) ∧ u = w' := fun u => by
    have := need_any len x.sz u (by omega) (by omega)
    rw [need_parts (by omega) (by omega) (by omega), hn, hK] at this
    exact this
  have HN := Lib.hid hneed
  rw [hlen] at t1 t2 hb1 hb2 hc ⊢
  clear h ho hby hs hgF hW4 hn hK hneed
  (refine calls_of_marks Tryz.func27 rfl ?_; simp only [Tryz.ntmps27, List.size_toArray, List.length_cons, List.length_nil, Nat.reduceAdd, Nat.reduceSub, Array.replicate_succ, Array.replicate_zero, List.push_toArray, List.append_toArray, List.nil_append, List.cons_append])
  go_wp2_with (first
    | (rw [HW4.out])
    | (rw [ha0])
    | (go_at_call 26; (refine (gp_size p F x W4 HP0.out.gp).mono ?_); rintro e w1 ⟨rfl, rfl⟩)
    | (go_at_call 58; (refine (HN.out _).mono ?_); rintro e w1 ⟨rfl, rfl⟩))
  clear c0 f0 s0
  go_loopw [26] (fun q wr => ∃ k : Nat, k ≤ K ∧ q = .int .i64 k ∧ PutA w wr a0 p F x k) (fun q _ => K - (intOf q).toNat)
  case atStart => exact ⟨0, Nat.zero_le _, rfl, F, x, [], _, HP0.out, Took.refl x, rfl⟩
  case round =>
    obtain ⟨k, hk, rfl, F', y, l, v, hP, hT, hlk⟩ := hrel
    have HP := Lib.hid (And.intro hP (And.intro hT hlk))
    obtain ⟨c0, f0, s0⟩ := hP.bp.facts
    have hll : l.length ≤ 20000 := by omega
    clear hP hT hlk
    by_cases hlt : k < K
    · have u1 : (k : Int) < (K : Int) := by omega
      go_wp2_with fail
      refine (gp_alloc_any p F' y _ HP.out.1.gp (by rw [HP.out.2.1.like.was]; exact HX.out.1)).mono ?_
      rintro e w3 (⟨i, h1, h2, rfl, h3⟩ | ⟨hn3, rfl, hg3⟩)
      · obtain ⟨F2, hP2⟩ := HP.out.1.step h3
        have HP2 := Lib.hid (And.intro hP2 (HP.out.2.1.more HX.out.1 h1))
        obtain ⟨c1, f1, s1⟩ := hP2.b3.facts
        clear h1 h2 h3 hP2 c0 f0 s0
        go_wp2_with (at_builtin; (refine app_int rfl (.tmp 36) (.tmp 38) rfl (a0 + 4) v l.length (nv l) rfl HP2.out.1.row i rfl (by omega) (by have := HP2.out.1.b3.lt; omega) ?_); intro v' w' ho' ha'; obtain ⟨A', c', rfl, -⟩ := own_shape ho'; obtain ⟨c2, f2, s2⟩ := (HP2.out.1.keep3 ha').facts; have HO := Lib.hid (And.intro ho' ha'); clear ho' ha' c1 f1 s1)
        exact ⟨⟨k + 1, by omega, by simp, F2, _, l ++ [i], _, HP2.out.1.push HO.out.2 HO.out.1, HP2.out.2, by simp [HP.out.2.2]⟩, by simp [intOf]; omega⟩
      · have HPf := Lib.hid (HP.out.1.grew hg3)
        have HF := Lib.hid (And.intro hn3 hg3)
        obtain ⟨c1, f1, s1⟩ := HPf.out.b1.facts
        obtain ⟨c2, f2, s2⟩ := HPf.out.b2.facts
        clear hn3 hg3 c0 f0 s0
        go_wp2_with fail
        refine postM_ret0 (v := .tuple #[.int .i64 0, .int .i64 21]) ?_ rfl ?_
        · simp [results, Tryz.results27, go_sem, c1, f1, s1, c2, f2, s2]
        · refine .inr ⟨y, rfl, ?_, HP.out.2.1.like, fun he => HF.out.1 ?_⟩
          · exact HPf.out.fin (Chg.refl _ _) _ _
          · have h5 := HP.out.2.1
            have h6 := h5.used
            have h7 := h5.like.len
            have h8 := HP.out.2.2
            have h9 := he
            rw [HX.out.2.2.2.2.2.1, HX.out.2.2.2.2.2.2.1, HX.out.2.2.2.2.2.2.2] at h9
            exact ⟨by rw [h5.slack]; have := h9.1; omega, no_mem _ (by have := h9.2; omega)⟩
    · obtain rfl : K = k := by omega
      go_wp2_with fail
      have hysz : y.sz = x.sz := HP.out.2.1.like.sz
      have en : (x.sz : Int) - 5 = (n : Int) := by have := HX.out.2.2.2.2.2.1; omega
      have hps := gp_size p F' y _ (HP.out.1.gp.grew ((Chg.refl _ _).alloc (.cells #[.int .i64 0] 3)))
      rw [hysz] at hps
      refine hps.mono ?_
      clear hps hysz
      rintro e w1 ⟨rfl, rfl⟩
      obtain ⟨W5, hW5⟩ : ∃ W, wr.alloc (.cells #[.int .i64 0] 3) = W := ⟨_, rfl⟩
      obtain ⟨kb, hkb⟩ : ∃ q, wr.heap.size = q := ⟨_, rfl⟩
      have hz5 : W5.heap.size = kb + 1 := by rw [← hW5, ← hkb]; simp
      obtain ⟨W6, hW6⟩ : ∃ W, (W5.alloc (.cells #[.slice (some ⟨g, off, none⟩) len c] 34)).alloc (.cells #[.int .i64 n] 3) = W := ⟨_, rfl⟩
      have hn1 : 1 ≤ n := by have := HX.out.2.2.2.2.2.1; omega
      go_wp2_with fail
      have hch := chunk_any (some ⟨g, off, none⟩) len c n W5 W6 hn1 hW6
      rw [hz5] at hch
      refine hch.mono ?_
      clear hch
      rintro e w1 ⟨rfl, rfl⟩
      have HW := Lib.hid (And.intro hW5 (And.intro hkb (And.intro hW6 hz5)))
      clear hW5 hkb hW6 hz5 c0 f0 s0
      go_wp2_with fail
      have hl1 : 1 ≤ l.length := by have := HP.out.2.2; omega
      obtain ⟨A, cv, rfl, -⟩ := own_shape HP.out.1.row
      obtain ⟨rg, rfl, hrg⟩ := own_block HP.out.1.row (by omega)
      obtain ⟨hW5, hkb, hW6, hz5⟩ := HW.out
      have hz6 : W6.heap.size = kb + 3 := by rw [← hW6]; simp [hz5]
      have hbk6 : Blk W6 kb 3 #[.int .i64 0] := by
        rw [← hW6, ← hW5, ← hkb]
        exact ((Blk.new wr 3 #[.int .i64 0]).alloc _).alloc _
      have hb16 : Blk W6 (kb + 1) 34 #[.slice (some ⟨g, off, none⟩) len c] := by
        rw [← hW6, ← hz5]
        exact (Blk.new W5 _ _).alloc _
      have hb26 : Blk W6 (kb + 2) 3 #[.int .i64 n] := by
        rw [← hW6]
        have := Blk.new (W5.alloc (.cells #[.slice (some ⟨g, off, none⟩) len c] 34)) 3 #[.int .i64 n]
        simpa [hz5] using this
      have hg6 : Grew wr W6 := by rw [← hW6, ← hW5]; exact (((Chg.refl _ _).alloc _).alloc _).alloc _
      have hkb4 : a0 + 4 ≤ kb := by have := HP.out.1.b3.lt; omega
      refine wp_range (gf := 91) (lb := #[.pointer (some ⟨kb + 1, 0, none⟩), .pointer (some ⟨kb + 1 + 1, 0, none⟩)]) rfl (enters_of Tryz.func91 (by kernel_rfl) rfl) ?_
      intro r Wr D L hr hg1 hDl hLl hD hR
      have HR1 := Lib.hid hr
      have hL2 := hR.lt
      have hD2 := hD.lt
      have hz7 := hg1.size
      have HJ0 := Lib.hid (show PutR w Wr a0 p F y l (.slice (some ⟨rg, 0, none⟩) l.length cv) bs g off c n kb Wr.heap.size D L r 0 0 .ready none y F' from
        ⟨(HP.out.1.grew hg6).grew hg1, HP.out.2.1.wrote bs, hbk6.grew hg1, ⟨by rw [hlen]; exact hb16.grew hg1, hb26.grew hg1⟩, hD, hR, fun j h1 h2 e => by have := HP.out.1.gp.lt j e; omega, ⟨by omega, hD2, hL2, by omega, by omega, Ne.symm (hR.ne_dfr hD), Nat.le_refl _, hkb4, fun g' hg' => by simp [Value.ownBlock] at hg'; omega⟩⟩)
      clear hr hg1 hD hR hbk6 hb16 hb26 hg6 hW5 hkb hW6 hz5
      refine (chunk_iter (kb + 1) (kb + 1 + 1) L g off len c n K
        (fun q W => ∃ z F2, PutR w W a0 p F y l (.slice (some ⟨rg, 0, none⟩) l.length cv) bs g off c n kb Wr.heap.size D L r q q .ready none z F2)
        (fun q W => ∃ z, PutX w W a0 p F x z Wr.heap.size D L r .done (some .ret) ∧ x.like z ∧ ¬ x.enough (partsN bs.length (x.sz - 5))) Wr hn1 (by omega) (by omega) hc (fun q => by rw [← HX.out.2.2.2.2.2.2.2]; exact parts_lt hb1 hn1 q)
        (fun q W ⟨z, F2, hJ⟩ => by have := hJ.ci; rw [hlen] at this; exact this) (fun q W j ⟨z, F2, hJ⟩ => ⟨z, F2, hJ.grew ((Chg.refl _ _).drewN j)⟩) (fun q i mm W hJ hi hil hm => ?yld) ⟨y, F', HJ0.out⟩).mono ?post
      case yld =>
        obtain ⟨z, F2, hJ⟩ := hJ
        have hqK : q < K := by rw [← HX.out.2.2.2.2.2.2.2]; exact (parts_lt hb1 hn1 q).1 (hi ▸ hil)
        obtain ⟨ik, hik⟩ : ∃ ik, l[q]? = some ik := ⟨_, List.getElem?_eq_getElem (by rw [HP.out.2.2]; exact hqK)⟩
        obtain ⟨P, hP⟩ : ∃ P, part n bs q = P := ⟨_, rfl⟩
        have hPl : mm = P.length := by rw [← hP, part_len, hlen, ← hi]; exact hm
        subst hPl
        have hP5 : P.length + 5 ≤ x.sz := by have h1 := Nat.min_le_left n (len - i); have := HX.out.2.2.2.2.2.1; omega
        have HIk := Lib.hid hik
        have HJ := Lib.hid hJ
        have HI := Lib.hid (And.intro hi hil)
        have HPp := Lib.hid hP
        have hzsz : z.sz = x.sz := hJ.wr.like.sz.trans HP.out.2.1.like.sz
        have HZs := Lib.hid hzsz
        have HIz := Lib.hid (show z.now[ik]? = some .zero from by have := hJ.wr.is q ik hik; simpa using this)
        have hik4 : ik < 4096 := by
          have h1 := (List.getElem?_eq_some_iff.1 HIz.out).1
          have h2 := hJ.wr.like.len
          have h3 := HP.out.2.1.like.len
          omega
        have HPe := Lib.hid (show part (y.sz - 5) bs q = P from by rw [HP.out.2.1.like.sz, HX.out.2.2.2.2.2.1]; exact hP)
        have hPb : ∀ q ∈ P, 0 ≤ q ∧ q ≤ 255 := hP ▸ part_byte HX.out.2.1
        have hle := hm
        clear hJ hik hP hi hm hle hzsz
        obtain ⟨hr1, hr2, hr3', hr4⟩ := HR1.out
        refine yield_wide HJ.out.rc (by rw [hr2]; rfl) ?_
        rw [hr1, hr2, hr3', hr4]
        clear hr1 hr2 hr3' hr4
        intro K0 hK0
        have HKK := Lib.hid hK0
        clear hK0
        gi_wp2
        refine HKK.out _ _ HJ.out.rc fun W5 Q hk3 hR2 hQ => ?_
        refine Code.wpIn_mono hQ ?_
        have HJ5 := Lib.hid (HJ.out.kept hk3 hR2)
        clear hk3 hR2 hQ Q
        have HSz := Lib.hid (fun u (hg : Grew W5 u) => by
          have := gp_size p F2 z u (HJ5.out.pw.gp.grew hg)
          rw [HZs.out] at this
          exact this)
        have HPa := Lib.hid (show Sl W5 1 (some ⟨g, off + i, none⟩) P.length (bv P) ∧ P.length + 5 ≤ x.sz ∧ ∀ q ∈ P, 0 ≤ q ∧ q ≤ 255 from ⟨by
          have hsl : Sl W5 1 (some ⟨g, off, none⟩) bs.length (bv bs) := HX.out.2.2.1.chg HJ5.out.pw.rch.chg (fun a ha => by injection ha with ha; rw [← ha]; exact HX.out.2.2.2.1)
          have hpl : P.length = min n (bs.length - i) := by rw [← HPp.out, part_len, HI.out.1]
          have hpd : P = (bs.drop i).take P.length := by
            rw [hpl]
            have h9 : part n bs q = (bs.drop i).take n := by unfold part; rw [← HI.out.1]
            rw [← HPp.out, h9]
            exact List.take_eq_take_iff.2 (by rw [List.length_drop]; omega)
          exact hsl.sub (i := i) (m := P.length) (by have := HI.out.2; omega) P hpd, hP5, hPb⟩)
        obtain ⟨c0, f0, s0⟩ := HJ5.out.pw.b3.facts
        obtain ⟨c1, f1, s1⟩ := HJ5.out.bk.facts
        have uq : q < l.length := by rw [HP.out.2.2]; exact hqK
        clear hP5 hPb
        by_cases hlast : q + 1 < l.length
        · obtain ⟨i2, hi2⟩ : ∃ i2, l[q + 1]? = some i2 := ⟨_, List.getElem?_eq_getElem hlast⟩
          have t5 : decide ((q : Int) < (l.length : Int) - 1) = true := decide_eq_true (by omega)
          have u3 : (q : Int) + 1 < (l.length : Int) := by omega
          obtain ⟨nx, hnx⟩ : ∃ nx : Nat, (i2 : Int) + 1 = (nx : Int) := ⟨i2 + 1, by simp⟩
          have hce : W5.cell? ⟨rg, q + 1, none⟩ = some (.int .i64 i2) := by
            have := HJ5.out.pw.row.cells (g := rg) rfl (q + 1) (.int .i64 i2) (by simp [nv, hi2])
            rwa [Addr.add_lit, Nat.zero_add] at this
          have HNe := Lib.hid (show nextOf l q = nx from by unfold nextOf; rw [hi2]; show i2 + 1 = nx; omega)
          have hi24 : i2 < 4096 := by
            have h0 := HJ5.out.wr.is (q + 1) i2 hi2
            have h1 := (List.getElem?_eq_some_iff.1 h0).1
            have h2 := HJ5.out.wr.like.len
            have h3 := HP.out.2.1.like.len
            omega
          have HNx := Lib.hid (show nx ≤ 65535 by omega)
          have hnx5 : nx ≤ 5000 := by omega
          clear hi2 hi24 hlast
          gi_wp2
          clear c0 f0 s0 c1 f1 s1 t5 u3 hce hnx
          obtain ⟨s1, s2, s3, s4⟩ := HJ5.out.cells rfl HIk.out
          have hS5 : (W5.drew).cell? ⟨a0, 0, none⟩ = some (.pointer (some ⟨p, 0, none⟩)) ∧ (W5.drew).cell? ⟨a0 + 1 + 1 + 1, 0, none⟩ = some (.slice (some ⟨rg, 0, none⟩) l.length cv) ∧ (W5.drew).cell? ⟨kb, 0, none⟩ = some (.int .i64 q) ∧ (W5.drew).cell? ⟨rg, q, none⟩ = some (.int .i64 ik) := ⟨s1, s2, s3, s4⟩
          clear s1 s2 s3 s4
          refine wpIn_region_held_round (S := fun w' => w'.cell? ⟨a0, 0, none⟩ = some (.pointer (some ⟨p, 0, none⟩)) ∧ w'.cell? ⟨a0 + 1 + 1 + 1, 0, none⟩ = some (.slice (some ⟨rg, 0, none⟩) l.length cv) ∧ w'.cell? ⟨kb, 0, none⟩ = some (.int .i64 q) ∧ w'.cell? ⟨rg, q, none⟩ = some (.int .i64 ik)) (fun _ _ h => h) (by kernel_rfl) (by kernel_rfl) hS5 (fun hHeld => ?_)
          refine wpAnyH_take (i := 0) (v := ?_) rfl (by kernel_rfl) (by kernel_rfl) (by kernel_rfl) (fun _ _ _ h => h) (Or.inl ⟨by rfl, ?_⟩) hHeld ?_
          rotate_left
          · (intro w hSw; (try dsimp only at hSw); go_simp) <;> with_reducible rfl
          (try simp only [Act.put, List.setIfInBounds_toArray, List.set_cons_zero, List.set_cons_succ, List.getElem_toArray, List.getElem_cons_zero, List.getElem_cons_succ])
          refine wpAnyH_take (i := 1) (v := ?_) rfl (by kernel_rfl) (by kernel_rfl) (by kernel_rfl) (fun _ _ _ h => h) (Or.inl ⟨by rfl, ?_⟩) hHeld ?_
          rotate_left
          · (intro w hSw; (try dsimp only at hSw); go_simp) <;> with_reducible rfl
          (try simp only [Act.put, List.setIfInBounds_toArray, List.set_cons_zero, List.set_cons_succ, List.getElem_toArray, List.getElem_cons_zero, List.getElem_cons_succ])
          refine wpAnyH_take (i := 2) (v := ?_) rfl (by kernel_rfl) (by kernel_rfl) (by kernel_rfl) (fun _ _ _ h => h) (Or.inl ⟨by rfl, ?_⟩) hHeld ?_
          rotate_left
          · (intro w hSw; (try dsimp only at hSw); go_simp) <;> with_reducible rfl
          (try simp only [Act.put, List.setIfInBounds_toArray, List.set_cons_zero, List.set_cons_succ, List.getElem_toArray, List.getElem_cons_zero, List.getElem_cons_succ])
          refine wpAnyH_take (i := 3) (v := ?_) rfl (by kernel_rfl) (by kernel_rfl) (by kernel_rfl) (fun _ _ _ h => h) (Or.inl ⟨by rfl, ?_⟩) hHeld ?_
          rotate_left
          · (intro w hSw; (try dsimp only at hSw); go_simp) <;> with_reducible rfl
          (try simp only [Act.put, List.setIfInBounds_toArray, List.set_cons_zero, List.set_cons_succ, List.getElem_toArray, List.getElem_cons_zero, List.getElem_cons_succ])
          refine wpAnyH_take (i := 4) (v := ?_) rfl (by kernel_rfl) (by kernel_rfl) (by kernel_rfl) (fun _ _ _ h => h) (Or.inl ⟨by rfl, ?_⟩) hHeld ?_
          rotate_left
          · (intro w hSw; (try dsimp only at hSw); go_simp) <;> with_reducible rfl
          (try simp only [Act.put, List.setIfInBounds_toArray, List.set_cons_zero, List.set_cons_succ, List.getElem_toArray, List.getElem_cons_zero, List.getElem_cons_succ])
          refine wpAnyH_take (i := 5) (v := ?_) rfl (by kernel_rfl) (by kernel_rfl) (by kernel_rfl) (fun _ _ _ h => h) (Or.inl ⟨by rfl, ?_⟩) hHeld ?_
          rotate_left
          · (intro w hSw; (try dsimp only at hSw); go_simp) <;> with_reducible rfl
          (try simp only [Act.put, List.setIfInBounds_toArray, List.set_cons_zero, List.set_cons_succ, List.getElem_toArray, List.getElem_cons_zero, List.getElem_cons_succ])
          refine wpAnyH_take (i := 6) (v := ?_) rfl (by kernel_rfl) (by kernel_rfl) (by kernel_rfl) (fun _ _ _ h => h) (Or.inl ⟨by rfl, ?_⟩) hHeld ?_
          rotate_left
          · (intro w hSw; (try dsimp only at hSw); go_simp) <;> with_reducible rfl
          (try simp only [Act.put, List.setIfInBounds_toArray, List.set_cons_zero, List.set_cons_succ, List.getElem_toArray, List.getElem_cons_zero, List.getElem_cons_succ])
          refine wpAnyH_take (i := 7) (v := ?_) rfl (by kernel_rfl) (by kernel_rfl) (by kernel_rfl) (fun _ _ _ h => h) (Or.inl ⟨by rfl, ?_⟩) hHeld ?_
          rotate_left
          · (intro w hSw; (try dsimp only at hSw); go_simp) <;> with_reducible rfl
          (try simp only [Act.put, List.setIfInBounds_toArray, List.set_cons_zero, List.set_cons_succ, List.getElem_toArray, List.getElem_cons_zero, List.getElem_cons_succ])
          refine wpAnyH_ready (rs := [8]) (by kernel_rfl) (by simp) ?_
          refine AllReadyH.cons rfl (fun K hK => ?_) AllReadyH.nil
          go_simp
          refine (HSz.out _ ((Chg.refl _ _).drew)).mono ?_
          rintro e w9 ⟨rfl, rfl⟩
          refine hK.out _ _ hHeld (fun _ => ?_)
          clear hK K
          (try simp only [Act.put, List.setIfInBounds_toArray, List.set_cons_zero, List.set_cons_succ, List.getElem_toArray, List.getElem_cons_zero, List.getElem_cons_succ])
          refine wpAnyH_ready (rs := [9]) (by kernel_rfl) (by simp) ?_
          refine AllReadyH.cons rfl (fun K hK => ?_) AllReadyH.nil
          go_simp
          refine (cpage_any P (nx) x.sz (some ⟨g, off + i, none⟩) P.length _ (HPa.out.1.grew ((Chg.refl _ _).drew)) (by simp) (by have := HPa.out.2.1; omega) hsz.2.2.2.1 (by have := HNx.out; omega)).mono ?_
          rintro e w9 ⟨A9, c9, rfl, ho9, hg9⟩
          have HG9 := Lib.hid (And.intro ho9 (show Grew W5 w9 from Grew.trans ((Chg.refl _ _).drew) hg9))
          clear ho9 hg9
          have HJ9 := Lib.hid (HJ5.out.grew HG9.out.2)
          have hS9 := HJ9.out.cells rfl HIk.out
          refine hK.out _ _ hS9 (fun _ => ?_)
          clear hK K
          (try simp only [Act.put, List.setIfInBounds_toArray, List.set_cons_zero, List.set_cons_succ, List.getElem_toArray, List.getElem_cons_zero, List.getElem_cons_succ])
          refine wpAnyH_ready (rs := [10]) (by kernel_rfl) (by simp) ?_
          refine AllReadyH.cons rfl (fun K hK => ?_) AllReadyH.nil
          go_simp
          have hA9 : A9 ≠ none := by obtain ⟨q9, e9, -⟩ := own_block HG9.out.1 (by omega); rw [e9]; simp
          have hgw := gp_write_any p F2 z w9 ik (pgL P (nx) x.sz) A9 c9 .zero HJ9.out.pw.gp (by rw [HJ5.out.wr.like.was, HP.out.2.1.like.was]; exact HX.out.1) HIz.out rfl (by rw [pgL_len (by have := HPa.out.2.1; omega), HZs.out]) (pgL_byte HPa.out.2.2) hA9
            (by rw [pgL_len (by have := HPa.out.2.1; omega)]; exact Sl.of_own (own_base HG9.out.1 (Nat.zero_le _))) (fun a ha e => by subst ha; have h8 := (HG9.out.1.lt a.block rfl).1; have h9 := HJ5.out.pw.gp.lt _ e; have h8' : W5.heap.size ≤ a.block := h8; omega)
          rw [pgL_len (by have := HPa.out.2.1; omega)] at hgw
          refine hgw.mono ?_
          clear hgw hA9
          rintro e w11 (⟨rfl, h11⟩ | ⟨hn11, -, rfl, hg11⟩)
          · obtain ⟨F3, hJ11⟩ := HJ9.out.step h11 (by have := HJ5.out.wr.more (by rw [HP.out.2.1.like.was]; exact HX.out.1) HP.out.2.1.nd HIk.out; rw [HPe.out, HNe.out, show y.sz = x.sz from HP.out.2.1.like.sz] at this; exact this)
            have HJ11 := Lib.hid hJ11
            have hS11 := hJ11.cells rfl HIk.out
            clear h11 hJ11
            refine hK.out _ _ hS11 (fun _ => ?_)
            clear hK K
            (try simp only [Act.put, List.setIfInBounds_toArray, List.set_cons_zero, List.set_cons_succ, List.getElem_toArray, List.getElem_cons_zero, List.getElem_cons_succ])
            refine wpAnyH_ready (rs := [11]) (by kernel_rfl) (by simp) ?_
            refine AllReadyH.cons rfl (fun K hK => ?_) AllReadyH.nil
            go_simp
            refine hK.out _ _ hS11 (fun _ => ?_)
            clear hK K
            (try simp only [Act.put, List.setIfInBounds_toArray, List.set_cons_zero, List.set_cons_succ, List.getElem_toArray, List.getElem_cons_zero, List.getElem_cons_succ])
            refine wpAnyH_done (by kernel_rfl) ?_ _
            clear hHeld hS9 hS5 hS11
            obtain ⟨c2, f2, s2⟩ := HJ11.out.bk.facts
            gi_wp2
            have hJ12 := HJ11.out.next (q + 1)
            exact ⟨hJ12.rc, fun w' hk' hR' => .inl ⟨rfl, z.put ik (.new (pgL P (nx) x.sz)), F3, hJ12.kept hk' hR'⟩⟩
          · have HJ11 := Lib.hid (HJ9.out.grew hg11)
            have hS11 := HJ11.out.cells rfl HIk.out
            have HN11 := Lib.hid hn11
            clear hg11 hn11
            refine hK.out _ _ hS11 (fun _ => ?_)
            clear hK K
            (try simp only [Act.put, List.setIfInBounds_toArray, List.set_cons_zero, List.set_cons_succ, List.getElem_toArray, List.getElem_cons_zero, List.getElem_cons_succ])
            refine wpAnyH_ready (rs := [11]) (by kernel_rfl) (by simp) ?_
            refine AllReadyH.cons rfl (fun K hK => ?_) AllReadyH.nil
            go_simp
            refine hK.out _ _ hS11 (fun _ => ?_)
            clear hK K
            (try simp only [Act.put, List.setIfInBounds_toArray, List.set_cons_zero, List.set_cons_succ, List.getElem_toArray, List.getElem_cons_zero, List.getElem_cons_succ])
            refine wpAnyH_done (by kernel_rfl) ?_ _
            clear hHeld hS9 hS5 hS11
            obtain ⟨c2, f2, s2⟩ := HJ11.out.pw.b1.facts
            obtain ⟨c3, f3, s3⟩ := HJ11.out.pw.b2.facts
            gi_wp2
            have hX12 := PutX.mk' HJ11.out (HP.out.2.1.like.trans HJ5.out.wr.like)
            refine ⟨hX12.rc, fun w' hk' hR' => .inr ⟨rfl, z, hX12.kept hk' hR', HP.out.2.1.like.trans HJ5.out.wr.like, fun he => ?_⟩⟩
            have h5 := HJ5.out.wr.slack
            have h6 := HP.out.2.1.slack
            have h7 := he.1
            have h8 := HN11.out
            rw [HX.out.2.2.2.2.2.1, HX.out.2.2.2.2.2.2.2] at h7
            omega
        · have t5 : decide ((q : Int) < (l.length : Int) - 1) = false := decide_eq_false (by omega)
          have HNe := Lib.hid (show nextOf l q = 0 from by unfold nextOf; rw [List.getElem?_eq_none (by omega)])
          have HNx := Lib.hid (show 0 ≤ 65535 by omega)
          clear hlast
          gi_wp2
          clear c0 f0 s0 c1 f1 s1 t5
          obtain ⟨s1, s2, s3, s4⟩ := HJ5.out.cells rfl HIk.out
          have hS5 : (W5.drew).cell? ⟨a0, 0, none⟩ = some (.pointer (some ⟨p, 0, none⟩)) ∧ (W5.drew).cell? ⟨a0 + 1 + 1 + 1, 0, none⟩ = some (.slice (some ⟨rg, 0, none⟩) l.length cv) ∧ (W5.drew).cell? ⟨kb, 0, none⟩ = some (.int .i64 q) ∧ (W5.drew).cell? ⟨rg, q, none⟩ = some (.int .i64 ik) := ⟨s1, s2, s3, s4⟩
          clear s1 s2 s3 s4
          refine wpIn_region_held_round (S := fun w' => w'.cell? ⟨a0, 0, none⟩ = some (.pointer (some ⟨p, 0, none⟩)) ∧ w'.cell? ⟨a0 + 1 + 1 + 1, 0, none⟩ = some (.slice (some ⟨rg, 0, none⟩) l.length cv) ∧ w'.cell? ⟨kb, 0, none⟩ = some (.int .i64 q) ∧ w'.cell? ⟨rg, q, none⟩ = some (.int .i64 ik)) (fun _ _ h => h) (by kernel_rfl) (by kernel_rfl) hS5 (fun hHeld => ?_)
          refine wpAnyH_take (i := 0) (v := ?_) rfl (by kernel_rfl) (by kernel_rfl) (by kernel_rfl) (fun _ _ _ h => h) (Or.inl ⟨by rfl, ?_⟩) hHeld ?_
          rotate_left
          · (intro w hSw; (try dsimp only at hSw); go_simp) <;> with_reducible rfl
          (try simp only [Act.put, List.setIfInBounds_toArray, List.set_cons_zero, List.set_cons_succ, List.getElem_toArray, List.getElem_cons_zero, List.getElem_cons_succ])
          refine wpAnyH_take (i := 1) (v := ?_) rfl (by kernel_rfl) (by kernel_rfl) (by kernel_rfl) (fun _ _ _ h => h) (Or.inl ⟨by rfl, ?_⟩) hHeld ?_
          rotate_left
          · (intro w hSw; (try dsimp only at hSw); go_simp) <;> with_reducible rfl
          (try simp only [Act.put, List.setIfInBounds_toArray, List.set_cons_zero, List.set_cons_succ, List.getElem_toArray, List.getElem_cons_zero, List.getElem_cons_succ])
          refine wpAnyH_take (i := 2) (v := ?_) rfl (by kernel_rfl) (by kernel_rfl) (by kernel_rfl) (fun _ _ _ h => h) (Or.inl ⟨by rfl, ?_⟩) hHeld ?_
          rotate_left
          · (intro w hSw; (try dsimp only at hSw); go_simp) <;> with_reducible rfl
          (try simp only [Act.put, List.setIfInBounds_toArray, List.set_cons_zero, List.set_cons_succ, List.getElem_toArray, List.getElem_cons_zero, List.getElem_cons_succ])
          refine wpAnyH_take (i := 3) (v := ?_) rfl (by kernel_rfl) (by kernel_rfl) (by kernel_rfl) (fun _ _ _ h => h) (Or.inl ⟨by rfl, ?_⟩) hHeld ?_
          rotate_left
          · (intro w hSw; (try dsimp only at hSw); go_simp) <;> with_reducible rfl
          (try simp only [Act.put, List.setIfInBounds_toArray, List.set_cons_zero, List.set_cons_succ, List.getElem_toArray, List.getElem_cons_zero, List.getElem_cons_succ])
          refine wpAnyH_take (i := 4) (v := ?_) rfl (by kernel_rfl) (by kernel_rfl) (by kernel_rfl) (fun _ _ _ h => h) (Or.inl ⟨by rfl, ?_⟩) hHeld ?_
          rotate_left
          · (intro w hSw; (try dsimp only at hSw); go_simp) <;> with_reducible rfl
          (try simp only [Act.put, List.setIfInBounds_toArray, List.set_cons_zero, List.set_cons_succ, List.getElem_toArray, List.getElem_cons_zero, List.getElem_cons_succ])
          refine wpAnyH_take (i := 5) (v := ?_) rfl (by kernel_rfl) (by kernel_rfl) (by kernel_rfl) (fun _ _ _ h => h) (Or.inl ⟨by rfl, ?_⟩) hHeld ?_
          rotate_left
          · (intro w hSw; (try dsimp only at hSw); go_simp) <;> with_reducible rfl
          (try simp only [Act.put, List.setIfInBounds_toArray, List.set_cons_zero, List.set_cons_succ, List.getElem_toArray, List.getElem_cons_zero, List.getElem_cons_succ])
          refine wpAnyH_take (i := 6) (v := ?_) rfl (by kernel_rfl) (by kernel_rfl) (by kernel_rfl) (fun _ _ _ h => h) (Or.inl ⟨by rfl, ?_⟩) hHeld ?_
          rotate_left
          · (intro w hSw; (try dsimp only at hSw); go_simp) <;> with_reducible rfl
          (try simp only [Act.put, List.setIfInBounds_toArray, List.set_cons_zero, List.set_cons_succ, List.getElem_toArray, List.getElem_cons_zero, List.getElem_cons_succ])
          refine wpAnyH_take (i := 7) (v := ?_) rfl (by kernel_rfl) (by kernel_rfl) (by kernel_rfl) (fun _ _ _ h => h) (Or.inl ⟨by rfl, ?_⟩) hHeld ?_
          rotate_left
          · (intro w hSw; (try dsimp only at hSw); go_simp) <;> with_reducible rfl
          (try simp only [Act.put, List.setIfInBounds_toArray, List.set_cons_zero, List.set_cons_succ, List.getElem_toArray, List.getElem_cons_zero, List.getElem_cons_succ])
          refine wpAnyH_ready (rs := [8]) (by kernel_rfl) (by simp) ?_
          refine AllReadyH.cons rfl (fun K hK => ?_) AllReadyH.nil
          go_simp
          refine (HSz.out _ ((Chg.refl _ _).drew)).mono ?_
          rintro e w9 ⟨rfl, rfl⟩
          refine hK.out _ _ hHeld (fun _ => ?_)
          clear hK K
          (try simp only [Act.put, List.setIfInBounds_toArray, List.set_cons_zero, List.set_cons_succ, List.getElem_toArray, List.getElem_cons_zero, List.getElem_cons_succ])
          refine wpAnyH_ready (rs := [9]) (by kernel_rfl) (by simp) ?_
          refine AllReadyH.cons rfl (fun K hK => ?_) AllReadyH.nil
          go_simp
          refine (cpage_any P (0) x.sz (some ⟨g, off + i, none⟩) P.length _ (HPa.out.1.grew ((Chg.refl _ _).drew)) (by simp) (by have := HPa.out.2.1; omega) hsz.2.2.2.1 (by have := HNx.out; omega)).mono ?_
          rintro e w9 ⟨A9, c9, rfl, ho9, hg9⟩
          have HG9 := Lib.hid (And.intro ho9 (show Grew W5 w9 from Grew.trans ((Chg.refl _ _).drew) hg9))
          clear ho9 hg9
          have HJ9 := Lib.hid (HJ5.out.grew HG9.out.2)
          have hS9 := HJ9.out.cells rfl HIk.out
          refine hK.out _ _ hS9 (fun _ => ?_)
          clear hK K
          (try simp only [Act.put, List.setIfInBounds_toArray, List.set_cons_zero, List.set_cons_succ, List.getElem_toArray, List.getElem_cons_zero, List.getElem_cons_succ])
          refine wpAnyH_ready (rs := [10]) (by kernel_rfl) (by simp) ?_
          refine AllReadyH.cons rfl (fun K hK => ?_) AllReadyH.nil
          go_simp
          have hA9 : A9 ≠ none := by obtain ⟨q9, e9, -⟩ := own_block HG9.out.1 (by omega); rw [e9]; simp
          have hgw := gp_write_any p F2 z w9 ik (pgL P (0) x.sz) A9 c9 .zero HJ9.out.pw.gp (by rw [HJ5.out.wr.like.was, HP.out.2.1.like.was]; exact HX.out.1) HIz.out rfl (by rw [pgL_len (by have := HPa.out.2.1; omega), HZs.out]) (pgL_byte HPa.out.2.2) hA9
            (by rw [pgL_len (by have := HPa.out.2.1; omega)]; exact Sl.of_own (own_base HG9.out.1 (Nat.zero_le _))) (fun a ha e => by subst ha; have h8 := (HG9.out.1.lt a.block rfl).1; have h9 := HJ5.out.pw.gp.lt _ e; have h8' : W5.heap.size ≤ a.block := h8; omega)
          rw [pgL_len (by have := HPa.out.2.1; omega)] at hgw
          refine hgw.mono ?_
          clear hgw hA9
          rintro e w11 (⟨rfl, h11⟩ | ⟨hn11, -, rfl, hg11⟩)
          · obtain ⟨F3, hJ11⟩ := HJ9.out.step h11 (by have := HJ5.out.wr.more (by rw [HP.out.2.1.like.was]; exact HX.out.1) HP.out.2.1.nd HIk.out; rw [HPe.out, HNe.out, show y.sz = x.sz from HP.out.2.1.like.sz] at this; exact this)
            have HJ11 := Lib.hid hJ11
            have hS11 := hJ11.cells rfl HIk.out
            clear h11 hJ11
            refine hK.out _ _ hS11 (fun _ => ?_)
            clear hK K
            (try simp only [Act.put, List.setIfInBounds_toArray, List.set_cons_zero, List.set_cons_succ, List.getElem_toArray, List.getElem_cons_zero, List.getElem_cons_succ])
            refine wpAnyH_ready (rs := [11]) (by kernel_rfl) (by simp) ?_
            refine AllReadyH.cons rfl (fun K hK => ?_) AllReadyH.nil
            go_simp
            refine hK.out _ _ hS11 (fun _ => ?_)
            clear hK K
            (try simp only [Act.put, List.setIfInBounds_toArray, List.set_cons_zero, List.set_cons_succ, List.getElem_toArray, List.getElem_cons_zero, List.getElem_cons_succ])
            refine wpAnyH_done (by kernel_rfl) ?_ _
            clear hHeld hS9 hS5 hS11
            obtain ⟨c2, f2, s2⟩ := HJ11.out.bk.facts
            gi_wp2
            have hJ12 := HJ11.out.next (q + 1)
            exact ⟨hJ12.rc, fun w' hk' hR' => .inl ⟨rfl, z.put ik (.new (pgL P (0) x.sz)), F3, hJ12.kept hk' hR'⟩⟩
          · have HJ11 := Lib.hid (HJ9.out.grew hg11)
            have hS11 := HJ11.out.cells rfl HIk.out
            have HN11 := Lib.hid hn11
            clear hg11 hn11
            refine hK.out _ _ hS11 (fun _ => ?_)
            clear hK K
            (try simp only [Act.put, List.setIfInBounds_toArray, List.set_cons_zero, List.set_cons_succ, List.getElem_toArray, List.getElem_cons_zero, List.getElem_cons_succ])
            refine wpAnyH_ready (rs := [11]) (by kernel_rfl) (by simp) ?_
            refine AllReadyH.cons rfl (fun K hK => ?_) AllReadyH.nil
            go_simp
            refine hK.out _ _ hS11 (fun _ => ?_)
            clear hK K
            (try simp only [Act.put, List.setIfInBounds_toArray, List.set_cons_zero, List.set_cons_succ, List.getElem_toArray, List.getElem_cons_zero, List.getElem_cons_succ])
            refine wpAnyH_done (by kernel_rfl) ?_ _
            clear hHeld hS9 hS5 hS11
            obtain ⟨c2, f2, s2⟩ := HJ11.out.pw.b1.facts
            obtain ⟨c3, f3, s3⟩ := HJ11.out.pw.b2.facts
            gi_wp2
            have hX12 := PutX.mk' HJ11.out (HP.out.2.1.like.trans HJ5.out.wr.like)
            refine ⟨hX12.rc, fun w' hk' hR' => .inr ⟨rfl, z, hX12.kept hk' hR', HP.out.2.1.like.trans HJ5.out.wr.like, fun he => ?_⟩⟩
            have h5 := HJ5.out.wr.slack
            have h6 := HP.out.2.1.slack
            have h7 := he.1
            have h8 := HN11.out
            rw [HX.out.2.2.2.2.2.1, HX.out.2.2.2.2.2.2.2] at h7
            omega
      case post =>
        rintro e w3 ⟨hv, hJ | ⟨i, hJ⟩⟩
        · obtain ⟨z, F2, hJ⟩ := hJ
          refine ⟨hv, .inl ⟨hJ.rc, fun w4 hk4 => ?_⟩⟩
          have HO := Lib.hid (hJ.offL hk4)
          have HWr := Lib.hid (And.intro hJ.wr (And.intro hJ.lt hJ.nf))
          clear hJ hk4
          obtain ⟨i0, hi0⟩ : ∃ i0, l[0]? = some i0 := ⟨_, List.getElem?_eq_getElem (by omega)⟩
          have hce : w4.cell? ⟨rg, 0, none⟩ = some (.int .i64 i0) := by
            have := HO.out.1.row.cells (g := rg) rfl 0 (.int .i64 i0) (by simp [nv, hi0])
            rwa [Addr.add_lit] at this
          obtain ⟨c0, f0, s0⟩ := HO.out.1.b3.facts
          obtain ⟨c1, f1, s1⟩ := HO.out.1.b1.facts
          obtain ⟨c2, f2, s2⟩ := HO.out.1.b2.facts
          have u3 : (0 : Int) < (l.length : Int) := by omega
          have HI0 := Lib.hid hi0
          clear hi0
          go_wp2_with fail
          clear c0 f0 s0 c1 f1 s1 c2 f2 s2 hce
          obtain ⟨l1, l2, l3, l4, l5, l6, l7, l8, l9⟩ := HWr.out.2.1
          refine postM_ret1 (v := .tuple #[.int .i64 i0, .int .i64 0]) (D := D) ?_ rfl fun w5 hk5 => ⟨?_, ?_⟩
          · exact HO.out.2.chg (((Chg.refl (fun j => j = a0 + 1 ∨ j = a0 + 2) w4).setCell (p := ⟨a0 + 1, 0, none⟩) (fun _ => .inl rfl) _).setCell (p := ⟨a0 + 2, 0, none⟩) (fun _ => .inr rfl) _) (by omega)
          · have hb1 := (HO.out.1.b1.put 0 (.int .i64 i0)).far (p := ⟨a0 + 2, 0, none⟩) (by simp) (.int .i64 0)
            have hb2 := (HO.out.1.b2.far (p := ⟨a0 + 1, 0, none⟩) (by simp) (.int .i64 i0)).put 0 (.int .i64 0)
            obtain ⟨c1, f1, s1⟩ := (hb1.kept hk5).facts
            obtain ⟨c2, f2, s2⟩ := (hb2.kept hk5).facts
            simp [results, Tryz.results27, go_sem, c1, s1, c2, s2]
          · refine .inl ⟨i0, l, z, rfl, HI0.out, HO.out.1.fin2 _ _ (by omega) (HWr.out.2.2 D (by omega) (by omega)) hk5, ?_⟩
            refine HWr.out.1.done' HP.out.2.1 HP.out.2.2 ?_
            rw [HP.out.2.2, HX.out.2.2.2.2.2.1, HX.out.2.2.2.2.2.2.1, HX.out.2.2.2.2.2.2.2]
        · obtain ⟨z, hX, hlk, hne⟩ := hJ
          refine ⟨hv, .inr ⟨_, hX.rc, fun w4 hk4 => wp_ret ?_⟩⟩
          obtain ⟨hd, hb1, hb2, hto⟩ := hX.offL hk4
          simp only [Exit.inBlock, Exit.then]
          refine postM_ret1 (v := .tuple #[.int .i64 0, .int .i64 21]) (D := D) hd rfl fun w5 hk5 => ⟨?_, ?_⟩
          · obtain ⟨c1, f1, s1⟩ := (hb1.kept hk5).facts
            obtain ⟨c2, f2, s2⟩ := (hb2.kept hk5).facts
            simp [results, Tryz.results27, go_sem, c1, s1, c2, s2]
          · exact .inr ⟨z, rfl, hto _ hk5, hlk, hne⟩

end Go.Proofs.YtjkkoogfaibhiaaGreatDoor

/- The chain: a page read: part. -/
namespace Go.Proofs.YtjkkoogfaibhiaaGreatDoor
open Go.RowKit Go.Maps

/-- What a chain's page says: its bytes, and the next one's number and one more. -/
def decP (b : List Int) (sz : Nat) : Option (List Int × Nat) :=
  let next := (b.getD 1 0).toNat + 256 * (b.getD 2 0).toNat
  let n := (b.getD 3 0).toNat + 256 * (b.getD 4 0).toNat
  if n < 1 ∨ sz - 5 < n ∨ (0 < next ∧ n < sz - 5) ∨ pgL ((b.drop 5).take n) next sz ≠ b then none else some ((b.drop 5).take n, next)
theorem decP_pgL {P : List Int} {nx sz : Nat} (h1 : 1 ≤ P.length) (h2 : P.length + 5 ≤ sz) (h3 : 0 < nx → P.length + 5 = sz) (h4 : nx ≤ 65535) (h5 : sz ≤ 4096) : decP (pgL P nx sz) sz = some (P, nx) := by
  have g1 : ((pgL P nx sz).getD 1 0).toNat + 256 * ((pgL P nx sz).getD 2 0).toNat = nx := by
    simp only [pgL, List.cons_append, List.nil_append, List.getD_cons_succ, List.getD_cons_zero]
    omega
  have g2 : ((pgL P nx sz).getD 3 0).toNat + 256 * ((pgL P nx sz).getD 4 0).toNat = P.length := by
    simp only [pgL, List.cons_append, List.nil_append, List.getD_cons_succ, List.getD_cons_zero]
    omega
  have g3 : ((pgL P nx sz).drop 5).take P.length = P := by
    unfold pgL
    simp only [List.cons_append, List.nil_append, List.drop_succ_cons, List.drop_zero]
    exact List.take_left
  unfold decP
  simp only [g1, g2, g3]
  rw [if_neg]
  rintro (e | e | e | e)
  · omega
  · omega
  · have := h3 e.1; omega
  · exact e rfl

/-- What part answers. -/
def PartO (w w' : World) (p : Nat) (F : Nat → Prop) (x : Rp) (o : Option (List Int × Nat)) (e : Ending) : Prop :=
  GP w' p F x ∧ Chg F w w' ∧ match o with
  | none => e = .returned (.tuple #[.slice none 0 0, .int .i64 0, .int .i64 22])
  | some (P, nx) => ∃ g c, e = .returned (.tuple #[.slice (some ⟨g, 5, none⟩) P.length c, .int .i64 ((nx : Int) - 1), .int .i64 0]) ∧ P.length ≤ c ∧ Sl w' 1 (some ⟨g, 5, none⟩) P.length (bv P) ∧ w.heap.size ≤ g ∧ ¬ F g

theorem cpart_none (p : Nat) (i : Int) (F : Nat → Prop) (x : Rp) (w : World) (h : GP w p F x) (hu : i < 0 ∨ x.now.length ≤ i ∨ x.now[i.toNat]? = some .no) :
    Calls Tryz.prog 126 #[.pointer (some ⟨p, 0, none⟩), .int .i64 i] w fun e w' => e = .returned (.tuple #[.slice none 0 0, .int .i64 0, .int .i64 14]) ∧ w = w' := by
  have H := Lib.hid (gp_read_none p F x w i h hu)
  clear h hu
  go_enter Tryz.func126, Tryz.ntmps126
  go_wp2_with (go_at_call 92; (refine H.out.mono ?_); rintro e w1 ⟨rfl, rfl⟩)
  exact bodyPost_ret (v := .tuple #[.slice none 0 0, .int .i64 0, .int .i64 14]) (by simp [results, Tryz.results126, go_sem]) rfl ⟨rfl, rfl⟩

set_option maxRecDepth 100000 in
set_option maxHeartbeats 3200000 in
theorem cpart_any (p i : Nat) (F : Nat → Prop) (x : Rp) (c : Pk) (w : World) (h : GP w p F x) (hi : x.now[i]? = some c) (hu : c.used = true) :
    Calls Tryz.prog 126 #[.pointer (some ⟨p, 0, none⟩), .int .i64 i] w fun e w' => PartO w w' p F x (decP (c.bytes x.sz) x.sz) e := by
  have hsz := h.szs
  have hrd := gp_read p i F x w c h hi hu
  obtain ⟨B, hB⟩ : ∃ B, c.bytes x.sz = B := ⟨_, rfl⟩
  obtain ⟨sz, hz⟩ : ∃ sz, x.sz = sz := ⟨_, rfl⟩
  rw [hB] at hrd ⊢
  rw [hz] at hsz ⊢
  obtain ⟨o, hO⟩ : ∃ o, decP B sz = o := ⟨_, rfl⟩
  rw [hO]
  have HOO := Lib.hid hO
  have HR := Lib.hid (And.intro hrd hz)
  clear h hi hu hrd hB hz hO
  go_enter Tryz.func126, Tryz.ntmps126
  go_wp2_with fail
  refine HR.out.1.mono ?_
  rintro e w1 ⟨A, cb, rfl, ho, hbl, hby, hgp, hc, hn⟩
  rw [HR.out.2] at ho hbl ⊢
  obtain ⟨g, rfl, hg⟩ := own_block ho (by omega)
  obtain ⟨A', c', e', hcc⟩ := own_shape ho
  obtain rfl : cb = c' := by injection e' with e1 e2 e3
  obtain ⟨y1, e1⟩ : ∃ y, B[1]? = some y := ⟨_, List.getElem?_eq_getElem (by omega)⟩
  obtain ⟨y2, e2⟩ : ∃ y, B[2]? = some y := ⟨_, List.getElem?_eq_getElem (by omega)⟩
  obtain ⟨y3, e3⟩ : ∃ y, B[3]? = some y := ⟨_, List.getElem?_eq_getElem (by omega)⟩
  obtain ⟨y4, e4⟩ : ∃ y, B[4]? = some y := ⟨_, List.getElem?_eq_getElem (by omega)⟩
  have b1 := hby _ (List.mem_of_getElem? e1)
  have b2 := hby _ (List.mem_of_getElem? e2)
  have b3 := hby _ (List.mem_of_getElem? e3)
  have b4 := hby _ (List.mem_of_getElem? e4)
  have hx : ∀ j u, (bv B)[j]? = some u → w1.cell? ⟨g, j, none⟩ = some u := fun j u hu => by
    have := ho.cells (g := g) rfl j u hu
    rwa [Addr.add_lit, Nat.zero_add] at this
  have d1 := hx 1 (.int .u8 y1) (by simp [bv, e1])
  have d2 := hx 2 (.int .u8 y2) (by simp [bv, e2])
  have d3 := hx 3 (.int .u8 y3) (by simp [bv, e3])
  have d4 := hx 4 (.int .u8 y4) (by simp [bv, e4])
  obtain ⟨x1, rfl⟩ := Int.eq_ofNat_of_zero_le b1.1
  obtain ⟨x2, rfl⟩ := Int.eq_ofNat_of_zero_le b2.1
  obtain ⟨x3, rfl⟩ := Int.eq_ofNat_of_zero_le b3.1
  obtain ⟨x4, rfl⟩ := Int.eq_ofNat_of_zero_le b4.1
  have hor1 := or_le2 x1 x2 (by omega) (by omega)
  have hor2 := or_le2 x3 x4 (by omega) (by omega)
  obtain ⟨nx, hnx⟩ : ∃ nx, x1 + 256 * x2 = nx := ⟨_, rfl⟩
  obtain ⟨n, hnn⟩ : ∃ n, x3 + 256 * x4 = n := ⟨_, rfl⟩
  have hdec : decP B sz = if n < 1 ∨ sz - 5 < n ∨ (0 < nx ∧ n < sz - 5) ∨ pgL ((B.drop 5).take n) nx sz ≠ B then none else some ((B.drop 5).take n, nx) := by
    unfold decP
    simp only [List.getD_eq_getElem?_getD, e1, e2, e3, e4, Option.getD_some, Int.toNat_natCast, hnx, hnn]
  rw [hnx] at hor1
  rw [hnn] at hor2
  have hnx5 : nx ≤ 65535 := by omega
  have hn5 : n ≤ 65535 := by omega
  have q1 : x1 ≤ 255 := by omega
  have q2 : x2 ≤ 255 := by omega
  have q3 : x3 ≤ 255 := by omega
  have q4 : x4 ≤ 255 := by omega
  have HO := Lib.hid (And.intro ho (And.intro hgp (And.intro hc (And.intro hn hby))))
  have k1 : (1 : Int) < (sz : Int) := by omega
  have k2 : (2 : Int) < (sz : Int) := by omega
  have k3 : (3 : Int) < (sz : Int) := by omega
  have k4 : (4 : Int) < (sz : Int) := by omega
  have m1 : 1 < sz := by omega
  have m2 : 2 < sz := by omega
  have m3 : 3 < sz := by omega
  have m4 : 4 < sz := by omega
  have HB := Lib.hid (And.intro hbl hdec)
  clear ho hgp hc hn hby hx e1 e2 e3 e4 b1 b2 b3 b4 hnx hnn hbl hdec e'
  go_wp2
  go_quiet (fail)
  have HGW := Lib.hid (show Grew w1 (w1.drewN nq) from (Chg.refl _ _).drewN _)
  obtain ⟨w2, hw2⟩ : ∃ w2, w1.drewN nq = w2 := ⟨_, rfl⟩
  rw [hw2] at HGW ⊢
  clear hw2 d1 d2 d3 d4 k1 k2 k3 k4 m1 m2 m3 m4 q1 q2 q3 q4 hor1 hor2
  have hfin : ∀ w3, Grew w2 w3 → GP w3 p F x ∧ Chg F w w3 := fun w3 h3 => ⟨(HO.out.2.1.grew HGW.out).grew h3, (HO.out.2.2.1.grew HGW.out).grew h3⟩
  have HF := Lib.hid hfin
  clear hfin
  by_cases h1 : n < 1
  · obtain rfl : o = none := by rw [← HOO.out, HB.out.2, if_pos (.inl h1)]
    have t1 : decide ((n : Int) < 1) = true := decide_eq_true (by omega)
    clear h1
    go_wp2
    exact bodyPost_ret (v := .tuple #[.slice none 0 0, .int .i64 0, .int .i64 22]) (by simp [results, Tryz.results126, go_sem]) rfl ⟨(HF.out _ (Chg.refl _ _)).1, (HF.out _ (Chg.refl _ _)).2, rfl⟩
  have t1 : decide ((n : Int) < 1) = false := decide_eq_false (by omega)
  by_cases h2 : sz - 5 < n
  · obtain rfl : o = none := by rw [← HOO.out, HB.out.2, if_pos (.inr (.inl h2))]
    have t2 : decide ((sz : Int) - 5 < (n : Int)) = true := decide_eq_true (by omega)
    clear h1 h2
    go_wp2
    exact bodyPost_ret (v := .tuple #[.slice none 0 0, .int .i64 0, .int .i64 22]) (by simp [results, Tryz.results126, go_sem]) rfl ⟨(HF.out _ (Chg.refl _ _)).1, (HF.out _ (Chg.refl _ _)).2, rfl⟩
  have t2 : decide ((sz : Int) - 5 < (n : Int)) = false := decide_eq_false (by omega)
  by_cases h3 : 0 < nx ∧ n < sz - 5
  · obtain rfl : o = none := by rw [← HOO.out, HB.out.2, if_pos (.inr (.inr (.inl h3)))]
    have p3 : 0 < nx := h3.1
    have t3 : decide ((0 : Int) < (nx : Int)) = true := decide_eq_true (by omega)
    have t4 : decide ((n : Int) < (sz : Int) - 5) = true := decide_eq_true (by omega)
    clear h1 h2 h3
    go_wp2
    exact bodyPost_ret (v := .tuple #[.slice none 0 0, .int .i64 0, .int .i64 22]) (by simp [results, Tryz.results126, go_sem]) rfl ⟨(HF.out _ (Chg.refl _ _)).1, (HF.out _ (Chg.refl _ _)).2, rfl⟩
  obtain ⟨P, hP⟩ : ∃ P, (B.drop 5).take n = P := ⟨_, rfl⟩
  have hPl : P.length = n := by rw [← hP, List.length_take, List.length_drop, HB.out.1]; omega
  have hsP : ∀ w3, Grew w2 w3 → Sl w3 1 (some ⟨g, 5, none⟩) P.length (bv P) := fun w3 h4 => by
    have hsl : Sl w1 1 (some ⟨g, 0, none⟩) B.length (bv B) := by rw [HB.out.1]; exact Sl.of_own HO.out.1
    have := (hsl.grew (Grew.trans HGW.out h4)).sub (i := 5) (m := P.length) (by rw [HB.out.1, hPl]; omega) P (by rw [hPl]; exact hP.symm)
    rwa [Nat.zero_add] at this
  have hPb : ∀ q ∈ P, 0 ≤ q ∧ q ≤ 255 := fun q hq => HO.out.2.2.2.2 q (List.mem_of_mem_drop (List.mem_of_mem_take (hP ▸ hq)))
  have hT : ((5 : Int) + (n : Int)).toNat - 5 = n := by omega
  have hnc : (5 : Int) + (n : Int) ≤ (cb : Int) := by omega
  have HP := Lib.hid (And.intro hP (And.intro hPl (And.intro hsP hPb)))
  have hpg := fun w3 (h4 : Grew w2 w3) => cpage_any P nx sz (some ⟨g, 5, none⟩) (cb - 5) w3 (hsP w3 h4) (by simp) (by omega) hsz.2.2.2.1 hnx5
  rw [hPl] at hpg
  have HPG := Lib.hid hpg
  have hle : P.length + 5 ≤ sz := by omega
  have hnsz : n ≤ 4096 := by omega
  have hn1 : 1 ≤ n := by omega
  have hcase : nx = 0 ∨ (0 < nx ∧ decide ((0 : Int) < (nx : Int)) = true ∧ decide ((n : Int) < (sz : Int) - 5) = false) := by
    by_cases e : 0 < nx
    · exact .inr ⟨e, decide_eq_true (by omega), decide_eq_false (by have : ¬ n < sz - 5 := fun q => h3 ⟨e, q⟩; omega)⟩
    · exact .inl (by omega)
  have hdd : decP B sz = if eqB (pgL P nx sz) B then some (P, nx) else none := by
    rw [HB.out.2, hP]
    rw [eqB_eq (pgL_byte hPb) HO.out.2.2.2.2]
    by_cases e : pgL P nx sz = B
    · rw [if_neg (fun q => q.elim h1 fun q => q.elim h2 fun q => q.elim h3 fun q => q e), decide_eq_true e]; rfl
    · rw [if_pos (.inr (.inr (.inr e))), decide_eq_false e]; rfl
  have HD := Lib.hid hdd
  have heq : ∀ A c w', Sl w' 1 A sz (bv (pgL P nx sz)) → Grew w2 w' → Calls Tryz.prog 122 #[.slice A sz c, .slice (some ⟨g, 0, none⟩) sz cb] w' fun e w'' => e = .returned (.bool (eqB (pgL P nx sz) B)) ∧ w' = w'' := fun A c w' hA hg' => by
    have hb0 : Sl w1 1 (some ⟨g, 0, none⟩) B.length (bv B) := by rw [HB.out.1]; exact Sl.of_own HO.out.1
    have := beq_any A (some ⟨g, 0, none⟩) (pgL P nx sz) B c cb w' (by rw [pgL_len hle]; exact hA) (hb0.grew (Grew.trans HGW.out hg'))
    rwa [pgL_len hle, HB.out.1] at this
  have HE := Lib.hid heq
  clear h1 h2 h3 hP hPl hsP hPb hpg hdd heq
  obtain ⟨bq, hbq⟩ : ∃ bq, eqB (pgL P nx sz) B = bq := ⟨_, rfl⟩
  rw [hbq] at HE HD
  clear hbq
  cases bq with
  | false =>
    obtain rfl : o = none := by rw [← HOO.out, HD.out]; rfl
    rcases hcase with rfl | ⟨p3, t3, t4⟩
    all_goals
      go_wp2_with (first
        | (go_at_call 61; (refine (HPG.out _ (Chg.refl _ _)).mono ?_); rintro e w3 ⟨A3, c3, rfl, ho3, hg3⟩; have H3 := Lib.hid (And.intro ho3 hg3); clear ho3 hg3)
        | (go_at_call 122; (refine (HE.out _ _ _ (Sl.of_own (own_base H3.out.1 (Nat.zero_le _))) H3.out.2).mono ?_); rintro e w4 ⟨rfl, rfl⟩))
      exact bodyPost_ret (v := .tuple #[.slice none 0 0, .int .i64 0, .int .i64 22]) (by simp [results, Tryz.results126, go_sem]) rfl ⟨(HF.out _ H3.out.2).1, (HF.out _ H3.out.2).2, rfl⟩
  | true =>
    obtain rfl : o = some (P, nx) := by rw [← HOO.out, HD.out]; rfl
    rcases hcase with rfl | ⟨p3, t3, t4⟩
    · go_wp2_with (first
        | (go_at_call 61; (refine (HPG.out _ (Chg.refl _ _)).mono ?_); rintro e w3 ⟨A3, c3, rfl, ho3, hg3⟩; have H3 := Lib.hid (And.intro ho3 hg3); clear ho3 hg3)
        | (go_at_call 122; (refine (HE.out _ _ _ (Sl.of_own (own_base H3.out.1 (Nat.zero_le _))) H3.out.2).mono ?_); rintro e w4 ⟨rfl, rfl⟩))
      refine bodyPost_ret (v := .tuple #[.slice (some ⟨g, 5, none⟩) n (cb - 5), .int .i64 (((0 : Nat) : Int) - 1), .int .i64 0]) (by simp [results, Tryz.results126, go_sem]) rfl ⟨(HF.out _ H3.out.2).1, (HF.out _ H3.out.2).2, ?_⟩
      exact ⟨g, cb - 5, by rw [HP.out.2.1], by rw [HP.out.2.1]; omega, HP.out.2.2.1 _ H3.out.2, by have h8 := (HO.out.1.lt g rfl).1; exact h8, fun e => HO.out.2.2.2.1 _ rfl e⟩
    · go_wp2_with (first
        | (go_at_call 61; (refine (HPG.out _ (Chg.refl _ _)).mono ?_); rintro e w3 ⟨A3, c3, rfl, ho3, hg3⟩; have H3 := Lib.hid (And.intro ho3 hg3); clear ho3 hg3)
        | (go_at_call 122; (refine (HE.out _ _ _ (Sl.of_own (own_base H3.out.1 (Nat.zero_le _))) H3.out.2).mono ?_); rintro e w4 ⟨rfl, rfl⟩))
      refine bodyPost_ret (v := .tuple #[.slice (some ⟨g, 5, none⟩) n (cb - 5), .int .i64 ((nx : Int) - 1), .int .i64 0]) (by simp [results, Tryz.results126, go_sem]) rfl ⟨(HF.out _ H3.out.2).1, (HF.out _ H3.out.2).2, ?_⟩
      exact ⟨g, cb - 5, by rw [HP.out.2.1], by rw [HP.out.2.1]; omega, HP.out.2.2.1 _ H3.out.2, by have h8 := (HO.out.1.lt g rfl).1; exact h8, fun e => HO.out.2.2.2.1 _ rfl e⟩

end Go.Proofs.YtjkkoogfaibhiaaGreatDoor

/- The chain: walk. -/
namespace Go.Proofs.YtjkkoogfaibhiaaGreatDoor
open Go.RowKit Go.Maps

def lenSum (ps : List (List Int)) : Nat := (ps.map List.length).sum
/-- These pages were gone through, with these parts; the next one is i. -/
inductive Wk (x : Rp) (first : Int) : List Nat → List (List Int) → Int → Prop where
  | nil : Wk x first [] [] first
  | snoc {l ps} {i : Nat} {c : Pk} {P : List Int} {nx : Nat} : Wk x first l ps i → x.now[i]? = some c → c.used = true → decP (c.bytes x.sz) x.sz = some (P, nx) → i ∉ l → lenSum ps + P.length ≤ 16384 → Wk x first (l ++ [i]) (ps ++ [P]) ((nx : Int) - 1)
/-- What is wrong with the next one. -/
def Wrong (x : Rp) (l : List Nat) (ps : List (List Int)) (i : Nat) : Prop :=
  (∀ c, x.now[i]? = some c → c.used = false) ∨ ∃ c, x.now[i]? = some c ∧ c.used = true ∧ (decP (c.bytes x.sz) x.sz = none ∨ ∃ P nx, decP (c.bytes x.sz) x.sz = some (P, nx) ∧ (i ∈ l ∨ 16384 < lenSum ps + P.length))
/-- What walk answers. -/
def WkEnd (x : Rp) (first : Int) (J Jx : List Nat → List (List Int) → World → Prop) (e : Ending) (w : World) : Prop :=
  ∃ l ps, (∃ i : Int, Wk x first l ps i ∧ J l ps w ∧ ((i < 0 ∧ e = .returned (.int .i64 0)) ∨ (0 ≤ i ∧ Wrong x l ps i.toNat ∧ e = .returned (.int .i64 (if (∀ c, x.now[i.toNat]? = some c → c.used = false) ∧ i = first then 14 else 22))))) ∨ (Jx l ps w ∧ e = .returned (.int .i64 0))
def mC (l : List Nat) : Int → Option Value := fun i => if 0 ≤ i ∧ i.toNat ∈ l then some (.int .i64 1) else none
theorem zInt (w : World) : (zeroValue 3).run Tryz.prog w = .ok (.int .i64 0) w := by kernel_rfl

theorem decP_some {b P : List Int} {nx sz : Nat} (h : decP b sz = some (P, nx)) : pgL P nx sz = b ∧ nx ≤ 65535 ∧ 1 ≤ P.length ∧ P.length + 5 ≤ sz ∧ (0 < nx → P.length + 5 = sz) := by
  obtain ⟨n1, hn1⟩ : ∃ n, (b.getD 1 0).toNat + 256 * (b.getD 2 0).toNat = n := ⟨_, rfl⟩
  obtain ⟨n2, hn2⟩ : ∃ n, (b.getD 3 0).toNat + 256 * (b.getD 4 0).toNat = n := ⟨_, rfl⟩
  unfold decP at h
  simp only [hn1, hn2] at h
  split at h
  · cases h
  · rename_i hc
    simp only [not_or, Decidable.not_not] at hc
    obtain ⟨c1, c2, c3, c4⟩ := hc
    injection h with h
    injection h with h1 h2
    subst h2
    rw [h1] at c4
    have e1 : (b.getD 1 0) = ((n1 % 256 : Nat) : Int) := by rw [← c4]; simp [pgL]
    have e2 : (b.getD 2 0) = ((n1 / 256 % 256 : Nat) : Int) := by rw [← c4]; simp [pgL]
    have e3 : (b.getD 3 0) = ((P.length % 256 : Nat) : Int) := by rw [← c4]; simp [pgL]
    have e4 : (b.getD 4 0) = ((P.length / 256 % 256 : Nat) : Int) := by rw [← c4]; simp [pgL]
    rw [e1, e2] at hn1
    rw [e3, e4] at hn2
    have hPl : P.length ≤ n2 := by rw [← h1]; simp; omega
    refine ⟨c4, by omega, by omega, by omega, fun h0 => ?_⟩
    have : ¬ n2 < sz - 5 := fun e => c3 ⟨h0, e⟩
    omega
theorem mC_nil : mC [] = fun _ => none := by funext i; simp [mC]
theorem mC_at (l : List Nat) (k : Nat) : mC l (k : Int) = if k ∈ l then some (.int .i64 1) else none := by unfold mC; simp
theorem mC_more (l : List Nat) (k : Nat) : upd (mC l) (k : Int) (some (.int .i64 1)) = mC (l ++ [k]) := by
  funext i
  by_cases h : i = (k : Int)
  · subst h; rw [upd_same, mC_at]; simp
  · rw [upd_other h]
    unfold mC
    by_cases h0 : 0 ≤ i
    · have : i.toNat ≠ k := by omega
      simp [h0, this]
    · simp [h0]
theorem Wk.nd {x : Rp} {first i : Int} {l : List Nat} {ps : List (List Int)} (h : Wk x first l ps i) : l.Nodup ∧ (∀ j ∈ l, j < x.now.length) ∧ lenSum ps ≤ 16384 ∧ (l = [] ∧ i = first ∨ -1 ≤ i ∧ i ≤ 65535) := by
  induction h with
  | nil => exact ⟨List.nodup_nil, fun j hj => by simp at hj, Nat.zero_le _, .inl ⟨rfl, rfl⟩⟩
  | @snoc l ps i c P nx h1 h2 h3 h4 h5 h6 ih =>
    refine ⟨List.nodup_append.2 ⟨ih.1, by simp, fun a ha b hb e => ?_⟩, fun j hj => ?_, ?_, .inr ⟨by omega, ?_⟩⟩
    · simp only [List.mem_singleton] at hb; subst hb; exact h5 (e ▸ ha)
    · rcases List.mem_append.1 hj with e | e
      · exact ih.2.1 j e
      · simp only [List.mem_singleton] at e; subst e; exact (List.getElem?_eq_some_iff.1 h2).1
    · unfold lenSum at h6 ⊢
      simp only [List.map_append, List.sum_append, List.map_cons, List.map_nil, List.sum_cons, List.sum_nil]
      omega
    · have := (decP_some h4).2.1; omega
theorem Wk.len {x : Rp} {first i : Int} {l : List Nat} {ps : List (List Int)} (h : Wk x first l ps i) : l.length ≤ x.now.length := by
  have := List.Nodup.length_le_of_subset h.nd.1 (l₂ := List.range x.now.length) fun s hs => List.mem_range.2 (h.nd.2.1 s hs)
  rwa [List.length_range] at this

set_option maxRecDepth 100000 in
set_option maxHeartbeats 3200000 in
theorem walk_any (p f : Nat) (first : Int) (F : Nat → Prop) (x : Rp) (lb : Array Value) (J Jx : List Nat → List (List Int) → World → Prop) (w : World)
    (hf : ∀ args w, (callFunc f args).run Tryz.prog w = .ok (.enter f args) w)
    (hgp : ∀ l ps W, J l ps W → GP W p F x)
    (hst : ∀ l ps W W', J l ps W → Chg (fun j => F j ∨ j = w.heap.size) W W' → GP W' p F x → J l ps W')
    (hy : ∀ l ps (i : Nat) P g c W0 W nx, J l ps W0 → W0.heap.size ≤ g → Chg (fun j => F j ∨ j = w.heap.size) W0 W → GP W p F x → Wk x first (l ++ [i]) (ps ++ [P]) nx → Sl W 1 (some ⟨g, 5, none⟩) P.length (bv P) → w.heap.size < g → ¬ F g → P.length ≤ c →
      Calls Tryz.prog f (#[.int .i64 i, .slice (some ⟨g, 5, none⟩) P.length c] ++ lb) W (fun e W' => Chg (fun j => j ≠ w.heap.size) W W' ∧ Rounded (J (l ++ [i]) (ps ++ [P])) (Jx (l ++ [i]) (ps ++ [P])) e W')) (h0 : J [] [] w)
    (hF0 : ∀ j, F j → j < w.heap.size) (hfi : -9223372036854775808 ≤ first ∧ first ≤ 9223372036854775807) :
    Calls Tryz.prog 98 #[.pointer (some ⟨p, 0, none⟩), .int .i64 first, .func (.func f) #[] lb] w fun e w' => WkEnd x first J Jx e w' := by
  have hmm := @run_makeMap Tryz.prog
  have hszx := (hgp _ _ _ h0).szs
  obtain ⟨b0, hb0⟩ : ∃ b0, w.heap.size = b0 := ⟨_, rfl⟩
  obtain ⟨W1, hW1⟩ : ∃ W, w.alloc (.map #[] 0) = W := ⟨_, rfl⟩
  have hJ1 : J [] [] W1 ∧ IMap Tryz.prog 3 W1 b0 (mC []) 0 := by
    subst hW1
    refine ⟨hst _ _ _ _ h0 ((Chg.refl _ _).alloc _) ((hgp _ _ _ h0).grew ((Chg.refl _ _).alloc _)), ?_⟩
    rw [mC_nil, ← hb0]
    exact IMap.made _ _ _
  rw [hb0] at hst hy hF0
  have H := Lib.hid (And.intro hgp (And.intro hst (And.intro hy hF0)))
  have HJ1 := Lib.hid hJ1
  obtain ⟨N, hN⟩ : ∃ N, x.now.length = N := ⟨_, rfl⟩
  have HN := Lib.hid hN
  have hN4 : N ≤ 4096 := by omega
  have HW1 := Lib.hid hW1
  have Hb0 := Lib.hid hb0
  have Hw0 := Lib.hid (show 0 < b0 from hb0 ▸ tab_pos (hgp _ _ _ h0).tab)
  clear hgp hst hy h0 hF0 hb0 hJ1 hN hW1
  go_enter Tryz.func98, Tryz.ntmps98
  go_wp2_with (first | (rw [HW1.out]) | (rw [Hb0.out]))
  go_loopg [8, 9] (N + 1) (fun q t v wr => ∃ (l : List Nat) (ps : List (List Int)) (i : Int), q = N + 1 - l.length ∧ Wk x first l ps i ∧ J l ps wr ∧ IMap Tryz.prog 3 wr b0 (mC l) l.length ∧ t = .int .i64 (lenSum ps) ∧ v = .int .i64 i)
  case atStart => exact ⟨[], [], first, rfl, .nil, HJ1.out.1, HJ1.out.2, rfl, rfl⟩
  case round =>
    obtain ⟨l, ps, i, rfl, hwk, hJ, hM, rfl, rfl⟩ := hrel
    have HK := Lib.hid (And.intro hwk (And.intro hJ hM))
    obtain ⟨TT, hTT⟩ : ∃ TT, lenSum ps = TT := ⟨_, rfl⟩
    have HT := Lib.hid hTT
    have hT16 : TT ≤ 16384 := hTT ▸ hwk.nd.2.2.1
    have hll := hwk.len
    have hib : -9223372036854775808 ≤ i ∧ i ≤ 9223372036854775807 := by
      rcases hwk.nd.2.2.2 with ⟨-, rfl⟩ | e
      · exact hfi
      · omega
    rw [hTT]
    have hgpw := H.out.1 _ _ _ hJ
    have HG := Lib.hid hgpw
    clear hwk hJ hM hTT hgpw
    obtain ⟨ib1, ib2⟩ := hib
    by_cases hneg : i < 0
    · have t1 : decide ((0 : Int) ≤ i) = false := decide_eq_false (by omega)
      go_wp2
      go_ret
      exact ⟨l, ps, .inl ⟨i, HK.out.1, HK.out.2.1, .inl ⟨hneg, rfl⟩⟩⟩
    · have t1 : decide ((0 : Int) ≤ i) = true := decide_eq_true (by omega)
      obtain ⟨k, rfl⟩ := Int.eq_ofNat_of_zero_le (show 0 ≤ i by omega)
      by_cases hused : ∃ c, x.now[k]? = some c ∧ c.used = true
      · obtain ⟨c, hc1, hc2⟩ := hused
        have hcp := cpart_any p k F x c wr HG.out hc1 hc2
        obtain ⟨o, ho⟩ : ∃ o, decP (c.bytes x.sz) x.sz = o := ⟨_, rfl⟩
        rw [ho] at hcp
        have HC := Lib.hid (And.intro hc1 (And.intro hc2 ho))
        have HP := Lib.hid hcp
        clear hc1 hc2 ho hcp hneg
        cases o with
        | none =>
          have hwr : Wrong x l ps k := .inr ⟨c, HC.out.1, HC.out.2.1, .inl HC.out.2.2⟩
          have HWr := Lib.hid hwr
          clear hwr
          by_cases hfirst : (k : Int) = first
          · have t2 : ((k : Int) == first) = true := by simp [hfirst]
            clear hfirst
            go_wp2_with (go_at_call 126; (refine HP.out.mono ?_); rintro e w3 ⟨hg3, hc3, rfl⟩; have H3 := Lib.hid (And.intro hg3 hc3); clear hg3 hc3)
            go_ret
            refine ⟨l, ps, .inl ⟨k, HK.out.1, H.out.2.1 _ _ _ _ HK.out.2.1 (H3.out.2.mono fun _ _ e => .inl e) H3.out.1, .inr ⟨by omega, HWr.out, ?_⟩⟩⟩
            rw [if_neg (fun e => by have := e.1 c HC.out.1; rw [HC.out.2.1] at this; cases this)]
            rfl
          · have t2 : ((k : Int) == first) = false := by simpa using hfirst
            clear hfirst
            go_wp2_with (go_at_call 126; (refine HP.out.mono ?_); rintro e w3 ⟨hg3, hc3, rfl⟩; have H3 := Lib.hid (And.intro hg3 hc3); clear hg3 hc3)
            go_ret
            refine ⟨l, ps, .inl ⟨k, HK.out.1, H.out.2.1 _ _ _ _ HK.out.2.1 (H3.out.2.mono fun _ _ e => .inl e) H3.out.1, .inr ⟨by omega, HWr.out, ?_⟩⟩⟩
            rw [if_neg (fun e => by have := e.1 c HC.out.1; rw [HC.out.2.1] at this; cases this)]
            rfl
        | some y =>
          obtain ⟨P, nx⟩ := y
          have hds := decP_some HC.out.2.2
          have hPl : P.length ≤ 4096 := by omega
          have hnx5 : nx ≤ 65535 := hds.2.1
          have hk4 : k < 4096 := by have := (List.getElem?_eq_some_iff.1 HC.out.1).1; omega
          clear hds
          go_wp2_with fail
          refine HP.out.mono ?_
          rintro e w3 ⟨hg3, hc3, g, cc, rfl, hcc, hsl, hgb, hgF⟩
          have hb0w : b0 < wr.heap.size := HK.out.2.2.lt
          have hM3 := HK.out.2.2.chg hc3 (fun e => by have := H.out.2.2.2 _ e; omega)
          have hlk := hM3.look (t := 158) kInt Tryz.underlying3 Tryz.underlying158 (zInt w3) (i := (k : Int)) (wfInt (by omega) (by omega))
          rw [mC_at] at hlk
          have H3 := Lib.hid (And.intro hg3 (And.intro hc3 (And.intro hM3 (And.intro hsl (And.intro (show b0 < g by omega) (And.intro hgF hgb))))))
          have hstop : (k ∈ l ∨ 16384 < TT + P.length) → WkEnd x first J Jx (.returned (.int .i64 22)) w3 := fun hbad => by
            refine ⟨l, ps, .inl ⟨k, HK.out.1, H.out.2.1 _ _ _ _ HK.out.2.1 (hc3.mono fun _ _ e => .inl e) hg3, .inr ⟨by omega, .inr ⟨c, HC.out.1, HC.out.2.1, .inr ⟨P, nx, HC.out.2.2, by rw [HT.out]; exact hbad⟩⟩, ?_⟩⟩⟩
            rw [if_neg (fun e => by have := e.1 c HC.out.1; rw [HC.out.2.1] at this; cases this)]
          have HS := Lib.hid hstop
          clear hg3 hc3 hM3 hsl hgb hgF hstop
          by_cases hkl : k ∈ l
          · rw [if_pos hkl] at hlk
            simp only [Option.getD_some] at hlk
            go_wp2
            go_ret
            exact HS.out (.inl hkl)
          · rw [if_neg hkl] at hlk
            simp only [Option.getD_none] at hlk
            by_cases htot : 16384 < TT + P.length
            · have t5 : decide ((16384 : Int) < (TT : Int) + (P.length : Int)) = true := decide_eq_true (by omega)
              go_wp2
              go_ret
              exact HS.out (.inr htot)
            · have t5 : decide ((16384 : Int) < (TT : Int) + (P.length : Int)) = false := decide_eq_false (by omega)
              obtain ⟨W4, hput, hM4, hc4⟩ := H3.out.2.2.1.put (t := 158) kInt Tryz.underlying3 Tryz.underlying158 (by simp only [maxLen]; omega) (i := (k : Int)) (wfInt (by omega) (by omega)) (.int .i64 1)
              rw [mC_more, mC_at, if_neg hkl] at hM4
              simp only [Option.isSome_none, Bool.false_eq_true, if_false] at hM4
              have H4 := Lib.hid (And.intro hM4 (And.intro hc4 (And.intro hkl htot)))
              have hwk2 : Wk x first (l ++ [k]) (ps ++ [P]) ((nx : Int) - 1) := .snoc HK.out.1 HC.out.1 HC.out.2.1 HC.out.2.2 hkl (by rw [HT.out]; omega)
              have HWk2 := Lib.hid hwk2
              have hll2 : (l ++ [k]).length ≤ N := by have := hwk2.len; rw [HN.out] at this; exact this
              have hls : lenSum (ps ++ [P]) = TT + P.length := by
                rw [← HT.out]
                unfold lenSum
                simp [List.sum_append]
              have HLs := Lib.hid hls
              clear hM4 hc4 hkl htot HS hwk2 hls
              go_wp2_with fail
              have hgp4 : GP W4 p F x := H3.out.1.chg H4.out.2.1 (fun j hj e => by have := H.out.2.2.2 j hj; omega) (fun e => by have := tab_pos H3.out.1.tab; have := Hb0.out; have := HG.out.zero; have h0 := HJ1.out.2.lt; have := tab_pos (HG.out.tab); have hw0 := Hw0.out; omega)
              refine (H.out.2.2.1 l ps k P g cc wr W4 _ HK.out.2.1 H3.out.2.2.2.2.2.2 (Chg.trans (H3.out.2.1.mono fun _ _ e => .inl e) H4.out.2.1 fun i _ e => .inr e) hgp4 HWk2.out (H3.out.2.2.2.1.chg H4.out.2.1 (fun a ha e => by injection ha with ha; subst ha; have := H3.out.2.2.2.2.1; simp only at e; omega)) H3.out.2.2.2.2.1 H3.out.2.2.2.2.2.1 hcc).mono ?_
              clear hgp4 hlk hput
              rintro e w5 ⟨hcg, (⟨rfl, hJ5⟩ | ⟨rfl, hJ5⟩)⟩
              · have H5 := Lib.hid (And.intro hJ5 hcg)
                clear hJ5 hcg
                go_wp2_with fail
                go_roundg (N + 1 - (l ++ [k]).length)
                case measure =>
                  have e : (l ++ [k]).length = l.length + 1 := by simp
                  rw [e] at hll2 ⊢
                  omega
                case rel => exact ⟨l ++ [k], ps ++ [P], (nx : Int) - 1, rfl, HWk2.out, H5.out.1, by have := H4.out.1.chg H5.out.2 (fun e => e rfl); simpa using this, by rw [HLs.out]; simp, rfl⟩
              · have H5 := Lib.hid hJ5
                clear hJ5 hcg
                go_wp2_with fail
                go_ret
                exact ⟨l ++ [k], ps ++ [P], .inr ⟨H5.out, rfl⟩⟩
      · have hno : ∀ c, x.now[k]? = some c → c.used = false := fun c hc => by cases e : c.used with | false => rfl | true => exact absurd ⟨c, hc, e⟩ hused
        have hcp := cpart_none p k F x wr HG.out (by
          by_cases e : k < x.now.length
          · refine .inr (.inr ?_)
            rw [Int.toNat_natCast, List.getElem?_eq_getElem e]
            have := hno _ (List.getElem?_eq_getElem e)
            revert this
            generalize x.now[k] = c
            cases c <;> simp [Pk.used]
          · exact .inr (.inl (by omega)))
        have HP := Lib.hid hcp
        have HWr := Lib.hid (And.intro hno (show Wrong x l ps k from .inl hno))
        clear hno hcp hused hneg
        by_cases hfirst : (k : Int) = first
        · have t2 : ((k : Int) == first) = true := by simp [hfirst]
          have HF := Lib.hid hfirst
          clear hfirst
          go_wp2_with (go_at_call 126; (refine HP.out.mono ?_); rintro e w3 ⟨rfl, rfl⟩)
          go_ret
          refine ⟨l, ps, .inl ⟨k, HK.out.1, HK.out.2.1, .inr ⟨by omega, HWr.out.2, ?_⟩⟩⟩
          rw [if_pos ⟨HWr.out.1, HF.out⟩]
          rfl
        · have t2 : ((k : Int) == first) = false := by simpa using hfirst
          have HF := Lib.hid hfirst
          clear hfirst
          go_wp2_with (go_at_call 126; (refine HP.out.mono ?_); rintro e w3 ⟨rfl, rfl⟩)
          go_ret
          refine ⟨l, ps, .inl ⟨k, HK.out.1, HK.out.2.1, .inr ⟨by omega, HWr.out.2, ?_⟩⟩⟩
          rw [if_neg (fun e => HF.out e.2)]
          rfl

end Go.Proofs.YtjkkoogfaibhiaaGreatDoor

/- A drawn region whose last operations write what its loads read, and wait for the loads through another one. No program stands in this text. -/
namespace Go.Proofs.YtjkkoogfaibhiaaGreatDoor
open Go.RowKit

section
variable {P : Program} {ops : Array Oper} {Q : Exit → Act → World → Prop} {md : Region.Mode} {S : World → Prop} {X : List Nat}

/-- All of X wait for i, or for one of M. -/
def waitsM (md : Region.Mode) (ops : Array Oper) (X M : List Nat) (i : Nat) : Bool := X.all fun j => match ops[j]? with
  | some o => o.after.any fun e => Region.binds md e && (e.on == i || M.contains e.on)
  | none => true
theorem wpAnyX_firstM {i : Nat} {oi : Oper} {v : Value} {M : List Nat} (hi : ops[i]? = some oi) (hsel : ∀ (j : Nat) (o : Oper) cs b, ops[j]? = some o → o.op ≠ .select cs b)
    (hQ : ∀ c a w, Q (.panic c) (a.put oi.dst v) w → Q (.panic c) a w) (hX : waitsM md ops X M i = true) (hM : waitsB md ops M i = true) (fuel : Nat) : ∀ (listed : Array Bool) (a : Act) (w : World),
      (∀ j oj, ops[j]? = some oj → j ≠ i → listed.getD j true = false → (∀ e ∈ oj.after, Region.binds md e = true → e.on ≠ i) → oi.apart ops oj = true) →
      (∀ k ∈ M, listed.getD k true = false) →
      i ∈ Region.ready md ops listed → YieldsIf P ops S oi v a → S w →
      wpAnyX P md ops Q S X fuel (listed.setIfInBounds i true) (a.put oi.dst v) w → wpAnyX P md ops Q S X (fuel + 1) listed a w := by
  induction fuel with
  | zero =>
    intro listed a w _ _ hr hy hS H
    refine ⟨fun h => absurd hr (by rw [h]; simp), fun j hj => ?_⟩
    rcases Nat.decEq j i with hji | hji
    · have := ready_mono hj hji
      rw [H.1] at this
      cases this
    · subst hji
      exact hy.wpOp hi hS ⟨fun _ => hS, H⟩
  | succ fuel ih =>
    intro listed a w hfree hml hr hy hS H
    refine ⟨fun h => absurd hr (by rw [h]; simp), fun j hj => ?_⟩
    rcases Nat.decEq j i with hji | hji
    · obtain ⟨hun, oj, hoj, hall⟩ := mem_ready.1 hj
      have hiun := (mem_ready.1 hr).1
      have hnot : ∀ e ∈ oj.after, Region.binds md e = true → e.on ≠ i := by
        intro e he hb heq
        have hl := hall e he hb
        rw [heq] at hl
        by_cases hsz : i < listed.size
        · simp [hsz] at hiun hl; rw [hiun] at hl; cases hl
        · simp [Array.getElem?_eq_none (Nat.le_of_not_lt hsz)] at hl
      have hnotM : ∀ e ∈ oj.after, Region.binds md e = true → e.on ∉ M := by
        intro e he hb hm
        have hl := hall e he hb
        have hun' := hml _ hm
        by_cases hsz : e.on < listed.size
        · simp [hsz] at hun' hl; rw [hun'] at hl; cases hl
        · simp [Array.getElem?_eq_none (Nat.le_of_not_lt hsz)] at hl
      have hjM : j ∉ M := fun hm => by
        have h1 := List.all_eq_true.1 hM j hm
        rw [hoj] at h1
        obtain ⟨e, he, hb⟩ := Array.any_eq_true'.1 h1
        simp only [Bool.and_eq_true, beq_iff_eq] at hb
        exact hnot e he hb.1 hb.2
      have step := wpOp_putIf hoj (hfree j oj hoj hji hun hnot) (fun cs b => hsel i oi cs b hi) (fun cs b => hsel j oj cs b hoj) hQ hy (H.2 j (ready_mono hj hji))
      have hnx : X.contains j = false := by
        cases hc : X.contains j with
        | false => rfl
        | true =>
          have h1 := List.all_eq_true.1 hX j (by simpa using hc)
          rw [hoj] at h1
          obtain ⟨e, he, hb⟩ := Array.any_eq_true'.1 h1
          simp only [Bool.and_eq_true, Bool.or_eq_true, beq_iff_eq] at hb
          rcases hb.2 with e2 | e2
          · exact absurd e2 (hnot e he hb.1)
          · exact absurd (by simpa using e2) (hnotM e he hb.1)
      refine wpOp_mono (fun a' w' h3 => ?_) step
      have hS' := h3.2.1 hnx
      refine ⟨fun _ => hS', ih (listed.setIfInBounds j true) a' w' (fun k ok hk hki hkun hno => hfree k ok hk hki ?_ hno) (fun k hk => ?_) (ready_mono hr (Ne.symm hji)) h3.1 hS' (by rw [Array.setIfInBounds_comm _ _ hji]; exact h3.2.2)⟩
      · rcases Nat.decEq j k with hjk | hjk
        · rwa [getD_set_ne true hjk] at hkun
        · exact hjk ▸ hun
      · have hjk : j ≠ k := fun e => hjM (e ▸ hk)
        rw [getD_set_ne true hjk]
        exact hml k hk
    · subst hji
      exact hy.wpOp hi hS ⟨fun _ => hS, H⟩
theorem wpAnyX_takeM (M : List Nat) {i : Nat} {oi : Oper} {v : Value} {fuel : Nat} {listed : Array Bool} {a : Act} {w : World} (hi : ops[i]? = some oi)
    (hs : Region.noSelect ops = true) (hf : Region.free md ops listed i = true) (hr : (Region.ready md ops listed).contains i = true) (hX : waitsM md ops X M i = true) (hM : waitsB md ops M i = true) (hml : (M.all fun k => listed.getD k true == false) = true)
    (hQ : ∀ c a w, Q (.panic c) (a.put oi.dst v) w → Q (.panic c) a w) (hy : YieldsIf P ops S oi v a) (hS : S w)
    (h : wpAnyX P md ops Q S X fuel (listed.setIfInBounds i true) (a.put oi.dst v) w) : wpAnyX P md ops Q S X (fuel + 1) listed a w :=
  wpAnyX_firstM hi (Region.noSelect_spec hs) hQ hX hM fuel listed a w (Region.free_spec hi hf) (fun k hk => by simpa using List.all_eq_true.1 hml k hk) (by simpa using hr) hy hS h
end

end Go.Proofs.YtjkkoogfaibhiaaGreatDoor

/- The chain: all. -/
namespace Go.Proofs.YtjkkoogfaibhiaaGreatDoor
open Go.RowKit Go.Maps

theorem own_ne_own {w : World} {b1 b2 n1 n2 s1 s2 : Nat} {e1 e2 : TypeId} {v1 v2 : Value} {xs ys : List Value} (h : w.ownsRow b1 e1 s1 v1 n1 xs) (k : w.ownsRow b2 e2 s2 v2 n2 ys) (he : e1 ≠ e2) : ∀ g, v2.ownBlock = some g → v1.ownBlock ≠ some g := by
  intro g hg h1
  rcases h.2 with ⟨rfl, _⟩ | ⟨g1, c1, cur1, rfl, _, hh, _⟩
  · simp [Value.ownBlock] at h1
  · have e : g1 = g := by simpa [Value.ownBlock] using h1
    subst e
    exact own_blk_ne k (show Blk w g1 e1 cur1 from hh) (Ne.symm he) hg

theorem grown_chg {w w' : World} {row : Option Nat} (h : w.grownBy w' row) : Chg (fun j => some j = row) w w' := ⟨h.os, h.tape, h.output, h.size, fun k hk hn => h.block k hk hn⟩
/-- The pages and the record so far. -/
structure AllJ (w W : World) (a0 p : Nat) (F : Nat → Prop) (x : Rp) (l : List Nat) (ps : List (List Int)) (v1 v2 : Value) : Prop where
  gp : GP W p F x
  chg : Chg F w W
  b1 : Blk W a0 39 #[v1]
  b2 : Blk W (a0 + 1) 34 #[v2]
  r1 : W.ownsRow (a0 + 3) 3 1 v1 l.length (nv l)
  r2 : W.ownsRow (a0 + 3) 5 1 v2 (lenSum ps) (bv ps.flatten)
  sz : w.heap.size = a0
  lt : ∀ j, F j → j < a0
  big : a0 + 2 ≤ W.heap.size
  pos : 0 < a0
section
variable {w W W' : World} {a0 p : Nat} {F : Nat → Prop} {x : Rp} {l : List Nat} {ps : List (List Int)} {v1 v2 v1' v2' : Value}
theorem AllJ.far (h : AllJ w W a0 p F x l ps v1 v2) (hc : Chg (fun j => F j ∨ j = a0 + 2) W W') (hg : GP W' p F x) : AllJ w W' a0 p F x l ps v1 v2 := by
  have hsz := h.sz
  refine ⟨hg, Chg.trans h.chg hc fun i hi e => e.elim id fun e => by omega, h.b1.chg hc ?_, h.b2.chg hc ?_, own_chg h.r1 hc fun g hg e => ?_, own_chg h.r2 hc fun g hg e => ?_, hsz, h.lt, Nat.le_trans h.big hc.size, h.pos⟩
  · rintro (e | e)
    · have := h.lt _ e; omega
    · omega
  · rintro (e | e)
    · have := h.lt _ e; omega
    · omega
  · have := (h.r1.lt g hg).1
    rcases e with e | e
    · have := h.lt _ e; omega
    · omega
  · have := (h.r2.lt g hg).1
    rcases e with e | e
    · have := h.lt _ e; omega
    · omega
end

set_option maxRecDepth 100000 in
set_option maxHeartbeats 3200000 in
theorem allyield_any (a0 p i g c : Nat) (F : Nat → Prop) (x : Rp) (l : List Nat) (ps : List (List Int)) (P : List Int) (v1 v2 : Value) (w W : World) (h : AllJ w W a0 p F x l ps v1 v2) (hl : l.length ≤ 5000) (hps : lenSum ps ≤ 20000) (hP : 1 ≤ P.length ∧ P.length ≤ 20000)
    (hs : Sl W 1 (some ⟨g, 5, none⟩) P.length (bv P)) (hg1 : v1.ownBlock ≠ some g) (hW : a0 + 3 ≤ W.heap.size) :
    Calls Tryz.prog 99 #[.int .i64 i, .slice (some ⟨g, 5, none⟩) P.length c, .pointer (some ⟨a0, 0, none⟩), .pointer (some ⟨a0 + 1, 0, none⟩)] W fun e W' => e = .returned (.bool true) ∧ Chg (fun j => j ≠ a0 + 2) W W' ∧ ∃ v1' v2', AllJ w W' a0 p F x (l ++ [i]) (ps ++ [P]) v1' v2' := by
  obtain ⟨i0, hi0, hz0, hz1, hz2⟩ := info_parts u8Info_
  have H := Lib.hid (And.intro h hs)
  have hb1 := (h.b1.drew).cell 0
  have hb2 := (h.b2.drew).cell 0
  obtain ⟨A1, k1, rfl, -⟩ := own_shape h.r1
  obtain ⟨A2, k2, rfl, -⟩ := own_shape h.r2
  have hlt := h.b2.lt
  clear h hs
  go_enter Tryz.func99, Tryz.ntmps99
  go_wp2
  refine wp_region_x [7, 8] (S := fun w' => w'.cell? ⟨a0, 0, none⟩ = some (.slice A1 l.length k1) ∧ w'.cell? ⟨a0 + 1, 0, none⟩ = some (.slice A2 (lenSum ps) k2)) (by kernel_rfl) ⟨hb1, hb2⟩ (fun hHeld => ?_)
  refine wpAnyX_takeM [6] (i := 4) (v := ?_) rfl (by kernel_rfl) (by kernel_rfl) (by kernel_rfl) (by kernel_rfl) (by kernel_rfl) (by kernel_rfl) (fun _ _ _ h => h) (Or.inl ⟨by rfl, ?_⟩) hHeld ?_
  rotate_left
  · (intro w hSw; (try dsimp only at hSw); go_simp) <;> with_reducible rfl
  (try simp only [Act.put, List.setIfInBounds_toArray, List.set_cons_zero, List.set_cons_succ, List.getElem_toArray, List.getElem_cons_zero, List.getElem_cons_succ])
  refine wpAnyX_takeM [6] (i := 5) (v := ?_) rfl (by kernel_rfl) (by kernel_rfl) (by kernel_rfl) (by kernel_rfl) (by kernel_rfl) (by kernel_rfl) (fun _ _ _ h => h) (Or.inl ⟨by rfl, ?_⟩) hHeld ?_
  rotate_left
  · (intro w hSw; (try dsimp only at hSw); go_simp) <;> with_reducible rfl
  (try simp only [Act.put, List.setIfInBounds_toArray, List.set_cons_zero, List.set_cons_succ, List.getElem_toArray, List.getElem_cons_zero, List.getElem_cons_succ])
  refine wpAnyX_take (i := 0) (v := ?_) rfl (by kernel_rfl) (by kernel_rfl) (by kernel_rfl) (by kernel_rfl) (fun _ _ _ h => h) (Or.inl ⟨by rfl, ?_⟩) hHeld ?_
  rotate_left
  · (intro w hSw; (try dsimp only at hSw); go_simp) <;> with_reducible rfl
  (try simp only [Act.put, List.setIfInBounds_toArray, List.set_cons_zero, List.set_cons_succ, List.getElem_toArray, List.getElem_cons_zero, List.getElem_cons_succ])
  refine wpAnyX_take (i := 1) (v := ?_) rfl (by kernel_rfl) (by kernel_rfl) (by kernel_rfl) (by kernel_rfl) (fun _ _ _ h => h) (Or.inl ⟨by rfl, ?_⟩) hHeld ?_
  rotate_left
  · (intro w hSw; (try dsimp only at hSw); go_simp) <;> with_reducible rfl
  (try simp only [Act.put, List.setIfInBounds_toArray, List.set_cons_zero, List.set_cons_succ, List.getElem_toArray, List.getElem_cons_zero, List.getElem_cons_succ])
  refine wpAnyX_ready (rs := [2]) (by kernel_rfl) (by simp) ?_
  refine AllReadyX.cons rfl (fun K hK => ?_) AllReadyX.nil
  go_simp
  have hS2 : (W.drew.alloc (.cells #[.int .i64 i] 3)).cell? ⟨a0, 0, none⟩ = some (.slice A1 l.length k1) ∧ (W.drew.alloc (.cells #[.int .i64 i] 3)).cell? ⟨a0 + 1, 0, none⟩ = some (.slice A2 (lenSum ps) k2) := ⟨((H.out.1.b1.drew).alloc _).cell 0, ((H.out.1.b2.drew).alloc _).cell 0⟩
  refine hK.out _ _ (fun _ => hS2) ?_
  clear hK K
  (try simp only [Act.put, List.setIfInBounds_toArray, List.set_cons_zero, List.set_cons_succ, List.getElem_toArray, List.getElem_cons_zero, List.getElem_cons_succ])
  refine wpAnyX_ready (rs := [3]) (by kernel_rfl) (by simp) ?_
  refine AllReadyX.cons rfl (fun K hK => ?_) AllReadyX.nil
  refine step_app_int (by rfl) (.tmp 7) (.tmp 9) (by rfl) (a0 + 3) (.slice A1 l.length k1) l.length (nv l) (by rfl) (own_grew H.out.1.r1 ((Chg.refl _ _).drew)) i (by rfl) (by omega) (by simpa using hW) ?_
  intro v1' w1 ho1 ha1
  obtain ⟨A1', k1', rfl, -⟩ := own_shape ho1
  have hsz := H.out.1.sz
  have hbl : ∀ j, j < a0 + 3 → ¬ (Value.slice A1 l.length k1).ownBlock = some j := fun j hj e => by have := (H.out.1.r1.lt j e).1; omega
  have hc1 : Chg (fun j => (Value.slice A1 l.length k1).ownBlock = some j) W w1 := Grew.then ((Chg.refl NoF W).drew) ha1.chg
  have hB1 := H.out.1.b1.chg hc1 (hbl _ (by omega))
  have hB2 := H.out.1.b2.chg hc1 (hbl _ (by omega))
  have hR2 := own_chg H.out.1.r2 hc1 (own_ne_own H.out.1.r1 H.out.1.r2 (by decide))
  have hs1 := H.out.2.chg hc1 (fun a ha e => by injection ha with ha; subst ha; exact hg1 e)
  have hS3 : w1.cell? ⟨a0, 0, none⟩ = some (.slice A1 l.length k1) ∧ w1.cell? ⟨a0 + 1, 0, none⟩ = some (.slice A2 (lenSum ps) k2) := ⟨hB1.cell 0, hB2.cell 0⟩
  have hbig1 : a0 + 3 ≤ w1.heap.size := Nat.le_trans hW hc1.size
  obtain ⟨v2', w2, hr2, ho2, hg2, -⟩ := run_append_own (P := Tryz.prog) w1 (a0 + 3) 34 34 5 i0 _ 1 1 Tryz.underlying34 hi0 hz0 hz1 hz2 rfl (by omega) (.slice A2 (lenSum ps) k2) (lenSum ps) (bv ps.flatten) hR2 ⟨g, 5, none⟩ P.length c (bv P) (by rw [bv_len, Nat.mul_one])
    (fun j u hu => by
      obtain ⟨b, o, e, hb, hx⟩ := hs1.2 (by omega)
      cases e
      rw [Addr.add_lit]
      exact hx j u hu) (bv_one P) (by simp only [maxLen]; omega) (by omega) hbig1
  obtain ⟨A2', k2', rfl, -⟩ := own_shape ho2
  have hbl2 : ∀ j, j < a0 + 3 → ¬ some j = (Value.slice A2 (lenSum ps) k2).ownBlock := fun j hj e => by have := (H.out.1.r2.lt j e.symm).1; omega
  have hc2 : Chg (fun j => some j = (Value.slice A2 (lenSum ps) k2).ownBlock) w1 w2 := grown_chg hg2
  have hC1 := hB1.chg hc2 (hbl2 _ (by omega))
  have hC2 := hB2.chg hc2 (hbl2 _ (by omega))
  have hR1 := own_chg ho1 hc2 (fun q hq e => own_ne_own ho1 hR2 (by decide) q e.symm hq)
  have HA := Lib.hid (And.intro hc1 (And.intro hc2 (And.intro hR1 (And.intro ho2 (And.intro hC1 hC2)))))
  have f1 := hC1.frozen 0
  have f2 := hC2.frozen 0
  have l1 := hC1.lt
  have l2 := hC2.lt
  have hS6 : w2.cell? ⟨a0, 0, none⟩ = some (.slice A1 l.length k1) ∧ w2.cell? ⟨a0 + 1, 0, none⟩ = some (.slice A2 (lenSum ps) k2) := ⟨hC1.cell 0, hC2.cell 0⟩
  clear ho1 ha1 hc1 hB1 hB2 hR2 hs1 ho2 hg2 hc2 hC1 hC2 hR1
  refine hK.out _ _ (fun _ => hS3) ?_
  clear hK K
  (try simp only [Act.put, List.setIfInBounds_toArray, List.set_cons_zero, List.set_cons_succ, List.getElem_toArray, List.getElem_cons_zero, List.getElem_cons_succ])
  refine wpAnyX_ready (rs := [6]) (by kernel_rfl) (by simp) ?_
  refine AllReadyX.cons rfl (fun K hK => ?_) AllReadyX.nil
  refine step_append_run (by rfl) (.tmp 11) (.tmp 12) 34 (by rfl) (by rfl) (by rfl) hr2 ?_
  refine hK.out _ _ (fun _ => hS6) ?_
  clear hK K
  (try simp only [Act.put, List.setIfInBounds_toArray, List.set_cons_zero, List.set_cons_succ, List.getElem_toArray, List.getElem_cons_zero, List.getElem_cons_succ])
  refine wpAnyX_ready (rs := [7]) (by kernel_rfl) (by simp) ?_
  refine AllReadyX.cons rfl (fun K hK => ?_) AllReadyX.nil
  go_simp
  refine hK.out _ _ (fun h => by cases h) ?_
  clear hK K
  (try simp only [Act.put, List.setIfInBounds_toArray, List.set_cons_zero, List.set_cons_succ, List.getElem_toArray, List.getElem_cons_zero, List.getElem_cons_succ])
  refine wpAnyX_ready (rs := [8]) (by kernel_rfl) (by simp) ?_
  refine AllReadyX.cons rfl (fun K hK => ?_) AllReadyX.nil
  go_simp
  refine hK.out _ _ (fun h => by cases h) ?_
  clear hK K
  (try simp only [Act.put, List.setIfInBounds_toArray, List.set_cons_zero, List.set_cons_succ, List.getElem_toArray, List.getElem_cons_zero, List.getElem_cons_succ])
  refine wpAnyX_done (by kernel_rfl) ?_ _
  clear hHeld hS2 hS3 hS6 hr2
  go_wp2
  go_ret
  obtain ⟨hc1, hc2, hR1, hR2, hC1, hC2⟩ := HA.out
  have hc3 : Chg (fun j => j = a0 ∨ j = a0 + 1) w2 ((w2.setCell ⟨a0, 0, none⟩ (.slice A1' (l.length + 1) k1')).setCell ⟨a0 + 1, 0, none⟩ (.slice A2' (lenSum ps + P.length) k2')) := ((Chg.refl (fun j => j = a0 ∨ j = a0 + 1) _).setCell (p := ⟨a0, 0, none⟩) (fun _ => .inl rfl) _).setCell (p := ⟨a0 + 1, 0, none⟩) (fun _ => .inr rfl) _
  have hlt := H.out.1.lt
  have hc : Chg (fun j => (j = a0 ∨ j = a0 + 1) ∨ a0 + 3 ≤ j) W ((w2.setCell ⟨a0, 0, none⟩ (.slice A1' (l.length + 1) k1')).setCell ⟨a0 + 1, 0, none⟩ (.slice A2' (lenSum ps + P.length) k2')) :=
    Chg.trans (Chg.trans (hc1.mono fun j _ e => .inr (H.out.1.r1.lt j e).1) hc2 fun j _ e => .inr (H.out.1.r2.lt j e.symm).1) hc3 fun j _ e => .inl e
  refine ⟨rfl, hc.mono fun j _ e => by omega, .slice A1' (l.length + 1) k1', .slice A2' (lenSum ps + P.length) k2', ⟨H.out.1.gp.chg hc (fun j hj e => by have := hlt j hj; omega) (fun e => by have := H.out.1.pos; omega), Chg.trans H.out.1.chg hc fun j hj e => by omega, ?_, ?_, ?_, ?_, hsz, hlt, Nat.le_trans H.out.1.big hc.size, H.out.1.pos⟩⟩
  · have := (hC1.put 0 (.slice A1' (l.length + 1) k1')).far (p := ⟨a0 + 1, 0, none⟩) (by simp) (.slice A2' (lenSum ps + P.length) k2')
    simpa using this
  · have := (hC2.far (p := ⟨a0, 0, none⟩) (by simp) (.slice A1' (l.length + 1) k1')).put 0 (.slice A2' (lenSum ps + P.length) k2')
    simpa using this
  · have e : (l ++ [i]).length = l.length + 1 := by simp
    rw [e]
    have := own_chg hR1 hc3 fun g hg e => by have := (hR1.lt g hg).1; omega
    simpa [nv] using this
  · have e : lenSum (ps ++ [P]) = lenSum ps + P.length := by unfold lenSum; simp [List.sum_append]
    rw [e]
    have := own_chg hR2 hc3 fun g hg e => by have := (hR2.lt g hg).1; omega
    simpa [bv] using this

/-- What all answers. -/
def AllOut (w w' : World) (p : Nat) (F : Nat → Prop) (x : Rp) (first : Int) (e : Ending) : Prop :=
  GP w' p F x ∧ Chg F w w' ∧ ((∃ l ps i A1 c1 A2 c2, Wk x first l ps i ∧ i < 0 ∧ e = .returned (.tuple #[.slice A1 l.length c1, .slice A2 (lenSum ps) c2, .int .i64 0]) ∧
      w'.ownsRow w.heap.size 3 1 (.slice A1 l.length c1) l.length (nv l) ∧ w'.ownsRow w.heap.size 5 1 (.slice A2 (lenSum ps) c2) (lenSum ps) (bv ps.flatten)) ∨
    (∃ l ps i, Wk x first l ps i ∧ 0 ≤ i ∧ Wrong x l ps i.toNat ∧ e = .returned (.tuple #[.slice none 0 0, .slice none 0 0, .int .i64 (if (∀ c, x.now[i.toNat]? = some c → c.used = false) ∧ i = first then 14 else 22)])) ∨
    (first < 0 ∧ e = .returned (.tuple #[.slice none 0 0, .slice none 0 0, .int .i64 14])))

set_option maxRecDepth 100000 in
set_option maxHeartbeats 3200000 in
theorem all_any (p : Nat) (first : Int) (F : Nat → Prop) (x : Rp) (w : World) (h : GP w p F x) (hfi : -9223372036854775808 ≤ first ∧ first ≤ 9223372036854775807) :
    Calls Tryz.prog 67 #[.pointer (some ⟨p, 0, none⟩), .int .i64 first] w fun e w' => AllOut w w' p F x first e := by
  obtain ⟨a0, ha0⟩ : ∃ a0, w.heap.size = a0 := ⟨_, rfl⟩
  obtain ⟨W2, hW2⟩ : ∃ W, (w.alloc (.cells #[.slice none 0 0] 39)).alloc (.cells #[.slice none 0 0] 34) = W := ⟨_, rfl⟩
  have hg2 : Grew w W2 := hW2 ▸ ((Chg.refl _ _).alloc _).alloc _
  have hb1 : Blk W2 a0 39 #[.slice none 0 0] := by subst hW2 ha0; exact (Blk.new _ _ _).alloc _
  have hb2 : Blk W2 (a0 + 1) 34 #[.slice none 0 0] := by
    subst hW2 ha0
    have := Blk.new (w.alloc (.cells #[.slice none 0 0] 39)) 34 #[.slice none 0 0]
    simpa using this
  have hz2 : W2.heap.size = a0 + 2 := by subst hW2 ha0; simp
  have H := Lib.hid (And.intro h (And.intro hg2 (And.intro hb1 (And.intro hb2 (And.intro hz2 (And.intro hW2 ha0))))))
  clear h hg2 hb1 hb2 hz2
  by_cases hneg : first < 0
  · have t1 : decide (first < 0) = true := decide_eq_true hneg
    obtain ⟨c1, f1, s1⟩ := H.out.2.2.1.facts
    obtain ⟨c2, f2, s2⟩ := H.out.2.2.2.1.facts
    have HN := Lib.hid hneg
    clear hneg
    go_enter Tryz.func67, Tryz.ntmps67
    go_wp2_with (first | (rw [hW2]) | (rw [ha0]))
    have hc : Chg (fun j => j = a0 ∨ j = a0 + 1) W2 ((W2.setCell ⟨a0, 0, none⟩ (.slice none 0 0)).setCell ⟨a0 + 1, 0, none⟩ (.slice none 0 0)) := ((Chg.refl (fun j => j = a0 ∨ j = a0 + 1) _).setCell (p := ⟨a0, 0, none⟩) (fun _ => .inl rfl) _).setCell (p := ⟨a0 + 1, 0, none⟩) (fun _ => .inr rfl) _
    have hlt := H.out.1.lt
    have hz := tab_pos H.out.1.tab
    have he := H.out.2.2.2.2.2.2
    refine bodyPost_ret (v := .tuple #[.slice none 0 0, .slice none 0 0, .int .i64 14]) (by simp [results, Tryz.results67, go_sem, c1, f1, s1, c2, f2, s2]) rfl ⟨(H.out.1.grew H.out.2.1).chg hc (fun j hj e => by have := hlt j hj; omega) (by omega), Chg.trans H.out.2.1.chg hc fun j hj e => by omega, .inr (.inr ⟨HN.out, rfl⟩)⟩
  · have t1 : decide (first < 0) = false := decide_eq_false hneg
    have hJ0 : AllJ w W2 a0 p F x [] [] (.slice none 0 0) (.slice none 0 0) := by
      have hlt := H.out.1.lt
      have hz := tab_pos H.out.1.tab
      exact ⟨H.out.1.grew H.out.2.1, H.out.2.1.chg, H.out.2.2.1, H.out.2.2.2.1, World.ownsRow_nil _ _ _ _, World.ownsRow_nil _ _ _ _, ha0, fun j hj => by have := hlt j hj; omega, by have := H.out.2.2.2.2.1; omega, by omega⟩
    have hwalk := walk_any p 99 first F x #[.pointer (some ⟨a0, 0, none⟩), .pointer (some ⟨a0 + 1, 0, none⟩)] (fun l ps W => ∃ v1 v2, AllJ w W a0 p F x l ps v1 v2) (fun _ _ _ => False) W2
      (enters_of Tryz.func99 (by kernel_rfl) rfl)
      (fun l ps W ⟨v1, v2, hJ⟩ => hJ.gp) (fun l ps W W' ⟨v1, v2, hJ⟩ hc hg => ⟨v1, v2, hJ.far (by rw [H.out.2.2.2.2.1] at hc; exact hc) hg⟩)
      (fun l ps i P g c W0 W nx ⟨v1, v2, hJ⟩ hW0 hc hg hwk hs hbg hF hPc => by
        have hJ2 := hJ.far (by rw [H.out.2.2.2.2.1] at hc; exact hc) hg
        have hnd := hwk.nd
        have hln := hwk.len
        have h4 := hg.szs
        have hls : lenSum (ps ++ [P]) = lenSum ps + P.length := by unfold lenSum; simp [List.sum_append]
        have hP1 : 1 ≤ P.length := by
          generalize hq : ps ++ [P] = ps' at hwk
          generalize hq2 : l ++ [i] = l' at hwk
          cases hwk with
          | nil => simp at hq
          | snoc h1 h2 h3 h4 h5 h6 =>
            have := List.append_inj_right' hq (by simp)
            injection this with this
            rw [this]
            exact (decP_some h4).2.2.1
        obtain ⟨bg, og, eg, hgs, -⟩ := hs.2 (by omega)
        have eg' : g = bg := by injection eg with eg; injection eg
        simp only [List.length_append, List.length_singleton] at hln
        have hzz := H.out.2.2.2.2.1
        refine (allyield_any a0 p i g c F x l ps P v1 v2 w W hJ2 (by omega) (by have := hnd.2.2.1; omega) ⟨hP1, by have := hnd.2.2.1; omega⟩ hs (fun e => by have := (hJ.r1.lt g e).2; omega) (by omega)).mono ?_
        rintro e W' ⟨rfl, hcc, v1', v2', hJ'⟩
        exact ⟨by rw [hzz]; exact hcc, .inl ⟨rfl, v1', v2', hJ'⟩⟩)
      ⟨_, _, hJ0⟩ (fun j hj => by have := H.out.1.lt j hj; have := H.out.2.2.2.2.1; omega) hfi
    have HWk := Lib.hid hwalk
    have HN := Lib.hid hneg
    clear hneg hwalk hJ0
    go_enter Tryz.func67, Tryz.ntmps67
    go_wp2_with (first | (rw [hW2]) | (rw [ha0]))
    refine HWk.out.mono ?_
    rintro e w3 ⟨l, ps, (⟨i, hwk, ⟨v1, v2, hJ⟩, (⟨hi, rfl⟩ | ⟨hi, hwr, rfl⟩)⟩ | ⟨hf, -⟩)⟩
    · obtain ⟨A1, k1, rfl, -⟩ := own_shape hJ.r1
      obtain ⟨A2, k2, rfl, -⟩ := own_shape hJ.r2
      have HJ := Lib.hid (And.intro hJ (And.intro hwk hi))
      have hS : w3.drew.cell? ⟨a0, 0, none⟩ = some (.slice A1 l.length k1) ∧ w3.drew.cell? ⟨a0 + 1, 0, none⟩ = some (.slice A2 (lenSum ps) k2) := ⟨(hJ.b1.drew).cell 0, (hJ.b2.drew).cell 0⟩
      have f1 := hJ.b1.frozen 0
      have f2 := hJ.b2.frozen 0
      have s1 := hJ.b1.lt
      have s2 := hJ.b2.lt
      clear hJ hwk hi
      go_wp2_with fail
      have hB1 := (HJ.out.1.b1.drew).put 0 (.slice A1 l.length k1)
      have hB2 := (HJ.out.1.b2.drew).far (p := ⟨a0, 0, none⟩) (by simp) (.slice A1 l.length k1)
      have hB3 := hB1.far (p := ⟨a0 + 1, 0, none⟩) (by simp) (.slice A2 (lenSum ps) k2)
      have hB4 := hB2.put 0 (.slice A2 (lenSum ps) k2)
      refine wp_region_held_drew (S := fun w' => w'.cell? ⟨a0, 0, none⟩ = some (.slice A1 l.length k1) ∧ w'.cell? ⟨a0 + 1, 0, none⟩ = some (.slice A2 (lenSum ps) k2)) (by kernel_rfl) hS (fun hHeld => ?_)
      refine wpAnyH_take (i := 0) (v := ?_) rfl (by kernel_rfl) (by kernel_rfl) (by kernel_rfl) (fun _ _ _ h => h) (Or.inl ⟨by rfl, ?_⟩) hHeld ?_
      rotate_left
      · (intro w hSw; (try dsimp only at hSw); go_simp) <;> with_reducible rfl
      (try simp only [Act.put, List.setIfInBounds_toArray, List.set_cons_zero, List.set_cons_succ, List.getElem_toArray, List.getElem_cons_zero, List.getElem_cons_succ])
      refine wpAnyH_take (i := 1) (v := ?_) rfl (by kernel_rfl) (by kernel_rfl) (by kernel_rfl) (fun _ _ _ h => h) (Or.inl ⟨by rfl, ?_⟩) hHeld ?_
      rotate_left
      · (intro w hSw; (try dsimp only at hSw); go_simp) <;> with_reducible rfl
      (try simp only [Act.put, List.setIfInBounds_toArray, List.set_cons_zero, List.set_cons_succ, List.getElem_toArray, List.getElem_cons_zero, List.getElem_cons_succ])
      refine wpAnyH_ready (rs := [2]) (by kernel_rfl) (by simp) ?_
      refine AllReadyH.cons rfl (fun K hK => ?_) AllReadyH.nil
      go_simp
      refine hK.out _ _ ⟨hB1.cell 0, hB2.cell 0⟩ (fun _ => ?_)
      clear hK K
      (try simp only [Act.put, List.setIfInBounds_toArray, List.set_cons_zero, List.set_cons_succ, List.getElem_toArray, List.getElem_cons_zero, List.getElem_cons_succ])
      refine wpAnyH_ready (rs := [3]) (by kernel_rfl) (by simp) ?_
      refine AllReadyH.cons rfl (fun K hK => ?_) AllReadyH.nil
      go_simp
      refine hK.out _ _ ⟨hB3.cell 0, hB4.cell 0⟩ (fun _ => ?_)
      clear hK K
      (try simp only [Act.put, List.setIfInBounds_toArray, List.set_cons_zero, List.set_cons_succ, List.getElem_toArray, List.getElem_cons_zero, List.getElem_cons_succ])
      refine wpAnyH_ready (rs := [4]) (by kernel_rfl) (by simp) ?_
      refine AllReadyH.cons rfl (fun K hK => ?_) AllReadyH.nil
      go_simp
      refine hK.out _ _ ⟨hB3.cell 0, hB4.cell 0⟩ (fun _ => ?_)
      clear hK K
      (try simp only [Act.put, List.setIfInBounds_toArray, List.set_cons_zero, List.set_cons_succ, List.getElem_toArray, List.getElem_cons_zero, List.getElem_cons_succ])
      refine wpAnyH_done (by kernel_rfl) ?_ _
      clear hHeld hS
      have hB5 := hB3.cell 0
      have hB6 := hB4.cell 0
      go_wp2_with fail
      have hc : Chg (fun j => j = a0 ∨ j = a0 + 1) w3 ((w3.drew.setCell ⟨a0, 0, none⟩ (.slice A1 l.length k1)).setCell ⟨a0 + 1, 0, none⟩ (.slice A2 (lenSum ps) k2)) := (((Chg.refl (fun j => j = a0 ∨ j = a0 + 1) _).drew).setCell (p := ⟨a0, 0, none⟩) (fun _ => .inl rfl) _).setCell (p := ⟨a0 + 1, 0, none⟩) (fun _ => .inr rfl) _
      have hlt := HJ.out.1.lt
      have hz := HJ.out.1.pos
      refine bodyPost_ret (v := .tuple #[.slice A1 l.length k1, .slice A2 (lenSum ps) k2, .int .i64 0]) (by simp [results, Tryz.results67, go_sem, f1, f2, s1, s2, HJ.out.1.b1.cell, HJ.out.1.b2.cell]) rfl ⟨HJ.out.1.gp.chg hc (fun j hj e => by have := hlt j hj; omega) (by omega), Chg.trans HJ.out.1.chg hc fun j hj e => by omega, .inl ⟨l, ps, i, A1, k1, A2, k2, HJ.out.2.1, HJ.out.2.2, rfl, ?_, ?_⟩⟩
      · exact own_base (own_chg HJ.out.1.r1 hc fun q hq e => by have := (HJ.out.1.r1.lt q hq).1; omega) (by omega)
      · exact own_base (own_chg HJ.out.1.r2 hc fun q hq e => by have := (HJ.out.1.r2.lt q hq).1; omega) (by omega)
    · have HJ := Lib.hid (And.intro hJ (And.intro hwk (And.intro hi hwr)))
      obtain ⟨c1, f1, s1⟩ := hJ.b1.facts
      obtain ⟨c2, f2, s2⟩ := hJ.b2.facts
      obtain ⟨er, her⟩ : ∃ er : Int, (if (∀ c, x.now[i.toNat]? = some c → c.used = false) ∧ i = first then (14 : Int) else 22) = er := ⟨_, rfl⟩
      rw [her]
      have HE := Lib.hid her
      have hne : (er != 0) = true := by rw [← her]; split <;> rfl
      clear hJ hwk hi hwr her
      go_wp2_with fail
      have hc : Chg (fun j => j = a0 ∨ j = a0 + 1) w3 ((w3.setCell ⟨a0, 0, none⟩ (.slice none 0 0)).setCell ⟨a0 + 1, 0, none⟩ (.slice none 0 0)) := ((Chg.refl (fun j => j = a0 ∨ j = a0 + 1) _).setCell (p := ⟨a0, 0, none⟩) (fun _ => .inl rfl) _).setCell (p := ⟨a0 + 1, 0, none⟩) (fun _ => .inr rfl) _
      have hlt := HJ.out.1.lt
      have hz := HJ.out.1.pos
      refine bodyPost_ret (v := .tuple #[.slice none 0 0, .slice none 0 0, .int .i64 er]) (by simp [results, Tryz.results67, go_sem, c1, f1, s1, c2, f2, s2]) rfl ⟨HJ.out.1.gp.chg hc (fun j hj e => by have := hlt j hj; omega) (by omega), Chg.trans HJ.out.1.chg hc fun j hj e => by omega, .inr (.inl ⟨l, ps, i, HJ.out.2.1, HJ.out.2.2.1, HJ.out.2.2.2, by rw [HE.out]⟩)⟩
    · exact hf.elim

end Go.Proofs.YtjkkoogfaibhiaaGreatDoor

/- The chain: a record that stands is told: Get, Pages. -/
namespace Go.Proofs.YtjkkoogfaibhiaaGreatDoor
open Go.RowKit Go.Maps

theorem part_take (n : Nat) (bs : List Int) : ∀ k, ((List.range k).map (part n bs)).flatten = bs.take (k * n)
  | 0 => by simp
  | k + 1 => by
    rw [List.range_succ, List.map_append, List.flatten_append, part_take n bs k]
    simp only [List.map_cons, List.map_nil, List.flatten_cons, List.flatten_nil, List.append_nil, part]
    rw [Nat.add_mul, Nat.one_mul, List.take_add]
theorem lenSum_flatten (ps : List (List Int)) : lenSum ps = ps.flatten.length := by unfold lenSum; rw [List.length_flatten]
/-- What may be at a record's k-th page. -/
theorem Stands.page {x : Rp} {l : List Nat} {bs : List Int} (h : Stands x l bs) (hz : 64 ≤ x.sz ∧ x.sz ≤ 4096 ∧ x.now.length ≤ 4096) (hb : 1 ≤ bs.length) {k i : Nat} (hk : l[k]? = some i) :
    ∃ c, x.now[i]? = some c ∧ c.used = true ∧ decP (c.bytes x.sz) x.sz = some (part (x.sz - 5) bs k, nextOf l k) := by
  obtain ⟨c, h1, h2, h3⟩ := h.at_ k i hk
  refine ⟨c, h1, h2, ?_⟩
  rw [h3]
  have hkl : k < l.length := (List.getElem?_eq_some_iff.1 hk).1
  have hn : 1 ≤ x.sz - 5 := by omega
  have hlt := (parts_lt hb hn k).2 (h.len ▸ hkl)
  have hpl := part_len (x.sz - 5) bs k
  refine decP_pgL ?_ ?_ (fun h0 => ?_) ?_ hz.2.1
  · rw [hpl]; omega
  · rw [hpl]; omega
  · have hk1 : k + 1 < l.length := by
      by_cases e : k + 1 < l.length
      · exact e
      · unfold nextOf at h0; rw [List.getElem?_eq_none (by omega)] at h0; simp at h0
    have := (parts_lt hb hn (k + 1)).2 (h.len ▸ hk1)
    rw [Nat.add_mul, Nat.one_mul] at this
    rw [hpl]; omega
  · unfold nextOf
    cases hq : l[k + 1]? with
    | none => simp
    | some j =>
      obtain ⟨c', h1', -⟩ := h.at_ (k + 1) j hq
      have := (List.getElem?_eq_some_iff.1 h1').1
      show j + 1 ≤ 65535
      omega
theorem Stands.wk {x : Rp} {l : List Nat} {bs : List Int} (h : Stands x l bs) (hz : 64 ≤ x.sz ∧ x.sz ≤ 4096 ∧ x.now.length ≤ 4096) (hb : 1 ≤ bs.length) {i0 : Nat} (h0 : l[0]? = some i0) {l' : List Nat} {ps : List (List Int)} {i : Int} (hw : Wk x i0 l' ps i) :
    ∃ k, k ≤ l.length ∧ l' = l.take k ∧ ps = (List.range k).map (part (x.sz - 5) bs) ∧ i = match l[k]? with | some j => ((j : Nat) : Int) | none => -1 := by
  induction hw with
  | nil => exact ⟨0, Nat.zero_le _, by simp, by simp, by rw [h0]⟩
  | @snoc l' ps i c P nx h1 h2 h3 h4 h5 h6 ih =>
    obtain ⟨k, k1, k2, k3, k4⟩ := ih
    cases hk : l[k]? with
    | none => rw [hk] at k4; dsimp only at k4; omega
    | some j =>
      rw [hk] at k4
      have hij : i = j := by dsimp only at k4; omega
      subst hij
      obtain ⟨c', c1, c2, c3⟩ := h.page hz hb hk
      rw [h2] at c1
      cases c1
      rw [h4] at c3
      injection c3 with c3
      injection c3 with c3 c4
      have hkl : k < l.length := (List.getElem?_eq_some_iff.1 hk).1
      refine ⟨k + 1, hkl, ?_, ?_, ?_⟩
      · rw [List.take_add_one, hk, k2]; rfl
      · rw [List.range_succ, List.map_append, k3, c3]; rfl
      · rw [c4]
        unfold nextOf
        cases l[k + 1]? with
        | none => simp
        | some j => simp
theorem Stands.end_ {x : Rp} {l : List Nat} {bs : List Int} (h : Stands x l bs) (hz : 64 ≤ x.sz ∧ x.sz ≤ 4096 ∧ x.now.length ≤ 4096) (hb : 1 ≤ bs.length) (hb2 : bs.length ≤ 16384) {i0 : Nat} (h0 : l[0]? = some i0) {l' : List Nat} {ps : List (List Int)} {i : Int} (hw : Wk x i0 l' ps i) :
    (i < 0 → l' = l ∧ ps.flatten = bs) ∧ (0 ≤ i → ¬ Wrong x l' ps i.toNat) := by
  obtain ⟨k, k1, k2, k3, k4⟩ := h.wk hz hb h0 hw
  have hn : 1 ≤ x.sz - 5 := by omega
  constructor
  · intro hi
    have hk : k = l.length := by
      cases hk : l[k]? with
      | none => rw [List.getElem?_eq_none_iff] at hk; omega
      | some j => rw [hk] at k4; have k5 : i = ((j : Nat) : Int) := k4; omega
    subst hk
    refine ⟨by rw [k2, List.take_length], ?_⟩
    rw [k3, part_take]
    refine List.take_of_length_le ?_
    have := (parts_lt hb hn l.length)
    rw [h.len] at this ⊢
    omega
  · intro hi hwr
    cases hk : l[k]? with
    | none => rw [hk] at k4; dsimp only at k4; omega
    | some j =>
      rw [hk] at k4
      have hij : i.toNat = j := by dsimp only at k4; omega
      rw [hij] at hwr
      obtain ⟨c, c1, c2, c3⟩ := h.page hz hb hk
      rcases hwr with e | ⟨c', e1, e2, e3 | ⟨P, nx, e3, e4 | e4⟩⟩
      · have := e c c1; rw [c2] at this; cases this
      · rw [c1] at e1; cases e1; rw [c3] at e3; cases e3
      · rw [k2] at e4
        obtain ⟨q, hq, e⟩ := List.mem_iff_getElem.1 e4
        rw [List.getElem_take] at e
        have hkl := List.getElem?_eq_some_iff.1 hk
        obtain ⟨hkl1, hkl2⟩ := hkl
        rw [List.length_take] at hq
        have h9 : l[q]? = l[k]? := by rw [List.getElem?_eq_getElem (show q < l.length by omega), hk, e]
        have := (List.getElem?_inj (by omega) h.nd).1 h9
        omega
      · rw [c1] at e1
        cases e1
        rw [c3] at e3
        cases e3
        have hsum : lenSum (ps ++ [part (x.sz - 5) bs k]) ≤ bs.length := by
          rw [lenSum_flatten, k3, show (List.range k).map (part (x.sz - 5) bs) ++ [part (x.sz - 5) bs k] = (List.range (k + 1)).map (part (x.sz - 5) bs) from by rw [List.range_succ, List.map_append]; rfl, part_take, List.length_take]
          omega
        have : lenSum (ps ++ [part (x.sz - 5) bs k]) = lenSum ps + (part (x.sz - 5) bs k).length := by unfold lenSum; simp [List.sum_append]
        omega

section
variable (p : Nat) (F : Nat → Prop) (x : Rp) (w : World)
theorem all_stands (l : List Nat) (bs : List Int) (i0 : Nat) (h : GP w p F x) (hs : Stands x l bs) (hb : 1 ≤ bs.length) (hb2 : bs.length ≤ 16384) (h0 : l[0]? = some i0) :
    Calls Tryz.prog 67 #[.pointer (some ⟨p, 0, none⟩), .int .i64 i0] w fun e w' => GP w' p F x ∧ Chg F w w' ∧ ∃ A1 c1 A2 c2, e = .returned (.tuple #[.slice A1 l.length c1, .slice A2 bs.length c2, .int .i64 0]) ∧
      w'.ownsRow w.heap.size 3 1 (.slice A1 l.length c1) l.length (nv l) ∧ w'.ownsRow w.heap.size 5 1 (.slice A2 bs.length c2) bs.length (bv bs) := by
  have hz := h.szs
  have hz' : 64 ≤ x.sz ∧ x.sz ≤ 4096 ∧ x.now.length ≤ 4096 := ⟨hz.2.2.1, hz.2.2.2.1, hz.2.2.2.2.2⟩
  have hi4 : i0 < 4096 := by
    obtain ⟨c, h1, -⟩ := hs.at_ 0 i0 h0
    have := (List.getElem?_eq_some_iff.1 h1).1
    omega
  refine (all_any p i0 F x w h (by omega)).mono ?_
  rintro e w' ⟨h1, h2, ⟨l', ps, i, A1, c1, A2, c2, hw, hi, rfl, h3, h4⟩ | ⟨l', ps, i, hw, hi, hwr, -⟩ | ⟨hneg, -⟩⟩
  · obtain ⟨rfl, rfl⟩ := (hs.end_ hz' hb hb2 h0 hw).1 hi
    rw [lenSum_flatten] at h4
    exact ⟨h1, h2, A1, c1, A2, c2, by rw [lenSum_flatten], h3, h4⟩
  · exact absurd hwr ((hs.end_ hz' hb hb2 h0 hw).2 hi)
  · omega
theorem cget_stands (l : List Nat) (bs : List Int) (i0 : Nat) (h : GP w p F x) (hs : Stands x l bs) (hb : 1 ≤ bs.length) (hb2 : bs.length ≤ 16384) (h0 : l[0]? = some i0) :
    Calls Tryz.prog 32 #[.pointer (some ⟨p, 0, none⟩), .int .i64 i0] w fun e w' => GP w' p F x ∧ Chg F w w' ∧ ∃ A2 c2, e = .returned (.tuple #[.slice A2 bs.length c2, .int .i64 0]) ∧ w'.ownsRow w.heap.size 5 1 (.slice A2 bs.length c2) bs.length (bv bs) := by
  have H := Lib.hid (all_stands p F x w l bs i0 h hs hb hb2 h0)
  clear h hs hb hb2 h0
  go_enter Tryz.func32, Tryz.ntmps32
  go_wp2_with fail
  refine H.out.mono ?_
  rintro e w1 ⟨h1, h2, A1, c1, A2, c2, rfl, h3, h4⟩
  have HO := Lib.hid (And.intro h1 (And.intro h2 h4))
  clear h1 h2 h3 h4
  go_wp2_with fail
  go_ret2
  exact ⟨HO.out.1, HO.out.2.1, A2, c2, rfl, HO.out.2.2⟩
end

end Go.Proofs.YtjkkoogfaibhiaaGreatDoor

/- The pager: Free. -/
namespace Go.Proofs.YtjkkoogfaibhiaaGreatDoor
open Go.RowKit Go.Maps

set_option maxHeartbeats 800000 in
theorem gfree_none (p : Nat) (i : Int) (F : Nat → Prop) (X : Gp) (w : World) (h : GS w p F X) (hr : X.rdy = 0) (hl : X.table.length ≤ 4096) (hu : X.usedB i = false) :
    Calls Tryz.prog 38 #[.pointer (some ⟨p, 0, none⟩), .int .i64 i] w fun e' w' => e' = .returned (.int .i64 14) ∧ w = w' := by
  have hrd := gready_any p F X w h
  rw [hr] at hrd
  have hus := gused_any p i F X w h (by omega)
  rw [hu] at hus
  have H := Lib.hid (And.intro hrd hus)
  clear h hr hrd hu hus
  go_enter Tryz.func38, Tryz.ntmps38
  go_wp2_with (first
    | (go_at_call 43; (refine H.out.1.mono ?_); rintro e w1 ⟨rfl, rfl⟩)
    | (go_at_call 71; (refine H.out.2.mono ?_); rintro e w1 ⟨rfl, rfl⟩))
  go_ret
  exact ⟨rfl, rfl⟩

set_option maxRecDepth 100000 in
set_option maxHeartbeats 800000 in
theorem gfree_full (p i s : Nat) (F : Nat → Prop) (X : Gp) (o : Cg) (w : World) (h : GS w p F X) (hr : X.rdy = 0) (hx : X.op = some o) (hz : X.Sz) (hn : X.D.n ≤ 4096) (hi : X.table[i]? = some s) (hs : s ≠ 0) (hm : X.room < (o.more (i / X.row) 0 : Nat)) :
    Calls Tryz.prog 38 #[.pointer (some ⟨p, 0, none⟩), .int .i64 i] w fun e' w' => e' = .returned (.int .i64 21) ∧ Grew w w' := by
  have hrd := gready_any p F X w h
  rw [hr] at hrd
  have hus := gused_in p i s F X w h (by have := hz.tab.2; omega) hi
  rw [show (s != 0) = true from by simpa using hs] at hus
  have htf := gtouch_full p i (i / X.row) 0 F X o w h hx (by have := hz.free; omega) (by have := hz.row; omega) rfl (by have := hz.tab.2; have := (List.getElem?_eq_some_iff.1 hi).1; omega) (by omega) hm
  have H := Lib.hid (And.intro hrd (And.intro hus htf))
  clear h hr hrd hus htf hx hz hn hi hs hm
  go_enter Tryz.func38, Tryz.ntmps38
  go_wp2_with (first
    | (go_at_call 43; (refine H.out.1.mono ?_); rintro e w1 ⟨rfl, rfl⟩)
    | (go_at_call 71; (refine H.out.2.1.mono ?_); rintro e w1 ⟨rfl, rfl⟩)
    | (go_at_call 72; (refine H.out.2.2.mono ?_); rintro e w1 ⟨rfl, hg1⟩; have HG1 := Lib.hid hg1; clear hg1))
  go_ret
  exact ⟨rfl, HG1.out⟩

set_option maxRecDepth 100000 in
set_option maxHeartbeats 1600000 in
theorem gfree_ok (p i s : Nat) (F : Nat → Prop) (X : Gp) (o : Cg) (w : World) (h : GS w p F X) (hr : X.rdy = 0) (hx : X.op = some o) (hz : X.Sz) (hn : X.D.n ≤ 4096) (hi : X.table[i]? = some s) (hs : s ≠ 0) (hc : X.canLeave o s) (hll : o.left.length ≤ 100000) (hm : (o.more (i / X.row) 0 : Nat) ≤ X.room) :
    Calls Tryz.prog 38 #[.pointer (some ⟨p, 0, none⟩), .int .i64 i] w fun e' w' => e' = .returned (.int .i64 0) ∧ GTo w w' p F (X.drop o i s) := by
  have hil : i < X.table.length := (List.getElem?_eq_some_iff.1 hi).1
  have hrd := gready_any p F X w h
  rw [hr] at hrd
  have hus := gused_in p i s F X w h (by have := hz.tab.2; omega) hi
  rw [show (s != 0) = true from by simpa using hs] at hus
  have htf := gtouch_ok p i (i / X.row) 0 F X o w h hx (by have := hz.free; omega) (by have := hz.row; omega) rfl (hz.k64 hil) (by have := hz.tab.2; omega) (by omega) hm
  have hlv := fun F1 w1 (h1 : GS w1 p F1 (X.touch o (i / X.row))) => gleave_any p s F1 (X.touch o (i / X.row)) (o.tch (i / X.row)) w1 h1 rfl (by have := hz.free; simp only [Gp.touch]; omega) hc hll
  have htb : ((X.touch o (i / X.row)).leave (o.tch (i / X.row)) s).table = X.table := by obtain ⟨o', -, e, -⟩ := Gp.leave_op (X.touch o (i / X.row)) (o.tch (i / X.row)) s rfl; exact e
  have H := Lib.hid (And.intro hrd (And.intro hus (And.intro htf (And.intro hlv (And.intro hi htb)))))
  have u1 : (0 : Int) ≤ (i : Int) := by omega
  have u2 : (i : Int) < (X.table.length : Int) := by omega
  have u3 : (i : Int) < (((X.touch o (i / X.row)).leave (o.tch (i / X.row)) s).table.length : Int) := by rw [htb]; exact u2
  clear h hr hrd hus htf hlv htb hx hz hn hi hs hm hc hll
  go_enter Tryz.func38, Tryz.ntmps38
  go_wp2_with (first
    | (go_at_call 43; (refine H.out.1.mono ?_); rintro e w1 ⟨rfl, rfl⟩)
    | (go_at_call 71; (refine H.out.2.1.mono ?_); rintro e w1 ⟨rfl, rfl⟩)
    | (go_at_call 72; (refine H.out.2.2.1.mono ?_); rintro e w1 ⟨rfl, F1, hgs, hc1, hn1⟩; have HS1 := Lib.hid hgs; obtain ⟨L1, d1, b1, A1, ca1, vp1, vt1, vo1, hg, -⟩ := hgs; obtain ⟨c9, f9, s9⟩ := hg.blk.facts; obtain ⟨g, ct1, rfl, hgl, hlg, hce, hfe⟩ := hg.entry (i := i) (s := s) H.out.2.2.2.2.1; have HT := Lib.hid (And.intro hc1 hn1); clear hg hc1 hn1)
    | (go_at_call 74; (refine (H.out.2.2.2.1 F1 _ HS1.out).mono ?_); clear c9 f9 s9 hgl hlg hce hfe; rintro e w2 ⟨rfl, F2, ⟨L2, d2, b2, A2, ca2, vp2, vt2, vo2, hg, hF2⟩, hc2, hn2⟩; obtain ⟨c9, f9, s9⟩ := hg.blk.facts; obtain ⟨g2, ct2, rfl, hgl, hlg, hce, hfe⟩ := hg.entry (i := i) (s := s) (by rw [H.out.2.2.2.2.2]; exact H.out.2.2.2.2.1); have HU := Lib.hid (And.intro hg (And.intro hF2 (And.intro hc2 hn2))); clear hg hF2 hc2 hn2))
  go_ret
  refine ⟨rfl, ?_⟩
  have hh := HU.out.1.tset rfl i 0
  refine To.then HT.out.1 HT.out.2 (To.then HU.out.2.2.1 HU.out.2.2.2 ?_)
  have := hh.1.to hh.2 (by omega) HU.out.2.1
  rw [H.out.2.2.2.2.2] at this
  exact this

end Go.Proofs.YtjkkoogfaibhiaaGreatDoor

/- The pager, as its pages are: Free. -/
namespace Go.Proofs.YtjkkoogfaibhiaaGreatDoor
open Go.RowKit Go.Maps

theorem Gp.Ok.canLeave {X : Gp} {o : Cg} {i s : Nat} (h : X.Ok) (hx : X.op = some o) (hi : X.table[i]? = some s) : X.canLeave o s := by
  intro h2
  have hv := h.inv
  simp only [Gp.old, Gp.fr, Gp.lf, Gp.tc, hx] at hv
  refine ⟨?_, fun hf => ?_⟩
  · rw [hv.lens.1]
    rcases hv.cur i s hi h2 with e | e
    · exact (hv.frr s e).2.1
    · exact hv.rO i s e
  · exact (hv.acct s (hv.frr s hf).2.1).2 (.inr (.inr (.inr hf)))
theorem Gp.Ok.drop {X : Gp} {o : Cg} {i s : Nat} (h : X.Ok) (hx : X.op = some o) (hi : X.table[i]? = some s) (hm : (o.more (i / X.row) 0 : Nat) ≤ X.room) : (X.drop o i s).Ok ∧ (X.drop o i s).view = X.view.put i .no := by
  obtain ⟨h1, -⟩ := h.tch hx (List.getElem?_eq_some_iff.1 hi).1 hm
  have ht : setB o.touched (i / (X.D.sz / 2)) true (i / (X.D.sz / 2)) = true := by simp [setB]
  have hr := h.row
  by_cases hs : s ≤ 1
  · have h2 := h1.zero (v := 0) hi (by omega) (by omega) ht
    have e : X.drop o i s = { X.touch o (i / X.row) with table := X.table.set i 0 } := by unfold Gp.drop Gp.leave; rw [if_pos hs]
    rw [e]
    refine ⟨⟨?_, h.row, h.up⟩, ?_⟩
    · rw [← h.row] at h2
      exact h2
    · unfold Gp.view Rp.put Gp.touch
      simp only [Gp.fr, Gp.tc, hx, Option.map_some, Rp.row]
      rw [List.map_set, show pk X.D o.fresh 0 = .no from rfl, hr]
  · cases hf : o.fresh s with
    | true =>
      have h2 := h1.give hi hf ht
      have e : X.drop o i s = { X with free := trn X.free s, table := X.table.set i 0, op := some { o with touched := setB o.touched (i / X.row) true, fresh := setB o.fresh s false } } := by
        unfold Gp.drop Gp.leave Cg.tch
        rw [if_neg hs]
        simp only [hf]
        rfl
      rw [e]
      refine ⟨⟨?_, h.row, h.up⟩, ?_⟩
      · rw [← h.row] at h2
        exact h2
      · unfold Gp.view Rp.put
        simp only [Gp.fr, Gp.tc, hx, Option.map_some, Rp.row]
        have e1 : (X.table.set i 0).map (pk X.D (setB o.fresh s false)) = (X.table.map (pk X.D o.fresh)).set i .no := by
          have hil : i < X.table.length := (List.getElem?_eq_some_iff.1 hi).1
          apply List.ext_getElem?
          intro k
          rw [set_at (by simpa using hil), List.getElem?_map, set_at hil, List.getElem?_map]
          by_cases hki : k = i
          · subst hki
            rw [if_pos rfl, if_pos rfl]
            rfl
          · rw [if_neg hki, if_neg hki]
            cases hk : X.table[k]? with
            | none => rfl
            | some q =>
              have hq : q ≠ s := by rintro rfl; exact hki (h1.jT k i q hk hi (by omega))
              simp only [Option.map_some, Option.some.injEq]
              unfold pk setB
              rw [if_neg hq]
        rw [e1, hr]
    | false =>
      have h2 := h1.left hi (by omega) hf ht
      have e : X.drop o i s = { X with table := X.table.set i 0, op := some { o with touched := setB o.touched (i / X.row) true, left := o.left ++ [s] } } := by
        unfold Gp.drop Gp.leave Cg.tch
        rw [if_neg hs]
        simp only [hf]
        rfl
      rw [e]
      refine ⟨⟨?_, h.row, h.up⟩, ?_⟩
      · rw [← h.row] at h2
        exact h2
      · unfold Gp.view Rp.put
        simp only [Gp.fr, Gp.tc, hx, Option.map_some, Rp.row]
        rw [List.map_set, show pk X.D o.fresh 0 = .no from rfl, hr]

section
variable (p i : Nat) (F : Nat → Prop) (x : Rp) (w : World)
theorem gp_free (c : Pk) (h : GP w p F x) (ho : x.was ≠ none) (hi : x.now[i]? = some c) (hu : c.used = true) (hm : (x.need (i / x.row) 0 : Nat) ≤ x.room) :
    Calls Tryz.prog 38 #[.pointer (some ⟨p, 0, none⟩), .int .i64 i] w fun e' w' => e' = .returned (.int .i64 0) ∧ GPTo w w' p F (x.put i .no) := by
  obtain ⟨X, h1, h2, rfl⟩ := h
  obtain ⟨o, hx⟩ := Gp.view_op ho
  obtain ⟨s, hs, h0, rfl⟩ := Gp.entry_used hi hu
  have hv := h2.inv
  simp only [Gp.old, Gp.fr, Gp.lf, Gp.tc, hx] at hv
  have hm' : (o.more (i / X.row) 0 : Nat) ≤ X.room := by rw [h2.room, Gp.more_need h2 hx]; exact hm
  have := h2.drop hx hs hm'
  refine (gfree_ok p i s F X o w h1 (h2.rdy hx) hx h2.sz hv.sz.2.1 hs h0 (h2.canLeave hx hs) (by have := hv.lfle; omega) hm').mono ?_
  rintro e w1 ⟨rfl, h3⟩
  exact ⟨rfl, h3.gp this.1 this.2⟩
end

end Go.Proofs.YtjkkoogfaibhiaaGreatDoor

/- The chain: Del of a record that stands. -/
namespace Go.Proofs.YtjkkoogfaibhiaaGreatDoor
open Go.RowKit Go.Maps

/-- Some pages are given up. -/
structure Freed (x y : Rp) (d : List Nat) : Prop where
  like : x.like y
  is : ∀ i ∈ d, y.now[i]? = some .no
  else_ : ∀ i, i ∉ d → y.now[i]? = x.now[i]?
  slack : x.slack ≤ y.slack
  used : y.now.countP Pk.used + d.length = x.now.countP Pk.used
theorem Freed.refl (x : Rp) : Freed x x [] := ⟨.refl x, fun i h => by simp at h, fun _ _ => rfl, Int.le_refl _, rfl⟩
theorem Freed.more {x y : Rp} {d : List Nat} {i : Nat} {c : Pk} (h : Freed x y d) (hw : x.was ≠ none) (hi : i ∉ d) (hc : x.now[i]? = some c) (hu : c.used = true) : Freed x (y.put i .no) (d ++ [i]) := by
  have hy : y.now[i]? = some c := by rw [h.else_ i hi]; exact hc
  have hil : i < y.now.length := (List.getElem?_eq_some_iff.1 hy).1
  have h1 := Rp.put_slack (c := .no) (by rw [h.like.was]; exact hw) hy
  have h2 := Rp.put_used (c := .no) hy
  refine ⟨h.like.trans (y.put_like _ _), fun j hj => ?_, fun j hj => ?_, ?_, ?_⟩
  · rw [Rp.put_at hil]
    rcases List.mem_append.1 hj with e | e
    · rw [if_neg (by rintro rfl; exact hi e)]; exact h.is j e
    · simp only [List.mem_singleton] at e; rw [if_pos e]
  · rw [Rp.put_at hil, if_neg (by rintro rfl; exact hj (by simp))]
    exact h.else_ j fun e => hj (List.mem_append_left _ e)
  · have h3 := h.slack
    rw [show Pk.no.isNew = false from rfl] at h1
    simp only [Bool.false_eq_true, if_false] at h1
    split at h1 <;> omega
  · have h3 := h.used
    rw [hu] at h2
    simp [Pk.used] at h2
    simp
    omega

/-- What lies there between two pages of Del. -/
structure DelJ (w W : World) (p : Nat) (F F' : Nat → Prop) (x y : Rp) (l : List Nat) (A : Option Addr) (c k : Nat) : Prop where
  gp : GP W p F' y
  rch : Rch F F' w W
  row : W.ownsRow w.heap.size 3 1 (.slice A l.length c) l.length (nv l)
  rn : ∀ g, (Value.slice A l.length c).ownBlock = some g → ¬ F' g
  fr : Freed x y (l.take k)

set_option maxRecDepth 100000 in
set_option maxHeartbeats 1600000 in
theorem cdel_any (p : Nat) (F : Nat → Prop) (x : Rp) (w : World) (l : List Nat) (bs : List Int) (i0 : Nat) (h : GP w p F x) (ho : x.was ≠ none) (hs : Stands x l bs) (hb : 1 ≤ bs.length) (hb2 : bs.length ≤ 16384) (h0 : l[0]? = some i0) (hsl : 0 ≤ x.slack) :
    Calls Tryz.prog 33 #[.pointer (some ⟨p, 0, none⟩), .int .i64 i0] w fun e w' => e = .returned (.int .i64 0) ∧ ∃ y, GPTo w w' p F y ∧ Freed x y l := by
  have hpg : Calls Tryz.prog 68 #[.pointer (some ⟨p, 0, none⟩), .int .i64 i0] w fun e w' => ∃ A c, e = .returned (.tuple #[.slice A l.length c, .int .i64 0]) ∧ DelJ w w' p F F x x l A c 0 := by
    have H := Lib.hid (all_stands p F x w l bs i0 h hs hb hb2 h0)
    have HF := Lib.hid h.lt
    clear h hs hb hb2 h0
    go_enter Tryz.func68, Tryz.ntmps68
    go_wp2_with fail
    refine H.out.mono ?_
    rintro e w1 ⟨h1, h2, A1, c1, A2, c2, rfl, h3, h4⟩
    have HO := Lib.hid (And.intro h1 (And.intro h2 h3))
    clear h1 h2 h3 h4
    go_wp2_with fail
    go_ret2
    exact ⟨A1, c1, rfl, HO.out.1, ⟨HO.out.2.1, fun _ e => .inl e⟩, HO.out.2.2, fun g hg e => by have := (HO.out.2.2.lt g hg).1; have := HF.out g e; omega, Freed.refl x⟩
  have hll : l.length ≤ 4096 := by
    have h1 := h.szs
    have h2 := List.Nodup.length_le_of_subset hs.nd (l₂ := List.range x.now.length) fun s hm => List.mem_range.2 (by
      obtain ⟨k, hk⟩ := List.mem_iff_getElem?.1 hm
      obtain ⟨c, e, -⟩ := hs.at_ k s hk
      exact (List.getElem?_eq_some_iff.1 e).1)
    rw [List.length_range] at h2
    omega
  have H := Lib.hid (And.intro hpg (And.intro ho (And.intro hs hsl)))
  clear h ho hs hb hb2 h0 hsl hpg
  go_enter Tryz.func33, Tryz.ntmps33
  go_wp2_with fail
  refine H.out.1.mono ?_
  rintro e w1 ⟨A, c, rfl, hJ⟩
  have HJ := Lib.hid hJ
  clear hJ
  go_wp2_with fail
  go_loopg [6, 17] l.length (fun q e v wr => ∃ (k : Nat) (F' : Nat → Prop) (y : Rp), q = l.length - k ∧ k ≤ l.length ∧ e = .int .i64 0 ∧ v = .int .i64 k ∧ DelJ w wr p F F' x y l A c k)
  case atStart => exact ⟨0, F, x, rfl, Nat.zero_le _, rfl, rfl, HJ.out⟩
  case round =>
    obtain ⟨k, F', y, rfl, hk, rfl, rfl, hJ⟩ := hrel
    have HK := Lib.hid hJ
    clear hJ
    by_cases hlt : k < l.length
    · obtain ⟨i, hi⟩ : ∃ i, l[k]? = some i := ⟨_, List.getElem?_eq_getElem hlt⟩
      obtain ⟨g, rfl, hg⟩ := own_block HK.out.row (by omega)
      have hce : wr.cell? ⟨g, k, none⟩ = some (.int .i64 i) := by
        have := HK.out.row.cells (g := g) rfl k (.int .i64 i) (by simp [nv, hi])
        rwa [Addr.add_lit, Nat.zero_add] at this
      obtain ⟨cc, e1, e2, -⟩ := H.out.2.2.1.at_ k i hi
      have hin : i ∉ l.take k := fun hm => by
        obtain ⟨q, hq, e⟩ := List.mem_iff_getElem.1 hm
        rw [List.getElem_take] at e
        rw [List.length_take] at hq
        have h9 : l[q]? = l[k]? := by rw [List.getElem?_eq_getElem (show q < l.length by omega), hi, e]
        have := (List.getElem?_inj (by omega) H.out.2.2.1.nd).1 h9
        omega
      have hy : y.now[i]? = some cc := by rw [HK.out.fr.else_ i hin]; exact e1
      have hyw : y.was ≠ none := by rw [HK.out.fr.like.was]; exact H.out.2.1
      have hrm : (y.need (i / y.row) 0 : Nat) ≤ y.room := HK.out.gp.need (HK.out.gp.part (List.getElem?_eq_some_iff.1 hy).1) (by have := HK.out.fr.slack; have := H.out.2.2.2; simp; omega)
      have HFr := Lib.hid (gp_free p i F' y wr cc HK.out.gp hyw hy e2 hrm)
      have HM := Lib.hid (HK.out.fr.more H.out.2.1 hin e1 e2)
      have HT := Lib.hid (show l.take k ++ [i] = l.take (k + 1) from by rw [List.take_add_one, hi]; rfl)
      clear hi e1 e2 hin hy hyw hrm
      go_wp2_with fail
      refine HFr.out.mono ?_
      rintro e w3 ⟨rfl, F2, h1, h2, h3⟩
      have HN := Lib.hid (show DelJ w w3 p F F2 x (y.put i .no) l (some ⟨g, 0, none⟩) c (k + 1) from ⟨h1, HK.out.rch.trans ⟨h2, h3⟩, own_chg HK.out.row h2 HK.out.rn, fun q hq e => (h3 q e).elim (HK.out.rn q hq) fun e => by have := (HK.out.row.lt q hq).2; omega, HT.out ▸ HM.out⟩)
      clear h1 h2 h3 hce
      go_wp2_with fail
      go_roundg (l.length - (k + 1))
      case measure => omega
      case rel => exact ⟨k + 1, F2, _, rfl, by omega, rfl, by simp, HN.out⟩
    · obtain rfl : k = l.length := by omega
      go_wp2_with fail
      go_ret
      have h5 := HK.out.fr
      rw [List.take_length] at h5
      exact ⟨rfl, y, ⟨F', HK.out.gp, HK.out.rch.chg, HK.out.rch.new⟩, h5⟩

end Go.Proofs.YtjkkoogfaibhiaaGreatDoor

/- The heap: records by where they lie, plain. -/
namespace Go.Proofs.YtjkkoogfaibhiaaGreatDoor
open Go.RowKit Go.Maps

theorem Stands.keepH {y z : Rp} {l : List Nat} {bs : List Int} (h : Stands y l bs) (hz : z.sz = y.sz) (hk : ∀ i ∈ l, z.now[i]? = y.now[i]?) : Stands z l bs :=
  ⟨by rw [hz]; exact h.len, h.nd, fun k i hi => by
    obtain ⟨c, h1, h2, h3⟩ := h.at_ k i hi
    exact ⟨c, by rw [hk i (List.mem_of_getElem? hi)]; exact h1, h2, by rw [hz]; exact h3⟩⟩
/-- A record: its place, its text, and its own pages (none: it is short). -/
structure HR where
  place : Nat
  text : List Int
  pages : List Nat
def HR.what (r : HR) : List Int := match r.pages with
  | [] => 0 :: r.text
  | i :: _ => [1, ((i % 256 : Nat) : Int), ((i / 256 % 256 : Nat) : Int)]
theorem HR.what_ne (r : HR) : r.what ≠ [] := by unfold HR.what; split <;> simp
structure HR.ok (x : Rp) (r : HR) : Prop where
  base : 1 ≤ r.text.length ∧ r.text.length ≤ 16384 ∧ ∀ q ∈ r.text, 0 ≤ q ∧ q ≤ 255
  shape : (r.pages = [] ∧ r.text.length ≤ (x.sz - 8) / 2) ∨ (r.pages ≠ [] ∧ Stands x r.pages r.text)
theorem HR.ok.byt {x : Rp} {r : HR} (h : r.ok x) : ∀ q ∈ r.what, 0 ≤ q ∧ q ≤ 255 := by
  intro q hq
  unfold HR.what at hq
  split at hq
  · rcases List.mem_cons.1 hq with rfl | e
    · omega
    · exact h.1.2.2 q e
  · simp only [List.mem_cons, List.not_mem_nil, or_false] at hq
    omega
theorem HR.ok.keep {x y : Rp} {r : HR} (h : r.ok x) (hz : y.sz = x.sz) (hk : ∀ i ∈ r.pages, y.now[i]? = x.now[i]?) : r.ok y :=
  ⟨h.1, h.2.imp (fun e => ⟨e.1, by rw [hz]; exact e.2⟩) fun e => ⟨e.1, e.2.keepH hz hk⟩⟩
/-- What a page of the heap has. -/
structure HPg (x : Rp) (L : List HR) (i : Nat) (s : Sls) : Prop where
  byt : ∃ c, x.now[i]? = some c ∧ c.used = true ∧ c.bytes x.sz = pageS s x.sz
  fit : SFit s x.sz
  ne : s ≠ []
  is : ∀ (j : Nat) b, j < 64 → b ≠ [] → (s[j]? = some b ↔ ∃ r ∈ L, r.place = 64 * i + j ∧ r.what = b)
/-- A heap on the pages: P are its pages, L its records, E pages that are to be the next record's. -/
structure HeapIn (x : Rp) (P : Nat → Bool) (L : List HR) (E : List Nat) : Prop where
  pg : ∀ i, P i = true → ∃ s, HPg x L i s
  at_ : ∀ r ∈ L, P (r.place / 64) = true ∧ r.ok x
  nd : (L.map HR.place).Nodup
  own : (E ++ L.flatMap HR.pages).Nodup
  far : ∀ i ∈ E ++ L.flatMap HR.pages, P i = false
  used : x.now.countP Pk.used = cntN P x.now.length + (E ++ L.flatMap HR.pages).length
theorem HPg.keep {x y : Rp} {L : List HR} {i : Nat} {s : Sls} (h : HPg x L i s) (hz : y.sz = x.sz) (hk : y.now[i]? = x.now[i]?) : HPg y L i s :=
  ⟨by rw [hk, hz]; exact h.byt, by rw [hz]; exact h.fit, h.ne, h.is⟩
theorem HPg.lt {x : Rp} {L : List HR} {i : Nat} {s : Sls} (h : HPg x L i s) : i < x.now.length := by
  obtain ⟨c, h1, -⟩ := h.byt
  exact (List.getElem?_eq_some_iff.1 h1).1
theorem HPg.few {x : Rp} {L : List HR} {i j : Nat} {s : Sls} {b : List Int} (h : HPg x L i s) (hj : s[j]? = some b) : j < 63 := by
  have := (List.getElem?_eq_some_iff.1 hj).1
  have := h.fit.few
  omega
theorem HPg.some_ {x : Rp} {L : List HR} {i : Nat} {s : Sls} (h : HPg x L i s) : ∃ r ∈ L, r.place / 64 = i := by
  cases hl : s.getLast? with
  | none => exact absurd (List.getLast?_eq_none_iff.1 hl) h.ne
  | some b =>
    have hb := h.fit.last b hl
    rw [List.getLast?_eq_getElem?] at hl
    have := h.few hl
    obtain ⟨r, h1, h2, -⟩ := (h.is _ b (by omega) hb).1 hl
    exact ⟨r, h1, by omega⟩
section
variable {x y z : Rp} {P : Nat → Bool} {L : List HR} {E : List Nat} {r : HR}
theorem HeapIn.slot (h : HeapIn x P L E) (hr : r ∈ L) : ∃ s, HPg x L (r.place / 64) s ∧ s[r.place % 64]? = some r.what := by
  obtain ⟨s, hs⟩ := h.pg _ (h.at_ r hr).1
  exact ⟨s, hs, (hs.is _ _ (by omega) r.what_ne).2 ⟨r, hr, by omega, rfl⟩⟩
theorem HeapIn.none_ (h : HeapIn x P L E) {q : Nat} (hn : ∀ r ∈ L, r.place ≠ q) : P (q / 64) = false ∨ ∃ s, HPg x L (q / 64) s ∧ ∀ b, s[q % 64]? = some b → b = [] := by
  cases hp : P (q / 64) with
  | false => exact .inl rfl
  | true =>
    obtain ⟨s, hs⟩ := h.pg _ hp
    refine .inr ⟨s, hs, fun b hb => Classical.byContradiction fun hne => ?_⟩
    obtain ⟨r, h1, h2, -⟩ := (hs.is _ b (by omega) hne).1 hb
    exact hn r h1 (by omega)
theorem HeapIn.lt (h : HeapIn x P L E) {i : Nat} (hi : P i = true) : i < x.now.length := by
  obtain ⟨s, hs⟩ := h.pg i hi
  exact hs.lt
theorem HeapIn.use (h : HeapIn x P L E) (hr : r ∈ L) {i : Nat} (hi : i ∈ r.pages) : ∃ c, x.now[i]? = some c ∧ c.used = true := by
  rcases (h.at_ r hr).2.2 with ⟨e, -⟩ | ⟨-, e⟩
  · rw [e] at hi; cases hi
  · obtain ⟨k, hk⟩ := List.mem_iff_getElem?.1 hi
    obtain ⟨c, h1, h2, -⟩ := e.at_ k i hk
    exact ⟨c, h1, h2⟩
theorem HeapIn.usedP (h : HeapIn x P L E) {i : Nat} (hi : P i = true) : ∃ c, x.now[i]? = some c ∧ c.used = true := by
  obtain ⟨s, hs⟩ := h.pg i hi
  obtain ⟨c, h1, h2, -⟩ := hs.byt
  exact ⟨c, h1, h2⟩
/-- A record's own pages are taken. -/
theorem HeapIn.chain (h : HeapIn x P L []) {l : List Nat} {bs : List Int} (hp : PutRel x y l bs) : HeapIn y P L l := by
  have hno : ∀ i ∈ l, ∀ c, x.now[i]? = some c → c.used = true → False := fun i hi c h1 h2 => by
    rw [hp.was i hi] at h1
    cases h1
    cases h2
  have hP : ∀ i ∈ l, P i = false := fun i hi => by
    cases e : P i with
    | false => rfl
    | true => obtain ⟨c, h1, h2⟩ := h.usedP e; exact (hno i hi c h1 h2).elim
  have hQ : ∀ r ∈ L, ∀ i ∈ r.pages, i ∉ l := fun r hr i hi hl => by
    obtain ⟨c, h1, h2⟩ := h.use hr hi
    exact hno i hl c h1 h2
  have h0 := h.own
  have h1 := h.far
  have h2 := h.used
  rw [List.nil_append] at h0 h1 h2
  refine ⟨fun i hi => ?_, fun r hr => ?_, h.nd, ?_, fun i hi => ?_, ?_⟩
  · obtain ⟨s, hs⟩ := h.pg i hi
    exact ⟨s, hs.keep hp.like.sz (hp.else_ i fun e => by rw [hP i e] at hi; cases hi)⟩
  · exact ⟨(h.at_ r hr).1, (h.at_ r hr).2.keep hp.like.sz fun i hi => hp.else_ i (hQ r hr i hi)⟩
  · refine List.nodup_append.2 ⟨hp.stands.nd, h0, fun a ha b hb e => ?_⟩
    subst e
    obtain ⟨r, hr, hi⟩ := List.mem_flatMap.1 hb
    exact hQ r hr a hi ha
  · rcases List.mem_append.1 hi with e | e
    · exact hP i e
    · exact h1 i e
  · rw [hp.used, h2, hp.like.len, List.length_append]
    omega
theorem setB_self {f : Nat → Bool} {i k : Nat} {v : Bool} : setB f i v k = if k = i then v else f k := by
  unfold setB
  split <;> rename_i h <;> simp_all
/-- What a page has, if it is one of the heap. -/
structure HSl (x : Rp) (P : Nat → Bool) (L : List HR) (i : Nat) (s : Sls) : Prop where
  c : (P i = true ∧ ∃ c, x.now[i]? = some c ∧ c.used = true) ∨ (P i = false ∧ x.now[i]? = some .no)
  fit : SFit s x.sz
  is : ∀ (j : Nat) b, j < 64 → b ≠ [] → (s[j]? = some b ↔ ∃ r ∈ L, r.place = 64 * i + j ∧ r.what = b)
theorem HPg.sl {i : Nat} {s : Sls} (h : HPg x L i s) (hi : P i = true) : HSl x P L i s := by
  obtain ⟨c, h1, h2, -⟩ := h.byt
  exact ⟨.inl ⟨hi, c, h1, h2⟩, h.fit, h.is⟩
theorem HeapIn.sl_new (h : HeapIn x P L E) {i : Nat} (hi : x.now[i]? = some .no) (hz : 16 ≤ x.sz) : HSl x P L i [] := by
  have hP : P i = false := by
    cases e : P i with
    | false => rfl
    | true => obtain ⟨c, h1, h2⟩ := h.usedP e; rw [hi] at h1; cases h1; cases h2
  refine ⟨.inr ⟨hP, hi⟩, ⟨by show 1 ≤ x.sz; omega, by simp, fun b hb => by simp at hb, fun b hb => by cases hb⟩, fun j b hj hb => ⟨fun e => by simp at e, ?_⟩⟩
  rintro ⟨q, h1, h2, -⟩
  have h3 := (h.at_ q h1).1
  rw [show q.place / 64 = i by omega, hP] at h3
  cases h3
/-- A record is in a page of the heap. -/
theorem HeapIn.put (h : HeapIn x P L E) {i : Nat} {s : Sls} (hs : HSl x P L i s) (hf : fitsS s r.what.length x.sz) (hp : r.place = 64 * i + empS s) (hE : r.pages = E) (hok : r.ok x) :
    HeapIn (x.put i (.new (pageS (putS1 s r.what) x.sz))) (setB P i true) (L ++ [r]) [] := by
  have hil : i < x.now.length := by
    rcases hs.c with ⟨-, c, h1, -⟩ | ⟨-, h1⟩ <;> exact (List.getElem?_eq_some_iff.1 h1).1
  have h63 : empS s < 63 := by
    have h1 := empS_le s
    have h2 := hs.fit.few
    unfold fitsS at hf
    split at hf <;> omega
  have hnone : ∀ q ∈ L, q.place ≠ r.place := fun q hq e => by
    have h1 := (hs.is (empS s) q.what (by omega) q.what_ne).2 ⟨q, hq, by omega, rfl⟩
    have h2 := empS_at (s := s) (List.getElem?_eq_some_iff.1 h1).1
    rw [h1] at h2
    exact q.what_ne (by simpa using h2)
  have hmem : ∀ q ∈ L ++ [r], ∀ j ∈ q.pages, j ∈ E ++ L.flatMap HR.pages := fun q hq j hj => by
    rcases List.mem_append.1 hq with e | e
    · exact List.mem_append_right _ (List.mem_flatMap.2 ⟨q, e, hj⟩)
    · simp only [List.mem_singleton] at e
      subst e
      exact List.mem_append_left _ (hE ▸ hj)
  have hq0 : ∀ q ∈ L ++ [r], q.ok x := fun q hq => by
    rcases List.mem_append.1 hq with e | e
    · exact (h.at_ q e).2
    · simp only [List.mem_singleton] at e; subst e; exact hok
  have hni : ∀ q ∈ L ++ [r], i ∉ q.pages := fun q hq hj => by
    rcases hs.c with ⟨h1, -⟩ | ⟨-, h1⟩
    · rw [h.far i (hmem q hq i hj)] at h1; cases h1
    · rcases (hq0 q hq).2 with ⟨e, -⟩ | ⟨-, e⟩
      · rw [e] at hj; cases hj
      · obtain ⟨k, hk⟩ := List.mem_iff_getElem?.1 hj
        obtain ⟨c, h2, h3, -⟩ := e.at_ k i hk
        rw [h1] at h2
        cases h2
        cases h3
  have hpe : (L ++ [r]).flatMap HR.pages = L.flatMap HR.pages ++ E := by simp [hE]
  refine ⟨fun k hk => ?_, fun q hq => ?_, ?_, ?_, fun k hk => ?_, ?_⟩
  · by_cases hki : k = i
    · subst hki
      refine ⟨putS1 s r.what, ⟨_, by rw [Rp.put_at hil, if_pos rfl], rfl, rfl⟩, putS1_fit hs.fit hf r.what_ne hok.byt, fun e => ?_, fun j b hj64 hb => ⟨fun hj => ?_, ?_⟩⟩
      · have := putS1_at (s := s) (b := r.what)
        rw [e] at this
        simp at this
      · rcases putS1_back hb hj with ⟨rfl, rfl⟩ | e
        · exact ⟨r, by simp, hp, rfl⟩
        · obtain ⟨q, h1, h2⟩ := (hs.is j b hj64 hb).1 e
          exact ⟨q, List.mem_append_left _ h1, h2⟩
      · rintro ⟨q, hq, h1, rfl⟩
        rcases List.mem_append.1 hq with e | e
        · exact (putS1_other q.what_ne ((hs.is j _ hj64 q.what_ne).2 ⟨q, e, h1, rfl⟩)).2
        · simp only [List.mem_singleton] at e
          subst e
          rw [show j = empS s by omega]
          exact putS1_at
    · rw [setB_self, if_neg hki] at hk
      obtain ⟨s', hs'⟩ := h.pg k hk
      have h4 := hs'.keep (y := x.put i (.new (pageS (putS1 s r.what) x.sz))) rfl (by rw [Rp.put_at hil, if_neg hki])
      refine ⟨s', h4.byt, h4.fit, h4.ne, fun j b hj64 hb => (hs'.is j b hj64 hb).trans ⟨?_, ?_⟩⟩
      · rintro ⟨q, h1, h2⟩; exact ⟨q, List.mem_append_left _ h1, h2⟩
      · rintro ⟨q, h1, h2, h3⟩
        rcases List.mem_append.1 h1 with e | e
        · exact ⟨q, e, h2, h3⟩
        · simp only [List.mem_singleton] at e
          subst e
          omega
  · refine ⟨?_, (hq0 q hq).keep rfl fun j hj => by rw [Rp.put_at hil, if_neg (by rintro rfl; exact hni q hq hj)]⟩
    rw [setB_self]
    split
    · rfl
    · rename_i hne
      rcases List.mem_append.1 hq with e | e
      · exact (h.at_ q e).1
      · simp only [List.mem_singleton] at e
        subst e
        omega
  · rw [List.map_append]
    refine List.nodup_append.2 ⟨h.nd, by simp, fun a ha b hb e => ?_⟩
    subst e
    obtain ⟨q, hq, rfl⟩ := List.mem_map.1 ha
    simp only [List.map_cons, List.map_nil, List.mem_singleton] at hb
    exact hnone q hq hb
  · rw [List.nil_append, hpe]
    exact (List.perm_append_comm.nodup_iff).1 h.own
  · rw [List.nil_append] at hk
    obtain ⟨q, hq, hj⟩ := List.mem_flatMap.1 hk
    rw [setB_self, if_neg (by rintro rfl; exact hni q hq hj)]
    exact h.far k (hmem q hq k hj)
  · have h4 := h.used
    rw [Rp.put_len, List.nil_append, hpe]
    rw [List.length_append] at h4 ⊢
    rcases hs.c with ⟨h0, c, h1, h2⟩ | ⟨h0, h1⟩
    · have h3 := Rp.put_used (c := .new (pageS (putS1 s r.what) x.sz)) h1
      rw [h2] at h3
      simp [Pk.used] at h3
      rw [setB_same h0, h3, h4]
      omega
    · have h3 := Rp.put_used (c := .new (pageS (putS1 s r.what) x.sz)) h1
      simp [Pk.used] at h3
      rw [cntN_yes P hil h0, h3, h4]
      omega
theorem erase_hr {s : List HR} {k : Nat} {x : HR} (hx : s[k]? = some x) : s.Perm (x :: s.eraseIdx k) := by
  have hk := (List.getElem?_eq_some_iff.1 hx).1
  have e : s = s.take k ++ x :: s.drop (k + 1) := by
    conv => lhs; rw [← List.take_append_drop k s, List.drop_eq_getElem_cons hk]
    rw [(List.getElem?_eq_some_iff.1 hx).2]
  rw [List.eraseIdx_eq_take_drop_succ]
  conv => lhs; rw [e]
  exact List.perm_middle
/-- A record goes; its own pages are given up. -/
theorem HeapIn.del (h : HeapIn x P L []) {k : Nat} (hk : L[k]? = some r) (hf : Freed x y r.pages) {s : Sls} (hs : HPg x L (r.place / 64) s) :
    (delS s (r.place % 64) ≠ [] → HeapIn (y.put (r.place / 64) (.new (pageS (delS s (r.place % 64)) x.sz))) P (L.eraseIdx k) []) ∧
    (delS s (r.place % 64) = [] → HeapIn (y.put (r.place / 64) .no) (setB P (r.place / 64) false) (L.eraseIdx k) []) := by
  have hr : r ∈ L := List.mem_of_getElem? hk
  have hkl := (List.getElem?_eq_some_iff.1 hk).1
  obtain ⟨i, hi⟩ : ∃ i, r.place / 64 = i := ⟨_, rfl⟩
  obtain ⟨j0, hj0⟩ : ∃ j, r.place % 64 = j := ⟨_, rfl⟩
  rw [hi] at hs
  rw [hi, hj0]
  have hPi : P i = true := hi ▸ (h.at_ r hr).1
  have hsub : ∀ q ∈ L.eraseIdx k, q ∈ L := fun q hq => List.mem_of_mem_eraseIdx hq
  have hnd := h.nd
  have hLp : L.Perm (r :: L.eraseIdx k) := by
    exact erase_hr hk
  have hndp := ((hLp.map HR.place).nodup_iff).1 hnd
  rw [List.map_cons, List.nodup_cons] at hndp
  have hne : ∀ q ∈ L.eraseIdx k, q.place ≠ r.place := fun q hq e => hndp.1 (e ▸ List.mem_map.2 ⟨q, hq, rfl⟩)
  have hin : ∀ q ∈ L, q.place ≠ r.place → q ∈ L.eraseIdx k := fun q hq e => by
    rcases List.mem_cons.1 ((hLp.mem_iff).1 hq) with e1 | e1
    · exact absurd (congrArg HR.place e1) e
    · exact e1
  have hown := h.own
  rw [List.nil_append] at hown
  have hownp := (((hLp.flatMap_right HR.pages)).nodup_iff).1 hown
  rw [List.flatMap_cons] at hownp
  obtain ⟨ho1, ho2, ho3⟩ := List.nodup_append.1 hownp
  have hfar : ∀ q ∈ L, ∀ m ∈ q.pages, P m = false := fun q hq m hm => h.far m (by rw [List.nil_append]; exact List.mem_flatMap.2 ⟨q, hq, hm⟩)
  have hil : i < y.now.length := by rw [hf.like.len]; exact hs.lt
  have hyk : ∀ m, P m = true → y.now[m]? = x.now[m]? := fun m hm => hf.else_ m fun e => by rw [hfar r hr m e] at hm; cases hm
  have hlen : (L.flatMap HR.pages).length = r.pages.length + ((L.eraseIdx k).flatMap HR.pages).length := by
    rw [(hLp.flatMap_right HR.pages).length_eq, List.flatMap_cons, List.length_append]
  have hsz := hf.like.sz
  have hu := h.used
  rw [List.nil_append, hlen] at hu
  have hfu := hf.used
  have hyl := hf.like.len
  have hall : ∀ (c : Pk), ∀ q ∈ L.eraseIdx k, q.ok (y.put i c) := fun c q hq => (h.at_ q (hsub q hq)).2.keep (show (y.put i c).sz = x.sz from hsz) fun m hm => by
    rw [Rp.put_at hil, if_neg (by rintro rfl; rw [hfar q (hsub q hq) _ hm] at hPi; cases hPi)]
    exact hf.else_ m fun e => ho3 m e m (List.mem_flatMap.2 ⟨q, hq, hm⟩) rfl
  have hpg : ∀ (c : Pk) m, m ≠ i → P m = true → ∃ s', HPg (y.put i c) (L.eraseIdx k) m s' := fun c m hmi hm => by
    obtain ⟨s', hs'⟩ := h.pg m hm
    have h4 := hs'.keep (y := y.put i c) (show (y.put i c).sz = x.sz from hsz) (by rw [Rp.put_at hil, if_neg hmi]; exact hyk m hm)
    refine ⟨s', h4.byt, h4.fit, h4.ne, fun j b hj64 hb => (hs'.is j b hj64 hb).trans ⟨?_, ?_⟩⟩
    · rintro ⟨q, h1, h2, h3⟩
      exact ⟨q, hin q h1 (by omega), h2, h3⟩
    · rintro ⟨q, h1, h2⟩
      exact ⟨q, hsub q h1, h2⟩
  have hdel : ∀ (j : Nat) b, j < 64 → b ≠ [] → ((delS s j0)[j]? = some b ↔ ∃ q ∈ L.eraseIdx k, q.place = 64 * i + j ∧ q.what = b) := fun j b hj64 hb => by
    rw [delS_other hb, hs.is j b hj64 hb]
    constructor
    · rintro ⟨h1, q, h2, h3, h4⟩
      exact ⟨q, hin q h2 (by omega), h3, h4⟩
    · rintro ⟨q, h2, h3, h4⟩
      have := hne q h2
      exact ⟨by omega, q, hsub q h2, h3, h4⟩
  have hnd2 : ((L.eraseIdx k).map HR.place).Nodup := hndp.2
  obtain ⟨c0, hc0, hcu, -⟩ := hs.byt
  rw [← hyk i hPi] at hc0
  refine ⟨fun hd => ⟨fun m hm => ?_, fun q hq => ⟨(h.at_ q (hsub q hq)).1, hall _ q hq⟩, hnd2, by rw [List.nil_append]; exact ho2, fun m hm => ?_, ?_⟩, fun hd => ⟨fun m hm => ?_, fun q hq => ⟨?_, hall _ q hq⟩, hnd2, by rw [List.nil_append]; exact ho2, fun m hm => ?_, ?_⟩⟩
  · by_cases hmi : m = i
    · subst hmi
      exact ⟨delS s j0, ⟨_, by rw [Rp.put_at hil, if_pos rfl], rfl, by show pageS _ x.sz = pageS _ y.sz; rw [hsz]⟩, by show SFit _ y.sz; rw [hsz]; exact delS_fit hs.fit, hd, hdel⟩
    · exact hpg _ m hmi hm
  · rw [List.nil_append] at hm
    obtain ⟨q, hq, hj⟩ := List.mem_flatMap.1 hm
    exact hfar q (hsub q hq) m hj
  · have h3 := Rp.put_used (c := .new (pageS (delS s j0) x.sz)) hc0
    rw [hcu] at h3
    simp [Pk.used] at h3
    rw [Rp.put_len, List.nil_append, hyl]
    omega
  · rw [setB_self] at hm
    split at hm
    · cases hm
    · rename_i hmi; exact hpg _ m hmi hm
  · rw [setB_self, if_neg]
    · exact (h.at_ q (hsub q hq)).1
    · intro e
      have h5 := (hdel (q.place % 64) q.what (by omega) q.what_ne).2 ⟨q, hq, by omega, rfl⟩
      rw [hd] at h5
      simp at h5
  · rw [List.nil_append] at hm
    obtain ⟨q, hq, hj⟩ := List.mem_flatMap.1 hm
    rw [setB_self]
    split
    · rfl
    · exact hfar q (hsub q hq) m hj
  · have h3 := Rp.put_used (c := .no) hc0
    rw [hcu] at h3
    simp [Pk.used] at h3
    have h6 := cntN_drop P hs.lt hPi
    rw [Rp.put_len, List.nil_append, hyl]
    omega
/-- A heap's pages are no more than its records. -/
theorem HeapIn.bnd (h : HeapIn x P L E) : cntN P x.now.length ≤ L.length := by
  rw [cntN_countP, List.countP_eq_length_filter]
  have h1 := List.Nodup.length_le_of_subset (l₁ := (List.range x.now.length).filter P) (l₂ := L.map fun r => r.place / 64) (List.nodup_range.filter _) fun i hi => by
    obtain ⟨s, hs⟩ := h.pg i (List.mem_filter.1 hi).2
    obtain ⟨r, h1, h2⟩ := hs.some_
    exact List.mem_map.2 ⟨r, h1, h2⟩
  rw [List.length_map] at h1
  exact h1
theorem HeapIn.empty (h : HeapIn x P [] E) (i : Nat) : P i = false := by
  cases e : P i with
  | false => rfl
  | true =>
    obtain ⟨s, hs⟩ := h.pg i e
    obtain ⟨r, h1, -⟩ := hs.some_
    cases h1
theorem HeapIn.start (hx : x.now.countP Pk.used = 0) : HeapIn x (fun _ => false) [] [] := by
  refine ⟨fun i h => (by cases h), fun r h => (by cases h), List.nodup_nil, List.nodup_nil, fun _ _ => rfl, ?_⟩
  rw [hx, cntN_no]
  rfl
end
theorem Rp.put_put (x : Rp) (i : Nat) (a b : Pk) : (x.put i a).put i b = x.put i b := by
  unfold Rp.put Rp.row
  simp only [List.set_set]
  congr 1
  rw [setB_same]
  unfold setB
  rw [if_pos rfl]
end Go.Proofs.YtjkkoogfaibhiaaGreatDoor
