/- A range over a function, at the wide fence: our own laws of the statement, of a round, and of a function that leaves with marks. No program stands in this text. -/
import Derived.Test.YtjpkpckgkhbfpaaBase
import Derived.RangeFuncNested
import Derived.RangeFuncBound
import Derived.RangeFuncCalls
import Derived.RangeFuncLeaves
import Derived.Shelf.Abstract
import Derived.Shelf.RegionOpen
import Derived.OwnWalkIn
import Derived.TacticsInMore
import Derived.LoopNIn
import Derived.LoopIn
import Derived.Sort.BigQuietIn
namespace Go.Proofs.Ytjpkpckgkhbfpaa
open Go.RowKit

/-- The book-keeping's blocks: a loop's record, a block for deferred calls, an iterator over a map. -/
def isBook : Obj → Bool | .loop _ => true | .deferred _ => true | .mapIter .. => true | _ => false
def Book (W : World) : Nat → Prop := fun k => ∃ o, W.heap[k]? = some o ∧ isBook o = true

section
variable {w w' W W' : World} {g l D : Nat} {t : TypeId} {cs : Array Value} {F : Nat → Prop} {r : Loop}

theorem Blk.noBook (h : Blk w g t cs) : ¬ Book w g := by
  rintro ⟨o, ho, hb⟩
  unfold Blk at h
  rw [h] at ho
  cases ho
  cases hb
theorem Blk.putTo {i : Nat} {u : Value} {cs' : Array Value} (h : Blk w g t cs) (e : cs.setIfInBounds i u = cs') : Blk (w.setCell ⟨g, i, none⟩ u) g t cs' := e ▸ h.put i u
theorem noBook_of_cell {a : Addr} {v : Value} (h : w.cell? a = some v) : ¬ Book w a.block := by
  rintro ⟨o, ho, hb⟩
  cases o <;> simp [isBook] at hb <;> simp [World.cell?, ho] at h
theorem own_noBook {base : Nat} {e : TypeId} {s n : Nat} {v : Value} {xs : List Value} (h : w.ownsRow base e s v n xs) {g : Nat} (hg : v.ownBlock = some g) : ¬ Book w g := by
  rintro ⟨o, ho, hb⟩
  rcases h.2 with ⟨rfl, _⟩ | ⟨g', cap, cur, rfl, _, hh, _⟩
  · simp [Value.ownBlock] at hg
  · have : g' = g := by simpa [Value.ownBlock] using hg
    subst this
    rw [hh] at ho
    cases ho
    cases hb
theorem Sl.noBook {s n : Nat} {A : Option Addr} {xs : List Value} (h : Sl w s A n xs) (hs : 0 < s) (hn : 0 < n) : ∀ a, A = some a → ¬ Book w a.block := by
  obtain ⟨b, off, rfl, hb, hx⟩ := h.2 hn
  rintro a ha
  cases ha
  have h0 : 0 < xs.length := by rw [h.1]; exact Nat.mul_pos hn hs
  exact noBook_of_cell (a := ⟨b, off + 0, none⟩) (hx 0 _ (List.getElem?_eq_getElem h0))

theorem own_grew {base : Nat} {e : TypeId} {s n : Nat} {v : Value} {xs : List Value} (h : w.ownsRow base e s v n xs) (hc : Grew w w') : w'.ownsRow base e s v n xs := own_chg h hc fun _ _ h => h
/-- The record of a loop lies at l. -/
def Rec (W : World) (l : Nat) (r : Loop) : Prop := W.heap[l]? = some (.loop r)
/-- The block for the rounds' deferred calls: it holds none. -/
def Dfr (W : World) (D : Nat) : Prop := W.heap[D]? = some (.deferred (some []))
theorem Rec.lt (h : Rec W l r) : l < W.heap.size := (Array.getElem?_eq_some_iff.1 h).1
theorem Dfr.lt (h : Dfr W D) : D < W.heap.size := (Array.getElem?_eq_some_iff.1 h).1
theorem Rec.chg (h : Rec W l r) (hc : Chg F W W') (hf : ¬ F l) : Rec W' l r := (hc.block l h.lt hf).trans h
theorem Dfr.chg (h : Dfr W D) (hc : Chg F W W') (hf : ¬ F D) : Dfr W' D := (hc.block D h.lt hf).trans h
theorem Rec.grew (h : Rec W l r) (hc : Grew W W') : Rec W' l r := h.chg hc id
theorem Dfr.grew (h : Dfr W D) (hc : Grew W W') : Dfr W' D := h.chg hc id
theorem Rec.isBook (h : Rec W l r) : Book W l := ⟨_, h, rfl⟩
theorem Dfr.isBook (h : Dfr W D) : Book W D := ⟨_, h, rfl⟩
theorem Rec.ne_blk (h : Rec W l r) (hb : Blk W g t cs) : l ≠ g := by rintro rfl; exact hb.noBook h.isBook
theorem Dfr.ne_blk (h : Dfr W D) (hb : Blk W g t cs) : D ≠ g := by rintro rfl; exact hb.noBook h.isBook
theorem Rec.ne_dfr (h : Rec W l r) (hb : Dfr W D) : l ≠ D := by
  rintro rfl
  unfold Rec Dfr at *
  rw [h] at hb
  cases hb
theorem Chg.putObj (h : Chg F w W) (hl : l < w.heap.size → F l) (o : Obj) : Chg F w (W.putObj l o) :=
  ⟨h.os, h.tape, h.output, by simpa using h.size, fun k hk hf => (World.putObj_heap_other (by rintro rfl; exact hf (hl hk))).trans (h.block k hk hf)⟩
theorem Chg.putBook (h : Book W l) (o : Obj) : Chg (Book W) W (W.putObj l o) := (Chg.refl _ _).putObj (fun _ => h) o
/-- Block l, of the book-keeping, has turned; nothing else. -/
structure Kept (l : Nat) (W W' : World) : Prop where
  chg : Chg (fun j => j = l) W W'
  book : Book W l
theorem Kept.putObj (h : Book W l) (o : Obj) : Kept l W (W.putObj l o) := ⟨(Chg.refl (fun j => j = l) W).putObj (fun _ => rfl) o, h⟩
theorem Blk.kept (h : Blk W g t cs) (hk : Kept l W W') : Blk W' g t cs := h.chg hk.chg (by rintro rfl; exact h.noBook hk.book)
theorem Sl.kept {s n : Nat} {A : Option Addr} {xs : List Value} (h : Sl W s A n xs) (hk : Kept l W W') : Sl W' s A n xs :=
  ⟨h.1, fun hn => by
    obtain ⟨b, off, e, hb, hx⟩ := h.2 hn
    refine ⟨b, off, e, Nat.lt_of_lt_of_le hb hk.chg.size, fun j u hu => ?_⟩
    have := hx j u hu
    exact (hk.chg.cell (p := ⟨b, off + j, none⟩) hb (by intro e; exact noBook_of_cell this (e ▸ hk.book))).trans this⟩
theorem own_kept {base : Nat} {e : TypeId} {s n : Nat} {v : Value} {xs : List Value} (h : W.ownsRow base e s v n xs) (hk : Kept l W W') : W'.ownsRow base e s v n xs :=
  own_chg h hk.chg fun _ hg => by rintro rfl; exact own_noBook h hg hk.book
theorem Dfr.kept (h : Dfr W D) (hk : Kept l W W') (hl : D ≠ l) : Dfr W' D := h.chg hk.chg hl
theorem Rec.kept {l' : Nat} (h : Rec W l' r) (hk : Kept l W W') (hl : l' ≠ l) : Rec W' l' r := h.chg hk.chg hl
/-- What changed only blocks of F, beside the book-keeping's block l, not there before. -/
theorem Chg.kept (h : Chg F w W) (hk : Kept l W W') (hl : w.heap.size ≤ l) : Chg F w W' := Chg.trans h hk.chg fun i hi e => by omega
/-- Whatever block of cells was known is as it was. -/
def Pres (w W : World) : Prop := ∀ g t cs, Blk w g t cs → Blk W g t cs
theorem Pres.refl (w : World) : Pres w w := fun _ _ _ h => h
theorem Pres.trans {a b c : World} (h : Pres a b) (k : Pres b c) : Pres a c := fun g t cs hb => k g t cs (h g t cs hb)
theorem Grew.pres {a b : World} (h : Grew a b) : Pres a b := fun _ _ _ hb => hb.grew h
theorem Kept.pres (h : Kept l W W') : Pres W W' := fun _ _ _ hb => hb.kept h
theorem Rec.alloc (h : Rec W l r) (o : Obj) : Rec (W.alloc o) l r := h.grew ((Chg.refl _ _).alloc _)
theorem Dfr.alloc (h : Dfr W D) (o : Obj) : Dfr (W.alloc o) D := h.grew ((Chg.refl _ _).alloc _)
theorem Rec.put (h : Rec W l r) (r' : Loop) : Rec (W.putObj l (.loop r')) l r' := World.putObj_heap_same h.lt
theorem Dfr.putOther (h : Dfr W D) (o : Obj) (hl : D ≠ l) : Dfr (W.putObj l o) D := (World.putObj_heap_other hl).trans h
end

section
variable {P : Program}

/-- The record of a loop, in a state. -/
def Loop.at_ (r : Loop) (s : LoopState) (p : Option Code) : Loop := { r with state := s, pending := p }

/-- What is asked when the function that was ranged over has returned. -/
def rangeEnd (P : Program) (l : Nat) (r : Loop) (Q : Exit → Act → World → Prop) (a : Act) (w3 : World) : Prop :=
  (Rec w3 l (Loop.at_ r .ready none) ∧ ∀ w4, Kept l w3 w4 → Q .normal a w4) ∨
  ∃ c, Rec w3 l (Loop.at_ r .done (some c)) ∧ ∀ w4, Kept l w3 w4 → c.wp P Q a w4

/-- The statement: the iterator's contract, with the loop's record laid. -/
theorem wp_range {g : Operand} {ps : Array Tmp} {assign body : Code} {Q : Exit → Act → World → Prop} {a : Act} {w : World} {gf : FuncId} {lb : Array Value}
    (hg : a.eval g = .func (.func gf) #[] lb) (eg : ∀ args w, (callFunc gf args).run P w = .ok (.enter gf args) w)
    (h : ∀ (r : Loop) (W1 : World) (D L : Nat), (r.tmps = a.tmps ∧ r.params = ps ∧ r.assign = assign ∧ r.body = body) → Grew w W1 → w.heap.size ≤ D → w.heap.size ≤ L → Dfr W1 D → Rec W1 L (Loop.at_ r .ready none) →
      Calls P gf (#[.func (.yield L) #[] #[]] ++ lb) W1 fun e w3 => (∃ v, e = .returned v) ∧
        rangeEnd P L r Q { a with defers := { target := .collected D, args := #[] } :: a.defers } w3) :
    (Code.rangeFunc g ps assign body).wp P Q a w := by
  refine (wpIn_wide (n := 0)).1 (wpIn_rangeFunc ?_)
  intro fn _
  let r : Loop := { state := .ready, pending := none, fn, tmps := a.tmps, params := ps, assign, body, defers := w.heap.size }
  obtain ⟨W1, hW1⟩ : ∃ W1, (w.alloc (.deferred (some []))).alloc (.loop r) = W1 := ⟨_, rfl⟩
  have hL1 : W1.heap[w.heap.size + 1]? = some (.loop r) := by
    rw [← hW1]; have := World.alloc_heap_new (w.alloc (.deferred (some []))) (.loop r); rwa [World.size_alloc] at this
  have hK1 : W1.heap[w.heap.size]? = some (.deferred (some [])) := by
    rw [← hW1]; exact (Below.heap_alloc _ _ _ (by simp)).trans (World.alloc_heap_new w _)
  refine ⟨w.heap.size + 1, [{ target := .collected w.heap.size, args := #[] }], W1, { target := .fn (.func gf) lb, args := #[.func (.yield (w.heap.size + 1)) #[] #[]] }, W1, gf,
    #[.func (.yield (w.heap.size + 1)) #[] #[]] ++ lb, W1, ?_, ?_, fun _ _ => trivial, ?_, (fun h => by cases h), ?_⟩
  · rw [← hW1]; exact run_enterLoop_outer _ _ _ _ _
  · simp only [resolve, hg]
    simp [go_sem]
  · simp [invoke, go_sem, eg]
  · refine callsIn_wide.2 ((h r W1 w.heap.size (w.heap.size + 1) ⟨rfl, rfl, rfl, rfl⟩ (by rw [← hW1]; exact ((Chg.refl _ _).alloc _).alloc _) (Nat.le_refl _) (Nat.le_succ _) hK1 hL1).mono ?_)
    rintro e w3 ⟨⟨v, rfl⟩, ⟨hr, hq⟩ | ⟨c, hr, hq⟩⟩
    · exact ⟨none, _, run_endLoop hr (by simp [Loop.at_]), hq _ (Kept.putObj hr.isBook _)⟩
    · exact ⟨some c, _, run_endLoop hr (by simp [Loop.at_]), wpIn_wide.2 (hq _ (Kept.putObj hr.isBook _))⟩

/-- How a round may end. -/
def roundEnd (l : Nat) (r : Loop) (R : Ending → World → Prop) : Exit → Act → World → Prop
  | .normal, _, w => Rec w l (Loop.at_ r .busy none) ∧ ∀ w', Kept l w w' → Rec w' l (Loop.at_ r .ready none) → R (.returned (.bool true)) w'
  | .ret, _, w => Rec w l (Loop.at_ r .busy none) ∧ ∀ w', Kept l w w' → Rec w' l (Loop.at_ r .done (some .ret)) → R (.returned (.bool false)) w'
  | .exit id, _, w => Rec w l (Loop.at_ r .busy none) ∧ ∀ w', Kept l w w' → Rec w' l (Loop.at_ r .done (some (.exit id))) → R (.returned (.bool false)) w'
  | .goto t, _, w => Rec w l (Loop.at_ r .busy none) ∧ ∀ w', Kept l w w' → Rec w' l (Loop.at_ r .done (some (.goto t))) → R (.returned (.bool false)) w'
  | .panic _, _, _ => False
  | .outgrown, _, _ => False

/-- A round, out of the walk of its assignment and its body. -/
theorem yield_wide {l n : Nat} {r : Loop} {W : World} {args : Array Value} {R : Ending → World → Prop} (hl : Rec W l (Loop.at_ r .ready none)) (hs : args.size = r.params.size)
    (h : ∀ K : Act → World → Prop, (∀ a1 W1, Rec W1 l (Loop.at_ r .ready none) → (∀ (W2 : World) (Q : Exit → Act → World → Prop), Kept l W1 W2 → Rec W2 l (Loop.at_ r .busy none) → (∀ e a w, roundEnd l r R e a w → Q e a w) →
        r.body.wpIn (Fence.wide.inRound l) n P Q a1 W2) → K a1 W1) → r.assign.wpIn (Fence.wide.inRound l) n P (Exit.then K (fun _ _ _ => False))
      { tmps := (r.params.zip args).foldl (fun t (p, v) => t.setIfInBounds p v) r.tmps, defers := [] } W) :
    YieldAt Fence.wide n P l args W R := by
  refine ⟨_, _, _, _, run_yield hl hs, roundIn_of_wpIn trivial (h _ fun a1 W1 hl1 hb => ?_)⟩
  refine ⟨_, run_beginRound hl1 rfl, hb _ _ (Kept.putObj hl1.isBook _) (hl1.put _) ?_⟩
  intro e a2 W3 hq3
  cases e with
  | normal => exact ⟨_, _, run_endRound none hq3.1, hq3.2 _ (Kept.putObj hq3.1.isBook _) (hq3.1.put _)⟩
  | ret => exact ⟨_, _, run_endRound (some .ret) hq3.1, hq3.2 _ (Kept.putObj hq3.1.isBook _) (hq3.1.put _)⟩
  | exit id => exact ⟨_, _, run_endRound (some (.exit id)) hq3.1, hq3.2 _ (Kept.putObj hq3.1.isBook _) (hq3.1.put _)⟩
  | goto t => exact ⟨_, _, run_endRound (some (.goto t)) hq3.1, hq3.2 _ (Kept.putObj hq3.1.isBook _) (hq3.1.put _)⟩
  | panic ch => exact hq3.elim
  | outgrown => exact hq3.elim

/-- The marks of the loops that were entered, taken off. -/
def Marks : List Deferred → World → World → Prop
  | [], w, w' => w = w'
  | d :: ds, w, w' => ∃ D, d.target = .collected D ∧ Dfr w D ∧ Marks ds (w.putObj D (.deferred none)) w'

/-- What the body of a function must achieve that holds ranges over functions. -/
def postM (P : Program) (fn : Func) (R : Ending → World → Prop) : Exit → Act → World → Prop
  | .normal, a, w | .ret, a, w => ∃ w', Marks a.defers w w' ∧ ∃ v, (results fn a.tmps).run P w' = .ok v w' ∧ R (.returned v) w'
  | .outgrown, _, w => R .outgrown w
  | _, _, _ => False

theorem leavesM {fn : Func} {tmps : Array Value} {R : Ending → World → Prop} : ∀ (ds : List Deferred) (w w' : World), Marks ds w w' → (∃ v, (results fn tmps).run P w' = .ok v w' ∧ R (.returned v) w') → LeavesInM Fence.wide 0 P fn tmps R ds .returning w
  | [], w, w', h, hr => by obtain rfl := h; exact hr
  | d :: ds, w, w', ⟨D, ht, hd, hm⟩, hr => ⟨by simp, .inl ⟨D, _, ht, run_takeDeferred hd, leavesM ds _ w' hm hr⟩⟩

theorem calls_of_marks {f : FuncId} {fn : Func} {c : Code} {args : Array Value} {w : World} {R : Ending → World → Prop}
    (hf : P.funcs[f]? = some fn) (hb : fn.body = some c)
    (h : c.wp P (postM P fn R) { tmps := args ++ Array.replicate (fn.ntmps - args.size) undef, defers := [] } w) : Calls P f args w R := by
  refine callsIn_wide.1 (callsIn_of_wp_marks (n := 0) hf hb trivial (wpIn_wide.2 (wp_mono h ?_)) rfl)
  intro e a w1 hq
  cases e with
  | normal => obtain ⟨w', hm, hv⟩ := hq; exact leavesM _ _ _ hm hv
  | ret => obtain ⟨w', hm, hv⟩ := hq; exact leavesM _ _ _ hm hv
  | exit id => exact hq.elim
  | goto t => exact hq.elim
  | panic ch => exact hq.elim
  | outgrown => exact hq

/-- The function returns, having entered no loop. -/
theorem postM_ret0 {fn : Func} {R : Ending → World → Prop} {a : Act} {w : World} {v : Value} (hr : (results fn a.tmps).run P w = .ok v w) (hd : a.defers = []) (hR : R (.returned v) w) : postM P fn R .ret a w :=
  ⟨w, by rw [hd]; exact rfl, v, hr, hR⟩
/-- The function returns, having entered one. -/
theorem postM_ret1 {fn : Func} {R : Ending → World → Prop} {a : Act} {w : World} {v : Value} {D : Nat} (hD : Dfr w D) (hd : a.defers = [{ target := .collected D, args := #[] }]) (hr : ∀ w', Kept D w w' → (results fn a.tmps).run P w' = .ok v w' ∧ R (.returned v) w') : postM P fn R .ret a w :=
  ⟨_, by rw [hd]; exact ⟨D, rfl, hD, rfl⟩, v, hr _ (Kept.putObj hD.isBook _)⟩
end

/-- No operation defers. -/
def noDefer (ops : Array Oper) : Bool := ops.all fun o => match o.op with | .defer _ => false | _ => true

section
variable {P : Program} {n L : Nat} {ops : Array Oper} {Q : Exit → Act → World → Prop} {md : Region.Mode}

theorem wpIn_inRound {o : Oper} {a : Act} {w : World} {K : Act → World → Prop} (ho : ∀ c, o.op ≠ .defer c) (h : o.wpIn Fence.wide n P a w K Q) : o.wpIn (Fence.wide.inRound L) n P a w K Q := by
  unfold Oper.wpIn at h ⊢
  refine ⟨fun f hf => trivial, ?_⟩
  have h2 := h.2
  rw [show (Fence.wide).round = none from rfl, Oper.semAt_none] at h2
  rw [show (Fence.wide.inRound L).round = some L from rfl, Oper.semAt_eq _ _ _ ho]
  generalize (execOp a.eval o).run P w = r at h2
  cases r with
  | ok x w' => cases x <;> exact h2
  | halt x w' => cases x <;> exact h2

theorem wpAnyIn_inRound (hnd : noDefer ops = true) : ∀ (fuel : Nat) (listed : Array Bool) (a : Act) (w : World), wpAnyIn Fence.wide n P md ops Q fuel listed a w → wpAnyIn (Fence.wide.inRound L) n P md ops Q fuel listed a w
  | 0, _, _, _, h => h
  | fuel + 1, listed, a, w, h => by
    refine ⟨h.1, fun i hi => ?_⟩
    have h2 := wpOpIn_mono (fun a w => wpAnyIn_inRound hnd fuel (listed.setIfInBounds i true) a w) (h.2 i hi)
    unfold wpOpIn at h2 ⊢
    cases ho : ops[i]? with
    | none => simpa [ho] using h2
    | some o =>
      simp only [ho] at h2 ⊢
      split
      · rename_i hw
        simp only [hw, if_true] at h2
        refine wpIn_inRound ?_ h2
        intro c hc
        have := Array.all_eq_true_iff_forall_mem.1 hnd o (Array.mem_of_getElem? ho)
        simp [hc] at this
      · rename_i hw
        simp only [hw] at h2
        exact ⟨fun f hf => trivial, h2.2⟩

/-- A region of a round that only reads and makes quiet calls: one walk in the order of the text. -/
theorem wpIn_region_quiet_round {id : Nat} {a : Act} {w : World} {l : List Oper} (hm : P.follows .mixedOrders = true) (hB : Region.lexB .any l.toArray = true) (hnd : noDefer l.toArray = true)
    (h : wpQuietIn Fence.wide n P l.toArray (fun w' => ∃ n, w' = w.drewN n) (fun a' => ∀ w', (∃ n, w' = w.drewN n) → Q .normal a' w') l a) : (Code.region id l.toArray true).wpIn (Fence.wide.inRound L) n P Q a w := by
  simp only [Region.lexB, Bool.and_eq_true] at hB
  refine wpIn_region_any hm (wpAnyIn_inRound hnd _ _ _ _ (wpAnyIn_of_quiet (F := Fence.wide) (C := fun w' => ∃ n, w' = w.drewN n) (Q := fun a' => ∀ w', (∃ n, w' = w.drewN n) → Q .normal a' w') rfl (fun _ w' hw' h => h w' hw') _ _ _ _ ⟨1, rfl⟩ ?_))
  have := wpAnyQIn_lex (F := Fence.wide) (n := n) (P := P) (C := fun w' => ∃ n, w' = w.drewN n) (md := .any) hB.1 l.toArray.toList 0 (Array.replicate l.toArray.size false) a (by simp) (by simpa using hB.2) (by simpa using h)
  simpa using this
end

end Go.Proofs.Ytjpkpckgkhbfpaa
